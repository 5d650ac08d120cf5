/-
  Arguments of the states' laws: records; Great,far,New.
-/
import Derived.Test.YtaidfojbnfkclaaGreatDoorSaf9
set_option linter.unusedVariables false
set_option linter.unusedSimpArgs false
namespace Go.Proofs.YtaidfojbnfkclaaGreatDoor
open Go Go.Abs Go.Proofs
set_option maxRecDepth 100000
attribute [local irreducible] AEnd AW ACalls
theorem tv_srec {H:AH} {n:Nat} {l:List V} (h:TV Tryz.prog H (n + 3) 52 l):∃ r:SRec,l = r.cells:=by
 obtain ⟨x0,e0,_⟩:=(h.fld Tryz.underlying52 0 rfl rfl rfl cellsOf_3).int Tryz.underlying3
 obtain ⟨c1,e1⟩:=tv_cert (h.fld Tryz.underlying52 1 rfl rfl rfl cellsOf_24)
 obtain ⟨c2,e2⟩:=tv_cert (h.fld Tryz.underlying52 2 rfl rfl rfl cellsOf_24)
 obtain ⟨x3,e3,b3⟩:=(h.fld Tryz.underlying52 3 rfl rfl rfl cellsOf_22).int Tryz.underlying22
 obtain ⟨x4,e4,_⟩:=(h.fld Tryz.underlying52 4 rfl rfl rfl cellsOf_3).int Tryz.underlying3
 obtain ⟨x5,e5,_⟩:=(h.fld Tryz.underlying52 5 rfl rfl rfl cellsOf_3).int Tryz.underlying3
 obtain ⟨x6,e6,_⟩:=(h.fld Tryz.underlying52 6 rfl rfl rfl cellsOf_3).int Tryz.underlying3
 obtain ⟨x7,e7,_⟩:=(h.fld Tryz.underlying52 7 rfl rfl rfl cellsOf_9).str Tryz.underlying9
 obtain ⟨s3,g3⟩:=u32_of b3.1 b3.2
 have hl:=h.size Tryz.underlying52 cellsOf_52
 refine ⟨⟨x0,c1,c2,s3,x4,x5,x6,x7⟩,?_⟩
 have hl:l.length = 22:=hl
 have e0:(l.drop 0).take 1 = [.i .i64 x0]:=e0
 have e1:(l.drop 1).take 8 = c1.cells:=e1
 have e2:(l.drop 9).take 8 = c2.cells:=e2
 have e3:(l.drop 17).take 1 = [.i .u32 x3]:=e3
 have e4:(l.drop 18).take 1 = [.i .i64 x4]:=e4
 have e5:(l.drop 19).take 1 = [.i .i64 x5]:=e5
 have e6:(l.drop 20).take 1 = [.i .i64 x6]:=e6
 have e7:(l.drop 21).take 1 = [.s x7]:=e7
 have cut:∀ n m,l.drop n = (l.drop n).take m ++ l.drop (n + m):=fun n m=>by
  rw [← List.drop_drop,List.take_append_drop]
 have d22:l.drop 22 = []:=List.drop_eq_nil_of_le (by omega)
 have d:l = l.drop 0:=rfl
 rw [d,cut 0 1,cut (0 + 1) 8,cut (0 + 1 + 8) 8,cut (0 + 1 + 8 + 8) 1,cut (0 + 1 + 8 + 8 + 1) 1,cut (0 + 1 + 8 + 8 + 1 + 1) 1,cut (0 + 1 + 8 + 8 + 1 + 1 + 1) 1,cut (0 + 1 + 8 + 8 + 1 + 1 + 1 + 1) 1]
 show (l.drop 0).take 1 ++ ((l.drop 1).take 8 ++ ((l.drop 9).take 8 ++ ((l.drop 17).take 1 ++ ((l.drop 18).take 1 ++ ((l.drop 19).take 1 ++ ((l.drop 20).take 1 ++ ((l.drop 21).take 1 ++ l.drop 22))))))) = _
 rw [e0,e1,e2,e3,e4,e5,e6,e7,d22,g3]
 rfl
theorem sgreat_ok (H:AH) (r:SRec):ACalls Tryz.prog 33 [.agg r.cells] H fun v H'=>v = .b (decide (5000 < r.text.length)) ∧ H' = H:=by
 refine ACalls.pure (Q:=fun v=>v = .b (decide (5000 < r.text.length))) ⟨_,Tryz.func33,rfl,rfl⟩ ?_
 refine ACalls_body Tryz.func33 rfl rfl ?_
 refine AW_seq ?_
 refine AW_reg [1] fun K hK=>?_
 simp [init_eq,V.cells]
 apply hK;clear hK K
 obtain ⟨G,e1,g1,gn,go⟩:=H.boxed r.cells
 rw [e1]
 have f7:afieldAddr Tryz.prog 52 7 (.p (some (H.next,0,0))) = some (.p (some (H.next,0,21))):=by simp [afieldAddr]
 repeat refine AW_seq ?_
 refine AW_reg [2] fun K hK=>?_
 simp [init_eq,f7,rec_at g1,alen]
 apply hK;clear hK K
 exact AW_ret (end_ret rfl ⟨by simp; omega,rfl,by omega,go⟩)
def SSt.start (last:Int):SSt:={ SSt.zero with last:=last,view:=1 }
def lastOk (last:Int):Bool:=decide (1 ≤ last) && decide (last ≤ 1048576)
theorem snew_ok (H:AH) (last:Int):ACalls Tryz.prog 23 [.i .i64 last] H fun v H' =>
  v = (if lastOk last then .tup [.agg ((SSt.start last).cells nilV nilV nilV nilV),.i .i64 0] else .tup [.agg zeroS,.i .i64 1]) ∧ H' = H:=by
 refine ACalls.pure (Q:=fun v=>v = (if lastOk last then .tup [.agg ((SSt.start last).cells nilV nilV nilV nilV),.i .i64 0] else .tup [.agg zeroS,.i .i64 1])) ⟨_,Tryz.func23,rfl,rfl⟩ ?_
 refine ACalls_body Tryz.func23 rfl rfl ?_
 refine AW_seq ?_
 refine AW_reg [0,2] fun K hK=>?_
 simp [init_eq,V.cells]
 obtain ⟨G,e1,g1,gn,go⟩:=H.boxed zeroS
 change K _ (H.new (.cells zeroS 0 false 0))
 rw [e1]
 apply hK;clear hK K
 have hst:∀ s:SSt,astore Tryz.prog G 42 (.p (some (H.next,0,0))) (.agg (s.cells nilV nilV nilV nilV)) = some (G.set H.next (.cells (s.cells nilV nilV nilV nilV) 0 false 0)):=fun s=>safe_store g1 s _ _ _ _
 have hend:∀ s:SSt,H.next ≤ (G.set H.next (.cells (s.cells nilV nilV nilV nilV) 0 false 0)).next ∧ ∀ j,j < H.next → (G.set H.next (.cells (s.cells nilV nilV nilV nilV) 0 false 0)).get j = H.get j:=fun s=>⟨by simp; omega,fun j hj=>by rw [AH.get_set_ne (by omega)]; exact go j hj⟩
 refine AW_seq ?_
 refine AW_cutto ⟨13,[(0,.i .i64 last),(2,.p (some (H.next,0,0))),(9,.b (!lastOk last))]⟩ G ?_ ?_
 · refine AW_regto [0,2,9] ⟨13,[(0,.i .i64 last),(2,.p (some (H.next,0,0))),(9,.b (!lastOk last))]⟩ G (fun K hk=>?_) (rend ⟨rfl,rfl⟩)
   by_cases h1:last < 1
   · have h2:lastOk last = false:=by simp [lastOk]; omega
     simpa [init_eq,h1,h2] using hk
   · have h2:(!lastOk last) = decide (1048576 < last):=by
       rw [Bool.eq_iff_iff]; simp [lastOk]; omega
     simpa [init_eq,h1,h2] using hk
 refine AW_cond' rfl rfl (fun hc=>?_) (fun hc=>?_)
 · have h0:lastOk last = false:=by simpa using hc
   refine AW_seq ?_
   refine AW_reg [2,3] fun K hK=>?_
   have hz:astore Tryz.prog G 42 (.p (some (H.next,0,0))) (.agg zeroS) = some (G.set H.next (.cells zeroS 0 false 0)):=hst SSt.zero
   simp [init_eq,bzS,hz]
   apply hK;clear hK K
   have:=hend SSt.zero
   exact AW_ret (end_ret (ares_cell_tmp (v:=.agg zeroS) (by simp [aload,AH.get_set_same (AH.get_lt g1)]; exact ⟨by decide,rfl⟩)) ⟨by rw [h0]; rfl,rfl,this⟩)
 · have h0:lastOk last = true:=by simpa using hc
   refine AW_skip ?_
   refine AW_seq ?_
   have hb:abuild Tryz.prog 42 [(0,.i .i64 last),(1,.i .i64 1)] = some (.agg ((SSt.start last).cells nilV nilV nilV nilV)):=by
    simp [abuild,afill,V.cells]
    exact ⟨by simp [splice],rfl⟩
   refine AW_reg [2,3] fun K hK=>?_
   simp [init_eq,hb,hst]
   apply hK;clear hK K
   have:=hend (SSt.start last)
   exact AW_ret (end_ret (ares_cell_tmp (v:=.agg ((SSt.start last).cells nilV nilV nilV nilV)) (by simp [aload,AH.get_set_same (AH.get_lt g1),SSt.take])) ⟨by rw [h0]; rfl,rfl,this⟩)
theorem start_ok {last:Int} (h:lastOk last = true):(SSt.start last).Ok 0:=by
 simp [lastOk] at h
 exact ⟨List.Pairwise.nil,(fun c h=>by cases h),Nat.le_refl _,List.Pairwise.nil,(fun c h=>by cases h),Nat.le_refl _,Nat.le_refl _,Nat.zero_le _,Nat.zero_le _,Nat.zero_le _,Nat.zero_le _,Int.le_refl _,h.1,h.2,rfl⟩
theorem doR_zero {s:SSt} {r:SRec} (h:(s.doR r).2 = 0):r.form = 0 ∧ s.mayE r = 0 ∧ s.doR r = (s.act r,0):=by
 unfold SSt.doR at h ⊢
 by_cases h1:r.form = 0
 · by_cases h2:s.mayE r = 0
   · simp [h1,h2]
   · simp [h1,h2] at h
 · simp [h1] at h
end Go.Proofs.YtaidfojbnfkclaaGreatDoor
