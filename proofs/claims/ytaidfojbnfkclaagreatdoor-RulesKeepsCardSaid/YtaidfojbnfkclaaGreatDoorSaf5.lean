/-
  mayOwn: the error of an own block that may not be.
-/
import Derived.Test.YtaidfojbnfkclaaGreatDoorSaf4
set_option linter.unusedVariables false
set_option linter.unusedSimpArgs false
namespace Go.Proofs.YtaidfojbnfkclaaGreatDoor
open Go Go.Abs Go.Proofs
set_option maxRecDepth 100000
attribute [local irreducible] AEnd AW ACalls
def SSt.ownAt (s:SSt) (h:Int):List UInt8:=if h = 0 then s.own0 else if h = 1 then s.own1 else if h = 2 then s.own2 else s.own3
theorem own_addr {sid:Nat} {h:Int} (h0:0 ≤ h ∧ h ≤ 3):aindexAddr Tryz.prog 38 (.p (some (sid,0,24))) (.i .i64 h) = some (.p (some (sid,0,24 + h.toNat))):=by
 have:h = 0 ∨ h = 1 ∨ h = 2 ∨ h = 3:=by omega
 rcases this with rfl | rfl | rfl | rfl <;> simp [aindexAddr]
theorem own_cell (s:SSt) (fv hv pv bv:V) {h:Int} (h0:0 ≤ h ∧ h ≤ 3):(s.cells fv hv pv bv)[24 + h.toNat]? = some (.s (s.ownAt h)):=by
 have:h = 0 ∨ h = 1 ∨ h = 2 ∨ h = 3:=by omega
 rcases this with rfl | rfl | rfl | rfl <;> rfl
def SSt.mayOwnE (s:SSt) (r:SRec):Int :=
 let b:=(parseBlk r.text).1
 let was:=parseBlk (s.ownAt b.height)
 if b.view ≠ s.view then 210 else if 0 < b.height ∧ was.2 = 0 then 220 else if b.height = 0 ∧ was.2 = 0 ∧ b.round ≤ was.1.round then 211 else 0
theorem boxS (G:AH) (z l:List V):∃ M,(G.new (.cells z 0 false 0)).set G.next (.cells l 0 false 0) = M ∧ M.get G.next = some (.cells l 0 false 0) ∧ M.next = G.next + 1 ∧ ∀ j,j < G.next → M.get j = G.get j :=
 ⟨_,rfl,AH.get_set_same (by simp),by simp,fun j hj=>by rw [AH.get_set_ne (by omega),AH.get_new,if_neg (by omega)]⟩
theorem blk_store (G:AH) (b:Blk) (pv tv:V) (l:List V) (hl:l.length = 14):astore Tryz.prog (G.new (.cells l 0 false 0)) 28 (.p (some (G.next,0,0))) (.agg (b.cells pv tv)) = some ((G.new (.cells l 0 false 0)).set G.next (.cells (b.cells pv tv) 0 false 0)):=by
 simp [astore,V.cells,AH.get_new,show splice l 0 (b.cells pv tv) = b.cells pv tv from splice_all hl,hl]
theorem blk_store' {G:AH} {q:Nat} {l:List V} (hq:G.get q = some (.cells l 0 false 0)) (hl:l.length = 14) (b:Blk) (pv tv:V):astore Tryz.prog G 28 (.p (some (q,0,0))) (.agg (b.cells pv tv)) = some (G.set q (.cells (b.cells pv tv) 0 false 0)):=by
 simp [astore,V.cells,hq,show splice l 0 (b.cells pv tv) = b.cells pv tv from splice_all hl,hl]
theorem mayOwn_ok (H:AH) {sid rid:Nat} {s:SSt} {fv hv pv bv:V} {r:SRec} (hst:H.get sid = some (.cells (s.cells fv hv pv bv) 0 false 0)) (hrc:H.get rid = some (.cells r.cells 0 false 0))
  (hl:r.text.length ≤ 100000000000) (hh:0 ≤ (parseBlk r.text).1.height ∧ (parseBlk r.text).1.height ≤ 3) (ho:∀ h,(s.ownAt h).length ≤ 100000000000) :
  ACalls Tryz.prog 94 [.p (some (sid,0,0)),.p (some (rid,0,0))] H fun v H'=>v = .i .i64 (s.mayOwnE r) ∧ H' = H:=by
 refine ACalls.pure (Q:=fun v=>v = .i .i64 (s.mayOwnE r)) ⟨_,Tryz.func94,rfl,rfl⟩ ?_
 refine ACalls_body Tryz.func94 rfl rfl ?_
 refine AW_seq ?_
 refine AW_reg [0,1] fun K hK=>?_
 simp [init_eq]
 apply hK;clear hK K
 refine AW_seq ?_
 refine AW_reg [0,5] fun K hK=>?_
 simp [init_eq,aload,afieldAddr,hrc]
 refine ACalls.mono (parse_ok H r.text hl) fun v H1 ⟨pv1,tv1,hr,ha1,u1⟩=>?_
 subst hr
 simp [V.cells]
 refine ⟨_,blk_store H1 _ pv1 tv1 _ rfl,?_⟩
 obtain ⟨M1,e1,hp1,hn1,ho1⟩:=boxS H1 [V.i .i64 0,.i .i64 0,.i .i64 0,.i .i64 0,.i .i64 0,.i .i64 0,.i .i64 0,.i .i64 0,.i .i64 0,.i .i64 0,u32 0#32,u32 0#32,.sl none 0 false,.sl none 0 false] ((parseBlk r.text).1.cells pv1 tv1)
 rw [e1]
 generalize hbe:(parseBlk r.text).1 = b at *
 have uM1:Upd H M1 []:=u1.trans (G:=[]) ⟨by omega,fun j hj _=>ho1 j hj⟩ (by simp)
 have hst1:=uM1.keep (by simp) hst
 have hcell:=own_cell s fv hv pv bv hh
 apply hK;clear hK K
 have hlt1:=AH.get_lt hp1
 have hlts:=AH.get_lt hst1
 refine AW_cut (fun ρ' G=>∃ q pv2 tv2,ρ' = ⟨60,[(0,.p (some (sid,0,0))),(5,.p (some (H1.next,0,0))),(7,.p (some (q,0,0))),(8,.i .i64 (parseBlk (s.ownAt b.height)).2)]⟩ ∧
  G.get q = some (.cells ((parseBlk (s.ownAt b.height)).1.cells pv2 tv2) 0 false 0) ∧ Upd M1 G []) ?_ ?_
 · refine AW_regd [0,5,7,8] pl_94_2 pe_94_2 (by kernel_rfl) (by kernel_rfl) (by decide) fun K hK=>?_
   simp [init_eq,pl_94_2,aload,afieldAddr,hp1,hst1,own_addr hh,hcell,V.cells,AH.get_new,Nat.ne_of_lt hlt1,Nat.ne_of_lt hlts]
   refine ⟨?_,?_⟩
   · refine ACalls.mono (parse_ok M1 (s.ownAt b.height) (ho _)) fun v H2 ⟨pv2,tv2,hr,ha2,u2⟩=>?_
     subst hr
     refine ⟨u2.ext,?_⟩
     simp
     refine ⟨_,blk_store H2 _ pv2 tv2 _ rfl,?_⟩
     obtain ⟨M2,e2,hp2,hn2,ho2⟩:=boxS H2 [V.i .i64 0,.i .i64 0,.i .i64 0,.i .i64 0,.i .i64 0,.i .i64 0,.i .i64 0,.i .i64 0,.i .i64 0,.i .i64 0,u32 0#32,u32 0#32,.sl none 0 false,.sl none 0 false] ((parseBlk (s.ownAt b.height)).1.cells pv2 tv2)
     rw [e2]
     exact hK _ _ (rend ⟨_,by simp,_,pv2,tv2,rfl,hp2,u2.trans (G:=[]) ⟨by omega,fun j hj _=>ho2 j hj⟩ (by simp)⟩)
   · generalize hN:M1.new (.cells [V.i .i64 0,.i .i64 0,.i .i64 0,.i .i64 0,.i .i64 0,.i .i64 0,.i .i64 0,.i .i64 0,.i .i64 0,.i .i64 0,u32 0#32,u32 0#32,.sl none 0 false,.sl none 0 false] 0 false 0) = N
     have hNg:N.get M1.next = some (.cells [V.i .i64 0,.i .i64 0,.i .i64 0,.i .i64 0,.i .i64 0,.i .i64 0,.i .i64 0,.i .i64 0,.i .i64 0,.i .i64 0,u32 0#32,u32 0#32,.sl none 0 false,.sl none 0 false] 0 false 0):=by rw [← hN]; exact AH.get_new_same ..
     have uN:Upd M1 N []:=by rw [← hN]; exact Upd.new ..
     refine ACalls.mono (parse_ok N (s.ownAt b.height) (ho _)) fun v H2 ⟨pv2,tv2,hr,ha2,u2⟩=>?_
     subst hr
     refine ⟨u2.ext,?_⟩
     have hq2:=u2.keep (by simp) hNg
     simp [blk_store' hq2]
     refine hK _ _ (rend ⟨_,by simp,_,pv2,tv2,rfl,AH.get_set_same (AH.get_lt hq2),?_⟩)
     refine ⟨by have:=uN.1; have:=u2.1; simp; omega,fun j hj _=>?_⟩
     rw [AH.get_set_ne (by omega),u2.2 j (by have:=uN.1; omega) (by simp),uN.2 j hj (by simp)]
 · rintro ρ' G ⟨q,pv2,tv2,rfl,hq,uG⟩
   have hb:=uG.keep (by simp) hp1
   have hs:=uG.keep (by simp) hst1
   have uE:Upd H G []:=uM1.trans uG (by simp)
   generalize hwe:parseBlk (s.ownAt b.height) = was at hq ⊢
   have hend:∀ x:Int,x = s.mayOwnE r → (V.i .i64 x = .i .i64 (s.mayOwnE r)) ∧ V.lt H.next (.i .i64 x) = true ∧ H.next ≤ G.next ∧ ∀ j,j < H.next → G.get j = H.get j:=fun x hx=>⟨by rw [hx],rfl,uE.1,fun j hj=>uE.2 j hj (by simp)⟩
   have hE:s.mayOwnE r = if b.view ≠ s.view then 210 else if 0 < b.height ∧ was.2 = 0 then 220 else if b.height = 0 ∧ was.2 = 0 ∧ b.round ≤ was.1.round then 211 else 0:=by
    simp only [SSt.mayOwnE,hbe,hwe]
   refine AW_seq ?_
   refine AW_seq ?_
   refine AW_reg [0,5,7,9] fun K hK=>?_
   simp [init_eq]
   apply hK;clear hK K
   refine AW_block ?_
   refine AW_seq ?_
   refine AW_regd [5,7,9,31] pl_94_4 pe_94_4 (by kernel_rfl) (by kernel_rfl) (by decide) fun K hK=>?_
   simp [init_eq,pl_94_4,afieldAddr,aload,hb,hs]
   apply hK;clear hK K
   refine AW_cond' rfl rfl (fun hc=>?_) (fun hc=>?_)
   · have hv:b.view ≠ s.view:=by simpa using hc
     refine AW_seq ?_
     refine AW_reg [4] fun K hK=>?_
     simp [init_eq]
     apply hK;clear hK K
     exact AW_ret (end_ret rfl (hend _ (by rw [hE,if_pos hv])))
   · have hv:¬ b.view ≠ s.view:=by simpa using hc
     rw [if_neg hv] at hE
     refine AW_cutto ⟨60,[(5,.p (some (H1.next,0,0))),(7,.p (some (q,0,0))),(9,.b (decide (was.2 = 0))),(39,.b (decide (0 < b.height ∧ was.2 = 0)))]⟩ G ?_ ?_
     · refine AW_regto [5,7,9,39] ⟨60,[(5,.p (some (H1.next,0,0))),(7,.p (some (q,0,0))),(9,.b (decide (was.2 = 0))),(39,.b (decide (0 < b.height ∧ was.2 = 0)))]⟩ G (fun K hk=>?_) (rend ⟨rfl,rfl⟩)
       by_cases h1:0 < b.height
       · simpa [init_eq,afieldAddr,aload,hb,h1] using hk
       · simpa [init_eq,afieldAddr,aload,hb,h1] using hk
     refine AW_cond' rfl rfl (fun hc=>?_) (fun hc=>?_)
     · have h6:0 < b.height ∧ was.2 = 0:=by simpa using hc
       refine AW_seq ?_
       refine AW_reg [4] fun K hK=>?_
       simp [init_eq]
       apply hK;clear hK K
       exact AW_ret (end_ret rfl (hend _ (by rw [hE,if_pos h6])))
     · have h6:¬ (0 < b.height ∧ was.2 = 0):=by simpa using hc
       rw [if_neg h6] at hE
       refine AW_cutto ⟨60,[(46,.b (decide (b.height = 0 ∧ was.2 = 0 ∧ b.round ≤ was.1.round)))]⟩ G ?_ ?_
       · refine AW_regto [46] ⟨60,[(46,.b (decide (b.height = 0 ∧ was.2 = 0 ∧ b.round ≤ was.1.round)))]⟩ G (fun K hk=>?_) (rend ⟨rfl,rfl⟩)
         by_cases h1:b.height = 0
         · by_cases h2:was.2 = 0
           · simpa [init_eq,afieldAddr,aload,hb,hq,h1,h2] using hk
           · simpa [init_eq,afieldAddr,aload,hb,hq,h1,h2] using hk
         · simpa [init_eq,afieldAddr,aload,hb,hq,h1] using hk
       refine AW_cond' rfl rfl (fun hc=>?_) (fun hc=>?_)
       · have h8:b.height = 0 ∧ was.2 = 0 ∧ b.round ≤ was.1.round:=by simpa using hc
         refine AW_seq ?_
         refine AW_reg [4] fun K hK=>?_
         simp [init_eq]
         apply hK;clear hK K
         exact AW_ret (end_ret rfl (hend _ (by rw [hE,if_pos h8])))
       · have h8:¬ (b.height = 0 ∧ was.2 = 0 ∧ b.round ≤ was.1.round):=by simpa using hc
         rw [if_neg h8] at hE
         refine AW_skip ?_
         refine AW_seq ?_
         refine AW_reg [4] fun K hK=>?_
         simp [init_eq]
         apply hK;clear hK K
         exact AW_ret (end_ret rfl (hend _ (by rw [hE])))
end Go.Proofs.YtaidfojbnfkclaaGreatDoor
