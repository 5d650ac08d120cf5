import Derived.Test.YtaidfojbnfkclaaGreatDoorMade3
import Derived.Test.YtaidfojbnfkclaaGreatDoorCmp2
set_option linter.unusedVariables false
set_option linter.unusedSimpArgs false
namespace Go.Proofs.YtaidfojbnfkclaaGreatDoor
open Go Go.Abs Go.Proofs
set_option maxRecDepth 100000
attribute [local irreducible] AEnd AW ACalls
def tmo0:List V:=[.i .i64 0,.i .i64 0,.i .i64 0,.i .i64 0,.i .i64 0,.i .i64 0,.i .i64 0,.i .i64 0,u32 0#32,u32 0#32]
theorem tmo_put (M:AH) (t:Tmo):astore Tryz.prog (M.new (.cells tmo0 0 false 0)) 68 (.p (some (M.next,0,0))) (.agg t.cells) = some ((M.new (.cells tmo0 0 false 0)).set M.next (.cells t.cells 0 false 0)):=by
 simp [astore,AH.get_new,V.cells,show splice tmo0 0 t.cells = t.cells from splice_all rfl,show tmo0.length = 10 from rfl]
theorem ahead_ok (H:AH) {s:SSt} {fv hv pv bv tv:V} (ts:List Tmo) (ht:RS H tv 10 (ts.map Tmo.cells)) (hl:ts.length ≤ 1000000000) :
  ACalls Tryz.prog 55 [.agg (s.cells fv hv pv bv),tv] H fun r H'=>∃ c:Cert,r = .agg c.cells ∧ (∀ t ∈ ts,0 ≤ cmpC c t.high) ∧ Upd H H' []:=by
 refine ACalls_body Tryz.func55 rfl rfl ?_
 refine AW_seq ?_
 refine AW_reg [1,2,4] fun K hK=>?_
 simp [init_eq,V.cells]
 obtain ⟨G0,e0,g0,g1,n0,o0⟩:=H.boxed2 (s.cells fv hv pv bv) Cert.zero.cells
 change K _ ((H.new (.cells (s.cells fv hv pv bv) 0 false 0)).new (.cells Cert.zero.cells 0 false 0))
 rw [e0]
 apply hK;clear hK K
 refine AW_seq ?_
 refine AW_reg [1,2,4,5] fun K hK=>?_
 simp [init_eq,V.cells]
 obtain ⟨G,e1,g2,n1,o1⟩:=G0.boxed Cert.zero.cells
 change K _ (G0.new (.cells Cert.zero.cells 0 false 0))
 rw [e1]
 apply hK;clear hK K
 rw [n0] at g2 ⊢
 have g0:=(o1 H.next (by omega)).trans g0
 have g1:=(o1 (H.next + 1) (by omega)).trans g1
 have u1:Upd H G []:=⟨by omega,fun j hj _=>by rw [o1 j (by omega)]; exact o0 j hj⟩
 have htG:=ht.upd u1
 have la:=htG.alen (P:=Tryz.prog) qelem_25 G
 refine AW_seq ?_
 refine AW_seq ?_
 refine AW_reg [2,4,5,8,9,10] fun K hK=>?_
 simp [init_eq,la]
 apply hK;clear hK K
 refine AW_block ?_
 refine AW_loopx (fun i:Nat=>⟨42,[(2,.p (some (H.next,0,0))),(4,.p (some (H.next + 1,0,0))),(5,.p (some (H.next + 2,0,0))),(8,tv),(9,.i .i64 ts.length),(10,.i .i64 i)]⟩)
  (fun i M=>Upd H M [] ∧ M.get H.next = some (.cells (s.cells fv hv pv bv) 0 false 0) ∧ M.get (H.next + 1) = some (.cells Cert.zero.cells 0 false 0) ∧ i ≤ ts.length ∧ ∃ c:Cert,M.get (H.next + 2) = some (.cells c.cells 0 false 0) ∧ ∀ t ∈ ts.take i,0 ≤ cmpC c t.high)
  (fun i=>ts.length - i) 0 (by simp) ⟨u1,g0,g1,Nat.zero_le _,Cert.zero,g2,by simp⟩ fun i M ⟨uM,m0,m1,hi,c,m2,hc'⟩=>?_
 have htM:=ht.upd uM
 refine AW_seq ?_
 refine AW_reg [2,4,5,8,9,10,11] fun K hK=>?_
 simp [init_eq]
 apply hK;clear hK K
 refine AW_seq ?_
 refine AW_cond' rfl rfl (fun hc=>?_) (fun hc=>?_)
 · have hlt:i < ts.length:=by simpa using hc
   obtain ⟨ax,q1,q2⟩:=htM.rec Tmo.len (by decide) (P:=Tryz.prog) qelem_25 qsize_68 qagg_68 hlt
   refine AW_skip ?_
   refine AW_seq ?_
   refine AW_block ?_
   refine AW_seq ?_
   refine AW_reg [2,4,5,6,7,8,9,10] fun K hK=>?_
   simp [init_eq,q1,q2]
   refine ⟨_,tmo_put M ts[i],?_⟩
   obtain ⟨N,eN,gt,nN,oN⟩:=boxS M tmo0 ts[i].cells
   rw [eN]
   apply hK;clear hK K
   have uN:Upd M N []:=⟨by omega,fun j hj _=>oN j hj⟩
   have l5:aload Tryz.prog N 24 (.p (some (H.next + 2,0,0))) = some (.agg c.cells):=by simp [aload,uN.keep (by simp) m2,take_cells]
   have lt:aload Tryz.prog N 24 (.p (some (M.next,0,2))) = some (.agg ts[i].high.cells):=by simp [aload,gt]; rfl
   have hu:Upd H N []:=uM.trans uN (by simp)
   refine AW_seq ?_
   refine AW_regto [2,4,5,7,8,9,10,23] ⟨42,[(2,.p (some (H.next,0,0))),(4,.p (some (H.next + 1,0,0))),(5,.p (some (H.next + 2,0,0))),(7,.p (some (M.next,0,0))),(8,tv),(9,.i .i64 ts.length),(10,.i .i64 i),(23,.b (decide (i = 0) || decide (cmpC c ts[i].high < 0)))]⟩ N (fun K hk=>?_) ?_
   · by_cases h0:i = 0
     · subst h0; simpa [init_eq] using hk
     · have h0':¬ (i:Int) = 0:=by omega
       simp [init_eq,h0',h0,afieldAddr,l5,lt]
       refine ACalls.mono (certCmp_ok N c ts[i].high) fun r H' ⟨hr,e⟩=>?_
       subst hr e
       simpa [h0] using hk
   refine AW_cond' rfl rfl (fun hb=>?_) (fun hb=>?_)
   · have hb:i = 0 ∨ cmpC c ts[i].high < 0:=by simpa using hb
     have hs5:astore Tryz.prog N 24 (.p (some (H.next + 2,0,0))) (.agg ts[i].high.cells) = some (N.set (H.next + 2) (.cells ts[i].high.cells 0 false 0)):=by
      simp [astore,uN.keep (by simp) m2,V.cells,show splice c.cells 0 ts[i].high.cells = ts[i].high.cells from splice_all rfl]
     refine AW_reg [2,4,5,8,9,10] fun K hK=>?_
     simp [init_eq,afieldAddr,lt,hs5]
     apply hK;clear hK K
     refine AW_reg [2,4,5,8,9,10] fun K hK=>?_
     simp [init_eq,wrap_id (x:=(i:Int) + 1) (by omega) (by omega)]
     apply hK;clear hK K
     have uS:Upd N (N.set (H.next + 2) (.cells ts[i].high.cells 0 false 0)) [H.next + 2]:=⟨by simp,fun j _ hj=>AH.get_set_ne (by simpa using hj) ..⟩
     have uHS:Upd H (N.set (H.next + 2) (.cells ts[i].high.cells 0 false 0)) []:=⟨by have:=hu.1; simp; omega,fun j hj h=>by rw [AH.get_set_ne (by omega)]; exact hu.2 j hj h⟩
     refine rend ⟨i + 1,by simp,⟨uHS,by rw [AH.get_set_ne (by omega)]; exact uN.keep (by simp) m0,by rw [AH.get_set_ne (by omega)]; exact uN.keep (by simp) m1,by omega,ts[i].high,AH.get_set_same (AH.get_lt (uN.keep (by simp) m2)),fun t hm=>?_⟩,by omega⟩
     rw [List.take_succ_eq_append_getElem hlt] at hm
     rcases List.mem_append.1 hm with hm | hm
     · rcases hb with h0 | h0
       · subst h0; simp at hm
       · exact cmpC_trans (cmpC_flip h0) (hc' t hm)
     · have:t = ts[i]:=by simpa using hm
       subst this; rw [cmpC_same]; decide
   · have hb:¬ i = 0 ∧ ¬ cmpC c ts[i].high < 0:=by simpa using hb
     refine AW_skip ?_
     refine AW_reg [2,4,5,8,9,10] fun K hK=>?_
     simp [init_eq,wrap_id (x:=(i:Int) + 1) (by omega) (by omega)]
     apply hK;clear hK K
     refine rend ⟨i + 1,by simp,⟨hu,uN.keep (by simp) m0,uN.keep (by simp) m1,by omega,c,uN.keep (by simp) m2,fun t hm=>?_⟩,by omega⟩
     rw [List.take_succ_eq_append_getElem hlt] at hm
     rcases List.mem_append.1 hm with hm | hm
     · exact hc' t hm
     · have:t = ts[i]:=by simpa using hm
       subst this; omega
 · have hi':i = ts.length:=by
     have:¬ i < ts.length:=by simpa using hc
     omega
   subst hi'
   rw [List.take_length] at hc'
   have l5:aload Tryz.prog M 24 (.p (some (H.next + 2,0,0))) = some (.agg c.cells):=by simp [aload,m2,take_cells]
   refine AW_exit (then_exit (then_exit (block_here ?_)))
   refine AW_seq ?_
   refine AW_seq ?_
   refine AW_regto [2,4,5,38] ⟨42,[(2,.p (some (H.next,0,0))),(4,.p (some (H.next + 1,0,0))),(5,.p (some (H.next + 2,0,0))),(38,.b (openB s.high s.view && decide (0 ≤ cmpC s.high c)))]⟩ M (fun K hk=>?_) ?_
   · simp [init_eq,afieldAddr,aload,m0]
     refine ACalls.mono (open_ok M s.high s.view) fun r H' ⟨hr,e⟩=>?_
     subst hr e
     cases hop:openB s.high s.view
     · simpa [hop] using hk
     · simp [hop,afieldAddr,aload,m0,m2,take_cells]
       refine ACalls.mono (certCmp_ok H' s.high c) fun r H2 ⟨hr,e⟩=>?_
       subst hr e
       simpa [hop] using hk
   have put:∀ x:Cert,astore Tryz.prog M 24 (.p (some (H.next + 1,0,0))) (.agg x.cells) = some (M.set (H.next + 1) (.cells x.cells 0 false 0)):=fun x=>by
    simp [astore,m1,V.cells,show splice Cert.zero.cells 0 x.cells = x.cells from splice_all rfl]
   have lE:∀ x:Cert,aload Tryz.prog (M.set (H.next + 1) (.cells x.cells 0 false 0)) 24 (.p (some (H.next + 1,0,0))) = some (.agg x.cells):=fun x=>by simp [aload,AH.get_set_same (AH.get_lt m1),take_cells]
   have uE:∀ x:Cert,Upd H (M.set (H.next + 1) (.cells x.cells 0 false 0)) []:=fun x=>⟨by have:=uM.1; simp; omega,fun j hj h=>by rw [AH.get_set_ne (by omega)]; exact uM.2 j hj h⟩
   refine AW_cond' rfl rfl (fun hb=>?_) (fun hb=>?_)
   · have hb:openB s.high s.view = true ∧ 0 ≤ cmpC s.high c:=by simpa using hb
     refine AW_seq ?_
     refine AW_reg [4] fun K hK=>?_
     simp [init_eq,afieldAddr,aload,m0,put]
     apply hK;clear hK K
     exact AW_ret (end_ret (ares_cell (lE s.high)) ⟨s.high,rfl,fun t h=>cmpC_trans hb.2 (hc' t h),uE _⟩)
   · refine AW_skip ?_
     refine AW_seq ?_
     refine AW_reg [4] fun K hK=>?_
     simp [init_eq,l5,put]
     apply hK;clear hK K
     exact AW_ret (end_ret (ares_cell (lE c)) ⟨c,rfl,hc',uE _⟩)
end Go.Proofs.YtaidfojbnfkclaaGreatDoor
