import Derived.Test.YtaidfojbnfkclaaGreatDoorVote2
set_option linter.unusedVariables false
set_option linter.unusedSimpArgs false
namespace Go.Proofs.YtaidfojbnfkclaaGreatDoor
open Go Go.Abs Go.Proofs
set_option maxRecDepth 100000
attribute [local irreducible] AEnd AW ACalls
def againB (s:SSt) (n:Int) (b:Blk):Bool:=if b.height = 0 then decide (s.view = b.view) && decide (s.round = b.round) && decide (s.block = n) else decide (s.fell b.author = (castC 0 n b).plain)
theorem again_ok (H:AH) {s:SSt} {fv hv pv bv:V} {k:Nat} (b:Blk) (pb tb:V) (ha:SAt H s fv hv pv bv) (ok:s.Ok k) (hk:k ≤ 1000000) (n:Int) :
  ACalls Tryz.prog 15 [.agg (s.cells fv hv pv bv),.i .i64 n,.agg (b.cells pb tb)] H fun v H'=>v = .b (againB s n b) ∧ H' = H:=by
 refine ACalls.pure (Q:=fun v=>v = .b (againB s n b)) ⟨_,Tryz.func15,rfl,rfl⟩ ?_
 refine ACalls_body Tryz.func15 rfl rfl ?_
 refine AW_seq ?_
 refine AW_reg [1,3,5] fun K hK=>?_
 simp [init_eq,V.cells]
 obtain ⟨H1,e1,g1,g2,n1,o1⟩:=H.boxed2 (s.cells fv hv pv bv) (b.cells pb tb)
 rw [e1]
 have u1:Upd H H1 []:=⟨by omega,fun j hj _=>o1 j hj⟩
 apply hK;clear hK K
 refine AW_seq ?_
 refine AW_seq ?_
 refine AW_reg [1,3,5,9] fun K hK=>?_
 simp [init_eq,aload,afieldAddr,g2]
 apply hK;clear hK K
 refine AW_cond' rfl rfl (fun hc=>?_) (fun hc=>?_)
 · have hh:b.height = 0:=by simpa using hc
   have hA:againB s n b = (decide (s.view = b.view) && decide (s.round = b.round) && decide (s.block = n)):=by unfold againB; rw [if_pos hh]
   refine AW_seq ?_
   refine AW_regto [6] ⟨37,[(6,.b (againB s n b))]⟩ H1 (fun K hk=>?_) (AW_ret (end_ret rfl ⟨rfl,rfl,by omega,fun j hj=>o1 j hj⟩))
   rw [hA] at hk
   by_cases z1:s.view = b.view
   · by_cases z2:s.round = b.round
     · simpa [init_eq,aload,afieldAddr,g1,g2,z1,z2] using hk
     · simpa [init_eq,aload,afieldAddr,g1,g2,z1,z2] using hk
   · simpa [init_eq,aload,afieldAddr,g1,g2,z1] using hk
 · have hh:b.height ≠ 0:=by simpa using hc
   have hA:againB s n b = decide (s.fell b.author = (castC 0 n b).plain):=by unfold againB; rw [if_neg hh]
   refine AW_skip ?_
   refine AW_seq ?_
   refine AW_regd [6] pl_15_3 pe_15_3 (by kernel_rfl) (by kernel_rfl) (by decide) fun K hK=>?_
   simp [init_eq,pl_15_3,aload,afieldAddr,g1,g2,SSt.take,blk_take]
   refine ACalls.mono (fell_ok H1 (ha.upd u1) ok (by omega) b.author) fun v H' ⟨hr,e⟩=>?_
   subst hr
   rw [e]
   refine ⟨AH.ext.refl _,?_⟩
   refine ACalls.mono (cast_ok H1 0 n b pb tb) fun v H' ⟨hr,e⟩=>?_
   subst hr
   rw [e]
   try (refine ⟨AH.ext.refl _,?_⟩)
   refine ACalls.mono (plain_ok H1 (castC 0 n b)) fun v H' ⟨hr,e⟩=>?_
   subst hr
   rw [e]
   try (refine ⟨AH.ext.refl _,?_⟩)
   try simp
   apply hK;clear hK K
   exact AW_ret (end_ret rfl ⟨by simp [hA],rfl,by omega,fun j hj=>o1 j hj⟩)
end Go.Proofs.YtaidfojbnfkclaaGreatDoor
