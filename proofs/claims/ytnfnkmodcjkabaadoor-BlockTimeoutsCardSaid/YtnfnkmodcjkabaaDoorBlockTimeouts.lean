/-
  BlockTimeouts: the law says true of every timeout.
-/
import Derived.Test.YtnfnkmodcjkabaaDoorArgTmo
import Derived.Test.YtnfnkmodcjkabaaDoorBlockAlive
set_option linter.unusedVariables false
set_option linter.unusedSimpArgs false
namespace Go.Proofs.YtnfnkmodcjkabaaDoor
open Go Go.Abs Go.Proofs
set_option maxRecDepth 100000
attribute [local irreducible] AEnd AW ACalls

@[simp] theorem Tmo.aeqSigned (t : Tmo) : aeq Tryd.prog 38 (.agg t.signed) (.agg t.signed) = some true := by
  simp [Go.Abs.aeq, Tmo.signed, fitsAll, CK.fits, ceqs, ceq]
theorem timeouts_law (H : AH) (t : Tmo) : ACalls Tryd.prog 4 [.agg t.cells] H fun r H' => r = .b true := by
  refine ACalls_body Tryd.func4 rfl rfl ?_
  refine AW_seq ?_
  refine AW_reg [1] fun K hK => ?_ -- region 0
  simp [init_eq, V.cells]
  obtain ⟨H1, e1, hp, hn, ho⟩ := H.boxed t.cells
  rw [e1]
  refine hK _ _ ?_; clear hK K
  refine AW_seq ?_
  refine AW_seq ?_
  refine AW_reg [1, 5] fun K hK => ?_ -- region 1
  simp [init_eq]
  refine ACalls.mono (alive_ok ..) fun r H' ⟨hr, e⟩ => ?_ -- hallmoot/hallmootlaw12.alive
  subst hr e
  simp
  refine hK _ _ ?_; clear hK K
  refine AW_cond' rfl rfl (fun hc => ?_) (fun hc => ?_)
  · cases hc
  · refine AW_skip ?_
    refine AW_seq ?_
    refine AW_reg [1, 3] fun K hK => ?_ -- region 3
    simp [init_eq, aload, hp, tmo_take]
    refine ACalls.mono (btimeout_ok ..) fun r H' ⟨hr, e⟩ => ?_ -- hallmoot/block.Timeout
    subst hr e
    try simp
    refine hK _ _ ?_; clear hK K
    refine AW_seq ?_
    refine AW_regd [2] pl_4_4 pe_4_4 (by kernel_rfl) (by kernel_rfl) (by decide) fun K hK => ?_
    simp [init_eq, pl_4_4, aload, hp, tmo_take]
    refine ACalls.mono (rtimeout_ok ..) fun r H' ⟨hr, e⟩ => ?_ -- hallmoot/hallmootref12.Timeout
    subst hr e
    cases hk : t.ok
    all_goals
      simp [aload, hp, tmo_take]
      refine ACalls.mono (bsigned_ok ..) fun r H' ⟨hr, e⟩ => ?_ -- hallmoot/block.Signed
      subst hr e
      simp [aload, hp, tmo_take]
      refine ACalls.mono (rsigned_ok ..) fun r H' ⟨hr, e⟩ => ?_ -- hallmoot/hallmootref12.Signed
      subst hr e
      simp
      refine hK _ _ ?_; clear hK K
      refine AW_ret (end_ret rfl ?_)
      simp
theorem blockTimeouts_law (H : AH) (vs : List V) (hv : TVals Tryd.prog H Tryd.f4.params.toList vs) : ACalls Tryd.prog 4 vs H fun r _ => r = .b true := by
  have hv' : TVals Tryd.prog H [43] vs := hv
  clear hv
  rcases vs with _ | ⟨a, _ | ⟨z, r⟩⟩
  · exact hv'.elim
  · obtain ⟨l, rfl, _, h⟩ := hv'.1.struct Tryd.underlying43 cellsOf_43
    obtain ⟨t, rfl⟩ := tv_tmo h
    exact timeouts_law H t
  · exact hv'.2.elim
end Go.Proofs.YtnfnkmodcjkabaaDoor
