/-
  MsgSame: the law says true of every two messages.
-/
import Derived.Test.YtfhbdbjgmcopjaaDoorMsg2
import Derived.Test.YtfhbdbjgmcopjaaDoorMsgAlive
set_option linter.unusedVariables false
set_option linter.unusedSimpArgs false
namespace Go.Proofs.YtfhbdbjgmcopjaaDoor
open Go Go.Abs Go.Proofs
set_option maxRecDepth 100000
attribute [local irreducible] AEnd AW ACalls

theorem same_law (H : AH) {a b : Msg} {la pa ta lb pb tb : V} (ha : MsgAt H a la pa ta) (hb : MsgAt H b lb pb tb) : ACalls Tryd.prog 4 [.agg (a.cells la pa ta), .agg (b.cells lb pb tb)] H fun r H' => r = .b true := by
  refine ACalls_body Tryd.func4 rfl rfl ?_
  refine AW_seq ?_
  refine AW_reg [2, 3] fun K hK => ?_ -- region 0
  simp [init_eq, V.cells]
  obtain ⟨H1, e1, hp, hp2, hn, ho⟩ := H.boxed2 (a.cells la pa ta) (b.cells lb pb tb)
  rw [e1]
  refine hK _ _ ?_; clear hK K
  have ha1 := ha.same ho
  have hb1 := hb.same ho
  refine AW_seq ?_
  refine AW_seq ?_
  refine AW_reg [2, 3, 6] fun K hK => ?_ -- region 1
  simp [init_eq]
  refine ACalls.mono (alive_ok ..) fun r H' ⟨hr, e⟩ => ?_ -- hallmoot/hallmootlaw14.alive
  subst hr e
  simp
  refine hK _ _ ?_; clear hK K
  refine AW_cond' rfl rfl (fun hc => ?_) (fun hc => ?_)
  · cases hc
  refine AW_skip ?_
  refine AW_seq ?_
  refine AW_seq ?_
  refine AW_regto [2, 3, 12] ⟨25, [(2, .p (some (H.next, 0, 0))), (3, .p (some (H.next + 1, 0, 0))), (12, .b (a.great || b.great))]⟩ H' (fun K hk => ?_) ?_ -- region 3
  · simp [init_eq, aload, hp, msg_take]
    refine ACalls.mono (greatMsg_ok H' ha1) fun r H' ⟨hr, e⟩ => ?_
    subst hr e
    cases h1 : a.great
    · simp [aload, hp2, msg_take]
      refine ACalls.mono (greatMsg_ok H' hb1) fun r H' ⟨hr, e⟩ => ?_
      subst hr e
      simpa [h1] using hk
    · simpa [h1] using hk
  refine AW_cond' rfl rfl (fun hc => ?_) (fun hc => ?_)
  · refine AW_seq ?_
    refine AW_reg [4] fun K hK => ?_ -- region 4
    simp [init_eq]
    refine hK _ _ ?_; clear hK K
    refine AW_ret (end_ret rfl ?_)
    simp
  · have hg : a.great = false := by simp at hc; exact hc.1
    have hs := great_small hg
    have l0 : a.proof.length ≤ 1000000000 := by omega
    have l1 : a.blk.proof.length ≤ 1000000000 := by have := hs.2.1.pf; omega
    have l2 : a.blk.txs.length ≤ 1000000000 := by have := hs.2.1.tx; omega
    refine AW_skip ?_
    refine AW_seq ?_
    refine AW_regd [4] pl_4_5 pe_4_5 (by kernel_rfl) (by kernel_rfl) (by decide) fun K hK => ?_
    simp [init_eq, pl_4_5, aload, hp, hp2, msg_take]
    refine ACalls.mono (sameMsg_ok H' ha1 hb1 l0 l1 l2) fun r H' ⟨hr, e⟩ => ?_
    subst hr e
    simp [aload, hp, hp2, msg_take]
    refine ACalls.mono (rsameMsg_ok H' ha1 hb1 l0 l1 l2) fun r H' ⟨hr, e⟩ => ?_
    subst hr e
    simp [aload, hp, hp2, msg_take]
    refine ACalls.mono (sameMsg_ok H' ha1 ha1 l0 l1 l2) fun r H' ⟨hr, e⟩ => ?_
    subst hr e
    simp
    refine hK _ _ ?_; clear hK K
    refine AW_ret (end_ret rfl ?_)
    simp
theorem msgSame_law (H : AH) (vs : List V) (hv : TVals Tryd.prog H Tryd.f4.params.toList vs) : ACalls Tryd.prog 4 vs H fun r _ => r = .b true := by
  have hv' : TVals Tryd.prog H [34, 34] vs := hv
  clear hv
  rcases vs with _ | ⟨a, _ | ⟨b, _ | ⟨z, r⟩⟩⟩
  · exact hv'.elim
  · exact hv'.2.elim
  · obtain ⟨l, rfl, _, h⟩ := hv'.1.struct Tryd.underlying34 cellsOf_34
    obtain ⟨x, la, pa, ta, rfl, ha⟩ := tv_msg h
    obtain ⟨l, rfl, _, h⟩ := hv'.2.1.struct Tryd.underlying34 cellsOf_34
    obtain ⟨y, lb, pb, tb, rfl, hb⟩ := tv_msg h
    exact same_law H ha hb
  · exact hv'.2.2.elim
end Go.Proofs.YtfhbdbjgmcopjaaDoor
