/-
  MsgForms: the law says true of every message.
-/
import Derived.Test.YtfhbdbjgmcopjaaGreatDoorMsg11
import Derived.Test.YtfhbdbjgmcopjaaGreatDoorMsg12
import Derived.Test.YtfhbdbjgmcopjaaGreatDoorMsgAlive
set_option linter.unusedVariables false
set_option linter.unusedSimpArgs false
namespace Go.Proofs.YtfhbdbjgmcopjaaGreatDoor
open Go Go.Abs Go.Proofs
set_option maxRecDepth 100000
attribute [local irreducible] AEnd AW ACalls

set_option maxHeartbeats 2000000 in
theorem forms_law (H : AH) {m : Msg} {lv pv tv : V} (hm : MsgAt H m lv pv tv) : ACalls Tryz.prog 3 [.agg (m.cells lv pv tv)] H fun r H' => r = .b true := by
  refine ACalls_body Tryz.func3 rfl rfl ?_
  refine AW_seq ?_
  refine AW_reg [1] fun K hK => ?_ -- region 0
  simp [init_eq, V.cells]
  obtain ⟨H1, e1, hp, hn, ho⟩ := H.boxed (m.cells lv pv tv)
  rw [e1]
  refine hK _ _ ?_; clear hK K
  have hm1 := hm.same ho
  refine AW_seq ?_
  refine AW_seq ?_
  refine AW_reg [1, 7] fun K hK => ?_ -- region 1
  simp [init_eq]
  refine ACalls.mono (alive_ok ..) fun r H' ⟨hr, e⟩ => ?_ -- hallmoot/hallmootlaw14.alive
  subst hr e
  simp
  refine hK _ _ ?_; clear hK K
  refine AW_cond' rfl rfl (fun hc => ?_) (fun hc => ?_)
  · cases hc
  refine AW_skip ?_
  refine AW_seq ?_
  refine AW_seq ?_
  refine AW_reg [1, 9] fun K hK => ?_ -- region 3
  simp [init_eq, aload, hp, msg_take]
  refine ACalls.mono (greatMsg_ok H' hm1) fun r H2 ⟨hr, e⟩ => ?_ -- hallmoot/hallmootref14.Great
  subst hr e
  try simp
  refine hK _ _ ?_; clear hK K
  refine AW_cond' rfl rfl (fun hc => ?_) (fun hc => ?_)
  · refine AW_seq ?_
    refine AW_reg [2] fun K hK => ?_ -- region 4
    simp [init_eq]
    refine hK _ _ ?_; clear hK K
    refine AW_ret (end_ret rfl ?_)
    simp
  have hf := great_fit hc
  have hs := great_small hc
  refine AW_skip ?_
  refine AW_seq ?_
  refine AW_reg [1, 3] fun K hK => ?_ -- region 5
  simp [init_eq, aload, hp, msg_take]
  refine ACalls.mono (mcheck_ok H2 hm1 hf) fun r H3 ⟨hr, e⟩ => ?_ -- hallmoot/msg.Check
  subst hr e
  try simp
  refine hK _ _ ?_; clear hK K
  refine AW_seq ?_
  refine AW_reg [1, 3, 4, 5] fun K hK => ?_ -- region 6
  simp [init_eq, aload, hp, msg_take]
  refine ACalls.mono (mbytes_ok H3 hm1 hf) fun r H4 ⟨hr, e⟩ => ?_ -- hallmoot/msg.Bytes
  subst hr e
  try simp
  refine hK _ _ ?_; clear hK K
  refine AW_seq ?_
  refine AW_seq ?_
  refine AW_reg [1, 3, 4, 5, 19] fun K hK => ?_ -- region 7
  simp [init_eq, aload, hp, msg_take]
  refine ACalls.mono (rmcheck_ok H4 hm1 hf hs.2.1 hs.2.2) fun r H5 ⟨hr, e⟩ => ?_ -- hallmoot/hallmootref14.Check
  subst hr e
  try simp
  refine hK _ _ ?_; clear hK K
  refine AW_cond' rfl rfl (fun hc => ?_) (fun hc => ?_)
  · have hno : m.ok = false := by simpa using hc
    have hw : m.wr = ([], 140) := by unfold Msg.wr; rw [if_neg (by simp [hno])]
    refine AW_seq ?_
    refine AW_regto [2] ⟨42, [(2, .b true)]⟩ H5 (fun K hk => ?_) (AW_ret (end_ret rfl rfl)) -- region 8
    simpa [init_eq, hno, hw] using hk
  · have hyes : m.ok = true := by simpa using hc
    have hw : m.wr = (m.bytes, 0) := by unfold Msg.wr; rw [if_pos hyes, if_pos (msg_len hyes)]
    refine AW_skip ?_
    refine AW_seq ?_
    refine AW_reg [2] fun K hK => ?_ -- region 9
    simp [init_eq, hyes, hw, aload, hp, msg_take]
    refine ACalls.mono (rmbytes_ok H5 hm1 hyes) fun r H6 ⟨hr, e⟩ => ?_ -- hallmoot/hallmootref14.Bytes
    subst hr e
    try simp
    refine hK _ _ ?_; clear hK K
    refine AW_ret (end_ret rfl ?_)
    simp
theorem msgForms_law (H : AH) (vs : List V) (hv : TVals Tryz.prog H Tryz.f3.params.toList vs) : ACalls Tryz.prog 3 vs H fun r _ => r = .b true := by
  have hv' : TVals Tryz.prog H [34] vs := hv
  clear hv
  rcases vs with _ | ⟨a, _ | ⟨z, r⟩⟩
  · exact hv'.elim
  · obtain ⟨l, rfl, _, h⟩ := hv'.1.struct Tryz.underlying34 cellsOf_34
    obtain ⟨x, la, pa, ta, rfl, ha⟩ := tv_msg h
    exact forms_law H ha
  · exact hv'.2.elim
end Go.Proofs.YtfhbdbjgmcopjaaGreatDoor
