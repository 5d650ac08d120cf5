/-
  BlockForms: the law says true of every block.
-/
import Derived.Test.YtnfnkmodcjkabaaDoorArgBlk
import Derived.Test.YtnfnkmodcjkabaaDoorBytes4
import Derived.Test.YtnfnkmodcjkabaaDoorBlockAlive
set_option linter.unusedVariables false
set_option linter.unusedSimpArgs false
namespace Go.Proofs.YtnfnkmodcjkabaaDoor
open Go Go.Abs Go.Proofs
set_option maxRecDepth 100000
attribute [local irreducible] AEnd AW ACalls

@[simp] theorem Blk.aeqProposal (b : Blk) (n : Int) : aeq Tryd.prog 38 (.agg (b.proposal n)) (.agg (b.proposal n)) = some true := by
  simp [Go.Abs.aeq, Blk.proposal, fitsAll, CK.fits, ceqs, ceq]
theorem forms_law (H : AH) {b : Blk} {pv tv : V} (hb : BlkAt H b pv tv) (n : Int) : ACalls Tryd.prog 3 [.agg (b.cells pv tv), .i .i64 n] H fun r H' => r = .b true := by
  refine ACalls_body Tryd.func3 rfl rfl ?_
  refine AW_seq ?_
  refine AW_reg [1, 2] fun K hK => ?_ -- region 0
  simp [init_eq, V.cells]
  obtain ⟨H1, e1, hp, hn, ho⟩ := H.boxed (b.cells pv tv)
  rw [e1]
  refine hK _ _ ?_; clear hK K
  have hb1 := hb.same ho
  refine AW_seq ?_
  refine AW_seq ?_
  refine AW_reg [1, 2, 10] fun K hK => ?_ -- region 1
  simp [init_eq]
  refine ACalls.mono (alive_ok ..) fun r H' ⟨hr, e⟩ => ?_ -- hallmoot/hallmootlaw12.alive
  subst hr e
  simp
  refine hK _ _ ?_; clear hK K
  refine AW_cond' rfl rfl (fun hc => ?_) (fun hc => ?_)
  · cases hc
  refine AW_skip ?_
  refine AW_seq ?_
  refine AW_seq ?_
  refine AW_reg [1, 2, 12] fun K hK => ?_ -- region 3
  simp [init_eq, aload, hp, blk_take]
  refine ACalls.mono (greatBlk_ok H' hb1) fun r H' ⟨hr, e⟩ => ?_ -- hallmoot/hallmootref12.Great
  subst hr e
  try simp
  refine hK _ _ ?_; clear hK K
  refine AW_cond' rfl rfl (fun hc => ?_) (fun hc => ?_)
  · refine AW_seq ?_
    refine AW_reg [4] fun K hK => ?_ -- region 4
    simp [init_eq]
    refine hK _ _ ?_; clear hK K
    refine AW_ret (end_ret rfl ?_)
    simp
  have hs : b.small := Blk.small_of (by simpa using hc)
  refine AW_skip ?_
  refine AW_seq ?_
  refine AW_reg [1, 2, 5] fun K hK => ?_ -- region 5
  simp [init_eq, aload, hp, blk_take]
  refine ACalls.mono (bcheck_ok H' hb1 hs) fun r H' ⟨hr, e⟩ => ?_ -- hallmoot/block.Check
  subst hr e
  try simp
  refine hK _ _ ?_; clear hK K
  refine AW_seq ?_
  refine AW_reg [1, 2, 5, 6, 7] fun K hK => ?_ -- region 6
  simp [init_eq, aload, hp, blk_take]
  refine ACalls.mono (bbytes_ok H' hb1 hs) fun r H2 hr => ?_ -- hallmoot/block.Bytes
  have key : ∃ w x, r = .tup [w, .i .i64 x] ∧ Upd H' H2 [] ∧ x = b.err ∧ (b.err ≠ 0 → w = .sl none 0 false) ∧ (b.err = 0 → Sl H2 w 1 (bytesV b.bytes)) := by
    rcases hr with ⟨h1, h2, h3⟩ | ⟨h1, w, h2, F, h3, h4, h5⟩
    · exact ⟨_, _, h2, h3, rfl, fun _ => rfl, fun h => absurd h h1⟩
    · exact ⟨_, _, h2, h4, h1.symm, fun h => absurd h1 h, fun _ => h3.sl⟩
  clear hr
  obtain ⟨w, x, rfl, hu, rfl, k1, k2⟩ := key
  try simp
  refine hK _ _ ?_; clear hK K
  have hp2 := hu.keep (by simp) hp
  have hb2 : BlkAt H2 b pv tv := ⟨hb1.pf.upd hu, hb1.tx.upd hu⟩
  refine AW_seq ?_
  refine AW_reg [1, 2, 5, 6, 7, 8] fun K hK => ?_ -- region 7
  simp [init_eq, aload, hp2, blk_take]
  refine ACalls.mono (rcheckBlk_ok H2 hb2 hs) fun r H' ⟨hr, e⟩ => ?_ -- hallmoot/hallmootref12.Check
  subst hr e
  try simp
  refine hK _ _ ?_; clear hK K
  refine AW_seq ?_
  refine AW_seq ?_
  refine AW_regdto [2, 6, 7, 8, 40] pl_3_8 pe_3_8 ⟨60, [(2, .p (some (H.next, 0, 0))), (6, w), (7, .i .i64 b.err), (8, .i .i64 b.err), (40, .b false)]⟩ H' (by kernel_rfl) (by kernel_rfl) (by decide) (fun K hk => ?_) ?_
  · have hbd : abuild Tryd.prog 38 [(0, .i .i64 1), (1, .i .i64 n), (2, .i .i64 b.view), (3, .i .i64 b.round), (4, .i .i64 b.height), (5, .i .i64 b.author)] = some (.agg (b.proposal n)) := by
      simp [abuild, afill, splice_zero, splice_succ, V.cells, Blk.proposal]
    simp [init_eq, pl_3_8, afieldAddr, aload, hp2, blk_take, hbd]
    refine ACalls.mono (proposal_ok ..) fun r H' ⟨hr, e⟩ => ?_ -- hallmoot/block.Proposal
    subst hr e
    simpa using hk
  refine AW_cond' rfl rfl (fun hc => ?_) (fun hc => ?_)
  · cases hc
  refine AW_skip ?_
  refine AW_seq ?_
  refine AW_seq ?_
  refine AW_reg [2, 6, 7, 8, 42] fun K hK => ?_ -- region 10
  simp [init_eq]
  refine hK _ _ ?_; clear hK K
  refine AW_cond' rfl rfl (fun hc => ?_) (fun hc => ?_)
  · have he : ¬ b.err = 0 := by simpa using hc
    have hw := k1 he
    subst hw
    have hl : alen Tryd.prog H' 33 (.sl none 0 false) = some (.i .i64 0) := by simp [alen]
    refine AW_seq ?_
    refine AW_reg [4] fun K hK => ?_ -- region 11
    simp [init_eq, hl]
    refine hK _ _ ?_; clear hK K
    refine AW_ret (end_ret rfl ?_)
    simp
  · have he : b.err = 0 := by simpa using hc
    have hcv : aconvert Tryd.prog H' 33 9 w = some (.s b.bytes, H') := conv_text qbs_33 qstr_9 (k2 he)
    refine AW_skip ?_
    refine AW_seq ?_
    refine AW_regd [4] pl_3_12 pe_3_12 (by kernel_rfl) (by kernel_rfl) (by decide) fun K hK => ?_
    simp [init_eq, pl_3_12, aload, hp2, blk_take, he, hcv]
    refine ACalls.mono (rbytes_ok H' hb2 he) fun r H' ⟨hr, e⟩ => ?_ -- hallmoot/hallmootref12.Bytes
    subst hr e
    simp
    refine hK _ _ ?_; clear hK K
    refine AW_ret (end_ret rfl ?_)
    simp
theorem blockForms_law (H : AH) (vs : List V) (hv : TVals Tryd.prog H Tryd.f3.params.toList vs) : ACalls Tryd.prog 3 vs H fun r _ => r = .b true := by
  have hv' : TVals Tryd.prog H [28, 3] vs := hv
  clear hv
  rcases vs with _ | ⟨a, _ | ⟨b, _ | ⟨z, r⟩⟩⟩
  · exact hv'.elim
  · exact hv'.2.elim
  · obtain ⟨l, rfl, _, h⟩ := hv'.1.struct Tryd.underlying28 cellsOf_28
    obtain ⟨x, pa, ta, rfl, ha⟩ := tv_blk h
    obtain ⟨n, rfl, _⟩ := hv'.2.1.i Tryd.underlying3
    exact forms_law H ha n
  · exact hv'.2.2.elim
end Go.Proofs.YtnfnkmodcjkabaaDoor
