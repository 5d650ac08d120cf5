/-
  Which blocks may be: the program's answer is the document's.
-/
import Derived.Test.YtoccjilbfkhmoaaDoorCheck1
set_option linter.unusedVariables false
set_option linter.unusedSimpArgs false
namespace Go.Proofs.YtoccjilbfkhmoaaDoor
open Go Go.Abs Go.Proofs
set_option maxRecDepth 100000
attribute [local irreducible] AEnd AW ACalls

def Blk.head (b : Blk) : Bool := inR b.view 1 1048576 && inR b.author 0 9 && inR b.height 0 3
/-- What is wrong with it: an error's number, or 0. -/
def Blk.err (b : Blk) : Int := if (b.txs.all Tx.ok && decide (b.txs.length ≤ 8) && b.head) = true then (if b.parentOk = true then (if b.proofOk = true then 0 else 121) else 122) else 120
theorem bcheck_ok (H : AH) {b : Blk} {pv tv : V} (hb : BlkAt H b pv tv) (hs : b.fits) : ACalls Tryd.prog 69 [.agg (b.cells pv tv)] H fun r H' => r = .i .i64 b.err ∧ H' = H := by
  refine ACalls.pure (Q := fun r => r = .i .i64 b.err) ⟨_, Tryd.func69, rfl, rfl⟩ ?_
  refine ACalls_body Tryd.func69 rfl rfl ?_
  refine AW_seq ?_
  refine AW_reg [1] fun K hK => ?_ -- region 0
  simp [init_eq, V.cells]
  obtain ⟨H1, e1, hp, hn, ho⟩ := H.boxed (b.cells pv tv)
  rw [e1]
  refine hK _ _ ?_; clear hK K
  have hb1 := hb.same ho
  have lt := hb1.tx.alen (P := Tryd.prog) qelem_59 H1
  have fin : ∀ x : Int, x = b.err → V.i .i64 x = V.i .i64 b.err ∧ V.lt H.next (V.i .i64 x) = true ∧ H.next ≤ H1.next ∧ ∀ j, j < H.next → H1.get j = H.get j := fun x hx => pure_end hn ho (by rw [hx]) rfl
  refine AW_seq ?_
  refine AW_reg [1, 3] fun K hK => ?_ -- region 1
  simp [init_eq, afieldAddr, aload, hp]
  refine ACalls.mono (anyWrong_ok H1 hb1.tx hs.tx hs.each) fun r H' ⟨hr, e⟩ => ?_ -- slices.ContainsFunc
  subst hr e
  try simp
  refine hK _ _ ?_; clear hK K
  refine AW_seq ?_
  refine AW_block ?_
  refine AW_cutto ⟨32, [(1, .p (some (H.next, 0, 0))), (7, .b (!b.txs.all Tx.ok || !decide (b.txs.length ≤ 8)))]⟩ H' ?_ ?_
  · refine AW_seq ?_
    refine AW_reg [1, 7] fun K hK => ?_ -- region 2
    simp [init_eq]
    refine hK _ _ ?_; clear hK K
    refine AW_cond' rfl rfl (fun hc => ?_) (fun hc => ?_)
    · refine AW_skip (rend ⟨?_, rfl⟩)
      have h : b.txs.all Tx.ok = false := by simpa using hc
      simp [h]
    · have h : b.txs.all Tx.ok = true := by simpa using hc
      refine AW_reg [1, 7] fun K hK => ?_ -- region 3
      simp [init_eq, afieldAddr, aload, hp, lt]
      refine hK _ _ ?_; clear hK K
      refine rend ⟨?_, rfl⟩
      have : (8 < (b.txs.length : Int)) = ¬ (b.txs.length ≤ 8) := propext (by omega)
      simp [h, this]
      rw [← decide_not]; exact decide_eq_decide.2 (by omega)
  refine AW_cond' rfl rfl (fun hc => ?_) (fun hc => ?_)
  · refine AW_seq ?_
    refine AW_reg [2] fun K hK => ?_ -- region 4
    simp [init_eq]
    refine hK _ _ ?_; clear hK K
    refine AW_ret (end_ret rfl (fin _ ?_))
    unfold Blk.err
    rw [if_neg]
    cases h1 : b.txs.all Tx.ok <;> cases h2 : decide (b.txs.length ≤ 8) <;> simp [h1, h2] at hc ⊢
  have h12 : (b.txs.all Tx.ok && decide (b.txs.length ≤ 8)) = true := by
    cases h1 : b.txs.all Tx.ok <;> cases h2 : decide (b.txs.length ≤ 8) <;> simp [h1, h2] at hc ⊢
  refine AW_cutto ⟨32, [(1, .p (some (H.next, 0, 0))), (13, .b (!b.head))]⟩ H' ?_ ?_
  · refine AW_seq ?_
    refine AW_reg [1, 13] fun K hK => ?_ -- region 5
    simp [init_eq, afieldAddr, aload, hp]
    refine ACalls.mono (bwithin_ok ..) fun r H' ⟨hr, e⟩ => ?_ -- hallmoot/block.within
    subst hr e
    simp
    refine hK _ _ ?_; clear hK K
    refine AW_cond' rfl rfl (fun hc => ?_) (fun hc => ?_)
    · have h : inR b.view 1 1048576 = false := by simpa using hc
      refine AW_skip (rend ⟨?_, rfl⟩)
      simp [Blk.head, h]
    have g1 : inR b.view 1 1048576 = true := by simpa using hc
    refine AW_seq ?_
    refine AW_reg [1, 13] fun K hK => ?_ -- region 6
    simp [init_eq, afieldAddr, aload, hp]
    refine ACalls.mono (bwithin_ok ..) fun r H' ⟨hr, e⟩ => ?_ -- hallmoot/block.within
    subst hr e
    simp
    refine hK _ _ ?_; clear hK K
    refine AW_cond' rfl rfl (fun hc => ?_) (fun hc => ?_)
    · have h : inR b.author 0 9 = false := by simpa using hc
      refine AW_skip (rend ⟨?_, rfl⟩)
      simp [Blk.head, h]
    have g2 : inR b.author 0 9 = true := by simpa using hc
    refine AW_reg [1, 13] fun K hK => ?_ -- region 7
    simp [init_eq, afieldAddr, aload, hp]
    refine ACalls.mono (bwithin_ok ..) fun r H' ⟨hr, e⟩ => ?_ -- hallmoot/block.within
    subst hr e
    simp
    refine hK _ _ ?_; clear hK K
    refine rend ⟨?_, rfl⟩
    simp [Blk.head, g1, g2]
  refine AW_cond' rfl rfl (fun hc => ?_) (fun hc => ?_)
  · have h : b.head = false := by simpa using hc
    refine AW_seq ?_
    refine AW_reg [2] fun K hK => ?_ -- region 8
    simp [init_eq]
    refine hK _ _ ?_; clear hK K
    refine AW_ret (end_ret rfl (fin _ ?_))
    simp [Blk.err, h]
  have hh : b.head = true := by simpa using hc
  have he : b.err = (if b.parentOk = true then (if b.proofOk = true then 0 else 121) else 122) := by
    unfold Blk.err; rw [h12, hh]; rfl
  refine AW_seq ?_
  refine AW_reg [1, 26] fun K hK => ?_ -- region 9
  simp [init_eq]
  refine ACalls.mono (parent_ok H' hp) fun r H' ⟨hr, e⟩ => ?_ -- hallmoot/block.parent
  subst hr e
  simp
  refine hK _ _ ?_; clear hK K
  refine AW_cond' rfl rfl (fun hc => ?_) (fun hc => ?_)
  · have h : b.parentOk = false := by simpa using hc
    refine AW_seq ?_
    refine AW_reg [2] fun K hK => ?_ -- region 10
    simp [init_eq]
    refine hK _ _ ?_; clear hK K
    refine AW_ret (end_ret rfl (fin _ ?_))
    simp [he, h]
  have h1 : b.parentOk = true := by simpa using hc
  refine AW_seq ?_
  refine AW_reg [29] fun K hK => ?_ -- region 11
  simp [init_eq]
  refine ACalls.mono (proof_ok H' hp hb1 hs.pf) fun r H' ⟨hr, e⟩ => ?_ -- hallmoot/block.proof
  subst hr e
  simp
  refine hK _ _ ?_; clear hK K
  refine AW_cond' rfl rfl (fun hc => ?_) (fun hc => ?_)
  · have h : b.proofOk = false := by simpa using hc
    refine AW_seq ?_
    refine AW_reg [2] fun K hK => ?_ -- region 12
    simp [init_eq]
    refine hK _ _ ?_; clear hK K
    refine AW_ret (end_ret rfl (fin _ ?_))
    simp [he, h1, h]
  · have h : b.proofOk = true := by simpa using hc
    refine AW_skip ?_
    refine AW_seq ?_
    refine AW_reg [2] fun K hK => ?_ -- region 13
    simp [init_eq]
    refine hK _ _ ?_; clear hK K
    refine AW_ret (end_ret rfl (fin _ ?_))
    simp [he, h1, h]
theorem wrap_small {x : Int} (h1 : -9223372036854775808 ≤ x) (h2 : x ≤ 9223372036854775807) : IntKind.i64.wrap x = x := wrap_id h1 h2
theorem Cert.fall_height {c : Cert} (h : c.ok = true) (hk : c.kind = 2) : 1 ≤ c.height ∧ c.height ≤ 3 := by
  unfold Cert.ok at h
  rw [if_neg (by omega), if_neg (by omega), if_pos hk] at h
  simp [Cert.fall, inR] at h
  omega
/-- May it stand behind its parent, as the document says it? -/
def Blk.parentR (b : Blk) : Bool :=
  b.parent.ok && decide (b.round = IntKind.i64.wrap (b.parent.round + 1)) && decide (b.round ≤ 1073741824) &&
    (if b.height < 2 then openS b.parent b.view else decide (b.parent.kind = 2) && decide (b.parent.coin = 0#32) && decide (b.parent.view = b.view) && decide (b.parent.author = b.author) && decide (IntKind.i64.wrap (b.parent.height + 1) = b.height))
theorem parentR_eq {b : Blk} (hh : b.head = true) : b.parentR = b.parentOk := by
  have hr : 0 ≤ b.height ∧ b.height ≤ 3 := by simp [Blk.head, inR] at hh; omega
  unfold Blk.parentR Blk.parentOk
  by_cases h : b.height ≤ 1
  · rw [if_pos (by omega), if_pos h]
    cases h1 : b.parent.ok
    · simp [openS, h1]
    · simp
  · rw [if_neg (by omega), if_neg h, wrap_small (x := b.height - 1) (by omega) (by omega)]
    cases h1 : b.parent.ok
    · simp
    by_cases h2 : b.parent.kind = 2
    case neg => simp [h2]
    have h3 := Cert.fall_height h1 h2
    rw [wrap_small (x := b.parent.height + 1) (by omega) (by omega)]
    have h4 : decide (b.parent.height + 1 = b.height) = decide (b.parent.height = b.height - 1) := decide_eq_decide.2 (by omega)
    rw [h4]
    cases h5 : decide (b.parent.coin = 0#32) <;> simp [Cert.endorsed, h2, h5] <;> simp_all
theorem proofR_eq {b : Blk} (h : b.height = 1) : b.proofOk = (decide (1 ≤ b.proof.length ∧ b.proof.length ≤ 10) && (List.range b.proof.length).all (pAt b.view b.proof)) := by
  have : inR b.proof.length 1 10 = decide (1 ≤ b.proof.length ∧ b.proof.length ≤ 10) := decide_eq_decide.2 (by omega)
  unfold Blk.proofOk
  rw [if_pos h, Bool.and_comm, this]
end Go.Proofs.YtoccjilbfkhmoaaDoor
