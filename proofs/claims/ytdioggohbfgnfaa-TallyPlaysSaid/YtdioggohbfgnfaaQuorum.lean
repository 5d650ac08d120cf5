/-
  Package quorum: what its functions give.
-/
import Derived.Test.YtdioggohbfgnfaaAbsC
import Derived.Test.YtdioggohbfgnfaaYtdioggohbfgnfaaFacts
set_option linter.unusedVariables false
set_option linter.unusedSimpArgs false
namespace Go.Proofs.Ytdioggohbfgnfaa
open Go Go.Abs Go.Proofs
set_option maxRecDepth 100000
attribute [local irreducible] AEnd AW ACalls

def qtimes (k f : Int) : Int := if f < 1 ∨ 3 < f then 0 else k * f + 1

theorem times_ok (H : AH) (k f : Int) (hk : 0 ≤ k ∧ k ≤ 3) : ACalls Try.prog 31 [.i .i64 k, .i .i64 f] H fun r H' => r = .i .i64 (qtimes k f) ∧ H' = H := by
  refine ACalls_body Try.func31 rfl rfl ?_
  refine AW_seq ?_
  refine AW_reg [0, 1] fun K hK => ?_ -- region 0
  simp [init_eq]
  refine hK _ _ ?_; clear hK K
  refine AW_seq ?_
  refine AW_seq ?_
  by_cases h1 : f < 1
  · refine AW_reg [0, 1, 10] fun K hK => ?_ -- region 1
    simp [init_eq, h1]
    refine hK _ _ ?_; clear hK K
    refine AW_cond' rfl rfl (fun hc => ?_) (fun hc => ?_)
    · refine AW_seq ?_
      refine AW_reg [4] fun K hK => ?_ -- region 2
      simp [init_eq]
      refine hK _ _ ?_; clear hK K
      refine AW_ret (end_ret rfl ?_)
      simp [qtimes, h1]
    · cases hc
  · by_cases h2 : 3 < f
    · refine AW_reg [0, 1, 10] fun K hK => ?_ -- region 1
      simp [init_eq, h1, h2]
      refine hK _ _ ?_; clear hK K
      refine AW_cond' rfl rfl (fun hc => ?_) (fun hc => ?_)
      · refine AW_seq ?_
        refine AW_reg [4] fun K hK => ?_ -- region 2
        simp [init_eq]
        refine hK _ _ ?_; clear hK K
        refine AW_ret (end_ret rfl ?_)
        simp [qtimes, h2]
      · cases hc
    · refine AW_reg [0, 1, 10] fun K hK => ?_ -- region 1
      simp [init_eq, h1, h2]
      refine hK _ _ ?_; clear hK K
      refine AW_cond' rfl rfl (fun hc => ?_) (fun hc => ?_)
      · cases hc
      · refine AW_skip ?_
        have hb : 0 ≤ k * f ∧ k * f ≤ 9 := ⟨Int.mul_nonneg hk.1 (by omega), by
          have := Int.mul_le_mul hk.2 (show f ≤ 3 by omega) (by omega) (by omega)
          omega⟩
        refine AW_seq ?_
        refine AW_reg [4] fun K hK => ?_ -- region 3
        simp [init_eq, wrap_id (x := k * f) (by omega) (by omega), wrap_id (x := k * f + 1) (by omega) (by omega)]
        refine hK _ _ ?_; clear hK K
        refine AW_ret (end_ret rfl ?_)
        simp [qtimes, h1, h2]

theorem all_ok (H : AH) (f : Int) : ACalls Try.prog 25 [.i .i64 f] H fun r H' => r = .i .i64 (qtimes 3 f) ∧ H' = H := by
  refine ACalls_body Try.func25 rfl rfl ?_
  refine AW_seq ?_
  refine AW_reg [0] fun K hK => ?_ -- region 0
  simp [init_eq]
  refine hK _ _ ?_; clear hK K
  refine AW_seq ?_
  refine AW_reg [2] fun K hK => ?_ -- region 1
  simp [init_eq]
  refine ACalls.mono (times_ok H 3 f (by omega)) fun r H' ⟨hr, e⟩ => ?_ -- hallmoot/quorum.times
  subst hr e
  try simp
  refine hK _ _ ?_; clear hK K
  refine AW_ret (end_ret rfl ?_)
  simp
theorem qtimes_nn (k f : Int) (hk : 0 ≤ k) : 0 ≤ qtimes k f := by
  unfold qtimes
  split
  · omega
  · have := Int.mul_nonneg hk (show 0 ≤ f by omega)
    omega
theorem quorum_ok (H : AH) (f : Int) : ACalls Try.prog 11 [.i .i64 f] H fun r H' => r = .i .i64 (qtimes 2 f) ∧ H' = H := by
  refine ACalls_body Try.func11 rfl rfl ?_
  refine AW_seq ?_
  refine AW_reg [0] fun K hK => ?_ -- region 0
  simp [init_eq]
  refine hK _ _ ?_; clear hK K
  refine AW_seq ?_
  refine AW_reg [2] fun K hK => ?_ -- region 1
  simp [init_eq]
  refine ACalls.mono (times_ok H 2 f (by omega)) fun r H' ⟨hr, e⟩ => ?_ -- hallmoot/quorum.times
  subst hr e
  try simp
  refine hK _ _ ?_; clear hK K
  refine AW_ret (end_ret rfl ?_)
  simp
/-- The set of all. -/
def fullSet (f : Int) : BitVec 32 := (1#32 <<< (qtimes 3 f).toNat) - 1#32
theorem full_ok (H : AH) (f : Int) : ACalls Try.prog 59 [.i .i64 f] H fun r H' => r = u32 (fullSet f) ∧ H' = H := by
  refine ACalls_body Try.func59 rfl rfl ?_
  refine AW_seq ?_
  refine AW_reg [0] fun K hK => ?_ -- region 0
  simp [init_eq]
  refine hK _ _ ?_; clear hK K
  refine AW_seq ?_
  refine AW_reg [2] fun K hK => ?_ -- region 1
  simp [init_eq]
  refine ACalls.mono (all_ok H f) fun r H' ⟨hr, e⟩ => ?_ -- hallmoot/quorum.All
  subst hr e
  have := qtimes_nn 3 f (by omega)
  simp [this]
  refine hK _ _ ?_; clear hK K
  refine AW_ret (end_ret rfl ?_)
  exact ⟨rfl, rfl⟩
/-- Are they replicas? -/
def qcheck (f : Int) (s : BitVec 32) : Int := if qtimes 3 f = 0 then 1 else if s &&& ~~~(fullSet f) = 0#32 then 0 else 40
theorem qcheck_ok (H : AH) (f : Int) (s : BitVec 32) : ACalls Try.prog 27 [.i .i64 f, u32 s] H fun r H' => r = .i .i64 (qcheck f s) ∧ H' = H := by
  refine ACalls_body Try.func27 rfl rfl ?_
  refine AW_seq ?_
  refine AW_reg [0, 1] fun K hK => ?_ -- region 0
  simp [init_eq]
  refine hK _ _ ?_; clear hK K
  refine AW_seq ?_
  refine AW_block ?_
  refine AW_seq ?_
  refine AW_reg [0, 1, 5] fun K hK => ?_ -- region 1
  simp [init_eq]
  refine ACalls.mono (all_ok H f) fun r H' ⟨hr, e⟩ => ?_ -- hallmoot/quorum.All
  subst hr e
  try simp
  refine hK _ _ ?_; clear hK K
  refine AW_cond' rfl rfl (fun hc => ?_) (fun hc => ?_)
  · refine AW_seq ?_
    refine AW_reg [4] fun K hK => ?_ -- region 2
    simp [init_eq]
    refine hK _ _ ?_; clear hK K
    refine AW_ret (end_ret rfl ?_)
    have h0 : qtimes 3 f = 0 := by simpa using hc
    simp [qcheck, h0]
  · have h0 : qtimes 3 f ≠ 0 := by simpa using hc
    refine AW_seq ?_
    refine AW_reg [9] fun K hK => ?_ -- region 3
    simp [init_eq]
    refine ACalls.mono (full_ok H' f) fun r H' ⟨hr, e⟩ => ?_ -- hallmoot/quorum.Full
    subst hr e
    try simp
    refine hK _ _ ?_; clear hK K
    refine AW_cond' rfl rfl (fun hc => ?_) (fun hc => ?_)
    · refine AW_seq ?_
      refine AW_reg [4] fun K hK => ?_ -- region 4
      simp [init_eq]
      refine hK _ _ ?_; clear hK K
      refine AW_ret (end_ret rfl ?_)
      have h1 : s &&& ~~~(fullSet f) ≠ 0#32 := by simpa using hc
      simp [qcheck, h0, h1]
    · refine AW_skip ?_
      refine AW_seq ?_
      refine AW_reg [4] fun K hK => ?_ -- region 5
      simp [init_eq]
      refine hK _ _ ?_; clear hK K
      refine AW_ret (end_ret rfl ?_)
      have h1 : s &&& ~~~(fullSet f) = 0#32 := by simpa using hc
      simp [qcheck, h0, h1]
theorem may_ok (H : AH) (k : Int) : ACalls Try.prog 76 [.i .i64 k] H fun r H' => r = .b (decide (0 ≤ k ∧ k < 32)) ∧ H' = H := by
  refine ACalls_body Try.func76 rfl rfl ?_
  refine AW_seq ?_
  refine AW_reg [0] fun K hK => ?_ -- region 0
  simp [init_eq]
  refine hK _ _ ?_; clear hK K
  refine AW_seq ?_
  by_cases h0 : 0 ≤ k
  · refine AW_reg [2] fun K hK => ?_ -- region 1
    simp [init_eq, h0]
    refine hK _ _ ?_; clear hK K
    refine AW_ret (end_ret rfl ?_)
    simp [h0]
  · refine AW_reg [2] fun K hK => ?_ -- region 1
    simp [init_eq, h0]
    refine hK _ _ ?_; clear hK K
    refine AW_ret (end_ret rfl ?_)
    simp [h0]
theorem put_ok (H : AH) (s : BitVec 32) (k : Int) : ACalls Try.prog 65 [u32 s, .i .i64 k] H fun r H' =>
    r = (if 0 ≤ k ∧ k < 32 then .tup [u32 (s ||| 1#32 <<< k.toNat), .i .i64 0] else .tup [u32 0#32, .i .i64 40]) ∧ H' = H := by
  refine ACalls_body Try.func65 rfl rfl ?_
  refine AW_seq ?_
  refine AW_reg [0, 1] fun K hK => ?_ -- region 0
  simp [init_eq]
  refine hK _ _ ?_; clear hK K
  refine AW_seq ?_
  refine AW_seq ?_
  refine AW_reg [0, 1, 8] fun K hK => ?_ -- region 1
  simp [init_eq]
  refine ACalls.mono (may_ok H k) fun r H' ⟨hr, e⟩ => ?_ -- hallmoot/quorum.may
  subst hr e
  by_cases h0 : 0 ≤ k ∧ k < 32
  · simp [h0]
    refine hK _ _ ?_; clear hK K
    refine AW_cond' rfl rfl (fun hc => ?_) (fun hc => ?_)
    · cases hc
    · refine AW_skip ?_
      refine AW_seq ?_
      refine AW_reg [4, 5] fun K hK => ?_ -- region 3
      simp [init_eq, h0]
      refine hK _ _ ?_; clear hK K
      refine AW_ret (end_ret rfl ?_)
      simp [h0]
  · simp only [h0, decide_false]
    simp
    refine hK _ _ ?_; clear hK K
    refine AW_cond' rfl rfl (fun hc => ?_) (fun hc => ?_)
    · refine AW_seq ?_
      refine AW_reg [4, 5] fun K hK => ?_ -- region 2
      simp [init_eq]
      refine hK _ _ ?_; clear hK K
      refine AW_ret (end_ret rfl ?_)
      simp [h0]
    · cases hc
theorem ones_ok (H : AH) (s : BitVec 32) : ACalls Try.prog 30 [u32 s] H fun r H' => r = .i .i64 (pop s) ∧ H' = H := by
  have h1 : (s >>> 24).toNat < 256 := by rw [BitVec.toNat_ushiftRight, Nat.shiftRight_eq_div_pow]; have := u32_lt s; omega
  have hm : ∀ x : BitVec 32, (x &&& 255#32).toNat < 256 := fun x => by
    rw [BitVec.toNat_and]; exact Nat.lt_of_le_of_lt Nat.and_le_right (by decide)
  refine ACalls_body Try.func30 rfl rfl ?_
  refine AW_seq ?_
  refine AW_reg [0] fun K hK => ?_ -- region 0
  simp [init_eq]
  refine hK _ _ ?_; clear hK K
  refine AW_seq ?_
  refine AW_regd [2] pl_30_1 pe_30_1 (by kernel_rfl) (by kernel_rfl) (by decide) fun K hK => ?_
  simp [init_eq, pl_30_1]
  have p1 := pop8_le (s >>> 24).toNat
  have p2 := pop8_le (s >>> 16 &&& 255#32).toNat
  have p3 := pop8_le (s >>> 8 &&& 255#32).toNat
  have p4 := pop8_le (s &&& 255#32).toNat
  have hw : ∀ n : Nat, n < 256 → IntKind.u8.wrap (n : Int) = n := fun n hn => by rw [IntKind.wrap_u8]; omega
  refine ⟨_, index_pop (P := Try.prog) qstr_9 (by decide +kernel) h1, _, index_pop (P := Try.prog) qstr_9 (by decide +kernel) (hm _), _, rfl, _, index_pop (P := Try.prog) qstr_9 (by decide +kernel) (hm _), _, rfl, _, index_pop (P := Try.prog) qstr_9 (by decide +kernel) (hm _), _, rfl, ?_⟩
  rw [← Int.natCast_add, hw _ (by omega), ← Int.natCast_add, hw _ (by omega), ← Int.natCast_add, hw _ (by omega)]
  refine ⟨_, _, conv_int (P := Try.prog) qthere_5 qint_3, ?_⟩
  rw [wrap_id (by omega) (by omega)]
  refine hK _ _ ?_; clear hK K
  refine AW_ret (end_ret rfl ?_)
  rw [pop_split]
  simp
  omega
theorem count_ok (H : AH) (s : BitVec 32) : ACalls Try.prog 10 [u32 s] H fun r H' => r = .i .i64 (pop s) ∧ H' = H := by
  refine ACalls_body Try.func10 rfl rfl ?_
  refine AW_seq ?_
  refine AW_reg [0] fun K hK => ?_ -- region 0
  simp [init_eq]
  refine hK _ _ ?_; clear hK K
  refine AW_seq ?_
  refine AW_reg [2] fun K hK => ?_ -- region 1
  simp [init_eq]
  refine ACalls.mono (ones_ok H s) fun r H' ⟨hr, e⟩ => ?_
  subst hr e
  try simp
  refine hK _ _ ?_; clear hK K
  refine AW_ret (end_ret rfl ?_)
  simp
end Go.Proofs.Ytdioggohbfgnfaa
