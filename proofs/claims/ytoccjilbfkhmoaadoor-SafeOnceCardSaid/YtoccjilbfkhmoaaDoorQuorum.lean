/-
  Package quorum: what its functions give.
-/
import Derived.Test.YtoccjilbfkhmoaaDoorAbsC
import Derived.Test.YtoccjilbfkhmoaaDoorYtoccjilbfkhmoaaDoorFacts
set_option linter.unusedVariables false
set_option linter.unusedSimpArgs false
namespace Go.Proofs.YtoccjilbfkhmoaaDoor
open Go Go.Abs Go.Proofs
set_option maxRecDepth 100000
attribute [local irreducible] AEnd AW ACalls

def qtimes (k f : Int) : Int := if f < 1 ∨ 3 < f then 0 else k * f + 1

theorem times_ok (H : AH) (k f : Int) (hk : 0 ≤ k ∧ k ≤ 3) : ACalls Tryd.prog 74 [.i .i64 k, .i .i64 f] H fun r H' => r = .i .i64 (qtimes k f) ∧ H' = H := by
  refine ACalls_body Tryd.func74 rfl rfl ?_
  refine AW_seq ?_
  refine AW_reg [0, 1] fun K hK => ?_ -- region 0
  simp [init_eq]
  refine hK _ _ ?_; clear hK K
  refine AW_seq ?_
  refine AW_seq ?_
  by_cases h1 : f < 1
  · refine AW_reg [0, 1, 10] fun K hK => ?_ -- region 1
    simp [init_eq, h1]
    refine hK _ _ ?_; clear hK K
    refine AW_cond' rfl rfl (fun hc => ?_) (fun hc => ?_)
    · refine AW_seq ?_
      refine AW_reg [4] fun K hK => ?_ -- region 2
      simp [init_eq]
      refine hK _ _ ?_; clear hK K
      refine AW_ret (end_ret rfl ?_)
      simp [qtimes, h1]
    · cases hc
  · by_cases h2 : 3 < f
    · refine AW_reg [0, 1, 10] fun K hK => ?_ -- region 1
      simp [init_eq, h1, h2]
      refine hK _ _ ?_; clear hK K
      refine AW_cond' rfl rfl (fun hc => ?_) (fun hc => ?_)
      · refine AW_seq ?_
        refine AW_reg [4] fun K hK => ?_ -- region 2
        simp [init_eq]
        refine hK _ _ ?_; clear hK K
        refine AW_ret (end_ret rfl ?_)
        simp [qtimes, h2]
      · cases hc
    · refine AW_reg [0, 1, 10] fun K hK => ?_ -- region 1
      simp [init_eq, h1, h2]
      refine hK _ _ ?_; clear hK K
      refine AW_cond' rfl rfl (fun hc => ?_) (fun hc => ?_)
      · cases hc
      · refine AW_skip ?_
        have hb : 0 ≤ k * f ∧ k * f ≤ 9 := ⟨Int.mul_nonneg hk.1 (by omega), by
          have := Int.mul_le_mul hk.2 (show f ≤ 3 by omega) (by omega) (by omega)
          omega⟩
        refine AW_seq ?_
        refine AW_reg [4] fun K hK => ?_ -- region 3
        simp [init_eq, wrap_id (x := k * f) (by omega) (by omega), wrap_id (x := k * f + 1) (by omega) (by omega)]
        refine hK _ _ ?_; clear hK K
        refine AW_ret (end_ret rfl ?_)
        simp [qtimes, h1, h2]

theorem all_ok (H : AH) (f : Int) : ACalls Tryd.prog 52 [.i .i64 f] H fun r H' => r = .i .i64 (qtimes 3 f) ∧ H' = H := by
  refine ACalls_body Tryd.func52 rfl rfl ?_
  refine AW_seq ?_
  refine AW_reg [0] fun K hK => ?_ -- region 0
  simp [init_eq]
  refine hK _ _ ?_; clear hK K
  refine AW_seq ?_
  refine AW_reg [2] fun K hK => ?_ -- region 1
  simp [init_eq]
  refine ACalls.mono (times_ok H 3 f (by omega)) fun r H' ⟨hr, e⟩ => ?_ -- hallmoot/quorum.times
  subst hr e
  try simp
  refine hK _ _ ?_; clear hK K
  refine AW_ret (end_ret rfl ?_)
  simp
theorem qtimes_nn (k f : Int) (hk : 0 ≤ k) : 0 ≤ qtimes k f := by
  unfold qtimes
  split
  · omega
  · have := Int.mul_nonneg hk (show 0 ≤ f by omega)
    omega
/-- The set of all. -/
def fullSet (f : Int) : BitVec 32 := (1#32 <<< (qtimes 3 f).toNat) - 1#32
theorem full_ok (H : AH) (f : Int) : ACalls Tryd.prog 53 [.i .i64 f] H fun r H' => r = u32 (fullSet f) ∧ H' = H := by
  refine ACalls_body Tryd.func53 rfl rfl ?_
  refine AW_seq ?_
  refine AW_reg [0] fun K hK => ?_ -- region 0
  simp [init_eq]
  refine hK _ _ ?_; clear hK K
  refine AW_seq ?_
  refine AW_reg [2] fun K hK => ?_ -- region 1
  simp [init_eq]
  refine ACalls.mono (all_ok H f) fun r H' ⟨hr, e⟩ => ?_ -- hallmoot/quorum.All
  subst hr e
  have := qtimes_nn 3 f (by omega)
  simp [this]
  refine hK _ _ ?_; clear hK K
  refine AW_ret (end_ret rfl ?_)
  exact ⟨rfl, rfl⟩
/-- Are they replicas? -/
def qcheck (f : Int) (s : BitVec 32) : Int := if qtimes 3 f = 0 then 1 else if s &&& ~~~(fullSet f) = 0#32 then 0 else 40
theorem qcheck_ok (H : AH) (f : Int) (s : BitVec 32) : ACalls Tryd.prog 26 [.i .i64 f, u32 s] H fun r H' => r = .i .i64 (qcheck f s) ∧ H' = H := by
  refine ACalls_body Tryd.func26 rfl rfl ?_
  refine AW_seq ?_
  refine AW_reg [0, 1] fun K hK => ?_ -- region 0
  simp [init_eq]
  refine hK _ _ ?_; clear hK K
  refine AW_seq ?_
  refine AW_block ?_
  refine AW_seq ?_
  refine AW_reg [0, 1, 5] fun K hK => ?_ -- region 1
  simp [init_eq]
  refine ACalls.mono (all_ok H f) fun r H' ⟨hr, e⟩ => ?_ -- hallmoot/quorum.All
  subst hr e
  try simp
  refine hK _ _ ?_; clear hK K
  refine AW_cond' rfl rfl (fun hc => ?_) (fun hc => ?_)
  · refine AW_seq ?_
    refine AW_reg [4] fun K hK => ?_ -- region 2
    simp [init_eq]
    refine hK _ _ ?_; clear hK K
    refine AW_ret (end_ret rfl ?_)
    have h0 : qtimes 3 f = 0 := by simpa using hc
    simp [qcheck, h0]
  · have h0 : qtimes 3 f ≠ 0 := by simpa using hc
    refine AW_seq ?_
    refine AW_reg [9] fun K hK => ?_ -- region 3
    simp [init_eq]
    refine ACalls.mono (full_ok H' f) fun r H' ⟨hr, e⟩ => ?_ -- hallmoot/quorum.Full
    subst hr e
    try simp
    refine hK _ _ ?_; clear hK K
    refine AW_cond' rfl rfl (fun hc => ?_) (fun hc => ?_)
    · refine AW_seq ?_
      refine AW_reg [4] fun K hK => ?_ -- region 4
      simp [init_eq]
      refine hK _ _ ?_; clear hK K
      refine AW_ret (end_ret rfl ?_)
      have h1 : s &&& ~~~(fullSet f) ≠ 0#32 := by simpa using hc
      simp [qcheck, h0, h1]
    · refine AW_skip ?_
      refine AW_seq ?_
      refine AW_reg [4] fun K hK => ?_ -- region 5
      simp [init_eq]
      refine hK _ _ ?_; clear hK K
      refine AW_ret (end_ret rfl ?_)
      have h1 : s &&& ~~~(fullSet f) = 0#32 := by simpa using hc
      simp [qcheck, h0, h1]
end Go.Proofs.YtoccjilbfkhmoaaDoor
