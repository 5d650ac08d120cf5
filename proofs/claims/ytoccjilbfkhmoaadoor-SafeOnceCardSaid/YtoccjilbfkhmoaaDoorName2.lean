/-
  The document's letters and names.
-/
import Derived.Test.YtoccjilbfkhmoaaDoorName1
set_option linter.unusedVariables false
set_option linter.unusedSimpArgs false
namespace Go.Proofs.YtoccjilbfkhmoaaDoor
open Go Go.Abs Go.Proofs
set_option maxRecDepth 100000
attribute [local irreducible] AEnd AW ACalls

def letterR (c : Int) : Bool := (decide (97 ≤ c) && decide (c ≤ 122)) || (decide (48 ≤ c) && decide (c ≤ 57)) || decide (c = 95) || decide (c = 45) || (decide (223 ≤ c) && decide (c ≤ 255) && !decide (c = 247)) || (decide (945 ≤ c) && decide (c ≤ 969))
theorem letterR_nat (c : Nat) : letterR c = letterB c := by
  rw [Bool.eq_iff_iff]
  simp [letterR, letterB]
  omega
/-- A letter as a number in memory. -/
def letC (x : Nat × Bool) : List V := [.i .i64 x.1]
end Go.Proofs.YtoccjilbfkhmoaaDoor
