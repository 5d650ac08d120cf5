/-
  Package quorum: what its functions give.
-/
import Derived.Test.YtikonppmjkipoaaDoorAbsC
import Derived.Test.YtikonppmjkipoaaDoorYtikonppmjkipoaaDoorFacts
set_option linter.unusedVariables false
set_option linter.unusedSimpArgs false
namespace Go.Proofs.YtikonppmjkipoaaDoor
open Go Go.Abs Go.Proofs
set_option maxRecDepth 100000
attribute [local irreducible] AEnd AW ACalls

def qtimes (k f : Int) : Int := if f < 1 ∨ 3 < f then 0 else k * f + 1

theorem qtimes_nn (k f : Int) (hk : 0 ≤ k) : 0 ≤ qtimes k f := by
  unfold qtimes
  split
  · omega
  · have := Int.mul_nonneg hk (show 0 ≤ f by omega)
    omega
/-- The set of all. -/
def fullSet (f : Int) : BitVec 32 := (1#32 <<< (qtimes 3 f).toNat) - 1#32
/-- Are they replicas? -/
def qcheck (f : Int) (s : BitVec 32) : Int := if qtimes 3 f = 0 then 1 else if s &&& ~~~(fullSet f) = 0#32 then 0 else 40
end Go.Proofs.YtikonppmjkipoaaDoor
