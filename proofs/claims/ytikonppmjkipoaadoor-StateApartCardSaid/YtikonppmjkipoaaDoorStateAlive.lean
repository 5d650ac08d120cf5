/-
  alive() of the state, run by the kernel.
-/
import Derived.Test.YtikonppmjkipoaaDoorYtikonppmjkipoaaDoorFacts
import Derived.Test.YtikonppmjkipoaaDoorAbsC
set_option linter.unusedVariables false
namespace Go.Proofs.YtikonppmjkipoaaDoor
open Go Go.Abs Go.Proofs
theorem alive_run : runCall Tryd.prog planTab 5000 7 [] AH.none (fun v _ => isTrue v) = true := by kernel_rfl
theorem alive_ok (H : AH) : ACalls Tryd.prog 7 [] H fun r H' => r = .b true ∧ H' = H :=
  ACalls.closed Dims.nil ((runCall_sound alive_run).mono fun r _ h => isTrue_eq h) H
end Go.Proofs.YtikonppmjkipoaaDoor
