/-
  alive() of the states' statements, run by the kernel.
-/
import Derived.Test.YtoccjilbfkhmoaaDoorYtoccjilbfkhmoaaDoorFacts
import Derived.Test.YtoccjilbfkhmoaaDoorAbsC
set_option linter.unusedVariables false
namespace Go.Proofs.YtoccjilbfkhmoaaDoor
open Go Go.Abs Go.Proofs
theorem alive_run : runCall Tryd.prog planTab 10000 4 [] AH.none (fun v _ => isTrue v) = true := by kernel_rfl
theorem alive_ok (H : AH) : ACalls Tryd.prog 4 [] H fun r H' => r = .b true ∧ H' = H :=
  ACalls.closed Dims.nil ((runCall_sound alive_run).mono fun r _ h => isTrue_eq h) H
end Go.Proofs.YtoccjilbfkhmoaaDoor
