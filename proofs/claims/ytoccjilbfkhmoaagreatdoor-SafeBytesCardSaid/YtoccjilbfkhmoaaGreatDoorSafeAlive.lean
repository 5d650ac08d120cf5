/-
  alive() of the states' statements, run by the kernel.
-/
import Derived.Test.YtoccjilbfkhmoaaGreatDoorYtoccjilbfkhmoaaGreatDoorFacts
import Derived.Test.YtoccjilbfkhmoaaGreatDoorAbsC
set_option linter.unusedVariables false
namespace Go.Proofs.YtoccjilbfkhmoaaGreatDoor
open Go Go.Abs Go.Proofs
theorem alive_run : runCall Tryz.prog planTab 10000 5 [] AH.none (fun v _ => isTrue v) = true := by kernel_rfl
theorem alive_ok (H : AH) : ACalls Tryz.prog 5 [] H fun r H' => r = .b true ∧ H' = H :=
  ACalls.closed Dims.nil ((runCall_sound alive_run).mono fun r _ h => isTrue_eq h) H
end Go.Proofs.YtoccjilbfkhmoaaGreatDoor
