import Derived.Test.YtaidfojbnfkclaaGreatDoorYtaidfojbnfkclaaGreatDoorFacts
import Derived.Test.YtaidfojbnfkclaaGreatDoorAbsC
set_option linter.unusedVariables false
namespace Go.Proofs.YtaidfojbnfkclaaGreatDoor
open Go Go.Abs Go.Proofs
theorem alive_run:runCall Tryz.prog planTab 5000 7 [] AH.none (fun v _=>isTrue v) = true:=by kernel_rfl
theorem alive_ok (H:AH):ACalls Tryz.prog 7 [] H fun r H'=>r = .b true ∧ H' = H :=
 ACalls.closed Dims.nil ((runCall_sound alive_run).mono fun r _ h=>isTrue_eq h) H
end Go.Proofs.YtaidfojbnfkclaaGreatDoor
