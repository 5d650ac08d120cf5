import Derived.Test.YtlldkkjfbgbdhaaAuditFacts
import Derived.Test.YtlldkkjfbgbdhaaAbsEval
set_option linter.unusedVariables false
namespace Go.Proofs.Ytlldkkjfbgbdhaa
open Go Go.Abs Go.Proofs
theorem alive_run : runCall Try.prog planTab 10000 4 [] AH.none (fun v _ => isTrue v) = true := by kernel_rfl
theorem alive_ok (H : AH) : ACalls Try.prog 4 [] H fun r H' => r = .b true ∧ H' = H :=
  ACalls.closed Dims.nil ((runCall_sound alive_run).mono fun r _ h => isTrue_eq h) H
end Go.Proofs.Ytlldkkjfbgbdhaa
