/-
  LedgerNil: what no ledger answers, for every input. No conditions.
-/
import Derived.Test.YtnkheikplfoahaaDoorLedgerFacts
import Derived.Test.YtnkheikplfoahaaDoorAbsEval
set_option linter.unusedVariables false
set_option linter.unusedSimpArgs false
namespace Go.Proofs.YtnkheikplfoahaaDoor
open Go Go.Abs Go.Proofs
set_option maxRecDepth 100000

theorem ledgerNil_law (H : AH) (vs : List V) (hv : TVals Tryd.prog H Tryd.f3.params.toList vs) : ACalls Tryd.prog 3 vs H fun r _ => r = .b true := by
  have hv' : TVals Tryd.prog H [3, 28] vs := hv
  clear hv
  rcases vs with _ | ⟨a, _ | ⟨b, _ | ⟨z, r⟩⟩⟩
  · exact hv'.elim
  · exact hv'.2.elim
  · obtain ⟨x, rfl, _⟩ := hv'.1.i Tryd.underlying3
    obtain ⟨m, rfl, hm, _⟩ := hv'.2.1.struct Tryd.underlying28 cellsOf_28
    refine (ACalls.closed (b := true) (Dims.cons (Dim.i _ x) (Dims.cons (Dim.agg (Dims.uns m)) Dims.nil)) ?_ H).mono fun r H' h => h.1
    rw [hm]
    refine (runCall_sound (T := planTab) (n := 10000) (k := fun v _ => isTrue v) ?_).mono fun r _ h => isTrue_eq h
    kernel_rfl
  · exact hv'.2.2.elim
end Go.Proofs.YtnkheikplfoahaaDoor
