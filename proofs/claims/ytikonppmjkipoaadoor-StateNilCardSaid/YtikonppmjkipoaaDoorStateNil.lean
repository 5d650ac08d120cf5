/-
  StateNil: what no state answers, for every input. No conditions.
-/
import Derived.Test.YtikonppmjkipoaaDoorYtikonppmjkipoaaDoorFacts
import Derived.Test.YtikonppmjkipoaaDoorAbsC
set_option linter.unusedVariables false
set_option linter.unusedSimpArgs false
namespace Go.Proofs.YtikonppmjkipoaaDoor
open Go Go.Abs Go.Proofs
set_option maxRecDepth 100000

theorem stateNil_law (H : AH) (vs : List V) (hv : TVals Tryd.prog H Tryd.f6.params.toList vs) : ACalls Tryd.prog 6 vs H fun r _ => r = .b true := by
  have hv' : TVals Tryd.prog H [25] vs := hv
  clear hv
  rcases vs with _ | ⟨a, _ | ⟨z, r⟩⟩
  · exact hv'.elim
  · obtain ⟨m, rfl, hm, _⟩ := hv'.1.struct Tryd.underlying25 cellsOf_25
    refine (ACalls.closed (b := true) (Dims.cons (Dim.agg (Dims.uns m)) Dims.nil) ?_ H).mono fun r H' h => h.1
    rw [hm]
    refine (runCall_sound (T := planTab) (n := 10000) (k := fun v _ => isTrue v) ?_).mono fun r _ h => isTrue_eq h
    kernel_rfl
  · exact hv'.2.elim
end Go.Proofs.YtikonppmjkipoaaDoor
