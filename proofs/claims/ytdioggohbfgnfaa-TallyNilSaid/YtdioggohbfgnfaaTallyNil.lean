/-
  TallyNil: what no tally answers, for every input. No conditions.
-/
import Derived.Test.YtdioggohbfgnfaaTallyFacts
import Derived.Test.YtdioggohbfgnfaaAbsTop
set_option linter.unusedVariables false
set_option linter.unusedSimpArgs false
namespace Go.Proofs.Ytdioggohbfgnfaa
open Go Go.Abs Go.Proofs
set_option maxRecDepth 100000

def isTrue : V → Bool := fun v => match v with | .b true => true | _ => false
theorem isTrue_eq {v : V} (h : isTrue v = true) : v = .b true := by
  unfold isTrue at h; split at h
  · rfl
  · cases h

theorem tallyNil_law (H : AH) (vs : List V) (hv : TVals Try.prog H Try.f6.params.toList vs) : ACalls Try.prog 6 vs H fun r _ => r = .b true := by
  have hv' : TVals Try.prog H [32, 34, 3, 3] vs := hv
  clear hv
  rcases vs with _ | ⟨a, _ | ⟨b, _ | ⟨c, _ | ⟨d, _ | ⟨z, r⟩⟩⟩⟩⟩
  · exact hv'.elim
  · exact hv'.2.elim
  · exact hv'.2.2.elim
  · exact hv'.2.2.2.elim
  · obtain ⟨l, rfl, hl, _⟩ := hv'.1.struct Try.underlying32 cellsOf_32
    obtain ⟨m, rfl, hm, _⟩ := hv'.2.1.struct Try.underlying34 cellsOf_34
    obtain ⟨x, rfl, _⟩ := hv'.2.2.1.i Try.underlying3
    obtain ⟨y, rfl, _⟩ := hv'.2.2.2.1.i Try.underlying3
    refine (ACalls.closed (b := true) (Dims.cons (Dim.agg (Dims.uns l)) (Dims.cons (Dim.agg (Dims.uns m)) (Dims.cons (Dim.i _ x) (Dims.cons (Dim.i _ y) Dims.nil)))) ?_ H).mono fun r H' h => h.1
    rw [hl, hm]
    refine (runCall_sound (T := planTab) (n := 10000) (k := fun v _ => isTrue v) ?_).mono fun r _ h => isTrue_eq h
    kernel_rfl
  · exact hv'.2.2.2.2.elim
end Go.Proofs.Ytdioggohbfgnfaa
