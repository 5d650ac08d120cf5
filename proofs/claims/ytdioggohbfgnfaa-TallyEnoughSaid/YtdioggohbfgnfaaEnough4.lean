/-
  TallyEnough for the arguments as the statement lets them in.
-/
import Derived.Test.YtdioggohbfgnfaaEnough3
import Derived.Test.YtdioggohbfgnfaaAbsTop
set_option linter.unusedVariables false
set_option linter.unusedSimpArgs false
namespace Go.Proofs.Ytdioggohbfgnfaa
open Go Go.Abs Go.Proofs
set_option maxRecDepth 100000
attribute [local irreducible] AEnd AW ACalls

theorem tv_bytes {H : AH} {v : V} (h : TVal Try.prog H 23 v) : ∃ xs : List UInt8, RS H v 1 (xs.map fun b => [.i .u8 b.toNat]) := by
  obtain ⟨ls, h3, h4, h5⟩ := h.rs Try.underlying23 cellsOf_5
  obtain ⟨xs, rfl⟩ := exists_map (f := fun b : UInt8 => [V.i .u8 b.toNat]) (ls := ls) fun l hl => by
    obtain ⟨x, rfl, h1, h2⟩ := (h4 l hl).int Try.underlying5
    have e1 : (0 : Int) ≤ x := h1
    have e2 : x ≤ 255 := h2
    refine ⟨UInt8.ofNat x.toNat, ?_⟩
    have : (UInt8.ofNat x.toNat).toNat = x.toNat := by simp; omega
    rw [this]
    congr 2
    omega
  exact ⟨xs, h3⟩
theorem tallyEnough_law (H : AH) (vs : List V) (hv : TVals Try.prog H Try.f3.params.toList vs) : ACalls Try.prog 3 vs H fun r _ => r = .b true := by
  have hv' : TVals Try.prog H [3, 22, 23] vs := hv
  clear hv
  rcases vs with _ | ⟨a, _ | ⟨b, _ | ⟨c, _ | ⟨z, r⟩⟩⟩⟩
  · exact hv'.elim
  · exact hv'.2.elim
  · exact hv'.2.2.elim
  · obtain ⟨x, rfl, _⟩ := hv'.1.i Try.underlying3
    obtain ⟨l, hl⟩ := tv_acts hv'.2.1
    obtain ⟨ts, ht⟩ := tv_bytes hv'.2.2.1
    exact enough_law H x hl ht
  · exact hv'.2.2.2.elim
end Go.Proofs.Ytdioggohbfgnfaa
