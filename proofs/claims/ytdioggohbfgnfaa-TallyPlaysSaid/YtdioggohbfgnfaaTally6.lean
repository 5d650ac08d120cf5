/-
  The laws of the tally for the arguments as the statements let them in.
-/
import Derived.Test.YtdioggohbfgnfaaTally5
import Derived.Test.YtdioggohbfgnfaaAbsB
set_option linter.unusedVariables false
set_option linter.unusedSimpArgs false
namespace Go.Proofs.Ytdioggohbfgnfaa
open Go Go.Abs Go.Proofs
set_option maxRecDepth 100000
attribute [local irreducible] AEnd AW ACalls

theorem tv_cert {H : AH} {n : Nat} {l : List V} (h : TV Try.prog H (n + 2) 32 l) : ∃ c : Cert, l = c.cells := by
  obtain ⟨x0, e0, _⟩ := (h.fld Try.underlying32 0 rfl rfl rfl cellsOf_3).int Try.underlying3
  obtain ⟨x1, e1, _⟩ := (h.fld Try.underlying32 1 rfl rfl rfl cellsOf_3).int Try.underlying3
  obtain ⟨x2, e2, _⟩ := (h.fld Try.underlying32 2 rfl rfl rfl cellsOf_3).int Try.underlying3
  obtain ⟨x3, e3, _⟩ := (h.fld Try.underlying32 3 rfl rfl rfl cellsOf_3).int Try.underlying3
  obtain ⟨x4, e4, _⟩ := (h.fld Try.underlying32 4 rfl rfl rfl cellsOf_3).int Try.underlying3
  obtain ⟨x5, e5, _⟩ := (h.fld Try.underlying32 5 rfl rfl rfl cellsOf_3).int Try.underlying3
  obtain ⟨x6, e6, b6⟩ := (h.fld Try.underlying32 6 rfl rfl rfl cellsOf_30).int Try.underlying30
  obtain ⟨x7, e7, b7⟩ := (h.fld Try.underlying32 7 rfl rfl rfl cellsOf_30).int Try.underlying30
  have hl := h.size Try.underlying32 cellsOf_32
  obtain ⟨s6, g6⟩ := u32_of b6.1 b6.2
  obtain ⟨s7, g7⟩ := u32_of b7.1 b7.2
  refine ⟨⟨x0, x1, x2, x3, x4, x5, s6, s7⟩, ?_⟩
  rcases l with _ | ⟨a0, _ | ⟨a1, _ | ⟨a2, _ | ⟨a3, _ | ⟨a4, _ | ⟨a5, _ | ⟨a6, _ | ⟨a7, _ | ⟨d, r⟩⟩⟩⟩⟩⟩⟩⟩⟩ <;> simp at hl
  simp at e0 e1 e2 e3 e4 e5 e6 e7
  simp [Cert.cells, e0, e1, e2, e3, e4, e5, e6, e7, ← g6, ← g7]
theorem tv_acts {H : AH} {v : V} (h : TVal Try.prog H 22 v) : ∃ xs : List Act, RS H v 21 (xs.map Act.cells) := by
  obtain ⟨ls, h3, h4, h5⟩ := h.rs Try.underlying22 cellsOf_36
  obtain ⟨xs, rfl⟩ := exists_map (f := Act.cells) (ls := ls) fun l hl => by
    have h6 := h4 l hl
    obtain ⟨x0, e0, _⟩ := (h6.fld Try.underlying36 0 rfl rfl rfl cellsOf_3).int Try.underlying3
    obtain ⟨x1, e1, _⟩ := (h6.fld Try.underlying36 1 rfl rfl rfl cellsOf_3).int Try.underlying3
    obtain ⟨x2, e2, _⟩ := (h6.fld Try.underlying36 2 rfl rfl rfl cellsOf_3).int Try.underlying3
    obtain ⟨c, e3⟩ := tv_cert (h6.fld Try.underlying36 3 rfl rfl rfl cellsOf_32)
    have hl := h6.size Try.underlying36 cellsOf_36
    refine ⟨⟨x0, x1, x2, c, l.drop 11⟩, ?_⟩
    rcases l with _ | ⟨a0, _ | ⟨a1, _ | ⟨a2, l⟩⟩⟩ <;> simp at hl
    simp at e0 e1 e2 e3
    simp [Act.cells, e0, e1, e2, ← e3]
  exact ⟨xs, h3⟩
theorem tallyForgets_law (H : AH) (vs : List V) (hv : TVals Try.prog H Try.f4.params.toList vs) : ACalls Try.prog 4 vs H fun r _ => r = .b true := by
  have hv' : TVals Try.prog H [3, 22, 3] vs := hv
  clear hv
  rcases vs with _ | ⟨a, _ | ⟨b, _ | ⟨c, _ | ⟨z, r⟩⟩⟩⟩
  · exact hv'.elim
  · exact hv'.2.elim
  · exact hv'.2.2.elim
  · obtain ⟨x, rfl, _⟩ := hv'.1.i Try.underlying3
    obtain ⟨l, hl⟩ := tv_acts hv'.2.1
    obtain ⟨y, rfl, _⟩ := hv'.2.2.1.i Try.underlying3
    exact forgets_law H x y hl
  · exact hv'.2.2.2.elim
end Go.Proofs.Ytdioggohbfgnfaa
