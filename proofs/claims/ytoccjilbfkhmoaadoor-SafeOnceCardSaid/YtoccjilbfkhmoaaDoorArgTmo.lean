/-
  Certificates and timeouts as arguments.
-/
import Derived.Test.YtoccjilbfkhmoaaDoorBlock1
import Derived.Test.YtoccjilbfkhmoaaDoorAbsB
set_option linter.unusedVariables false
set_option linter.unusedSimpArgs false
namespace Go.Proofs.YtoccjilbfkhmoaaDoor
open Go Go.Abs Go.Proofs
set_option maxRecDepth 100000
attribute [local irreducible] AEnd AW ACalls

theorem tv_cert {H : AH} {n : Nat} {l : List V} (h : TV Tryd.prog H (n + 2) 27 l) : ∃ c : Cert, l = c.cells := by
  obtain ⟨x0, e0, _⟩ := (h.fld Tryd.underlying27 0 rfl rfl rfl cellsOf_3).int Tryd.underlying3
  obtain ⟨x1, e1, _⟩ := (h.fld Tryd.underlying27 1 rfl rfl rfl cellsOf_3).int Tryd.underlying3
  obtain ⟨x2, e2, _⟩ := (h.fld Tryd.underlying27 2 rfl rfl rfl cellsOf_3).int Tryd.underlying3
  obtain ⟨x3, e3, _⟩ := (h.fld Tryd.underlying27 3 rfl rfl rfl cellsOf_3).int Tryd.underlying3
  obtain ⟨x4, e4, _⟩ := (h.fld Tryd.underlying27 4 rfl rfl rfl cellsOf_3).int Tryd.underlying3
  obtain ⟨x5, e5, _⟩ := (h.fld Tryd.underlying27 5 rfl rfl rfl cellsOf_3).int Tryd.underlying3
  obtain ⟨x6, e6, b6⟩ := (h.fld Tryd.underlying27 6 rfl rfl rfl cellsOf_25).int Tryd.underlying25
  obtain ⟨x7, e7, b7⟩ := (h.fld Tryd.underlying27 7 rfl rfl rfl cellsOf_25).int Tryd.underlying25
  have hl := h.size Tryd.underlying27 cellsOf_27
  obtain ⟨s6, g6⟩ := u32_of b6.1 b6.2
  obtain ⟨s7, g7⟩ := u32_of b7.1 b7.2
  refine ⟨⟨x0, x1, x2, x3, x4, x5, s6, s7⟩, ?_⟩
  rcases l with _ | ⟨a0, _ | ⟨a1, _ | ⟨a2, _ | ⟨a3, _ | ⟨a4, _ | ⟨a5, _ | ⟨a6, _ | ⟨a7, _ | ⟨d, r⟩⟩⟩⟩⟩⟩⟩⟩⟩ <;> simp at hl
  simp at e0 e1 e2 e3 e4 e5 e6 e7
  simp [Cert.cells, e0, e1, e2, e3, e4, e5, e6, e7, ← g6, ← g7]
theorem tv_tmo {H : AH} {n : Nat} {l : List V} (h : TV Tryd.prog H (n + 3) 104 l) : ∃ t : Tmo, l = t.cells := by
  obtain ⟨x0, e0, _⟩ := (h.fld Tryd.underlying104 0 rfl rfl rfl cellsOf_3).int Tryd.underlying3
  obtain ⟨x1, e1, _⟩ := (h.fld Tryd.underlying104 1 rfl rfl rfl cellsOf_3).int Tryd.underlying3
  obtain ⟨c, e2⟩ := tv_cert (h.fld Tryd.underlying104 2 rfl rfl rfl cellsOf_27)
  have hl := h.size Tryd.underlying104 cellsOf_104
  refine ⟨⟨x0, x1, c⟩, ?_⟩
  rcases l with _ | ⟨a0, _ | ⟨a1, l⟩⟩ <;> simp at hl
  have h8 : List.take 8 l = l := List.take_of_length_le (by omega)
  simp at e0 e1 e2
  rw [h8] at e2
  simp [Tmo.cells, e0, e1, e2]
end Go.Proofs.YtoccjilbfkhmoaaDoor
