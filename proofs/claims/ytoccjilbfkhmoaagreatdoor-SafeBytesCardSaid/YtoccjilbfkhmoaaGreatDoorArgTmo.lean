/-
  Certificates and timeouts as arguments.
-/
import Derived.Test.YtoccjilbfkhmoaaGreatDoorBlock1
import Derived.Test.YtoccjilbfkhmoaaGreatDoorAbsB
set_option linter.unusedVariables false
set_option linter.unusedSimpArgs false
namespace Go.Proofs.YtoccjilbfkhmoaaGreatDoor
open Go Go.Abs Go.Proofs
set_option maxRecDepth 100000
attribute [local irreducible] AEnd AW ACalls

theorem tv_cert {H : AH} {n : Nat} {l : List V} (h : TV Tryz.prog H (n + 2) 24 l) : ∃ c : Cert, l = c.cells := by
  obtain ⟨x0, e0, _⟩ := (h.fld Tryz.underlying24 0 rfl rfl rfl cellsOf_3).int Tryz.underlying3
  obtain ⟨x1, e1, _⟩ := (h.fld Tryz.underlying24 1 rfl rfl rfl cellsOf_3).int Tryz.underlying3
  obtain ⟨x2, e2, _⟩ := (h.fld Tryz.underlying24 2 rfl rfl rfl cellsOf_3).int Tryz.underlying3
  obtain ⟨x3, e3, _⟩ := (h.fld Tryz.underlying24 3 rfl rfl rfl cellsOf_3).int Tryz.underlying3
  obtain ⟨x4, e4, _⟩ := (h.fld Tryz.underlying24 4 rfl rfl rfl cellsOf_3).int Tryz.underlying3
  obtain ⟨x5, e5, _⟩ := (h.fld Tryz.underlying24 5 rfl rfl rfl cellsOf_3).int Tryz.underlying3
  obtain ⟨x6, e6, b6⟩ := (h.fld Tryz.underlying24 6 rfl rfl rfl cellsOf_22).int Tryz.underlying22
  obtain ⟨x7, e7, b7⟩ := (h.fld Tryz.underlying24 7 rfl rfl rfl cellsOf_22).int Tryz.underlying22
  have hl := h.size Tryz.underlying24 cellsOf_24
  obtain ⟨s6, g6⟩ := u32_of b6.1 b6.2
  obtain ⟨s7, g7⟩ := u32_of b7.1 b7.2
  refine ⟨⟨x0, x1, x2, x3, x4, x5, s6, s7⟩, ?_⟩
  rcases l with _ | ⟨a0, _ | ⟨a1, _ | ⟨a2, _ | ⟨a3, _ | ⟨a4, _ | ⟨a5, _ | ⟨a6, _ | ⟨a7, _ | ⟨d, r⟩⟩⟩⟩⟩⟩⟩⟩⟩ <;> simp at hl
  simp at e0 e1 e2 e3 e4 e5 e6 e7
  simp [Cert.cells, e0, e1, e2, e3, e4, e5, e6, e7, ← g6, ← g7]
theorem tv_tmo {H : AH} {n : Nat} {l : List V} (h : TV Tryz.prog H (n + 3) 148 l) : ∃ t : Tmo, l = t.cells := by
  obtain ⟨x0, e0, _⟩ := (h.fld Tryz.underlying148 0 rfl rfl rfl cellsOf_3).int Tryz.underlying3
  obtain ⟨x1, e1, _⟩ := (h.fld Tryz.underlying148 1 rfl rfl rfl cellsOf_3).int Tryz.underlying3
  obtain ⟨c, e2⟩ := tv_cert (h.fld Tryz.underlying148 2 rfl rfl rfl cellsOf_24)
  have hl := h.size Tryz.underlying148 cellsOf_148
  refine ⟨⟨x0, x1, c⟩, ?_⟩
  rcases l with _ | ⟨a0, _ | ⟨a1, l⟩⟩ <;> simp at hl
  have h8 : List.take 8 l = l := List.take_of_length_le (by omega)
  simp at e0 e1 e2
  rw [h8] at e2
  simp [Tmo.cells, e0, e1, e2]
end Go.Proofs.YtoccjilbfkhmoaaGreatDoor
