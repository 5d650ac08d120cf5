/-
  Blocks as arguments.
-/
import Derived.Test.YtoccjilbfkhmoaaGreatDoorBlock3
import Derived.Test.YtoccjilbfkhmoaaGreatDoorArgTmo
set_option linter.unusedVariables false
set_option linter.unusedSimpArgs false
namespace Go.Proofs.YtoccjilbfkhmoaaGreatDoor
open Go Go.Abs Go.Proofs
set_option maxRecDepth 100000
attribute [local irreducible] AEnd AW ACalls

theorem tv_tx {H : AH} {n : Nat} {l : List V} (h : TV Tryz.prog H (n + 2) 150 l) : ∃ t : Tx, l = t.cells := by
  obtain ⟨x0, e0, _⟩ := (h.fld Tryz.underlying150 0 rfl rfl rfl cellsOf_3).int Tryz.underlying3
  obtain ⟨x1, e1, _⟩ := (h.fld Tryz.underlying150 1 rfl rfl rfl cellsOf_9).str Tryz.underlying9
  obtain ⟨x2, e2, _⟩ := (h.fld Tryz.underlying150 2 rfl rfl rfl cellsOf_9).str Tryz.underlying9
  obtain ⟨x3, e3, _⟩ := (h.fld Tryz.underlying150 3 rfl rfl rfl cellsOf_9).str Tryz.underlying9
  obtain ⟨x4, e4, _⟩ := (h.fld Tryz.underlying150 4 rfl rfl rfl cellsOf_9).str Tryz.underlying9
  obtain ⟨x5, e5, _⟩ := (h.fld Tryz.underlying150 5 rfl rfl rfl cellsOf_2).int Tryz.underlying2
  obtain ⟨x6, e6, _⟩ := (h.fld Tryz.underlying150 6 rfl rfl rfl cellsOf_2).int Tryz.underlying2
  have hl := h.size Tryz.underlying150 cellsOf_150
  refine ⟨⟨x0, x1, x2, x3, x4, x5, x6⟩, ?_⟩
  rcases l with _ | ⟨a0, _ | ⟨a1, _ | ⟨a2, _ | ⟨a3, _ | ⟨a4, _ | ⟨a5, _ | ⟨a6, _ | ⟨d, r⟩⟩⟩⟩⟩⟩⟩⟩ <;> simp at hl
  simp at e0 e1 e2 e3 e4 e5 e6
  simp [Tx.cells, e0, e1, e2, e3, e4, e5, e6]
theorem tv_blk {H : AH} {n : Nat} {l : List V} (h : TV Tryz.prog H (n + 5) 68 l) : ∃ (b : Blk) (pv tv : V), l = b.cells pv tv ∧ BlkAt H b pv tv := by
  obtain ⟨x0, e0, _⟩ := (h.fld Tryz.underlying68 0 rfl rfl rfl cellsOf_3).int Tryz.underlying3
  obtain ⟨x1, e1, _⟩ := (h.fld Tryz.underlying68 1 rfl rfl rfl cellsOf_3).int Tryz.underlying3
  obtain ⟨x2, e2, _⟩ := (h.fld Tryz.underlying68 2 rfl rfl rfl cellsOf_3).int Tryz.underlying3
  obtain ⟨x3, e3, _⟩ := (h.fld Tryz.underlying68 3 rfl rfl rfl cellsOf_3).int Tryz.underlying3
  obtain ⟨c, e4⟩ := tv_cert (h.fld Tryz.underlying68 4 rfl rfl rfl cellsOf_24)
  obtain ⟨pv, lp, e5, _, hp, hp2, _⟩ := (h.fld Tryz.underlying68 5 rfl rfl rfl cellsOf_65).rs Tryz.underlying65 cellsOf_148
  obtain ⟨tv, lt, e6, _, ht, ht2, _⟩ := (h.fld Tryz.underlying68 6 rfl rfl rfl cellsOf_66).rs Tryz.underlying66 cellsOf_150
  obtain ⟨ps, rfl⟩ := exists_map (f := Tmo.cells) fun l hl => tv_tmo (hp2 l hl)
  obtain ⟨ts, rfl⟩ := exists_map (f := Tx.cells) fun l hl => tv_tx (ht2 l hl)
  have hl := h.size Tryz.underlying68 cellsOf_68
  refine ⟨⟨x0, x1, x2, x3, c, ps, ts⟩, pv, tv, ?_, hp, ht⟩
  rcases l with _ | ⟨a0, _ | ⟨a1, _ | ⟨a2, _ | ⟨a3, l⟩⟩⟩⟩ <;> simp at hl
  simp at e0 e1 e2 e3 e4 e5 e6
  have e7 : l = (l.take 8) ++ ((l.drop 8).take 1 ++ (l.drop 9).take 1) := by
    rcases l with _ | ⟨a0, _ | ⟨a1, _ | ⟨a2, _ | ⟨a3, _ | ⟨a4, _ | ⟨a5, _ | ⟨a6, _ | ⟨a7, _ | ⟨a8, _ | ⟨a9, l⟩⟩⟩⟩⟩⟩⟩⟩⟩⟩ <;> simp at hl
    subst hl; rfl
  rw [e7, e4, e5, e6, e0, e1, e2, e3]
  rfl
end Go.Proofs.YtoccjilbfkhmoaaGreatDoor
