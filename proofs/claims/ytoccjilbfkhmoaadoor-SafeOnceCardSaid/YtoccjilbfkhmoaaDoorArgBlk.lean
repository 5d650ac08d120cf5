/-
  Blocks as arguments.
-/
import Derived.Test.YtoccjilbfkhmoaaDoorBlock3
import Derived.Test.YtoccjilbfkhmoaaDoorArgTmo
set_option linter.unusedVariables false
set_option linter.unusedSimpArgs false
namespace Go.Proofs.YtoccjilbfkhmoaaDoor
open Go Go.Abs Go.Proofs
set_option maxRecDepth 100000
attribute [local irreducible] AEnd AW ACalls

theorem tv_tx {H : AH} {n : Nat} {l : List V} (h : TV Tryd.prog H (n + 2) 108 l) : ∃ t : Tx, l = t.cells := by
  obtain ⟨x0, e0, _⟩ := (h.fld Tryd.underlying108 0 rfl rfl rfl cellsOf_3).int Tryd.underlying3
  obtain ⟨x1, e1, _⟩ := (h.fld Tryd.underlying108 1 rfl rfl rfl cellsOf_9).str Tryd.underlying9
  obtain ⟨x2, e2, _⟩ := (h.fld Tryd.underlying108 2 rfl rfl rfl cellsOf_9).str Tryd.underlying9
  obtain ⟨x3, e3, _⟩ := (h.fld Tryd.underlying108 3 rfl rfl rfl cellsOf_9).str Tryd.underlying9
  obtain ⟨x4, e4, _⟩ := (h.fld Tryd.underlying108 4 rfl rfl rfl cellsOf_9).str Tryd.underlying9
  obtain ⟨x5, e5, _⟩ := (h.fld Tryd.underlying108 5 rfl rfl rfl cellsOf_2).int Tryd.underlying2
  obtain ⟨x6, e6, _⟩ := (h.fld Tryd.underlying108 6 rfl rfl rfl cellsOf_2).int Tryd.underlying2
  have hl := h.size Tryd.underlying108 cellsOf_108
  refine ⟨⟨x0, x1, x2, x3, x4, x5, x6⟩, ?_⟩
  rcases l with _ | ⟨a0, _ | ⟨a1, _ | ⟨a2, _ | ⟨a3, _ | ⟨a4, _ | ⟨a5, _ | ⟨a6, _ | ⟨d, r⟩⟩⟩⟩⟩⟩⟩⟩ <;> simp at hl
  simp at e0 e1 e2 e3 e4 e5 e6
  simp [Tx.cells, e0, e1, e2, e3, e4, e5, e6]
theorem tv_blk {H : AH} {n : Nat} {l : List V} (h : TV Tryd.prog H (n + 5) 61 l) : ∃ (b : Blk) (pv tv : V), l = b.cells pv tv ∧ BlkAt H b pv tv := by
  obtain ⟨x0, e0, _⟩ := (h.fld Tryd.underlying61 0 rfl rfl rfl cellsOf_3).int Tryd.underlying3
  obtain ⟨x1, e1, _⟩ := (h.fld Tryd.underlying61 1 rfl rfl rfl cellsOf_3).int Tryd.underlying3
  obtain ⟨x2, e2, _⟩ := (h.fld Tryd.underlying61 2 rfl rfl rfl cellsOf_3).int Tryd.underlying3
  obtain ⟨x3, e3, _⟩ := (h.fld Tryd.underlying61 3 rfl rfl rfl cellsOf_3).int Tryd.underlying3
  obtain ⟨c, e4⟩ := tv_cert (h.fld Tryd.underlying61 4 rfl rfl rfl cellsOf_27)
  obtain ⟨pv, lp, e5, _, hp, hp2, _⟩ := (h.fld Tryd.underlying61 5 rfl rfl rfl cellsOf_58).rs Tryd.underlying58 cellsOf_104
  obtain ⟨tv, lt, e6, _, ht, ht2, _⟩ := (h.fld Tryd.underlying61 6 rfl rfl rfl cellsOf_59).rs Tryd.underlying59 cellsOf_108
  obtain ⟨ps, rfl⟩ := exists_map (f := Tmo.cells) fun l hl => tv_tmo (hp2 l hl)
  obtain ⟨ts, rfl⟩ := exists_map (f := Tx.cells) fun l hl => tv_tx (ht2 l hl)
  have hl := h.size Tryd.underlying61 cellsOf_61
  refine ⟨⟨x0, x1, x2, x3, c, ps, ts⟩, pv, tv, ?_, hp, ht⟩
  rcases l with _ | ⟨a0, _ | ⟨a1, _ | ⟨a2, _ | ⟨a3, l⟩⟩⟩⟩ <;> simp at hl
  simp at e0 e1 e2 e3 e4 e5 e6
  have e7 : l = (l.take 8) ++ ((l.drop 8).take 1 ++ (l.drop 9).take 1) := by
    rcases l with _ | ⟨a0, _ | ⟨a1, _ | ⟨a2, _ | ⟨a3, _ | ⟨a4, _ | ⟨a5, _ | ⟨a6, _ | ⟨a7, _ | ⟨a8, _ | ⟨a9, l⟩⟩⟩⟩⟩⟩⟩⟩⟩⟩ <;> simp at hl
    subst hl; rfl
  rw [e7, e4, e5, e6, e0, e1, e2, e3]
  rfl
end Go.Proofs.YtoccjilbfkhmoaaDoor
