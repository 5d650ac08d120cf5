/-
  AuditEven: the law for the arguments as the statement lets them in.
-/
import Derived.Test.YtlldkkjfbgbdhaaAudit4
import Derived.Test.YtlldkkjfbgbdhaaAbsTop
set_option linter.unusedVariables false
set_option linter.unusedSimpArgs false
namespace Go.Proofs.Ytlldkkjfbgbdhaa
open Go Go.Abs Go.Proofs
set_option maxRecDepth 100000
attribute [local irreducible] AEnd AW ACalls

theorem tv_ints {H : AH} {v : V} (h : TVal Try.prog H 22 v) : ∃ xs : List Int, RS H v 1 (ints xs) := by
  obtain ⟨ls, h3, h4, h5⟩ := h.rs Try.underlying22 cellsOf_3
  obtain ⟨xs, rfl⟩ := exists_map (f := fun x => [V.i .i64 x]) (ls := ls) fun l hl => by
    obtain ⟨x, rfl, _⟩ := (h4 l hl).int Try.underlying3
    exact ⟨x, rfl⟩
  exact ⟨xs, h3⟩
theorem tv_stmt {H : AH} {n : Nat} {l : List V} (h : TV Try.prog H (n + 2) 28 l) : ∃ a b c d e f g i j k : Int, l = [.i .i64 a, .i .i64 b, .i .i64 c, .i .i64 d, .i .i64 e, .i .i64 f, .i .i64 g, .i .i64 i, .i .i64 j, .i .i64 k] := by
  obtain ⟨x0, e0, _⟩ := (h.fld Try.underlying28 0 rfl rfl rfl cellsOf_3).int Try.underlying3
  obtain ⟨x1, e1, _⟩ := (h.fld Try.underlying28 1 rfl rfl rfl cellsOf_3).int Try.underlying3
  obtain ⟨x2, e2, _⟩ := (h.fld Try.underlying28 2 rfl rfl rfl cellsOf_3).int Try.underlying3
  obtain ⟨x3, e3, _⟩ := (h.fld Try.underlying28 3 rfl rfl rfl cellsOf_3).int Try.underlying3
  obtain ⟨x4, e4, _⟩ := (h.fld Try.underlying28 4 rfl rfl rfl cellsOf_3).int Try.underlying3
  obtain ⟨x5, e5, _⟩ := (h.fld Try.underlying28 5 rfl rfl rfl cellsOf_3).int Try.underlying3
  obtain ⟨x6, e6, _⟩ := (h.fld Try.underlying28 6 rfl rfl rfl cellsOf_3).int Try.underlying3
  obtain ⟨x7, e7, _⟩ := (h.fld Try.underlying28 7 rfl rfl rfl cellsOf_3).int Try.underlying3
  obtain ⟨x8, e8, _⟩ := (h.fld Try.underlying28 8 rfl rfl rfl cellsOf_3).int Try.underlying3
  obtain ⟨x9, e9, _⟩ := (h.fld Try.underlying28 9 rfl rfl rfl cellsOf_3).int Try.underlying3
  have hl := h.size Try.underlying28 cellsOf_28
  refine ⟨x0, x1, x2, x3, x4, x5, x6, x7, x8, x9, ?_⟩
  rcases l with _ | ⟨a0, _ | ⟨a1, _ | ⟨a2, _ | ⟨a3, _ | ⟨a4, _ | ⟨a5, _ | ⟨a6, _ | ⟨a7, _ | ⟨a8, _ | ⟨a9, _ | ⟨d, r⟩⟩⟩⟩⟩⟩⟩⟩⟩⟩⟩ <;> simp at hl
  simp at e0 e1 e2 e3 e4 e5 e6 e7 e8 e9
  simp [e0, e1, e2, e3, e4, e5, e6, e7, e8, e9]
theorem tv_shares {H : AH} {v : V} (h : TVal Try.prog H 23 v) : ∃ xs : List Sh, RS H v 11 (xs.map Sh.cells) := by
  obtain ⟨ls, h3, h4, h5⟩ := h.rs Try.underlying23 cellsOf_30
  obtain ⟨xs, rfl⟩ := exists_map (f := Sh.cells) (ls := ls) fun l hl => by
    have h6 := h4 l hl
    obtain ⟨s, e0, _⟩ := (h6.fld Try.underlying30 0 rfl rfl rfl cellsOf_3).int Try.underlying3
    obtain ⟨a, b, c, d, e, f, g, i, j, k, e1⟩ := tv_stmt (h6.fld Try.underlying30 1 rfl rfl rfl cellsOf_28)
    have hl := h6.size Try.underlying30 cellsOf_30
    rcases l with _ | ⟨x, r⟩
    · simp at hl
    · simp at hl e0 e1
      rw [List.take_of_length_le (by omega)] at e1
      subst e0 e1
      exact ⟨⟨s, a, b, c, d, e, f, g, i, j, k⟩, rfl⟩
  exact ⟨xs, h3⟩

theorem auditEven_law (H : AH) (vs : List V) (hv : TVals Try.prog H Try.f3.params.toList vs) : ACalls Try.prog 3 vs H fun r _ => r = .b true := by
  have hv' : TVals Try.prog H [22, 22, 23, 24] vs := hv
  clear hv
  rcases vs with _ | ⟨a, _ | ⟨b, _ | ⟨c, _ | ⟨d, _ | ⟨z, r⟩⟩⟩⟩⟩
  · exact hv'.elim
  · exact hv'.2.elim
  · exact hv'.2.2.elim
  · exact hv'.2.2.2.elim
  · obtain ⟨xa, ha⟩ := tv_ints hv'.1
    obtain ⟨xb, hb⟩ := tv_ints hv'.2.1
    obtain ⟨xl, hl⟩ := tv_shares hv'.2.2.1
    obtain ⟨x, rfl, q1, q2⟩ := hv'.2.2.2.1.i Try.underlying24
    obtain ⟨bad, e⟩ := u32_of q1 q2
    rw [e]
    exact even_law H bad ha hb hl
  · exact hv'.2.2.2.2.elim
end Go.Proofs.Ytlldkkjfbgbdhaa
