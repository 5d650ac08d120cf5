import Derived.Test.YtmbjcpjhlceenaaBook6
import Derived.Test.YtmbjcpjhlceenaaBook5
set_option linter.unusedVariables false
set_option linter.unusedSimpArgs false
namespace Go.Proofs.Ytmbjcpjhlceenaa
open Go Go.Abs Go.Proofs Go.ChangeShapes Go.WideShapes Go.ChangeAt Go.RowKit
set_option maxRecDepth 100000

theorem tv_acts {H : AH} {v : V} (h : TVal Try.prog H 33 v) : ∃ xs : List (Int × Int × List UInt8), SlR H v 3 (xs.map actV) := by
  obtain ⟨v', ls, h1, h2, h3, h4, h5⟩ := TV.slice (h.leaf qagg_33) Try.underlying33 cellsOf_38
  obtain rfl : v = v' := by simpa using h1
  obtain ⟨xs, rfl⟩ := exists_map (f := actV) (ls := ls) fun l hl => by
    have h6 := h4 l hl
    obtain ⟨k, e0, _⟩ := (h6.fld Try.underlying38 0 rfl rfl rfl cellsOf_3).int Try.underlying3
    obtain ⟨n, e1, _⟩ := (h6.fld Try.underlying38 1 rfl rfl rfl cellsOf_3).int Try.underlying3
    obtain ⟨s, e2, _⟩ := (h6.fld Try.underlying38 2 rfl rfl rfl cellsOf_9).str Try.underlying9
    have hl := h6.size Try.underlying38 cellsOf_38
    refine ⟨(k, n, s), ?_⟩
    rcases l with _ | ⟨a, _ | ⟨b, _ | ⟨c, _ | ⟨d, r⟩⟩⟩⟩ <;> simp at hl
    simp at e0 e1 e2
    simp [actV, e0, e1, e2]
  exact ⟨xs, h3⟩

theorem plays_lifted (os : Os) (started : os.Started) (H : Type) (enc : TypeId × Value → H) :
    ReturnsInHanded {} Try.checked os 4 .any (Rows.bookPlaysSpec.pre6 enc Try.prog Try.f4 Rows.bookPlaysRow.domain false) (Rows.bookPlaysSpec.post enc Try.prog Try.f4 false true false false) := by
  refine law_lifted (C := Try.checked) (tb := 4) own started (by kernel_rfl) Try.func4
    (ChangeSpec.witness6 (enc := enc) (C := Try.checked) false ⟨#[], #[.slice none 0 0], []⟩ 8 (by kernel_rfl) (by kernel_rfl) (by kernel_rfl) (by kernel_rfl))
    laid ?_ ?_ rfl Try.underlying4 rfl ?_ ?_
  · intro t ht
    have ht' : t ∈ [33] := ht
    simp only [List.mem_cons, List.not_mem_nil, or_false] at ht'
    subst ht'
    exact ⟨by kernel_rfl, fun _ => by kernel_rfl⟩
  · intro t ht
    have ht' : t ∈ [33] := ht
    simp only [List.mem_cons, List.not_mem_nil, or_false] at ht'
    subst ht'
    exact ⟨by kernel_rfl, of_decide_eq_true (by kernel_rfl)⟩
  · intro ds hl
    have hl' : ds.length = 1 := hl
    clear hl
    rcases ds with _ | ⟨a, _ | ⟨b, r⟩⟩
    · simp at hl'
    · rfl
    · simp at hl'
  · intro H vs hv
    have hv' : TVals Try.prog H [33] vs := hv
    clear hv
    rcases vs with _ | ⟨a, _ | ⟨b, r⟩⟩
    · exact hv'.elim
    · obtain ⟨xs, hx⟩ := tv_acts hv'.1
      exact plays_law H a xs hx
    · exact hv'.2.elim

/-- THE STATEMENT. -/
theorem bookPlays_holds : Rows.BookPlaysSaid :=
  OpenClaim.holds_of_wide 4 Try.f4 rfl rfl rfl rfl rfl rfl rfl ⟨rfl, rfl, rfl, rfl, rfl⟩ rfl rfl rfl rfl rfl (by kernel_rfl) Try.func4 (by kernel_rfl)
    (of_decide_eq_true (by kernel_rfl)) (by unfold Func.isWrapper; first | (rw [if_pos (by decide +kernel)]; kernel_rfl) | (rw [if_neg (by decide +kernel)]; exact ⟨rfl, rfl⟩))
    (fun os started H enc _ => plays_lifted os started H enc)
end Go.Proofs.Ytmbjcpjhlceenaa
