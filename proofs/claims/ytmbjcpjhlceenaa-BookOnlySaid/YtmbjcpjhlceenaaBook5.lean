import Derived.Test.YtmbjcpjhlceenaaBook3
import Derived.Test.YtmbjcpjhlceenaaAbsTop
import Derived.Test.YtmbjcpjhlceenaaRows
import Derived.ProofKit
set_option linter.unusedVariables false
set_option linter.unusedSimpArgs false
namespace Go.Proofs.Ytmbjcpjhlceenaa
open Go Go.Abs Go.Proofs Go.ChangeShapes Go.WideShapes Go.ChangeAt Go.RowKit
set_option maxRecDepth 100000

theorem own : ownKnob Try.prog.godebug = none := by kernel_rfl
theorem laid : laidOutB Try.prog = true := by kernel_rfl

theorem tv_s {H : AH} {v : V} (h : TVal Try.prog H 9 v) : ∃ s, v = .s s ∧ s.length ≤ 140737488351232 := by
  obtain ⟨l, h1, h2, h3, h4⟩ := h
  simp only [TV, Try.underlying9] at h2
  obtain ⟨s, rfl, hs⟩ := h2
  cases v with
  | agg l => exact absurd rfl (h4 qagg_9 l)
  | s s' => simp [V.cells] at h1; exact ⟨s', rfl, h1 ▸ hs⟩
  | _ => simp [V.cells] at h1
theorem tv_i {H : AH} {v : V} (h : TVal Try.prog H 3 v) : ∃ x, v = .i .i64 x ∧ IntKind.i64.min ≤ x ∧ x ≤ IntKind.i64.max := by
  obtain ⟨l, h1, h2, h3, h4⟩ := h
  simp only [TV, Try.underlying3] at h2
  obtain ⟨s, rfl, hs⟩ := h2
  cases v with
  | agg l => exact absurd rfl (h4 qagg_3 l)
  | i k n => simp [V.cells] at h1; obtain ⟨rfl, rfl⟩ := h1; exact ⟨n, rfl, hs⟩
  | _ => simp [V.cells] at h1

theorem nil_lifted (os : Os) (started : os.Started) (H : Type) (enc : TypeId × Value → H) :
    ReturnsInHanded {} Try.checked os 5 .any (Rows.bookNilSpec.pre6 enc Try.prog Try.f5 Rows.bookNilRow.domain false) (Rows.bookNilSpec.post enc Try.prog Try.f5 false true false false) := by
  refine law_lifted (C := Try.checked) (tb := 4) own started (by kernel_rfl) Try.func5
    (ChangeSpec.witness6 (enc := enc) (C := Try.checked) false ⟨#[], #[.string ⟨#[]⟩, .int .i64 0], []⟩ 8 (by kernel_rfl) (by kernel_rfl) (by kernel_rfl) (by kernel_rfl))
    laid ?_ ?_ rfl Try.underlying4 rfl ?_ ?_
  · intro t ht
    have ht' : t ∈ [9, 3] := ht
    simp only [List.mem_cons, List.not_mem_nil, or_false] at ht'
    rcases ht' with rfl | rfl
    · exact ⟨by kernel_rfl, fun _ => by kernel_rfl⟩
    · exact ⟨by kernel_rfl, fun _ => by kernel_rfl⟩
  · intro t ht
    have ht' : t ∈ [9, 3] := ht
    simp only [List.mem_cons, List.not_mem_nil, or_false] at ht'
    rcases ht' with rfl | rfl
    · exact ⟨by kernel_rfl, of_decide_eq_true (by kernel_rfl)⟩
    · exact ⟨by kernel_rfl, of_decide_eq_true (by kernel_rfl)⟩
  · intro ds hl
    have hl' : ds.length = 2 := hl
    clear hl
    rcases ds with _ | ⟨a, _ | ⟨b, _ | ⟨c, r⟩⟩⟩
    · simp at hl'
    · simp at hl'
    · rfl
    · simp at hl'
  · intro H vs hv
    have hv' : TVals Try.prog H [9, 3] vs := hv
    clear hv
    rcases vs with _ | ⟨a, _ | ⟨b, _ | ⟨c, r⟩⟩⟩
    · exact hv'.elim
    · exact hv'.2.elim
    · obtain ⟨s, rfl, _⟩ := tv_s hv'.1
      obtain ⟨n, rfl, _⟩ := tv_i hv'.2.1
      exact nil_law H s n
    · exact hv'.2.2.elim

/-- THE STATEMENT. -/
theorem bookNil_holds : Rows.BookNilSaid :=
  OpenClaim.holds_of_wide 5 Try.f5 rfl rfl rfl rfl rfl rfl rfl ⟨rfl, rfl, rfl, rfl, rfl⟩ rfl rfl rfl rfl rfl (by kernel_rfl) Try.func5 (by kernel_rfl)
    (of_decide_eq_true (by kernel_rfl)) (by unfold Func.isWrapper; first | (rw [if_pos (by decide +kernel)]; kernel_rfl) | (rw [if_neg (by decide +kernel)]; exact ⟨rfl, rfl⟩))
    (fun os started H enc _ => nil_lifted os started H enc)
end Go.Proofs.Ytmbjcpjhlceenaa
