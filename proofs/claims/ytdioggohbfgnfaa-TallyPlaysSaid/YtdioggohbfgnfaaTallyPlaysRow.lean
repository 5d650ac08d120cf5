/-
  TallyPlays: the law returns true for every input that the given row lets in, and leaves its arguments as they were. No conditions of my own.
-/
import Derived.Test.YtdioggohbfgnfaaTallyPlays
import Derived.Test.YtdioggohbfgnfaaAbsB
import Derived.Test.YtdioggohbfgnfaaRows
import Derived.ProofKit
set_option linter.unusedVariables false
set_option linter.unusedSimpArgs false
namespace Go.Proofs.Ytdioggohbfgnfaa
open Go Go.Abs Go.Proofs Go.ChangeShapes Go.WideShapes Go.ChangeAt Go.RowKit
set_option maxRecDepth 100000
instance : Laid Try.checked.prog := (inferInstance : Laid Try.prog)

theorem tallyPlays_lifted (os : Os) (started : os.Started) (H : Type) (enc : TypeId × Value → H) :
    ReturnsInHanded {} Try.checked os 5 .any (Rows.tallyPlaysSpec.pre6 enc Try.prog Try.f5 Rows.tallyPlaysRow.domain false) (Rows.tallyPlaysSpec.post enc Try.prog Try.f5 false true false false) := by
  refine law_lifted (C := Try.checked) (tb := 4) rfl (by kernel_rfl) started (by kernel_rfl) Try.func5 (by kernel_rfl)
    (ChangeSpec.witness6 (enc := enc) (C := Try.checked) false ⟨#[], #[.int .i64 0, .slice none 0 0], []⟩ 8 (by kernel_rfl) (by kernel_rfl) (by kernel_rfl) (by kernel_rfl))
    (by kernel_rfl) ?_ ?_ rfl Try.underlying4 rfl ?_ ?_
  · intro t ht
    have ht' : t ∈ [3, 22] := ht
    simp only [List.mem_cons, List.not_mem_nil, or_false] at ht'
    rcases ht' with rfl | rfl
    · exact ⟨by kernel_rfl, fun _ => by kernel_rfl⟩
    · exact ⟨by kernel_rfl, fun _ => by kernel_rfl⟩
  · intro t ht
    have ht' : t ∈ [3, 22] := ht
    simp only [List.mem_cons, List.not_mem_nil, or_false] at ht'
    rcases ht' with rfl | rfl
    · exact ⟨by kernel_rfl, of_decide_eq_true (by kernel_rfl)⟩
    · exact ⟨by kernel_rfl, of_decide_eq_true (by kernel_rfl)⟩
  · intro ds hl
    have hl' : ds.length = 2 := hl
    clear hl
    rcases ds with _ | ⟨a, _ | ⟨b, _ | ⟨z, r⟩⟩⟩
    · simp at hl'
    · simp at hl'
    · rfl
    · simp at hl'
  · intro H vs hv
    exact tallyPlays_law H vs hv

/-- THE STATEMENT. -/
theorem tallyPlays_holds : Rows.TallyPlaysSaid :=
  OpenClaim.holds_of_wide 5 Try.f5 rfl rfl rfl rfl rfl rfl rfl ⟨rfl, rfl, rfl, rfl, rfl⟩ rfl rfl rfl rfl rfl (by kernel_rfl) Try.func5 (by kernel_rfl)
    (of_decide_eq_true (by kernel_rfl)) (by unfold Func.isWrapper; first | (rw [if_pos (by decide +kernel)]; kernel_rfl) | (rw [if_neg (by decide +kernel)]; exact ⟨rfl, rfl⟩))
    (fun os started H enc _ => tallyPlays_lifted os started H enc)
end Go.Proofs.Ytdioggohbfgnfaa
