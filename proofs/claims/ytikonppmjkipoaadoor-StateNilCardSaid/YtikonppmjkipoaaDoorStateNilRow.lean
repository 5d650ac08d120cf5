/-
  StateNil: the law returns true for every input that the given row lets in, and leaves its arguments as they were. No conditions of my own.
-/
import Derived.Test.YtikonppmjkipoaaDoorStateNil
import Derived.Test.YtikonppmjkipoaaDoorAbsB
import Derived.Test.YtikonppmjkipoaaDoorCards
import Derived.Test.YtikonppmjkipoaaDoorTie
import Derived.WalkKit
import Derived.OpenShut
import Derived.ProofKit
set_option linter.unusedVariables false
set_option linter.unusedSimpArgs false
namespace Go.Proofs.YtikonppmjkipoaaDoor
open Go Go.Abs Go.Proofs Go.ChangeShapes Go.WideShapes Go.ChangeAt Go.RowKit
set_option maxRecDepth 100000
instance : Laid Tryd.checked.prog := (inferInstance : Laid Tryd.prog)

/-- A world for the witness: the settled one, the tables as their initialisers lay them. -/
noncomputable def laidWorld (os : Os) : World := withTabs Tryd.prog Rows.stateNilRow.laid (World.holding Tryd.prog os ⟨#[], #[], []⟩)
noncomputable def stateNil_args : Array Value := #[.agg #[.int .i64 0, .string ⟨#[]⟩, .string ⟨#[]⟩, .string ⟨#[]⟩, .string ⟨#[]⟩, .int .i64 0, .int .i64 0]]
theorem stateNil_met (os : Os) : laidMet Tryd.prog Rows.stateNilRow.laid ((laidWorld os).forCall (fun _ _ => 0) ⟨#[], stateNil_args, []⟩).memory :=
  laidMet_of_run' 8 (by kernel_rfl) (by kernel_rfl)
theorem stateNil_reads (os : Os) {H : Type} (enc : TypeId × Value → H) : ∃ x, DataW.whole enc Tryd.prog ((laidWorld os).forCall (fun _ _ => 0) ⟨#[], stateNil_args, []⟩).memory Tryd.f6.params.toList Rows.stateNilSpec.vars false stateNil_args.toList 8 = some x :=
  Option.isSome_iff_exists.1 (by kernel_rfl)

theorem stateNil_lifted (os : Os) (started : os.Started) (H : Type) (enc : TypeId × Value → H) (F : Stop.Interp) :
    ReturnsInHanded {} Tryd.checked os 6 .any ((OpenSpec.ofChange Rows.stateNilSpec).preRow enc Tryd.prog Tryd.f6 Rows.stateNilRow.domain false Rows.stateNilRow.laid) (((OpenSpec.ofChange Rows.stateNilSpec).at F).post enc Tryd.prog Tryd.f6 false true false false) := by
  obtain ⟨x, hx⟩ := stateNil_reads os enc
  refine law_row (C := Tryd.checked) (tb := 4) (laid_none Rows.stateNilRow.laid rfl) (by kernel_rfl) started (by kernel_rfl) Tryd.func6 (by kernel_rfl)
    (witness_row_at (enc := enc) (C := Tryd.checked) false (laidWorld os) stateNil_args rfl (by kernel_rfl) (by kernel_rfl) (by kernel_rfl)
      (OpenSpec.preRow_of_cond 8 hx rfl (fun k hk => by cases hk) (by kernel_rfl) (stateNil_met os)))
    (by kernel_rfl) ?_ ?_ rfl Tryd.underlying4 rfl ?_ ?_
  · intro t ht
    have ht' : t ∈ [25] := ht
    simp only [List.mem_cons, List.not_mem_nil, or_false] at ht'
    subst ht'
    exact ⟨by kernel_rfl, fun h => by rw [show qagg Tryd.checked.prog 25 = some true from qagg_25] at h; cases h⟩
  · intro t ht
    have ht' : t ∈ [25] := ht
    simp only [List.mem_cons, List.not_mem_nil, or_false] at ht'
    subst ht'
    exact ⟨by kernel_rfl, of_decide_eq_true (by kernel_rfl)⟩
  · intro ds hl
    have hl' : ds.length = 1 := hl
    clear hl
    rcases ds with _ | ⟨a, _ | ⟨z, r⟩⟩
    · simp at hl'
    · rfl
    · simp at hl'
  · intro H vs hv
    exact stateNil_law H vs hv

/-- The row. -/
theorem stateNil_said : Rows.StateNilSaid :=
  OpenClaim.holds_of_cond 6 Tryd.f6 rfl rfl rfl rfl rfl rfl rfl ⟨rfl, rfl, rfl, rfl, rfl⟩ rfl rfl rfl rfl rfl (by kernel_rfl) Tryd.func6 (by kernel_rfl)
    (of_decide_eq_true (by kernel_rfl)) (by unfold Func.isWrapper; first | (rw [if_pos (by decide +kernel)]; kernel_rfl) | (rw [if_neg (by decide +kernel)]; exact ⟨rfl, rfl⟩))
    (fun os started H enc _ F => by rw [OpenClaim.pre_eq_preRow]; exact stateNil_lifted os started H enc F)
theorem stateNil_plain (f : FuncId) (fn : Func) (hf : Tryd.pinned.checked.prog.funcNamed "hallmoot/hallmootlaw09.StateNil" = some f) (hfn : Tryd.pinned.checked.prog.funcs[f]? = some fn) :
    true = Tryd.pinned.checked.prog.looks [] ∧ ∀ (j : Nat) t, fn.params[j]? = some t → Tryd.pinned.checked.prog.wantsStandIn t = false := by
  obtain rfl : f = 6 := Option.some.inj ((show Tryd.prog.funcNamed "hallmoot/hallmootlaw09.StateNil" = some 6 by kernel_rfl).symm.trans hf) |>.symm
  obtain rfl : fn = Tryd.f6 := (Option.some.inj (Tryd.func6.symm.trans hfn)).symm
  refine ⟨by kernel_rfl, fun j t ht => ?_⟩
  rw [Tryd.params6] at ht
  obtain rfl : t = 25 := by simpa using Array.mem_of_getElem? ht
  exact (show Tryd.prog.wantsStandIn 25 = false by kernel_rfl)

/-- THE CARD. -/
theorem stateNil_card : Rows.StateNilCardSaid :=
  Claim7.holds_tied_plain_at .later [] _ _ _ _ stateNil_said (fun _ h => by cases h) (by kernel_rfl) (fun _ h => by cases h) stateNil_row_tie rfl ⟨rfl, rfl⟩ (by kernel_rfl) rfl stateNil_plain (by kernel_rfl)
end Go.Proofs.YtikonppmjkipoaaDoor
