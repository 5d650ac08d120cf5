/-
  StateKeeps: the law returns true for every input that the given row lets in, and leaves its arguments as they were. No conditions of my own.
-/
import Derived.Test.YtikonppmjkipoaaDoorStateKeeps
import Derived.Test.YtikonppmjkipoaaDoorAbsB
import Derived.Test.YtikonppmjkipoaaDoorCards
import Derived.Test.YtikonppmjkipoaaDoorTie
import Derived.WalkKit
import Derived.OpenShut
import Derived.MakeChecks
import Derived.Lib.LaidU8
import Derived.ProofKit
set_option linter.unusedVariables false
set_option linter.unusedSimpArgs false
namespace Go.Proofs.YtikonppmjkipoaaDoor
open Go Go.Abs Go.Proofs Go.ChangeShapes Go.WideShapes Go.ChangeAt Go.RowKit
set_option maxRecDepth 100000
instance : Laid Tryd.checked.prog := (inferInstance : Laid Tryd.prog)

/-- A world for the witness: the settled one, the tables as their initialisers lay them. -/
noncomputable def laidWorld (os : Os) : World := withTabs Tryd.prog Rows.stateKeepsRow.laid (World.holding Tryd.prog os ⟨#[], #[], []⟩)
noncomputable def stateKeeps_args : Array Value := #[.slice none 0 0, .slice none 0 0]
theorem stateKeeps_met (os : Os) : laidMet Tryd.prog Rows.stateKeepsRow.laid ((laidWorld os).forCall (fun _ _ => 0) ⟨#[], stateKeeps_args, []⟩).memory :=
  laidMet_of_run' 8 (by kernel_rfl) (by kernel_rfl)
theorem stateKeeps_reads (os : Os) {H : Type} (enc : TypeId × Value → H) : ∃ x, DataW.whole enc Tryd.prog ((laidWorld os).forCall (fun _ _ => 0) ⟨#[], stateKeeps_args, []⟩).memory Tryd.f4.params.toList Rows.stateKeepsSpec.vars false stateKeeps_args.toList 8 = some x :=
  Option.isSome_iff_exists.1 (by kernel_rfl)

/-- The tables of the library lie where the row lists them. -/
theorem stateKeeps_tabs (W : World) (h : laidMetH Tryd.checked.prog Rows.stateKeepsRow.laid W) : Laid.ok Tryd.checked.prog ⟨W, Loc.none⟩ := by
  rw [MakeChecks.laidMetH_plain _ _ _ (by kernel_rfl)] at h
  refine utf8_ok (P := Tryd.checked.prog) (g3 := lays197_ren.g 3) (g4 := lays197_ren.g 4) rfl ?_
  have e3 : Rows.laid_unicode_utf8_first = Lib.firstData := by kernel_rfl
  have e4 : (Rows.laid_unicode_utf8_acceptRanges : DataW Unit) = Lib.acceptData := by kernel_rfl
  have h3 : Lib.VarReads Tryd.prog W "unicode/utf8.first" Lib.firstData := e3 ▸ Lib.laidMet.reads h (by simp [Rows.stateKeepsRow])
  have h4 : Lib.VarReads Tryd.prog W "unicode/utf8.acceptRanges" Lib.acceptData := e4 ▸ Lib.laidMet.reads h (by simp [Rows.stateKeepsRow])
  exact utf8Tabs_of_reads (P := Tryd.prog) (ρ := lays197_ren) { lays197 with } ⟨by kernel_rfl, by kernel_rfl, by kernel_rfl, by kernel_rfl, by kernel_rfl, by kernel_rfl, by kernel_rfl⟩ h3 h4

theorem stateKeeps_lifted (os : Os) (started : os.Started) (H : Type) (enc : TypeId × Value → H) (F : Stop.Interp) :
    ReturnsInHanded {} Tryd.checked os 4 .any ((OpenSpec.ofChange Rows.stateKeepsSpec).preRow enc Tryd.prog Tryd.f4 Rows.stateKeepsRow.domain false Rows.stateKeepsRow.laid) (((OpenSpec.ofChange Rows.stateKeepsSpec).at F).post enc Tryd.prog Tryd.f4 false true false false) := by
  obtain ⟨x, hx⟩ := stateKeeps_reads os enc
  refine law_row (C := Tryd.checked) (tb := 4) (stateKeeps_tabs) (by kernel_rfl) started (by kernel_rfl) Tryd.func4 (by kernel_rfl)
    (witness_row_at (enc := enc) (C := Tryd.checked) false (laidWorld os) stateKeeps_args rfl (by kernel_rfl) (by kernel_rfl) (by kernel_rfl)
      (OpenSpec.preRow_of_cond 8 hx rfl (fun k hk => by cases hk) (by kernel_rfl) (stateKeeps_met os)))
    (by kernel_rfl) ?_ ?_ rfl Tryd.underlying4 rfl ?_ ?_
  · intro t ht
    have ht' : t ∈ [22, 23] := ht
    simp only [List.mem_cons, List.not_mem_nil, or_false] at ht'
    rcases ht' with rfl | rfl
    · exact ⟨by kernel_rfl, fun _ => by kernel_rfl⟩
    · exact ⟨by kernel_rfl, fun _ => by kernel_rfl⟩
  · intro t ht
    have ht' : t ∈ [22, 23] := ht
    simp only [List.mem_cons, List.not_mem_nil, or_false] at ht'
    rcases ht' with rfl | rfl
    · exact ⟨by kernel_rfl, of_decide_eq_true (by kernel_rfl)⟩
    · exact ⟨by kernel_rfl, of_decide_eq_true (by kernel_rfl)⟩
  · intro ds hl
    have hl' : ds.length = 2 := hl
    clear hl
    rcases ds with _ | ⟨a, _ | ⟨b, _ | ⟨z, r⟩⟩⟩
    · simp at hl'
    · simp at hl'
    · rfl
    · simp at hl'
  · intro H vs hv
    exact stateKeeps_law H vs hv

/-- The row. -/
theorem stateKeeps_said : Rows.StateKeepsSaid :=
  OpenClaim.holds_of_cond 4 Tryd.f4 rfl rfl rfl rfl rfl rfl rfl ⟨rfl, rfl, rfl, rfl, rfl⟩ rfl rfl rfl rfl rfl (by kernel_rfl) Tryd.func4 (by kernel_rfl)
    (of_decide_eq_true (by kernel_rfl)) (by unfold Func.isWrapper; first | (rw [if_pos (by decide +kernel)]; kernel_rfl) | (rw [if_neg (by decide +kernel)]; exact ⟨rfl, rfl⟩))
    (fun os started H enc _ F => by rw [OpenClaim.pre_eq_preRow]; exact stateKeeps_lifted os started H enc F)
theorem stateKeeps_plain (f : FuncId) (fn : Func) (hf : Tryd.pinned.checked.prog.funcNamed "hallmoot/hallmootlaw09.StateKeeps" = some f) (hfn : Tryd.pinned.checked.prog.funcs[f]? = some fn) :
    true = Tryd.pinned.checked.prog.looks [] ∧ ∀ (j : Nat) t, fn.params[j]? = some t → Tryd.pinned.checked.prog.wantsStandIn t = false := by
  obtain rfl : f = 4 := Option.some.inj ((show Tryd.prog.funcNamed "hallmoot/hallmootlaw09.StateKeeps" = some 4 by kernel_rfl).symm.trans hf) |>.symm
  obtain rfl : fn = Tryd.f4 := (Option.some.inj (Tryd.func4.symm.trans hfn)).symm
  refine ⟨by kernel_rfl, fun j t ht => ?_⟩
  rw [Tryd.params4] at ht
  have ht' : t = 22 ∨ t = 23 := by simpa using Array.mem_of_getElem? ht
  rcases ht' with rfl | rfl
  · exact (show Tryd.prog.wantsStandIn 22 = false by kernel_rfl)
  · exact (show Tryd.prog.wantsStandIn 23 = false by kernel_rfl)

/-- THE CARD. -/
theorem stateKeeps_card : Rows.StateKeepsCardSaid :=
  Claim7.holds_tied_plain_at .later [] _ _ _ _ stateKeeps_said (fun _ h => by cases h) (by kernel_rfl) (fun _ h => by cases h) stateKeeps_row_tie rfl ⟨rfl, rfl⟩ (by kernel_rfl) rfl stateKeeps_plain (by kernel_rfl)
end Go.Proofs.YtikonppmjkipoaaDoor
