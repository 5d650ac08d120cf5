/-
  StateApart: the law returns true for every input that the given row lets in, and leaves its arguments as they were. No conditions of my own.
-/
import Derived.Test.YtikonppmjkipoaaDoorStateApart
import Derived.Test.YtikonppmjkipoaaDoorAbsB
import Derived.Test.YtikonppmjkipoaaDoorCards
import Derived.Test.YtikonppmjkipoaaDoorTie
import Derived.WalkKit
import Derived.OpenShut
import Derived.MakeChecks
import Derived.Lib.LaidU8
import Derived.ProofKit
set_option linter.unusedVariables false
set_option linter.unusedSimpArgs false
namespace Go.Proofs.YtikonppmjkipoaaDoor
open Go Go.Abs Go.Proofs Go.ChangeShapes Go.WideShapes Go.ChangeAt Go.RowKit
set_option maxRecDepth 100000
instance : Laid Tryd.checked.prog := (inferInstance : Laid Tryd.prog)

/-- A world for the witness: the settled one, the tables as their initialisers lay them. -/
noncomputable def laidWorld (os : Os) : World := withTabs Tryd.prog Rows.stateApartRow.laid (World.holding Tryd.prog os ⟨#[], #[], []⟩)
noncomputable def stateApart_args : Array Value := #[.slice none 0 0, .slice none 0 0, .agg #[.int .i64 0, .string ⟨#[]⟩, .string ⟨#[]⟩, .string ⟨#[]⟩, .string ⟨#[]⟩, .int .i64 0, .int .i64 0], .agg #[.int .i64 0, .string ⟨#[]⟩, .string ⟨#[]⟩, .string ⟨#[]⟩, .string ⟨#[]⟩, .int .i64 0, .int .i64 0]]
theorem stateApart_met (os : Os) : laidMet Tryd.prog Rows.stateApartRow.laid ((laidWorld os).forCall (fun _ _ => 0) ⟨#[], stateApart_args, []⟩).memory :=
  laidMet_of_run' 8 (by kernel_rfl) (by kernel_rfl)
theorem stateApart_reads (os : Os) {H : Type} (enc : TypeId × Value → H) : ∃ x, DataW.whole enc Tryd.prog ((laidWorld os).forCall (fun _ _ => 0) ⟨#[], stateApart_args, []⟩).memory Tryd.f3.params.toList Rows.stateApartSpec.vars false stateApart_args.toList 8 = some x :=
  Option.isSome_iff_exists.1 (by kernel_rfl)

/-- The tables of the library lie where the row lists them. -/
theorem stateApart_tabs (W : World) (h : laidMetH Tryd.checked.prog Rows.stateApartRow.laid W) : Laid.ok Tryd.checked.prog ⟨W, Loc.none⟩ := by
  rw [MakeChecks.laidMetH_plain _ _ _ (by kernel_rfl)] at h
  refine utf8_ok (P := Tryd.checked.prog) (g3 := lays197_ren.g 3) (g4 := lays197_ren.g 4) rfl ?_
  have e3 : Rows.laid_unicode_utf8_first = Lib.firstData := by kernel_rfl
  have e4 : (Rows.laid_unicode_utf8_acceptRanges : DataW Unit) = Lib.acceptData := by kernel_rfl
  have h3 : Lib.VarReads Tryd.prog W "unicode/utf8.first" Lib.firstData := e3 ▸ Lib.laidMet.reads h (by simp [Rows.stateApartRow])
  have h4 : Lib.VarReads Tryd.prog W "unicode/utf8.acceptRanges" Lib.acceptData := e4 ▸ Lib.laidMet.reads h (by simp [Rows.stateApartRow])
  exact utf8Tabs_of_reads (P := Tryd.prog) (ρ := lays197_ren) { lays197 with } ⟨by kernel_rfl, by kernel_rfl, by kernel_rfl, by kernel_rfl, by kernel_rfl, by kernel_rfl, by kernel_rfl⟩ h3 h4

theorem stateApart_lifted (os : Os) (started : os.Started) (H : Type) (enc : TypeId × Value → H) (F : Stop.Interp) :
    ReturnsInHanded {} Tryd.checked os 3 .any ((OpenSpec.ofChange Rows.stateApartSpec).preRow enc Tryd.prog Tryd.f3 Rows.stateApartRow.domain false Rows.stateApartRow.laid) (((OpenSpec.ofChange Rows.stateApartSpec).at F).post enc Tryd.prog Tryd.f3 false true false false) := by
  obtain ⟨x, hx⟩ := stateApart_reads os enc
  refine law_row (C := Tryd.checked) (tb := 4) (stateApart_tabs) (by kernel_rfl) started (by kernel_rfl) Tryd.func3 (by kernel_rfl)
    (witness_row_at (enc := enc) (C := Tryd.checked) false (laidWorld os) stateApart_args rfl (by kernel_rfl) (by kernel_rfl) (by kernel_rfl)
      (OpenSpec.preRow_of_cond 8 hx rfl (fun k hk => by cases hk) (by kernel_rfl) (stateApart_met os)))
    (by kernel_rfl) ?_ ?_ rfl Tryd.underlying4 rfl ?_ ?_
  · intro t ht
    have ht' : t ∈ [22, 23, 25, 25] := ht
    simp only [List.mem_cons, List.not_mem_nil, or_false] at ht'
    rcases ht' with rfl | rfl | rfl | rfl
    · exact ⟨by kernel_rfl, fun _ => by kernel_rfl⟩
    · exact ⟨by kernel_rfl, fun _ => by kernel_rfl⟩
    · exact ⟨by kernel_rfl, fun h => by rw [show qagg Tryd.checked.prog 25 = some true from qagg_25] at h; cases h⟩
    · exact ⟨by kernel_rfl, fun h => by rw [show qagg Tryd.checked.prog 25 = some true from qagg_25] at h; cases h⟩
  · intro t ht
    have ht' : t ∈ [22, 23, 25, 25] := ht
    simp only [List.mem_cons, List.not_mem_nil, or_false] at ht'
    rcases ht' with rfl | rfl | rfl | rfl
    · exact ⟨by kernel_rfl, of_decide_eq_true (by kernel_rfl)⟩
    · exact ⟨by kernel_rfl, of_decide_eq_true (by kernel_rfl)⟩
    · exact ⟨by kernel_rfl, of_decide_eq_true (by kernel_rfl)⟩
    · exact ⟨by kernel_rfl, of_decide_eq_true (by kernel_rfl)⟩
  · intro ds hl
    have hl' : ds.length = 4 := hl
    clear hl
    rcases ds with _ | ⟨a, _ | ⟨b, _ | ⟨c, _ | ⟨d, _ | ⟨z, r⟩⟩⟩⟩⟩
    · simp at hl'
    · simp at hl'
    · simp at hl'
    · simp at hl'
    · rfl
    · simp at hl'
  · intro H vs hv
    exact stateApart_law H vs hv

/-- The row. -/
theorem stateApart_said : Rows.StateApartSaid :=
  OpenClaim.holds_of_cond 3 Tryd.f3 rfl rfl rfl rfl rfl rfl rfl ⟨rfl, rfl, rfl, rfl, rfl⟩ rfl rfl rfl rfl rfl (by kernel_rfl) Tryd.func3 (by kernel_rfl)
    (of_decide_eq_true (by kernel_rfl)) (by unfold Func.isWrapper; first | (rw [if_pos (by decide +kernel)]; kernel_rfl) | (rw [if_neg (by decide +kernel)]; exact ⟨rfl, rfl⟩))
    (fun os started H enc _ F => by rw [OpenClaim.pre_eq_preRow]; exact stateApart_lifted os started H enc F)
theorem stateApart_plain (f : FuncId) (fn : Func) (hf : Tryd.pinned.checked.prog.funcNamed "hallmoot/hallmootlaw09.StateApart" = some f) (hfn : Tryd.pinned.checked.prog.funcs[f]? = some fn) :
    true = Tryd.pinned.checked.prog.looks [] ∧ ∀ (j : Nat) t, fn.params[j]? = some t → Tryd.pinned.checked.prog.wantsStandIn t = false := by
  obtain rfl : f = 3 := Option.some.inj ((show Tryd.prog.funcNamed "hallmoot/hallmootlaw09.StateApart" = some 3 by kernel_rfl).symm.trans hf) |>.symm
  obtain rfl : fn = Tryd.f3 := (Option.some.inj (Tryd.func3.symm.trans hfn)).symm
  refine ⟨by kernel_rfl, fun j t ht => ?_⟩
  rw [Tryd.params3] at ht
  have ht' : t = 22 ∨ t = 23 ∨ t = 25 ∨ t = 25 := by simpa using Array.mem_of_getElem? ht
  rcases ht' with rfl | rfl | rfl | rfl
  · exact (show Tryd.prog.wantsStandIn 22 = false by kernel_rfl)
  · exact (show Tryd.prog.wantsStandIn 23 = false by kernel_rfl)
  · exact (show Tryd.prog.wantsStandIn 25 = false by kernel_rfl)
  · exact (show Tryd.prog.wantsStandIn 25 = false by kernel_rfl)

/-- THE CARD. -/
theorem stateApart_card : Rows.StateApartCardSaid :=
  Claim7.holds_tied_plain_at .later [] _ _ _ _ stateApart_said (fun _ h => by cases h) (by kernel_rfl) (fun _ h => by cases h) stateApart_row_tie rfl ⟨rfl, rfl⟩ (by kernel_rfl) rfl stateApart_plain (by kernel_rfl)
end Go.Proofs.YtikonppmjkipoaaDoor
