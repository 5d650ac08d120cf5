/-
  SafeBytes: the law returns true for every input that the given row lets in, and leaves its arguments as they were. No conditions of my own.
-/
import Derived.Test.YtoccjilbfkhmoaaGreatDoorSafeBytes
import Derived.Test.YtoccjilbfkhmoaaGreatDoorAbsB
import Derived.Test.YtoccjilbfkhmoaaGreatDoorCards
import Derived.Test.YtoccjilbfkhmoaaGreatDoorTie
import Derived.WalkKit
import Derived.OpenShut
import Derived.MakeChecks
import Derived.Lib.LaidU8
import Derived.ProofKit
set_option linter.unusedVariables false
set_option linter.unusedSimpArgs false
namespace Go.Proofs.YtoccjilbfkhmoaaGreatDoor
open Go Go.Abs Go.Proofs Go.ChangeShapes Go.WideShapes Go.ChangeAt Go.RowKit
set_option maxRecDepth 100000
instance : Laid Tryz.checked.prog := (inferInstance : Laid Tryz.prog)

/-- A world for the witness: the settled one, the tables as their initialisers lay them. -/
noncomputable def laidWorld (os : Os) : World := withTabs Tryz.prog Rows.safeBytesRow.laid (World.holding Tryz.prog os ⟨#[], #[], []⟩)
noncomputable def safeBytes_args : Array Value := #[.agg #[.int .i64 0, .int .i64 0, .int .i64 0, .int .i64 0, .int .i64 0, .int .i64 0, .int .i64 0, .int .u32 0, .int .u32 0, .int .i64 0, .int .i64 0, .int .i64 0, .int .i64 0, .int .i64 0, .int .i64 0, .int .u32 0, .int .u32 0, .int .u32 0, .int .i64 0, .int .i64 0, .int .i64 0, .string ⟨#[]⟩], .string ⟨#[]⟩]
theorem safeBytes_met (os : Os) : laidMet Tryz.prog Rows.safeBytesRow.laid ((laidWorld os).forCall (fun _ _ => 0) ⟨#[], safeBytes_args, []⟩).memory :=
  laidMet_of_run' 8 (by kernel_rfl) (by kernel_rfl)
theorem safeBytes_reads (os : Os) {H : Type} (enc : TypeId × Value → H) : ∃ x, DataW.whole enc Tryz.prog ((laidWorld os).forCall (fun _ _ => 0) ⟨#[], safeBytes_args, []⟩).memory Tryz.f3.params.toList Rows.safeBytesSpec.vars false safeBytes_args.toList 8 = some x :=
  Option.isSome_iff_exists.1 (by kernel_rfl)

/-- The tables of the library lie where the row lists them. -/
theorem safeBytes_tabs (W : World) (h : laidMetH Tryz.checked.prog Rows.safeBytesRow.laid W) : Laid.ok Tryz.checked.prog ⟨W, Loc.none⟩ := by
  rw [MakeChecks.laidMetH_plain _ _ _ (by kernel_rfl)] at h
  refine utf8_ok (P := Tryz.checked.prog) (g3 := lays197_ren.g 3) (g4 := lays197_ren.g 4) rfl ?_
  have e3 : Rows.laid_unicode_utf8_first = Lib.firstData := by kernel_rfl
  have e4 : (Rows.laid_unicode_utf8_acceptRanges : DataW Unit) = Lib.acceptData := by kernel_rfl
  have h3 : Lib.VarReads Tryz.prog W "unicode/utf8.first" Lib.firstData := e3 ▸ Lib.laidMet.reads h (by simp [Rows.safeBytesRow])
  have h4 : Lib.VarReads Tryz.prog W "unicode/utf8.acceptRanges" Lib.acceptData := e4 ▸ Lib.laidMet.reads h (by simp [Rows.safeBytesRow])
  exact utf8Tabs_of_reads (P := Tryz.prog) (ρ := lays197_ren) { lays197 with } ⟨by kernel_rfl, by kernel_rfl, by kernel_rfl, by kernel_rfl, by kernel_rfl, by kernel_rfl, by kernel_rfl⟩ h3 h4

theorem safeBytes_lifted (os : Os) (started : os.Started) (H : Type) (enc : TypeId × Value → H) (F : Stop.Interp) :
    ReturnsInHanded {} Tryz.checked os 3 .any ((OpenSpec.ofChange Rows.safeBytesSpec).preRow enc Tryz.prog Tryz.f3 Rows.safeBytesRow.domain false Rows.safeBytesRow.laid) (((OpenSpec.ofChange Rows.safeBytesSpec).at F).post enc Tryz.prog Tryz.f3 false true false false) := by
  obtain ⟨x, hx⟩ := safeBytes_reads os enc
  refine law_row (C := Tryz.checked) (tb := 4) (safeBytes_tabs) (by kernel_rfl) started (by kernel_rfl) Tryz.func3 (by kernel_rfl)
    (witness_row_at (enc := enc) (C := Tryz.checked) false (laidWorld os) safeBytes_args rfl (by kernel_rfl) (by kernel_rfl) (by kernel_rfl)
      (OpenSpec.preRow_of_cond 8 hx rfl (fun k hk => by cases hk) (by kernel_rfl) (safeBytes_met os)))
    (by kernel_rfl) ?_ ?_ rfl Tryz.underlying4 rfl ?_ ?_
  · intro t ht
    have ht' : t ∈ [26, 9] := ht
    simp only [List.mem_cons, List.not_mem_nil, or_false] at ht'
    rcases ht' with rfl | rfl
    · exact ⟨by kernel_rfl, fun h => by rw [show qagg Tryz.checked.prog 26 = some true from qagg_26] at h; cases h⟩
    · exact ⟨by kernel_rfl, fun _ => by kernel_rfl⟩
  · intro t ht
    have ht' : t ∈ [26, 9] := ht
    simp only [List.mem_cons, List.not_mem_nil, or_false] at ht'
    rcases ht' with rfl | rfl
    · exact ⟨by kernel_rfl, of_decide_eq_true (by kernel_rfl)⟩
    · exact ⟨by kernel_rfl, of_decide_eq_true (by kernel_rfl)⟩
  · intro ds hl
    have hl' : ds.length = 2 := hl
    clear hl
    rcases ds with _ | ⟨a, _ | ⟨b, _ | ⟨z, r⟩⟩⟩
    · simp at hl'
    · simp at hl'
    · rfl
    · simp at hl'
  · intro H vs hv
    exact safeBytes_law H vs hv

/-- The row. -/
theorem safeBytes_said : Rows.SafeBytesSaid :=
  OpenClaim.holds_of_cond 3 Tryz.f3 rfl rfl rfl rfl rfl rfl rfl ⟨rfl, rfl, rfl, rfl, rfl⟩ rfl rfl rfl rfl rfl (by kernel_rfl) Tryz.func3 (by kernel_rfl)
    (of_decide_eq_true (by kernel_rfl)) (by unfold Func.isWrapper; first | (rw [if_pos (by decide +kernel)]; kernel_rfl) | (rw [if_neg (by decide +kernel)]; exact ⟨rfl, rfl⟩))
    (fun os started H enc _ F => by rw [OpenClaim.pre_eq_preRow]; exact safeBytes_lifted os started H enc F)
theorem safeBytes_plain (f : FuncId) (fn : Func) (hf : Tryz.pinned.checked.prog.funcNamed "hallmoot/hallmootlaw19.SafeBytes" = some f) (hfn : Tryz.pinned.checked.prog.funcs[f]? = some fn) :
    false = Tryz.pinned.checked.prog.looks [] ∧ ∀ (j : Nat) t, fn.params[j]? = some t → Tryz.pinned.checked.prog.wantsStandIn t = false := by
  obtain rfl : f = 3 := Option.some.inj ((show Tryz.prog.funcNamed "hallmoot/hallmootlaw19.SafeBytes" = some 3 by kernel_rfl).symm.trans hf) |>.symm
  obtain rfl : fn = Tryz.f3 := (Option.some.inj (Tryz.func3.symm.trans hfn)).symm
  refine ⟨by kernel_rfl, fun j t ht => ?_⟩
  rw [Tryz.params3] at ht
  have ht' : t = 26 ∨ t = 9 := by simpa using Array.mem_of_getElem? ht
  rcases ht' with rfl | rfl
  · exact (show Tryz.prog.wantsStandIn 26 = false by kernel_rfl)
  · exact (show Tryz.prog.wantsStandIn 9 = false by kernel_rfl)

/-- THE CARD. -/
theorem safeBytes_card : Rows.SafeBytesCardSaid :=
  Claim7.holds_tied_plain_at .later [] _ _ _ _ safeBytes_said (fun _ h => by cases h) (by kernel_rfl) (fun _ h => by cases h) safeBytes_row_tie rfl ⟨rfl, rfl⟩ (by kernel_rfl) rfl safeBytes_plain (by kernel_rfl)
end Go.Proofs.YtoccjilbfkhmoaaGreatDoor
