/-
  LedgerNil: the law returns true for every input that the given row lets in, and leaves its arguments as they were. No conditions of my own.
-/
import Derived.Test.YtnkheikplfoahaaDoorLedgerNil
import Derived.Test.YtnkheikplfoahaaDoorAbsTop
import Derived.Test.YtnkheikplfoahaaDoorCards
import Derived.Test.YtnkheikplfoahaaDoorTie
import Derived.WalkKit
import Derived.OpenShut
import Derived.ProofKit
set_option linter.unusedVariables false
set_option linter.unusedSimpArgs false
namespace Go.Proofs.YtnkheikplfoahaaDoor
open Go Go.Abs Go.Proofs Go.ChangeShapes Go.WideShapes Go.ChangeAt Go.RowKit
set_option maxRecDepth 100000
instance : Laid Tryd.checked.prog := (inferInstance : Laid Tryd.prog)

/-- A world for the witness: the settled one, the tables as their initialisers lay them. -/
noncomputable def laidWorld (os : Os) : World := withTabs Tryd.prog Rows.ledgerNilRow.laid (World.holding Tryd.prog os ⟨#[], #[], []⟩)
noncomputable def ledgerNil_args : Array Value := #[.int .i64 0, .agg #[.int .i64 0, .int .i64 0, .int .i64 0, .int .i64 0, .int .i64 0, .int .i64 0, .int .i64 0, .int .i64 0, .int .i64 0, .int .i64 0, .int .u32 0, .int .u32 0, .slice none 0 0, .slice none 0 0]]
theorem ledgerNil_met (os : Os) : laidMet Tryd.prog Rows.ledgerNilRow.laid ((laidWorld os).forCall (fun _ _ => 0) ⟨#[], ledgerNil_args, []⟩).memory :=
  laidMet_of_run' 8 (by kernel_rfl) (by kernel_rfl)
theorem ledgerNil_reads (os : Os) {H : Type} (enc : TypeId × Value → H) : ∃ x, DataW.whole enc Tryd.prog ((laidWorld os).forCall (fun _ _ => 0) ⟨#[], ledgerNil_args, []⟩).memory Tryd.f3.params.toList Rows.ledgerNilSpec.vars false ledgerNil_args.toList 8 = some x :=
  Option.isSome_iff_exists.1 (by kernel_rfl)

theorem ledgerNil_lifted (os : Os) (started : os.Started) (H : Type) (enc : TypeId × Value → H) (F : Stop.Interp) :
    ReturnsInHanded {} Tryd.checked os 3 .any ((OpenSpec.ofChange Rows.ledgerNilSpec).preRow enc Tryd.prog Tryd.f3 Rows.ledgerNilRow.domain false Rows.ledgerNilRow.laid) (((OpenSpec.ofChange Rows.ledgerNilSpec).at F).post enc Tryd.prog Tryd.f3 false true false false) := by
  obtain ⟨x, hx⟩ := ledgerNil_reads os enc
  refine law_row (C := Tryd.checked) (tb := 4) (laid_none Rows.ledgerNilRow.laid rfl) (by kernel_rfl) started (by kernel_rfl) Tryd.func3 (by kernel_rfl)
    (witness_row_at (enc := enc) (C := Tryd.checked) false (laidWorld os) ledgerNil_args rfl (by kernel_rfl) (by kernel_rfl) (by kernel_rfl)
      (OpenSpec.preRow_of_cond 8 hx rfl (fun k hk => by cases hk) (by kernel_rfl) (ledgerNil_met os)))
    (by kernel_rfl) ?_ ?_ rfl Tryd.underlying4 rfl ?_ ?_
  · intro t ht
    have ht' : t ∈ [3, 28] := ht
    simp only [List.mem_cons, List.not_mem_nil, or_false] at ht'
    rcases ht' with rfl | rfl
    · exact ⟨by kernel_rfl, fun _ => by kernel_rfl⟩
    · exact ⟨by kernel_rfl, fun h => by rw [show qagg Tryd.checked.prog 28 = some true from qagg_28] at h; cases h⟩
  · intro t ht
    have ht' : t ∈ [3, 28] := ht
    simp only [List.mem_cons, List.not_mem_nil, or_false] at ht'
    rcases ht' with rfl | rfl
    · exact ⟨by kernel_rfl, of_decide_eq_true (by kernel_rfl)⟩
    · exact ⟨by kernel_rfl, of_decide_eq_true (by kernel_rfl)⟩
  · intro ds hl
    have hl' : ds.length = 2 := hl
    clear hl
    rcases ds with _ | ⟨a, _ | ⟨b, _ | ⟨z, r⟩⟩⟩
    · simp at hl'
    · simp at hl'
    · rfl
    · simp at hl'
  · intro H vs hv
    exact ledgerNil_law H vs hv

/-- The row. -/
theorem ledgerNil_said : Rows.LedgerNilSaid :=
  OpenClaim.holds_of_cond 3 Tryd.f3 rfl rfl rfl rfl rfl rfl rfl ⟨rfl, rfl, rfl, rfl, rfl⟩ rfl rfl rfl rfl rfl (by kernel_rfl) Tryd.func3 (by kernel_rfl)
    (of_decide_eq_true (by kernel_rfl)) (by unfold Func.isWrapper; first | (rw [if_pos (by decide +kernel)]; kernel_rfl) | (rw [if_neg (by decide +kernel)]; exact ⟨rfl, rfl⟩))
    (fun os started H enc _ F => by rw [OpenClaim.pre_eq_preRow]; exact ledgerNil_lifted os started H enc F)
theorem ledgerNil_plain (f : FuncId) (fn : Func) (hf : Tryd.pinned.checked.prog.funcNamed "hallmoot/hallmootlaw20.LedgerNil" = some f) (hfn : Tryd.pinned.checked.prog.funcs[f]? = some fn) :
    true = Tryd.pinned.checked.prog.looks [] ∧ ∀ (j : Nat) t, fn.params[j]? = some t → Tryd.pinned.checked.prog.wantsStandIn t = false := by
  obtain rfl : f = 3 := Option.some.inj ((show Tryd.prog.funcNamed "hallmoot/hallmootlaw20.LedgerNil" = some 3 by kernel_rfl).symm.trans hf) |>.symm
  obtain rfl : fn = Tryd.f3 := (Option.some.inj (Tryd.func3.symm.trans hfn)).symm
  refine ⟨by kernel_rfl, fun j t ht => ?_⟩
  rw [Tryd.params3] at ht
  have ht' : t = 3 ∨ t = 28 := by simpa using Array.mem_of_getElem? ht
  rcases ht' with rfl | rfl
  · exact (show Tryd.prog.wantsStandIn 3 = false by kernel_rfl)
  · exact (show Tryd.prog.wantsStandIn 28 = false by kernel_rfl)

/-- THE CARD. -/
theorem ledgerNil_card : Rows.LedgerNilCardSaid :=
  Claim7.holds_tied_plain_at .later [] _ _ _ _ ledgerNil_said (fun _ h => by cases h) (by kernel_rfl) (fun _ h => by cases h) ledgerNil_row_tie rfl ⟨rfl, rfl⟩ (by kernel_rfl) rfl ledgerNil_plain (by kernel_rfl)
end Go.Proofs.YtnkheikplfoahaaDoor
