/-
  RulesVotes: the law returns true for every input that the given row lets in,and leaves its arguments as they were. No conditions of my own.
-/
import Derived.Test.YtaidfojbnfkclaaGreatDoorRulesVotes
import Derived.Test.YtaidfojbnfkclaaGreatDoorAbsB
import Derived.Test.YtaidfojbnfkclaaGreatDoorCards
import Derived.Test.YtaidfojbnfkclaaGreatDoorTie
import Derived.WalkKit
import Derived.OpenShut
import Derived.MakeChecks
import Derived.Lib.LaidU8
import Derived.ProofKit
set_option linter.unusedVariables false
set_option linter.unusedSimpArgs false
namespace Go.Proofs.YtaidfojbnfkclaaGreatDoor
open Go Go.Abs Go.Proofs Go.ChangeShapes Go.WideShapes Go.ChangeAt Go.RowKit
set_option maxRecDepth 100000
instance:Laid Tryz.checked.prog:=(inferInstance:Laid Tryz.prog)
/-- A world for the witness: the settled one, the tables as their initialisers lay them. -/
noncomputable def laidWorld (os:Os):World:=withTabs Tryz.prog Rows.rulesVotesRow.laid (World.holding Tryz.prog os ⟨#[],#[],[]⟩)
noncomputable def rulesVotes_args:Array Value:=#[.slice none 0 0,.int .i64 0,.int .i64 0,.agg #[.int .i64 0,.int .i64 0,.int .i64 0,.int .i64 0,.int .i64 0,.int .i64 0,.int .i64 0,.int .i64 0,.int .i64 0,.int .i64 0,.int .u32 0,.int .u32 0,.slice none 0 0,.slice none 0 0]]
theorem rulesVotes_met (os:Os):laidMet Tryz.prog Rows.rulesVotesRow.laid ((laidWorld os).forCall (fun _ _=>0) ⟨#[],rulesVotes_args,[]⟩).memory :=
 laidMet_of_run' 8 (by kernel_rfl) (by kernel_rfl)
theorem rulesVotes_reads (os:Os) {H:Type} (enc:TypeId × Value → H):∃ x,DataW.whole enc Tryz.prog ((laidWorld os).forCall (fun _ _=>0) ⟨#[],rulesVotes_args,[]⟩).memory Tryz.f5.params.toList Rows.rulesVotesSpec.vars false rulesVotes_args.toList 8 = some x :=
 Option.isSome_iff_exists.1 (by kernel_rfl)
/-- The tables of the library lie where the row lists them. -/
theorem rulesVotes_tabs (W:World) (h:laidMetH Tryz.checked.prog Rows.rulesVotesRow.laid W):Laid.ok Tryz.checked.prog ⟨W,Loc.none⟩:=by
 rw [MakeChecks.laidMetH_plain _ _ _ (by kernel_rfl)] at h
 refine utf8_ok (P:=Tryz.checked.prog) (g3:=lays197_ren.g 3) (g4:=lays197_ren.g 4) rfl ?_
 have e3:Rows.laid_unicode_utf8_first = Lib.firstData:=by kernel_rfl
 have e4:(Rows.laid_unicode_utf8_acceptRanges:DataW Unit) = Lib.acceptData:=by kernel_rfl
 have h3:Lib.VarReads Tryz.prog W "unicode/utf8.first" Lib.firstData:=e3 ▸ Lib.laidMet.reads h (by simp [Rows.rulesVotesRow])
 have h4:Lib.VarReads Tryz.prog W "unicode/utf8.acceptRanges" Lib.acceptData:=e4 ▸ Lib.laidMet.reads h (by simp [Rows.rulesVotesRow])
 exact utf8Tabs_of_reads (P:=Tryz.prog) (ρ:=lays197_ren) { lays197 with } ⟨by kernel_rfl,by kernel_rfl,by kernel_rfl,by kernel_rfl,by kernel_rfl,by kernel_rfl,by kernel_rfl⟩ h3 h4
theorem rulesVotes_lifted (os:Os) (started:os.Started) (H:Type) (enc:TypeId × Value → H) (F:Stop.Interp) :
  ReturnsInHanded {} Tryz.checked os 5 .any ((OpenSpec.ofChange Rows.rulesVotesSpec).preRow enc Tryz.prog Tryz.f5 Rows.rulesVotesRow.domain false Rows.rulesVotesRow.laid) (((OpenSpec.ofChange Rows.rulesVotesSpec).at F).post enc Tryz.prog Tryz.f5 false true false false):=by
 obtain ⟨x,hx⟩:=rulesVotes_reads os enc
 refine law_row (C:=Tryz.checked) (tb:=4) (rulesVotes_tabs) (by kernel_rfl) started (by kernel_rfl) Tryz.func5 (by kernel_rfl)
  (witness_row_at (enc:=enc) (C:=Tryz.checked) false (laidWorld os) rulesVotes_args rfl (by kernel_rfl) (by kernel_rfl) (by kernel_rfl)
    (OpenSpec.preRow_of_cond 8 hx rfl (fun k hk=>by cases hk) (by kernel_rfl) (rulesVotes_met os)))
  (by kernel_rfl) ?_ ?_ rfl Tryz.underlying4 rfl ?_ ?_
 · intro t ht
   have ht':t ∈ [35,3,3,28]:=ht
   simp only [List.mem_cons,List.not_mem_nil,or_false] at ht'
   rcases ht' with rfl | rfl | rfl | rfl
   · exact ⟨by kernel_rfl,fun _=>by kernel_rfl⟩
   · exact ⟨by kernel_rfl,fun _=>by kernel_rfl⟩
   · exact ⟨by kernel_rfl,fun _=>by kernel_rfl⟩
   · exact ⟨by kernel_rfl,fun h=>by rw [show qagg Tryz.checked.prog 28 = some true from qagg_28] at h; cases h⟩
 · intro t ht
   have ht':t ∈ [35,3,3,28]:=ht
   simp only [List.mem_cons,List.not_mem_nil,or_false] at ht'
   rcases ht' with rfl | rfl | rfl | rfl
   · exact ⟨by kernel_rfl,of_decide_eq_true (by kernel_rfl)⟩
   · exact ⟨by kernel_rfl,of_decide_eq_true (by kernel_rfl)⟩
   · exact ⟨by kernel_rfl,of_decide_eq_true (by kernel_rfl)⟩
   · exact ⟨by kernel_rfl,of_decide_eq_true (by kernel_rfl)⟩
 · intro ds hl
   have hl':ds.length = 4:=hl
   clear hl
   rcases ds with _ | ⟨a,_ | ⟨b,_ | ⟨c,_ | ⟨d,_ | ⟨z,r⟩⟩⟩⟩⟩
   · simp at hl'
   · simp at hl'
   · simp at hl'
   · simp at hl'
   · rfl
   · simp at hl'
 · intro H vs hv
   exact rulesVotes_law H vs hv
/-- The row. -/
theorem rulesVotes_said:Rows.RulesVotesSaid :=
 OpenClaim.holds_of_cond 5 Tryz.f5 rfl rfl rfl rfl rfl rfl rfl ⟨rfl,rfl,rfl,rfl,rfl⟩ rfl rfl rfl rfl rfl (by kernel_rfl) Tryz.func5 (by kernel_rfl)
  (of_decide_eq_true (by kernel_rfl)) (by unfold Func.isWrapper; first | (rw [if_pos (by decide +kernel)]; kernel_rfl) | (rw [if_neg (by decide +kernel)]; exact ⟨rfl,rfl⟩))
  (fun os started H enc _ F=>by rw [OpenClaim.pre_eq_preRow]; exact rulesVotes_lifted os started H enc F)
theorem rulesVotes_plain (f:FuncId) (fn:Func) (hf:Tryz.pinned.checked.prog.funcNamed "hallmoot/hallmootlaw21.RulesVotes" = some f) (hfn:Tryz.pinned.checked.prog.funcs[f]? = some fn) :
  false = Tryz.pinned.checked.prog.looks [] ∧ ∀ (j:Nat) t,fn.params[j]? = some t → Tryz.pinned.checked.prog.wantsStandIn t = false:=by
 obtain rfl:f = 5:=Option.some.inj ((show Tryz.prog.funcNamed "hallmoot/hallmootlaw21.RulesVotes" = some 5 by kernel_rfl).symm.trans hf) |>.symm
 obtain rfl:fn = Tryz.f5:=(Option.some.inj (Tryz.func5.symm.trans hfn)).symm
 refine ⟨by kernel_rfl,fun j t ht=>?_⟩
 rw [Tryz.params5] at ht
 have ht':t = 35 ∨ t = 3 ∨ t = 3 ∨ t = 28:=by simpa using Array.mem_of_getElem? ht
 rcases ht' with rfl | rfl | rfl | rfl
 · exact (show Tryz.prog.wantsStandIn 35 = false by kernel_rfl)
 · exact (show Tryz.prog.wantsStandIn 3 = false by kernel_rfl)
 · exact (show Tryz.prog.wantsStandIn 3 = false by kernel_rfl)
 · exact (show Tryz.prog.wantsStandIn 28 = false by kernel_rfl)
/-- THE CARD. -/
theorem rulesVotes_card:Rows.RulesVotesCardSaid :=
 Claim7.holds_tied_plain_at .later [] _ _ _ _ rulesVotes_said (fun _ h=>by cases h) (by kernel_rfl) (fun _ h=>by cases h) rulesVotes_row_tie rfl ⟨rfl,rfl⟩ (by kernel_rfl) rfl rulesVotes_plain (by kernel_rfl)
end Go.Proofs.YtaidfojbnfkclaaGreatDoor
