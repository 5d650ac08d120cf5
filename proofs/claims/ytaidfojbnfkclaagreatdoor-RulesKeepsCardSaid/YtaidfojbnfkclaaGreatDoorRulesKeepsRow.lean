import Derived.Test.YtaidfojbnfkclaaGreatDoorRulesKeeps
import Derived.Test.YtaidfojbnfkclaaGreatDoorAbsB
import Derived.Test.YtaidfojbnfkclaaGreatDoorCards
import Derived.Test.YtaidfojbnfkclaaGreatDoorTie
import Derived.WalkKit
import Derived.OpenShut
import Derived.MakeChecks
import Derived.Lib.LaidU8
import Derived.ProofKit
set_option linter.unusedVariables false
set_option linter.unusedSimpArgs false
namespace Go.Proofs.YtaidfojbnfkclaaGreatDoor
open Go Go.Abs Go.Proofs Go.ChangeShapes Go.WideShapes Go.ChangeAt Go.RowKit
set_option maxRecDepth 100000
instance:Laid Tryz.checked.prog:=(inferInstance:Laid Tryz.prog)
noncomputable def laidWorld (os:Os):World:=withTabs Tryz.prog Rows.rulesKeepsRow.laid (World.holding Tryz.prog os ⟨#[],#[],[]⟩)
noncomputable def rulesKeeps_args:Array Value:=#[.agg #[.slice none 0 0,.int .i64 0,.int .i64 0,.slice none 0 0,.int .i64 0,.int .i64 0,.int .i64 0,.int .i64 0,.int .i64 0,.int .i64 0,.int .u32 0,.int .u32 0,.slice none 0 0],.int .i64 0,.agg #[.int .i64 0,.int .i64 0,.int .i64 0,.int .i64 0,.int .i64 0,.int .i64 0,.int .i64 0,.int .i64 0,.int .i64 0,.int .i64 0,.int .u32 0,.int .u32 0,.slice none 0 0,.slice none 0 0]]
theorem rulesKeeps_met (os:Os):laidMet Tryz.prog Rows.rulesKeepsRow.laid ((laidWorld os).forCall (fun _ _=>0) ⟨#[],rulesKeeps_args,[]⟩).memory :=
 laidMet_of_run' 8 (by kernel_rfl) (by kernel_rfl)
theorem rulesKeeps_reads (os:Os) {H:Type} (enc:TypeId × Value → H):∃ x,DataW.whole enc Tryz.prog ((laidWorld os).forCall (fun _ _=>0) ⟨#[],rulesKeeps_args,[]⟩).memory Tryz.f6.params.toList Rows.rulesKeepsSpec.vars false rulesKeeps_args.toList 8 = some x :=
 Option.isSome_iff_exists.1 (by kernel_rfl)
theorem rulesKeeps_tabs (W:World) (h:laidMetH Tryz.checked.prog Rows.rulesKeepsRow.laid W):Laid.ok Tryz.checked.prog ⟨W,Loc.none⟩:=by
 rw [MakeChecks.laidMetH_plain _ _ _ (by kernel_rfl)] at h
 refine utf8_ok (P:=Tryz.checked.prog) (g3:=lays197_ren.g 3) (g4:=lays197_ren.g 4) rfl ?_
 have e3:Rows.laid_unicode_utf8_first = Lib.firstData:=by kernel_rfl
 have e4:(Rows.laid_unicode_utf8_acceptRanges:DataW Unit) = Lib.acceptData:=by kernel_rfl
 have h3:Lib.VarReads Tryz.prog W "unicode/utf8.first" Lib.firstData:=e3 ▸ Lib.laidMet.reads h (by simp [Rows.rulesKeepsRow])
 have h4:Lib.VarReads Tryz.prog W "unicode/utf8.acceptRanges" Lib.acceptData:=e4 ▸ Lib.laidMet.reads h (by simp [Rows.rulesKeepsRow])
 exact utf8Tabs_of_reads (P:=Tryz.prog) (ρ:=lays197_ren) { lays197 with } ⟨by kernel_rfl,by kernel_rfl,by kernel_rfl,by kernel_rfl,by kernel_rfl,by kernel_rfl,by kernel_rfl⟩ h3 h4
theorem rulesKeeps_lifted (os:Os) (started:os.Started) (H:Type) (enc:TypeId × Value → H) (F:Stop.Interp) :
  ReturnsInHanded {} Tryz.checked os 6 .any ((OpenSpec.ofChange Rows.rulesKeepsSpec).preRow enc Tryz.prog Tryz.f6 Rows.rulesKeepsRow.domain false Rows.rulesKeepsRow.laid) (((OpenSpec.ofChange Rows.rulesKeepsSpec).at F).post enc Tryz.prog Tryz.f6 false true false false):=by
 obtain ⟨x,hx⟩:=rulesKeeps_reads os enc
 refine law_row (C:=Tryz.checked) (tb:=4) (rulesKeeps_tabs) (by kernel_rfl) started (by kernel_rfl) Tryz.func6 (by kernel_rfl)
  (witness_row_at (enc:=enc) (C:=Tryz.checked) false (laidWorld os) rulesKeeps_args rfl (by kernel_rfl) (by kernel_rfl) (by kernel_rfl)
    (OpenSpec.preRow_of_cond 8 hx rfl (fun k hk=>by cases hk) (by kernel_rfl) (rulesKeeps_met os)))
  (by kernel_rfl) ?_ ?_ rfl Tryz.underlying4 rfl ?_ ?_
 · intro t ht
   have ht':t ∈ [60,3,28]:=ht
   simp only [List.mem_cons,List.not_mem_nil,or_false] at ht'
   rcases ht' with rfl | rfl | rfl
   · exact ⟨by kernel_rfl,fun h=>by rw [show qagg Tryz.checked.prog 60 = some true from qagg_60] at h; cases h⟩
   · exact ⟨by kernel_rfl,fun _=>by kernel_rfl⟩
   · exact ⟨by kernel_rfl,fun h=>by rw [show qagg Tryz.checked.prog 28 = some true from qagg_28] at h; cases h⟩
 · intro t ht
   have ht':t ∈ [60,3,28]:=ht
   simp only [List.mem_cons,List.not_mem_nil,or_false] at ht'
   rcases ht' with rfl | rfl | rfl
   · exact ⟨by kernel_rfl,of_decide_eq_true (by kernel_rfl)⟩
   · exact ⟨by kernel_rfl,of_decide_eq_true (by kernel_rfl)⟩
   · exact ⟨by kernel_rfl,of_decide_eq_true (by kernel_rfl)⟩
 · intro ds hl
   have hl':ds.length = 3:=hl
   clear hl
   rcases ds with _ | ⟨a,_ | ⟨b,_ | ⟨c,_ | ⟨z,r⟩⟩⟩⟩
   · simp at hl'
   · simp at hl'
   · simp at hl'
   · rfl
   · simp at hl'
 · intro H vs hv
   exact rulesKeeps_law H vs hv
theorem rulesKeeps_said:Rows.RulesKeepsSaid :=
 OpenClaim.holds_of_cond 6 Tryz.f6 rfl rfl rfl rfl rfl rfl rfl ⟨rfl,rfl,rfl,rfl,rfl⟩ rfl rfl rfl rfl rfl (by kernel_rfl) Tryz.func6 (by kernel_rfl)
  (of_decide_eq_true (by kernel_rfl)) (by unfold Func.isWrapper; first | (rw [if_pos (by decide +kernel)]; kernel_rfl) | (rw [if_neg (by decide +kernel)]; exact ⟨rfl,rfl⟩))
  (fun os started H enc _ F=>by rw [OpenClaim.pre_eq_preRow]; exact rulesKeeps_lifted os started H enc F)
theorem rulesKeeps_plain (f:FuncId) (fn:Func) (hf:Tryz.pinned.checked.prog.funcNamed "hallmoot/hallmootlaw21.RulesKeeps" = some f) (hfn:Tryz.pinned.checked.prog.funcs[f]? = some fn) :
  false = Tryz.pinned.checked.prog.looks [] ∧ ∀ (j:Nat) t,fn.params[j]? = some t → Tryz.pinned.checked.prog.wantsStandIn t = false:=by
 obtain rfl:f = 6:=Option.some.inj ((show Tryz.prog.funcNamed "hallmoot/hallmootlaw21.RulesKeeps" = some 6 by kernel_rfl).symm.trans hf) |>.symm
 obtain rfl:fn = Tryz.f6:=(Option.some.inj (Tryz.func6.symm.trans hfn)).symm
 refine ⟨by kernel_rfl,fun j t ht=>?_⟩
 rw [Tryz.params6] at ht
 have ht':t = 60 ∨ t = 3 ∨ t = 28:=by simpa using Array.mem_of_getElem? ht
 rcases ht' with rfl | rfl | rfl
 · exact (show Tryz.prog.wantsStandIn 60 = false by kernel_rfl)
 · exact (show Tryz.prog.wantsStandIn 3 = false by kernel_rfl)
 · exact (show Tryz.prog.wantsStandIn 28 = false by kernel_rfl)
theorem rulesKeeps_card:Rows.RulesKeepsCardSaid :=
 Claim7.holds_tied_plain_at .later [] _ _ _ _ rulesKeeps_said (fun _ h=>by cases h) (by kernel_rfl) (fun _ h=>by cases h) rulesKeeps_row_tie rfl ⟨rfl,rfl⟩ (by kernel_rfl) rfl rulesKeeps_plain (by kernel_rfl)
end Go.Proofs.YtaidfojbnfkclaaGreatDoor
