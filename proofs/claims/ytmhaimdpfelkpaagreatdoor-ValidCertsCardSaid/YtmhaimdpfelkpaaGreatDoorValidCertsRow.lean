/-
  ValidCerts: the law returns true for every input that the given row lets in,and leaves its arguments as they were. No conditions of my own.
-/
import Derived.Test.YtmhaimdpfelkpaaGreatDoorValidCerts
import Derived.Test.YtmhaimdpfelkpaaGreatDoorAbsB
import Derived.Test.YtmhaimdpfelkpaaGreatDoorCards
import Derived.Test.YtmhaimdpfelkpaaGreatDoorTie
import Derived.WalkKit
import Derived.OpenShut
import Derived.MakeChecks
import Derived.Lib.LaidU8
import Derived.ProofKit
set_option linter.unusedVariables false
set_option linter.unusedSimpArgs false
namespace Go.Proofs.YtmhaimdpfelkpaaGreatDoor
open Go Go.Abs Go.Proofs Go.ChangeShapes Go.WideShapes Go.ChangeAt Go.RowKit
set_option maxRecDepth 100000
instance:Laid Tryz.checked.prog:=(inferInstance:Laid Tryz.prog)
/-- A world for the witness: the settled one, the tables as their initialisers lay them. -/
noncomputable def laidWorld (os:Os):World:=withTabs Tryz.prog Rows.validCertsRow.laid (World.holding Tryz.prog os ⟨#[],#[],[]⟩)
noncomputable def validCerts_args:Array Value:=#[.agg #[.int .i64 0,.int .u32 0,.slice none 0 0,.slice none 0 0,.slice none 0 0,.slice none 0 0],.agg #[.int .i64 0,.int .i64 0,.int .i64 0,.int .i64 0,.int .i64 0,.int .i64 0,.int .u32 0,.int .u32 0],.agg #[.int .i64 0,.int .i64 0,.int .i64 0,.int .i64 0,.int .i64 0,.int .i64 0,.int .i64 0,.int .i64 0,.int .u32 0,.int .u32 0],.slice none 0 0,.int .i64 0]
theorem validCerts_met (os:Os):laidMet Tryz.prog Rows.validCertsRow.laid ((laidWorld os).forCall (fun _ _=>0) ⟨#[],validCerts_args,[]⟩).memory :=
 laidMet_of_run' 8 (by kernel_rfl) (by kernel_rfl)
theorem validCerts_reads (os:Os) {H:Type} (enc:TypeId × Value → H):∃ x,DataW.whole enc Tryz.prog ((laidWorld os).forCall (fun _ _=>0) ⟨#[],validCerts_args,[]⟩).memory Tryz.f6.params.toList Rows.validCertsSpec.vars false validCerts_args.toList 8 = some x :=
 Option.isSome_iff_exists.1 (by kernel_rfl)
/-- The tables of the library lie where the row lists them. -/
theorem validCerts_tabs (W:World) (h:laidMetH Tryz.checked.prog Rows.validCertsRow.laid W):Laid.ok Tryz.checked.prog ⟨W,Loc.none⟩:=by
 rw [MakeChecks.laidMetH_plain _ _ _ (by kernel_rfl)] at h
 refine utf8b_ok (P:=Tryz.checked.prog) (g3:=lays197_ren.g 3) (g4:=lays197_ren.g 4) (g0:=lays28_ren.g 0) rfl ?_ ?_
 · have e3:Rows.laid_unicode_utf8_first = Lib.firstData:=by kernel_rfl
   have e4:(Rows.laid_unicode_utf8_acceptRanges:DataW Unit) = Lib.acceptData:=by kernel_rfl
   have h3:Lib.VarReads Tryz.prog W "unicode/utf8.first" Lib.firstData:=e3 ▸ Lib.laidMet.reads h (by simp [Rows.validCertsRow])
   have h4:Lib.VarReads Tryz.prog W "unicode/utf8.acceptRanges" Lib.acceptData:=e4 ▸ Lib.laidMet.reads h (by simp [Rows.validCertsRow])
   exact utf8Tabs_of_reads (P:=Tryz.prog) (ρ:=lays197_ren) { lays197 with } ⟨by kernel_rfl,by kernel_rfl,by kernel_rfl,by kernel_rfl,by kernel_rfl,by kernel_rfl,by kernel_rfl⟩ h3 h4
 · exact bitsTab_reads ((show Rows.laid_math_bits_deBruijn32tab = bitsData by kernel_rfl) ▸ Lib.laidMet.reads h (by simp [Rows.validCertsRow]))
theorem validCerts_lifted (os:Os) (started:os.Started) (H:Type) (enc:TypeId × Value → H) (F:Stop.Interp) :
  ReturnsInHanded {} Tryz.checked os 6 .any ((OpenSpec.ofChange Rows.validCertsSpec).preRow enc Tryz.prog Tryz.f6 Rows.validCertsRow.domain false Rows.validCertsRow.laid) (((OpenSpec.ofChange Rows.validCertsSpec).at F).post enc Tryz.prog Tryz.f6 false true false false):=by
 obtain ⟨x,hx⟩:=validCerts_reads os enc
 refine law_row (C:=Tryz.checked) (tb:=4) (validCerts_tabs) (by kernel_rfl) started (by kernel_rfl) Tryz.func6 (by kernel_rfl)
  (witness_row_at (enc:=enc) (C:=Tryz.checked) false (laidWorld os) validCerts_args rfl (by kernel_rfl) (by kernel_rfl) (by kernel_rfl)
    (OpenSpec.preRow_of_cond 8 hx rfl (fun k hk=>by cases hk) (by kernel_rfl) (validCerts_met os)))
  (by kernel_rfl) ?_ ?_ rfl Tryz.underlying4 rfl ?_ ?_
 · intro t ht
   have ht':t ∈ [27,29,69,30,3]:=ht
   simp only [List.mem_cons,List.not_mem_nil,or_false] at ht'
   rcases ht' with rfl | rfl | rfl | rfl | rfl
   · exact ⟨by kernel_rfl,fun h=>by rw [show qagg Tryz.checked.prog 27 = some true from qagg_27] at h; cases h⟩
   · exact ⟨by kernel_rfl,fun h=>by rw [show qagg Tryz.checked.prog 29 = some true from qagg_29] at h; cases h⟩
   · exact ⟨by kernel_rfl,fun h=>by rw [show qagg Tryz.checked.prog 69 = some true from qagg_69] at h; cases h⟩
   · exact ⟨by kernel_rfl,fun _=>by kernel_rfl⟩
   · exact ⟨by kernel_rfl,fun _=>by kernel_rfl⟩
 · intro t ht
   have ht':t ∈ [27,29,69,30,3]:=ht
   simp only [List.mem_cons,List.not_mem_nil,or_false] at ht'
   rcases ht' with rfl | rfl | rfl | rfl | rfl
   · exact ⟨by kernel_rfl,of_decide_eq_true (by kernel_rfl)⟩
   · exact ⟨by kernel_rfl,of_decide_eq_true (by kernel_rfl)⟩
   · exact ⟨by kernel_rfl,of_decide_eq_true (by kernel_rfl)⟩
   · exact ⟨by kernel_rfl,of_decide_eq_true (by kernel_rfl)⟩
   · exact ⟨by kernel_rfl,of_decide_eq_true (by kernel_rfl)⟩
 · intro ds hl
   have hl':ds.length = 5:=hl
   clear hl
   rcases ds with _ | ⟨a,_ | ⟨b,_ | ⟨c,_ | ⟨d,_ | ⟨e,_ | ⟨z,r⟩⟩⟩⟩⟩⟩
   · simp at hl'
   · simp at hl'
   · simp at hl'
   · simp at hl'
   · simp at hl'
   · rfl
   · simp at hl'
 · intro H vs hv
   exact validCerts_law H vs hv
/-- The row. -/
theorem validCerts_said:Rows.ValidCertsSaid :=
 OpenClaim.holds_of_cond 6 Tryz.f6 rfl rfl rfl rfl rfl rfl rfl ⟨rfl,rfl,rfl,rfl,rfl⟩ rfl rfl rfl rfl rfl (by kernel_rfl) Tryz.func6 (by kernel_rfl)
  (of_decide_eq_true (by kernel_rfl)) (by unfold Func.isWrapper; first | (rw [if_pos (by decide +kernel)]; kernel_rfl) | (rw [if_neg (by decide +kernel)]; exact ⟨rfl,rfl⟩))
  (fun os started H enc _ F=>by rw [OpenClaim.pre_eq_preRow]; exact validCerts_lifted os started H enc F)
theorem validCerts_plain (f:FuncId) (fn:Func) (hf:Tryz.pinned.checked.prog.funcNamed "hallmoot/hallmootlaw13.ValidCerts" = some f) (hfn:Tryz.pinned.checked.prog.funcs[f]? = some fn) :
  false = Tryz.pinned.checked.prog.looks [] ∧ ∀ (j:Nat) t,fn.params[j]? = some t → Tryz.pinned.checked.prog.wantsStandIn t = false:=by
 obtain rfl:f = 6:=Option.some.inj ((show Tryz.prog.funcNamed "hallmoot/hallmootlaw13.ValidCerts" = some 6 by kernel_rfl).symm.trans hf) |>.symm
 obtain rfl:fn = Tryz.f6:=(Option.some.inj (Tryz.func6.symm.trans hfn)).symm
 refine ⟨by kernel_rfl,fun j t ht=>?_⟩
 rw [Tryz.params6] at ht
 have ht':t = 27 ∨ t = 29 ∨ t = 69 ∨ t = 30 ∨ t = 3:=by simpa using Array.mem_of_getElem? ht
 rcases ht' with rfl | rfl | rfl | rfl | rfl
 · exact (show Tryz.prog.wantsStandIn 27 = false by kernel_rfl)
 · exact (show Tryz.prog.wantsStandIn 29 = false by kernel_rfl)
 · exact (show Tryz.prog.wantsStandIn 69 = false by kernel_rfl)
 · exact (show Tryz.prog.wantsStandIn 30 = false by kernel_rfl)
 · exact (show Tryz.prog.wantsStandIn 3 = false by kernel_rfl)
/-- THE CARD. -/
theorem validCerts_card:Rows.ValidCertsCardSaid :=
 Claim7.holds_tied_plain_at .later [] _ _ _ _ validCerts_said (fun _ h=>by cases h) (by kernel_rfl) (fun _ h=>by cases h) validCerts_row_tie rfl ⟨rfl,rfl⟩ (by kernel_rfl) rfl validCerts_plain (by kernel_rfl)
end Go.Proofs.YtmhaimdpfelkpaaGreatDoor
