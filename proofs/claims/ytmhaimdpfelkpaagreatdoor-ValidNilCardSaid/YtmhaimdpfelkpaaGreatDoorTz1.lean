/-
  The trailing zeros of a set: the library's function, by the shelf's contract.
-/
import Derived.Test.YtmhaimdpfelkpaaGreatDoorYtmhaimdpfelkpaaGreatDoorFacts
import Derived.Test.YtmhaimdpfelkpaaGreatDoorAbsC
set_option linter.unusedVariables false
set_option linter.unusedSimpArgs false
namespace Go.Proofs.YtmhaimdpfelkpaaGreatDoor
open Go Go.Abs Go.Proofs
set_option maxRecDepth 100000

def lays28_ren : Go.Shelf.Ren := ⟨fun | 28 => 76 | n => n, fun | 27 => 22 | 3 => 3 | 4 => 4 | 25 => 165 | 53 => 166 | 0 => 0 | 5 => 5 | n => n, fun | 0 => 0 | n => n⟩
theorem lays28 : Go.Proofs.Lays7.n28 Tryz.prog lays28_ren := {
  mixed := by kernel_rfl
  f28 := Tryz.func76.trans (congrArg some (by kernel_rfl))
  t0 := Tryz.underlying0
  a0 := Tryz.isAgg0
  z0 := Tryz.sizeOf0
  v0 := Tryz.zeroValue0
  i0 := by kernel_rfl
  t3 := Tryz.underlying3
  a3 := Tryz.isAgg3
  z3 := Tryz.sizeOf3
  v3 := Tryz.zeroValue3
  i3 := by kernel_rfl
  t4 := Tryz.underlying4
  a4 := Tryz.isAgg4
  z4 := Tryz.sizeOf4
  v4 := Tryz.zeroValue4
  i4 := by kernel_rfl
  t5 := Tryz.underlying5
  a5 := Tryz.isAgg5
  z5 := Tryz.sizeOf5
  v5 := Tryz.zeroValue5
  i5 := by kernel_rfl
  t25 := Tryz.underlying165
  a25 := Tryz.isAgg165
  z25 := Tryz.sizeOf165
  v25 := Tryz.zeroValue165
  i25 := by kernel_rfl
  t27 := Tryz.underlying22
  a27 := Tryz.isAgg22
  z27 := Tryz.sizeOf22
  v27 := Tryz.zeroValue22
  i27 := by kernel_rfl
  t53 := Tryz.underlying166
  a53 := Tryz.isAgg166
  z53 := Tryz.sizeOf166
  v53 := Tryz.zeroValue166
  i53 := by kernel_rfl
  g0 := by kernel_rfl }


theorem tz_ok (H : AH) (x : BitVec 32) : ACalls Tryz.prog 76 [u32 x] H fun r H' => r = .i .i64 (Lib.ctz 32 x.toNat) ∧ H' = H :=
  tz_call (ρ := lays28_ren) lays28 (List.mem_append_right _ (List.mem_cons_self ..)) ⟨_, Tryz.func76, rfl, rfl⟩ H x
instance : Known Tryz.prog := ⟨tzVal 76, tzVal_ok tz_ok⟩
theorem bitsTab_reads {W : World} (h : Lib.VarReads Tryz.prog W "math/bits.deBruijn32tab" bitsData) : TabAt (lays28_ren.g 0) Lib.deBruijn32tab W :=
  bits_of_reads (by kernel_rfl) (by kernel_rfl) (lays28.t53) (lays28.t5) (by kernel_rfl) (by kernel_rfl) h
end Go.Proofs.YtmhaimdpfelkpaaGreatDoor
