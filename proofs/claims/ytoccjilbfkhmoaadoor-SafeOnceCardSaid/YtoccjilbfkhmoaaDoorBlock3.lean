/-
  Blocks: which are more than is looked at, which are the same.
-/
import Derived.Test.YtoccjilbfkhmoaaDoorBlock2
set_option linter.unusedVariables false
set_option linter.unusedSimpArgs false
namespace Go.Proofs.YtoccjilbfkhmoaaDoor
open Go Go.Abs Go.Proofs
set_option maxRecDepth 100000
attribute [local irreducible] AEnd AW ACalls

/-- A block. -/
structure Blk where
  view : Int
  round : Int
  height : Int
  author : Int
  parent : Cert
  proof : List Tmo
  txs : List Tx
  deriving DecidableEq
/-- Its cells, where its lists lie at pv and tv. -/
def Blk.cells (b : Blk) (pv tv : V) : List V := .i .i64 b.view :: .i .i64 b.round :: .i .i64 b.height :: .i .i64 b.author :: (b.parent.cells ++ [pv, tv])
/-- Its lists lie there. -/
structure BlkAt (H : AH) (b : Blk) (pv tv : V) : Prop where
  pf : RS H pv 10 (b.proof.map Tmo.cells)
  tx : RS H tv 7 (b.txs.map Tx.cells)
section
variable (b : Blk) (pv tv : V)
@[simp] theorem Blk.len : (b.cells pv tv).length = 14 := rfl
@[simp] theorem Blk.c0 : (b.cells pv tv)[0]? = some (.i .i64 b.view) := rfl
@[simp] theorem Blk.c1 : (b.cells pv tv)[1]? = some (.i .i64 b.round) := rfl
@[simp] theorem Blk.c2 : (b.cells pv tv)[2]? = some (.i .i64 b.height) := rfl
@[simp] theorem Blk.c3 : (b.cells pv tv)[3]? = some (.i .i64 b.author) := rfl
@[simp] theorem Blk.c12 : (b.cells pv tv)[12]? = some pv := rfl
@[simp] theorem Blk.c13 : (b.cells pv tv)[13]? = some tv := rfl
theorem Blk.parent_cells : ((b.cells pv tv).drop 4).take 8 = b.parent.cells := rfl
theorem blk_take : (b.cells pv tv).take 14 = b.cells pv tv := rfl
end
theorem BlkAt.same {H H' : AH} {b : Blk} {pv tv : V} (h : BlkAt H b pv tv) (hx : ∀ j, j < H.next → H'.get j = H.get j) : BlkAt H' b pv tv := ⟨h.pf.same hx, h.tx.same hx⟩
/-- Is it more than is looked at? -/
def Blk.great (b : Blk) : Bool := decide (40 < b.proof.length) || decide (40 < b.txs.length) || b.txs.any Tx.great
theorem any_take {α : Type} {p : α → Bool} {xs : List α} {i : Nat} (hi : i < xs.length) (h : (xs.take i).any p = false) (he : p xs[i] = false) : (xs.take (i + 1)).any p = false := by
  rw [List.take_succ_eq_append_getElem hi, List.any_append, h]; simp [he]
theorem any_at {α : Type} {p : α → Bool} {xs : List α} {i : Nat} (hi : i < xs.length) (he : p xs[i] = true) : xs.any p = true :=
  List.any_eq_true.2 ⟨xs[i], List.getElem_mem hi, he⟩
theorem Blk.eq' (a b : Blk) : (decide (a.view = b.view) && (decide (a.round = b.round) && (decide (a.height = b.height) && (decide (a.author = b.author) && (decide (a.parent = b.parent) && (decide (a.proof = b.proof) && decide (a.txs = b.txs))))))) = decide (a = b) := by
  by_cases h : a = b
  · subst h; simp
  · simp only [h, decide_false]
    cases a; cases b
    simp at h ⊢
    simpa using h
end Go.Proofs.YtoccjilbfkhmoaaDoor
