/-
  Timeouts: what package block and the document's answer say of them.
-/
import Derived.Test.YtikonppmjkipoaaDoorRef11
import Derived.Test.YtikonppmjkipoaaDoorAbsC
set_option linter.unusedVariables false
set_option linter.unusedSimpArgs false
namespace Go.Proofs.YtikonppmjkipoaaDoor
open Go Go.Abs Go.Proofs
set_option maxRecDepth 100000
attribute [local irreducible] AEnd AW ACalls

/-- Is it of the fallback, and of one that a coin elected? -/
def Cert.endorsed (c : Cert) : Bool := decide (c.kind = 2) && !decide (c.coin = 0#32)
/-- May a certificate stand where none of a view's fallback may? -/
def openS (c : Cert) (v : Int) : Bool := c.ok && (if c.kind = 2 then c.endorsed && decide (c.view < v) else decide (c.view ≤ v))
/-- A timeout. -/
structure Tmo where
  signer : Int
  view : Int
  high : Cert
  deriving DecidableEq
def Tmo.cells (t : Tmo) : List V := .i .i64 t.signer :: .i .i64 t.view :: t.high.cells
@[simp] theorem Tmo.len (x : Tmo) : x.cells.length = 10 := rfl
@[simp] theorem Tmo.c0 (x : Tmo) : x.cells[0]? = some (.i .i64 x.signer) := rfl
@[simp] theorem Tmo.c1 (x : Tmo) : x.cells[1]? = some (.i .i64 x.view) := rfl
@[simp] theorem Tmo.c2 (x : Tmo) : x.cells[2]? = some (.i .i64 x.high.kind) := rfl
@[simp] theorem Tmo.c3 (x : Tmo) : x.cells[3]? = some (.i .i64 x.high.block) := rfl
@[simp] theorem Tmo.c4 (x : Tmo) : x.cells[4]? = some (.i .i64 x.high.view) := rfl
@[simp] theorem Tmo.c5 (x : Tmo) : x.cells[5]? = some (.i .i64 x.high.round) := rfl
theorem Tmo.high_cells (x : Tmo) : (x.cells.drop 2).take 8 = x.high.cells := rfl
theorem tmo_take (x : Tmo) : x.cells.take 10 = x.cells := rfl
/-- May it be one? -/
def Tmo.ok (t : Tmo) : Bool := inR t.signer 0 9 && inR t.view 1 1048576 && openS t.high t.view
/-- What was signed for it. -/
def Tmo.signed (t : Tmo) : List V := [.i .i64 3, .i .i64 0, .i .i64 t.view, .i .i64 0, .i .i64 0, .i .i64 0, .i .i64 t.high.kind, .i .i64 t.high.block, .i .i64 t.high.view, .i .i64 t.high.round]
theorem inR_le (n a b : Int) : inR n a b = (decide (a ≤ n) && decide (n ≤ b)) := by simp [inR]
end Go.Proofs.YtikonppmjkipoaaDoor
