/-
  Package cert: what its functions give.
-/
import Derived.Test.YtikonppmjkipoaaDoorQuorum
set_option linter.unusedVariables false
set_option linter.unusedSimpArgs false
namespace Go.Proofs.YtikonppmjkipoaaDoor
open Go Go.Abs Go.Proofs
set_option maxRecDepth 100000
attribute [local irreducible] AEnd AW ACalls

def inR (n a b : Int) : Bool := decide (a ≤ n ∧ n ≤ b)
def setOk (s : BitVec 32) : Bool := decide (qcheck 3 s = 0)
/-- A certificate. -/
structure Cert where
  kind : Int
  block : Int
  view : Int
  round : Int
  height : Int
  author : Int
  signers : BitVec 32
  coin : BitVec 32
  deriving DecidableEq
def Cert.cells (c : Cert) : List V := [.i .i64 c.kind, .i .i64 c.block, .i .i64 c.view, .i .i64 c.round, .i .i64 c.height, .i .i64 c.author, u32 c.signers, u32 c.coin]
def Cert.zero : Cert := ⟨0, 0, 0, 0, 0, 0, 0#32, 0#32⟩
@[simp] theorem Cert.len (x : Cert) : x.cells.length = 8 := rfl
@[simp] theorem Cert.c0 (x : Cert) : x.cells[0]? = some (.i .i64 x.kind) := rfl
@[simp] theorem Cert.c1 (x : Cert) : x.cells[1]? = some (.i .i64 x.block) := rfl
@[simp] theorem Cert.c2 (x : Cert) : x.cells[2]? = some (.i .i64 x.view) := rfl
@[simp] theorem Cert.c3 (x : Cert) : x.cells[3]? = some (.i .i64 x.round) := rfl
@[simp] theorem Cert.c4 (x : Cert) : x.cells[4]? = some (.i .i64 x.height) := rfl
@[simp] theorem Cert.c5 (x : Cert) : x.cells[5]? = some (.i .i64 x.author) := rfl
@[simp] theorem Cert.c6 (x : Cert) : x.cells[6]? = some (u32 x.signers) := rfl
@[simp] theorem Cert.c7 (x : Cert) : x.cells[7]? = some (u32 x.coin) := rfl
theorem take_cells (x : Cert) : x.cells.take 8 = x.cells := List.take_of_length_le (by simp)
theorem Cert.eq' (x y : Cert) : ((x.kind == y.kind) && ((x.block == y.block) && ((x.view == y.view) && ((x.round == y.round) && ((x.height == y.height) && ((x.author == y.author) && (((x.signers.toNat : Int) == y.signers.toNat) && ((x.coin.toNat : Int) == y.coin.toNat)))))))) = decide (x = y) := by
  by_cases h : x = y
  · subst h; simp
  · simp only [h, decide_false, toNat_inj]
    cases x; cases y
    simp at h ⊢
    simpa using h
@[simp] theorem Cert.zeroCells : V.agg [.i .i64 0, .i .i64 0, .i .i64 0, .i .i64 0, .i .i64 0, .i .i64 0, u32 0#32, u32 0#32] = .agg Cert.zero.cells := rfl
def Cert.base (c : Cert) : Bool := inR c.block 1 2147483647 && inR c.view 1 1048576 && inR c.round 1 1073741824 && !decide (c.signers = 0#32) && setOk c.signers
def Cert.reg (c : Cert) : Bool := c.base && decide (c.height = 0) && decide (c.author = 0) && decide (c.coin = 0#32)
def Cert.fall (c : Cert) : Bool := c.base && inR c.height 1 3 && inR c.author 0 9 && setOk c.coin
def Cert.ok (c : Cert) : Bool :=
  if c.kind = 0 then decide (c = Cert.zero)
  else if c.kind = 1 then c.reg
  else if c.kind = 2 then c.fall
  else false
/-- What 'Check' says. -/
def Cert.check (c : Cert) : Int := if c.ok then 0 else 110
end Go.Proofs.YtikonppmjkipoaaDoor
