/-
  Transactions; lists of transactions and of timeouts; which are the same.
-/
import Derived.Test.YtikonppmjkipoaaDoorBlock1
set_option linter.unusedVariables false
set_option linter.unusedSimpArgs false
namespace Go.Proofs.YtikonppmjkipoaaDoor
open Go Go.Abs Go.Proofs
set_option maxRecDepth 100000
attribute [local irreducible] AEnd AW ACalls

/-- A transaction. -/
structure Tx where
  kind : Int
  src : List UInt8
  dst : List UInt8
  key : List UInt8
  val : List UInt8
  amount : Int
  nonce : Int
  deriving DecidableEq
def Tx.cells (t : Tx) : List V := [.i .i64 t.kind, .s t.src, .s t.dst, .s t.key, .s t.val, .i .i64 t.amount, .i .i64 t.nonce]
def Tx.zero : Tx := ⟨0, [], [], [], [], 0, 0⟩
@[simp] theorem Tx.len (x : Tx) : x.cells.length = 7 := rfl
@[simp] theorem Tx.c0 (x : Tx) : x.cells[0]? = some (.i .i64 x.kind) := rfl
@[simp] theorem Tx.c1 (x : Tx) : x.cells[1]? = some (.s x.src) := rfl
@[simp] theorem Tx.c2 (x : Tx) : x.cells[2]? = some (.s x.dst) := rfl
@[simp] theorem Tx.c3 (x : Tx) : x.cells[3]? = some (.s x.key) := rfl
@[simp] theorem Tx.c4 (x : Tx) : x.cells[4]? = some (.s x.val) := rfl
@[simp] theorem Tx.c5 (x : Tx) : x.cells[5]? = some (.i .i64 x.amount) := rfl
@[simp] theorem Tx.c6 (x : Tx) : x.cells[6]? = some (.i .i64 x.nonce) := rfl
theorem tx_take (x : Tx) : x.cells.take 7 = x.cells := rfl
@[simp] theorem Tx.lts (n : Nat) (c : Tx) : V.lts n c.cells = true := by simp [Tx.cells]
@[simp] theorem Cert.lts (n : Nat) (c : Cert) : V.lts n c.cells = true := by simp [Cert.cells, u32]
@[simp] theorem Tmo.lts (n : Nat) (c : Tmo) : V.lts n c.cells = true := by simp [Tmo.cells]
@[simp] theorem Tx.aeq (x y : Tx) : aeq Tryd.prog 25 (.agg x.cells) (.agg y.cells) = some (decide (x = y)) := by
  have e : ((x.kind == y.kind) && ((x.src == y.src) && ((x.dst == y.dst) && ((x.key == y.key) && ((x.val == y.val) && ((x.amount == y.amount) && (x.nonce == y.nonce))))))) = decide (x = y) := by
    by_cases h : x = y
    · subst h; simp
    · simp only [h, decide_false]
      cases x; cases y
      simp at h ⊢
      simpa using h
  simp [Go.Abs.aeq, Tx.cells, fitsAll, CK.fits, ceqs, ceq, e]
theorem Tmo.eq' (x y : Tmo) : ((x.signer == y.signer) && ((x.view == y.view) && decide (x.high = y.high))) = decide (x = y) := by
  by_cases h : x = y
  · subst h; simp
  · simp only [h, decide_false]
    cases x; cases y
    simp at h ⊢
    simpa using h
/-- Is it more than is looked at? -/
def Tx.great (t : Tx) : Bool := decide (1000 < t.src.length) || decide (1000 < t.dst.length) || decide (1000 < t.key.length) || decide (1000 < t.val.length)
theorem greatTx_ok (H : AH) (t : Tx) : ACalls Tryd.prog 21 [.agg t.cells] H fun r H' => r = .b t.great ∧ H' = H := by
  refine ACalls.pure (Q := fun r => r = .b t.great) ⟨_, Tryd.func21, rfl, rfl⟩ ?_
  refine ACalls_body Tryd.func21 rfl rfl ?_
  refine AW_seq ?_
  refine AW_reg [1] fun K hK => ?_ -- region 0
  simp [init_eq, V.cells]
  obtain ⟨H1, e1, hp, hn, ho⟩ := H.boxed t.cells
  rw [e1]
  refine hK _ _ ?_; clear hK K
  refine AW_seq ?_
  refine AW_regto [2] ⟨25, [(2, .b t.great)]⟩ H1 (fun K hk => ?_) (AW_ret (end_ret rfl (pure_end hn ho rfl rfl))) -- region 1
  have c : ∀ l : List UInt8, (1000 < (l.length : Int)) = (1000 < l.length) := fun l => propext (by omega)
  by_cases h1 : 1000 < t.src.length
  · simpa [init_eq, afieldAddr, aload, hp, alen, c, Tx.great, h1] using hk
  by_cases h2 : 1000 < t.dst.length
  · simpa [init_eq, afieldAddr, aload, hp, alen, c, Tx.great, h1, h2] using hk
  by_cases h3 : 1000 < t.key.length
  · simpa [init_eq, afieldAddr, aload, hp, alen, c, Tx.great, h1, h2, h3] using hk
  · simpa [init_eq, afieldAddr, aload, hp, alen, c, Tx.great, h1, h2, h3] using hk
end Go.Proofs.YtikonppmjkipoaaDoor
