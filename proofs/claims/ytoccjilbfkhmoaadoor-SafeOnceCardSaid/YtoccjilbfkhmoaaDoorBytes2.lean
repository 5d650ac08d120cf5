/-
  Bytes of transactions that may be; the document's bytes of certificates and transactions.
-/
import Derived.Test.YtoccjilbfkhmoaaDoorBytes1
set_option linter.unusedVariables false
set_option linter.unusedSimpArgs false
namespace Go.Proofs.YtoccjilbfkhmoaaDoor
open Go Go.Abs Go.Proofs
set_option maxRecDepth 100000
attribute [local irreducible] AEnd AW ACalls

theorem nat_of {x : Int} (h : 0 ≤ x) : V.i .i64 x = V.i .i64 ((x.toNat : Nat) : Int) := by rw [Int.toNat_of_nonneg h]
/-- A transaction's bytes. -/
def Tx.bytes (t : Tx) : List UInt8 :=
  numB t.kind.toNat ++ (numB t.nonce.toNat ++ (textB t.src ++ (if t.kind = 1 then textB t.dst ++ numB t.amount.toNat else textB t.key ++ textB t.val)))
/-- What is in one that is right. -/
structure Tx.Rng (t : Tx) : Prop where
  kind : t.kind = 1 ∨ t.kind = 2
  nonce : 0 ≤ t.nonce ∧ t.nonce ≤ 4611686018427387904
  amount : 0 ≤ t.amount ∧ t.amount ≤ 4611686018427387904
  src : t.src.length ≤ 128
  dst : t.dst.length ≤ 128
  key : t.key.length ≤ 128
  val : t.val.length ≤ 128
theorem Tx.rng {t : Tx} (h : t.ok = true) : t.Rng := by
  unfold Tx.ok at h
  split at h
  · rename_i hk
    simp only [Tx.moveOk, Tx.base, Bool.and_eq_true, decide_eq_true_eq] at h
    obtain ⟨⟨⟨⟨⟨h1, h2⟩, h3⟩, h4⟩, h5⟩, h6⟩ := h
    have h2 : 1 ≤ t.nonce ∧ t.nonce ≤ 4611686018427387904 := of_decide_eq_true h2
    have h4 : 1 ≤ t.amount ∧ t.amount ≤ 4611686018427387904 := of_decide_eq_true h4
    exact ⟨.inl hk, by omega, by omega, nameOk_len h1, nameOk_len h3, by simp [h5], by simp [h6]⟩
  · split at h
    · rename_i hk
      simp only [Tx.putOk, Tx.base, Bool.and_eq_true, decide_eq_true_eq] at h
      obtain ⟨⟨⟨⟨⟨h1, h2⟩, h3⟩, h4⟩, h5⟩, h6⟩ := h
      have h2 : 1 ≤ t.nonce ∧ t.nonce ≤ 4611686018427387904 := of_decide_eq_true h2
      exact ⟨.inr hk, by omega, by omega, nameOk_len h1, by simp [h5], nameOk_len h3, valOk_len h4⟩
    · cases h
theorem textB_len {s : List UInt8} (h : s.length ≤ 1000000) : (textB s).length ≤ s.length + 9 := by
  have := numB_len9 (n := s.length) (by omega)
  simp [textB]; omega
theorem Tx.Rng.small {t : Tx} (h : t.Rng) : t.small := ⟨by have := h.src; omega, by have := h.dst; omega, by have := h.key; omega, by have := h.val; omega⟩
theorem Tx.bytes_len {t : Tx} (h : t.Rng) : t.bytes.length ≤ 500 := by
  have h1 := h.src; have h2 := h.dst; have h3 := h.key; have h4 := h.val
  have l1 := textB_len (s := t.src) (by omega); have l2 := textB_len (s := t.dst) (by omega); have l3 := textB_len (s := t.key) (by omega); have l4 := textB_len (s := t.val) (by omega)
  have l5 := numB_len9 (n := t.kind.toNat) (by rcases h.kind with h | h <;> omega)
  have l6 := numB_len9 (n := t.nonce.toNat) (by have := h.nonce; omega)
  have l7 := numB_len9 (n := t.amount.toNat) (by have := h.amount; omega)
  unfold Tx.bytes
  split <;> simp <;> omega
theorem cat_ok {a b : List UInt8} (h : a.length + b.length ≤ 1000000000) : astr .add a b = some (.s (a ++ b)) := by
  unfold astr; rw [if_pos (by omega)]
end Go.Proofs.YtoccjilbfkhmoaaDoor
