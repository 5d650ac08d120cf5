/-
  Bytes of certificates and of transactions that may be.
-/
import Derived.Test.YtoccjilbfkhmoaaDoorWire1
set_option linter.unusedVariables false
set_option linter.unusedSimpArgs false
namespace Go.Proofs.YtoccjilbfkhmoaaDoor
open Go Go.Abs Go.Proofs
set_option maxRecDepth 100000
attribute [local irreducible] AEnd AW ACalls

/-- The numbers of a certificate. -/
def Cert.nums (c : Cert) : List Nat :=
  [c.kind.toNat] ++ (if c.kind = 0 then [] else [c.block.toNat, c.view.toNat, c.round.toNat, c.signers.toNat]) ++ (if c.kind = 2 then [c.height.toNat, c.author.toNat, c.coin.toNat] else [])
/-- Its bytes. -/
def Cert.bytes (c : Cert) : List UInt8 := c.nums.flatMap numB
/-- What its numbers are. -/
structure Cert.Rng (c : Cert) : Prop where
  kind : c.kind = 0 ∨ c.kind = 1 ∨ c.kind = 2
  block : 0 ≤ c.block ∧ c.block ≤ 2147483647
  view : 0 ≤ c.view ∧ c.view ≤ 1048576
  round : 0 ≤ c.round ∧ c.round ≤ 1073741824
  height : 0 ≤ c.height ∧ c.height ≤ 3
  author : 0 ≤ c.author ∧ c.author ≤ 9
theorem Cert.rng {c : Cert} (h : c.ok = true) : c.Rng := by
  unfold Cert.ok at h
  split at h
  · rename_i hk
    have : c = Cert.zero := of_decide_eq_true h
    rw [this]
    exact ⟨.inl rfl, by decide, by decide, by decide, by decide, by decide⟩
  · split at h
    · rename_i hk
      simp [Cert.reg, Cert.base, inR] at h
      exact ⟨.inr (.inl hk), by omega, by omega, by omega, by omega, by omega⟩
    · split at h
      · rename_i hk
        simp [Cert.fall, Cert.base, inR] at h
        exact ⟨.inr (.inr hk), by omega, by omega, by omega, by omega, by omega⟩
      · cases h
theorem Cert.nums_le {c : Cert} (h : c.Rng) : ∀ n ∈ c.nums, n ≤ 4611686018427387904 := by
  have h1 := h.block; have h2 := h.view; have h3 := h.round; have h4 := h.height; have h5 := h.author
  have h6 := c.signers.isLt; have h7 := c.coin.isLt
  intro n hn
  unfold Cert.nums at hn
  rcases h.kind with hk | hk | hk <;> simp [hk] at hn <;> omega
theorem Cert.nums_len (c : Cert) : c.nums.length ≤ 8 := by
  unfold Cert.nums
  split <;> split <;> simp
theorem Cert.bytes_len {c : Cert} (h : c.Rng) : c.bytes.length ≤ 72 := by
  have := flatNum_len (ns := c.nums) (Cert.nums_le h)
  have := c.nums_len
  unfold Cert.bytes
  omega
/-- New numbers of one's own; nothing else is changed. -/
def FreshN (H H' : AH) (v : V) (ns : List Nat) : Prop := ∃ F, Own H' v 1 (ns.map natC).flatten F ∧ Upd H H' [] ∧ ∀ j ∈ F, H.next ≤ j
theorem FreshN.trans {H H0 H' : AH} {v : V} {ns : List Nat} (h : FreshN H0 H' v ns) (hu : Upd H H0 []) : FreshN H H' v ns := by
  obtain ⟨F, h1, h2, h3⟩ := h
  exact ⟨F, h1, hu.trans h2 (by simp), fun j hj => by have := h3 j hj; have := hu.1; omega⟩
theorem FreshN.rs {H H' : AH} {v : V} {ns : List Nat} (h : FreshN H H' v ns) : RS H' v 1 (ns.map natC) := by
  obtain ⟨F, h1, h2, h3⟩ := h
  exact h1.rsR (by decide) (fun _ => rfl)
end Go.Proofs.YtoccjilbfkhmoaaDoor
