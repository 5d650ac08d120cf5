/-
  Bytes of blocks that may be: the program's and the document's.
-/
import Derived.Test.YtoccjilbfkhmoaaDoorBytes2
import Derived.Test.YtoccjilbfkhmoaaDoorCheck2
set_option linter.unusedVariables false
set_option linter.unusedSimpArgs false
namespace Go.Proofs.YtoccjilbfkhmoaaDoor
open Go Go.Abs Go.Proofs
set_option maxRecDepth 100000
attribute [local irreducible] AEnd AW ACalls

def Tmo.bytes (t : Tmo) : List UInt8 := numB t.signer.toNat ++ t.high.bytes
/-- A block's bytes. -/
def Blk.bytes (b : Blk) : List UInt8 :=
  numB b.view.toNat ++ (numB b.round.toNat ++ (numB b.height.toNat ++ (numB b.author.toNat ++ (b.parent.bytes ++ (numB b.proof.length ++ (b.proof.flatMap Tmo.bytes ++ (numB b.txs.length ++ b.txs.flatMap Tx.bytes)))))))
/-- What is in one that may be. -/
structure Blk.Rng (b : Blk) : Prop where
  view : 0 ≤ b.view ∧ b.view ≤ 1048576
  round : 0 ≤ b.round ∧ b.round ≤ 1073741824
  height : 0 ≤ b.height ∧ b.height ≤ 3
  author : 0 ≤ b.author ∧ b.author ≤ 9
  parent : b.parent.ok = true
  proof : b.proof.length ≤ 10
  tmos : ∀ t ∈ b.proof, (0 ≤ t.signer ∧ t.signer ≤ 9) ∧ t.high.ok = true
  txs : b.txs.length ≤ 8
  each : ∀ t ∈ b.txs, t.ok = true
theorem Blk.rng {b : Blk} (h : b.err = 0) : b.Rng := by
  unfold Blk.err at h
  split at h
  case isFalse => cases h
  rename_i h1
  split at h
  case isFalse => cases h
  rename_i h2
  split at h
  case isFalse => cases h
  rename_i h3
  simp only [Bool.and_eq_true, decide_eq_true_eq, Blk.head, inR] at h1
  obtain ⟨⟨g1, g2⟩, ⟨g3, g4⟩, g5⟩ := h1
  have hp : b.parent.ok = true := by
    unfold Blk.parentOk at h2
    split at h2
    · simp [openS] at h2; exact h2.2.1
    · simp at h2; exact h2.2.1.1.1.1.1
  have hr := Cert.rng hp
  have hrd : b.round = b.parent.round + 1 := by
    have : b.round = IntKind.i64.wrap (b.parent.round + 1) := by
      unfold Blk.parentOk at h2
      simp only [Bool.and_eq_true, decide_eq_true_eq] at h2
      exact h2.1.1
    rw [this, wrap_id (by have := hr.round; omega) (by have := hr.round; omega)]
  have hrd2 : b.round ≤ 1073741824 := by
    unfold Blk.parentOk at h2
    simp only [Bool.and_eq_true, decide_eq_true_eq] at h2
    exact h2.1.2
  refine ⟨by omega, ⟨by have := hr.round; omega, hrd2⟩, by omega, by omega, hp, ?_, ?_, g2, fun t ht => List.all_eq_true.1 g1 t ht⟩
  · by_cases hh : b.height = 1
    · rw [proofR_eq hh] at h3
      simp only [Bool.and_eq_true, decide_eq_true_eq] at h3
      exact h3.1.2
    · have : b.proof.length = 0 := by simpa [Blk.proofOk, hh] using h3
      omega
  · by_cases hh : b.height = 1
    · rw [proofR_eq hh] at h3
      simp only [Bool.and_eq_true, decide_eq_true_eq] at h3
      intro t ht
      obtain ⟨i, hi, rfl⟩ := List.getElem_of_mem ht
      have h4 := List.all_eq_true.1 h3.2 i (by simpa using hi)
      rw [pAt_eq hi] at h4
      simp only [Bool.and_eq_true] at h4
      have h5 := h4.1.1
      unfold Tmo.ok openS at h5
      simp only [Bool.and_eq_true] at h5
      have h6 : 0 ≤ b.proof[i].signer ∧ b.proof[i].signer ≤ 9 := of_decide_eq_true h5.1.1
      exact ⟨h6, h5.2.1⟩
    · have : b.proof = [] := by
        have h4 : b.proof.length = 0 := by simpa [Blk.proofOk, hh] using h3
        exact List.length_eq_zero_iff.1 h4
      rw [this]; simp
theorem flat_len {α : Type} {f : α → List UInt8} {k : Nat} : ∀ (xs : List α), (∀ x ∈ xs, (f x).length ≤ k) → (xs.flatMap f).length ≤ k * xs.length
  | [], _ => by simp
  | x :: xs, h => by
    have h1 := h x (by simp)
    have h2 := flat_len xs fun y hy => h y (by simp [hy])
    simp only [List.flatMap_cons, List.length_append, List.length_cons, Nat.mul_succ]
    omega
theorem Tmo.bytes_len {t : Tmo} (h : 0 ≤ t.signer ∧ t.signer ≤ 9) (h2 : t.high.ok = true) : t.bytes.length ≤ 81 := by
  have h1 := numB_len9 (n := t.signer.toNat) (by omega)
  have h3 := Cert.bytes_len (Cert.rng h2)
  simp [Tmo.bytes]; omega
/-- The bytes that are being built, in a cell of their own. -/
structure Out (H1 G : AH) (box : Nat) (v : V) (F : List Nat) (l : List UInt8) : Prop where
  get : G.get box = some (.cells [v] 0 false 0)
  own : Own G v 1 (bytesV l) F
  nin : box ∉ F
  lo : H1.next ≤ box
  loF : ∀ j ∈ F, H1.next ≤ j
  upd : Upd H1 G []
theorem Out.keep {H1 G G' : AH} {box : Nat} {v : V} {F : List Nat} {l : List UInt8} (h : Out H1 G box v F l) (hu : Upd G G' []) : Out H1 G' box v F l :=
  ⟨hu.keep (by simp) h.get, h.own.upd hu (by simp), h.nin, h.lo, h.loF, h.upd.trans hu (by simp)⟩
theorem flat_succ {α : Type} {f : α → List UInt8} {xs : List α} {i : Nat} (hi : i < xs.length) : (xs.take (i + 1)).flatMap f = (xs.take i).flatMap f ++ f xs[i] := by
  rw [List.take_succ_eq_append_getElem hi, List.flatMap_append]; simp
end Go.Proofs.YtoccjilbfkhmoaaDoor
