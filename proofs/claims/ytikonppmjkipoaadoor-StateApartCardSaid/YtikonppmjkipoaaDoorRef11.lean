/-
  The document's certificates (hallmootref11): what its functions give.
-/
import Derived.Test.YtikonppmjkipoaaDoorCert
set_option linter.unusedVariables false
set_option linter.unusedSimpArgs false
namespace Go.Proofs.YtikonppmjkipoaaDoor
open Go Go.Abs Go.Proofs
set_option maxRecDepth 100000
attribute [local irreducible] AEnd AW ACalls

/-- A set of the first ten, told by its number. -/
theorem setOk_num (s : BitVec 32) : setOk s = decide (s.toNat ≤ 1023) := by
  unfold setOk qcheck
  have hf : fullSet 3 = 1023#32 := by decide
  have hq : ¬ qtimes 3 3 = 0 := by decide
  rw [if_neg hq, hf]
  have key : (s &&& ~~~(1023#32) = 0#32) ↔ s.toNat ≤ 1023 := by
    have e : ~~~(1023#32) = BitVec.ofNat 32 (2 ^ 32 - 1024) := by decide
    constructor
    · intro h
      apply Classical.byContradiction
      intro hn
      have h2 : s.toNat / 2 ^ 10 ≠ 0 := by
        intro h0
        have := Nat.div_add_mod s.toNat (2 ^ 10)
        have := Nat.mod_lt s.toNat (show 2 ^ 10 > 0 by decide)
        omega
      obtain ⟨i, hi⟩ := Nat.exists_testBit_of_ne_zero h2
      have hbit : s.toNat.testBit (10 + i) = true := by
        rw [Nat.testBit_div_two_pow] at hi
        rw [Nat.add_comm]; exact hi
      have hlt : 10 + i < 32 := by
        apply Classical.byContradiction
        intro hge
        have := Nat.testBit_lt_two_pow (x := s.toNat) (i := 10 + i) (Nat.lt_of_lt_of_le s.isLt (Nat.pow_le_pow_right (by decide) (by omega)))
        rw [this] at hbit; cases hbit
      have hb := congrArg (fun x : BitVec 32 => x.getLsbD (10 + i)) h
      simp only [BitVec.getLsbD_and, BitVec.getLsbD_not, hlt, decide_true, Bool.true_and, BitVec.getLsbD_zero] at hb
      have h1023 : (1023#32).getLsbD (10 + i) = false := by
        show (1023 % 2 ^ 32 : Nat).testBit (10 + i) = false
        exact Nat.testBit_lt_two_pow (Nat.lt_of_lt_of_le (by decide) (Nat.pow_le_pow_right (n := 2) (by decide) (show 10 ≤ 10 + i by omega)))
      have hs : s.getLsbD (10 + i) = true := hbit
      rw [h1023, hs] at hb
      cases hb
    · intro h
      apply BitVec.eq_of_getLsbD_eq
      intro i hi
      simp only [BitVec.getLsbD_and, BitVec.getLsbD_not, hi, decide_true, Bool.true_and, BitVec.getLsbD_zero]
      by_cases h10 : i < 10
      · have : (1023#32).getLsbD i = true := by
          have : i = 0 ∨ i = 1 ∨ i = 2 ∨ i = 3 ∨ i = 4 ∨ i = 5 ∨ i = 6 ∨ i = 7 ∨ i = 8 ∨ i = 9 := by omega
          rcases this with rfl | rfl | rfl | rfl | rfl | rfl | rfl | rfl | rfl | rfl <;> decide
        simp [this]
      · have : s.getLsbD i = false := by
          show s.toNat.testBit i = false
          exact Nat.testBit_lt_two_pow (Nat.lt_of_le_of_lt h (Nat.lt_of_lt_of_le (by decide) (Nat.pow_le_pow_right (n := 2) (by decide) (show 10 ≤ i by omega))))
        simp [this]
  by_cases h : s.toNat ≤ 1023
  · rw [if_pos (key.2 h)]; simp [h]
  · rw [if_neg (fun e => h (key.1 e))]; simp [h]
theorem ne_zero_num (s : BitVec 32) : (s.toNat < 1) ↔ s = 0#32 := by
  constructor
  · intro h; apply BitVec.eq_of_toNat_eq; simp; omega
  · intro h; subst h; decide
def rbad (c : Cert) : Bool := !inR c.block 1 2147483647 || !inR c.view 1 1048576 || !inR c.round 1 1073741824 || decide (c.signers.toNat < 1) || decide (1023 < c.signers.toNat) || decide (1023 < c.coin.toNat)
theorem rbad_ok (c : Cert) : rbad c = !(c.base && setOk c.coin) := by
  unfold rbad Cert.base
  rw [setOk_num, setOk_num]
  have h1 : decide (c.signers.toNat < 1) = decide (c.signers = 0#32) := decide_eq_decide.2 (ne_zero_num _)
  have h2 : decide (1023 < c.signers.toNat) = !decide (c.signers.toNat ≤ 1023) := by rw [← decide_not]; exact decide_eq_decide.2 (by omega)
  have h3 : decide (1023 < c.coin.toNat) = !decide (c.coin.toNat ≤ 1023) := by rw [← decide_not]; exact decide_eq_decide.2 (by omega)
  rw [h1, h2, h3]
  simp only [Bool.not_and, Bool.not_not, Bool.or_assoc]
end Go.Proofs.YtikonppmjkipoaaDoor
