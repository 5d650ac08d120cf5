/-
  The document's certificates (hallmootref11): what its functions give.
-/
import Derived.Test.YtoccjilbfkhmoaaGreatDoorCert
set_option linter.unusedVariables false
set_option linter.unusedSimpArgs false
namespace Go.Proofs.YtoccjilbfkhmoaaGreatDoor
open Go Go.Abs Go.Proofs
set_option maxRecDepth 100000
attribute [local irreducible] AEnd AW ACalls

theorem rin_ok (H : AH) (n a b : Int) : ACalls Tryz.prog 63 [.i .i64 n, .i .i64 a, .i .i64 b] H fun r H' => r = .b (inR n a b) ∧ H' = H := by
  refine ACalls_body Tryz.func63 rfl rfl ?_
  refine AW_seq ?_
  refine AW_reg [0, 1, 2] fun K hK => ?_ -- region 0
  simp [init_eq]
  refine hK _ _ ?_; clear hK K
  refine AW_seq ?_
  refine AW_regto [6] ⟨15, [(6, .b (inR n a b))]⟩ H (fun K hk => ?_) (AW_ret (end_ret rfl ⟨rfl, rfl⟩))
  by_cases h1 : a ≤ n
  · simpa [init_eq, h1, inR] using hk
  · simpa [init_eq, h1, inR] using hk
/-- A set of the first ten, told by its number. -/
theorem setOk_num (s : BitVec 32) : setOk s = decide (s.toNat ≤ 1023) := by
  unfold setOk qcheck
  have hf : fullSet 3 = 1023#32 := by decide
  have hq : ¬ qtimes 3 3 = 0 := by decide
  rw [if_neg hq, hf]
  have key : (s &&& ~~~(1023#32) = 0#32) ↔ s.toNat ≤ 1023 := by
    have e : ~~~(1023#32) = BitVec.ofNat 32 (2 ^ 32 - 1024) := by decide
    constructor
    · intro h
      apply Classical.byContradiction
      intro hn
      have h2 : s.toNat / 2 ^ 10 ≠ 0 := by
        intro h0
        have := Nat.div_add_mod s.toNat (2 ^ 10)
        have := Nat.mod_lt s.toNat (show 2 ^ 10 > 0 by decide)
        omega
      obtain ⟨i, hi⟩ := Nat.exists_testBit_of_ne_zero h2
      have hbit : s.toNat.testBit (10 + i) = true := by
        rw [Nat.testBit_div_two_pow] at hi
        rw [Nat.add_comm]; exact hi
      have hlt : 10 + i < 32 := by
        apply Classical.byContradiction
        intro hge
        have := Nat.testBit_lt_two_pow (x := s.toNat) (i := 10 + i) (Nat.lt_of_lt_of_le s.isLt (Nat.pow_le_pow_right (by decide) (by omega)))
        rw [this] at hbit; cases hbit
      have hb := congrArg (fun x : BitVec 32 => x.getLsbD (10 + i)) h
      simp only [BitVec.getLsbD_and, BitVec.getLsbD_not, hlt, decide_true, Bool.true_and, BitVec.getLsbD_zero] at hb
      have h1023 : (1023#32).getLsbD (10 + i) = false := by
        show (1023 % 2 ^ 32 : Nat).testBit (10 + i) = false
        exact Nat.testBit_lt_two_pow (Nat.lt_of_lt_of_le (by decide) (Nat.pow_le_pow_right (n := 2) (by decide) (show 10 ≤ 10 + i by omega)))
      have hs : s.getLsbD (10 + i) = true := hbit
      rw [h1023, hs] at hb
      cases hb
    · intro h
      apply BitVec.eq_of_getLsbD_eq
      intro i hi
      simp only [BitVec.getLsbD_and, BitVec.getLsbD_not, hi, decide_true, Bool.true_and, BitVec.getLsbD_zero]
      by_cases h10 : i < 10
      · have : (1023#32).getLsbD i = true := by
          have : i = 0 ∨ i = 1 ∨ i = 2 ∨ i = 3 ∨ i = 4 ∨ i = 5 ∨ i = 6 ∨ i = 7 ∨ i = 8 ∨ i = 9 := by omega
          rcases this with rfl | rfl | rfl | rfl | rfl | rfl | rfl | rfl | rfl | rfl <;> decide
        simp [this]
      · have : s.getLsbD i = false := by
          show s.toNat.testBit i = false
          exact Nat.testBit_lt_two_pow (Nat.lt_of_le_of_lt h (Nat.lt_of_lt_of_le (by decide) (Nat.pow_le_pow_right (n := 2) (by decide) (show 10 ≤ i by omega))))
        simp [this]
  by_cases h : s.toNat ≤ 1023
  · rw [if_pos (key.2 h)]; simp [h]
  · rw [if_neg (fun e => h (key.1 e))]; simp [h]
theorem ne_zero_num (s : BitVec 32) : (s.toNat < 1) ↔ s = 0#32 := by
  constructor
  · intro h; apply BitVec.eq_of_toNat_eq; simp; omega
  · intro h; subst h; decide
def rbad (c : Cert) : Bool := !inR c.block 1 2147483647 || !inR c.view 1 1048576 || !inR c.round 1 1073741824 || decide (c.signers.toNat < 1) || decide (1023 < c.signers.toNat) || decide (1023 < c.coin.toNat)
theorem rbad_ok (c : Cert) : rbad c = !(c.base && setOk c.coin) := by
  unfold rbad Cert.base
  rw [setOk_num, setOk_num]
  have h1 : decide (c.signers.toNat < 1) = decide (c.signers = 0#32) := decide_eq_decide.2 (ne_zero_num _)
  have h2 : decide (1023 < c.signers.toNat) = !decide (c.signers.toNat ≤ 1023) := by rw [← decide_not]; exact decide_eq_decide.2 (by omega)
  have h3 : decide (1023 < c.coin.toNat) = !decide (c.coin.toNat ≤ 1023) := by rw [← decide_not]; exact decide_eq_decide.2 (by omega)
  rw [h1, h2, h3]
  simp only [Bool.not_and, Bool.not_not, Bool.or_assoc]
theorem rcheck_ok (H : AH) (c : Cert) : ACalls Tryz.prog 24 [.agg c.cells] H fun r H' => r = .b c.ok ∧ H' = H := by
  refine ACalls.pure (Q := fun r => r = .b c.ok) ⟨_, Tryz.func24, rfl, rfl⟩ ?_
  refine ACalls_body Tryz.func24 rfl rfl ?_
  refine AW_seq ?_
  refine AW_reg [1] fun K hK => ?_ -- region 0
  simp [init_eq, V.cells]
  generalize hH1 : H.new (.cells c.cells 0 false 0) = H1
  have hp : H1.get H.next = some (.cells c.cells 0 false 0) := by rw [← hH1, AH.get_new_same]
  have u1 : Upd H H1 [] := hH1 ▸ Upd.new ..
  have fin : ∀ b : Bool, b = c.ok → V.b b = V.b c.ok ∧ V.lt H.next (V.b b) = true ∧ H.next ≤ H1.next ∧ ∀ j, j < H.next → H1.get j = H.get j := fun b hb => ⟨by rw [hb], rfl, u1.1, fun j hj => u1.2 j hj (by simp)⟩
  refine hK _ _ ?_; clear hK K
  refine AW_seq ?_
  refine AW_seq ?_
  refine AW_reg [1, 5] fun K hK => ?_ -- region 1
  simp [init_eq, afieldAddr, aload, hp]
  refine hK _ _ ?_; clear hK K
  refine AW_cond' rfl rfl (fun hc => ?_) (fun hc => ?_)
  · have h0 : c.kind = 0 := by simpa using hc
    refine AW_seq ?_
    refine AW_reg [2] fun K hK => ?_ -- region 2
    simp [init_eq, aload, hp, abuild, afill, take_cells]
    refine hK _ _ ?_; clear hK K
    refine AW_ret (end_ret rfl (fin _ ?_))
    simp [Cert.ok, h0]
  have h0 : c.kind ≠ 0 := by simpa using hc
  refine AW_skip ?_
  refine AW_seq ?_
  refine AW_seq ?_
  refine AW_regto [1, 39] ⟨69, [(1, .p (some (H.next, 0, 0))), (39, .b (rbad c))]⟩ H1 (fun K hk => ?_) ?_ -- region 3
  · simp [init_eq, afieldAddr, aload, hp]
    refine ACalls.mono (rin_ok ..) fun r H' ⟨hr, e⟩ => ?_
    subst hr e
    cases h1 : inR c.block 1 2147483647
    · simpa [rbad, h1] using hk
    simp [afieldAddr, aload, hp]
    refine ACalls.mono (rin_ok ..) fun r H2 ⟨hr, e⟩ => ?_
    subst hr e
    cases h2 : inR c.view 1 1048576
    · simpa [rbad, h1, h2] using hk
    simp [afieldAddr, aload, hp]
    refine ACalls.mono (rin_ok ..) fun r H2 ⟨hr, e⟩ => ?_
    subst hr e
    cases h3 : inR c.round 1 1073741824
    · simpa [rbad, h1, h2, h3] using hk
    simp [afieldAddr, aload, hp]
    by_cases h4 : c.signers.toNat < 1
    · have h4' : c.signers.toNat = 0 := by omega
      simpa [rbad, h1, h2, h3, h4, h4'] using hk
    have h4' : ¬ c.signers.toNat = 0 := by omega
    by_cases h5 : 1023 < c.signers.toNat
    · simpa [afieldAddr, aload, hp, rbad, h1, h2, h3, h4, h4', h5] using hk
    simpa [afieldAddr, aload, hp, rbad, h1, h2, h3, h4, h4', h5] using hk
  refine AW_cond' rfl rfl (fun hc => ?_) (fun hc => ?_)
  · have hb : (c.base && setOk c.coin) = false := by rw [rbad_ok] at hc; cases h : (c.base && setOk c.coin) <;> simp_all
    refine AW_seq ?_
    refine AW_reg [2] fun K hK => ?_ -- region 4
    simp [init_eq]
    refine hK _ _ ?_; clear hK K
    refine AW_ret (end_ret rfl (fin _ ?_))
    unfold Cert.ok Cert.reg Cert.fall
    rw [if_neg h0]
    split
    · cases h1 : c.base
      · simp
      · rw [h1, Bool.true_and] at hb
        have hz : c.coin ≠ 0#32 := fun e => by rw [e, setOk_num] at hb; simp at hb
        simp [hz]
    · split
      · cases h1 : c.base
        · simp
        · rw [h1, Bool.true_and] at hb; simp [hb]
      · rfl
  have hb : c.base = true ∧ setOk c.coin = true := by rw [rbad_ok] at hc; simpa using hc
  refine AW_skip ?_
  refine AW_seq ?_
  refine AW_seq ?_
  refine AW_reg [1, 42] fun K hK => ?_ -- region 5
  simp [init_eq, afieldAddr, aload, hp]
  refine hK _ _ ?_; clear hK K
  refine AW_cond' rfl rfl (fun hc => ?_) (fun hc => ?_)
  · have h1 : c.kind = 1 := by simpa using hc
    refine AW_seq ?_
    refine AW_regto [2] ⟨69, [(2, .b c.ok)]⟩ H1 (fun K hk => ?_) (AW_ret (end_ret rfl (fin _ rfl))) -- region 6
    by_cases g1 : c.height = 0
    · simp [init_eq, afieldAddr, aload, hp, g1]
      by_cases g2 : c.author = 0
      · simp [afieldAddr, aload, hp, g2]
        simpa [Cert.ok, Cert.reg, h1, hb, g1, g2] using hk
      · simpa [Cert.ok, Cert.reg, h1, hb, g1, g2] using hk
    · simp [init_eq, afieldAddr, aload, hp, g1]
      simpa [Cert.ok, Cert.reg, h1, hb, g1] using hk
  have h1 : c.kind ≠ 1 := by simpa using hc
  refine AW_skip ?_
  refine AW_seq ?_
  refine AW_regto [2] ⟨69, [(2, .b c.ok)]⟩ H1 (fun K hk => ?_) (AW_ret (end_ret rfl (fin _ rfl))) -- region 7
  by_cases h2 : c.kind = 2
  · simp [init_eq, afieldAddr, aload, hp, h2]
    refine ACalls.mono (rin_ok ..) fun r H' ⟨hr, e⟩ => ?_
    subst hr e
    cases g1 : inR c.height 1 3
    · simpa [Cert.ok, Cert.fall, h2, hb, g1] using hk
    simp [afieldAddr, aload, hp]
    refine ACalls.mono (rin_ok ..) fun r H2 ⟨hr, e⟩ => ?_
    subst hr e
    cases g2 : inR c.author 0 9 <;> simpa [Cert.ok, Cert.fall, h2, hb, g1, g2] using hk
  · simp [init_eq, afieldAddr, aload, hp, h2]
    simpa [Cert.ok, h0, h1, h2] using hk
end Go.Proofs.YtoccjilbfkhmoaaGreatDoor
