/-
  The document's letters and names.
-/
import Derived.Test.YtikonppmjkipoaaDoorName1
set_option linter.unusedVariables false
set_option linter.unusedSimpArgs false
namespace Go.Proofs.YtikonppmjkipoaaDoor
open Go Go.Abs Go.Proofs
set_option maxRecDepth 100000
attribute [local irreducible] AEnd AW ACalls

def letterR (c : Int) : Bool := (decide (97 ≤ c) && decide (c ≤ 122)) || (decide (48 ≤ c) && decide (c ≤ 57)) || decide (c = 95) || decide (c = 45) || (decide (223 ≤ c) && decide (c ≤ 255) && !decide (c = 247)) || (decide (945 ≤ c) && decide (c ≤ 969))
theorem letterR_nat (c : Nat) : letterR c = letterB c := by
  rw [Bool.eq_iff_iff]
  simp [letterR, letterB]
  omega
theorem rletter_ok (H : AH) (c : Int) : ACalls Tryd.prog 59 [.i .i64 c] H fun r H' => r = .b (letterR c) ∧ H' = H := by
  refine ACalls_body Tryd.func59 rfl rfl ?_
  refine AW_seq ?_
  refine AW_reg [0] fun K hK => ?_ -- region 0
  simp [init_eq]
  refine hK _ _ ?_; clear hK K
  refine AW_seq ?_
  refine AW_regto [2] ⟨45, [(2, .b (letterR c))]⟩ H (fun K hk => ?_) (AW_ret (end_ret rfl ⟨rfl, rfl⟩))
  by_cases h1 : 97 ≤ c <;> by_cases h2 : c ≤ 122 <;> (try (exfalso; omega)) <;> by_cases h3 : 48 ≤ c <;> (try (exfalso; omega)) <;> by_cases h4 : c ≤ 57 <;> (try (exfalso; omega)) <;> by_cases h5 : c = 95 <;> (try (exfalso; omega)) <;> by_cases h6 : c = 45 <;> (try (exfalso; omega)) <;> by_cases h7 : 223 ≤ c <;> (try (exfalso; omega)) <;> by_cases h8 : c ≤ 255 <;> (try (exfalso; omega)) <;> by_cases h9 : c = 247 <;> (try (exfalso; omega)) <;> by_cases h10 : 945 ≤ c <;> (try (exfalso; omega)) <;> by_cases h11 : c ≤ 969 <;> (try (exfalso; omega)) <;> simpa [init_eq, h1, h2, h3, h4, h5, h6, h7, h8, h9, h10, h11, letterR] using hk
set_option maxHeartbeats 2000000 in
theorem rstep_ok (H : AH) (s : List UInt8) (hs : s ≠ []) : ACalls Tryd.prog 73 [.s s] H fun r H' => r = .tup [.i .i64 (dec s).1, .i .i64 (dec s).2, .b (decOk s)] ∧ H' = H := by
  have hl : 0 < s.length := List.length_pos_iff.2 hs
  refine ACalls_body Tryd.func73 rfl rfl ?_
  refine AW_seq ?_
  refine AW_reg [0] fun K hK => ?_ -- region 0
  simp [init_eq]
  refine hK _ _ ?_; clear hK K
  have hx : aindex Tryd.prog 9 (.s s) (.i .i64 0) = some (.i .u8 (bat s 0)) := by simp [aindex, bat, List.getD, hl]
  have h256 := bat_lt s 0
  refine AW_seq ?_
  refine AW_reg [0, 5] fun K hK => ?_ -- region 1
  simp [init_eq, hx, conv_int, wrap_id (x := (bat s 0 : Int)) (by omega) (by omega)]
  refine hK _ _ ?_; clear hK K
  refine AW_seq ?_
  refine AW_seq ?_
  refine AW_reg [0, 5, 16] fun K hK => ?_ -- region 2
  simp [init_eq]
  refine hK _ _ ?_; clear hK K
  refine AW_cond' rfl rfl (fun hc => ?_) (fun hc => ?_)
  · have h0 : bat s 0 < 128 := by simp at hc; omega
    have hd : dec s = (bat s 0, 1) := by unfold dec; rw [if_pos h0]
    refine AW_seq ?_
    refine AW_reg [2, 3, 4] fun K hK => ?_ -- region 3
    simp [init_eq]
    refine hK _ _ ?_; clear hK K
    refine AW_ret (end_ret rfl ?_)
    have : ¬ bat s 0 = 65533 := by omega
    simp [hd, decOk, this]
  have h0 : ¬ bat s 0 < 128 := by simp at hc; omega
  refine AW_skip ?_
  refine AW_seq ?_
  refine AW_reg [5, 6, 7, 8] fun K hK => ?_ -- region 4
  simp [init_eq]
  refine ACalls.mono (rtail_ok H s 1 (by omega)) fun r H' ⟨hr, e⟩ => ?_ -- hallmoot/hallmootref02.tail
  subst hr e
  try simp
  refine ACalls.mono (rtail_ok H' s 2 (by omega)) fun r H' ⟨hr, e⟩ => ?_ -- hallmoot/hallmootref02.tail
  subst hr e
  try simp
  refine ACalls.mono (rtail_ok H' s 3 (by omega)) fun r H' ⟨hr, e⟩ => ?_ -- hallmoot/hallmootref02.tail
  subst hr e
  try simp
  refine hK _ _ ?_; clear hK K
  have g1 := bcont_iff s 1
  have g2 := bcont_iff s 2
  have g3 := bcont_iff s 3
  have gb : ∀ i, (bcont s i = true ∧ 128 ≤ bat s i ∧ bat s i < 192 ∧ (if bcont s i then (bat s i : Int) - 128 else -1) = (bat s i : Int) - 128) ∨ (bcont s i = false ∧ (if bcont s i then (bat s i : Int) - 128 else -1) = -1) := fun i => by
    cases h : bcont s i
    · exact .inr ⟨rfl, rfl⟩
    · have := (bcont_iff s i).1 h; exact .inl ⟨rfl, this.2.1, this.2.2, rfl⟩
  have gb1 := gb 1
  have gb2 := gb 2
  have gb3 := gb 3
  clear gb
  generalize (if bcont s 1 then (bat s 1 : Int) - 128 else -1) = b at gb1 ⊢
  generalize (if bcont s 2 then (bat s 2 : Int) - 128 else -1) = c at gb2 ⊢
  generalize (if bcont s 3 then (bat s 3 : Int) - 128 else -1) = d at gb3 ⊢
  have q1 : 0 ≤ b ↔ bcont s 1 = true := by rcases gb1 with h | h <;> simp [h] <;> omega
  have q2 : 0 ≤ c ↔ bcont s 2 = true := by rcases gb2 with h | h <;> simp [h] <;> omega
  have q3 : 0 ≤ d ↔ bcont s 3 = true := by rcases gb3 with h | h <;> simp [h] <;> omega
  have p1 : 0 ≤ b → b = (bat s 1 : Int) - 128 ∧ 128 ≤ bat s 1 ∧ bat s 1 < 192 := fun h => by rcases gb1 with k | k; exact ⟨k.2.2.2, k.2.1, k.2.2.1⟩; omega
  have p2 : 0 ≤ c → c = (bat s 2 : Int) - 128 ∧ 128 ≤ bat s 2 ∧ bat s 2 < 192 := fun h => by rcases gb2 with k | k; exact ⟨k.2.2.2, k.2.1, k.2.2.1⟩; omega
  have p3 : 0 ≤ d → d = (bat s 3 : Int) - 128 ∧ 128 ≤ bat s 3 ∧ bat s 3 < 192 := fun h => by rcases gb3 with k | k; exact ⟨k.2.2.2, k.2.1, k.2.2.1⟩; omega
  clear gb1 gb2 gb3
  generalize hE : (⟨111, [(5, .i .i64 (bat s 0)), (6, .i .i64 b), (7, .i .i64 c), (8, .i .i64 d)]⟩ : Env) = E
  refine AW_cut (fun ρ G => ρ = E ∧ G = H' ∧ ¬ ((192 ≤ bat s 0 ∧ bat s 0 < 224) ∧ bcont s 1 = true ∧ 128 ≤ (bat s 0 - 192) * 64 + (bat s 1 - 128))) ?_ ?_
  · subst hE
    refine AW_seq ?_
    refine AW_regto [5, 6, 7, 8, 33] ⟨111, [(5, .i .i64 (bat s 0)), (6, .i .i64 b), (7, .i .i64 c), (8, .i .i64 d), (33, .b (decide (192 ≤ (bat s 0 : Int)) && decide ((bat s 0 : Int) < 224) && decide (0 ≤ b)))]⟩ H' (fun K hk => ?_) ?_ -- region 5
    · by_cases k1 : 192 ≤ (bat s 0 : Int)
      · by_cases k2 : (bat s 0 : Int) < 224
        · simpa [init_eq, k1, k2] using hk
        · simpa [init_eq, k1, k2] using hk
      · simpa [init_eq, k1] using hk
    refine AW_cond' rfl rfl (fun hc => ?_) (fun hc => ?_)
    · simp at hc
      obtain ⟨⟨k1, k2⟩, k3⟩ := hc
      obtain ⟨e1, e2, e3⟩ := p1 k3
      refine AW_seq ?_
      refine AW_reg [5, 6, 7, 8, 9] fun K hK => ?_ -- region 6
      simp [init_eq, wrap_id (x := (bat s 0 : Int) - 192) (by omega) (by omega), wrap_id (x := ((bat s 0 : Int) - 192) * 64) (by omega) (by omega), wrap_id (x := ((bat s 0 : Int) - 192) * 64 + b) (by omega) (by omega)]
      refine hK _ _ ?_; clear hK K
      refine AW_seq ?_
      refine AW_reg [5, 6, 7, 8, 9, 40] fun K hK => ?_ -- region 7
      simp [init_eq]
      refine hK _ _ ?_; clear hK K
      have ev : ((bat s 0 : Int) - 192) * 64 + b = (((bat s 0 - 192) * 64 + (bat s 1 - 128) : Nat) : Int) := by omega
      rw [ev]
      refine AW_cond' rfl rfl (fun hc => ?_) (fun hc => ?_)
      · have k4 : 128 ≤ (bat s 0 - 192) * 64 + (bat s 1 - 128) := by simp at hc; omega
        have hd : dec s = ((bat s 0 - 192) * 64 + (bat s 1 - 128), 2) := by
          unfold dec; rw [if_neg h0, if_pos ⟨by omega, q1.1 k3⟩, if_pos k4]
        refine AW_seq ?_
        refine AW_reg [2, 3, 4] fun K hK => ?_ -- region 8
        simp [init_eq]
        refine hK _ _ ?_; clear hK K
        refine AW_ret (end_ret rfl ?_)
        simp [hd, decOk]
      · have k4 : ¬ 128 ≤ (bat s 0 - 192) * 64 + (bat s 1 - 128) := by simp at hc; omega
        refine AW_skip (rend ⟨_, ?_, rfl, rfl, fun h => k4 h.2.2⟩)
        simp
    · refine AW_skip (rend ⟨_, ?_, rfl, rfl, fun h => ?_⟩)
      · simp
      · have : 0 ≤ b := q1.2 h.2.1
        simp at hc
        omega
  intro ρ G hM
  obtain ⟨e1, e2, F1⟩ := hM
  rw [e1, e2]; clear e1 e2 ρ G
  refine AW_cut (fun ρ G => ρ = E ∧ G = H' ∧ ¬ ((224 ≤ bat s 0 ∧ bat s 0 < 240) ∧ bcont s 1 = true ∧ bcont s 2 = true ∧ (2048 ≤ (bat s 0 - 224) * 4096 + (bat s 1 - 128) * 64 + (bat s 2 - 128) ∧ ((bat s 0 - 224) * 4096 + (bat s 1 - 128) * 64 + (bat s 2 - 128) < 55296 ∨ 57343 < (bat s 0 - 224) * 4096 + (bat s 1 - 128) * 64 + (bat s 2 - 128))))) ?_ ?_
  · subst hE
    refine AW_seq ?_
    refine AW_regto [5, 6, 7, 8, 55] ⟨111, [(5, .i .i64 (bat s 0)), (6, .i .i64 b), (7, .i .i64 c), (8, .i .i64 d), (55, .b (decide (224 ≤ (bat s 0 : Int)) && decide ((bat s 0 : Int) < 240) && decide (0 ≤ b) && decide (0 ≤ c)))]⟩ H' (fun K hk => ?_) ?_ -- region 9
    · by_cases k1 : 224 ≤ (bat s 0 : Int)
      · by_cases k2 : (bat s 0 : Int) < 240
        · by_cases k3 : 0 ≤ b
          · simpa [init_eq, k1, k2, k3] using hk
          · simpa [init_eq, k1, k2, k3] using hk
        · simpa [init_eq, k1, k2] using hk
      · simpa [init_eq, k1] using hk
    refine AW_cond' rfl rfl (fun hc => ?_) (fun hc => ?_)
    · simp at hc
      obtain ⟨⟨⟨k1, k2⟩, k3⟩, k4⟩ := hc
      obtain ⟨e1, e2, e3⟩ := p1 k3
      obtain ⟨e4, e5, e6⟩ := p2 k4
      refine AW_seq ?_
      refine AW_reg [5, 6, 7, 8, 10] fun K hK => ?_ -- region 10
      simp [init_eq, wrap_id (x := (bat s 0 : Int) - 224) (by omega) (by omega), wrap_id (x := ((bat s 0 : Int) - 224) * 4096) (by omega) (by omega), wrap_id (x := b * 64) (by omega) (by omega), wrap_id (x := ((bat s 0 : Int) - 224) * 4096 + b * 64) (by omega) (by omega), wrap_id (x := ((bat s 0 : Int) - 224) * 4096 + b * 64 + c) (by omega) (by omega)]
      refine hK _ _ ?_; clear hK K
      have ev : ((bat s 0 : Int) - 224) * 4096 + b * 64 + c = (((bat s 0 - 224) * 4096 + (bat s 1 - 128) * 64 + (bat s 2 - 128) : Nat) : Int) := by omega
      rw [ev]
      have hd0 : (2048 ≤ (bat s 0 - 224) * 4096 + (bat s 1 - 128) * 64 + (bat s 2 - 128) ∧ ((bat s 0 - 224) * 4096 + (bat s 1 - 128) * 64 + (bat s 2 - 128) < 55296 ∨ 57343 < (bat s 0 - 224) * 4096 + (bat s 1 - 128) * 64 + (bat s 2 - 128))) → dec s = ((bat s 0 - 224) * 4096 + (bat s 1 - 128) * 64 + (bat s 2 - 128), 3) := fun h => by
        unfold dec; rw [if_neg h0, if_neg (by omega), if_pos ⟨by omega, q1.1 k3, q2.1 k4⟩, if_pos h]
      generalize (bat s 0 - 224) * 4096 + (bat s 1 - 128) * 64 + (bat s 2 - 128) = n at *
      refine AW_seq ?_
      refine AW_regto [5, 6, 7, 8, 10, 73] ⟨111, [(5, .i .i64 (bat s 0)), (6, .i .i64 b), (7, .i .i64 c), (8, .i .i64 d), (10, .i .i64 n), (73, .b (decide (2048 ≤ (n : Int)) && (decide ((n : Int) < 55296) || decide ((57343 : Int) < n))))]⟩ H' (fun K hk => ?_) ?_ -- region 11
      · by_cases k1 : 2048 ≤ (n : Int)
        · by_cases k2 : (n : Int) < 55296
          · simpa [init_eq, k1, k2] using hk
          · simpa [init_eq, k1, k2] using hk
        · simpa [init_eq, k1] using hk
      refine AW_cond' rfl rfl (fun hc => ?_) (fun hc => ?_)
      · have k5 : 2048 ≤ n ∧ (n < 55296 ∨ 57343 < n) := by simp at hc; omega
        refine AW_seq ?_
        refine AW_reg [2, 3, 4] fun K hK => ?_ -- region 12
        simp [init_eq]
        refine hK _ _ ?_; clear hK K
        refine AW_ret (end_ret rfl ?_)
        simp [hd0 k5, decOk]
      · have k5 : ¬ (2048 ≤ n ∧ (n < 55296 ∨ 57343 < n)) := by simp at hc; omega
        refine AW_skip (rend ⟨_, ?_, rfl, rfl, fun h => k5 h.2.2.2⟩)
        simp
    · refine AW_skip (rend ⟨_, ?_, rfl, rfl, fun h => ?_⟩)
      · simp
      · have k1 : 0 ≤ b := q1.2 h.2.1
        have k2 : 0 ≤ c := q2.2 h.2.2.1
        simp at hc
        omega
  intro ρ G hM
  obtain ⟨e1, e2, F2⟩ := hM
  rw [e1, e2]; clear e1 e2 ρ G
  refine AW_cut (fun ρ G => ρ = ⟨111, []⟩ ∧ G = H' ∧ ¬ ((240 ≤ bat s 0 ∧ bat s 0 < 248) ∧ bcont s 1 = true ∧ bcont s 2 = true ∧ bcont s 3 = true ∧ (65536 ≤ (bat s 0 - 240) * 262144 + (bat s 1 - 128) * 4096 + (bat s 2 - 128) * 64 + (bat s 3 - 128) ∧ (bat s 0 - 240) * 262144 + (bat s 1 - 128) * 4096 + (bat s 2 - 128) * 64 + (bat s 3 - 128) ≤ 1114111))) ?_ ?_
  · subst hE
    refine AW_seq ?_
    refine AW_regto [5, 6, 7, 8, 92] ⟨111, [(5, .i .i64 (bat s 0)), (6, .i .i64 b), (7, .i .i64 c), (8, .i .i64 d), (92, .b (decide (240 ≤ (bat s 0 : Int)) && decide ((bat s 0 : Int) < 248) && decide (0 ≤ b) && decide (0 ≤ c) && decide (0 ≤ d)))]⟩ H' (fun K hk => ?_) ?_ -- region 13
    · by_cases k1 : 240 ≤ (bat s 0 : Int)
      · by_cases k2 : (bat s 0 : Int) < 248
        · by_cases k3 : 0 ≤ b
          · by_cases k4 : 0 ≤ c
            · simpa [init_eq, k1, k2, k3, k4] using hk
            · simpa [init_eq, k1, k2, k3, k4] using hk
          · simpa [init_eq, k1, k2, k3] using hk
        · simpa [init_eq, k1, k2] using hk
      · simpa [init_eq, k1] using hk
    refine AW_cond' rfl rfl (fun hc => ?_) (fun hc => ?_)
    · simp at hc
      obtain ⟨⟨⟨⟨k1, k2⟩, k3⟩, k4⟩, k5⟩ := hc
      obtain ⟨e1, e2, e3⟩ := p1 k3
      obtain ⟨e4, e5, e6⟩ := p2 k4
      obtain ⟨e7, e8, e9⟩ := p3 k5
      refine AW_seq ?_
      refine AW_reg [11] fun K hK => ?_ -- region 14
      simp [init_eq, wrap_id (x := (bat s 0 : Int) - 240) (by omega) (by omega), wrap_id (x := ((bat s 0 : Int) - 240) * 262144) (by omega) (by omega), wrap_id (x := b * 4096) (by omega) (by omega), wrap_id (x := c * 64) (by omega) (by omega), wrap_id (x := ((bat s 0 : Int) - 240) * 262144 + b * 4096) (by omega) (by omega), wrap_id (x := ((bat s 0 : Int) - 240) * 262144 + b * 4096 + c * 64) (by omega) (by omega), wrap_id (x := ((bat s 0 : Int) - 240) * 262144 + b * 4096 + c * 64 + d) (by omega) (by omega)]
      refine hK _ _ ?_; clear hK K
      have ev : ((bat s 0 : Int) - 240) * 262144 + b * 4096 + c * 64 + d = (((bat s 0 - 240) * 262144 + (bat s 1 - 128) * 4096 + (bat s 2 - 128) * 64 + (bat s 3 - 128) : Nat) : Int) := by omega
      rw [ev]
      have hd0 : (65536 ≤ (bat s 0 - 240) * 262144 + (bat s 1 - 128) * 4096 + (bat s 2 - 128) * 64 + (bat s 3 - 128) ∧ (bat s 0 - 240) * 262144 + (bat s 1 - 128) * 4096 + (bat s 2 - 128) * 64 + (bat s 3 - 128) ≤ 1114111) → dec s = ((bat s 0 - 240) * 262144 + (bat s 1 - 128) * 4096 + (bat s 2 - 128) * 64 + (bat s 3 - 128), 4) := fun h => by
        unfold dec; rw [if_neg h0, if_neg (by omega), if_neg (by omega), if_pos ⟨by omega, q1.1 k3, q2.1 k4, q3.1 k5⟩, if_pos h]
      generalize (bat s 0 - 240) * 262144 + (bat s 1 - 128) * 4096 + (bat s 2 - 128) * 64 + (bat s 3 - 128) = n at *
      refine AW_seq ?_
      refine AW_regto [11, 109] ⟨111, [(11, .i .i64 n), (109, .b (decide (65536 ≤ (n : Int)) && decide ((n : Int) ≤ 1114111)))]⟩ H' (fun K hk => ?_) ?_ -- region 15
      · by_cases k1 : 65536 ≤ (n : Int)
        · simpa [init_eq, k1] using hk
        · simpa [init_eq, k1] using hk
      refine AW_cond' rfl rfl (fun hc => ?_) (fun hc => ?_)
      · have k6 : 65536 ≤ n ∧ n ≤ 1114111 := by simp at hc; omega
        refine AW_seq ?_
        refine AW_reg [2, 3, 4] fun K hK => ?_ -- region 16
        simp [init_eq]
        refine hK _ _ ?_; clear hK K
        refine AW_ret (end_ret rfl ?_)
        simp [hd0 k6, decOk]
      · have k6 : ¬ (65536 ≤ n ∧ n ≤ 1114111) := by simp at hc; omega
        refine AW_skip (rend ⟨_, ?_, rfl, rfl, fun h => k6 h.2.2.2.2⟩)
        simp
    · refine AW_skip (rend ⟨_, ?_, rfl, rfl, fun h => ?_⟩)
      · simp
      · have k1 : 0 ≤ b := q1.2 h.2.1
        have k2 : 0 ≤ c := q2.2 h.2.2.1
        have k3 : 0 ≤ d := q3.2 h.2.2.2.1
        simp at hc
        omega
  intro ρ G hM
  obtain ⟨e1, e2, F3⟩ := hM
  rw [e1, e2]; clear e1 e2 ρ G
  have hd : dec s = (65533, 1) := by
    unfold dec
    rw [if_neg h0]
    by_cases c1 : (192 ≤ bat s 0 ∧ bat s 0 < 224) ∧ bcont s 1 = true
    · rw [if_pos c1, if_neg (fun h => F1 ⟨c1.1, c1.2, h⟩)]
    rw [if_neg c1]
    by_cases c2 : (224 ≤ bat s 0 ∧ bat s 0 < 240) ∧ bcont s 1 = true ∧ bcont s 2 = true
    · rw [if_pos c2, if_neg (fun h => F2 ⟨c2.1, c2.2.1, c2.2.2, h⟩)]
    rw [if_neg c2]
    by_cases c3 : (240 ≤ bat s 0 ∧ bat s 0 < 248) ∧ bcont s 1 = true ∧ bcont s 2 = true ∧ bcont s 3 = true
    · rw [if_pos c3, if_neg (fun h => F3 ⟨c3.1, c3.2.1, c3.2.2.1, c3.2.2.2, h⟩)]
    rw [if_neg c3]
  refine AW_seq ?_
  refine AW_reg [2, 3, 4] fun K hK => ?_ -- region 17
  simp [init_eq]
  refine hK _ _ ?_; clear hK K
  refine AW_ret (end_ret rfl ?_)
  simp [hd, decOk]
/-- A letter as a number in memory. -/
def letC (x : Nat × Bool) : List V := [.i .i64 x.1]
theorem app_ints : App Tryd.prog 111 111 1 8 := App.mk' qelem_111 qsize_3 qbytes_3 qzero_3 qsrc_111 rfl (by decide) -- 58
theorem runes_ok (H : AH) (s : List UInt8) (hl : s.length ≤ 1000000000) : ACalls Tryd.prog 58 [.s s] H fun r H' => ∃ v F, r = .tup [v, .b ((letsOf s).all (·.2))] ∧ Own H' v 1 ((letsOf s).map letC).flatten F ∧ Upd H H' [] := by
  refine ACalls_body Tryd.func58 rfl rfl ?_
  refine AW_seq ?_
  refine AW_reg [0] fun K hK => ?_ -- region 0
  simp [init_eq]
  refine hK _ _ ?_; clear hK K
  refine AW_seq ?_
  refine AW_reg [0, 4] fun K hK => ?_ -- region 1
  simp [init_eq]
  refine hK _ _ ?_; clear hK K
  refine AW_seq ?_
  refine AW_reg [0, 4, 5] fun K hK => ?_ -- region 2
  simp [init_eq]
  refine hK _ _ ?_; clear hK K
  refine AW_seq ?_
  refine AW_block ?_
  refine AW_loopx (fun x : List (Nat × Bool) × List UInt8 × V => ⟨31, [(0, .s x.2.1), (4, x.2.2), (5, .b (x.1.all (·.2)))]⟩)
    (fun x H' => letsOf s = x.1 ++ letsOf x.2.1 ∧ x.2.1.length ≤ s.length ∧ ∃ F, Own H' x.2.2 1 (x.1.map letC).flatten F ∧ Upd H H' [] ∧ ∀ j ∈ F, H.next ≤ j) (fun x => x.2.1.length) ([], s, .sl none 0 false) (by simp)
    ⟨by simp, by simp, [], Own.nil .., Upd.refl .., by simp⟩ fun x H1 hM => ?_ -- loop
  obtain ⟨dn, rs, v⟩ := x
  obtain ⟨h1, h2, F, h3, h4, h5⟩ := hM
  simp only at h1 h2 h3
  have hdl : dn.length ≤ s.length := by have := letsOf_len s; rw [h1] at this; simp at this; omega
  refine AW_seq ?_
  refine AW_seq ?_
  refine AW_reg [0, 4, 5, 11] fun K hK => ?_ -- region 3
  simp [init_eq, alen]
  refine hK _ _ ?_; clear hK K
  refine AW_cond' rfl rfl (fun hc => ?_) (fun hc => ?_)
  · have hne : rs ≠ [] := by
      intro e; subst e; simp at hc
    have hrl : 1 ≤ rs.length := List.length_pos_iff.2 hne
    refine AW_skip ?_
    refine AW_block ?_
    refine AW_seq ?_
    refine AW_reg [0, 4, 5, 6, 7, 8] fun K hK => ?_ -- region 4
    simp [init_eq]
    refine ACalls.mono (rstep_ok _ _ hne) fun r H' ⟨hr, e⟩ => ?_ -- hallmoot/hallmootref02.Step
    subst hr e
    try simp
    refine hK _ _ ?_; clear hK K
    obtain ⟨G1, v', G2, F', b1, b2, b3, b4, b5⟩ := h3.pushR (f := letC) app_ints qelem_111 qsize_3 qzero_3 rfl rfl (by decide) (fun _ => rfl) ((dec rs).1, decOk rs) (x := .i .i64 (dec rs).1) rfl (by simp [roomOk]; omega)
    refine AW_seq ?_
    refine AW_reg [0, 4, 5, 7, 8] fun K hK => ?_ -- region 5
    simp [init_eq, b1, b2]
    refine hK _ _ ?_; clear hK K
    refine AW_seq ?_
    refine AW_regto [0, 4, 5, 7] ⟨31, [(0, .s rs), (4, v'), (5, .b (dn.all (·.2) && decOk rs)), (7, .i .i64 (dec rs).2)]⟩ G2 (fun K hk => ?_) ?_ -- region 6
    · cases hd : dn.all (·.2)
      · simpa [init_eq, hd] using hk
      · simpa [init_eq, hd] using hk
    have hd1 := dec_pos rs
    have hd2 := dec_le rs hne
    refine AW_reg [0, 4, 5] fun K hK => ?_ -- region 7
    have hsl : aslice Tryd.prog G2 9 (.s rs) (some (.i .i64 (dec rs).2)) none none = some (.s (rs.drop (dec rs).2)) := by
      have : ¬ rs.length < (dec rs).2 := by omega
      have h3 : ((dec rs).2 : Int) ≤ rs.length := by omega
      simp [aslice, abound, h3]
    simp [init_eq, hsl]
    refine hK _ _ ?_; clear hK K
    refine bend (rend ⟨(dn ++ [((dec rs).1, decOk rs)], rs.drop (dec rs).2, v'), by simp, ⟨?_, by (show (rs.drop (dec rs).2).length ≤ s.length); rw [List.length_drop]; omega, F', b3, h4.trans b4 (fun j hj => .inr (h5 j hj)), fun j hj => ?_⟩, by (show (rs.drop (dec rs).2).length < rs.length); rw [List.length_drop]; omega⟩) -- round's end
    · rw [h1, letsOf_cons hne]; simp
    · rcases b5 j hj with h | h
      · exact h5 j h
      · have := h4.1; omega
  · have hrs : rs = [] := by
      have : ¬ 0 < rs.length := by simp at hc; simpa using hc
      exact List.length_eq_zero_iff.1 (by omega)
    subst hrs
    rw [letsOf_nil, List.append_nil] at h1
    refine AW_exit (then_exit (then_exit (block_here ?_)))
    refine AW_seq ?_
    refine AW_reg [2, 3] fun K hK => ?_ -- region 8
    simp [init_eq]
    refine hK _ _ ?_; clear hK K
    refine AW_ret (end_ret rfl ?_)
    exact ⟨v, F, by simp [h1], by rw [h1]; exact h3, h4⟩
end Go.Proofs.YtikonppmjkipoaaDoor
