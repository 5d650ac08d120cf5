/-
  Letters of texts: the model's decoding, told by lists.
-/
import Derived.Test.YtnfnkmodcjkabaaDoorAbsBox
set_option linter.unusedVariables false
set_option linter.unusedSimpArgs false
namespace Go.Abs
open Go Go.RowKit
theorem bget (l : List UInt8) (i : Nat) : (ByteArray.mk l.toArray).get! i = l.getD i 0 := by
  show l.toArray[i]! = l.getD i 0
  simp [List.getD]
  rfl
/-- A byte of a text; 0 behind its end. -/
def bat (l : List UInt8) (i : Nat) : Nat := (l.getD i 0).toNat
theorem bat_drop (l : List UInt8) (p i : Nat) : bat (l.drop p) i = bat l (p + i) := by simp [bat, List.getD]
theorem bat_lt (l : List UInt8) (i : Nat) : bat l i < 256 := UInt8.toNat_lt _
/-- Is the i-th byte one that goes on? -/
def bcont (l : List UInt8) (i : Nat) : Bool := decide (i < l.length) && decide (128 ≤ bat l i ∧ bat l i < 192)
/-- The first letter of a text, and how many bytes it has. -/
def dec (l : List UInt8) : Nat × Nat :=
  if bat l 0 < 128 then (bat l 0, 1)
  else if (192 ≤ bat l 0 ∧ bat l 0 < 224) ∧ bcont l 1 = true then
    if 128 ≤ (bat l 0 - 192) * 64 + (bat l 1 - 128) then ((bat l 0 - 192) * 64 + (bat l 1 - 128), 2) else (65533, 1)
  else if (224 ≤ bat l 0 ∧ bat l 0 < 240) ∧ bcont l 1 = true ∧ bcont l 2 = true then
    if 2048 ≤ (bat l 0 - 224) * 4096 + (bat l 1 - 128) * 64 + (bat l 2 - 128) ∧ ((bat l 0 - 224) * 4096 + (bat l 1 - 128) * 64 + (bat l 2 - 128) < 55296 ∨ 57343 < (bat l 0 - 224) * 4096 + (bat l 1 - 128) * 64 + (bat l 2 - 128)) then ((bat l 0 - 224) * 4096 + (bat l 1 - 128) * 64 + (bat l 2 - 128), 3) else (65533, 1)
  else if (240 ≤ bat l 0 ∧ bat l 0 < 248) ∧ bcont l 1 = true ∧ bcont l 2 = true ∧ bcont l 3 = true then
    if 65536 ≤ (bat l 0 - 240) * 262144 + (bat l 1 - 128) * 4096 + (bat l 2 - 128) * 64 + (bat l 3 - 128) ∧ (bat l 0 - 240) * 262144 + (bat l 1 - 128) * 4096 + (bat l 2 - 128) * 64 + (bat l 3 - 128) ≤ 1114111 then ((bat l 0 - 240) * 262144 + (bat l 1 - 128) * 4096 + (bat l 2 - 128) * 64 + (bat l 3 - 128), 4) else (65533, 1)
  else (65533, 1)
theorem bcont_iff (l : List UInt8) (i : Nat) : bcont l i = true ↔ i < l.length ∧ 128 ≤ bat l i ∧ bat l i < 192 := by simp [bcont]
theorem decode_dec (l : List UInt8) (p : Nat) : Utf8.decode ⟨l.toArray⟩ p = dec (l.drop p) := by
  have hs : (ByteArray.mk l.toArray).size = l.length := by simp [ByteArray.size]
  have hb : ∀ k, ((ByteArray.mk l.toArray).get! (p + k)).toNat = bat (l.drop p) k := fun k => by rw [bget, bat_drop]; rfl
  have hc : ∀ k, (decide (p + k < (ByteArray.mk l.toArray).size) && (bat (l.drop p) k / 64 == 2)) = bcont (l.drop p) k := fun k => by
    rw [hs, bcont, Bool.eq_iff_iff]
    simp
    omega
  unfold Utf8.decode dec
  simp only [hc, hb, Utf8.runeError]
  generalize hl : l.drop p = m
  have h0 := bat_lt m 0
  have g1 := bcont_iff m 1
  have g2 := bcont_iff m 2
  have g3 := bcont_iff m 3
  have v1 : bcont m 1 = true → bat m 1 % 64 = bat m 1 - 128 := fun h => by have := g1.1 h; omega
  have v2 : bcont m 2 = true → bat m 2 % 64 = bat m 2 - 128 := fun h => by have := g2.1 h; omega
  have v3 : bcont m 3 = true → bat m 3 % 64 = bat m 3 - 128 := fun h => by have := g3.1 h; omega
  have u1 : bcont m 1 = true → bat m 1 - 128 < 64 := fun h => by have := g1.1 h; omega
  have u2 : bcont m 2 = true → bat m 2 - 128 < 64 := fun h => by have := g2.1 h; omega
  generalize bat m 0 = a at *
  generalize bat m 1 % 64 = b, bat m 1 - 128 = b' at *
  generalize bat m 2 % 64 = c, bat m 2 - 128 = c' at *
  generalize bat m 3 % 64 = d, bat m 3 - 128 = d' at *
  clear g1 g2 g3 hb hc
  by_cases k0 : a < 128
  · rw [if_pos k0, if_pos k0]
  rw [if_neg k0, if_neg k0]
  by_cases k1 : 192 ≤ a ∧ a < 224
  · have e1 : (a / 32 == 6) = true := by simp; omega
    have e2 : (a / 16 == 14) = false := by simp; omega
    have e3 : (a / 8 == 30) = false := by simp; omega
    have e4 : a % 32 = a - 192 := by omega
    have n2 : ¬ (224 ≤ a ∧ a < 240) := by omega
    have n3 : ¬ (240 ≤ a ∧ a < 248) := by omega
    cases h1 : bcont m 1
    · simp [e1, e2, e3, n2, n3]
    · simp [e1, e4, k1, v1 h1]
  by_cases k2 : 224 ≤ a ∧ a < 240
  · have e1 : (a / 32 == 6) = false := by simp; omega
    have e2 : (a / 16 == 14) = true := by simp; omega
    have e3 : (a / 8 == 30) = false := by simp; omega
    have e4 : a % 16 = a - 224 := by omega
    have n3 : ¬ (240 ≤ a ∧ a < 248) := by omega
    cases h1 : bcont m 1
    · simp [e1, e2, e3, k1, n3]
    cases h2 : bcont m 2
    · simp [e1, e2, e3, k1, n3]
    have w1 := u1 h1
    have w2 := u2 h2
    simp only [e1, e2, e4, k1, k2, v1 h1, v2 h2, Bool.false_and, Bool.false_eq_true, if_false, Bool.true_and, Bool.and_self, if_true, and_self, and_true, false_and]
    have : (decide ((a - 224) * 4096 + b' * 64 + c' ≥ 2048) && Utf8.valid ↑((a - 224) * 4096 + b' * 64 + c')) = true ↔ (2048 ≤ (a - 224) * 4096 + b' * 64 + c' ∧ ((a - 224) * 4096 + b' * 64 + c' < 55296 ∨ 57343 < (a - 224) * 4096 + b' * 64 + c')) := by
      simp [Utf8.valid]
      omega
    by_cases hh : 2048 ≤ (a - 224) * 4096 + b' * 64 + c' ∧ ((a - 224) * 4096 + b' * 64 + c' < 55296 ∨ 57343 < (a - 224) * 4096 + b' * 64 + c')
    · rw [if_pos hh, if_pos (this.2 hh)]
    · rw [if_neg hh, if_neg (fun e => hh (this.1 e))]
  by_cases k3 : 240 ≤ a ∧ a < 248
  · have e1 : (a / 32 == 6) = false := by simp; omega
    have e2 : (a / 16 == 14) = false := by simp; omega
    have e3 : (a / 8 == 30) = true := by simp; omega
    have e4 : a % 8 = a - 240 := by omega
    cases h1 : bcont m 1
    · simp [e1, e2, e3, k1, k2]
    cases h2 : bcont m 2
    · simp [e1, e2, e3, k1, k2]
    cases h3 : bcont m 3
    · simp [e1, e2, e3, k1, k2]
    simp only [e1, e2, e3, e4, k1, k2, k3, v1 h1, v2 h2, v3 h3, Bool.false_and, Bool.false_eq_true, if_false, Bool.true_and, Bool.and_self, if_true, and_self, and_true, false_and]
    have : (decide ((a - 240) * 262144 + b' * 4096 + c' * 64 + d' ≥ 65536) && Utf8.valid ↑((a - 240) * 262144 + b' * 4096 + c' * 64 + d')) = true ↔ (65536 ≤ (a - 240) * 262144 + b' * 4096 + c' * 64 + d' ∧ (a - 240) * 262144 + b' * 4096 + c' * 64 + d' ≤ 1114111) := by
      simp [Utf8.valid]
      omega
    by_cases hh : 65536 ≤ (a - 240) * 262144 + b' * 4096 + c' * 64 + d' ∧ (a - 240) * 262144 + b' * 4096 + c' * 64 + d' ≤ 1114111
    · rw [if_pos hh, if_pos (this.2 hh)]
    · rw [if_neg hh, if_neg (fun e => hh (this.1 e))]
  · have e1 : (a / 32 == 6) = false := by simp; omega
    have e2 : (a / 16 == 14) = false := by simp; omega
    have e3 : (a / 8 == 30) = false := by simp; omega
    simp [e1, e2, e3, k1, k2, k3]
/-- Is its first letter one (no broken byte)? -/
def decOk (l : List UInt8) : Bool := !decide (dec l = (65533, 1))
theorem dec_pos (l : List UInt8) : 1 ≤ (dec l).2 := by
  unfold dec
  repeat' split
  all_goals simp
theorem dec_small (l : List UInt8) : (dec l).1 ≤ 1114111 := by
  have h0 := bat_lt l 0
  have g1 := bcont_iff l 1
  have g2 := bcont_iff l 2
  unfold dec
  split
  · simp; omega
  split
  · rename_i h; have := g1.1 h.2; split <;> simp <;> omega
  split
  · rename_i h; have := g1.1 h.2.1; have := g2.1 h.2.2; split <;> simp <;> omega
  split
  · split <;> simp <;> omega
  · simp
theorem dec_le (l : List UInt8) (h : l ≠ []) : (dec l).2 ≤ l.length := by
  have hl : 1 ≤ l.length := List.length_pos_iff.2 h
  have g1 := bcont_iff l 1
  have g2 := bcont_iff l 2
  have g3 := bcont_iff l 3
  unfold dec
  split
  · simp; omega
  split
  · rename_i h; have := g1.1 h.2; split <;> simp <;> omega
  split
  · rename_i h; have := g2.1 h.2.2; split <;> simp <;> omega
  split
  · rename_i h; have := g3.1 h.2.2.2; split <;> simp <;> omega
  · simp; omega
/-- The letters of a text, each with whether it is one. -/
def letsOf (l : List UInt8) : List (Nat × Bool) :=
  if h : l = [] then [] else ((dec l).1, decOk l) :: letsOf (l.drop (dec l).2)
termination_by l.length
decreasing_by
  have := dec_pos l
  have : 1 ≤ l.length := List.length_pos_iff.2 h
  simp; omega
theorem letsOf_nil : letsOf [] = [] := by rw [letsOf]; simp
theorem letsOf_cons {l : List UInt8} (h : l ≠ []) : letsOf l = ((dec l).1, decOk l) :: letsOf (l.drop (dec l).2) := by rw [letsOf]; simp [h]
theorem letsOf_len (l : List UInt8) : (letsOf l).length ≤ l.length := by
  induction hn : l.length using Nat.strongRecOn generalizing l with
  | _ n ih =>
    by_cases h : l = []
    · subst h; simp [letsOf_nil]
    · rw [letsOf_cons h, List.length_cons]
      have h1 := dec_pos l
      have h2 : 1 ≤ l.length := List.length_pos_iff.2 h
      have h3 : (l.drop (dec l).2).length < n := by simp; omega
      have := ih _ h3 (l.drop (dec l).2) rfl
      simp at this
      omega
/-- May a letter stand in a name? -/
def letterB (c : Nat) : Bool := (decide (97 ≤ c) && decide (c ≤ 122)) || (decide (48 ≤ c) && decide (c ≤ 57)) || decide (c = 95) || decide (c = 45) || (decide (223 ≤ c) && decide (c ≤ 255) && !decide (c = 247)) || (decide (945 ≤ c) && decide (c ≤ 969))
/-- May it not begin one? -/
def digitB (c : Nat) : Bool := decide (c = 45) || (decide (48 ≤ c) && decide (c ≤ 57))
/-- Is it a name? -/
def nameOk (l : List UInt8) : Bool :=
  match letsOf l with
  | [] => false
  | x :: r => !digitB x.1 && (x :: r).all (fun y => letterB y.1) && decide ((x :: r).length ≤ 32)
/-- Is it a value? -/
def valOk (l : List UInt8) : Bool := (letsOf l).all (fun y => y.2 && !(decide (y.1 < 32) || decide (y.1 = 127))) && decide ((letsOf l).length ≤ 32)
/-- What is no letter stands in no name. -/
theorem letsOf_ok (l : List UInt8) : ∀ x ∈ letsOf l, letterB x.1 = true → x.2 = true := by
  induction hn : l.length using Nat.strongRecOn generalizing l with
  | _ n ih =>
    by_cases h : l = []
    · subst h; simp [letsOf_nil]
    · rw [letsOf_cons h]
      intro x hx hl
      rcases List.mem_cons.1 hx with rfl | hx
      · have hl' : letterB (dec l).1 = true := hl
        simp only [decOk]
        by_cases e : dec l = (65533, 1)
        · rw [e] at hl'; exact absurd hl' (by decide)
        · simp [e]
      · have h1 := dec_pos l
        have h2 : 1 ≤ l.length := List.length_pos_iff.2 h
        exact ih _ (by simp; omega) (l.drop (dec l).2) rfl x hx hl
theorem nameOk_bad {l : List UInt8} {x : Nat × Bool} (hx : x ∈ letsOf l) (h : letterB x.1 = false) : nameOk l = false := by
  unfold nameOk
  cases e : letsOf l with
  | nil => rfl
  | cons y r =>
    rw [e] at hx
    have : (y :: r).all (fun y => letterB y.1) = false := by
      rw [List.all_eq_false]; exact ⟨x, hx, by simp [h]⟩
    simp only [this, Bool.and_false, Bool.false_and]
theorem nameOk_broken {l : List UInt8} (h : (letsOf l).all (·.2) = false) : nameOk l = false := by
  rw [List.all_eq_false] at h
  obtain ⟨x, hx, h2⟩ := h
  refine nameOk_bad hx ?_
  cases h3 : letterB x.1
  · rfl
  · exact absurd (letsOf_ok l x hx h3) (by simpa using h2)
theorem nameOk_nil {l : List UInt8} (h : letsOf l = []) : nameOk l = false := by unfold nameOk; rw [h]
theorem nameOk_cons {l : List UInt8} {x : Nat × Bool} {r : List (Nat × Bool)} (h : letsOf l = x :: r) : nameOk l = (!digitB x.1 && (x :: r).all (fun y => letterB y.1) && decide ((x :: r).length ≤ 32)) := by unfold nameOk; rw [h]
theorem dec_le4 (l : List UInt8) : (dec l).2 ≤ 4 := by
  unfold dec
  repeat' split
  all_goals simp
/-- A text of so many letters has no more than four times as many bytes. -/
theorem len_letsOf (l : List UInt8) : l.length ≤ 4 * (letsOf l).length := by
  induction hn : l.length using Nat.strongRecOn generalizing l with
  | _ n ih =>
    by_cases h : l = []
    · subst h; simp at hn; omega
    · rw [letsOf_cons h, List.length_cons]
      have h1 := dec_pos l
      have h2 : 1 ≤ l.length := List.length_pos_iff.2 h
      have h4 := dec_le4 l
      have h3 : (l.drop (dec l).2).length < n := by simp; omega
      have := ih _ h3 (l.drop (dec l).2) rfl
      simp at this
      omega
theorem nameOk_len {l : List UInt8} (h : nameOk l = true) : l.length ≤ 128 := by
  have h1 := len_letsOf l
  cases e : letsOf l with
  | nil => rw [nameOk_nil e] at h; cases h
  | cons x r =>
    rw [nameOk_cons e] at h
    rw [e] at h1
    simp only [Bool.and_eq_true, decide_eq_true_eq] at h
    have := h.2
    omega
theorem valOk_len {l : List UInt8} (h : valOk l = true) : l.length ≤ 128 := by
  have h1 := len_letsOf l
  unfold valOk at h
  simp only [Bool.and_eq_true, decide_eq_true_eq] at h
  have := h.2
  omega
end Go.Abs
