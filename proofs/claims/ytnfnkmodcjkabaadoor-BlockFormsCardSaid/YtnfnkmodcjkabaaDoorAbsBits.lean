/-
  Numbers of 32 bits as sets.
-/
import Derived.Test.YtnfnkmodcjkabaaDoorAbsLib
set_option linter.unusedVariables false
set_option linter.unusedSimpArgs false
namespace Go.Abs
open Go Go.RowKit

/-- A number of 32 bits. -/
def u32 (s : BitVec 32) : V := .i .u32 s.toNat
@[simp high] theorem aev_u32 (ρ : Env) (n : Int) (h : 0 ≤ n ∧ n ≤ 4294967295) : aev ρ (.const (.int .u32 n)) = u32 (BitVec.ofInt 32 n) := by
  have : (BitVec.ofInt 32 n).toNat = n.toNat := by
    rw [BitVec.toNat_ofInt]; omega
  simp only [aev_int, u32, this]
  congr 1
  omega
@[simp] theorem u32_zero : V.i .u32 0 = u32 0#32 := rfl
@[simp] theorem u32_cells (s : BitVec 32) : (u32 s).cells = some [u32 s] := rfl
theorem wrap_u32 {n : Nat} (h : n < 4294967296) : IntKind.u32.wrap (n : Int) = n := by
  rw [IntKind.wrap_u32]; omega
theorem u32_of {x : Int} (h1 : IntKind.u32.min ≤ x) (h2 : x ≤ IntKind.u32.max) : ∃ s : BitVec 32, V.i .u32 x = u32 s := by
  have e1 : (0 : Int) ≤ x := h1
  have e2 : x ≤ 4294967295 := h2
  exact ⟨BitVec.ofNat 32 x.toNat, by simp [u32]; omega⟩
theorem u32_lt (s : BitVec 32) : s.toNat < 4294967296 := s.isLt
section
variable {P : Program} {t : TypeId} {a b : BitVec 32}
theorem ofInt_toNat (s : BitVec 32) : BitVec.ofInt 32 (s.toNat : Int) = s := by
  apply BitVec.eq_of_toNat_eq; simp
@[simp] theorem u32_and : abin P .and t (u32 a) (u32 b) = some (u32 (a &&& b)) := by
  simp only [u32, abin, aint, if_true]
  rw [show IntKind.u32.bits = 32 from rfl, ofInt_toNat, ofInt_toNat, wrap_u32 (u32_lt _)]
@[simp] theorem u32_or : abin P .or t (u32 a) (u32 b) = some (u32 (a ||| b)) := by
  simp only [u32, abin, aint, if_true]
  rw [show IntKind.u32.bits = 32 from rfl, ofInt_toNat, ofInt_toNat, wrap_u32 (u32_lt _)]
@[simp] theorem u32_xor : abin P .xor t (u32 a) (u32 b) = some (u32 (a ^^^ b)) := by
  simp only [u32, abin, aint, if_true]
  rw [show IntKind.u32.bits = 32 from rfl, ofInt_toNat, ofInt_toNat, wrap_u32 (u32_lt _)]
@[simp] theorem u32_andNot : abin P .andNot t (u32 a) (u32 b) = some (u32 (a &&& ~~~b)) := by
  simp only [u32, abin, aint, if_true]
  rw [show IntKind.u32.bits = 32 from rfl, ofInt_toNat, ofInt_toNat, wrap_u32 (u32_lt _)]
theorem toNat_inj : ((a.toNat : Int) == (b.toNat : Int)) = (a == b) := by
  by_cases h : a = b
  · simp [h]
  · have : a.toNat ≠ b.toNat := fun e => h (BitVec.eq_of_toNat_eq e)
    rw [beq_eq_false_iff_ne.2 h, beq_eq_false_iff_ne.2 (by omega)]
@[simp] theorem u32_eql : abin P .eql t (u32 a) (u32 b) = some (.b (decide (a = b))) := by
  simp only [u32, abin, aint, if_true, toNat_inj]
  rw [beq_dec]
@[simp] theorem u32_neq : abin P .neq t (u32 a) (u32 b) = some (.b (!decide (a = b))) := by
  simp only [u32, abin, aint, if_true, bne, toNat_inj]
  rw [beq_dec]
theorem toNat_lt : ((a.toNat : Int) < (b.toNat : Int)) = (a.toNat < b.toNat) := by simp
@[simp] theorem u32_lss : abin P .lss t (u32 a) (u32 b) = some (.b (decide (a.toNat < b.toNat))) := by
  simp only [u32, abin, aint, if_true]
  congr 2
  exact decide_eq_decide.2 (by omega)
@[simp] theorem u32_gtr : abin P .gtr t (u32 a) (u32 b) = some (.b (decide (b.toNat < a.toNat))) := by
  simp only [u32, abin, aint, if_true]
  congr 2
  exact decide_eq_decide.2 (by omega)
@[simp] theorem u32_leq : abin P .leq t (u32 a) (u32 b) = some (.b (decide (a.toNat ≤ b.toNat))) := by
  simp only [u32, abin, aint, if_true]
  congr 2
  exact decide_eq_decide.2 (by omega)
@[simp] theorem u32_geq : abin P .geq t (u32 a) (u32 b) = some (.b (decide (b.toNat ≤ a.toNat))) := by
  simp only [u32, abin, aint, if_true]
  congr 2
  exact decide_eq_decide.2 (by omega)
@[simp] theorem u32_sub : abin P .sub t (u32 a) (u32 b) = some (u32 (a - b)) := by
  simp only [u32, abin, aint, if_true]
  congr 2
  rw [IntKind.wrap_u32, BitVec.toNat_sub]
  have := u32_lt a; have := u32_lt b
  omega
theorem pow_cast (m : Nat) : ((2 : Int) ^ m) = ((2 ^ m : Nat) : Int) := by
  induction m with
  | zero => rfl
  | succ m ih => rw [Int.pow_succ, ih, Nat.pow_succ]; rfl
@[simp] theorem u32_shl {k : IntKind} {n : Int} (h : 0 ≤ n) : abin P .shl t (u32 a) (.i k n) = some (u32 (a <<< n.toNat)) := by
  simp only [u32, abin, ashift]
  rw [if_neg (by omega)]
  congr 2
  rw [IntKind.wrap_u32, BitVec.toNat_shiftLeft, show IntKind.u32.bits = 32 from rfl, pow_cast, Nat.shiftLeft_eq, ← Int.natCast_mul]
  by_cases h2 : n.toNat ≤ 32
  · rw [Nat.min_eq_left h2]
    generalize a.toNat * 2 ^ n.toNat = z
    omega
  · rw [Nat.min_eq_right (by omega)]
    have e1 : a.toNat * 2 ^ n.toNat % 2 ^ 32 = 0 := by
      have e : n.toNat = 32 + (n.toNat - 32) := by omega
      rw [e, Nat.pow_add, Nat.mul_left_comm, Nat.mul_mod_right]
    rw [e1]
    generalize a.toNat = z
    omega
@[simp] theorem u32_shr {k : IntKind} {n : Int} (h : 0 ≤ n) : abin P .shr t (u32 a) (.i k n) = some (u32 (a >>> n.toNat)) := by
  simp only [u32, abin, ashift]
  rw [if_neg (by omega)]
  congr 2
  rw [BitVec.toNat_ushiftRight, Nat.shiftRight_eq_div_pow, show IntKind.u32.bits = 32 from rfl, pow_cast, Int.fdiv_eq_ediv_of_nonneg _ (Int.natCast_nonneg _), ← Int.natCast_ediv]
  by_cases h2 : n.toNat ≤ 32
  · rw [Nat.min_eq_left h2]
  · rw [Nat.min_eq_right (by omega)]
    have ha := u32_lt a
    have e1 : a.toNat / 2 ^ 32 = 0 := Nat.div_eq_of_lt ha
    have hp : 2 ^ 32 ≤ 2 ^ n.toNat := Nat.pow_le_pow_right (by decide) (by omega)
    have e2 : a.toNat / 2 ^ n.toNat = 0 := Nat.div_eq_of_lt (Nat.lt_of_lt_of_le ha hp)
    rw [e1, e2]
end
/-! How many bits. -/
def pop8 (n : Nat) : Nat := ((List.range 8).filter fun i => n.testBit i).length
def popTab : List UInt8 := (List.range 256).map fun n => UInt8.ofNat (pop8 n)
/-- How many are in a set. -/
def pop (s : BitVec 32) : Nat := ((List.range 32).filter fun i => s.getLsbD i).length
theorem pop8_le (n : Nat) : pop8 n ≤ 8 := by
  unfold pop8
  exact Nat.le_trans (List.length_filter_le _ _) (by simp)
theorem index_pop {P : Program} {t : TypeId} (h : qstr P t = true) {l : List UInt8} (hl : l = popTab) {s : BitVec 32} (hs : s.toNat < 256) : aindex P t (.s l) (u32 s) = some (.i .u8 (pop8 s.toNat)) := by
  subst hl
  simp only [aindex, u32]
  rw [if_pos ⟨h, Int.natCast_nonneg _⟩]
  simp only [Int.toNat_natCast, popTab, List.getElem?_map, List.getElem?_range hs, Option.map_some]
  congr 2
  have := pop8_le s.toNat
  simp; omega
theorem filter_split (f : Nat → Bool) (a b : Nat) : ((List.range (a + b)).filter f).length = ((List.range a).filter f).length + ((List.range b).filter fun i => f (a + i)).length := by
  rw [List.range_add, List.filter_append, List.length_append, List.filter_map, List.length_map]
  rfl
theorem pop_split (s : BitVec 32) : pop s = pop8 (s &&& 255#32).toNat + pop8 ((s >>> 8) &&& 255#32).toNat + pop8 ((s >>> 16) &&& 255#32).toNat + pop8 (s >>> 24).toNat := by
  have key : ∀ (k : Nat) (x : BitVec 32), (∀ i, i < 8 → x.getLsbD i = s.getLsbD (k + i)) → pop8 x.toNat = ((List.range 8).filter fun i => s.getLsbD (k + i)).length := by
    intro k x hx
    unfold pop8
    congr 1
    apply List.filter_congr
    intro i hi
    have := hx i (by simpa using hi)
    rw [← this]; rfl
  have hm : ∀ (x : BitVec 32) i, i < 8 → (x &&& 255#32).getLsbD i = x.getLsbD i := by
    intro x i hi
    have h255 : (255#32).getLsbD i = true := by
      have : i = 0 ∨ i = 1 ∨ i = 2 ∨ i = 3 ∨ i = 4 ∨ i = 5 ∨ i = 6 ∨ i = 7 := by omega
      rcases this with rfl | rfl | rfl | rfl | rfl | rfl | rfl | rfl <;> decide
    simp [BitVec.getLsbD_and, h255]
  rw [key 0 _ (fun i hi => by rw [hm _ i hi]; simp), key 8 _ (fun i hi => by rw [hm _ i hi, BitVec.getLsbD_ushiftRight]), key 16 _ (fun i hi => by rw [hm _ i hi, BitVec.getLsbD_ushiftRight]), key 24 _ (fun i hi => by rw [BitVec.getLsbD_ushiftRight])]
  have e : ∀ f : Nat → Bool, ((List.range 32).filter f).length = ((List.range 8).filter fun i => f (0 + i)).length + ((List.range 8).filter fun i => f (8 + i)).length + ((List.range 8).filter fun i => f (16 + i)).length + ((List.range 8).filter fun i => f (24 + i)).length := by
    intro f
    have e1 := filter_split f 8 24
    have e2 := filter_split (fun i => f (8 + i)) 8 16
    have e3 := filter_split (fun i => f (8 + (8 + i))) 8 8
    have e0 : ((List.range 8).filter fun i => f (0 + i)).length = ((List.range 8).filter f).length := by simp
    simp only [Nat.reduceAdd, ← Nat.add_assoc] at e1 e2 e3
    rw [e0]
    omega
  exact e _
end Go.Abs
