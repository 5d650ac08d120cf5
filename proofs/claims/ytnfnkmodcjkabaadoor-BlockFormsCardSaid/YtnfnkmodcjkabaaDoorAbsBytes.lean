/-
  Bytes that are built: numbers' bytes, slices of bytes of one's own.
-/
import Derived.Test.YtnfnkmodcjkabaaDoorAbsBox
set_option linter.unusedVariables false
set_option linter.unusedSimpArgs false
namespace Go.Abs
open Go Go.RowKit
/-- A number's bytes. -/
def numB (n : Nat) : List UInt8 := if h : n < 128 then [UInt8.ofNat n] else UInt8.ofNat (n % 128 + 128) :: numB (n / 128)
termination_by n
decreasing_by omega
theorem numB_lt {n : Nat} (h : n < 128) : numB n = [UInt8.ofNat n] := by rw [numB, dif_pos h]
theorem numB_ge {n : Nat} (h : ¬ n < 128) : numB n = UInt8.ofNat (n % 128 + 128) :: numB (n / 128) := by rw [numB, dif_neg h]
theorem numB_len : ∀ (k n : Nat), n < 128 ^ (k + 1) → (numB n).length ≤ k + 1
  | 0, n, h => by rw [numB_lt (by simpa using h)]; simp
  | k + 1, n, h => by
    by_cases h1 : n < 128
    · rw [numB_lt h1]; simp
    · rw [numB_ge h1, List.length_cons]
      have h2 : n / 128 < 128 ^ (k + 1) := Nat.div_lt_of_lt_mul (by rw [Nat.pow_succ] at h; omega)
      have := numB_len k (n / 128) h2
      omega
theorem numB_len9 {n : Nat} (h : n ≤ 4611686018427387904) : (numB n).length ≤ 9 := numB_len 8 n (by omega)
theorem numB_pos (n : Nat) : 1 ≤ (numB n).length := by
  by_cases h1 : n < 128
  · rw [numB_lt h1]; simp
  · rw [numB_ge h1]; simp
/-- A text's bytes. -/
def textB (s : List UInt8) : List UInt8 := numB s.length ++ s
@[simp] theorem bytesV_nil : bytesV [] = [] := rfl
@[simp] theorem bytesV_append (a b : List UInt8) : bytesV (a ++ b) = bytesV a ++ bytesV b := by simp [bytesV]
@[simp] theorem bytesV_len (a : List UInt8) : (bytesV a).length = a.length := by simp [bytesV]
theorem bytesV_one (x : UInt8) : bytesV [x] = [.i .u8 x.toNat] := rfl
theorem unbytes_bytesV : ∀ l : List UInt8, unbytes (bytesV l) = some l
  | [] => rfl
  | x :: l => by
    show (unbytes (bytesV l)).map _ = _
    rw [unbytes_bytesV l]
    simp
/-- Cells of bytes, as records of one cell. -/
def byC (x : UInt8) : List V := [.i .u8 x.toNat]
theorem bytesV_flat : ∀ l : List UInt8, (l.map byC).flatten = bytesV l
  | [] => rfl
  | x :: l => by
    rw [List.map_cons, List.flatten_cons, bytesV_flat l]
    rfl
theorem wrap_u8 (n : Nat) : IntKind.u8.wrap (n : Int) = ((n % 256 : Nat) : Int) := by
  have : IntKind.u8.wrap (n : Int) = (n : Int) % 256 := by
    simp [IntKind.wrap, IntKind.bits, IntKind.signed, IntKind.min, IntKind.max]
  rw [this]; omega
set_option maxRecDepth 100000 in
theorem or128 : ∀ x : Fin 256, (BitVec.ofInt 8 (x.val : Int) ||| BitVec.ofInt 8 128).toNat = x.val % 128 + 128 := by decide
theorem or_128 {P : Program} {t : TypeId} (n : Nat) : abin P .or t (.i .u8 ((n % 256 : Nat) : Int)) (.i .u8 128) = some (.i .u8 ((n % 128 + 128 : Nat) : Int)) := by
  have h := or128 ⟨n % 256, Nat.mod_lt _ (by decide)⟩
  have h1 : n % 256 % 128 = n % 128 := by omega
  simp only [abin, aint, if_true]
  rw [show IntKind.u8.bits = 8 from rfl]
  simp only at h
  rw [h, wrap_u8, h1, Nat.mod_eq_of_lt (by omega)]
theorem shr_7 {P : Program} {t : TypeId} (n : Nat) : abin P .shr t (.i .i64 (n : Int)) (.i .u64 7) = some (.i .i64 ((n / 128 : Nat) : Int)) := by
  have : min (7 : Int).toNat IntKind.i64.bits = 7 := rfl
  simp only [abin, ashift, this]
  have h2 : ((n : Int)).fdiv (2 ^ 7) = ((n / 128 : Nat) : Int) := by
    rw [Int.fdiv_eq_ediv_of_nonneg _ (by decide)]
    rfl
  rw [h2]; rfl
theorem sl_asource {P : Program} {H : AH} {v : V} {l : List UInt8} (h : Sl H v 1 (bytesV l)) : asource P H 1 v = some (bytesV l, l.length) := by
  have := h.asource (P := P) (by decide)
  simpa using this
/-- A slice of bytes, as a text. -/
theorem conv_text {P : Program} {H : AH} {s t : TypeId} {v : V} {l : List UInt8} (hs : qbs P s = true) (ht : qstr P t = true) (h : Sl H v 1 (bytesV l)) : aconvert P H s t v = some (.s l, H) := by
  unfold qbs at hs; unfold qstr at ht; unfold aconvert
  cases h1 : P.underlying s with
  | none => simp [h1] at hs
  | some d =>
    rw [h1] at hs
    cases d <;> simp at hs
    rename_i e
    cases h2 : P.underlying t with
    | none => simp [h2] at ht
    | some d2 =>
      rw [h2] at ht
      cases d2 <;> simp at ht
      have he : P.underlying e = some (.int .u8) := by
        split at hs
        · assumption
        · cases hs
      rcases h with ⟨c, rfl, hl⟩ | ⟨id, g, off, len, clip, c, ro, esz, rfl, hg, h3, hl⟩
      · have : l = [] := by
          have := congrArg List.length hl; simp at this; exact this
        subst this
        simp [he]
      · have hlen : len = l.length := by
          have := congrArg List.length hl
          simp at this; omega
        by_cases h0 : len = 0
        · have : l = [] := List.length_eq_zero_iff.1 (by omega)
          subst this
          simp [he, hg, h0]
        · have h4 : off + len ≤ c.length := by omega
          rw [Nat.mul_one] at hl
          simp [he, hg, h0, h4, ← hl, unbytes_bytesV]
/-- New bytes of one's own; nothing else is changed. -/
def Fresh (H H' : AH) (v : V) (l : List UInt8) : Prop := ∃ F, Own H' v 1 (bytesV l) F ∧ Upd H H' [] ∧ ∀ j ∈ F, H.next ≤ j
/-- Bytes behind bytes. -/
theorem Own.appendB {P : Program} {H : AH} {t t2 : TypeId} (ha : App P t t2 1 1) {v x : V} {a b : List UInt8} {F : List Nat} (h : Own H v 1 (bytesV a) F) (hx : asource P H 1 x = some (bytesV b, b.length)) (hr : a.length + b.length ≤ 1000000000000) :
    ∃ v' H' F', aappend P H t t2 v x = some (v', H') ∧ Own H' v' 1 (bytesV (a ++ b)) F' ∧ Upd H H' F ∧ ∀ j ∈ F', j ∈ F ∨ H.next ≤ j := by
  have := h.append ha hx (by simp) (by simp [roomOk]; omega)
  simpa using this
/-- A byte behind bytes. -/
theorem Own.pushB {P : Program} {H : AH} {t e : TypeId} {v : V} {a : List UInt8} {F : List Nat} (ha : App P t t 1 1) (hq : qelem P t = some e) (hs : qsize P e = some 1) (hz : qzero P e = some (.i .u8 0)) (h : Own H v 1 (bytesV a) F) (n : Nat) (hn : n < 256) (hr : a.length + 1 ≤ 1000000000000) :
    ∃ H1 v' H' F', abuildSlice P H t 1 [(0, .i .u8 (n : Int))] = some (.sl (some (H.next, 0, 0)) 1 false, H1) ∧ aappend P H1 t t v (.sl (some (H.next, 0, 0)) 1 false) = some (v', H') ∧ Own H' v' 1 (bytesV (a ++ [UInt8.ofNat n])) F' ∧ Upd H H' F ∧ ∀ j ∈ F', j ∈ F ∨ H.next ≤ j := by
  rw [← bytesV_flat] at h
  have hx : byC (UInt8.ofNat n) = [.i .u8 (n : Int)] := by
    simp [byC, Nat.mod_eq_of_lt hn]
  have := h.pushR (f := byC) (x := .i .u8 (n : Int)) ha hq hs hz rfl rfl (by decide) (fun _ => rfl) (UInt8.ofNat n) (by rw [hx]; rfl) (by simp [roomOk]; omega)
  rw [bytesV_flat] at this
  exact this
theorem Fresh.trans {H H0 H' : AH} {v : V} {l : List UInt8} (h : Fresh H0 H' v l) (hu : Upd H H0 []) : Fresh H H' v l := by
  obtain ⟨F, h1, h2, h3⟩ := h
  exact ⟨F, h1, hu.trans h2 (by simp), fun j hj => by have := h3 j hj; have := hu.1; omega⟩
end Go.Abs
