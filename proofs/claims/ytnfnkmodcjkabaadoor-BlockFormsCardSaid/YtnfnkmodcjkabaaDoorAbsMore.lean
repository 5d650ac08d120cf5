/-
  Slices that are read: records, parts, and what calls leave behind.
-/
import Derived.Test.YtnfnkmodcjkabaaDoorAbsBits
import Derived.Test.YtnfnkmodcjkabaaDoorAbsTop
set_option linter.unusedVariables false
set_option linter.unusedSimpArgs false
namespace Go.Abs
open Go Go.RowKit

/-- A slice of records that can be read (and cut). -/
def RS (H : AH) (v : V) (sz : Nat) (ls : List (List V)) : Prop :=
  (∀ l ∈ ls, l.length = sz) ∧ ((∃ c, v = .sl none 0 c ∧ ls = []) ∨
    (∃ id g off c ro esz, v = .sl (some (id, g, off)) ls.length false ∧ H.get id = some (.cells c g ro esz) ∧ (esz = 0 ∨ esz = sz) ∧ off + ls.length * sz ≤ c.length ∧ (c.drop off).take (ls.length * sz) = ls.flatten))
theorem RS.nil (H : AH) (sz : Nat) (c : Bool) : RS H (.sl none 0 c) sz [] := ⟨by simp, .inl ⟨c, rfl, rfl⟩⟩
theorem RS.slr {H : AH} {v : V} {sz : Nat} {ls : List (List V)} (h : RS H v sz ls) : SlR H v sz ls := by
  refine ⟨?_, h.1⟩
  rcases h.2 with ⟨c, r1, r2⟩ | ⟨id, g, off, c, ro, esz, r1, r2, r3, r4, r5⟩
  · exact .inl ⟨c, r1, by simp [r2]⟩
  · exact .inr ⟨id, g, off, ls.length, false, c, ro, esz, r1, r2, r4, r5.symm⟩
theorem RS.cells {H : AH} {v : V} {sz : Nat} {ls : List (List V)} (h : RS H v sz ls) : v.cells = some [v] := by
  rcases h.2 with ⟨c, r1, r2⟩ | ⟨id, g, off, c, ro, esz, r1, _⟩ <;> subst r1 <;> rfl
theorem RS.lt {H : AH} {v : V} {sz : Nat} {ls : List (List V)} (h : RS H v sz ls) {n : Nat} (hn : H.next ≤ n) : V.lt n v = true := by
  rcases h.2 with ⟨c, r1, r2⟩ | ⟨id, g, off, c, ro, esz, r1, r2, _⟩
  · subst r1; rfl
  · subst r1; have := AH.get_lt r2; simp; omega
theorem RS.len {P : Program} {t e : TypeId} {H H' : AH} {v : V} {sz : Nat} {ls : List (List V)} (h : RS H v sz ls) (hq : qelem P t = some e) : alen P H' t v = some (.i .i64 ls.length) := by
  rcases h.2 with ⟨c, r1, r2⟩ | ⟨id, g, off, c, ro, esz, r1, _⟩
  · subst r1 r2; simp [alen, hq]
  · subst r1; simp [alen, hq]
theorem RS.same {H H' : AH} {v : V} {sz : Nat} {ls : List (List V)} (h : RS H v sz ls) (hx : ∀ j, j < H.next → H'.get j = H.get j) : RS H' v sz ls := by
  refine ⟨h.1, ?_⟩
  rcases h.2 with ⟨c, r1, r2⟩ | ⟨id, g, off, c, ro, esz, r1, r2, r⟩
  · exact .inl ⟨c, r1, r2⟩
  · exact .inr ⟨id, g, off, c, ro, esz, r1, by rw [hx id (AH.get_lt r2)]; exact r2, r⟩
theorem RS.ext {H H' : AH} {v : V} {sz : Nat} {ls : List (List V)} (h : RS H v sz ls) (hx : H.ext H') : RS H' v sz ls := by
  refine ⟨h.1, ?_⟩
  rcases h.2 with ⟨c, r1, r2⟩ | ⟨id, g, off, c, ro, esz, r1, r2, r⟩
  · exact .inl ⟨c, r1, r2⟩
  · exact .inr ⟨id, g, off, c, ro, esz, r1, hx.get _ _ r2, r⟩
theorem RS.upd {H H' : AH} {v : V} {sz : Nat} {ls : List (List V)} (h : RS H v sz ls) (hx : Upd H H' []) : RS H' v sz ls := h.ext hx.ext
/-- One record. -/
theorem RS.at {P : Program} {t e : TypeId} {H : AH} {v : V} {sz : Nat} (hp : 0 < sz) {ls : List (List V)} (h : RS H v sz ls) (hq : qelem P t = some e) (hz : qsize P e = some sz) {k : IntKind} (i : Nat) {l : List V} (hl : ls[i]? = some l) :
    ∃ a, aindexAddr P t v (.i k i) = some a ∧ Rec H a l := h.slr.at hp hq hz (by omega) (by simpa using hl)
/-- One element of one cell. -/
theorem RS.at1 {P : Program} {t e : TypeId} {H : AH} {v : V} {ls : List (List V)} (h : RS H v 1 ls) (hq : qelem P t = some e) (hz : qsize P e = some 1) (ha : qagg P e = some false) {k : IntKind} (i : Nat) {x : V} (hl : ls[i]? = some [x]) :
    ∃ a, aindexAddr P t v (.i k i) = some a ∧ aload P H e a = some x := by
  obtain ⟨a, h1, id, g, off, c, ro, esz, rfl, h2, h3, h4⟩ := h.at (by omega) hq hz (k := k) i hl
  refine ⟨_, h1, ?_⟩
  simp only [aload, h2, if_true, ha, hz]
  have : ((c.drop off).take 1)[0]? = some x := by rw [show (1 : Nat) = [x].length from rfl, h3]; rfl
  simpa [List.getElem?_take, List.getElem?_drop] using this
theorem flatten_drop {sz : Nat} : ∀ (ls : List (List V)) (k : Nat), (∀ l ∈ ls, l.length = sz) → k ≤ ls.length → ls.flatten.drop (k * sz) = (ls.drop k).flatten
  | ls, 0, h, _ => by simp
  | [], k + 1, h, hk => by simp at hk
  | l :: ls, k + 1, h, hk => by
    have hl := h l (by simp)
    rw [List.flatten_cons, Nat.add_mul, Nat.one_mul, Nat.add_comm, ← List.drop_drop, ← hl, List.drop_left, hl]
    simpa using flatten_drop ls k (fun l hl => h l (by simp [hl])) (by simp at hk; omega)
theorem flatten_take {sz : Nat} : ∀ (ls : List (List V)) (k : Nat), (∀ l ∈ ls, l.length = sz) → k ≤ ls.length → ls.flatten.take (k * sz) = (ls.take k).flatten
  | ls, 0, h, _ => by simp
  | [], k + 1, h, hk => by simp at hk
  | l :: ls, k + 1, h, hk => by
    have hl := h l (by simp)
    have e : (k + 1) * sz = l.length + k * sz := by rw [Nat.add_mul, hl]; omega
    rw [List.flatten_cons, e, List.take_length_add_append]
    simp only [List.take_succ_cons, List.flatten_cons]
    rw [flatten_take ls k (fun l hl => h l (by simp [hl])) (by simp at hk; omega)]
theorem RS.slice {P : Program} {t e : TypeId} {H : AH} {v : V} {sz : Nat} {ls : List (List V)} (h : RS H v sz ls) (hq : qelem P t = some e) (hz : qsize P e = some sz) {lo hi : Option V} {k m : Nat} (h1 : abound hi ls.length ls.length = some m) (h2 : abound lo 0 m = some k) (hkm : k ≤ m) (hm : m ≤ ls.length) :
    ∃ v', aslice P H t v lo hi none = some v' ∧ RS H v' sz ((ls.take m).drop k) := by
  have hlen : ((ls.take m).drop k).length = m - k := by simp; omega
  have hall : ∀ l ∈ (ls.take m).drop k, l.length = sz := fun l hl => h.1 l (List.mem_of_mem_take (List.mem_of_mem_drop hl))
  rcases h.2 with ⟨c, r1, r2⟩ | ⟨id, g, off, c, ro, esz, r1, r2, r3, r4, r5⟩
  · subst r1 r2
    have e0 : m = 0 := by simpa using hm
    subst e0
    have e1 : k = 0 := by omega
    subst e1
    exact ⟨.sl none 0 c, by simp [aslice, hq, hz, abound] at h1 h2 ⊢; simp [h1, h2], by simpa using RS.nil H sz c⟩
  · subst r1
    have hle : off + m * sz ≤ c.length := by have := Nat.mul_le_mul_right sz hm; omega
    refine ⟨.sl (some (id, g, off + k * sz)) (m - k) false, ?_, hall, .inr ⟨id, g, off + k * sz, c, ro, esz, by rw [hlen], r2, r3, ?_, ?_⟩⟩
    · simp only [aslice, hq, hz, r2]
      rw [if_pos ⟨trivial, r3⟩]
      have h0 : abound none ls.length ls.length = some ls.length := rfl
      simp [h0, h1, h2, hle]
    · rw [hlen]
      have : k * sz + (m - k) * sz = m * sz := by rw [← Nat.add_mul]; congr 1; omega
      omega
    · rw [hlen]
      have hd : k * sz + (m - k) * sz = m * sz := by rw [← Nat.add_mul]; congr 1; omega
      have hm' := Nat.mul_le_mul_right sz hm
      have e1 : (ls.take m).flatten = (c.drop off).take (m * sz) := by
        rw [← flatten_take ls m h.1 hm, ← r5, List.take_take, Nat.min_eq_left hm']
      rw [← flatten_drop (ls.take m) k (fun l hl => h.1 l (List.mem_of_mem_take hl)) (by simp; omega), e1, List.drop_take, List.drop_drop]
      congr 1
      omega
theorem RS.source {P : Program} {H : AH} {v : V} {sz : Nat} {ls : List (List V)} (h : RS H v sz ls) (hs : 0 < sz) : asource P H sz v = some (ls.flatten, ls.length) := by
  have := h.slr.1.asource (P := P) hs
  rw [flatten_len ls h.1, Nat.mul_div_cancel _ hs] at this
  exact this
theorem TV.rs {P : Program} {H : AH} {n : Nat} {t e : TypeId} {l : List V} (h : TV P H (n + 1) t l) (hu : P.underlying t = some (.slice e)) {sz : Nat} (hs : P.cellsOf e = sz) :
    ∃ v ls, l = [v] ∧ (∀ l, v ≠ .agg l) ∧ RS H v sz ls ∧ (∀ l ∈ ls, TV P H n e l) ∧ ls.length * P.bytesOf e ≤ 140737488351232 := by
  unfold TV at h
  rw [hu] at h
  dsimp only at h
  rw [hs] at h
  rcases h with rfl | ⟨id, len, c, rfl, h1, h2, h3, h4⟩
  · exact ⟨_, [], rfl, (fun _ h => by cases h), RS.nil H sz false, by simp, by simp⟩
  · have hl : ∀ i, i < len → ((c.drop (i * sz)).take sz).length = sz := fun i hi => by
      have := Nat.mul_le_mul_right sz (show i + 1 ≤ len by omega)
      rw [Nat.add_mul] at this
      simp; omega
    have hfl : ∀ k, k ≤ len → ((List.range k).map fun i => (c.drop (i * sz)).take sz).flatten = c.take (k * sz) := by
      intro k
      induction k with
      | zero => simp
      | succ k ih =>
        intro hk
        rw [List.range_succ, List.map_append, List.flatten_append, ih (by omega), Nat.add_mul, Nat.one_mul, List.take_add]
        simp
    refine ⟨_, (List.range len).map fun i => (c.drop (i * sz)).take sz, rfl, (fun _ h => by cases h), ⟨?_, .inr ⟨id, 0, 0, c, true, sz, by simp, h1, .inr rfl, by simp; omega, ?_⟩⟩, ?_, by simpa using h3⟩
    · intro l hm
      simp at hm
      obtain ⟨i, hi, rfl⟩ := hm
      exact hl i hi
    · rw [hfl len (Nat.le_refl _)]; simp
    · intro l hm
      simp at hm
      obtain ⟨i, hi, rfl⟩ := hm
      exact h4 i hi
/-- An argument that is a slice. -/
theorem TVal.rs {P : Program} {H : AH} {t e : TypeId} {v : V} (h : TVal P H t v) (hu : P.underlying t = some (.slice e)) {sz : Nat} (hs : P.cellsOf e = sz) :
    ∃ ls, RS H v sz ls ∧ (∀ l ∈ ls, TV P H 11 e l) ∧ ls.length * P.bytesOf e ≤ 140737488351232 := by
  obtain ⟨v', ls, h1, h2, h3, h4, h5⟩ := TV.rs (h.leaf (by simp [qagg, hu, descAgg])) hu hs
  obtain rfl : v = v' := by simpa using h1
  exact ⟨ls, h3, h4, h5⟩

theorem Own.rs {H : AH} {v : V} {sz : Nat} {ls : List (List V)} {F : List Nat} (h : Own H v sz ls.flatten F) (hp : 0 < sz) (hl : ∀ l ∈ ls, l.length = sz) : RS H v sz ls := by
  have hf := flatten_len ls hl
  refine ⟨hl, ?_⟩
  rcases h with ⟨c, h1, h2, h3⟩ | ⟨id, g, len, h1, h2, h3, h4⟩
  · refine .inl ⟨c, h1, ?_⟩
    rw [h2] at hf
    cases ls with
    | nil => rfl
    | cons x ls => simp [Nat.add_mul] at hf; omega
  · have e : len = ls.length := Nat.eq_of_mul_eq_mul_right hp (h3.symm.trans hf)
    subst e
    exact .inr ⟨id, g, 0, ls.flatten, false, sz, h1, h2, .inr rfl, by omega, by rw [List.drop_zero, ← h3]; exact List.take_length ..⟩
/-- An empty slice of one's own, just made. -/
theorem Own.made (H : AH) (sz : Nat) : Own (H.new (.cells [] 0 false sz)) (.sl (some (H.next, 0, 0)) 0 false) sz [] [H.next] :=
  .inr ⟨H.next, 0, 0, rfl, AH.get_new_same .., by simp, rfl⟩

/-! A variable of one's own: made, and written. -/
theorem made_get (H : AH) (z c : List V) (g : Nat) (esz : Nat) : ((H.new (.cells z 0 false 0)).set H.next (.cells c g false esz)).get H.next = some (.cells c g false esz) := by
  rw [AH.get_set, if_pos rfl, if_pos (by simp)]
theorem made_old (H : AH) (z c : List V) (g : Nat) (esz : Nat) {j : Nat} (hj : j < H.next) : ((H.new (.cells z 0 false 0)).set H.next (.cells c g false esz)).get j = H.get j := by
  rw [AH.get_set, if_neg (by omega), AH.get_new, if_neg (by omega)]
theorem box_get {H : AH} {id g n : Nat} {c : List V} {ro : Bool} {esz : Nat} (h : H.get id = some (.cells c g ro esz)) {P : Program} {t : TypeId} (ha : qagg P t = some true) (hz : qsize P t = some n) (hn : c.length = n) : aload P H t (.p (some (id, g, 0))) = some (.agg c) := by
  simp [aload, h, ha, hz, hn.symm]
theorem cell_get {H : AH} {id g : Nat} {c : List V} {ro : Bool} {esz : Nat} (h : H.get id = some (.cells c g ro esz)) {P : Program} {t : TypeId} {n : Nat} (ha : qagg P t = some false) (hz : qsize P t = some n) (i : Nat) : aload P H t (.p (some (id, g, i))) = c[i]? := by
  simp [aload, h, ha, hz]
end Go.Abs
