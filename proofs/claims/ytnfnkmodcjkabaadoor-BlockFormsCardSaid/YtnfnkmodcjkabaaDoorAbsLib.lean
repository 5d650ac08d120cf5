/-
  Slices that are owned, what an operation leaves alone, maps with text keys.
-/
import Derived.Test.YtnfnkmodcjkabaaDoorAbsStep
set_option linter.unusedVariables false
set_option linter.unusedSimpArgs false
namespace Go.Abs
open Go Go.RowKit

/-- Of what stood before, only F was changed. -/
def Upd (H H' : AH) (F : List Nat) : Prop := H.next ≤ H'.next ∧ ∀ j, j < H.next → j ∉ F → H'.get j = H.get j
theorem Upd.refl (H : AH) (F : List Nat) : Upd H H F := ⟨Nat.le_refl _, fun _ _ _ => rfl⟩
theorem Upd.trans {H H' H'' : AH} {F G : List Nat} (h : Upd H H' F) (k : Upd H' H'' G) (hg : ∀ j ∈ G, j ∈ F ∨ H.next ≤ j) : Upd H H'' F :=
  ⟨Nat.le_trans h.1 k.1, fun j hj hn => by
    rw [k.2 j (Nat.lt_of_lt_of_le hj h.1) (fun hm => by rcases hg j hm with h1 | h1; exact hn h1; omega), h.2 j hj hn]⟩
theorem Upd.mono {H H' : AH} {F G : List Nat} (h : Upd H H' F) (hs : ∀ j ∈ F, j ∈ G) : Upd H H' G := ⟨h.1, fun j hj hn => h.2 j hj fun hm => hn (hs j hm)⟩
theorem Upd.new (H : AH) (o : O) (F : List Nat) : Upd H (H.new o) F := ⟨Nat.le_succ _, fun j hj _ => by rw [AH.get_new, if_neg (by omega)]⟩
theorem Upd.set (H : AH) (k : Nat) (o : O) {F : List Nat} (hk : k ∈ F) : Upd H (H.set k o) F := ⟨Nat.le_refl _, fun j hj hn => AH.get_set_ne fun e => hn (e ▸ hk)⟩
theorem Upd.keep {H H' : AH} {F : List Nat} (h : Upd H H' F) {j : Nat} {o : O} (hn : j ∉ F) (hg : H.get j = some o) : H'.get j = some o := by
  rw [h.2 j (AH.get_lt hg) hn, hg]
theorem Upd.ext {H H' : AH} (h : Upd H H' []) : H.ext H' := ⟨h.1, fun id o hg => h.keep (by simp) hg⟩
theorem ext_upd {H H' : AH} (h : H.ext H') (hn : ∀ j, j < H.next → ∃ o, H.get j = some o) (F : List Nat) : Upd H H' F := ⟨h.next, fun j hj _ => by
  obtain ⟨o, ho⟩ := hn j hj
  rw [ho, h.get _ _ ho]⟩

/-- A slice that is nobody else's: all of its block, nothing behind it. -/
def Own (H : AH) (v : V) (sz : Nat) (cs : List V) (F : List Nat) : Prop :=
  (∃ c, v = .sl none 0 c ∧ cs = [] ∧ F = []) ∨
  (∃ id g len, v = .sl (some (id, g, 0)) len false ∧ H.get id = some (.cells cs g false sz) ∧ cs.length = len * sz ∧ F = [id])
theorem Own.upd {H H' : AH} {v : V} {sz : Nat} {cs : List V} {F G : List Nat} (h : Own H v sz cs F) (hu : Upd H H' G) (hd : ∀ j ∈ F, j ∉ G) : Own H' v sz cs F := by
  rcases h with ⟨c, h1, h2, h3⟩ | ⟨id, g, len, h1, h2, h3, h4⟩
  · exact .inl ⟨c, h1, h2, h3⟩
  · subst h4
    exact .inr ⟨id, g, len, h1, hu.keep (hd id (by simp)) h2, h3, rfl⟩
theorem Own.lt {H : AH} {v : V} {sz : Nat} {cs : List V} {F : List Nat} (h : Own H v sz cs F) : ∀ j ∈ F, j < H.next := by
  rcases h with ⟨c, h1, h2, h3⟩ | ⟨id, g, len, h1, h2, h3, h4⟩
  · subst h3; simp
  · subst h4; intro j hj; simp at hj; subst hj; exact AH.get_lt h2
theorem Own.nil (H : AH) (sz : Nat) (c : Bool) : Own H (.sl none 0 c) sz [] [] := .inl ⟨c, rfl, rfl, rfl⟩

theorem Own.cells {H : AH} {v : V} {sz : Nat} {cs : List V} {F : List Nat} (h : Own H v sz cs F) : v.cells = some [v] := by
  rcases h with ⟨c, h1, h2, h3⟩ | ⟨id, g, len, h1, h2, h3, h4⟩ <;> subst h1 <;> rfl
theorem Own.len {P : Program} {t e : TypeId} {H H' : AH} {v : V} {sz : Nat} {cs : List V} {F : List Nat} (h : Own H v sz cs F) (hp : 0 < sz) (hq : qelem P t = some e) : alen P H' t v = some (.i .i64 (cs.length / sz : Nat)) := by
  rcases h with ⟨c, h1, h2, h3⟩ | ⟨id, g, len, h1, h2, h3, h4⟩
  · subst h1 h2; simp [alen, hq]
  · subst h1; simp only [alen, hq, h3, Nat.mul_div_cancel _ hp]

/-- A slice that can be read. -/
def Sl (H : AH) (v : V) (sz : Nat) (cs : List V) : Prop :=
  (∃ c, v = .sl none 0 c ∧ cs = []) ∨
  (∃ id g off len clip c ro esz, v = .sl (some (id, g, off)) len clip ∧ H.get id = some (.cells c g ro esz) ∧ off + len * sz ≤ c.length ∧ cs = (c.drop off).take (len * sz))
theorem Own.sl {H : AH} {v : V} {sz : Nat} {cs : List V} {F : List Nat} (h : Own H v sz cs F) : Sl H v sz cs := by
  rcases h with ⟨c, h1, h2, h3⟩ | ⟨id, g, len, h1, h2, h3, h4⟩
  · exact .inl ⟨c, h1, h2⟩
  · exact .inr ⟨id, g, 0, len, false, cs, false, sz, h1, h2, by omega, by simp [← h3]⟩
theorem Sl.asource {P : Program} {H : AH} {v : V} {sz : Nat} {cs : List V} (h : Sl H v sz cs) (hs : 0 < sz) : asource P H sz v = some (cs, cs.length / sz) := by
  rcases h with ⟨c, h1, h2⟩ | ⟨id, g, off, len, clip, c, ro, esz, h1, h2, h3, h4⟩
  · subst h1 h2; simp [Go.Abs.asource]
  · subst h1
    have hl : cs.length = len * sz := by rw [h4]; simp; omega
    have hd : cs.length / sz = len := by rw [hl]; exact Nat.mul_div_cancel _ hs
    simp only [Go.Abs.asource, h2]
    by_cases h0 : len = 0
    · subst h0; simp at hl; simp [hl]
    · simp only [h0, if_false]
      rw [if_pos ⟨trivial, h3⟩, hd, h4]

theorem Sl.len {P : Program} {t e : TypeId} {H H' : AH} {v : V} {sz : Nat} {cs : List V} (h : Sl H v sz cs) (hp : 0 < sz) (hq : qelem P t = some e) : alen P H' t v = some (.i .i64 (cs.length / sz : Nat)) := by
  rcases h with ⟨c, h1, h2⟩ | ⟨id, g, off, len, clip, c, ro, esz, h1, h2, h3, h4⟩
  · subst h1 h2; simp [alen, hq]
  · subst h1
    have hl : cs.length = len * sz := by rw [h4]; simp; omega
    simp only [alen, hq, hl, Nat.mul_div_cancel _ hp]
/-- One element of a slice: its place, and what lies there. -/
theorem Sl.at1 {P : Program} {t e : TypeId} {H : AH} {v : V} {cs : List V} (h : Sl H v 1 cs) (hq : qelem P t = some e) (hz : qsize P e = some 1) (ha : qagg P e = some false) {k : IntKind} {i : Int} (h0 : 0 ≤ i) (h1 : i < cs.length) :
    ∃ a, aindexAddr P t v (.i k i) = some a ∧ aload P H e a = cs[i.toNat]? := by
  rcases h with ⟨c, r1, r2⟩ | ⟨id, g, off, len, clip, c, ro, esz, r1, r2, r3, r4⟩
  · subst r2; simp at h1; omega
  · subst r1
    have hl : cs.length = len := by rw [r4]; simp; omega
    refine ⟨.p (some (id, g, off + i.toNat * 1)), by simp only [aindexAddr, hq, hz]; rw [if_pos ⟨h0, by omega⟩], ?_⟩
    simp only [aload, r2, if_true, ha, hz]
    rw [r4, List.getElem?_take, if_pos (by omega), List.getElem?_drop]
    simp
/-- What append asks of the types. -/
structure App (P : Program) (t t2 : TypeId) (sz bytes : Nat) : Prop where
  ok : ∃ e z d, qelem P t = some e ∧ qsize P e = some sz ∧ qbytes P e = some bytes ∧ qzero P e = some z ∧ P.underlying t2 = some d ∧ descSrc d = true ∧ z.cells.map List.length = some sz
  pos : 0 < sz
theorem App.mk' {P : Program} {t t2 : TypeId} {sz bytes : Nat} {e : TypeId} {z : V} (h1 : qelem P t = some e) (h2 : qsize P e = some sz) (h3 : qbytes P e = some bytes) (h4 : qzero P e = some z) (h5 : qsrc P t2 = true) (h6 : z.cells.map List.length = some sz) (h7 : 0 < sz) : App P t t2 sz bytes := by
  unfold qsrc at h5
  cases hu : P.underlying t2 with
  | none => simp [hu] at h5
  | some d => exact ⟨⟨e, z, d, h1, h2, h3, h4, hu, by simpa [hu] using h5, h6⟩, h7⟩

/-- Append to a slice that is owned. -/
theorem Own.append {P : Program} {H : AH} {t t2 : TypeId} {sz bytes : Nat} (ha : App P t t2 sz bytes) {v x : V} {cs new : List V} {F : List Nat} {n : Nat} (h : Own H v sz cs F) (hx : asource P H sz x = some (new, n)) (hn : new.length = n * sz) (hr : roomOk (cs.length / sz + n) bytes = true) :
    ∃ v' H' F', aappend P H t t2 v x = some (v', H') ∧ Own H' v' sz (cs ++ new) F' ∧ Upd H H' F ∧ ∀ j ∈ F', j ∈ F ∨ H.next ≤ j := by
  obtain ⟨⟨e, z, d, h1, h2, h3, h4, h5, h6, h7⟩, hp⟩ := ha
  have hc : 0 < sz ∧ descSrc d = true ∧ z.cells.map List.length = some sz := ⟨hp, h6, h7⟩
  by_cases h0 : n = 0
  · subst h0
    have : new = [] := List.eq_nil_of_length_eq_zero (by simpa using hn)
    subst this
    rw [List.append_nil]
    rcases h with ⟨c, r1, r2, r3⟩ | ⟨id, g, len, r1, r2, r3, r4⟩
    · subst r1
      exact ⟨_, H, F, by simp only [aappend, h1, h2, h3, h4, h5, hx, if_pos hc, if_true], .inl ⟨c, rfl, r2, r3⟩, Upd.refl H F, fun j hj => .inl hj⟩
    · subst r1
      exact ⟨_, H, F, by simp only [aappend, h1, h2, h3, h4, h5, hx, if_pos hc, if_true], .inr ⟨id, g, len, rfl, r2, r3, r4⟩, Upd.refl H F, fun j hj => .inl hj⟩
  · rcases h with ⟨c, r1, r2, r3⟩ | ⟨id, g, len, r1, r2, r3, r4⟩
    · subst r1 r2 r3
      simp only [List.length_nil, Nat.zero_div, Nat.zero_add] at hr
      exact ⟨.sl (some (H.next, 0, 0)) n false, H.new (.cells new 0 false sz), [H.next], by simp only [aappend, h1, h2, h3, h4, h5, hx, if_pos hc, h0, if_false, hr, if_true],
        .inr ⟨H.next, 0, n, rfl, AH.get_new_same _ _, by simpa using hn, rfl⟩, Upd.new H _ _, fun j hj => .inr (by simp at hj; omega)⟩
    · subst r1 r4
      have hd : cs.length / sz = len := by rw [r3]; exact Nat.mul_div_cancel _ hp
      rw [hd] at hr
      have hnn : ¬ (0 + (len + n) * sz ≤ cs.length) := by
        rw [r3, Nat.add_mul]
        have : 0 < n * sz := Nat.mul_pos (by omega) hp
        omega
      have hcc : g = g ∧ 0 + len * sz ≤ cs.length ∧ roomOk (len + n) bytes = true := ⟨rfl, by omega, hr⟩
      refine ⟨.sl (some (id, g + 1, 0)) (len + n) false, H.set id (.cells ((cs.drop 0).take (len * sz) ++ new) (g + 1) false sz), [id], by
        simp only [aappend, h1, h2, h3, h4, h5, hx, if_pos hc, h0, if_false, r2, if_pos hcc, Bool.false_eq_true, and_self, if_true, hnn]
        rw [if_pos ⟨trivial, hcc.2⟩], .inr ⟨id, g + 1, len + n, rfl, ?_, ?_, rfl⟩, Upd.set H _ _ (by simp), fun j hj => .inl hj⟩
      · rw [AH.get_set_same (AH.get_lt r2)]
        simp [← r3]
      · rw [List.length_append, r3, hn, Nat.add_mul]

/-! Records in slices. -/
theorem flatten_at {sz : Nat} : ∀ (ls : List (List V)) (i : Nat) (l : List V), (∀ l ∈ ls, l.length = sz) → ls[i]? = some l → (ls.flatten.drop (i * sz)).take sz = l
  | [], i, l, h, hi => by simp at hi
  | x :: ls, i, l, h, hi => by
    have hx := h x (by simp)
    cases i with
    | zero => simp at hi; subst hi; simp [← hx]
    | succ i =>
      simp at hi
      rw [List.flatten_cons, Nat.add_mul, Nat.one_mul, Nat.add_comm, ← List.drop_drop, ← hx, List.drop_left, hx]
      exact flatten_at ls i l (fun l hl => h l (by simp [hl])) hi
/-- 'a' points at cells 'l'. -/
def Rec (H : AH) (a : V) (l : List V) : Prop := ∃ id g off c ro esz, a = .p (some (id, g, off)) ∧ H.get id = some (.cells c g ro esz) ∧ (c.drop off).take l.length = l ∧ off + l.length ≤ c.length
theorem Rec.fld {P : Program} {H : AH} {a : V} {l : List V} (h : Rec H a l) {t ft : TypeId} {f o : Nat} {b : Bool} {x : V} (hq : qfield P t f = some (o, 1, b)) (ha : qagg P ft = some false) (hz : qsize P ft = some 1) (hx : l[o]? = some x) :
    ∃ a', afieldAddr P t f a = some a' ∧ aload P H ft a' = some x := by
  obtain ⟨id, g, off, c, ro, esz, rfl, h1, h2, h3⟩ := h
  refine ⟨.p (some (id, g, off + o)), by simp [afieldAddr, hq], ?_⟩
  simp only [aload, h1, if_true, ha, hz]
  have ho : o < l.length := (List.getElem?_eq_some_iff.1 hx).1
  rw [← h2, List.getElem?_take, if_pos ho, List.getElem?_drop] at hx
  exact hx
theorem Rec.load {P : Program} {H : AH} {a : V} {l : List V} (h : Rec H a l) {t : TypeId} (ha : qagg P t = some true) (hz : qsize P t = some l.length) : aload P H t a = some (.agg l) := by
  obtain ⟨id, g, off, c, ro, esz, rfl, h1, h2, h3⟩ := h
  simp only [aload, h1, if_true, ha, hz]
  rw [if_pos h3, h2]
/-- A slice of records. -/
def SlR (H : AH) (v : V) (sz : Nat) (ls : List (List V)) : Prop := Sl H v sz ls.flatten ∧ ∀ l ∈ ls, l.length = sz
theorem flatten_len {sz : Nat} : ∀ (ls : List (List V)), (∀ l ∈ ls, l.length = sz) → ls.flatten.length = ls.length * sz
  | [], h => by simp
  | x :: ls, h => by
    rw [List.flatten_cons, List.length_append, h x (by simp), flatten_len ls (fun l hl => h l (by simp [hl])), List.length_cons, Nat.add_mul]
    omega
theorem SlR.len {P : Program} {t e : TypeId} {H H' : AH} {v : V} {sz : Nat} {ls : List (List V)} (h : SlR H v sz ls) (hp : 0 < sz) (hq : qelem P t = some e) : alen P H' t v = some (.i .i64 ls.length) := by
  rw [h.1.len hp hq, flatten_len ls h.2, Nat.mul_div_cancel _ hp]
theorem SlR.at {P : Program} {t e : TypeId} {H : AH} {v : V} {sz : Nat} (hp : 0 < sz) {ls : List (List V)} (h : SlR H v sz ls) (hq : qelem P t = some e) (hz : qsize P e = some sz) {k : IntKind} {i : Int} (h0 : 0 ≤ i) {l : List V} (hl : ls[i.toNat]? = some l) :
    ∃ a, aindexAddr P t v (.i k i) = some a ∧ Rec H a l := by
  have hlt : i.toNat < ls.length := (List.getElem?_eq_some_iff.1 hl).1
  have hll : l.length = sz := h.2 l (List.mem_of_getElem? hl)
  have hfl := flatten_len ls h.2
  have hfa := flatten_at ls i.toNat l h.2 hl
  rcases h.1 with ⟨c, r1, r2⟩ | ⟨id, g, off, len, clip, c, ro, esz, r1, r2, r3, r4⟩
  · rw [r2] at hfl
    have h0 : ls.length * sz = 0 := hfl.symm
    rcases Nat.mul_eq_zero.1 h0 with h | h
    · omega
    · omega
  · subst r1
    have hlen : ls.length * sz = len * sz := by rw [← hfl, r4]; simp; omega
    have hle : ls.length = len := Nat.eq_of_mul_eq_mul_right hp hlen
    have hm : i.toNat * sz + sz ≤ len * sz := by
      have := Nat.mul_le_mul_right sz (show i.toNat + 1 ≤ len by omega)
      rw [Nat.add_mul] at this; omega
    refine ⟨.p (some (id, g, off + i.toNat * sz)), by simp only [aindexAddr, hq, hz]; rw [if_pos ⟨h0, by omega⟩], id, g, off + i.toNat * sz, c, ro, esz, rfl, r2, ?_, by omega⟩
    rw [hll, ← hfa, r4, List.drop_take, List.take_take, List.drop_drop]
    rw [Nat.min_eq_left (by omega)]
theorem SlR.upd {H H' : AH} {v : V} {sz : Nat} {ls : List (List V)} {F : List Nat} (h : SlR H v sz ls) (hu : Upd H H' F) (hd : ∀ id g off len c, v = .sl (some (id, g, off)) len c → id ∉ F) : SlR H' v sz ls := by
  refine ⟨?_, h.2⟩
  rcases h.1 with ⟨c, r1, r2⟩ | ⟨id, g, off, len, clip, c, ro, esz, r1, r2, r3, r4⟩
  · exact .inl ⟨c, r1, r2⟩
  · exact .inr ⟨id, g, off, len, clip, c, ro, esz, r1, hu.keep (hd _ _ _ _ _ r1) r2, r3, r4⟩
theorem Sl.ext {H H' : AH} {v : V} {sz : Nat} {cs : List V} (h : Sl H v sz cs) (hx : H.ext H') : Sl H' v sz cs := by
  rcases h with ⟨c, r1, r2⟩ | ⟨id, g, off, len, clip, c, ro, esz, r1, r2, r3, r4⟩
  · exact .inl ⟨c, r1, r2⟩
  · exact .inr ⟨id, g, off, len, clip, c, ro, esz, r1, hx.get _ _ r2, r3, r4⟩
theorem SlR.ext {H H' : AH} {v : V} {sz : Nat} {ls : List (List V)} (h : SlR H v sz ls) (hx : H.ext H') : SlR H' v sz ls := ⟨h.1.ext hx, h.2⟩

/-- An argument that is a slice. -/
theorem TV.slice {P : Program} {H : AH} {n : Nat} {t e : TypeId} {l : List V} (h : TV P H (n + 1) t l) (hu : P.underlying t = some (.slice e)) {sz : Nat} (hs : P.cellsOf e = sz) :
    ∃ v ls, l = [v] ∧ (∀ l, v ≠ .agg l) ∧ SlR H v sz ls ∧ (∀ l ∈ ls, TV P H n e l) ∧ ls.length * P.bytesOf e ≤ 140737488351232 := by
  unfold TV at h
  rw [hu] at h
  dsimp only at h
  rw [hs] at h
  rcases h with rfl | ⟨id, len, c, rfl, h1, h2, h3, h4⟩
  · exact ⟨_, [], rfl, (fun _ h => by cases h), ⟨.inl ⟨_, rfl, rfl⟩, by simp⟩, by simp, by simp⟩
  · have hl : ∀ i, i < len → ((c.drop (i * sz)).take sz).length = sz := fun i hi => by
      have := Nat.mul_le_mul_right sz (show i + 1 ≤ len by omega)
      rw [Nat.add_mul] at this
      simp; omega
    have hfl : ∀ k, k ≤ len → ((List.range k).map fun i => (c.drop (i * sz)).take sz).flatten = c.take (k * sz) := by
      intro k
      induction k with
      | zero => simp
      | succ k ih =>
        intro hk
        rw [List.range_succ, List.map_append, List.flatten_append, ih (by omega), Nat.add_mul, Nat.one_mul, List.take_add]
        simp
    refine ⟨_, (List.range len).map fun i => (c.drop (i * sz)).take sz, rfl, (fun _ h => by cases h), ⟨.inr ⟨id, 0, 0, len, false, c, true, sz, rfl, h1, by omega, ?_⟩, ?_⟩, ?_, by simpa using h3⟩
    · rw [hfl len (Nat.le_refl _)]; simp
    · intro l hm
      simp at hm
      obtain ⟨i, hi, rfl⟩ := hm
      exact hl i hi
    · intro l hm
      simp at hm
      obtain ⟨i, hi, rfl⟩ := hm
      exact h4 i hi

/-! Maps with text keys. -/
theorem afind_out {P : Program} {t : TypeId} (h : qstr P t = true) {s : List UInt8} : ∀ (es : List (V × V × Nat)) (ks : List (List UInt8)) (i : Nat), es.map (·.1) = ks.map .s → s ∉ ks → afind P t (.s s) es i = some none
  | [], ks, i, hk, hs => rfl
  | (k, v, c) :: es, ks, i, hk, hs => by
    cases ks with
    | nil => simp at hk
    | cons s' ks =>
      simp at hk hs
      obtain ⟨rfl, hk⟩ := hk
      have e1 : (s == s') = false := by simpa using hs.1
      simp only [afind, keq_s h, e1]
      exact afind_out h es ks (i + 1) hk hs.2
theorem afind_in {P : Program} {t : TypeId} (h : qstr P t = true) {s : List UInt8} : ∀ (es : List (V × V × Nat)) (ks : List (List UInt8)) (i : Nat), es.map (·.1) = ks.map .s → s ∈ ks → ∃ e, es[ks.idxOf s]? = some e ∧ afind P t (.s s) es i = some (some (i + ks.idxOf s, e.2.1))
  | [], ks, i, hk, hs => by cases ks with | nil => cases hs | cons _ _ => simp at hk
  | (k, v, c) :: es, ks, i, hk, hs => by
    cases ks with
    | nil => simp at hk
    | cons s' ks =>
      simp at hk
      obtain ⟨rfl, hk⟩ := hk
      by_cases e : s' = s
      · subst e
        exact ⟨(.s s', v, c), by simp, by simp [afind, keq_s h]⟩
      · have hs' : s ∈ ks := by
          rcases List.mem_cons.1 hs with e' | hs'
          · exact absurd e'.symm e
          · exact hs'
        have e1 : (s == s') = false := by simpa using fun h => e h.symm
        have e2 : (s' == s) = false := by simpa using e
        obtain ⟨x, hx, hf⟩ := afind_in h es ks (i + 1) hk hs'
        refine ⟨x, by simp [List.idxOf_cons, e2, hx], ?_⟩
        simp only [afind, keq_s h, e1, hf, List.idxOf_cons, e2]
        simp [Nat.add_comm, Nat.add_left_comm]
end Go.Abs
