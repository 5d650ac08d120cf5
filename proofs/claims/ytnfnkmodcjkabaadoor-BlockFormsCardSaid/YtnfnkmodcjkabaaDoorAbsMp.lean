/-
  Maps whose keys and contents are told by plain data.
-/
import Derived.Test.YtnfnkmodcjkabaaDoorAbsMore
set_option linter.unusedVariables false
set_option linter.unusedSimpArgs false
set_option linter.unusedSectionVars false
namespace Go.Abs
open Go Go.RowKit
section
variable {α β : Type}
/-- The entries of a map as the machine has them. -/
def ents (ke : α → V) (ve : β → V) (es : List (α × β × Nat)) : List (V × V × Nat) := es.map fun e => (ke e.1, ve e.2.1, e.2.2)
@[simp] theorem ents_len (ke : α → V) (ve : β → V) (es : List (α × β × Nat)) : (ents ke ve es).length = es.length := by simp [ents]
/-- How many were not seen. -/
def unseen (es : List (α × β × Nat)) (seen : List Nat) : Nat := (es.filter fun e => !decide (e.2.2 ∈ seen)).length
theorem unseen_lt {es : List (α × β × Nat)} {seen : List Nat} {e : α × β × Nat} (he : e ∈ es) (hs : e.2.2 ∉ seen) : unseen es (seen ++ [e.2.2]) < unseen es seen := by
  unfold unseen
  have h1 : (es.filter fun x => !decide (x.2.2 ∈ seen ++ [e.2.2])) = (es.filter fun x => !decide (x.2.2 ∈ seen)).filter fun x => !decide (x.2.2 = e.2.2) := by
    rw [List.filter_filter]
    apply List.filter_congr
    intro x _
    by_cases h : x.2.2 ∈ seen <;> by_cases h' : x.2.2 = e.2.2 <;> simp [h, h']
  rw [h1, List.length_filter_lt_length_iff_exists]
  exact ⟨e, List.mem_filter.2 ⟨he, by simp [hs]⟩, by simp⟩
/-- What is left behind so many rounds. -/
def leftOf (es : List (α × β × Nat)) (seen : List Nat) (p : α → Bool) : List (α × β × Nat) := es.filter fun e => !(decide (e.2.2 ∈ seen) && p e.1)
theorem leftOf_nil (es : List (α × β × Nat)) (p : α → Bool) : leftOf es [] p = es := by
  unfold leftOf; rw [List.filter_eq_self]; intro e _; simp
variable [DecidableEq α]
def mfind : List (α × β × Nat) → α → Option (Nat × β)
  | [], _ => none
  | e :: es, k => if k = e.1 then some (0, e.2.1) else (mfind es k).map fun x => (x.1 + 1, x.2)
def mget (es : List (α × β × Nat)) (k : α) : Option β := (mfind es k).map (·.2)
/-- What a put makes of the entries, and of the clock. -/
def mput (es : List (α × β × Nat)) (k : α) (v : β) (clk : Nat) : List (α × β × Nat) :=
  match mfind es k with
  | some (i, _) => es.modify i fun e => (k, v, e.2.2)
  | none => es ++ [(k, v, clk)]
def mclk (es : List (α × β × Nat)) (k : α) (clk : Nat) : Nat := if (mget es k).isSome then clk else clk + 1

theorem mfind_get : ∀ {es : List (α × β × Nat)} {k : α} {i : Nat} {b : β}, mfind es k = some (i, b) → ∃ s, es[i]? = some (k, b, s)
  | [], k, i, b, h => by cases h
  | e :: es, k, i, b, h => by
    simp only [mfind] at h
    split at h
    · rename_i he; cases h; exact ⟨e.2.2, by simp [he]⟩
    · simp only [Option.map_eq_some_iff, Prod.mk.injEq, Prod.exists] at h
      obtain ⟨j, b', h1, rfl, rfl⟩ := h
      obtain ⟨s, hs⟩ := mfind_get h1
      exact ⟨s, by simpa using hs⟩
theorem mget_nil (k : α) : mget ([] : List (α × β × Nat)) k = none := rfl
theorem mget_cons (e : α × β × Nat) (es : List (α × β × Nat)) (k : α) : mget (e :: es) k = if k = e.1 then some e.2.1 else mget es k := by
  unfold mget
  simp only [mfind]
  split
  · rfl
  · cases mfind es k <;> rfl
theorem mget_append (es es' : List (α × β × Nat)) (k : α) : mget (es ++ es') k = (mget es k).or (mget es' k) := by
  induction es with
  | nil => simp [mget_nil]
  | cons e es ih =>
    rw [List.cons_append, mget_cons, mget_cons, ih]
    split <;> simp
theorem mget_modify : ∀ {es : List (α × β × Nat)} {k : α} {i : Nat} {b v : β}, mfind es k = some (i, b) → ∀ k', mget (es.modify i fun e => (k, v, e.2.2)) k' = if k' = k then some v else mget es k'
  | [], k, i, b, v, h, k' => by cases h
  | e :: es, k, i, b, v, h, k' => by
    simp only [mfind] at h
    split at h
    · rename_i he
      cases h
      rw [List.modify_zero_cons, mget_cons, mget_cons, ← he]
      by_cases hk : k' = k <;> simp [hk]
    · rename_i he
      simp only [Option.map_eq_some_iff, Prod.mk.injEq, Prod.exists] at h
      obtain ⟨j, b', h1, rfl, rfl⟩ := h
      rw [List.modify_succ_cons, mget_cons, mget_cons, mget_modify h1]
      by_cases hk : k' = k
      · subst hk; simp [he]
      · simp [hk]
theorem mget_mput (es : List (α × β × Nat)) (k : α) (v : β) (clk : Nat) (k' : α) : mget (mput es k v clk) k' = if k' = k then some v else mget es k' := by
  unfold mput
  split
  · rename_i i b h; exact mget_modify h k'
  · rename_i h
    rw [mget_append, mget_cons, mget_nil]
    by_cases hk : k' = k
    · subst hk
      have : mget es k' = none := by simp [mget, h]
      simp [this]
    · simp [hk]
theorem mput_length (es : List (α × β × Nat)) (k : α) (v : β) (clk : Nat) : (mput es k v clk).length = es.length + if (mget es k).isSome then 0 else 1 := by
  unfold mput mget
  split
  · rename_i h; simp [h]
  · rename_i h; simp [h]
theorem mfind_none {es : List (α × β × Nat)} {k : α} : mfind es k = none ↔ k ∉ es.map (·.1) := by
  induction es with
  | nil => simp [mfind]
  | cons e es ih =>
    simp only [mfind]
    split
    · rename_i h; simp [h]
    · rename_i h
      simp only [Option.map_eq_none_iff, ih]
      simp [h]
theorem mput_keys (es : List (α × β × Nat)) (k : α) (v : β) (clk : Nat) : (mput es k v clk).map (·.1) = if k ∈ es.map (·.1) then es.map (·.1) else es.map (·.1) ++ [k] := by
  unfold mput
  split
  · rename_i i b h
    have hm : k ∈ es.map (·.1) := by
      apply Classical.byContradiction
      intro hn
      rw [mfind_none.2 hn] at h
      cases h
    rw [if_pos hm]
    obtain ⟨s, hs⟩ := mfind_get h
    apply List.ext_getElem?
    intro j
    simp only [List.getElem?_map, List.getElem?_modify]
    by_cases hij : i = j
    · subst hij; simp [hs]
    · simp [hij]
  · rename_i h
    rw [if_neg (mfind_none.1 h)]
    simp
theorem mput_nodup {es : List (α × β × Nat)} (h : (es.map (·.1)).Nodup) (k : α) (v : β) (clk : Nat) : ((mput es k v clk).map (·.1)).Nodup := by
  rw [mput_keys]
  split
  · exact h
  · rename_i hk
    rw [List.nodup_append]
    refine ⟨h, by simp, ?_⟩
    intro a ha b hb
    simp at hb
    subst hb
    intro e; subst e; exact hk ha
theorem mget_some {es : List (α × β × Nat)} (h : (es.map (·.1)).Nodup) {k : α} {v : β} : mget es k = some v ↔ ∃ s, (k, v, s) ∈ es := by
  induction es with
  | nil => simp [mget_nil]
  | cons e es ih =>
    simp only [List.map_cons, List.nodup_cons] at h
    rw [mget_cons]
    split
    · rename_i hk
      subst hk
      constructor
      · intro e1; cases e1; exact ⟨e.2.2, by simp⟩
      · rintro ⟨s, hs⟩
        rcases List.mem_cons.1 hs with hs | hs
        · rw [← hs]
        · exact absurd (List.mem_map.2 ⟨_, hs, rfl⟩) h.1
    · rename_i hk
      rw [ih h.2]
      constructor
      · rintro ⟨s, hs⟩; exact ⟨s, by simp [hs]⟩
      · rintro ⟨s, hs⟩
        rcases List.mem_cons.1 hs with hs | hs
        · subst hs; exact absurd rfl hk
        · exact ⟨s, hs⟩
theorem mget_filter {es : List (α × β × Nat)} (p : α → Bool) (k : α) : mget (es.filter fun e => p e.1) k = if p k then mget es k else none := by
  induction es with
  | nil => simp [mget_nil]
  | cons e es ih =>
    simp only [List.filter_cons]
    by_cases hp : p e.1
    · rw [if_pos hp, mget_cons, mget_cons, ih]
      by_cases hk : k = e.1
      · subst hk; simp [hp]
      · simp [hk]
    · rw [if_neg hp, ih, mget_cons]
      by_cases hk : k = e.1
      · subst hk; simp [hp]
      · simp [hk]

/-! In the machine. -/
variable {P : Program} {H : AH} {t kt et : TypeId} {ke : α → V} {ve : β → V}
theorem afind_ents (hk : ∀ a b, keq P kt (ke a) (ke b) = some (decide (a = b))) (k : α) : ∀ (es : List (α × β × Nat)) (i : Nat), afind P kt (ke k) (ents ke ve es) i = some ((mfind es k).map fun x => (i + x.1, ve x.2))
  | [], i => rfl
  | e :: es, i => by
    simp only [ents, List.map_cons, afind, hk, mfind]
    by_cases h : k = e.1
    · simp [h]
    · simp only [h, decide_false, if_false]
      have := afind_ents hk k es (i + 1)
      simp only [ents] at this
      rw [this]
      cases mfind es k with
      | none => rfl
      | some x => simp; omega
theorem alookup_ents (hm : qmap P t = some (kt, et)) (hq : qkey P kt = true) (hf : ∀ a, keyFits P kt (ke a) = true) (hk : ∀ a b, keq P kt (ke a) (ke b) = some (decide (a = b))) {z : V} (hz : qzero P et = some z) {id : Nat} {es : List (α × β × Nat)} {clk : Nat} (hg : H.get id = some (.map (ents ke ve es) clk)) (k : α) (ok : Bool) :
    alookup P H t (.m (some id)) (ke k) ok = some (match mget es k with | some b => if ok then .tup [ve b, .b true] else ve b | none => if ok then .tup [z, .b false] else z) := by
  have hs := afind_ents (P := P) (ve := ve) hk k es 0
  unfold mget
  cases h : mfind es k with
  | none => rw [h] at hs; exact alookup_miss hm hq (hf k) hz hg hs
  | some x => rw [h] at hs; exact alookup_hit hm hq (hf k) hg hs
theorem setKV_ents (es : List (α × β × Nat)) (i : Nat) (k : α) (v : β) : setKV (ents ke ve es) i (ke k) (ve v) = ents ke ve (es.modify i fun e => (k, v, e.2.2)) := by
  unfold setKV ents
  apply List.ext_getElem?
  intro j
  simp only [List.getElem?_modify, List.getElem?_map]
  by_cases hij : i = j
  · subst hij; cases es[i]? <;> simp
  · simp [hij]
theorem amapUpdate_ents (hm : qmap P t = some (kt, et)) (hq : qkey P kt = true) (hf : ∀ a, keyFits P kt (ke a) = true) (hk : ∀ a b, keq P kt (ke a) (ke b) = some (decide (a = b))) {id : Nat} {es : List (α × β × Nat)} {clk : Nat} (hg : H.get id = some (.map (ents ke ve es) clk)) (k : α) (v : β) :
    amapUpdate P H t (.m (some id)) (ke k) (ve v) = some (H.set id (.map (ents ke ve (mput es k v clk)) (mclk es k clk))) := by
  have hs := afind_ents (P := P) (ve := ve) hk k es 0
  unfold mput mclk mget
  cases h : mfind es k with
  | none =>
    rw [h] at hs
    rw [amapUpdate_miss hm hq (hf k) hg hs]
    simp [ents]
  | some x =>
    rw [h] at hs
    rw [amapUpdate_hit hm hq (hf k) hg hs]
    simp [setKV_ents]
theorem alen_ents (hm : qmap P t = some (kt, et)) {id : Nat} {es : List (α × β × Nat)} {clk : Nat} (hg : H.get id = some (.map (ents ke ve es) clk)) : alen P H t (.m (some id)) = some (.i .i64 es.length) := by
  simp [alen, hm, hg]
/-- Keys and stamps are told apart, and no stamp is of the future. -/
structure MOk (es : List (α × β × Nat)) (clk : Nat) : Prop where
  keys : (es.map (·.1)).Nodup
  stamps : (es.map (·.2.2)).Nodup
  past : ∀ e ∈ es, e.2.2 < clk
theorem MOk.nil (clk : Nat) : MOk ([] : List (α × β × Nat)) clk := ⟨by simp, by simp, by simp⟩
theorem MOk.put {es : List (α × β × Nat)} {clk : Nat} (h : MOk es clk) (k : α) (v : β) : MOk (mput es k v clk) (mclk es k clk) := by
  refine ⟨mput_nodup h.keys .., ?_, ?_⟩
  · unfold mput
    split
    · rename_i i b hf
      have : (es.modify i fun e => (k, v, e.2.2)).map (·.2.2) = es.map (·.2.2) := by
        apply List.ext_getElem?
        intro j
        simp only [List.getElem?_map, List.getElem?_modify]
        by_cases hij : i = j
        · subst hij; cases es[i]? <;> simp
        · simp [hij]
      rw [this]; exact h.stamps
    · rw [List.map_append, List.nodup_append]
      refine ⟨h.stamps, by simp, ?_⟩
      intro a ha b hb e
      simp at hb ha
      obtain ⟨x, y, hx⟩ := ha
      have := h.past _ hx
      simp at this
      omega
  · intro e he
    unfold mclk mget
    unfold mput at he
    split at he
    · rename_i i b hf
      rw [hf]
      simp only [Option.map_some, Option.isSome_some, if_true]
      obtain ⟨j, hj⟩ := List.getElem?_of_mem he
      rw [List.getElem?_modify] at hj
      obtain ⟨x, hx, hxe⟩ := Option.map_eq_some_iff.1 hj
      have := h.past x (List.mem_of_getElem? hx)
      split at hxe <;> (subst hxe; exact this)
    · rename_i hf
      rw [hf]
      simp only [Option.map_none, Option.isSome_none, Bool.false_eq_true, if_false]
      rcases List.mem_append.1 he with he | he
      · have := h.past e he; omega
      · simp at he; subst he; simp
theorem MOk.filter {es : List (α × β × Nat)} {clk : Nat} (h : MOk es clk) (p : α × β × Nat → Bool) : MOk (es.filter p) clk :=
  ⟨h.keys.sublist (List.filter_sublist.map _), h.stamps.sublist (List.filter_sublist.map _), fun e he => h.past e (List.mem_filter.1 he).1⟩
theorem MOk.stamp {es : List (α × β × Nat)} {clk : Nat} (h : MOk es clk) {e e' : α × β × Nat} (he : e ∈ es) (he' : e' ∈ es) (hs : e.2.2 = e'.2.2) : e = e' := by
  have h1 := h.stamps
  obtain ⟨i, hi⟩ := List.getElem?_of_mem he
  obtain ⟨j, hj⟩ := List.getElem?_of_mem he'
  have hi' : (es.map (·.2.2))[i]? = some e.2.2 := by simp [hi]
  have hj' : (es.map (·.2.2))[j]? = some e.2.2 := by simp [hj, hs]
  have : i = j := by
    have l1 := (List.getElem?_eq_some_iff.1 hi').1
    exact (List.getElem?_inj l1 h1).1 (hi'.trans hj'.symm)
  subst this
  rw [hi] at hj
  exact Option.some.inj hj
/-- What a delete leaves. -/
def mdel (es : List (α × β × Nat)) (k : α) : List (α × β × Nat) := es.filter fun e => !decide (e.1 = k)
theorem adelete_ents (hm : qmap P t = some (kt, et)) (hq : qkey P kt = true) (hf : ∀ a, keyFits P kt (ke a) = true) (hk : ∀ a b, keq P kt (ke a) (ke b) = some (decide (a = b))) {id : Nat} {es : List (α × β × Nat)} (hn : (es.map (·.1)).Nodup) {clk : Nat} (hg : H.get id = some (.map (ents ke ve es) clk)) (k : α) :
    adelete P H t (.m (some id)) (ke k) = some (H.set id (.map (ents ke ve (mdel es k)) clk)) := by
  have hs := afind_ents (P := P) (ve := ve) hk k es 0
  have gen : ∀ (es : List (α × β × Nat)), (es.map (·.1)).Nodup → mdel es k = match mfind es k with | some (i, _) => es.eraseIdx i | none => es := by
    intro es
    induction es with
    | nil => intro _; rfl
    | cons e es ih =>
      intro hn
      simp only [List.map_cons, List.nodup_cons] at hn
      by_cases h : k = e.1
      · have e1 : mfind (e :: es) k = some (0, e.2.1) := by simp [mfind, h]
        rw [e1]
        simp only [List.eraseIdx_cons_zero]
        unfold mdel
        rw [List.filter_cons, if_neg (by simp [h]), List.filter_eq_self]
        intro x hx
        have : x.1 ≠ k := fun e2 => hn.1 (List.mem_map.2 ⟨x, hx, e2.trans h⟩)
        simp [this]
      · have e1 : mfind (e :: es) k = (mfind es k).map fun x => (x.1 + 1, x.2) := by simp [mfind, h]
        have ih' := ih hn.2
        have e2 : mdel (e :: es) k = e :: mdel es k := by simp [mdel, List.filter_cons, Ne.symm h]
        rw [e1, e2, ih']
        cases mfind es k <;> simp
  rw [gen es hn]
  unfold adelete
  simp only [hm, hq, hf, and_self, if_true, hg, hs]
  cases h : mfind es k with
  | none => rfl
  | some x => simp [ents, map_eraseIdx']
theorem aentry_ents {it m : Nat} {since : Nat} {seen : List Nat} {es : List (α × β × Nat)} {clk : Nat} (h : MOk es clk) {e : α × β × Nat} (he : e ∈ es) (h1 : H.get it = some (.mapIter (some m) since (seen ++ [e.2.2]) clk)) (h2 : H.get m = some (.map (ents ke ve es) clk)) :
    aentry H (.p (some (it, 0, 0))) = some (.tup [ke e.1, ve e.2.1]) := by
  simp only [aentry, h1, h2, List.getLast?_append, List.getLast?_singleton, Option.some_or, if_true]
  have : (ents ke ve es).find? (fun x => x.2.2 == e.2.2) = some (ke e.1, ve e.2.1, e.2.2) := by
    unfold ents
    rw [List.find?_map]
    have : es.find? ((fun x : V × V × Nat => x.2.2 == e.2.2) ∘ fun e => (ke e.1, ve e.2.1, e.2.2)) = some e := by
      cases hf : es.find? ((fun x : V × V × Nat => x.2.2 == e.2.2) ∘ fun e => (ke e.1, ve e.2.1, e.2.2)) with
      | none =>
        have := List.find?_eq_none.1 hf e he
        simp at this
      | some x =>
        have hx := List.mem_of_find?_eq_some hf
        have hp := List.find?_some hf
        simp at hp
        rw [h.stamp hx he hp]
    rw [this]; rfl
  rw [this]; rfl
theorem leftOf_keep {es : List (α × β × Nat)} {clk : Nat} (h : MOk es clk) {seen : List Nat} {p : α → Bool} {e : α × β × Nat} (he : e ∈ es) (hp : p e.1 = false) : leftOf es (seen ++ [e.2.2]) p = leftOf es seen p := by
  unfold leftOf
  apply List.filter_congr
  intro x hx
  by_cases h' : x.2.2 = e.2.2
  · have := h.stamp hx he h'; subst this; simp [hp]
  · simp [h']
theorem leftOf_del {es : List (α × β × Nat)} {clk : Nat} (h : MOk es clk) {seen : List Nat} {p : α → Bool} {e : α × β × Nat} (he : e ∈ es) (hp : p e.1 = true) : leftOf es (seen ++ [e.2.2]) p = mdel (leftOf es seen p) e.1 := by
  unfold leftOf mdel
  rw [List.filter_filter]
  apply List.filter_congr
  intro x hx
  by_cases h' : x.2.2 = e.2.2
  · have := h.stamp hx he h'; subst this; simp [hp]
  · have hk : x.1 ≠ e.1 := fun hk => by
      obtain ⟨i, hi⟩ := List.getElem?_of_mem hx
      obtain ⟨j, hj⟩ := List.getElem?_of_mem he
      have hi' : (es.map (·.1))[i]? = some e.1 := by simp [hi, hk]
      have hj' : (es.map (·.1))[j]? = some e.1 := by simp [hj]
      have := (List.getElem?_inj (List.getElem?_eq_some_iff.1 hi').1 h.keys).1 (hi'.trans hj'.symm)
      subst this
      rw [hi] at hj
      cases hj
      exact h' rfl
    simp [h', hk]
theorem leftOf_all {es : List (α × β × Nat)} {clk : Nat} (h : MOk es clk) {seen : List Nat} {p : α → Bool} (ha : ∀ e ∈ leftOf es seen p, e.2.2 ∉ seen → clk ≤ e.2.2) : leftOf es seen p = es.filter fun e => !p e.1 := by
  apply List.filter_congr
  intro x hx
  by_cases hs : x.2.2 ∈ seen
  · simp [hs]
  · have := ha x (List.mem_filter.2 ⟨hx, by simp [hs]⟩) hs
    have := h.past x hx
    omega
omit [DecidableEq α] in
/-- A record's part. -/
theorem Rec.sub {a : V} {l : List V} (h : Rec H a l) {f o n : Nat} {b : Bool} (hq : qfield P t f = some (o, n, b)) (hn : n ≠ 0) (hl : o + n ≤ l.length) : ∃ a', afieldAddr P t f a = some a' ∧ Rec H a' ((l.drop o).take n) := by
  obtain ⟨id, g, off, c, ro, esz, rfl, h1, h2, h3⟩ := h
  refine ⟨.p (some (id, g, off + o)), by simp [afieldAddr, hq, hn], id, g, off + o, c, ro, esz, rfl, h1, ?_, ?_⟩
  · have hlen : ((l.drop o).take n).length = n := by simp; omega
    rw [hlen, ← h2]
    simp only [List.drop_take, List.drop_drop, List.take_take]
    congr 1
    omega
  · simp; omega
omit [DecidableEq α] in
/-- Where an element of an owned slice lies. -/
theorem Own.addr {v : V} {sz : Nat} {ls : List (List V)} {F : List Nat} (h : Own H v sz ls.flatten F) (hp : 0 < sz) (hl : ∀ l ∈ ls, l.length = sz) {e : TypeId} (hq : qelem P t = some e) (hz : qsize P e = some sz) {k : IntKind} {i : Nat} (hi : i < ls.length) :
    ∃ id g, v = .sl (some (id, g, 0)) ls.length false ∧ F = [id] ∧ H.get id = some (.cells ls.flatten g false sz) ∧ aindexAddr P t v (.i k i) = some (.p (some (id, g, i * sz))) := by
  have hf := flatten_len ls hl
  rcases h with ⟨c, h1, h2, h3⟩ | ⟨id, g, len, h1, h2, h3, h4⟩
  · rw [h2] at hf
    have := Nat.mul_pos (show 0 < ls.length by omega) hp
    simp at hf; omega
  · have e : len = ls.length := Nat.eq_of_mul_eq_mul_right hp (h3.symm.trans hf)
    subst e h1
    refine ⟨id, g, rfl, h4, h2, ?_⟩
    simp [aindexAddr, hq, hz, hi]
omit [DecidableEq α] in
theorem splice_set {sz : Nat} : ∀ (ls : List (List V)) (i : Nat) (l' : List V), (∀ l ∈ ls, l.length = sz) → l'.length = sz → i < ls.length → splice ls.flatten (i * sz) l' = (ls.set i l').flatten
  | [], i, l', h, h', hi => by simp at hi
  | l :: ls, 0, l', h, h', hi => by
    have := h l (by simp)
    simp [splice, h', ← this]
  | l :: ls, i + 1, l', h, h', hi => by
    have hl := h l (by simp)
    have ih := splice_set ls i l' (fun l hl => h l (by simp [hl])) h' (by simpa using hi)
    rw [List.set_cons_succ, List.flatten_cons, List.flatten_cons, ← ih]
    unfold splice
    have e : (i + 1) * sz = l.length + i * sz := by rw [Nat.add_mul, hl]; omega
    rw [e, List.take_length_add_append, List.append_assoc, List.append_assoc, Nat.add_assoc, List.drop_length_add_append, List.append_assoc]
omit [DecidableEq α] in
/-- An element of an owned slice is written. -/
theorem Own.store {v : V} {sz : Nat} {ls : List (List V)} {F : List Nat} (h : Own H v sz ls.flatten F) (hp : 0 < sz) (hl : ∀ l ∈ ls, l.length = sz) {e : TypeId} (hz : qsize P e = some sz) {i : Nat} (hi : i < ls.length) {id g : Nat} (hv : v = .sl (some (id, g, 0)) ls.length false) {x : V} {xl : List V} (hx : x.cells = some xl) (hxl : xl.length = sz) :
    ∃ H', astore P H e (.p (some (id, g, i * sz))) x = some H' ∧ Own H' v sz (ls.set i xl).flatten F ∧ Upd H H' F ∧ H'.next = H.next := by
  have hf := flatten_len ls hl
  rcases h with ⟨c, h1, h2, h3⟩ | ⟨id', g', len, h1, h2, h3, h4⟩
  · subst h1; cases hv
  · subst h1
    simp only [V.sl.injEq, Option.some.injEq, Prod.mk.injEq, and_true] at hv
    obtain ⟨⟨rfl, rfl⟩, rfl⟩ := hv
    have hle : i * sz + sz ≤ ls.flatten.length := by
      rw [hf]
      have := Nat.mul_le_mul_right sz (show i + 1 ≤ ls.length by omega)
      rw [Nat.add_mul] at this
      omega
    refine ⟨H.set id' (.cells (splice ls.flatten (i * sz) xl) g' false sz), ?_, ?_, Upd.set _ _ _ (by simp [h4]), by simp⟩
    · simp only [astore, hz, hx, hxl, h2, if_true]
      rw [if_pos ⟨trivial, hle⟩]
    · refine .inr ⟨id', g', ls.length, rfl, ?_, ?_, h4⟩
      · rw [AH.get_set_same (AH.get_lt h2), splice_set ls i xl hl hxl hi]
      · rw [flatten_len (sz := sz) _ (fun l hm => by
          rcases List.mem_or_eq_of_mem_set hm with h | h
          · exact hl l h
          · rw [h]; exact hxl)]
        simp
omit [DecidableEq α] in
/-- One more element. -/
theorem Own.push {v : V} {sz bytes : Nat} {ls : List (List V)} {F : List Nat} {e : TypeId} {z : V} {zl : List V} (ha : App P t t sz bytes) (hq : qelem P t = some e) (hs : qsize P e = some sz) (hz : qzero P e = some z) (hzl : z.cells = some zl) (hzll : zl.length = sz) (hsz : sz ≤ 16777216)
    (h : Own H v sz ls.flatten F) (hl : ∀ l ∈ ls, l.length = sz) {x : V} {xl : List V} (hx : x.cells = some xl) (hxl : xl.length = sz) (hr : roomOk (ls.length + 1) bytes = true) :
    ∃ H1 v' H' F', abuildSlice P H t 1 [(0, x)] = some (.sl (some (H.next, 0, 0)) 1 false, H1) ∧ aappend P H1 t t v (.sl (some (H.next, 0, 0)) 1 false) = some (v', H') ∧ Own H' v' sz (ls ++ [xl]).flatten F' ∧ Upd H H' F ∧ ∀ j ∈ F', j ∈ F ∨ H.next ≤ j := by
  have hp := ha.pos
  have e1 : abuildSlice P H t 1 [(0, x)] = some (.sl (some (H.next, 0, 0)) 1 false, H.new (.cells xl 0 false sz)) := by
    simp only [abuildSlice, hq, hs, hz, hzl, hzll]
    rw [if_pos ⟨trivial, by omega, hp⟩]
    simp [afill, hx, hxl, splice, hzll, List.drop_of_length_le (Nat.le_of_eq hzll)]
  have u1 : Upd H (H.new (.cells xl 0 false sz)) [] := Upd.new ..
  have hsrc : asource P (H.new (.cells xl 0 false sz)) sz (.sl (some (H.next, 0, 0)) 1 false) = some (xl, 1) := by
    simp [asource, AH.get_new_same, hxl, hp, List.take_of_length_le (Nat.le_of_eq hxl)]
  have hd : ls.flatten.length / sz = ls.length := by rw [flatten_len ls hl, Nat.mul_div_cancel _ hp]
  obtain ⟨v', H', F', q1, q2, q3, q4⟩ := Own.append ha (h.upd u1 (by simp)) hsrc (by simpa using hxl) (by rw [hd]; exact hr)
  refine ⟨_, v', H', F', e1, q1, by simpa using q2, (u1.mono (by simp)).trans q3 fun j hj => .inl hj, fun j hj => ?_⟩
  rcases q4 j hj with h | h
  · exact .inl h
  · have := u1.1; exact .inr (by omega)
end
end Go.Abs
