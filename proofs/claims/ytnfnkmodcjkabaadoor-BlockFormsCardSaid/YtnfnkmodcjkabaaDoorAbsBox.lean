/-
  A value put into a block of its own.
-/
import Derived.Test.YtnfnkmodcjkabaaDoorAbsMp
set_option linter.unusedVariables false
set_option linter.unusedSimpArgs false
namespace Go.Abs
open Go Go.RowKit
theorem AH.boxed (H : AH) (l : List V) : ∃ H1, H.new (.cells l 0 false 0) = H1 ∧ H1.get H.next = some (.cells l 0 false 0) ∧ H1.next = H.next + 1 ∧ ∀ j, j < H.next → H1.get j = H.get j :=
  ⟨_, rfl, AH.get_new_same .., rfl, fun j hj => by rw [AH.get_new, if_neg (by omega)]⟩
theorem AH.boxed2 (H : AH) (l m : List V) : ∃ H1, (H.new (.cells l 0 false 0)).new (.cells m 0 false 0) = H1 ∧ H1.get H.next = some (.cells l 0 false 0) ∧ H1.get (H.next + 1) = some (.cells m 0 false 0) ∧ H1.next = H.next + 2 ∧ ∀ j, j < H.next → H1.get j = H.get j :=
  ⟨_, rfl, by simp [AH.get_new], by simp [AH.get_new], rfl, fun j hj => by rw [AH.get_new, if_neg (by simp; omega), AH.get_new, if_neg (by omega)]⟩
theorem AH.boxed3 (H : AH) (l m k : List V) : ∃ H1, ((H.new (.cells l 0 false 0)).new (.cells m 0 false 0)).new (.cells k 0 false 0) = H1 ∧ H1.get H.next = some (.cells l 0 false 0) ∧ H1.get (H.next + 1) = some (.cells m 0 false 0) ∧ H1.get (H.next + 2) = some (.cells k 0 false 0) ∧ H1.next = H.next + 3 ∧ ∀ j, j < H.next → H1.get j = H.get j :=
  ⟨_, rfl, by rw [AH.get_new, if_neg (by simp; omega), AH.get_new, if_neg (by simp), AH.get_new, if_pos (by simp)], by rw [AH.get_new, if_neg (by simp), AH.get_new, if_pos (by simp)], by rw [AH.get_new, if_pos (by simp)], rfl, fun j hj => by rw [AH.get_new, if_neg (by simp; omega), AH.get_new, if_neg (by simp; omega), AH.get_new, if_neg (by omega)]⟩
/-- The end of a function that leaves memory as it was. -/
theorem pure_end {H H1 : AH} {n : Nat} (hn : H1.next = H.next + n) (ho : ∀ j, j < H.next → H1.get j = H.get j) {Q : Prop} {r : V} (hq : Q) (hl : V.lt H.next r = true) : Q ∧ V.lt H.next r = true ∧ H.next ≤ H1.next ∧ ∀ j, j < H.next → H1.get j = H.get j :=
  ⟨hq, hl, by omega, ho⟩
theorem ares_cell {P : Program} {H : AH} {ρ : Env} {a t : Nat} {v : V} (h : aload P H t (ρ.get a) = some v) : ares1 P H ρ [.cell a t] = some v := by simp [ares1, ares, h]
theorem ares_cell_tmp {P : Program} {H : AH} {ρ : Env} {a t u : Nat} {v : V} (h : aload P H t (ρ.get a) = some v) : ares1 P H ρ [.cell a t, .tmp u] = some (.tup [v, ρ.get u]) := by simp [ares1, ares, h]
theorem splice_zero (a x : V) (l : List V) : splice (a :: l) 0 [x] = x :: l := by simp [splice]
theorem splice_succ (a : V) (c l : List V) (n : Nat) : splice (a :: c) (n + 1) l = a :: splice c n l := by
  simp only [splice, List.take_succ_cons, List.cons_append, Nat.add_right_comm n 1 l.length, List.drop_succ_cons]
theorem splice_all {c l : List V} (h : c.length = l.length) : splice c 0 l = l := by simp [splice, h]
/-- A list told by plain data, one record behind the other. -/
theorem RS.rec {α : Type} {f : α → List V} {sz : Nat} (hf : ∀ a, (f a).length = sz) {P : Program} {t e : TypeId} {H : AH} {v : V} (hp : 0 < sz) {xs : List α} (h : RS H v sz (xs.map f)) (hq : qelem P t = some e) (hz : qsize P e = some sz) (ha : qagg P e = some true) {i : Nat} (hi : i < xs.length) :
    ∃ a, aindexAddr P t v (.i .i64 i) = some a ∧ aload P H e a = some (.agg (f xs[i])) := by
  obtain ⟨a, h1, h2⟩ := h.at hp hq hz (k := .i64) i (l := f xs[i]) (by simp [hi])
  exact ⟨a, h1, h2.load ha (by rw [hf]; exact hz)⟩
theorem RS.alen {α : Type} {f : α → List V} {sz : Nat} {P : Program} {t e : TypeId} {H : AH} {v : V} {xs : List α} (h : RS H v sz (xs.map f)) (hq : qelem P t = some e) (H' : AH) : alen P H' t v = some (.i .i64 xs.length) := by
  simpa using h.len (P := P) (H' := H') hq
theorem take_succ_eq {α : Type} {xs ys : List α} {i : Nat} (hx : i < xs.length) (hy : i < ys.length) (h : xs.take i = ys.take i) (he : xs[i] = ys[i]) : xs.take (i + 1) = ys.take (i + 1) := by
  rw [List.take_succ_eq_append_getElem hx, List.take_succ_eq_append_getElem hy, h, he]
theorem take_all_eq {α : Type} {xs ys : List α} (hl : xs.length = ys.length) (h : xs.take xs.length = ys.take xs.length) : xs = ys := by
  rw [List.take_length, hl, List.take_length] at h; exact h
/-- One more record behind a list of one's own. -/
theorem Own.pushR {α : Type} {f : α → List V} {P : Program} {t : TypeId} {H : AH} {v : V} {sz bytes : Nat} {xs : List α} {F : List Nat} {e : TypeId} {z : V} {zl : List V} (ha : App P t t sz bytes) (hq : qelem P t = some e) (hs : qsize P e = some sz) (hz : qzero P e = some z) (hzl : z.cells = some zl) (hzll : zl.length = sz) (hsz : sz ≤ 16777216)
    (h : Own H v sz (xs.map f).flatten F) (hl : ∀ a, (f a).length = sz) {x : V} (a : α) (hx : x.cells = some (f a)) (hr : roomOk (xs.length + 1) bytes = true) :
    ∃ H1 v' H' F', abuildSlice P H t 1 [(0, x)] = some (.sl (some (H.next, 0, 0)) 1 false, H1) ∧ aappend P H1 t t v (.sl (some (H.next, 0, 0)) 1 false) = some (v', H') ∧ Own H' v' sz ((xs ++ [a]).map f).flatten F' ∧ Upd H H' F ∧ ∀ j ∈ F', j ∈ F ∨ H.next ≤ j := by
  have := Own.push (ls := xs.map f) ha hq hs hz hzl hzll hsz h (fun l hl' => by obtain ⟨b, _, rfl⟩ := List.mem_map.1 hl'; exact hl b) hx (hl a) (by simpa using hr)
  simpa using this
/-- What is owned can be read, record by record. -/
theorem Own.rsR {α : Type} {f : α → List V} {H : AH} {v : V} {sz : Nat} {xs : List α} {F : List Nat} (h : Own H v sz (xs.map f).flatten F) (hp : 0 < sz) (hl : ∀ a, (f a).length = sz) : RS H v sz (xs.map f) :=
  h.rs hp fun l hl' => by obtain ⟨b, _, rfl⟩ := List.mem_map.1 hl'; exact hl b
/-- One cell of a record of a list. -/
theorem RS.fld {α : Type} {f : α → List V} {sz : Nat} (hf : ∀ a, (f a).length = sz) {P : Program} {t e : TypeId} {H : AH} {v : V} (hp : 0 < sz) {xs : List α} (h : RS H v sz (xs.map f)) (hq : qelem P t = some e) (hz : qsize P e = some sz) {i : Nat} (hi : i < xs.length)
    {ft : TypeId} {n o : Nat} {b : Bool} {x : V} (hq2 : qfield P e n = some (o, 1, b)) (ha : qagg P ft = some false) (hz2 : qsize P ft = some 1) (hx : (f xs[i])[o]? = some x) :
    ∃ a a', aindexAddr P t v (.i .i64 i) = some a ∧ afieldAddr P e n a = some a' ∧ aload P H ft a' = some x := by
  obtain ⟨a, h1, h2⟩ := h.at hp hq hz (k := .i64) i (l := f xs[i]) (by simp [hi])
  obtain ⟨a', h3, h4⟩ := h2.fld hq2 ha hz2 hx
  exact ⟨a, a', h1, h3, h4⟩
theorem range_all_succ {p : Nat → Bool} {i : Nat} (h : (List.range i).all p = true) (hp : p i = true) : (List.range (i + 1)).all p = true := by
  rw [List.range_succ, List.all_append, h]; simp [hp]
theorem range_all_false {p : Nat → Bool} {i n : Nat} (hi : i < n) (hp : p i = false) : (List.range n).all p = false := by
  rw [List.all_eq_false]; exact ⟨i, by simpa using hi, by simp [hp]⟩
/-- A region that draws its order and ends in one known state. -/
theorem AW_regdto {r : Fm} {P : Program} [Laid P] {Q : Exit → Env → AH → Prop} {ρ : Env} {H : AH} {ops : Array Oper} {id : Nat} (idx : List Nat) (pl : Plan) (ext : Bool) (ρ1 : Env) (H1 : AH) (hm : P.follows .mixedOrders = true) (hok : planOk P .any ops ext pl true (Array.replicate ops.size false) = true) (hdep : pl.depth ≤ ops.size)
    (h : ∀ K : Env → AH → Prop, K ρ1 H1 → APlan P ops .ext pl (fun ρ' H' => K (ρ'.keep idx) H') ρ H) (hr : Q .normal ρ1 H1) : AW r P (.region id ops true) Q ρ H :=
  AW_regd idx pl ext hm hok hdep fun K hK => h K (hK _ _ hr)
theorem same_end {H : AH} {Q : Prop} {r : V} (hq : Q) (hl : V.lt H.next r = true) : Q ∧ V.lt H.next r = true ∧ H.next ≤ H.next ∧ ∀ j, j < H.next → H.get j = H.get j := ⟨hq, hl, Nat.le_refl _, fun _ _ => rfl⟩
end Go.Abs
