/-
  Arguments that can be read, as abstract values.
-/
import Derived.Test.YtnfnkmodcjkabaaDoorAbsRun
import GoSem.ClaimJoined
import GoSem.ClaimOpen
set_option linter.unusedVariables false
set_option linter.unusedSimpArgs false
namespace Go.Abs
open Go Go.RowKit

/-- Memory that has all that another one has. -/
structure AH.ext (H H' : AH) : Prop where
  next : H.next ≤ H'.next
  get : ∀ id o, H.get id = some o → H'.get id = some o
theorem AH.ext.refl (H : AH) : H.ext H := ⟨Nat.le_refl _, fun _ _ h => h⟩
theorem AH.ext.trans {H H' H'' : AH} (h : H.ext H') (k : H'.ext H'') : H.ext H'' := ⟨Nat.le_trans h.next k.next, fun id o ho => k.get id o (h.get id o ho)⟩
theorem AH.ext.new (H : AH) (o : O) : H.ext (H.new o) := ⟨Nat.le_succ _, fun id o' h => AH.get_new_old h⟩

/-- A value's cells are of a type, its slices' too. -/
def TV (P : Program) (H : AH) : Nat → TypeId → List V → Prop
  | 0, _, _ => False
  | n + 1, t, l => match P.underlying t with
    | some .bool => ∃ b, l = [.b b]
    | some (.int k) => ∃ x, l = [.i k x] ∧ k.min ≤ x ∧ x ≤ k.max
    | some .string => ∃ s, l = [.s s] ∧ s.length ≤ 140737488351232
    | some (.slice e) => l = [.sl none 0 false] ∨ ∃ id len c, l = [.sl (some (id, 0, 0)) len false] ∧ H.get id = some (.cells c 0 true (P.cellsOf e)) ∧ c.length = len * P.cellsOf e ∧ len * P.bytesOf e ≤ 140737488351232 ∧
        ∀ i, i < len → TV P H n e ((c.drop (i * P.cellsOf e)).take (P.cellsOf e))
    | some (.struct fs) => l.length = P.cellsOf t ∧ ∀ f ∈ fs.toList, TV P H n f.type ((l.drop f.offset).take (P.cellsOf f.type))
    | some (.array m e) => l.length = P.cellsOf t ∧ ∀ i, i < m → TV P H n e ((l.drop (i * P.cellsOf e)).take (P.cellsOf e))
    | _ => False
theorem TV.ext {P : Program} {H H' : AH} (hx : H.ext H') : ∀ {n : Nat} {t : TypeId} {l : List V}, TV P H n t l → TV P H' n t l
  | 0, _, _, h => h
  | n + 1, t, l, h => by
    unfold TV at h ⊢
    cases hu : P.underlying t with
    | none => simp [hu] at h
    | some d =>
      cases d <;> simp only [hu] at h ⊢
      case bool => exact h
      case int => exact h
      case string => exact h
      case slice e =>
        rcases h with h | ⟨id, len, c, h1, h2, h3, h4, h5⟩
        · exact .inl h
        · exact .inr ⟨id, len, c, h1, hx.get _ _ h2, h3, h4, fun i hi => TV.ext hx (h5 i hi)⟩
      case struct => exact ⟨h.1, fun f hf => TV.ext hx (h.2 f hf)⟩
      case array => exact ⟨h.1, fun i hi => TV.ext hx (h.2 i hi)⟩

def tileB (P : Program) : Nat → List Field → Option Nat
  | off, [] => some off
  | off, f :: fs => if f.offset = off then tileB P (off + P.cellsOf f.type) fs else none
/-- A type of plain data: its cells lie side by side. -/
def plainT (P : Program) : Nat → TypeId → Bool
  | 0, _ => false
  | n + 1, t => match P.underlying t with
    | some .bool | some (.int _) | some .string => true
    | some (.slice e) => decide (0 < P.cellsOf e) && plainT P n e
    | some (.struct fs) => tileB P 0 fs.toList == some (P.cellsOf t) && fs.toList.all fun f => plainT P n f.type
    | _ => false

section
variable {Hh : Type} {enc : TypeId × Value → Hh} {P : Program} {W : World}

abbrev Opened (P : Program) (W : World) (S : Loc) (H : AH) (cs : List Value) (G : AH → List V → Prop) : Prop :=
  ∃ S' H' l, S.le S' ∧ H.ext H' ∧ HR ⟨W, Loc.none⟩ S' H' W ∧ VRs S' l cs ∧ G H' l

/-- The locator with a foreign object more. -/
def Loc.addF (S : Loc) (blk base esz : Nat) : Loc :=
  { next := S.next + 1, gen := fun id => if id = S.next then 0 else S.gen id, blk := fun id => if id = S.next then blk else S.blk id, base := fun id => if id = S.next then base else S.base id,
    own := fun id => if id = S.next then false else S.own id, esz := fun id => if id = S.next then esz else S.esz id, room := fun id => if id = S.next then 0 else S.room id }
theorem Loc.le_addF (S : Loc) (blk base esz : Nat) : S.le (S.addF blk base esz) where
  next := Nat.le_succ _
  gen id h := by simp [Loc.addF, Nat.ne_of_lt h]
  blk id h _ := by simp [Loc.addF, Nat.ne_of_lt h]
  base id h _ := by simp [Loc.addF, Nat.ne_of_lt h]
  room id h _ := by simp [Loc.addF, Nat.ne_of_lt h]
  own id h := by simp [Loc.addF, Nat.ne_of_lt h]
  esz id h := by simp [Loc.addF, Nat.ne_of_lt h]

def AH.none : AH := ⟨0, .e⟩
theorem mine_none {W : World} {k : Nat} : ¬ (Ctx.mk W Loc.none).mine k := fun ⟨id, h, _⟩ => absurd h (Nat.not_lt_zero _)
/-- Where nothing was one's own, nothing of the beginning is. -/
theorem no_own {S : Loc} {H : AH} (h : HR ⟨W, Loc.none⟩ S H W) {id : Nat} (hi : id < S.next) (ho : S.own id = true) : False := by
  have h1 := (h.lt id hi ho).1
  rcases (h.lt id hi ho).2 with h2 | h2
  · have : W.heap.size ≤ S.blk id := h2
    omega
  · exact mine_none h2
theorem newF_HR {S : Loc} {H : AH} (h : HR ⟨W, Loc.none⟩ S H W) (c : List V) (blk base esz : Nat) (hb : blk < W.heap.size ∨ c = [])
    (hc : ∀ (j : Nat) (v : V), c[j]? = some v → ∃ cv, W.cell? ⟨blk, base + j, none⟩ = some cv ∧ VR S v cv ∧ cv.oneCell' = true) :
    HR ⟨W, Loc.none⟩ (S.addF blk base esz) (H.new (.cells c 0 true esz)) W where
  next := by simp [Loc.addF, h.next]
  obj id o' ho' := by
    rw [AH.get_new] at ho'
    split at ho'
    · rename_i e
      cases ho'
      rw [e, h.next]
      refine ⟨by simp [Loc.addF], by simp [Loc.addF], fun j v hj => ?_, fun h => by simp [Loc.addF] at h, fun h => by cases h⟩
      obtain ⟨cv, h1, h2, h3⟩ := hc j v hj
      exact ⟨cv, by simpa [Loc.addF] using h1, h2.mono (Loc.le_addF ..), h3⟩
    · rename_i e
      have hlt : id < S.next := by rw [← h.next]; exact AH.get_lt ho'
      exact (h.obj id o' ho').block (Loc.le_addF ..) hlt (by simp [Loc.addF, Nat.ne_of_lt hlt]) rfl
  some id hid := by
    rw [AH.get_new]
    split
    · rfl
    · rename_i e
      exact h.some id (by have : id < S.next + 1 := hid; rw [h.next] at e; omega)
  lt id hid hown := by
    have hid' : id < S.next + 1 := hid
    simp only [Loc.addF] at hown ⊢
    by_cases e : id = S.next
    · subst e; simp at hown
    · simp only [e, if_false] at hown ⊢
      exact h.lt id (by omega) hown
  foreign id hid hown := by
    have hid' : id < S.next + 1 := hid
    simp only [Loc.addF] at hown ⊢
    by_cases e : id = S.next
    · subst e
      simp only [if_true]
      refine hb.imp (fun hb => ⟨hb, fun id' hi' ho' => ?_⟩) fun hc => ⟨0, esz, ?_⟩
      · by_cases e' : id' = S.next
        · simp [e'] at ho'
        · simp only [e', if_false] at ho'
          have hi2 : id' < S.next + 1 := hi'
          exact (no_own h (by omega) ho').elim
      · rw [AH.get_new, if_pos (by rw [h.next]), hc]
    · simp only [e, if_false] at hown ⊢
      rw [AH.get_new, if_neg (by rw [h.next]; exact e)]
      refine (h.foreign id (by omega) hown).imp (fun hb => ⟨hb.1, fun id' hi' ho' => ?_⟩) fun h => h
      by_cases e' : id' = S.next
      · simp [e'] at ho'
      · simp only [e', if_false] at ho'
        have hi2 : id' < S.next + 1 := hi'
        exact (no_own h (by omega) ho').elim
  sep id id' hi hi' ho ho' hb := by
    have h1 : id < S.next + 1 := hi
    have h2 : id' < S.next + 1 := hi'
    simp only [Loc.addF] at ho ho' hb
    by_cases e : id = S.next
    · simp [e] at ho
    · by_cases e' : id' = S.next
      · simp [e'] at ho'
      · simp only [e, e', if_false] at ho ho' hb
        exact h.sep id id' (by omega) (by omega) ho ho' hb
  below := h.below

theorem mapM_range {α : Type} (f : Nat → Option α) : ∀ (n k : Nat) (xs : List α), (List.range' k n).mapM f = some xs → xs.length = n ∧ ∀ i, i < n → ∃ x, xs[i]? = some x ∧ f (k + i) = some x
  | 0, k, xs, h => by simp at h; subst h; simp
  | n + 1, k, xs, h => by
    rw [List.range'_succ] at h
    simp only [List.mapM_cons, Option.bind_eq_bind, Option.bind_eq_some_iff, Option.pure_def, Option.some.injEq] at h
    obtain ⟨x, hx, r, hr, rfl⟩ := h
    obtain ⟨hl, hi⟩ := mapM_range f n (k + 1) r hr
    refine ⟨by simp [hl], fun i hin => ?_⟩
    cases i with
    | zero => exact ⟨x, rfl, hx⟩
    | succ i =>
      obtain ⟨y, hy, hfy⟩ := hi i (by omega)
      exact ⟨y, by simpa using hy, by rw [← hfy]; congr 1; omega⟩

/-- What an address's cells are. -/
theorem cells?_spec {a : Addr} {n : Nat} {cs : List Value} (h : W.cells? 0 a n = some cs) : cs.length = n ∧ ∀ i, i < n → ∃ c, cs[i]? = some c ∧ W.cell? (a.add i) = some c := by
  unfold World.cells? at h
  rw [if_pos (Nat.zero_le _), List.range_eq_range'] at h
  obtain ⟨hl, hi⟩ := mapM_range _ n 0 cs h
  exact ⟨hl, fun i hin => by simpa using hi i hin⟩
theorem cell?_spot {a : Addr} {c : Value} (h : W.cell? a = some c) : a.spot = none ∧ a.block < W.heap.size := by
  refine ⟨?_, World.block_lt_of_cell? W a h⟩
  unfold World.cell? at h
  split at h
  · split at h
    · cases h
    · rename_i hs; simpa using hs
  · cases h
theorem lit_wf {k : IntKind} {n : Int} (h : (Lit.int k n).wf = true) : k.min ≤ n ∧ n ≤ k.max := by
  simpa [Lit.wf] using h

abbrev OpenedG (P : Program) (W : World) (S : Loc) (H : AH) (cs : List Value) (G : AH → List V → Prop) : Prop :=
  ∃ S' H' l, S.le S' ∧ H.ext H' ∧ HR ⟨W, Loc.none⟩ S' H' W ∧ VRs S' l cs ∧ (∀ c ∈ cs, c.oneCell' = true) ∧ G H' l

theorem tileB_le : ∀ (fs : List Field) (o n : Nat), tileB P o fs = some n → o ≤ n
  | [], o, n, h => by simp [tileB] at h; omega
  | f :: fs, o, n, h => by
    simp only [tileB] at h
    split at h
    · have := tileB_le fs _ _ h; omega
    · cases h
/-- The fields of a struct, one behind the other. -/
theorem open_fields {n fuel : Nat} {sp : Nat → Bool} {held : Bool} (ih : ∀ t, plainT P n t = true → ∀ cs d ps, DataW.trod enc P W 0 sp held fuel t cs = some (d, ps) → (∀ x ∈ d.weights P t, x ≤ reachBytes) → (∀ b, sp b = true) → ∀ S H, HR ⟨W, Loc.none⟩ S H W → cs.length = P.cellsOf t → OpenedG P W S H cs fun H' l => TV P H' n t l) :
    ∀ (fs : List Field) (off : Nat) (cs : List Value) (xs : List (DataW Hh × List MemPlace)) (S : Loc) (H : AH), tileB P off fs = some cs.length → (∀ f ∈ fs, plainT P n f.type = true) → off ≤ cs.length →
      (fs.mapM fun f => DataW.trod enc P W 0 sp held fuel f.type ((cs.drop f.offset).take (P.cellsOf f.type))) = some xs → (∀ x ∈ DataW.weightsEach P (fs.map (·.type)) (xs.map (·.1)), x ≤ reachBytes) → (∀ b, sp b = true) → HR ⟨W, Loc.none⟩ S H W →
      OpenedG P W S H (cs.drop off) fun H' l => ∀ f ∈ fs, off ≤ f.offset ∧ TV P H' n f.type ((l.drop (f.offset - off)).take (P.cellsOf f.type))
  | [], off, cs, xs, S, H, ht, hp, ho, hm, hw, hsp, hH => by
    simp only [tileB, Option.some.injEq] at ht
    subst ht
    exact ⟨S, H, [], Loc.le.refl S, AH.ext.refl H, hH, by simpa using VRs.nil, by simp, by simp⟩
  | f :: fs, off, cs, xs, S, H, ht, hp, ho, hm, hw, hsp, hH => by
    simp only [tileB] at ht
    split at ht
    · rename_i hoff
      simp only [List.mapM_cons, Option.bind_eq_bind, Option.bind_eq_some_iff, Option.pure_def, Option.some.injEq] at hm
      obtain ⟨⟨d, ps⟩, hd, r, hr, rfl⟩ := hm
      have hle : off + P.cellsOf f.type ≤ cs.length := by
        exact tileB_le fs _ _ ht
      simp only [List.map_cons, DataW.weightsEach, List.mem_append] at hw
      obtain ⟨S1, H1, l1, hS1, hx1, hH1, hv1, ho1, hT1⟩ := ih f.type (hp f (List.mem_cons_self ..)) _ d ps hd (fun x hx => hw x (.inl hx)) hsp S H hH (by simp; omega)
      obtain ⟨S2, H2, l2, hS2, hx2, hH2, hv2, ho2, hT2⟩ := open_fields ih fs (off + P.cellsOf f.type) cs r S1 H1 ht (fun g hg => hp g (List.mem_cons_of_mem _ hg)) hle hr (fun x hx => hw x (.inr hx)) hsp hH1
      have hl1 : l1.length = P.cellsOf f.type := by
        rw [hv1.length]; simp; omega
      have hsplit : cs.drop off = (cs.drop f.offset).take (P.cellsOf f.type) ++ cs.drop (off + P.cellsOf f.type) := by
        rw [hoff, ← List.drop_drop, List.take_append_drop]
      refine ⟨S2, H2, l1 ++ l2, hS1.trans hS2, hx1.trans hx2, hH2, ?_, ?_, ?_⟩
      · rw [hsplit]; exact (hv1.mono hS2).append hv2
      · rw [hsplit]; intro c hc; rcases List.mem_append.1 hc with h | h
        · exact ho1 c h
        · exact ho2 c h
      · intro g hg
        rcases List.mem_cons.1 hg with rfl | hg
        · refine ⟨by omega, ?_⟩
          rw [hoff, Nat.sub_self, List.drop_zero, List.take_append_of_le_length (by omega), List.take_of_length_le (by omega)]
          exact hT1.ext hx2
        · obtain ⟨q1, q2⟩ := hT2 g hg
          refine ⟨by omega, ?_⟩
          rw [List.drop_append, List.drop_eq_nil_of_le (by omega), List.nil_append, hl1, Nat.sub_sub]
          exact q2
    · cases ht

/-- Elements, one behind the other. -/
theorem open_elems {n fuel e sz : Nat} {sp : Nat → Bool} {held : Bool} (hsz : P.cellsOf e = sz) (rd : Nat → Option (List Value)) (hrd : ∀ i cs, rd i = some cs → cs.length = sz)
    (ih : ∀ cs d ps, DataW.trod enc P W 0 sp held fuel e cs = some (d, ps) → (∀ x ∈ d.weights P e, x ≤ reachBytes) → ∀ S H, HR ⟨W, Loc.none⟩ S H W → cs.length = P.cellsOf e → OpenedG P W S H cs fun H' l => TV P H' n e l) :
    ∀ (m k : Nat) (xs : List (DataW Hh × List MemPlace)) (S : Loc) (H : AH), ((List.range' k m).mapM fun i => (rd i).bind (DataW.trod enc P W 0 sp held fuel e)) = some xs → (∀ x ∈ DataW.weightsAll P e (xs.map (·.1)), x ≤ reachBytes) → HR ⟨W, Loc.none⟩ S H W →
      ∃ css : List (List Value), css.length = m ∧ (∀ i, i < m → rd (k + i) = css[i]?) ∧ OpenedG P W S H css.flatten fun H' l => l.length = m * sz ∧ ∀ i, i < m → TV P H' n e ((l.drop (i * sz)).take sz)
  | 0, k, xs, S, H, hm, hw, hH => ⟨[], rfl, by simp, S, H, [], Loc.le.refl S, AH.ext.refl H, hH, .nil, by simp, by simp⟩
  | m + 1, k, xs, S, H, hm, hw, hH => by
    rw [List.range'_succ] at hm
    simp only [List.mapM_cons, Option.bind_eq_bind, Option.bind_eq_some_iff, Option.pure_def, Option.some.injEq] at hm
    obtain ⟨⟨d, ps⟩, ⟨cs, hcs, hd⟩, r, hr, rfl⟩ := hm
    simp only [List.map_cons, DataW.weightsAll, List.mem_append] at hw
    have hl := hrd k cs hcs
    obtain ⟨S1, H1, l1, hS1, hx1, hH1, hv1, ho1, hT1⟩ := ih cs d ps hd (fun x hx => hw x (.inl hx)) S H hH (by omega)
    obtain ⟨css, hcl, hci, S2, H2, l2, hS2, hx2, hH2, hv2, ho2, hl2, hT2⟩ := open_elems hsz rd hrd ih m (k + 1) r S1 H1 hr (fun x hx => hw x (.inr hx)) hH1
    have hl1 : l1.length = sz := by rw [hv1.length]; exact hl
    refine ⟨cs :: css, by simp [hcl], fun i hi => ?_, S2, H2, l1 ++ l2, hS1.trans hS2, hx1.trans hx2, hH2, ?_, ?_, ?_, ?_⟩
    · cases i with
      | zero => simpa using hcs
      | succ i =>
        have := hci i (by omega)
        rw [show k + (i + 1) = k + 1 + i by omega, this]; simp
    · simpa using (hv1.mono hS2).append hv2
    · intro c hc
      simp only [List.flatten_cons, List.mem_append] at hc
      rcases hc with h | h
      · exact ho1 c h
      · exact ho2 c h
    · rw [List.length_append, hl1, hl2, Nat.succ_mul, Nat.add_comm]
    · intro i hi
      cases i with
      | zero =>
        rw [Nat.zero_mul, List.drop_zero, List.take_append_of_le_length (by omega), List.take_of_length_le (by omega)]
        exact hT1.ext hx2
      | succ i =>
        rw [Nat.succ_mul, List.drop_append, List.drop_eq_nil_of_le (by omega), List.nil_append, hl1, Nat.add_sub_cancel]
        exact hT2 i (by omega)

section
variable {sp : Nat → Bool} {held : Bool} {fuel : Nat} {t : TypeId} {cs : List Value} {d : DataW Hh} {ps : List MemPlace}
theorem trod_bool (hu : P.underlying t = some .bool) (h : DataW.trod enc P W 0 sp held (fuel + 1) t cs = some (d, ps)) : ∃ b, cs = [.bool b] := by
  unfold DataW.trod at h
  simp only [hu] at h
  split at h <;> simp_all
theorem trod_int {k : IntKind} (hu : P.underlying t = some (.int k)) (h : DataW.trod enc P W 0 sp held (fuel + 1) t cs = some (d, ps)) : ∃ x, cs = [.int k x] ∧ k.min ≤ x ∧ x ≤ k.max := by
  unfold DataW.trod at h
  simp only [hu] at h
  split at h <;> simp_all
  rename_i k' n _ _
  exact lit_wf h.1.2
theorem trod_string (hu : P.underlying t = some .string) (h : DataW.trod enc P W 0 sp held (fuel + 1) t cs = some (d, ps)) : ∃ c, cs = [.string c] ∧ d = .lit (.string c.data.toList) := by
  unfold DataW.trod at h
  simp only [hu] at h
  split at h <;> simp_all
theorem trod_struct {fs : Array Field} (hu : P.underlying t = some (.struct fs)) (h : DataW.trod enc P W 0 sp held (fuel + 1) t cs = some (d, ps)) :
    cs.length = P.cellsOf t ∧ ∃ xs, (fs.toList.mapM fun f => DataW.trod enc P W 0 sp held fuel f.type ((cs.drop f.offset).take (P.cellsOf f.type))) = some xs ∧ d = .agg (xs.map (·.1)) := by
  unfold DataW.trod at h
  simp only [hu] at h
  split at h <;> simp_all
  obtain ⟨xs, h1, h2, h3⟩ := h
  exact ⟨xs, h1, h2.symm⟩
theorem trod_array {n : Nat} {e : TypeId} (hu : P.underlying t = some (.array n e)) (h : DataW.trod enc P W 0 sp held (fuel + 1) t cs = some (d, ps)) :
    cs.length = P.cellsOf t ∧ ∃ xs, ((List.range n).mapM fun i => DataW.trod enc P W 0 sp held fuel e ((cs.drop (i * P.cellsOf e)).take (P.cellsOf e))) = some xs ∧ d = .agg (xs.map (·.1)) := by
  unfold DataW.trod at h
  simp only [hu] at h
  split at h <;> simp_all
  obtain ⟨xs, h1, h2, h3⟩ := h
  exact ⟨xs, h1, h2.symm⟩
theorem trod_slice {e : TypeId} (hsp : ∀ b, sp b = true) (hu : P.underlying t = some (.slice e)) (h : DataW.trod enc P W 0 sp held (fuel + 1) t cs = some (d, ps)) :
    cs = [.slice none 0 0] ∨ ∃ a len cap, cs = [.slice (some a) len cap] ∧ len ≤ cap ∧ ∃ xs rest,
      ((List.range len).mapM fun i => (W.cells? 0 (a.add (i * P.cellsOf e)) (P.cellsOf e)).bind (DataW.trod enc P W 0 sp held fuel e)) = some xs ∧
      ((List.range (cap - len)).mapM fun j => (W.cells? 0 (a.add ((len + j) * P.cellsOf e)) (P.cellsOf e)).bind (DataW.trod enc P W 0 sp held fuel e)) = some rest ∧ d = .slice (xs.map (·.1)) (rest.map (·.1)) := by
  unfold DataW.trod at h
  simp only [hu] at h
  split at h <;> simp_all
  obtain ⟨hb, h⟩ := h
  simp only [Option.bind_eq_some_iff, Option.map_eq_some_iff, Prod.mk.injEq] at h
  obtain ⟨xs, h2, rest, h3, h4, h5⟩ := h
  exact ⟨_, _, _, ⟨rfl, rfl, rfl⟩, hb.1, xs, h2, rest, h3, h4.symm⟩
end

theorem open_trod {sp : Nat → Bool} {held : Bool} (hsp : ∀ b, sp b = true) : ∀ (n fuel : Nat) (t : TypeId), plainT P n t = true → ∀ cs (d : DataW Hh) ps, DataW.trod enc P W 0 sp held fuel t cs = some (d, ps) → (∀ x ∈ d.weights P t, x ≤ reachBytes) →
    ∀ S H, HR ⟨W, Loc.none⟩ S H W → cs.length = P.cellsOf t → OpenedG P W S H cs fun H' l => TV P H' n t l
  | 0, _, t, hp, _, _, _, _, _, _, _, _, _ => by simp [plainT] at hp
  | n + 1, 0, t, hp, cs, d, ps, h, _, _, _, _, _ => by simp [DataW.trod] at h
  | n + 1, fuel + 1, t, hp, cs, d, ps, h, hw, S, H, hH, hcl => by
    have hreach : reachBytes = 140737488351232 := by decide
    unfold plainT at hp
    split at hp
    · rename_i hu
      obtain ⟨b, rfl⟩ := trod_bool hu h
      exact ⟨S, H, [.b b], Loc.le.refl S, AH.ext.refl H, hH, .cons _ _ _ _ (.b b) .nil, by simp [Value.oneCell'], by simp [TV, hu]⟩
    · rename_i k hu
      obtain ⟨x, rfl, h1, h2⟩ := trod_int hu h
      exact ⟨S, H, [.i k x], Loc.le.refl S, AH.ext.refl H, hH, .cons _ _ _ _ (.i k x) .nil, by simp [Value.oneCell'], by simp [TV, hu, h1, h2]⟩
    · rename_i hu
      obtain ⟨c, rfl, rfl⟩ := trod_string hu h
      have := hw c.data.toList.length (by simp [DataW.weights])
      refine ⟨S, H, [.s c.data.toList], Loc.le.refl S, AH.ext.refl H, hH, .cons _ _ _ _ (.s _ c rfl) .nil, by simp [Value.oneCell'], ?_⟩
      simp only [TV, hu]
      exact ⟨_, rfl, by omega⟩
    · rename_i e hu
      simp only [Bool.and_eq_true, decide_eq_true_eq] at hp
      rcases trod_slice hsp hu h with rfl | ⟨a, len, cap, rfl, hlc, xs, rest, hxs, hrest, rfl⟩
      · exact ⟨S, H, [.sl none 0 false], Loc.le.refl S, AH.ext.refl H, hH, .cons _ _ _ _ (.slnil _) .nil, by simp [Value.oneCell'], by simp [TV, hu]⟩
      · simp only [DataW.weights, hu, List.mem_cons, List.mem_append] at hw
        rw [List.range_eq_range'] at hxs
        obtain ⟨css, hcl2, hci, S1, H1, l, hS1, hx1, hH1, hv1, ho1, hl1, hT1⟩ := open_elems (n := n) (fuel := fuel) rfl (fun i => W.cells? 0 (a.add (i * P.cellsOf e)) (P.cellsOf e)) (fun i cs h => (cells?_spec h).1)
          (fun cs d ps h hw S H hH hl => open_trod hsp n fuel e hp.2 cs d ps h hw S H hH hl) len 0 xs S H hxs (fun x hx => hw x (.inr (.inl hx))) hH
        have hlx : xs.length = len := by
          have := (mapM_range _ len 0 xs hxs).1; exact this
        have hlen : len * P.bytesOf e ≤ reachBytes := by
          refine Nat.le_trans (Nat.mul_le_mul_right _ ?_) (hw _ (.inl rfl))
          simp [hlx]
        -- where the first cell stands
        have hfirst : cap = 0 ∨ (a.spot = none ∧ a.block < W.heap.size) := by
          by_cases h0 : cap = 0
          · exact .inl h0
          · refine .inr ?_
            have hone : ∃ cs, W.cells? 0 a (P.cellsOf e) = some cs := by
              by_cases hl0 : len = 0
              · subst hl0
                rw [List.range_eq_range'] at hrest
                obtain ⟨y, _, hy⟩ := (mapM_range _ _ 0 rest hrest).2 0 (by omega)
                simp only [Nat.add_zero, Nat.zero_mul, Addr.add, if_true, Option.bind_eq_some_iff] at hy
                exact ⟨_, hy.choose_spec.1⟩
              · obtain ⟨y, _, hy⟩ := (mapM_range _ _ 0 xs hxs).2 0 (by omega)
                simp only [Nat.add_zero, Nat.zero_mul, Addr.add, if_true, Option.bind_eq_some_iff] at hy
                exact ⟨_, hy.choose_spec.1⟩
            obtain ⟨cs, hcs⟩ := hone
            obtain ⟨c, _, hc⟩ := (cells?_spec hcs).2 0 hp.1
            simp only [Addr.add, if_true] at hc
            exact cell?_spot hc
        have hfl : css.flatten.length = len * P.cellsOf e := by rw [← hv1.length]; exact hl1
        -- the cells of the whole row
        have hcells : ∀ (j : Nat) (c : Value), css.flatten[j]? = some c → W.cell? ⟨a.block, a.off + j, none⟩ = some c := by
          intro j c hj
          have hjl : j < len * P.cellsOf e := by
            have := (List.getElem?_eq_some_iff.1 hj).1; omega
          have hlen0 : 0 < len := by
            rcases Nat.eq_zero_or_pos len with h0 | h0
            · rw [h0, Nat.zero_mul] at hjl; omega
            · exact h0
          obtain ⟨hspot, _⟩ := hfirst.resolve_left (by omega)
          have hq : j / P.cellsOf e < len := Nat.div_lt_of_lt_mul (by rw [Nat.mul_comm]; exact hjl)
          have hr : j % P.cellsOf e < P.cellsOf e := Nat.mod_lt _ hp.1
          have hd : j = (j / P.cellsOf e) * P.cellsOf e + j % P.cellsOf e := by rw [Nat.mul_comm]; exact (Nat.div_add_mod ..).symm
          obtain ⟨cs, hcs⟩ : ∃ cs, css[j / P.cellsOf e]? = some cs := ⟨_, List.getElem?_eq_getElem (by omega)⟩
          have hrd := hci (j / P.cellsOf e) hq
          rw [hcs, Nat.zero_add] at hrd
          obtain ⟨hcsl, hcc⟩ := cells?_spec hrd
          obtain ⟨c', hc', hw'⟩ := hcc (j % P.cellsOf e) hr
          have hall : ∀ x ∈ css, x.length = P.cellsOf e := by
            intro x hx
            obtain ⟨i, hi⟩ := List.getElem?_of_mem hx
            have hil : i < css.length := (List.getElem?_eq_some_iff.1 hi).1
            have := hci i (by omega)
            rw [hi] at this
            exact (cells?_spec this).1
          have hflat : css.flatten[j]? = some c' := by
            have key : ∀ (css : List (List Value)) (q r : Nat) (cs : List Value), (∀ x ∈ css, x.length = P.cellsOf e) → css[q]? = some cs → r < P.cellsOf e → css.flatten[q * P.cellsOf e + r]? = cs[r]? := by
              intro css
              induction css with
              | nil => intro q r cs _ h; simp at h
              | cons x css ih =>
                intro q r cs hx h hr
                have hxl := hx x (List.mem_cons_self ..)
                cases q with
                | zero =>
                  simp at h; subst h
                  rw [List.flatten_cons, List.getElem?_append_left (by omega)]; simp
                | succ q =>
                  rw [List.flatten_cons, Nat.succ_mul, List.getElem?_append_right (by omega)]
                  rw [show q * P.cellsOf e + P.cellsOf e + r - x.length = q * P.cellsOf e + r by omega]
                  exact ih q r cs (fun y hy => hx y (List.mem_cons_of_mem _ hy)) (by simpa using h) hr
            rw [hd, key css _ _ cs hall hcs hr]; exact hc'
          rw [hflat] at hj
          cases hj
          have ea : (a.add (j / P.cellsOf e * P.cellsOf e)).add (j % P.cellsOf e) = ⟨a.block, a.off + j, none⟩ := by
            obtain ⟨ab, ao, asp⟩ := a
            simp only at hspot
            subst hspot
            rw [add_none, add_none, Nat.add_assoc, ← hd]
          rw [← ea]; exact hw'
        have hnew := newF_HR (W := W) hH1 l a.block a.off (P.cellsOf e) (by
          rcases hfirst with h0 | h0
          · right
            have : len = 0 := by omega
            apply List.eq_nil_of_length_eq_zero
            rw [hl1, this, Nat.zero_mul]
          · exact .inl h0.2) (fun j v hj => by
          obtain ⟨c, hc, hv⟩ := hv1.get j v hj
          exact ⟨c, hcells j c hc, hv, ho1 c (List.mem_of_getElem? hc)⟩)
        refine ⟨_, _, [.sl (some (H1.next, 0, 0)) len false], hS1.trans (Loc.le_addF ..), hx1.trans (AH.ext.new _ _), hnew, .cons _ _ _ _ ?_ .nil, by simp [Value.oneCell'], ?_⟩
        · rw [hH1.next]
          refine .sl _ _ _ _ _ _ _ (by simp [Loc.addF]) (by simp [Loc.addF]) hlc (fun _ hc => ?_) (fun h => by cases h) (fun _ h => by simp [Loc.addF] at h)
          obtain ⟨hspot, _⟩ := hfirst.resolve_left (by omega)
          obtain ⟨ab, ao, asp⟩ := a
          simp only at hspot
          subst hspot
          simp [Loc.addF]
        · simp only [TV, hu]
          refine .inr ⟨H1.next, len, l, rfl, AH.get_new_same _ _, hl1, by omega, fun i hi => (hT1 i hi).ext (AH.ext.new _ _)⟩
    · rename_i fs hu
      simp only [Bool.and_eq_true, beq_iff_eq, List.all_eq_true] at hp
      obtain ⟨_, xs, hxs, rfl⟩ := trod_struct hu h
      simp only [DataW.weights, hu] at hw
      obtain ⟨S1, H1, l, hS1, hx1, hH1, hv1, ho1, hT1⟩ := open_fields (n := n) (fuel := fuel) (fun t hp cs d ps h hw hsp S H hH hl => open_trod hsp n fuel t hp cs d ps h hw S H hH hl) fs.toList 0 cs xs S H (by rw [hp.1, hcl]) hp.2 (Nat.zero_le _) hxs hw hsp hH
      rw [List.drop_zero] at hv1 ho1
      refine ⟨S1, H1, l, hS1, hx1, hH1, hv1, ho1, ?_⟩
      simp only [TV, hu]
      exact ⟨by rw [hv1.length]; exact hcl, fun f hf => by simpa using (hT1 f hf).2⟩
    · cases hp
end
end Go.Abs
