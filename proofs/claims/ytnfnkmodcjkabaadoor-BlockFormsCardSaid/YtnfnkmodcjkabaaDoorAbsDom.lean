/-
  The abstract machine's data: values, memory, and how a world of the model stands for them.
-/
import Derived.Orders
import Derived.Below
import Derived.Laws.Sem
import Derived.Laws.Cells
import Derived.Laws.Strings
import Derived.KernelRfl
set_option linter.unusedVariables false
set_option linter.unusedSimpArgs false
namespace Go.Abs
open Go Go.RowKit

/-- Values: addresses name an object, its generation and a cell. -/
inductive V where
  | b (x : Bool)
  | i (k : IntKind) (n : Int)
  | s (l : List UInt8)
  | p (x : Option (Nat × Nat × Nat))
  | sl (x : Option (Nat × Nat × Nat)) (len : Nat) (clip : Bool)
  | m (x : Option Nat)
  | fn (f : Fn) (first caps : List V)
  | nf
  | ifc (t : TypeId) (v : V)
  | nif
  | agg (l : List V)
  | tup (l : List V)
  | un
  /-- The yield of a range over a function: its loop's record. -/
  | yl (id : Nat)
  deriving Inhabited

/-- The cells of a value that lies in memory. -/
def V.cells : V → Option (List V)
  | .agg l => some l
  | .tup _ => none
  | .un => none
  | v => some [v]

/-! Environments. -/
structure Env where
  n : Nat
  l : List (Nat × V)
def Env.look : List (Nat × V) → Nat → V
  | [], _ => .un
  | (t, v) :: l, u => if t = u then v else Env.look l u
def Env.get (ρ : Env) (t : Nat) : V := Env.look ρ.l t

/-- Objects. -/
inductive O where
  | cells (c : List V) (gen : Nat) (ro : Bool) (esz : Nat)
  | map (es : List (V × V × Nat)) (clock : Nat)
  | strIter (s : List UInt8) (pos : Nat)
  | mapIter (m : Option Nat) (since : Nat) (seen : List Nat) (stepped : Nat)
  | loop (tag : Nat) (st : LoopState) (pe : Option Code) (ρ : Env) (ps : Array Tmp) (asg body : Code)
  deriving Inhabited

/-- A finite table: a binary tree by the number's bits. -/
inductive T where
  | e
  | n (v : Option O) (l r : T)

def T.get : T → Nat → Option O
  | .e, _ => none
  | .n v l r, k => if k = 0 then v else if k % 2 = 1 then l.get (k / 2) else r.get (k / 2 - 1)

def T.set : Nat → T → Nat → O → T
  | 0, t, _, _ => t
  | f + 1, .e, k, o => if k = 0 then .n (some o) .e .e else if k % 2 = 1 then .n none (T.set f .e (k / 2) o) .e else .n none .e (T.set f .e (k / 2 - 1) o)
  | f + 1, .n v l r, k, o => if k = 0 then .n (some o) l r else if k % 2 = 1 then .n v (T.set f l (k / 2) o) r else .n v l (T.set f r (k / 2 - 1) o)

theorem T.get_set (f : Nat) : ∀ (t : T) (k j : Nat) (o : O), k < f → (T.set f t k o).get j = if j = k then some o else t.get j := by
  induction f with
  | zero => intro t k j o h; omega
  | succ f ih =>
    intro t k j o h
    cases t with
    | e =>
      simp only [T.set]
      by_cases hk : k = 0
      · subst hk
        simp only [if_true, T.get]
        by_cases hj : j = 0 <;> simp [hj, T.get]
      · simp only [hk, if_false]
        by_cases hk2 : k % 2 = 1
        · simp only [hk2, if_true, T.get]
          by_cases hj : j = 0
          · subst hj; simp; omega
          · simp only [hj, if_false]
            by_cases hj2 : j % 2 = 1
            · simp only [hj2, if_true]
              rw [ih _ _ _ _ (by omega)]
              have : (j / 2 = k / 2) ↔ j = k := by omega
              simp [this, T.get]
            · simp only [hj2, if_false]
              have : j ≠ k := by intro e; omega
              simp [this, T.get]
        · simp only [hk2, if_false, T.get]
          by_cases hj : j = 0
          · subst hj; simp; omega
          · simp only [hj, if_false]
            by_cases hj2 : j % 2 = 1
            · simp only [hj2, if_true]
              have : j ≠ k := by intro e; omega
              simp [this, T.get]
            · simp only [hj2, if_false]
              rw [ih _ _ _ _ (by omega)]
              have : (j / 2 - 1 = k / 2 - 1) ↔ j = k := by omega
              simp [this, T.get]
    | n v l r =>
      simp only [T.set]
      by_cases hk : k = 0
      · subst hk
        simp only [if_true, T.get]
        by_cases hj : j = 0 <;> simp [hj]
      · simp only [hk, if_false]
        by_cases hk2 : k % 2 = 1
        · simp only [hk2, if_true, T.get]
          by_cases hj : j = 0
          · subst hj; simp; omega
          · simp only [hj, if_false]
            by_cases hj2 : j % 2 = 1
            · simp only [hj2, if_true]
              rw [ih _ _ _ _ (by omega)]
              have : (j / 2 = k / 2) ↔ j = k := by omega
              simp [this]
            · simp only [hj2, if_false]
              have : j ≠ k := by intro e; omega
              simp [this]
        · simp only [hk2, if_false, T.get]
          by_cases hj : j = 0
          · subst hj; simp; omega
          · simp only [hj, if_false]
            by_cases hj2 : j % 2 = 1
            · simp only [hj2, if_true]
              have : j ≠ k := by intro e; omega
              simp [this]
            · simp only [hj2, if_false]
              rw [ih _ _ _ _ (by omega)]
              have : (j / 2 - 1 = k / 2 - 1) ↔ j = k := by omega
              simp [this]

/-- Memory: how many objects there are, and the objects. -/
structure AH where
  next : Nat
  tab : T

def AH.get (H : AH) (k : Nat) : Option O := if k < H.next then H.tab.get k else none
def AH.set (H : AH) (k : Nat) (o : O) : AH := { H with tab := T.set (k + 1) H.tab k o }
def AH.new (H : AH) (o : O) : AH := { next := H.next + 1, tab := T.set (H.next + 1) H.tab H.next o }

theorem AH.get_lt {H : AH} {k : Nat} {o : O} (h : H.get k = some o) : k < H.next := by
  unfold AH.get at h; split at h
  · assumption
  · cases h
@[simp] theorem AH.next_set (H : AH) (k : Nat) (o : O) : (H.set k o).next = H.next := rfl
@[simp] theorem AH.next_new (H : AH) (o : O) : (H.new o).next = H.next + 1 := rfl
theorem AH.get_set (H : AH) (k j : Nat) (o : O) : (H.set k o).get j = if j = k then (if k < H.next then some o else none) else H.get j := by
  unfold AH.get AH.set
  simp only [T.get_set _ _ _ _ _ (Nat.lt_succ_self k)]
  by_cases hj : j = k
  · subst hj; simp
  · simp [hj]
theorem AH.get_set_same {H : AH} {k : Nat} {o : O} (h : k < H.next) : (H.set k o).get k = some o := by simp [AH.get_set, h]
theorem AH.get_set_ne {H : AH} {k j : Nat} {o : O} (h : j ≠ k) : (H.set k o).get j = H.get j := by simp [AH.get_set, h]
theorem AH.get_new (H : AH) (j : Nat) (o : O) : (H.new o).get j = if j = H.next then some o else H.get j := by
  unfold AH.get AH.new
  simp only [T.get_set _ _ _ _ _ (Nat.lt_succ_self _)]
  by_cases hj : j = H.next
  · subst hj; simp
  · simp only [hj, if_false]
    by_cases h : j < H.next
    · simp [h, Nat.lt_succ_of_lt h]
    · have : ¬ j < H.next + 1 := by omega
      simp [h, this]
theorem AH.get_new_same (H : AH) (o : O) : (H.new o).get H.next = some o := by simp [AH.get_new]
theorem AH.get_new_old {H : AH} {j : Nat} {o o' : O} (h : H.get j = some o') : (H.new o).get j = some o' := by
  have := AH.get_lt h
  rw [AH.get_new, if_neg (by omega), h]

/-- Where the objects lie. -/
structure Loc where
  next : Nat
  gen : Nat → Nat
  blk : Nat → Nat
  base : Nat → Nat
  own : Nat → Bool
  esz : Nat → Nat
  room : Nat → Nat

def Loc.none : Loc := ⟨0, fun _ => 0, fun _ => 0, fun _ => 0, fun _ => false, fun _ => 0, fun _ => 0⟩
structure Loc.le (S S' : Loc) : Prop where
  next : S.next ≤ S'.next
  gen : ∀ id, id < S.next → S.gen id ≤ S'.gen id
  blk : ∀ id, id < S.next → S'.gen id = S.gen id → S'.blk id = S.blk id
  base : ∀ id, id < S.next → S'.gen id = S.gen id → S'.base id = S.base id
  room : ∀ id, id < S.next → S'.gen id = S.gen id → S'.room id = S.room id
  own : ∀ id, id < S.next → S'.own id = S.own id
  esz : ∀ id, id < S.next → S'.esz id = S.esz id

theorem Loc.le.refl (S : Loc) : S.le S := ⟨Nat.le_refl _, fun _ _ => Nat.le_refl _, fun _ _ _ => rfl, fun _ _ _ => rfl, fun _ _ _ => rfl, fun _ _ => rfl, fun _ _ => rfl⟩
theorem Loc.le.trans {S S' S'' : Loc} (h : S.le S') (k : S'.le S'') : S.le S'' where
  next := Nat.le_trans h.next k.next
  gen id hi := Nat.le_trans (h.gen id hi) (k.gen id (Nat.lt_of_lt_of_le hi h.next))
  blk id hi hg := by
    have h1 := h.gen id hi
    have h2 := k.gen id (Nat.lt_of_lt_of_le hi h.next)
    rw [k.blk id (Nat.lt_of_lt_of_le hi h.next) (by omega), h.blk id hi (by omega)]
  base id hi hg := by
    have h1 := h.gen id hi
    have h2 := k.gen id (Nat.lt_of_lt_of_le hi h.next)
    rw [k.base id (Nat.lt_of_lt_of_le hi h.next) (by omega), h.base id hi (by omega)]
  room id hi hg := by
    have h1 := h.gen id hi
    have h2 := k.gen id (Nat.lt_of_lt_of_le hi h.next)
    rw [k.room id (Nat.lt_of_lt_of_le hi h.next) (by omega), h.room id hi (by omega)]
  own id hi := by rw [k.own id (Nat.lt_of_lt_of_le hi h.next), h.own id hi]
  esz id hi := by rw [k.esz id (Nat.lt_of_lt_of_le hi h.next), h.esz id hi]

mutual
/-- A value stands for a value of the model. -/
inductive VR (S : Loc) : V → Value → Prop
  | un (c : Value) : VR S .un c
  | b (x : Bool) : VR S (.b x) (.bool x)
  | i (k : IntKind) (n : Int) : VR S (.i k n) (.int k n)
  | s (l : List UInt8) (c : ByteArray) (h : c.data.toList = l) : VR S (.s l) (.string c)
  | pnil : VR S (.p none) (.pointer none)
  | p (id g off : Nat) (a : Addr) (h1 : id < S.next) (h2 : g ≤ S.gen id) (h3 : g = S.gen id → a = ⟨S.blk id, S.base id + off, none⟩) : VR S (.p (some (id, g, off))) (.pointer (some a))
  | slnil (c : Bool) : VR S (.sl none 0 c) (.slice none 0 0)
  | sl (id g off len cap : Nat) (clip : Bool) (a : Addr) (h1 : id < S.next) (h2 : g ≤ S.gen id) (hl : len ≤ cap)
      (h3 : g = S.gen id → 0 < cap → a = ⟨S.blk id, S.base id + off, none⟩) (h4 : clip = true → cap = len)
      (h5 : g = S.gen id → S.own id = true → 0 < S.esz id → clip = false → S.base id + off + cap * S.esz id = S.room id) : VR S (.sl (some (id, g, off)) len clip) (.slice (some a) len cap)
  | mnil : VR S (.m none) (.map none)
  | m (id r : Nat) (h1 : id < S.next) (h2 : S.gen id = 0 → r = S.blk id) : VR S (.m (some id)) (.map (some r))
  | fn (f : Fn) (first caps : List V) (first' caps' : List Value) (h1 : VRs S first first') (h2 : VRs S caps caps') : VR S (.fn f first caps) (.func f first'.toArray caps'.toArray)
  | nf : VR S .nf .nilFunc
  | ifc (t : TypeId) (v : V) (c : Value) (h : VR S v c) : VR S (.ifc t v) (.iface t c)
  | nif : VR S .nif .nilIface
  | agg (l : List V) (l' : List Value) (h : VRs S l l') (h2 : ∀ c ∈ l', c.oneCell' = true) : VR S (.agg l) (.agg l'.toArray)
  | tup (l : List V) (l' : List Value) (h : VRs S l l') : VR S (.tup l) (.tuple l'.toArray)
  | yl (id r : Nat) (h1 : id < S.next) (h2 : S.gen id = 0 → r = S.blk id) : VR S (.yl id) (.func (.yield r) #[] #[])
inductive VRs (S : Loc) : List V → List Value → Prop
  | nil : VRs S [] []
  | cons (v : V) (c : Value) (l : List V) (l' : List Value) (h : VR S v c) (t : VRs S l l') : VRs S (v :: l) (c :: l')
end

mutual
theorem VR.mono {S S' : Loc} (hS : S.le S') {v : V} {c : Value} (h : VR S v c) : VR S' v c := by
  cases h with
  | un => exact .un _
  | b x => exact .b x
  | i k n => exact .i k n
  | s l c h => exact .s l c h
  | pnil => exact .pnil
  | p id g off a h1 h2 h3 =>
    have hg := hS.gen id h1
    refine .p id g off a (Nat.lt_of_lt_of_le h1 hS.next) (by omega) fun e => ?_
    rw [hS.blk id h1 (by omega), hS.base id h1 (by omega)]
    exact h3 (by omega)
  | slnil c => exact .slnil c
  | sl id g off len cap clip a h1 h2 hl h3 h4 h5 =>
    have hg := hS.gen id h1
    refine .sl id g off len cap clip a (Nat.lt_of_lt_of_le h1 hS.next) (by omega) hl (fun e => ?_) h4 (fun e => ?_)
    · rw [hS.blk id h1 (by omega), hS.base id h1 (by omega)]
      exact h3 (by omega)
    · rw [hS.own id h1, hS.base id h1 (by omega), hS.esz id h1, hS.room id h1 (by omega)]
      exact h5 (by omega)
  | mnil => exact .mnil
  | m id r h1 h2 =>
    have hg := hS.gen id h1
    refine .m id r (Nat.lt_of_lt_of_le h1 hS.next) fun e => ?_
    rw [hS.blk id h1 (by omega)]
    exact h2 (by omega)
  | fn f first caps first' caps' h1 h2 => exact .fn f first caps first' caps' (VRs.mono hS h1) (VRs.mono hS h2)
  | nf => exact .nf
  | ifc t v c h => exact .ifc t v c (VR.mono hS h)
  | nif => exact .nif
  | agg l l' h h2 => exact .agg l l' (VRs.mono hS h) h2
  | tup l l' h => exact .tup l l' (VRs.mono hS h)
  | yl id r h1 h2 =>
    have hg := hS.gen id h1
    refine .yl id r (Nat.lt_of_lt_of_le h1 hS.next) fun e => ?_
    rw [hS.blk id h1 (by omega)]
    exact h2 (by omega)
theorem VRs.mono {S S' : Loc} (hS : S.le S') {v : List V} {c : List Value} (h : VRs S v c) : VRs S' v c := by
  cases h with
  | nil => exact .nil
  | cons v c l l' h t => exact .cons v c l l' (VR.mono hS h) (VRs.mono hS t)
end

theorem VRs.length {S : Loc} : ∀ {l : List V} {l' : List Value}, VRs S l l' → l.length = l'.length
  | [], [], _ => rfl
  | _ :: _, _ :: _, .cons _ _ _ _ _ t => by simp [t.length]
theorem VRs.get {S : Loc} : ∀ {l : List V} {l' : List Value}, VRs S l l' → ∀ (j : Nat) (v : V), l[j]? = some v → ∃ c, l'[j]? = some c ∧ VR S v c
  | [], _, _, j, v, h => by simp at h
  | _ :: _, _, .cons v c l l' h t, 0, u, hu => by
    simp at hu; subst hu; exact ⟨c, by simp, h⟩
  | _ :: _, _, .cons v c l l' h t, j + 1, u, hu => by
    simp at hu; exact VRs.get t j u hu
theorem VRs.of {S : Loc} : ∀ {l : List V} {l' : List Value}, l.length = l'.length → (∀ (j : Nat) (v : V) (c : Value), l[j]? = some v → l'[j]? = some c → VR S v c) → VRs S l l'
  | [], [], _, _ => .nil
  | v :: l, c :: l', hl, h => .cons v c l l' (h 0 v c rfl rfl) (VRs.of (by simpa using hl) fun j v c hv hc => h (j + 1) v c (by simpa using hv) (by simpa using hc))
  | [], _ :: _, hl, _ => by simp at hl
  | _ :: _, [], hl, _ => by simp at hl
theorem VRs.append {S : Loc} : ∀ {l : List V} {l' : List Value} {k k'}, VRs S l l' → VRs S k k' → VRs S (l ++ k) (l' ++ k')
  | [], [], _, _, _, hk => hk
  | _ :: _, _ :: _, _, _, .cons v c l l' h t, hk => .cons v c _ _ h (t.append hk)
theorem VRs.drop {S : Loc} : ∀ {l : List V} {l' : List Value} (n : Nat), VRs S l l' → VRs S (l.drop n) (l'.drop n)
  | _, _, 0, h => by simpa using h
  | [], [], _ + 1, _ => by simpa using VRs.nil
  | _ :: _, _ :: _, n + 1, .cons v c l l' h t => by simpa using t.drop n
theorem VRs.take {S : Loc} : ∀ {l : List V} {l' : List Value} (n : Nat), VRs S l l' → VRs S (l.take n) (l'.take n)
  | _, _, 0, h => by simpa using VRs.nil
  | [], [], _ + 1, _ => by simpa using VRs.nil
  | _ :: _, _ :: _, n + 1, .cons v c l l' h t => by simpa using VRs.cons v c _ _ h (t.take n)
theorem VRs.set {S : Loc} : ∀ {l : List V} {l' : List Value} (n : Nat) {v c}, VRs S l l' → VR S v c → VRs S (l.set n v) (l'.set n c)
  | [], [], _, _, _, _, _ => by simpa using VRs.nil
  | _ :: _, _ :: _, 0, _, _, .cons v c l l' h t, hv => by simpa using VRs.cons _ _ _ _ hv t
  | _ :: _, _ :: _, n + 1, _, _, .cons v c l l' h t, hv => by simpa using VRs.cons v c _ _ h (t.set n hv)

/-- Where the call began: the world, and what lay where. -/
structure Ctx where
  w0 : World
  S0 : Loc
/-- A block that was one's own when the call began. -/
def Ctx.mine (C : Ctx) (k : Nat) : Prop := ∃ id, id < C.S0.next ∧ C.S0.own id = true ∧ C.S0.blk id = k
/-- What isn't one's own is as it was. -/
structure Fr (C : Ctx) (w : World) : Prop where
  os : w.os = C.w0.os
  tape : w.tape = C.w0.tape
  output : w.output = C.w0.output
  size : C.w0.heap.size ≤ w.heap.size
  block : ∀ k, k < C.w0.heap.size → ¬ C.mine k → w.heap[k]? = C.w0.heap[k]?

/-- An object lies in the world. -/
def OR (S : Loc) (w : World) (id : Nat) : O → Prop
  | .cells c gen ro esz => gen = S.gen id ∧ esz = S.esz id ∧
      (∀ j v, c[j]? = some v → ∃ cv, w.cell? ⟨S.blk id, S.base id + j, none⟩ = some cv ∧ VR S v cv ∧ cv.oneCell' = true) ∧
      (S.own id = true → ∃ cs el fr, w.heap[S.blk id]? = some (.cells cs el fr) ∧ cs.size = S.room id ∧ S.base id + c.length ≤ S.room id ∧
        (ro = false → ∀ o, o < S.room id → (decide (fr.1 ≤ o) && decide (o < fr.2)) = false)) ∧ (ro = false → S.own id = true)
  | .map es clock => S.gen id = 0 ∧ S.own id = true ∧ ∃ ces : Array MapEntry, w.heap[S.blk id]? = some (.map ces clock) ∧
      VRs S (es.map (·.1)) (ces.toList.map (·.key)) ∧ VRs S (es.map (·.2.1)) (ces.toList.map (·.val)) ∧ es.map (·.2.2) = ces.toList.map (·.born)
  | .strIter s pos => S.gen id = 0 ∧ S.own id = true ∧ S.base id = 0 ∧ ∃ cs : ByteArray, cs.data.toList = s ∧ w.heap[S.blk id]? = some (.stringIter cs pos)
  | .mapIter m since seen stepped => S.gen id = 0 ∧ S.own id = true ∧ S.base id = 0 ∧ ∃ cm, VR S (.m m) (.map cm) ∧ w.heap[S.blk id]? = some (.mapIter cm since seen.toArray stepped)
  | .loop tag st pe ρ ps asg body => S.gen id = 0 ∧ S.own id = true ∧ S.base id = 0 ∧ ∃ r : Loop, w.heap[S.blk id]? = some (.loop r) ∧ r.state = st ∧ r.pending = pe ∧ r.params = ps ∧ r.assign = asg ∧ r.body = body ∧
      r.tmps.size = ρ.n ∧ ∀ t, VR S (ρ.get t) (r.tmps.getD t undef)

structure HR (C : Ctx) (S : Loc) (H : AH) (w : World) : Prop where
  next : H.next = S.next
  obj : ∀ id o, H.get id = some o → OR S w id o
  some : ∀ id, id < S.next → (H.get id).isSome = true
  lt : ∀ id, id < S.next → S.own id = true → S.blk id < w.heap.size ∧ (C.w0.heap.size ≤ S.blk id ∨ C.mine (S.blk id))
  foreign : ∀ id, id < S.next → S.own id = false → (S.blk id < w.heap.size ∧ ∀ id', id' < S.next → S.own id' = true → S.blk id' ≠ S.blk id) ∨ ∃ g esz, H.get id = Option.some (.cells [] g true esz)
  sep : ∀ id id', id < S.next → id' < S.next → S.own id = true → S.own id' = true → S.blk id = S.blk id' → id = id'
  below : Fr C w

/-- What a block holds is what an object asks for. -/
theorem OR.block {S S' : Loc} {w w' : World} {id : Nat} {o : O} (h : OR S w id o) (hS : S.le S') (hi : id < S.next) (hg : S'.gen id = S.gen id)
    (hb : w'.heap[S.blk id]? = w.heap[S.blk id]?) : OR S' w' id o := by
  have e1 := hS.blk id hi hg
  have e2 := hS.base id hi hg
  have e3 := hS.room id hi hg
  have e4 := hS.own id hi
  have e5 := hS.esz id hi
  cases o with
  | cells c gen ro esz =>
    obtain ⟨h1, h2, h3, h4, h5⟩ := h
    refine ⟨by rw [hg]; exact h1, by rw [e5]; exact h2, fun j v hj => ?_, fun hr => ?_, fun hr => by rw [e4]; exact h5 hr⟩
    · obtain ⟨cv, hc, hv, h1⟩ := h3 j v hj
      refine ⟨cv, ?_, hv.mono hS, h1⟩
      rw [e1, e2]
      rw [World.cell?_of_block (w := w) (by simpa using hb)]; exact hc
    · rw [e4] at hr
      obtain ⟨cs, el, fr, hh, hs, hl, hf⟩ := h4 hr
      exact ⟨cs, el, fr, by rw [e1, hb]; exact hh, by rw [e3]; exact hs, by rw [e2, e3]; exact hl, by rw [e3]; exact hf⟩
  | map es clock =>
    obtain ⟨h1, h2, ces, h3, h4, h5, h6⟩ := h
    exact ⟨by rw [hg]; exact h1, by rw [e4]; exact h2, ces, by rw [e1, hb]; exact h3, h4.mono hS, h5.mono hS, h6⟩
  | strIter s pos =>
    obtain ⟨h1, h2, h0, cs, h3, h4⟩ := h
    exact ⟨by rw [hg]; exact h1, by rw [e4]; exact h2, by rw [e2]; exact h0, cs, h3, by rw [e1, hb]; exact h4⟩
  | mapIter m since seen stepped =>
    obtain ⟨h1, h2, h0, cm, h3, h4⟩ := h
    exact ⟨by rw [hg]; exact h1, by rw [e4]; exact h2, by rw [e2]; exact h0, cm, h3.mono hS, by rw [e1, hb]; exact h4⟩
  | loop tag st pe ρ ps asg body =>
    obtain ⟨h1, h2, h0, r, h3, h4, h5, h6, h7, h8, h9, hr⟩ := h
    exact ⟨by rw [hg]; exact h1, by rw [e4]; exact h2, by rw [e2]; exact h0, r, by rw [e1, hb]; exact h3, h4, h5, h6, h7, h8, h9, fun t => (hr t).mono hS⟩

/-- An object without cells that isn't one's own lies in each world. -/
theorem OR.empty {S S' : Loc} {w w' : World} {id g esz : Nat} (h : OR S w id (.cells [] g true esz)) (hS : S.le S') (hi : id < S.next) (hg : S'.gen id = S.gen id) (ho : S.own id = false) : OR S' w' id (.cells [] g true esz) := by
  obtain ⟨h1, h2, _, _, _⟩ := h
  have ho' : ¬ S'.own id = true := by rw [hS.own id hi, ho]; simp
  exact ⟨by rw [hg]; exact h1, by rw [hS.esz id hi]; exact h2, fun j v hj => by simp at hj, fun h => absurd h ho', fun h => by cases h⟩

/-- A draw. -/
theorem Fr.drew {C : Ctx} {w : World} (h : Fr C w) : Fr C { w with drawn := w.drawn + 1 } := ⟨h.os, h.tape, h.output, h.size, h.block⟩
theorem HR.drew {C : Ctx} {S : Loc} {H : AH} {w : World} (h : HR C S H w) : HR C S H { w with drawn := w.drawn + 1 } where
  next := h.next
  obj id o ho := (h.obj id o ho).block (Loc.le.refl S) (by rw [← h.next]; exact AH.get_lt ho) rfl rfl
  some := h.some
  lt := h.lt
  foreign := h.foreign
  sep := h.sep
  below := h.below.drew

/-- A state may be taken as where a call begins. -/
theorem HR.rebase {C : Ctx} {S : Loc} {H : AH} {w : World} (h : HR C S H w) : HR ⟨w, S⟩ S H w where
  next := h.next
  obj := h.obj
  some := h.some
  lt id hi ho := ⟨(h.lt id hi ho).1, .inr ⟨id, hi, ho, rfl⟩⟩
  foreign := h.foreign
  sep := h.sep
  below := ⟨rfl, rfl, rfl, Nat.le_refl _, fun _ _ _ => rfl⟩
theorem Fr.back {C : Ctx} {S : Loc} {H : AH} {w w' : World} (h : HR C S H w) (k : Fr ⟨w, S⟩ w') : Fr C w' where
  os := k.os.trans h.below.os
  tape := k.tape.trans h.below.tape
  output := k.output.trans h.below.output
  size := Nat.le_trans h.below.size k.size
  block b hb hm := by
    have h1 := k.block b (Nat.lt_of_lt_of_le hb h.below.size) fun ⟨id, hi, ho, e⟩ => by
      have hi' : id < S.next := hi
      have ho' : S.own id = true := ho
      have e' : S.blk id = b := e
      rcases (h.lt id hi' ho').2 with h2 | h2
      · omega
      · exact hm (e' ▸ h2)
    exact h1.trans (h.below.block b hb hm)
theorem HR.back {C : Ctx} {S S' : Loc} {H H' : AH} {w w' : World} (h : HR C S H w) (k : HR ⟨w, S⟩ S' H' w') : HR C S' H' w' where
  next := k.next
  obj := k.obj
  some := k.some
  lt id hi ho := by
    refine ⟨(k.lt id hi ho).1, ?_⟩
    rcases (k.lt id hi ho).2 with h1 | ⟨id', hi', ho', e⟩
    · exact .inl (Nat.le_trans h.below.size h1)
    · rw [← e]; exact (h.lt id' hi' ho').2
  foreign := k.foreign
  sep := k.sep
  below := Fr.back h k.below

/-- The locator with one object more. -/
def Loc.add (S : Loc) (blk base esz room : Nat) : Loc :=
  { next := S.next + 1, gen := fun id => if id = S.next then 0 else S.gen id, blk := fun id => if id = S.next then blk else S.blk id, base := fun id => if id = S.next then base else S.base id,
    own := fun id => if id = S.next then true else S.own id, esz := fun id => if id = S.next then esz else S.esz id, room := fun id => if id = S.next then room else S.room id }
theorem Loc.le_add (S : Loc) (blk base esz room : Nat) : S.le (S.add blk base esz room) where
  next := Nat.le_succ _
  gen id h := by simp [Loc.add, Nat.ne_of_lt h]
  blk id h _ := by simp [Loc.add, Nat.ne_of_lt h]
  base id h _ := by simp [Loc.add, Nat.ne_of_lt h]
  room id h _ := by simp [Loc.add, Nat.ne_of_lt h]
  own id h := by simp [Loc.add, Nat.ne_of_lt h]
  esz id h := by simp [Loc.add, Nat.ne_of_lt h]

/-- A new object in a new block. -/
theorem HR.new {C : Ctx} {S : Loc} {H : AH} {w : World} (h : HR C S H w) (o : O) (ob : Obj) (esz room : Nat)
    (ho : OR (S.add w.heap.size 0 esz room) { w with heap := w.heap.push ob } S.next o) :
    HR C (S.add w.heap.size 0 esz room) (H.new o) { w with heap := w.heap.push ob } where
  next := by simp [Loc.add, h.next]
  obj id o' ho' := by
    rw [AH.get_new] at ho'
    split at ho'
    · rename_i e
      cases ho'
      rw [e, h.next]; exact ho
    · rename_i e
      have hlt : id < S.next := by rw [← h.next]; exact AH.get_lt ho'
      have hin : S.blk id < w.heap.size ∨ (S.own id = false ∧ ∃ g esz, H.get id = Option.some (.cells [] g true esz)) := by
        cases hown : S.own id with
        | true => exact .inl (h.lt id hlt hown).1
        | false => exact (h.foreign id hlt hown).imp (fun hb => hb.1) (fun he => ⟨rfl, he⟩)
      rcases hin with this | ⟨hown, g, esz', he⟩
      · refine (h.obj id o' ho').block (Loc.le_add ..) hlt (by simp [Loc.add, Nat.ne_of_lt hlt]) ?_
        simp only [Array.getElem?_push]
        rw [if_neg (by omega)]
      · rw [he] at ho'; cases ho'
        exact (h.obj id _ he).empty (Loc.le_add ..) hlt (by simp [Loc.add, Nat.ne_of_lt hlt]) hown
  some id hid := by
    rw [AH.get_new]
    split
    · rfl
    · rename_i e
      exact h.some id (by have : id < S.next + 1 := hid; rw [h.next] at e; omega)
  lt id hid hown := by
    have hid' : id < S.next + 1 := hid
    simp only [Loc.add] at hown ⊢
    by_cases e : id = S.next
    · subst e; simp; exact .inl h.below.size
    · simp only [e, if_false] at hown ⊢
      have := h.lt id (by omega) hown
      exact ⟨by simp; omega, this.2⟩
  foreign id hid hown := by
    have hid' : id < S.next + 1 := hid
    simp only [Loc.add] at hown ⊢
    by_cases e : id = S.next
    · subst e; simp at hown
    · simp only [e, if_false] at hown ⊢
      rw [AH.get_new, if_neg (by rw [h.next]; exact e)]
      refine (h.foreign id (by omega) hown).imp (fun hb => ⟨by simp; omega, fun id' hi' ho' => ?_⟩) fun h => h
      by_cases e' : id' = S.next
      · simp only [e', if_true]; omega
      · simp only [e', if_false] at ho' ⊢
        exact hb.2 id' (by omega) ho'
  sep id id' hi hi' ho ho' hb := by
    have h1 : id < S.next + 1 := hi
    have h2 : id' < S.next + 1 := hi'
    simp only [Loc.add] at ho ho' hb
    by_cases e : id = S.next <;> by_cases e' : id' = S.next
    · omega
    · simp only [e, e', if_true, if_false] at ho' hb
      have := (h.lt id' (by omega) ho').1
      omega
    · simp only [e, e', if_true, if_false] at ho hb
      have := (h.lt id (by omega) ho).1
      omega
    · simp only [e, e', if_false] at ho ho' hb
      exact h.sep id id' (by omega) (by omega) ho ho' hb
  below := by
    refine ⟨h.below.os, h.below.tape, h.below.output, ?_, fun k hk hm => ?_⟩
    · have := h.below.size
      simp only [Array.size_push]
      omega
    · rw [← h.below.block k hk hm]
      have := h.below.size
      simp only [Array.getElem?_push]
      rw [if_neg (by omega)]

/-- An object of one's own is written in its block. -/
theorem HR.write {C : Ctx} {S : Loc} {H : AH} {w : World} (h : HR C S H w) (id : Nat) (hid : id < S.next) (hown : S.own id = true) (o : O) (ob : Obj)
    (ho : OR S { w with heap := w.heap.setIfInBounds (S.blk id) ob } id o) :
    HR C S (H.set id o) { w with heap := w.heap.setIfInBounds (S.blk id) ob } where
  next := by simp [h.next]
  obj id' o' ho' := by
    rw [AH.get_set] at ho'
    split at ho'
    · rename_i e
      subst e
      split at ho'
      · cases ho'; exact ho
      · cases ho'
    · rename_i e
      have hlt : id' < S.next := by rw [← h.next]; exact AH.get_lt ho'
      have hne : S.blk id' ≠ S.blk id ∨ (S.own id' = false ∧ ∃ g esz, H.get id' = Option.some (.cells [] g true esz)) := by
        cases hown' : S.own id' with
        | true => exact .inl fun hb => e (h.sep id' id hlt hid hown' hown hb)
        | false => exact (h.foreign id' hlt hown').imp (fun h1 hb => h1.2 id hid hown hb.symm) (fun he => ⟨rfl, he⟩)
      rcases hne with hne | ⟨hown', g, esz', he⟩
      · refine (h.obj id' o' ho').block (Loc.le.refl S) hlt rfl ?_
        simp only [Array.getElem?_setIfInBounds]
        rw [if_neg (fun e => hne e.symm)]
      · rw [he] at ho'; cases ho'
        exact (h.obj id' _ he).empty (Loc.le.refl S) hlt rfl hown'
  some id' hid' := by
    rw [AH.get_set]
    split
    · rw [h.next, if_pos hid]; rfl
    · exact h.some id' hid'
  lt id' hi ho := by simpa using h.lt id' hi ho
  foreign id' hi hno := by
    have hne : id' ≠ id := by rintro rfl; rw [hown] at hno; cases hno
    rw [AH.get_set_ne hne]
    simpa using h.foreign id' hi hno
  sep := h.sep
  below := by
    refine ⟨h.below.os, h.below.tape, h.below.output, by simpa using h.below.size, fun k hk hm => ?_⟩
    rw [← h.below.block k hk hm]
    have := (h.lt id hid hown).2
    simp only [Array.getElem?_setIfInBounds]
    rw [if_neg (fun e => by rcases this with h1 | h1; omega; exact hm (e ▸ h1))]

end Go.Abs
