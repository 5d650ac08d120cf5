/-
  The abstract machine (part A): a logic over abstract states, proved sound once. No conditions.
-/
import Derived.Orders
import Derived.Below
import Derived.Laws.Sem
import Derived.Laws.Cells
import Derived.Laws.Strings
import Derived.KernelRfl
import Derived.Laws.AppendOwn
import Derived.Laws.StructEq
import Derived.Laws.Concat
import Derived.Lib.Builder
import Derived.Laws.BytesString
import Derived.Lib.UnsafeStr
import Derived.LaidEqlPtr
set_option linter.unusedVariables false
set_option linter.unusedSimpArgs false
namespace Go.Abs
open Go Go.RowKit

/-- Values: addresses name an object, its generation and a cell. -/
inductive V where
  | b (x : Bool)
  | i (k : IntKind) (n : Int)
  | s (l : List UInt8)
  | p (x : Option (Nat × Nat × Nat))
  | sl (x : Option (Nat × Nat × Nat)) (len : Nat) (clip : Bool)
  | m (x : Option Nat)
  | fn (f : Fn) (first caps : List V)
  | nf
  | ifc (t : TypeId) (v : V)
  | nif
  | agg (l : List V)
  | tup (l : List V)
  | un
  /-- The yield of a range over a function: its loop's record. -/
  | yl (id : Nat)
  deriving Inhabited

/-- The cells of a value that lies in memory. -/
def V.cells : V → Option (List V)
  | .agg l => some l
  | .tup _ => none
  | .un => none
  | v => some [v]

/-! Environments. -/
structure Env where
  n : Nat
  l : List (Nat × V)
def Env.look : List (Nat × V) → Nat → V
  | [], _ => .un
  | (t, v) :: l, u => if t = u then v else Env.look l u
def Env.get (ρ : Env) (t : Nat) : V := Env.look ρ.l t

/-- Objects. -/
inductive O where
  | cells (c : List V) (gen : Nat) (ro : Bool) (esz : Nat)
  | map (es : List (V × V × Nat)) (clock : Nat)
  | strIter (s : List UInt8) (pos : Nat)
  | mapIter (m : Option Nat) (since : Nat) (seen : List Nat) (stepped : Nat)
  | loop (tag : Nat) (st : LoopState) (pe : Option Code) (ρ : Env) (ps : Array Tmp) (asg body : Code)
  deriving Inhabited

/-- A finite table: a binary tree by the number's bits. -/
inductive T where
  | e
  | n (v : Option O) (l r : T)

def T.get : T → Nat → Option O
  | .e, _ => none
  | .n v l r, k => if k = 0 then v else if k % 2 = 1 then l.get (k / 2) else r.get (k / 2 - 1)

def T.set : Nat → T → Nat → O → T
  | 0, t, _, _ => t
  | f + 1, .e, k, o => if k = 0 then .n (some o) .e .e else if k % 2 = 1 then .n none (T.set f .e (k / 2) o) .e else .n none .e (T.set f .e (k / 2 - 1) o)
  | f + 1, .n v l r, k, o => if k = 0 then .n (some o) l r else if k % 2 = 1 then .n v (T.set f l (k / 2) o) r else .n v l (T.set f r (k / 2 - 1) o)

theorem T.get_set (f : Nat) : ∀ (t : T) (k j : Nat) (o : O), k < f → (T.set f t k o).get j = if j = k then some o else t.get j := by
  induction f with
  | zero => intro t k j o h; omega
  | succ f ih =>
    intro t k j o h
    cases t with
    | e =>
      simp only [T.set]
      by_cases hk : k = 0
      · subst hk
        simp only [if_true, T.get]
        by_cases hj : j = 0 <;> simp [hj, T.get]
      · simp only [hk, if_false]
        by_cases hk2 : k % 2 = 1
        · simp only [hk2, if_true, T.get]
          by_cases hj : j = 0
          · subst hj; simp; omega
          · simp only [hj, if_false]
            by_cases hj2 : j % 2 = 1
            · simp only [hj2, if_true]
              rw [ih _ _ _ _ (by omega)]
              have : (j / 2 = k / 2) ↔ j = k := by omega
              simp [this, T.get]
            · simp only [hj2, if_false]
              have : j ≠ k := by intro e; omega
              simp [this, T.get]
        · simp only [hk2, if_false, T.get]
          by_cases hj : j = 0
          · subst hj; simp; omega
          · simp only [hj, if_false]
            by_cases hj2 : j % 2 = 1
            · simp only [hj2, if_true]
              have : j ≠ k := by intro e; omega
              simp [this, T.get]
            · simp only [hj2, if_false]
              rw [ih _ _ _ _ (by omega)]
              have : (j / 2 - 1 = k / 2 - 1) ↔ j = k := by omega
              simp [this, T.get]
    | n v l r =>
      simp only [T.set]
      by_cases hk : k = 0
      · subst hk
        simp only [if_true, T.get]
        by_cases hj : j = 0 <;> simp [hj]
      · simp only [hk, if_false]
        by_cases hk2 : k % 2 = 1
        · simp only [hk2, if_true, T.get]
          by_cases hj : j = 0
          · subst hj; simp; omega
          · simp only [hj, if_false]
            by_cases hj2 : j % 2 = 1
            · simp only [hj2, if_true]
              rw [ih _ _ _ _ (by omega)]
              have : (j / 2 = k / 2) ↔ j = k := by omega
              simp [this]
            · simp only [hj2, if_false]
              have : j ≠ k := by intro e; omega
              simp [this]
        · simp only [hk2, if_false, T.get]
          by_cases hj : j = 0
          · subst hj; simp; omega
          · simp only [hj, if_false]
            by_cases hj2 : j % 2 = 1
            · simp only [hj2, if_true]
              have : j ≠ k := by intro e; omega
              simp [this]
            · simp only [hj2, if_false]
              rw [ih _ _ _ _ (by omega)]
              have : (j / 2 - 1 = k / 2 - 1) ↔ j = k := by omega
              simp [this]

/-- Memory: how many objects there are, and the objects. -/
structure AH where
  next : Nat
  tab : T

def AH.get (H : AH) (k : Nat) : Option O := if k < H.next then H.tab.get k else none
def AH.set (H : AH) (k : Nat) (o : O) : AH := { H with tab := T.set (k + 1) H.tab k o }
def AH.new (H : AH) (o : O) : AH := { next := H.next + 1, tab := T.set (H.next + 1) H.tab H.next o }

theorem AH.get_lt {H : AH} {k : Nat} {o : O} (h : H.get k = some o) : k < H.next := by
  unfold AH.get at h; split at h
  · assumption
  · cases h
@[simp] theorem AH.next_set (H : AH) (k : Nat) (o : O) : (H.set k o).next = H.next := rfl
@[simp] theorem AH.next_new (H : AH) (o : O) : (H.new o).next = H.next + 1 := rfl
theorem AH.get_set (H : AH) (k j : Nat) (o : O) : (H.set k o).get j = if j = k then (if k < H.next then some o else none) else H.get j := by
  unfold AH.get AH.set
  simp only [T.get_set _ _ _ _ _ (Nat.lt_succ_self k)]
  by_cases hj : j = k
  · subst hj; simp
  · simp [hj]
theorem AH.get_set_same {H : AH} {k : Nat} {o : O} (h : k < H.next) : (H.set k o).get k = some o := by simp [AH.get_set, h]
theorem AH.get_set_ne {H : AH} {k j : Nat} {o : O} (h : j ≠ k) : (H.set k o).get j = H.get j := by simp [AH.get_set, h]
theorem AH.get_new (H : AH) (j : Nat) (o : O) : (H.new o).get j = if j = H.next then some o else H.get j := by
  unfold AH.get AH.new
  simp only [T.get_set _ _ _ _ _ (Nat.lt_succ_self _)]
  by_cases hj : j = H.next
  · subst hj; simp
  · simp only [hj, if_false]
    by_cases h : j < H.next
    · simp [h, Nat.lt_succ_of_lt h]
    · have : ¬ j < H.next + 1 := by omega
      simp [h, this]
theorem AH.get_new_same (H : AH) (o : O) : (H.new o).get H.next = some o := by simp [AH.get_new]
theorem AH.get_new_old {H : AH} {j : Nat} {o o' : O} (h : H.get j = some o') : (H.new o).get j = some o' := by
  have := AH.get_lt h
  rw [AH.get_new, if_neg (by omega), h]

/-- Where the objects lie. -/
structure Loc where
  next : Nat
  gen : Nat → Nat
  blk : Nat → Nat
  base : Nat → Nat
  own : Nat → Bool
  esz : Nat → Nat
  room : Nat → Nat
  /-- May the library's contracts be used that don't tell what is drawn? -/
  loose : Bool

def Loc.none : Loc := ⟨0, fun _ => 0, fun _ => 0, fun _ => 0, fun _ => false, fun _ => 0, fun _ => 0, true⟩
def Loc.tight : Loc := { Loc.none with loose := false }
structure Loc.le (S S' : Loc) : Prop where
  next : S.next ≤ S'.next
  gen : ∀ id, id < S.next → S.gen id ≤ S'.gen id
  blk : ∀ id, id < S.next → S'.gen id = S.gen id → S'.blk id = S.blk id
  base : ∀ id, id < S.next → S'.gen id = S.gen id → S'.base id = S.base id
  room : ∀ id, id < S.next → S'.gen id = S.gen id → S'.room id = S.room id
  own : ∀ id, id < S.next → S'.own id = S.own id
  esz : ∀ id, id < S.next → S'.esz id = S.esz id

theorem Loc.le.refl (S : Loc) : S.le S := ⟨Nat.le_refl _, fun _ _ => Nat.le_refl _, fun _ _ _ => rfl, fun _ _ _ => rfl, fun _ _ _ => rfl, fun _ _ => rfl, fun _ _ => rfl⟩
theorem Loc.le.trans {S S' S'' : Loc} (h : S.le S') (k : S'.le S'') : S.le S'' where
  next := Nat.le_trans h.next k.next
  gen id hi := Nat.le_trans (h.gen id hi) (k.gen id (Nat.lt_of_lt_of_le hi h.next))
  blk id hi hg := by
    have h1 := h.gen id hi
    have h2 := k.gen id (Nat.lt_of_lt_of_le hi h.next)
    rw [k.blk id (Nat.lt_of_lt_of_le hi h.next) (by omega), h.blk id hi (by omega)]
  base id hi hg := by
    have h1 := h.gen id hi
    have h2 := k.gen id (Nat.lt_of_lt_of_le hi h.next)
    rw [k.base id (Nat.lt_of_lt_of_le hi h.next) (by omega), h.base id hi (by omega)]
  room id hi hg := by
    have h1 := h.gen id hi
    have h2 := k.gen id (Nat.lt_of_lt_of_le hi h.next)
    rw [k.room id (Nat.lt_of_lt_of_le hi h.next) (by omega), h.room id hi (by omega)]
  own id hi := by rw [k.own id (Nat.lt_of_lt_of_le hi h.next), h.own id hi]
  esz id hi := by rw [k.esz id (Nat.lt_of_lt_of_le hi h.next), h.esz id hi]

mutual
/-- A value stands for a value of the model. -/
inductive VR (S : Loc) : V → Value → Prop
  | un (c : Value) : VR S .un c
  | b (x : Bool) : VR S (.b x) (.bool x)
  | i (k : IntKind) (n : Int) : VR S (.i k n) (.int k n)
  | s (l : List UInt8) (c : ByteArray) (h : c.data.toList = l) : VR S (.s l) (.string c)
  | pnil : VR S (.p none) (.pointer none)
  | p (id g off : Nat) (a : Addr) (h1 : id < S.next) (h2 : g ≤ S.gen id) (h3 : g = S.gen id → a = ⟨S.blk id, S.base id + off, none⟩) : VR S (.p (some (id, g, off))) (.pointer (some a))
  | slnil (c : Bool) : VR S (.sl none 0 c) (.slice none 0 0)
  | sl (id g off len cap : Nat) (clip : Bool) (a : Addr) (h1 : id < S.next) (h2 : g ≤ S.gen id) (hl : len ≤ cap)
      (h3 : g = S.gen id → 0 < cap → a = ⟨S.blk id, S.base id + off, none⟩) (h4 : clip = true → cap = len)
      (h5 : g = S.gen id → S.own id = true → 0 < S.esz id → clip = false → S.base id + off + cap * S.esz id = S.room id) : VR S (.sl (some (id, g, off)) len clip) (.slice (some a) len cap)
  | mnil : VR S (.m none) (.map none)
  | m (id r : Nat) (h1 : id < S.next) (h2 : S.gen id = 0 → r = S.blk id) : VR S (.m (some id)) (.map (some r))
  | fn (f : Fn) (first caps : List V) (first' caps' : List Value) (h1 : VRs S first first') (h2 : VRs S caps caps') : VR S (.fn f first caps) (.func f first'.toArray caps'.toArray)
  | nf : VR S .nf .nilFunc
  | ifc (t : TypeId) (v : V) (c : Value) (h : VR S v c) : VR S (.ifc t v) (.iface t c)
  | nif : VR S .nif .nilIface
  | agg (l : List V) (l' : List Value) (h : VRs S l l') (h2 : ∀ c ∈ l', c.oneCell' = true) : VR S (.agg l) (.agg l'.toArray)
  | tup (l : List V) (l' : List Value) (h : VRs S l l') : VR S (.tup l) (.tuple l'.toArray)
  | yl (id r : Nat) (h1 : id < S.next) (h2 : S.gen id = 0 → r = S.blk id) : VR S (.yl id) (.func (.yield r) #[] #[])
inductive VRs (S : Loc) : List V → List Value → Prop
  | nil : VRs S [] []
  | cons (v : V) (c : Value) (l : List V) (l' : List Value) (h : VR S v c) (t : VRs S l l') : VRs S (v :: l) (c :: l')
end

mutual
theorem VR.mono {S S' : Loc} (hS : S.le S') {v : V} {c : Value} (h : VR S v c) : VR S' v c := by
  cases h with
  | un => exact .un _
  | b x => exact .b x
  | i k n => exact .i k n
  | s l c h => exact .s l c h
  | pnil => exact .pnil
  | p id g off a h1 h2 h3 =>
    have hg := hS.gen id h1
    refine .p id g off a (Nat.lt_of_lt_of_le h1 hS.next) (by omega) fun e => ?_
    rw [hS.blk id h1 (by omega), hS.base id h1 (by omega)]
    exact h3 (by omega)
  | slnil c => exact .slnil c
  | sl id g off len cap clip a h1 h2 hl h3 h4 h5 =>
    have hg := hS.gen id h1
    refine .sl id g off len cap clip a (Nat.lt_of_lt_of_le h1 hS.next) (by omega) hl (fun e => ?_) h4 (fun e => ?_)
    · rw [hS.blk id h1 (by omega), hS.base id h1 (by omega)]
      exact h3 (by omega)
    · rw [hS.own id h1, hS.base id h1 (by omega), hS.esz id h1, hS.room id h1 (by omega)]
      exact h5 (by omega)
  | mnil => exact .mnil
  | m id r h1 h2 =>
    have hg := hS.gen id h1
    refine .m id r (Nat.lt_of_lt_of_le h1 hS.next) fun e => ?_
    rw [hS.blk id h1 (by omega)]
    exact h2 (by omega)
  | fn f first caps first' caps' h1 h2 => exact .fn f first caps first' caps' (VRs.mono hS h1) (VRs.mono hS h2)
  | nf => exact .nf
  | ifc t v c h => exact .ifc t v c (VR.mono hS h)
  | nif => exact .nif
  | agg l l' h h2 => exact .agg l l' (VRs.mono hS h) h2
  | tup l l' h => exact .tup l l' (VRs.mono hS h)
  | yl id r h1 h2 =>
    have hg := hS.gen id h1
    refine .yl id r (Nat.lt_of_lt_of_le h1 hS.next) fun e => ?_
    rw [hS.blk id h1 (by omega)]
    exact h2 (by omega)
theorem VRs.mono {S S' : Loc} (hS : S.le S') {v : List V} {c : List Value} (h : VRs S v c) : VRs S' v c := by
  cases h with
  | nil => exact .nil
  | cons v c l l' h t => exact .cons v c l l' (VR.mono hS h) (VRs.mono hS t)
end

theorem VRs.length {S : Loc} : ∀ {l : List V} {l' : List Value}, VRs S l l' → l.length = l'.length
  | [], [], _ => rfl
  | _ :: _, _ :: _, .cons _ _ _ _ _ t => by simp [t.length]
theorem VRs.get {S : Loc} : ∀ {l : List V} {l' : List Value}, VRs S l l' → ∀ (j : Nat) (v : V), l[j]? = some v → ∃ c, l'[j]? = some c ∧ VR S v c
  | [], _, _, j, v, h => by simp at h
  | _ :: _, _, .cons v c l l' h t, 0, u, hu => by
    simp at hu; subst hu; exact ⟨c, by simp, h⟩
  | _ :: _, _, .cons v c l l' h t, j + 1, u, hu => by
    simp at hu; exact VRs.get t j u hu
theorem VRs.of {S : Loc} : ∀ {l : List V} {l' : List Value}, l.length = l'.length → (∀ (j : Nat) (v : V) (c : Value), l[j]? = some v → l'[j]? = some c → VR S v c) → VRs S l l'
  | [], [], _, _ => .nil
  | v :: l, c :: l', hl, h => .cons v c l l' (h 0 v c rfl rfl) (VRs.of (by simpa using hl) fun j v c hv hc => h (j + 1) v c (by simpa using hv) (by simpa using hc))
  | [], _ :: _, hl, _ => by simp at hl
  | _ :: _, [], hl, _ => by simp at hl
theorem VRs.append {S : Loc} : ∀ {l : List V} {l' : List Value} {k k'}, VRs S l l' → VRs S k k' → VRs S (l ++ k) (l' ++ k')
  | [], [], _, _, _, hk => hk
  | _ :: _, _ :: _, _, _, .cons v c l l' h t, hk => .cons v c _ _ h (t.append hk)
theorem VRs.drop {S : Loc} : ∀ {l : List V} {l' : List Value} (n : Nat), VRs S l l' → VRs S (l.drop n) (l'.drop n)
  | _, _, 0, h => by simpa using h
  | [], [], _ + 1, _ => by simpa using VRs.nil
  | _ :: _, _ :: _, n + 1, .cons v c l l' h t => by simpa using t.drop n
theorem VRs.take {S : Loc} : ∀ {l : List V} {l' : List Value} (n : Nat), VRs S l l' → VRs S (l.take n) (l'.take n)
  | _, _, 0, h => by simpa using VRs.nil
  | [], [], _ + 1, _ => by simpa using VRs.nil
  | _ :: _, _ :: _, n + 1, .cons v c l l' h t => by simpa using VRs.cons v c _ _ h (t.take n)
theorem VRs.set {S : Loc} : ∀ {l : List V} {l' : List Value} (n : Nat) {v c}, VRs S l l' → VR S v c → VRs S (l.set n v) (l'.set n c)
  | [], [], _, _, _, _, _ => by simpa using VRs.nil
  | _ :: _, _ :: _, 0, _, _, .cons v c l l' h t, hv => by simpa using VRs.cons _ _ _ _ hv t
  | _ :: _, _ :: _, n + 1, _, _, .cons v c l l' h t, hv => by simpa using VRs.cons v c _ _ h (t.set n hv)

/-- Where the call began: the world, and what lay where. -/
structure Ctx where
  w0 : World
  S0 : Loc
/-- A block that was one's own when the call began. -/
def Ctx.mine (C : Ctx) (k : Nat) : Prop := ∃ id, id < C.S0.next ∧ C.S0.own id = true ∧ C.S0.blk id = k
/-- What isn't one's own is as it was. -/
structure Fr (C : Ctx) (w : World) : Prop where
  os : w.os = C.w0.os
  tape : w.tape = C.w0.tape
  output : w.output = C.w0.output
  size : C.w0.heap.size ≤ w.heap.size
  block : ∀ k, k < C.w0.heap.size → ¬ C.mine k → w.heap[k]? = C.w0.heap[k]?
  drawn : C.S0.loose = false → C.w0.drawn ≤ w.drawn

/-! Generations tell what a block was made for: the rest by 'gK' is 0, or a type's number and one. -/
def gK : Nat := 4294967296
/-- The generation behind this one: in the same place it is of the same type. -/
def gnext (g off : Nat) : Nat := if off = 0 then g + gK else (g / gK + 1) * gK
theorem gnext_gt (g off : Nat) : g < gnext g off := by unfold gnext gK; split <;> omega
theorem gnext_zero (g : Nat) : gnext g 0 % gK = g % gK := by simp [gnext, gK]
theorem gnext_off {g off : Nat} (h : off ≠ 0) : gnext g off % gK = 0 := by simp [gnext, gK, h]

/-- An object lies in the world. -/
def OR (S : Loc) (w : World) (id : Nat) : O → Prop
  | .cells c gen ro esz => gen = S.gen id ∧ esz = S.esz id ∧
      (∀ j v, c[j]? = some v → ∃ cv, w.cell? ⟨S.blk id, S.base id + j, none⟩ = some cv ∧ VR S v cv ∧ cv.oneCell' = true) ∧
      (S.own id = true → ∃ cs el fr, w.heap[S.blk id]? = some (.cells cs el fr) ∧ cs.size = S.room id ∧ S.base id + c.length ≤ S.room id ∧
        (ro = false → ∀ o, (o < S.room id ∨ (S.esz id ≠ 1 ∧ o = S.room id)) → (decide (fr.1 ≤ o) && decide (o < fr.2)) = false) ∧ (∀ t, S.gen id % gK = t + 1 → el = t ∧ S.base id = 0)) ∧ (ro = false → S.own id = true)
  | .map es clock => S.gen id = 0 ∧ S.own id = true ∧ ∃ ces : Array MapEntry, w.heap[S.blk id]? = some (.map ces clock) ∧
      VRs S (es.map (·.1)) (ces.toList.map (·.key)) ∧ VRs S (es.map (·.2.1)) (ces.toList.map (·.val)) ∧ es.map (·.2.2) = ces.toList.map (·.born)
  | .strIter s pos => S.gen id = 0 ∧ S.own id = true ∧ S.base id = 0 ∧ ∃ cs : ByteArray, cs.data.toList = s ∧ w.heap[S.blk id]? = some (.stringIter cs pos)
  | .mapIter m since seen stepped => S.gen id = 0 ∧ S.own id = true ∧ S.base id = 0 ∧ ∃ cm, VR S (.m m) (.map cm) ∧ w.heap[S.blk id]? = some (.mapIter cm since seen.toArray stepped)
  | .loop tag st pe ρ ps asg body => S.gen id = 0 ∧ S.own id = true ∧ S.base id = 0 ∧ ∃ r : Loop, w.heap[S.blk id]? = some (.loop r) ∧ r.state = st ∧ r.pending = pe ∧ r.params = ps ∧ r.assign = asg ∧ r.body = body ∧
      r.tmps.size = ρ.n ∧ ∀ t, VR S (ρ.get t) (r.tmps.getD t undef)

structure HR (C : Ctx) (S : Loc) (H : AH) (w : World) : Prop where
  next : H.next = S.next
  obj : ∀ id o, H.get id = some o → OR S w id o
  some : ∀ id, id < S.next → (H.get id).isSome = true
  lt : ∀ id, id < S.next → S.own id = true → S.blk id < w.heap.size ∧ (C.w0.heap.size ≤ S.blk id ∨ C.mine (S.blk id))
  foreign : ∀ id, id < S.next → S.own id = false → (S.blk id < w.heap.size ∧ ∀ id', id' < S.next → S.own id' = true → S.blk id' ≠ S.blk id) ∨ ∃ g esz, H.get id = Option.some (.cells [] g true esz)
  sep : ∀ id id', id < S.next → id' < S.next → S.own id = true → S.own id' = true → S.blk id = S.blk id' → id = id'
  below : Fr C w
  loose : S.loose = C.S0.loose

/-- What a block holds is what an object asks for. -/
theorem OR.block {S S' : Loc} {w w' : World} {id : Nat} {o : O} (h : OR S w id o) (hS : S.le S') (hi : id < S.next) (hg : S'.gen id = S.gen id)
    (hb : w'.heap[S.blk id]? = w.heap[S.blk id]?) : OR S' w' id o := by
  have e1 := hS.blk id hi hg
  have e2 := hS.base id hi hg
  have e3 := hS.room id hi hg
  have e4 := hS.own id hi
  have e5 := hS.esz id hi
  cases o with
  | cells c gen ro esz =>
    obtain ⟨h1, h2, h3, h4, h5⟩ := h
    refine ⟨by rw [hg]; exact h1, by rw [e5]; exact h2, fun j v hj => ?_, fun hr => ?_, fun hr => by rw [e4]; exact h5 hr⟩
    · obtain ⟨cv, hc, hv, h1⟩ := h3 j v hj
      refine ⟨cv, ?_, hv.mono hS, h1⟩
      rw [e1, e2]
      rw [World.cell?_of_block (w := w) (by simpa using hb)]; exact hc
    · rw [e4] at hr
      obtain ⟨cs, el, fr, hh, hs, hl, hf⟩ := h4 hr
      exact ⟨cs, el, fr, by rw [e1, hb]; exact hh, by rw [e3]; exact hs, by rw [e2, e3]; exact hl, by rw [e3, e5, hg, e2]; exact hf⟩
  | map es clock =>
    obtain ⟨h1, h2, ces, h3, h4, h5, h6⟩ := h
    exact ⟨by rw [hg]; exact h1, by rw [e4]; exact h2, ces, by rw [e1, hb]; exact h3, h4.mono hS, h5.mono hS, h6⟩
  | strIter s pos =>
    obtain ⟨h1, h2, h0, cs, h3, h4⟩ := h
    exact ⟨by rw [hg]; exact h1, by rw [e4]; exact h2, by rw [e2]; exact h0, cs, h3, by rw [e1, hb]; exact h4⟩
  | mapIter m since seen stepped =>
    obtain ⟨h1, h2, h0, cm, h3, h4⟩ := h
    exact ⟨by rw [hg]; exact h1, by rw [e4]; exact h2, by rw [e2]; exact h0, cm, h3.mono hS, by rw [e1, hb]; exact h4⟩
  | loop tag st pe ρ ps asg body =>
    obtain ⟨h1, h2, h0, r, h3, h4, h5, h6, h7, h8, h9, hr⟩ := h
    exact ⟨by rw [hg]; exact h1, by rw [e4]; exact h2, by rw [e2]; exact h0, r, by rw [e1, hb]; exact h3, h4, h5, h6, h7, h8, h9, fun t => (hr t).mono hS⟩

/-- An object without cells that isn't one's own lies in each world. -/
theorem OR.empty {S S' : Loc} {w w' : World} {id g esz : Nat} (h : OR S w id (.cells [] g true esz)) (hS : S.le S') (hi : id < S.next) (hg : S'.gen id = S.gen id) (ho : S.own id = false) : OR S' w' id (.cells [] g true esz) := by
  obtain ⟨h1, h2, _, _, _⟩ := h
  have ho' : ¬ S'.own id = true := by rw [hS.own id hi, ho]; simp
  exact ⟨by rw [hg]; exact h1, by rw [hS.esz id hi]; exact h2, fun j v hj => by simp at hj, fun h => absurd h ho', fun h => by cases h⟩

/-- A draw. -/
theorem Fr.drew {C : Ctx} {w : World} (h : Fr C w) : Fr C { w with drawn := w.drawn + 1 } := ⟨h.os, h.tape, h.output, h.size, h.block, fun hl => Nat.le_succ_of_le (h.drawn hl)⟩
theorem HR.drew {C : Ctx} {S : Loc} {H : AH} {w : World} (h : HR C S H w) : HR C S H { w with drawn := w.drawn + 1 } where
  next := h.next
  obj id o ho := (h.obj id o ho).block (Loc.le.refl S) (by rw [← h.next]; exact AH.get_lt ho) rfl rfl
  some := h.some
  lt := h.lt
  foreign := h.foreign
  sep := h.sep
  below := h.below.drew
  loose := h.loose

/-- A state may be taken as where a call begins. -/
theorem HR.rebase {C : Ctx} {S : Loc} {H : AH} {w : World} (h : HR C S H w) : HR ⟨w, S⟩ S H w where
  next := h.next
  obj := h.obj
  some := h.some
  lt id hi ho := ⟨(h.lt id hi ho).1, .inr ⟨id, hi, ho, rfl⟩⟩
  foreign := h.foreign
  sep := h.sep
  below := ⟨rfl, rfl, rfl, Nat.le_refl _, fun _ _ _ => rfl, fun _ => Nat.le_refl _⟩
  loose := rfl
theorem Fr.back {C : Ctx} {S : Loc} {H : AH} {w w' : World} (h : HR C S H w) (k : Fr ⟨w, S⟩ w') : Fr C w' where
  os := k.os.trans h.below.os
  tape := k.tape.trans h.below.tape
  output := k.output.trans h.below.output
  size := Nat.le_trans h.below.size k.size
  drawn hl := Nat.le_trans (h.below.drawn hl) (k.drawn (h.loose.trans hl))
  block b hb hm := by
    have h1 := k.block b (Nat.lt_of_lt_of_le hb h.below.size) fun ⟨id, hi, ho, e⟩ => by
      have hi' : id < S.next := hi
      have ho' : S.own id = true := ho
      have e' : S.blk id = b := e
      rcases (h.lt id hi' ho').2 with h2 | h2
      · omega
      · exact hm (e' ▸ h2)
    exact h1.trans (h.below.block b hb hm)
theorem HR.back {C : Ctx} {S S' : Loc} {H H' : AH} {w w' : World} (h : HR C S H w) (k : HR ⟨w, S⟩ S' H' w') : HR C S' H' w' where
  next := k.next
  obj := k.obj
  some := k.some
  lt id hi ho := by
    refine ⟨(k.lt id hi ho).1, ?_⟩
    rcases (k.lt id hi ho).2 with h1 | ⟨id', hi', ho', e⟩
    · exact .inl (Nat.le_trans h.below.size h1)
    · rw [← e]; exact (h.lt id' hi' ho').2
  foreign := k.foreign
  sep := k.sep
  below := Fr.back h k.below
  loose := k.loose.trans h.loose

/-- The locator with one object more. -/
def Loc.add (S : Loc) (blk base esz room : Nat) (g : Nat := 0) : Loc :=
  { next := S.next + 1, gen := fun id => if id = S.next then g else S.gen id, blk := fun id => if id = S.next then blk else S.blk id, base := fun id => if id = S.next then base else S.base id,
    own := fun id => if id = S.next then true else S.own id, esz := fun id => if id = S.next then esz else S.esz id, room := fun id => if id = S.next then room else S.room id, loose := S.loose }
theorem Loc.le_add (S : Loc) (blk base esz room : Nat) {g : Nat} : S.le (S.add blk base esz room g) where
  next := Nat.le_succ _
  gen id h := by simp [Loc.add, Nat.ne_of_lt h]
  blk id h _ := by simp [Loc.add, Nat.ne_of_lt h]
  base id h _ := by simp [Loc.add, Nat.ne_of_lt h]
  room id h _ := by simp [Loc.add, Nat.ne_of_lt h]
  own id h := by simp [Loc.add, Nat.ne_of_lt h]
  esz id h := by simp [Loc.add, Nat.ne_of_lt h]

/-- A new object in a new block. -/
theorem HR.new {C : Ctx} {S : Loc} {H : AH} {w : World} (h : HR C S H w) (o : O) (ob : Obj) (esz room : Nat) {g : Nat}
    (ho : OR (S.add w.heap.size 0 esz room g) { w with heap := w.heap.push ob } S.next o) :
    HR C (S.add w.heap.size 0 esz room g) (H.new o) { w with heap := w.heap.push ob } where
  next := by simp [Loc.add, h.next]
  obj id o' ho' := by
    rw [AH.get_new] at ho'
    split at ho'
    · rename_i e
      cases ho'
      rw [e, h.next]; exact ho
    · rename_i e
      have hlt : id < S.next := by rw [← h.next]; exact AH.get_lt ho'
      have hin : S.blk id < w.heap.size ∨ (S.own id = false ∧ ∃ g esz, H.get id = Option.some (.cells [] g true esz)) := by
        cases hown : S.own id with
        | true => exact .inl (h.lt id hlt hown).1
        | false => exact (h.foreign id hlt hown).imp (fun hb => hb.1) (fun he => ⟨rfl, he⟩)
      rcases hin with this | ⟨hown, g, esz', he⟩
      · refine (h.obj id o' ho').block (Loc.le_add ..) hlt (by simp [Loc.add, Nat.ne_of_lt hlt]) ?_
        simp only [Array.getElem?_push]
        rw [if_neg (by omega)]
      · rw [he] at ho'; cases ho'
        exact (h.obj id _ he).empty (Loc.le_add ..) hlt (by simp [Loc.add, Nat.ne_of_lt hlt]) hown
  some id hid := by
    rw [AH.get_new]
    split
    · rfl
    · rename_i e
      exact h.some id (by have : id < S.next + 1 := hid; rw [h.next] at e; omega)
  lt id hid hown := by
    have hid' : id < S.next + 1 := hid
    simp only [Loc.add] at hown ⊢
    by_cases e : id = S.next
    · subst e; simp; exact .inl h.below.size
    · simp only [e, if_false] at hown ⊢
      have := h.lt id (by omega) hown
      exact ⟨by simp; omega, this.2⟩
  foreign id hid hown := by
    have hid' : id < S.next + 1 := hid
    simp only [Loc.add] at hown ⊢
    by_cases e : id = S.next
    · subst e; simp at hown
    · simp only [e, if_false] at hown ⊢
      rw [AH.get_new, if_neg (by rw [h.next]; exact e)]
      refine (h.foreign id (by omega) hown).imp (fun hb => ⟨by simp; omega, fun id' hi' ho' => ?_⟩) fun h => h
      by_cases e' : id' = S.next
      · simp only [e', if_true]; omega
      · simp only [e', if_false] at ho' ⊢
        exact hb.2 id' (by omega) ho'
  sep id id' hi hi' ho ho' hb := by
    have h1 : id < S.next + 1 := hi
    have h2 : id' < S.next + 1 := hi'
    simp only [Loc.add] at ho ho' hb
    by_cases e : id = S.next <;> by_cases e' : id' = S.next
    · omega
    · simp only [e, e', if_true, if_false] at ho' hb
      have := (h.lt id' (by omega) ho').1
      omega
    · simp only [e, e', if_true, if_false] at ho hb
      have := (h.lt id (by omega) ho).1
      omega
    · simp only [e, e', if_false] at ho ho' hb
      exact h.sep id id' (by omega) (by omega) ho ho' hb
  below := by
    refine ⟨h.below.os, h.below.tape, h.below.output, ?_, fun k hk hm => ?_, h.below.drawn⟩
    · have := h.below.size
      simp only [Array.size_push]
      omega
    · rw [← h.below.block k hk hm]
      have := h.below.size
      simp only [Array.getElem?_push]
      rw [if_neg (by omega)]
  loose := h.loose

/-- An object of one's own is written in its block. -/
theorem HR.write {C : Ctx} {S : Loc} {H : AH} {w : World} (h : HR C S H w) (id : Nat) (hid : id < S.next) (hown : S.own id = true) (o : O) (ob : Obj)
    (ho : OR S { w with heap := w.heap.setIfInBounds (S.blk id) ob } id o) :
    HR C S (H.set id o) { w with heap := w.heap.setIfInBounds (S.blk id) ob } where
  next := by simp [h.next]
  obj id' o' ho' := by
    rw [AH.get_set] at ho'
    split at ho'
    · rename_i e
      subst e
      split at ho'
      · cases ho'; exact ho
      · cases ho'
    · rename_i e
      have hlt : id' < S.next := by rw [← h.next]; exact AH.get_lt ho'
      have hne : S.blk id' ≠ S.blk id ∨ (S.own id' = false ∧ ∃ g esz, H.get id' = Option.some (.cells [] g true esz)) := by
        cases hown' : S.own id' with
        | true => exact .inl fun hb => e (h.sep id' id hlt hid hown' hown hb)
        | false => exact (h.foreign id' hlt hown').imp (fun h1 hb => h1.2 id hid hown hb.symm) (fun he => ⟨rfl, he⟩)
      rcases hne with hne | ⟨hown', g, esz', he⟩
      · refine (h.obj id' o' ho').block (Loc.le.refl S) hlt rfl ?_
        simp only [Array.getElem?_setIfInBounds]
        rw [if_neg (fun e => hne e.symm)]
      · rw [he] at ho'; cases ho'
        exact (h.obj id' _ he).empty (Loc.le.refl S) hlt rfl hown'
  some id' hid' := by
    rw [AH.get_set]
    split
    · rw [h.next, if_pos hid]; rfl
    · exact h.some id' hid'
  lt id' hi ho := by simpa using h.lt id' hi ho
  foreign id' hi hno := by
    have hne : id' ≠ id := by rintro rfl; rw [hown] at hno; cases hno
    rw [AH.get_set_ne hne]
    simpa using h.foreign id' hi hno
  sep := h.sep
  below := by
    refine ⟨h.below.os, h.below.tape, h.below.output, by simpa using h.below.size, fun k hk hm => ?_, h.below.drawn⟩
    rw [← h.below.block k hk hm]
    have := (h.lt id hid hown).2
    simp only [Array.getElem?_setIfInBounds]
    rw [if_neg (fun e => by rcases this with h1 | h1; omega; exact hm (e ▸ h1))]
  loose := h.loose

end Go.Abs

set_option linter.unusedVariables false
set_option linter.unusedSimpArgs false
namespace Go.Abs
open Go Go.RowKit

/-! What is asked of a type. -/
def qsize (P : Program) (t : TypeId) : Option Nat := (P.info? t).map (·.size)
/-- Is it a struct whose first field leads to one of its own kind (strings.Builder)? -/
def qself (P : Program) (t : TypeId) : Bool := match P.underlying t with
  | some (.struct fs) => match fs[0]? with
    | some f => match P.underlying f.type with
      | some (.pointer u) => u == t
      | _ => false
    | none => false
  | _ => false
/-- The generation of a new variable of this type. -/
def qgen (P : Program) (t : TypeId) : Nat := if qself P t ∧ t + 1 < gK then t + 1 else 0
theorem qgen_spec {P : Program} {t u : TypeId} (h : qgen P t % gK = u + 1) : t = u := by
  unfold qgen at h
  split at h
  · rename_i h1; rw [Nat.mod_eq_of_lt h1.2] at h; exact Nat.succ.inj h
  · simp at h
/-- The generation of a new row of these elements. -/
def qgenB (P : Program) (e : TypeId) : Nat := match P.underlying e with
  | some (.int .u8) => if e + 1 < gK then e + 1 else 0
  | _ => 0
theorem qgenB_spec {P : Program} {t u : TypeId} (h : qgenB P t % gK = u + 1) : t = u := by
  unfold qgenB at h
  split at h
  · split at h
    · rename_i h1; rw [Nat.mod_eq_of_lt h1] at h; exact Nat.succ.inj h
    · simp at h
  · simp at h
def qbytes (P : Program) (t : TypeId) : Option Nat := (P.info? t).map (·.bytes)
def descAgg : TypeDesc → Bool
  | .struct _ | .array _ _ => true
  | _ => false
def qagg (P : Program) (t : TypeId) : Option Bool := (P.underlying t).map descAgg
def absC : Value → V
  | .bool x => .b x
  | .int k n => .i k n
  | .string c => .s c.data.toList
  | .pointer none => .p none
  | .slice none 0 0 => .sl none 0 false
  | .map none => .m none
  | .nilFunc => .nf
  | .nilIface => .nif
  | _ => .un
def absV : Value → V
  | .agg cs => if cs.toList.all Value.oneCell' then .agg (cs.toList.map absC) else .un
  | .tuple cs => .tup (cs.toList.map absC)
  | v => absC v
def qzero (P : Program) (t : TypeId) : Option V := ((P.info? t).bind (·.zero)).map absV
def qplaces (P : Program) (t : TypeId) : Option (List (Nat × Nat)) :=
  match P.underlying t with
  | some (.struct fs) => fs.toList.mapM fun f => (P.info? f.type).map fun i => (f.offset, i.size)
  | _ => none
def qelem (P : Program) (t : TypeId) : Option TypeId :=
  match P.underlying t with
  | some (.slice e) => some e
  | _ => none
def qarr (P : Program) (t : TypeId) : Option (Nat × TypeId) :=
  match P.underlying t with
  | some (.array n e) => some (n, e)
  | _ => none
/-- A struct's field: its offset, size, and whether it is an aggregate. -/
def qfield (P : Program) (t : TypeId) (f : Nat) : Option (Nat × Nat × Bool) :=
  match P.underlying t with
  | some (.struct fs) => match fs[f]? with
    | some fl => match qsize P fl.type, qagg P fl.type with
      | some n, some a => some (fl.offset, n, a)
      | _, _ => none
    | none => none
  | _ => none
def qstr (P : Program) (t : TypeId) : Bool := match P.underlying t with | some .string => true | _ => false
def qint (P : Program) (t : TypeId) : Option IntKind := match P.underlying t with | some (.int k) => some k | _ => none
def qmap (P : Program) (t : TypeId) : Option (TypeId × TypeId) := match P.underlying t with | some (.map k e) => some (k, e) | _ => none
def qconcrete (P : Program) (t : TypeId) : Bool := match P.underlying t with | some (.interface _) => false | some _ => true | none => false

/-! Environments. -/
def Env.put (ρ : Env) (d : Option Tmp) (v : V) : Env :=
  match d with
  | some d => { ρ with l := (d, if d < ρ.n then v else .un) :: ρ.l }
  | none => ρ
def aev (ρ : Env) : Operand → V
  | .tmp t => ρ.get t
  | .const v => absV v
  | .global _ => .un
  | .func f => .fn (.func f) [] []

def ER (S : Loc) (ρ : Env) (a : Act) : Prop := a.tmps.size = ρ.n ∧ ∀ t, VR S (ρ.get t) (a.tmps.getD t undef)

theorem absC_VR (S : Loc) (v : Value) : VR S (absC v) v := by
  unfold absC
  split <;> first | exact .b _ | exact .i _ _ | exact .s _ _ rfl | exact .pnil | exact .slnil _ | exact .mnil | exact .nf | exact .nif | exact .un _
theorem absCs_VRs (S : Loc) : ∀ l : List Value, VRs S (l.map absC) l
  | [] => .nil
  | v :: l => .cons _ _ _ _ (absC_VR S v) (absCs_VRs S l)
theorem absV_VR (S : Loc) (v : Value) : VR S (absV v) v := by
  unfold absV
  split
  · rename_i cs
    split
    · rename_i h
      have := VR.agg (cs.toList.map absC) cs.toList (absCs_VRs S cs.toList) (fun c hc => (List.all_eq_true.1 h) c hc)
      simpa using this
    · exact .un _
  · rename_i cs
    have := VR.tup (cs.toList.map absC) cs.toList (absCs_VRs S cs.toList)
    simpa using this
  · exact absC_VR S v

theorem ER.mono {S S' : Loc} (h : S.le S') {ρ : Env} {a : Act} (e : ER S ρ a) : ER S' ρ a := ⟨e.1, fun t => (e.2 t).mono h⟩
theorem aev_VR {S : Loc} {ρ : Env} {a : Act} (h : ER S ρ a) (x : Operand) : VR S (aev ρ x) (a.eval x) := by
  cases x with
  | tmp t => exact h.2 t
  | const v => exact absV_VR S v
  | global g => exact .un _
  | func f => exact .fn _ [] [] [] [] .nil .nil
theorem ER.put {S : Loc} {ρ : Env} {a : Act} (h : ER S ρ a) (d : Option Tmp) {v : V} {c : Value} (hv : VR S v c) : ER S (ρ.put d v) (a.put d c) := by
  cases d with
  | none => exact h
  | some d =>
    refine ⟨by simpa [Act.put, Env.put] using h.1, fun t => ?_⟩
    simp only [Env.put, Env.get, Env.look, Act.put]
    by_cases e : d = t
    · subst e
      simp only [if_true]
      by_cases hd : d < ρ.n
      · simp only [hd, if_true]
        rw [← h.1] at hd
        simpa [Array.getD, hd] using hv
      · simp only [hd, if_false]
        exact .un _
    · simp only [e, if_false]
      have := h.2 t
      simp only [Env.get] at this
      have e2 : (a.tmps.setIfInBounds d c).getD t undef = a.tmps.getD t undef := by
        simp only [Array.getD_eq_getD_getElem?, Array.getElem?_setIfInBounds]
        rw [if_neg e]
      rw [e2]; exact this

/-! The operations. -/
def splice (c : List V) (off : Nat) (l : List V) : List V := c.take off ++ l ++ c.drop (off + l.length)

def aload (P : Program) (H : AH) (t : TypeId) (a : V) : Option V :=
  match a with
  | .p (some (id, g, off)) => match H.get id with
    | some (.cells c g' _ _) => if g = g' then
        match qagg P t, qsize P t with
        | some true, some n => if off + n ≤ c.length then some (.agg ((c.drop off).take n)) else none
        | some false, some _ => c[off]?
        | _, _ => none
      else none
    | _ => none
  | _ => none

def astore (P : Program) (H : AH) (t : TypeId) (a v : V) : Option AH :=
  match a with
  | .p (some (id, g, off)) => match H.get id with
    | some (.cells c g' false esz) => if g = g' then
        match qsize P t, v.cells with
        | some n, some l => if l.length = n ∧ off + n ≤ c.length then some (H.set id (.cells (splice c off l) g' false esz)) else none
        | _, _ => none
      else none
    | _ => none
  | _ => none

def afill (place : Nat → Option (Nat × Nat)) (cells : List V) : List (Nat × V) → Option (List V)
  | [] => some cells
  | (i, v) :: rest =>
    match place i, v.cells with
    | some (off, size), some l => if l.length = size ∧ off + l.length ≤ cells.length then afill place (splice cells off l) rest else none
    | _, _ => none

def aint (op : BinOp) (k : IntKind) (a b : Int) : Option V :=
  match op with
  | .add => some (.i k (k.wrap (a + b)))
  | .sub => some (.i k (k.wrap (a - b)))
  | .mul => some (.i k (k.wrap (a * b)))
  | .quo => if b = 0 then none else some (.i k (k.wrap (a.tdiv b)))
  | .rem => if b = 0 then none else some (.i k (a.tmod b))
  | .and => some (.i k (k.wrap ((BitVec.ofInt k.bits a &&& BitVec.ofInt k.bits b).toNat : Nat)))
  | .or => some (.i k (k.wrap ((BitVec.ofInt k.bits a ||| BitVec.ofInt k.bits b).toNat : Nat)))
  | .xor => some (.i k (k.wrap ((BitVec.ofInt k.bits a ^^^ BitVec.ofInt k.bits b).toNat : Nat)))
  | .andNot => some (.i k (k.wrap ((BitVec.ofInt k.bits a &&& ~~~(BitVec.ofInt k.bits b)).toNat : Nat)))
  | .eql => some (.b (a == b))
  | .neq => some (.b (a != b))
  | .lss => some (.b (decide (a < b)))
  | .leq => some (.b (decide (a ≤ b)))
  | .gtr => some (.b (decide (a > b)))
  | .geq => some (.b (decide (a ≥ b)))
  | _ => none
def ashift (op : BinOp) (k : IntKind) (a b : Int) : Option V :=
  if b < 0 then none else match op with
  | .shl => some (.i k (k.wrap (a * 2 ^ (min b.toNat k.bits))))
  | .shr => some (.i k (a.fdiv (2 ^ (min b.toNat k.bits))))
  | _ => none
def astr (op : BinOp) (a b : List UInt8) : Option V :=
  match op with
  | .add => if a.length + b.length ≤ 9223372036854775807 then some (.s (a ++ b)) else none
  | .eql => some (.b (a == b))
  | .neq => some (.b (!(a == b)))
  | .lss => some (.b (Op.bytesLess a b))
  | .leq => some (.b (Op.bytesLess a b || a == b))
  | .gtr => some (.b (!(Op.bytesLess a b || a == b)))
  | .geq => some (.b (!Op.bytesLess a b))
  | _ => none

/-- Cells that are held against each other by their value alone. -/
def ceq : V → V → Option Bool
  | .b x, .b y => some (x == y)
  | .i k a, .i k' c => if k = k' then some (a == c) else none
  | .s a, .s c => some (a == c)
  | _, _ => none
def ceqs : List V → List V → Option Bool
  | [], [] => some true
  | v :: l, u :: r => match ceq v u, ceqs l r with
    | some a, some c => some (a && c)
    | _, _ => none
  | _, _ => none

/-- The kinds of the cells of a type that is compared cell by cell. -/
inductive CK where | b | i (k : IntKind) | s
  deriving DecidableEq
def CK.fits : CK → V → Bool
  | .b, .b _ => true
  | .i k, .i k' _ => k == k'
  | .s, .s _ => true
  | _, _ => false
def fitsAll : List CK → List V → Bool
  | [], [] => true
  | k :: ks, v :: vs => k.fits v && fitsAll ks vs
  | _, _ => false
def kindsFs (P : Program) (k : TypeId → Option (List CK)) : Nat → List Field → Option (List CK)
  | _, [] => some []
  | off, f :: fs => match k f.type with
    | some l => if f.name ≠ "_" ∧ f.offset = off ∧ qsize P f.type = some l.length ∧ 0 < l.length then (kindsFs P k (off + l.length) fs).map (l ++ ·) else none
    | none => none
def kindsOf (P : Program) : Nat → TypeId → Option (List CK)
  | 0, _ => none
  | d + 1, t => match P.underlying t with
    | some .bool => some [.b]
    | some (.int k) => some [.i k]
    | some .string => some [.s]
    | some (.struct fs) => if P.stoodInHeld t then none else kindsFs P (kindsOf P d) 0 fs.toList
    | _ => none
/-- May values of this type be compared cell by cell? -/
def qeq (P : Program) (t : TypeId) : Option (List CK) := if P.eqGuardType P.depth t = false ∧ qagg P t = some true then kindsOf P 12 t else none

def aeq (P : Program) (t : TypeId) (x y : V) : Option Bool :=
  match x, y with
  | .agg xs, .agg ys => match qeq P t with
    | some ks => if fitsAll ks xs ∧ fitsAll ks ys then ceqs xs ys else none
    | none => none
  | .b x, .b y => match P.underlying t with | some .bool => some (x == y) | _ => none
  | .p none, .p y => match P.underlying t with | some (.pointer _) => some y.isNone | _ => none
  | .p _, .p none => match P.underlying t with | some (.pointer _) => some false | _ => none
  | .sl none _ _, .sl y _ _ => match P.underlying t with | some (.slice _) => some y.isNone | _ => none
  | .sl _ _ _, .sl none _ _ => match P.underlying t with | some (.slice _) => some false | _ => none
  | .nif, .ifc _ _ => match P.underlying t with | some (.interface _) => some false | _ => none
  | .nif, .nif => match P.underlying t with | some (.interface ms) => if ms.isEmpty = true then some true else none | _ => none
  | .ifc _ _, .nif => match P.underlying t with | some (.interface _) => some false | _ => none
  | .m none, .m y => match P.underlying t with | some (.map _ _) => some y.isNone | _ => none
  | .m _, .m none => match P.underlying t with | some (.map _ _) => some false | _ => none
  | _, _ => none

def abin (P : Program) (op : BinOp) (t : TypeId) (x y : V) : Option V :=
  match x, y with
  | .i k a, .i k' b => match op with
    | .shl | .shr => ashift op k a b
    | _ => if k = k' then aint op k a b else none
  | .s a, .s b => astr op a b
  | _, _ => match op with
    | .eql => (aeq P t x y).map .b
    | .neq => (aeq P t x y).map fun r => .b (!r)
    | _ => none

def aunary (op : UnOp) (x : V) : Option V :=
  match op, x with
  | .neg, .i k n => aint .sub k 0 n
  | .xor, .i k n => aint .xor k (if k.signed then -1 else k.max) n
  | .not, .b b => some (.b (!b))
  | _, _ => none

/-- Key of a map's entry: which one is it? -/
def keq (P : Program) (t : TypeId) (x y : V) : Option Bool :=
  match x, y with
  | .i k a, .i k' c => match P.underlying t with | some (.int _) => if k = k' then some (a == c) else none | _ => none
  | .s a, .s c => match P.underlying t with | some .string => some (a == c) | _ => none
  | .agg _, .agg _ => aeq P t x y
  | _, _ => none
def afind (P : Program) (t : TypeId) (k : V) : List (V × V × Nat) → Nat → Option (Option (Nat × V))
  | [], _ => some none
  | (k', v, _) :: l, i => match keq P t k k' with
    | some true => some (some (i, v))
    | some false => afind P t k l (i + 1)
    | none => none

def bytesV (l : List UInt8) : List V := l.map fun b => .i .u8 b.toNat
def unbytes : List V → Option (List UInt8)
  | [] => some []
  | .i .u8 n :: l => (unbytes l).map (UInt8.ofNat n.toNat :: ·)
  | _ => none

end Go.Abs

set_option linter.unusedVariables false
set_option linter.unusedSimpArgs false
namespace Go.Abs
open Go Go.RowKit

theorem add_none (b o j : Nat) : (⟨b, o, none⟩ : Addr).add j = ⟨b, o + j, none⟩ := by
  unfold Addr.add; split <;> simp_all

theorem cells_of {S : Loc} : ∀ (l : List V) (f : Nat → Option Value), (∀ (j : Nat) (v : V), l[j]? = some v → ∃ cv, f j = some cv ∧ VR S v cv ∧ cv.oneCell' = true) →
    ∃ cs : List Value, VRs S l cs ∧ (∀ (j : Nat) (v : Value), cs[j]? = some v → f j = some v) ∧ ∀ c ∈ cs, c.oneCell' = true
  | [], f, h => ⟨[], .nil, by simp, by simp⟩
  | v :: l, f, h => by
    obtain ⟨cv, h0, hv, h1⟩ := h 0 v rfl
    obtain ⟨cs, hcs, hf, ho⟩ := cells_of l (fun j => f (j + 1)) (fun j u hu => h (j + 1) u (by simpa using hu))
    refine ⟨cv :: cs, .cons _ _ _ _ hv hcs, fun j u hu => ?_, fun c hc => ?_⟩
    · cases j with
      | zero => simp at hu; subst hu; exact h0
      | succ j => simp at hu; exact hf j u hu
    · rcases List.mem_cons.1 hc with rfl | hc
      · exact h1
      · exact ho c hc

/-- What a part of an object is in the world. -/
theorem OR.part {S : Loc} {w : World} {id : Nat} {c : List V} {g : Nat} {ro : Bool} {esz : Nat} (h : OR S w id (.cells c g ro esz)) (off n : Nat) (hn : off + n ≤ c.length) :
    ∃ cs : List Value, VRs S ((c.drop off).take n) cs ∧ cs.length = n ∧ (∀ (j : Nat) (v : Value), cs[j]? = some v → w.cell? ((⟨S.blk id, S.base id + off, none⟩ : Addr).add j) = some v) ∧ ∀ c ∈ cs, c.oneCell' = true := by
  obtain ⟨cs, h1, h2, h3⟩ := cells_of (S := S) ((c.drop off).take n) (fun j => w.cell? ⟨S.blk id, S.base id + off + j, none⟩) (by
    intro j v hj
    rw [List.getElem?_take] at hj
    split at hj
    · rw [List.getElem?_drop] at hj
      have := h.2.2.1 (off + j) v hj
      simpa [Nat.add_assoc] using this
    · cases hj)
  refine ⟨cs, h1, ?_, fun j v hj => by rw [add_none]; exact h2 j v hj, h3⟩
  rw [← h1.length]; simp; omega

theorem descAgg_some {P : Program} {t : TypeId} {x : Bool} (h : qagg P t = some x) : ∃ d, P.underlying t = some d ∧ descAgg d = x := by
  unfold qagg at h
  cases hu : P.underlying t with
  | none => simp [hu] at h
  | some d => simp [hu] at h; exact ⟨d, rfl, h⟩
theorem run_isAgg {P : Program} {t : TypeId} {x : Bool} (w : World) (h : qagg P t = some x) : (isAgg t).run P w = .ok x w := by
  obtain ⟨d, hd, hx⟩ := descAgg_some h
  subst hx
  unfold isAgg
  simp only [Sem.run_bind, run_underlying hd, Result.andThen_ok]
  cases d <;> simp [descAgg]
theorem run_typeInfo {P : Program} {t : TypeId} {i : TypeInfo} (w : World) (h : P.info? t = some i) : (typeInfo t).run P w = .ok i w := by
  unfold typeInfo; simp [h]
theorem run_sizeOf {P : Program} {t : TypeId} {n : Nat} (w : World) (h : qsize P t = some n) : (sizeOf t).run P w = .ok n w := by
  unfold qsize at h
  cases hi : P.info? t with
  | none => simp [hi] at h
  | some i =>
    simp [hi] at h
    unfold sizeOf
    simp [run_typeInfo w hi, h]
theorem run_zeroValue {P : Program} {t : TypeId} {v : V} (w : World) (h : qzero P t = some v) : ∃ z, (zeroValue t).run P w = .ok z w ∧ v = absV z := by
  unfold qzero at h
  cases hi : P.info? t with
  | none => simp [hi] at h
  | some i =>
    simp [hi] at h
    obtain ⟨z, hz, rfl⟩ := h
    refine ⟨z, ?_, rfl⟩
    unfold zeroValue
    simp [run_typeInfo w hi, hz]
theorem run_zeroValue' {P : Program} {t : TypeId} {v : V} (h : qzero P t = some v) : ∃ z, (∀ w, (zeroValue t).run P w = .ok z w) ∧ v = absV z := by
  unfold qzero at h
  cases hi : P.info? t with
  | none => simp [hi] at h
  | some i =>
    simp [hi] at h
    obtain ⟨z, hz, rfl⟩ := h
    refine ⟨z, fun w => ?_, rfl⟩
    unfold zeroValue
    simp [run_typeInfo w hi, hz]

section
variable {C : Ctx} {P : Program} {S : Loc} {H : AH} {w : World}

theorem sim_load {t : TypeId} {a v : V} {ca : Value} (h : HR C S H w) (ha : VR S a ca) (hl : aload P H t a = some v) :
    ∃ cv, (Instr.loadAt t ca).run P w = .ok cv w ∧ VR S v cv := by
  unfold aload at hl
  split at hl
  · rename_i id g off
    cases ha with
    | p _ _ _ ad h1 h2 h3 =>
      split at hl
      · rename_i c g' ro esz hg
        split at hl
        · rename_i hgg
          subst hgg
          have ho := h.obj id _ hg
          have := h3 ho.1
          subst this
          split at hl
          · rename_i n hq hs
            split at hl
            · rename_i hlen
              cases hl
              obtain ⟨cs, hv, hlen', hc, ho1⟩ := ho.part off n hlen
              refine ⟨.agg cs.toArray, ?_, .agg _ _ hv ho1⟩
              unfold Instr.loadAt Instr.sureAddr loadVar
              subst hlen'
              simp [run_isAgg w hq, run_sizeOf w hs, run_loadCells_list w _ cs hc]
            · cases hl
          · rename_i n hq hs
            obtain ⟨cv, hc, hv, _⟩ := ho.2.2.1 off v hl
            refine ⟨cv, ?_, hv⟩
            unfold Instr.loadAt Instr.sureAddr loadVar
            simp [run_isAgg w hq, hc]
          · cases hl
        · cases hl
      · cases hl
  · cases hl

/-- A row of cells with some of them written. -/
def csplice (cs : Array Value) (off : Nat) (vs : List Value) : Array Value := (cs.toList.take off ++ vs ++ cs.toList.drop (off + vs.length)).toArray
theorem csplice_size (cs : Array Value) (off : Nat) (vs : List Value) (h : off + vs.length ≤ cs.size) : (csplice cs off vs).size = cs.size := by
  unfold csplice
  simp only [List.size_toArray, List.length_append, List.length_take, List.length_drop, Array.length_toList]
  omega
theorem csplice_nil (cs : Array Value) (off : Nat) : csplice cs off [] = cs := by
  unfold csplice; simp
theorem csplice_cons (cs : Array Value) (off : Nat) (v : Value) (vs : List Value) (h : off + vs.length + 1 ≤ cs.size) :
    csplice (cs.setIfInBounds off v) (off + 1) vs = csplice cs off (v :: vs) := by
  unfold csplice
  congr 1
  simp only [Array.toList_setIfInBounds, List.length_cons]
  apply List.ext_getElem?
  intro j
  have hl : off < cs.toList.length := by simp; omega
  by_cases h1 : j < off
  · rw [List.getElem?_append_left (by simp; omega), List.getElem?_append_left (by simp; omega), List.getElem?_append_left (by simp; omega), List.getElem?_append_left (by simp; omega)]
    simp [List.getElem?_take, h1, Nat.lt_succ_of_lt h1, List.getElem?_set]
    intro e; omega
  · by_cases h2 : j = off
    · subst h2
      rw [List.getElem?_append_left (by simp; omega), List.getElem?_append_left (by simp; omega), List.getElem?_append_left (by simp; omega), List.getElem?_append_right (by simp; omega)]
      simp [List.getElem?_take, hl]
      rw [Nat.min_eq_left (by simpa using Nat.le_of_lt hl)]; simp
      rw [List.getElem?_set_self (by simpa using hl)]
    · by_cases h3 : j < off + 1 + vs.length
      · rw [List.getElem?_append_left (by simp; omega), List.getElem?_append_right (by simp; omega), List.getElem?_append_left (by simp; omega), List.getElem?_append_right (by simp; omega)]
        simp
        rw [Nat.min_eq_left (by omega), Nat.min_eq_left (by omega)]
        obtain ⟨k, rfl⟩ : ∃ k, j = off + 1 + k := ⟨j - (off + 1), by omega⟩
        rw [show off + 1 + k - (off + 1) = k by omega, show off + 1 + k - off = k + 1 by omega]
        simp
      · rw [List.getElem?_append_right (by simp; omega), List.getElem?_append_right (by simp; omega)]
        simp only [List.length_append, List.length_take, List.length_set, List.length_cons, Array.length_toList, List.getElem?_drop]
        rw [Nat.min_eq_left (by omega), Nat.min_eq_left (by omega)]
        rw [show off + 1 + vs.length + (j - (off + 1 + vs.length)) = j by omega, show off + (vs.length + 1) + (j - (off + (vs.length + 1))) = j by omega]
        rw [List.getElem?_set_ne (by omega)]

theorem run_storeCells_all (g o : Nat) (el : TypeId) (fr : Nat × Nat) : ∀ (vs : List Value) (i : Nat) (w : World) (cs : Array Value), w.heap[g]? = some (.cells cs el fr) →
    o + i + vs.length ≤ cs.size → (∀ k, k < cs.size → (decide (fr.1 ≤ k) && decide (k < fr.2)) = false) → (∀ c ∈ vs, c.oneCell' = true) →
    (storeCells ⟨g, o, none⟩ vs i).run P w = .ok () { w with heap := w.heap.setIfInBounds g (.cells (csplice cs (o + i) vs) el fr) }
  | [], i, w, cs, hh, hl, hf, ho => by
    have hg : g < w.heap.size := (Array.getElem?_eq_some_iff.1 hh).1
    have e : w.heap.setIfInBounds g (.cells cs el fr) = w.heap := by
      apply Array.ext_getElem?
      intro j
      rw [Array.getElem?_setIfInBounds]
      split
      · rename_i e; subst e; rw [hh]
      · rfl
    simp [storeCells, csplice_nil, e]
  | v :: vs, i, w, cs, hh, hl, hf, ho => by
    have hg : g < w.heap.size := (Array.getElem?_eq_some_iff.1 hh).1
    have hoi : o + i < cs.size := by simp at hl; omega
    have hc : w.cell? ⟨g, o + i, none⟩ = some cs[o + i] := by
      unfold World.cell?
      simp [hh, hoi]
    have hfz : w.frozen? ⟨g, o + i, none⟩ = false := by
      unfold World.frozen?
      simp only [hh]
      exact hf _ hoi
    have hset : w.setCell ⟨g, o + i, none⟩ v = { w with heap := w.heap.setIfInBounds g (.cells (cs.setIfInBounds (o + i) v) el fr) } := by
      unfold World.setCell
      congr 1
      apply Array.ext_getElem?
      intro j
      rw [Array.getElem?_modify, Array.getElem?_setIfInBounds]
      split
      · rename_i e
        subst e
        show Option.map _ w.heap[g]? = _
        rw [hh]; rfl
      · rfl
    simp only [storeCells, Sem.run_bind, add_none]
    rw [run_store P w _ v _ (ho v (List.mem_cons_self ..))]
    simp only [hc, hfz, Bool.false_eq_true, if_false, Result.andThen_ok, hset]
    have ih := run_storeCells_all g o el fr vs (i + 1) { w with heap := w.heap.setIfInBounds g (.cells (cs.setIfInBounds (o + i) v) el fr) } (cs.setIfInBounds (o + i) v)
      (by simp [hg]) (by simp at hl ⊢; omega) (by simpa using hf) (fun c hc => ho c (List.mem_cons_of_mem _ hc))
    rw [ih]
    congr 2
    rw [show o + (i + 1) = o + i + 1 by omega, csplice_cons cs (o + i) v vs (by simp at hl; omega)]
    apply Array.ext_getElem?
    intro j
    simp only [Array.getElem?_setIfInBounds]
    by_cases e : g = j
    · subst e; simp [hg]
    · simp [e]

theorem VRs.length_eq {S : Loc} {l : List V} {l' : List Value} (h : VRs S l l') : l'.length = l.length := h.length.symm

theorem V.cells_VR {v : V} {l : List V} {c : Value} (h : VR S v c) (hl : v.cells = some l) : ∃ l' : List Value, c.cells = l'.toArray ∧ VRs S l l' ∧ ∀ c ∈ l', c.oneCell' = true := by
  cases h with
  | agg l0 l' h h2 => simp [V.cells] at hl; subst hl; exact ⟨l', rfl, h, h2⟩
  | un => simp [V.cells] at hl
  | tup => simp [V.cells] at hl
  | _ =>
    simp [V.cells] at hl
    subst hl
    refine ⟨[_], rfl, .cons _ _ _ _ ?_ .nil, ?_⟩
    · first
        | exact .b _ | exact .i _ _ | exact .pnil | exact .slnil _ | exact .mnil | exact .nf | exact .nif
        | (constructor <;> assumption)
    · intro c hc; simp at hc; subst hc; rfl

/-- The content of an object with some cells written, in its block. -/
theorem OR.splice {id : Nat} {c : List V} {g esz off : Nat} {l : List V} {l' : List Value} (hid : id < S.next) (h : OR S w id (.cells c g false esz)) (hl : off + l.length ≤ c.length) (hv : VRs S l l')
    (h1 : ∀ c ∈ l', c.oneCell' = true) {cs : Array Value} {el : TypeId} {fr : Nat × Nat} (hh : w.heap[S.blk id]? = some (.cells cs el fr)) (hsz : cs.size = S.room id) :
    OR S { w with heap := w.heap.setIfInBounds (S.blk id) (.cells (csplice cs (S.base id + off) l') el fr) } id (.cells (splice c off l) g false esz) := by
  obtain ⟨e1, e2, e3, e4, e5⟩ := h
  have ho := e5 rfl
  obtain ⟨cs', el', fr', hh', hs', hb', hf'⟩ := e4 ho
  rw [hh] at hh'
  injection hh' with hh'
  injection hh' with q1 q2 q3
  subst q1 q2 q3
  have hlt : S.blk id < w.heap.size := (Array.getElem?_eq_some_iff.1 hh).1
  have hlen := hv.length
  have hsz2 := csplice_size cs (S.base id + off) l' (by omega)
  refine ⟨e1, e2, fun j v hj => ?_, fun _ => ⟨csplice cs (S.base id + off) l', el, fr, by simp [hlt], by rw [hsz2, hsz], ?_, hf'⟩, fun _ => ho⟩
  · have hjl : j < c.length := by
      have := (List.getElem?_eq_some_iff.1 hj).1
      simp [Abs.splice] at this
      omega
    have hcell : ∀ (x : Value), (csplice cs (S.base id + off) l')[S.base id + j]? = some x →
        ({ w with heap := w.heap.setIfInBounds (S.blk id) (.cells (csplice cs (S.base id + off) l') el fr) } : World).cell? ⟨S.blk id, S.base id + j, none⟩ = some x := by
      intro x hx
      unfold World.cell?
      simp [hlt, hx]
    have hold : ∀ x : Value, w.cell? ⟨S.blk id, S.base id + j, none⟩ = some x → cs[S.base id + j]? = some x := by
      intro x hx
      unfold World.cell? at hx
      simpa [hh] using hx
    unfold Abs.splice at hj
    by_cases c1 : j < off
    · rw [List.getElem?_append_left (by simp; omega), List.getElem?_append_left (by simp; omega)] at hj
      rw [List.getElem?_take, if_pos c1] at hj
      obtain ⟨cv, hc, hvv, ho1⟩ := e3 j v hj
      refine ⟨cv, hcell cv ?_, hvv, ho1⟩
      have := hold cv hc
      unfold csplice
      rw [List.getElem?_toArray, List.getElem?_append_left (by simp; omega), List.getElem?_append_left (by simp; omega), List.getElem?_take, if_pos (by omega)]
      simpa using this
    · by_cases c2 : j < off + l.length
      · rw [List.getElem?_append_left (by simp; omega), List.getElem?_append_right (by simp; omega)] at hj
        simp only [List.length_take] at hj
        rw [Nat.min_eq_left (by omega)] at hj
        obtain ⟨cv, hc, hvv⟩ := hv.get _ _ hj
        refine ⟨cv, hcell cv ?_, hvv, h1 cv (List.mem_of_getElem? hc)⟩
        unfold csplice
        rw [List.getElem?_toArray, List.getElem?_append_left (by simp; omega), List.getElem?_append_right (by simp; omega)]
        simp only [List.length_take, Array.length_toList]
        rw [Nat.min_eq_left (by omega), show S.base id + j - (S.base id + off) = j - off by omega]
        exact hc
      · rw [List.getElem?_append_right (by simp; omega)] at hj
        simp only [List.length_append, List.length_take, List.getElem?_drop] at hj
        rw [Nat.min_eq_left (by omega), show off + l.length + (j - (off + l.length)) = j by omega] at hj
        obtain ⟨cv, hc, hvv, ho1⟩ := e3 j v hj
        refine ⟨cv, hcell cv ?_, hvv, ho1⟩
        have := hold cv hc
        unfold csplice
        rw [List.getElem?_toArray, List.getElem?_append_right (by simp; omega)]
        simp only [List.length_append, List.length_take, Array.length_toList, List.getElem?_drop]
        rw [Nat.min_eq_left (by omega), ← hlen, show S.base id + off + l.length + (S.base id + j - (S.base id + off + l.length)) = S.base id + j by omega]
        simpa using this
  · simp only [Abs.splice, List.length_append, List.length_take, List.length_drop]
    omega

theorem sim_store {t : TypeId} {a v : V} {ca cv : Value} {H' : AH} (h : HR C S H w) (ha : VR S a ca) (hv : VR S v cv) (hl : astore P H t a v = some H') :
    ∃ w', (Instr.storeAt t ca cv).run P w = .ok () w' ∧ HR C S H' w' := by
  unfold astore at hl
  split at hl
  · rename_i id g off
    cases ha with
    | p _ _ _ ad h1 h2 h3 =>
      split at hl
      · rename_i c g' esz hg
        split at hl
        · rename_i hgg
          subst hgg
          have ho := h.obj id _ hg
          have := h3 ho.1
          subst this
          split at hl
          · rename_i n l hs hcl
            split at hl
            · rename_i hlen
              cases hl
              obtain ⟨l', hc', hvs, ho1⟩ := V.cells_VR hv hcl
              have hown := ho.2.2.2.2 rfl
              obtain ⟨cs, el, fr, hh, hsz, hb, hf⟩ := ho.2.2.2.1 hown
              have hf := hf.1 rfl
              have hll := hvs.length
              refine ⟨_, ?_, h.write _ h1 hown _ _ (OR.splice h1 ho (by omega) hvs ho1 hh hsz)⟩
              unfold Instr.storeAt Instr.sureAddr storeVar
              have hsz' : l'.toArray.size = n := by simp; omega
              have hst := run_storeCells_all (P := P) (S.blk id) (S.base id + off) el fr l' 0 w cs hh (by omega) (by rw [hsz]; exact fun k hk => hf k (.inl hk)) ho1
              simp only [Sem.run_bind, Sem.run_pure, Result.andThen_ok, run_sizeOf w hs]
              rw [hc', if_neg (by simpa using hsz')]
              simpa using hst
            · cases hl
          · cases hl
        · cases hl
      · cases hl
  · cases hl

/-- A new row of cells. -/
theorem sim_newf {l : List V} {l' : List Value} (h : HR C S H w) (hv : VRs S l l') (h1 : ∀ c ∈ l', c.oneCell' = true) (el : TypeId) (esz : Nat) (extra : List Value) (fr : Nat × Nat)
    (hfr : ∀ o, (o < (l' ++ extra).length ∨ (esz ≠ 1 ∧ o = (l' ++ extra).length)) → (decide (fr.1 ≤ o) && decide (o < fr.2)) = false) (g : Nat) (hg : ∀ t, g % gK = t + 1 → el = t) :
    HR C (S.add w.heap.size 0 esz (l' ++ extra).length g) (H.new (.cells l g false esz)) { w with heap := w.heap.push (.cells (l' ++ extra).toArray el fr) } := by
  refine h.new _ _ _ _ ⟨by simp [Loc.add], by simp [Loc.add], fun j v hj => ?_, fun _ => ⟨(l' ++ extra).toArray, el, fr, by simp [Loc.add], by simp [Loc.add], ?_, fun _ o ho => hfr o (by simpa [Loc.add] using ho), fun t ht => ⟨hg t (by simpa [Loc.add] using ht), by simp [Loc.add]⟩⟩, fun _ => by simp [Loc.add]⟩
  · obtain ⟨cv, hc, hvv⟩ := hv.get j v hj
    refine ⟨cv, ?_, hvv.mono (Loc.le_add ..), h1 cv (List.mem_of_getElem? hc)⟩
    have hj' : j < l'.length := (List.getElem?_eq_some_iff.1 hc).1
    unfold World.cell?
    simp [Loc.add, List.getElem?_append_left hj', hc]
  · have := hv.length
    simp [Loc.add]; omega
theorem sim_newg {l : List V} {l' : List Value} (h : HR C S H w) (hv : VRs S l l') (h1 : ∀ c ∈ l', c.oneCell' = true) (el : TypeId) (esz : Nat) (extra : List Value) (g : Nat) (hg : ∀ t, g % gK = t + 1 → el = t) :
    HR C (S.add w.heap.size 0 esz (l' ++ extra).length g) (H.new (.cells l g false esz)) { w with heap := w.heap.push (.cells (l' ++ extra).toArray el) } :=
  sim_newf h hv h1 el esz extra (0, 0) (fun o _ => by simp) g hg
theorem sim_new {l : List V} {l' : List Value} (h : HR C S H w) (hv : VRs S l l') (h1 : ∀ c ∈ l', c.oneCell' = true) (el : TypeId) (esz : Nat) (extra : List Value) :
    HR C (S.add w.heap.size 0 esz (l' ++ extra).length) (H.new (.cells l 0 false esz)) { w with heap := w.heap.push (.cells (l' ++ extra).toArray el) } :=
  sim_newg h hv h1 el esz extra 0 (fun t h => by simp at h)

end
end Go.Abs

set_option linter.unusedVariables false
set_option linter.unusedSimpArgs false
namespace Go.Abs
open Go Go.RowKit

def CK.cfits : CK → Value → Bool
  | .b, .bool _ => true
  | .i k, .int k' _ => k == k'
  | .s, .string _ => true
  | _, _ => false
def cfitsAll : List CK → List Value → Bool
  | [], [] => true
  | k :: ks, v :: vs => k.cfits v && cfitsAll ks vs
  | _, _ => false
def cceq : Value → Value → Bool
  | .bool x, .bool y => x == y
  | .int _ a, .int _ b => a == b
  | .string a, .string b => a.toList == b.toList
  | _, _ => false
def cceqs : List Value → List Value → Bool
  | [], [] => true
  | v :: l, u :: r => cceq v u && cceqs l r
  | _, _ => false

theorem cfitsAll_length : ∀ {ks : List CK} {vs : List Value}, cfitsAll ks vs = true → vs.length = ks.length
  | [], [], _ => rfl
  | _ :: _, _ :: _, h => by
    simp only [cfitsAll, Bool.and_eq_true] at h
    simp [cfitsAll_length h.2]
  | [], _ :: _, h => by simp [cfitsAll] at h
  | _ :: _, [], h => by simp [cfitsAll] at h
theorem cfitsAll_append : ∀ {ks ks' : List CK} {vs : List Value}, cfitsAll (ks ++ ks') vs = true → cfitsAll ks (vs.take ks.length) = true ∧ cfitsAll ks' (vs.drop ks.length) = true
  | [], ks', vs, h => ⟨by simp [cfitsAll], by simpa using h⟩
  | k :: ks, ks', [], h => by simp [cfitsAll] at h
  | k :: ks, ks', v :: vs, h => by
    simp only [List.cons_append, cfitsAll, Bool.and_eq_true] at h
    have ih := cfitsAll_append h.2
    simp only [List.length_cons, List.take_succ_cons, List.drop_succ_cons, cfitsAll, Bool.and_eq_true]
    exact ⟨⟨h.1, ih.1⟩, ih.2⟩
theorem cceqs_append : ∀ (n : Nat) {xs ys : List Value}, xs.length = ys.length → cceqs xs ys = (cceqs (xs.take n) (ys.take n) && cceqs (xs.drop n) (ys.drop n))
  | 0, xs, ys, h => by simp [cceqs]
  | n + 1, [], [], h => by simp [cceqs]
  | n + 1, x :: xs, y :: ys, h => by
    simp only [cceqs, List.take_succ_cons, List.drop_succ_cons, Bool.and_assoc]
    rw [cceqs_append n (by simpa using h)]
  | n + 1, [], _ :: _, h => by simp at h
  | n + 1, _ :: _, [], h => by simp at h

/-- A value of cells: an aggregate, or the one cell. -/
def Vof (a : Bool) (l : List Value) : Value := if a then .agg l.toArray else l.headD undef

section
variable {P : Program}

theorem run_part {t : TypeId} {a : Bool} {n : Nat} (w : World) (cs : Array Value) (off : Nat) (ha : qagg P t = some a) (hn : qsize P t = some n) (h1 : a = false → n = 1) (hl : off + n ≤ cs.size) :
    (part t cs off).run P w = .ok (Vof a ((cs.toList.drop off).take n)) w := by
  unfold part
  cases a with
  | true =>
    simp only [Sem.run_bind, run_isAgg w ha, Result.andThen_ok, if_true, run_sizeOf w hn, Sem.run_pure, Vof]
    congr 2
    apply Array.ext'
    simp [Array.toList_extract, List.extract, Nat.add_sub_cancel_left]
  | false =>
    have := h1 rfl
    subst this
    simp only [Sem.run_bind, run_isAgg w ha, Result.andThen_ok, Bool.false_eq_true, if_false, Vof]
    have hlt : off < cs.size := by omega
    simp [hlt, List.headD, List.take_one, List.head?_drop]

theorem eqFields_run {k : TypeId → Option (List CK)} {d : Nat} (w : World)
    (hk : ∀ t ks, k t = some ks → (∃ a, qagg P t = some a ∧ (a = false → ks.length = 1)) ∧ ∀ a, qagg P t = some a → ∀ xs ys : List Value, cfitsAll ks xs = true → cfitsAll ks ys = true → (Op.equalIn d t (Vof a xs) (Vof a ys)).run P w = .ok (cceqs xs ys) w) :
    ∀ (fs : List Field) (off : Nat) (ks : List CK) (xs ys : Array Value), kindsFs P k off fs = some ks → cfitsAll ks (xs.toList.drop off) = true → cfitsAll ks (ys.toList.drop off) = true →
      (Op.eqFields d xs ys fs).run P w = .ok (cceqs (xs.toList.drop off) (ys.toList.drop off)) w
  | [], off, ks, xs, ys, h, hx, hy => by
    simp only [kindsFs, Option.some.injEq] at h
    subst h
    have h1 := cfitsAll_length hx
    have h2 := cfitsAll_length hy
    rw [List.eq_nil_of_length_eq_zero h1, List.eq_nil_of_length_eq_zero h2]
    simp [Op.eqFields, cceqs]
  | f :: fs, off, ks, xs, ys, h, hx, hy => by
    simp only [kindsFs] at h
    split at h
    · rename_i l hl
      split at h
      · rename_i hc
        obtain ⟨hname, hoff, hsz, hpos⟩ := hc
        cases hr : kindsFs P k (off + l.length) fs with
        | none => simp [hr] at h
        | some ks' =>
          simp only [hr, Option.map_some, Option.some.injEq] at h
          subst h
          obtain ⟨⟨a, ha, h1⟩, heq⟩ := hk f.type l hl
          have hx' := cfitsAll_append hx
          have hy' := cfitsAll_append hy
          have lx := cfitsAll_length hx
          have ly := cfitsAll_length hy
          simp only [List.length_drop, Array.length_toList, List.length_append] at lx ly
          have e := heq a ha _ _ hx'.1 hy'.1
          rw [List.drop_drop] at hx' hy'
          have ih := eqFields_run w hk fs (off + l.length) ks' xs ys hr hx'.2 hy'.2
          simp only [Op.eqFields]
          rw [if_pos hname]
          subst hoff
          simp only [Sem.run_bind, run_part w xs f.offset ha hsz h1 (by omega), run_part w ys f.offset ha hsz h1 (by omega), Result.andThen_ok, e]
          rw [cceqs_append l.length (xs := xs.toList.drop f.offset) (by simp; omega)]
          cases hq : cceqs (List.take l.length (List.drop f.offset xs.toList)) (List.take l.length (List.drop f.offset ys.toList)) with
          | false => simp
          | true =>
            simp only [Bool.not_true, Bool.false_eq_true, if_false, Bool.true_and, List.drop_drop]
            exact ih
      · cases h
    · cases h

theorem kindsOf_run (w : World) : ∀ (d : Nat) (t : TypeId) (ks : List CK), kindsOf P d t = some ks → ∀ D, d ≤ D →
    (∃ a, qagg P t = some a ∧ (a = false → ks.length = 1)) ∧ ∀ a, qagg P t = some a → ∀ xs ys : List Value, cfitsAll ks xs = true → cfitsAll ks ys = true → (Op.equalIn D t (Vof a xs) (Vof a ys)).run P w = .ok (cceqs xs ys) w
  | 0, t, ks, h, D, hD => by simp [kindsOf] at h
  | d + 1, t, ks, h, D, hD => by
    obtain ⟨D, rfl⟩ : ∃ m, D = m + 1 := ⟨D - 1, by omega⟩
    simp only [kindsOf] at h
    split at h
    · rename_i hu
      cases h
      have ha : qagg P t = some false := by simp [qagg, hu, descAgg]
      refine ⟨⟨false, ha, fun _ => rfl⟩, fun a ha' xs ys hx hy => ?_⟩
      rw [ha] at ha'; cases ha'
      have lx := cfitsAll_length hx
      have ly := cfitsAll_length hy
      obtain ⟨x, rfl⟩ := List.length_eq_one_iff.1 lx
      obtain ⟨y, rfl⟩ := List.length_eq_one_iff.1 ly
      cases x <;> simp [cfitsAll, CK.cfits] at hx
      cases y <;> simp [cfitsAll, CK.cfits] at hy
      simp [Vof, cceqs, cceq, run_equalIn_bool' w D t _ _ hu]
    · rename_i k hu
      cases h
      have ha : qagg P t = some false := by simp [qagg, hu, descAgg]
      refine ⟨⟨false, ha, fun _ => rfl⟩, fun a ha' xs ys hx hy => ?_⟩
      rw [ha] at ha'; cases ha'
      have lx := cfitsAll_length hx
      have ly := cfitsAll_length hy
      obtain ⟨x, rfl⟩ := List.length_eq_one_iff.1 lx
      obtain ⟨y, rfl⟩ := List.length_eq_one_iff.1 ly
      cases x <;> simp [cfitsAll, CK.cfits] at hx
      cases y <;> simp [cfitsAll, CK.cfits] at hy
      subst hx hy
      simp [Vof, cceqs, cceq, run_equalIn_int w D t _ _ _ _ hu]
    · rename_i hu
      cases h
      have ha : qagg P t = some false := by simp [qagg, hu, descAgg]
      refine ⟨⟨false, ha, fun _ => rfl⟩, fun a ha' xs ys hx hy => ?_⟩
      rw [ha] at ha'; cases ha'
      have lx := cfitsAll_length hx
      have ly := cfitsAll_length hy
      obtain ⟨x, rfl⟩ := List.length_eq_one_iff.1 lx
      obtain ⟨y, rfl⟩ := List.length_eq_one_iff.1 ly
      cases x <;> simp [cfitsAll, CK.cfits] at hx
      cases y <;> simp [cfitsAll, CK.cfits] at hy
      simp [Vof, cceqs, cceq, run_equalIn_string w D t _ _ hu]
    · rename_i fs hu
      split at h
      · cases h
      · rename_i hst
        have ha : qagg P t = some true := by simp [qagg, hu, descAgg]
        refine ⟨⟨true, ha, fun e => by cases e⟩, fun a ha' xs ys hx hy => ?_⟩
        rw [ha] at ha'; cases ha'
        have hfo : P.fieldsOf t = fs := by simp [Program.fieldsOf, hu]
        simp only [Vof, if_true]
        rw [run_equalIn_struct w D t _ _ (by rw [hfo]; exact hu) (by simpa using hst), hfo]
        have := eqFields_run (k := kindsOf P d) (d := D) w (fun t' ks' h' => kindsOf_run w d t' ks' h' D (by omega)) fs.toList 0 ks xs.toArray ys.toArray h (by simpa using hx) (by simpa using hy)
        simpa using this
    · cases h

end

theorem fits_VRs {S : Loc} : ∀ {ks : List CK} {vs : List V} {cs : List Value}, fitsAll ks vs = true → VRs S vs cs → cfitsAll ks cs = true
  | [], [], [], _, _ => rfl
  | k :: ks, v :: vs, c :: cs, h, .cons _ _ _ _ hv ht => by
    simp only [fitsAll, Bool.and_eq_true] at h
    simp only [cfitsAll, Bool.and_eq_true]
    refine ⟨?_, fits_VRs h.2 ht⟩
    have h1 := h.1
    cases k <;> cases v <;> simp [CK.fits] at h1 <;> cases hv <;> simp [CK.cfits, h1]
  | [], _ :: _, _, h, _ => by simp [fitsAll] at h
  | _ :: _, [], _, h, _ => by simp [fitsAll] at h
theorem toList_data (b : ByteArray) : b.toList = b.data.toList := ByteArray.toList_eq b
theorem ceq_VR {S : Loc} {v u : V} {c d : Value} {r : Bool} (h : ceq v u = some r) (hv : VR S v c) (hu : VR S u d) : cceq c d = r := by
  cases v <;> cases u <;> simp [ceq] at h <;> cases hv <;> cases hu
  · simp [cceq, h]
  · simp [cceq, h.2]
  · rename_i a b c' hc d' hd
    subst hc hd
    simp only [cceq, toList_data, h]
theorem ceqs_VRs {S : Loc} : ∀ {l r : List V} {l' r' : List Value} {b : Bool}, ceqs l r = some b → VRs S l l' → VRs S r r' → cceqs l' r' = b
  | [], [], [], [], b, h, _, _ => by simp [ceqs] at h; simp [cceqs, h]
  | v :: l, u :: r, c :: l', d :: r', b, h, .cons _ _ _ _ hv ht, .cons _ _ _ _ hu hs => by
    simp only [ceqs] at h
    split at h
    · rename_i a c' h1 h2
      cases h
      simp [cceqs, ceq_VR h1 hv hu, ceqs_VRs h2 ht hs]
    · cases h
  | [], _ :: _, _, _, b, h, _, _ => by simp [ceqs] at h
  | _ :: _, [], _, _, b, h, _, _ => by simp [ceqs] at h

section
variable {P : Program} {S : Loc} {w : World}
theorem eq_of {t : TypeId} {x y : Value} {r : Bool} (h : ∀ d, (Op.equalIn (d + 1) t x y).run P w = .ok r w) : (Op.equal t x y).run P w = .ok r w := h 9999
theorem sim_aeq {t : TypeId} {x y : V} {cx cy : Value} {r : Bool} (hx : VR S x cx) (hy : VR S y cy) (h : aeq P t x y = some r) :
    (Op.equal t cx cy).run P w = .ok r w ∧ ∀ op ox oy, (eqGuard op t ox oy cx cy).run P w = .ok () w := by
  unfold aeq at h
  split at h
  · rename_i xs ys
    cases hx with
    | agg _ lx hvx _ =>
      cases hy with
      | agg _ ly hvy _ =>
        split at h
        · rename_i ks hq
          split at h
          · rename_i hf
            unfold qeq at hq
            split at hq
            · rename_i hg
              obtain ⟨_, hrun⟩ := kindsOf_run (P := P) w 12 t ks hq Op.maxDepth (by decide)
              have e := hrun true hg.2 lx ly (fits_VRs hf.1 hvx) (fits_VRs hf.2 hvy)
              refine ⟨?_, fun op ox oy => run_eqGuard_agg w op t ox oy _ _ hg.1⟩
              rw [← ceqs_VRs h hvx hvy]
              simpa [Op.equal, Vof] using e
            · cases hq
          · cases h
        · cases h
  · cases hx; cases hy
    split at h <;> cases h
    rename_i hu
    exact ⟨eq_of fun d => run_equalIn_bool' w d t _ _ hu, fun op ox oy => by cases op <;> simp [eqGuard]⟩
  · -- a nil pointer
    cases hx
    split at h <;> cases h
    rename_i y' e hu
    cases hy
    · exact ⟨eq_of fun d => by simp [Op.equalIn, run_underlying hu], fun op ox oy => by cases op <;> simp [eqGuard]⟩
    · exact ⟨eq_of fun d => by simp [Op.equalIn, run_underlying hu], fun op ox oy => by cases op <;> simp [eqGuard]⟩
  · cases hy
    split at h <;> cases h
    rename_i hne e hu
    cases hx
    · exfalso; simp_all
    · exact ⟨eq_of fun d => by simp [Op.equalIn, run_underlying hu], fun op ox oy => by cases op <;> simp [eqGuard]⟩
  · cases hx
    split at h <;> cases h
    rename_i hu
    cases hy
    · exact ⟨eq_of fun d => by simp [Op.equalIn, run_underlying hu], fun op ox oy => by cases op <;> simp [eqGuard]⟩
    · exact ⟨eq_of fun d => by simp [Op.equalIn, run_underlying hu], fun op ox oy => by cases op <;> simp [eqGuard]⟩
  · cases hy
    split at h <;> cases h
    rename_i hne e hu
    cases hx
    · exfalso; simp_all
    · exact ⟨eq_of fun d => by simp [Op.equalIn, run_underlying hu], fun op ox oy => by cases op <;> simp [eqGuard]⟩
  · cases hx; cases hy
    split at h <;> cases h
    rename_i hu
    exact ⟨eq_of fun d => by simp [Op.equalIn, run_underlying hu], fun op ox oy => by cases op <;> simp [eqGuard]⟩
  · cases hx; cases hy
    split at h
    · rename_i ms hu
      split at h
      · rename_i hms
        cases h
        have hg : (Op.eqGuardIn Op.maxDepth t .nilIface .nilIface).run P w = .ok false w := by
          have : ∀ d, (Op.eqGuardIn (d + 1) t .nilIface .nilIface).run P w = .ok false w := fun d => by simp [Op.eqGuardIn, run_underlying hu, hms]
          exact this 9999
        refine ⟨eq_of fun d => by simp [Op.equalIn, run_underlying hu], fun op ox oy => ?_⟩
        unfold eqGuard
        cases op <;> simp only [] <;> first | rfl | skip
        all_goals
          simp only [Bool.not_true, Bool.not_false, Bool.false_eq_true, if_false]
          split <;> simp [hg]
      · cases h
    · cases h
  · cases hx; cases hy
    split at h <;> cases h
    rename_i hu
    exact ⟨eq_of fun d => by simp [Op.equalIn, run_underlying hu], fun op ox oy => by cases op <;> simp [eqGuard]⟩
  · cases hx
    split at h <;> cases h
    rename_i hu
    cases hy
    · exact ⟨eq_of fun d => by simp [Op.equalIn, run_underlying hu], fun op ox oy => by cases op <;> simp [eqGuard]⟩
    · exact ⟨eq_of fun d => by simp [Op.equalIn, run_underlying hu], fun op ox oy => by cases op <;> simp [eqGuard]⟩
  · cases hy
    split at h <;> cases h
    rename_i hne e hu
    cases hx
    · exfalso; simp_all
    · exact ⟨eq_of fun d => by simp [Op.equalIn, run_underlying hu], fun op ox oy => by cases op <;> simp [eqGuard]⟩
  · cases h

/-- Binary operations. -/
theorem sim_bin {op : BinOp} {t : TypeId} {x y v : V} {cx cy : Value} (hx : VR S x cx) (hy : VR S y cy) (h : abin P op t x y = some v) (ox oy : Operand) :
    ∃ cv, (∀ w, (do eqGuard op t ox oy cx cy; binOp op t cx cy : Sem Value).run P w = .ok cv w) ∧ VR S v cv := by
  unfold abin at h
  split at h
  · rename_i k a k' b
    cases hx; cases hy
    have hg : ∀ w, (eqGuard op t ox oy (.int k a) (.int k' b)).run P w = .ok () w := by intro w; cases op <;> simp [eqGuard]
    simp only [Sem.run_bind, hg, Result.andThen_ok]
    cases op
    all_goals simp only [] at h
    case shl =>
      simp only [ashift] at h; split at h <;> cases h
      rename_i hb; exact ⟨_, fun w => by simp only [binOp, Op.shift, hb, if_false]; rfl, .i _ _⟩
    case shr =>
      simp only [ashift] at h; split at h <;> cases h
      rename_i hb; exact ⟨_, fun w => by simp only [binOp, Op.shift, hb, if_false]; rfl, .i _ _⟩
    all_goals
      split at h
      · rename_i hk
        subst hk
        simp only [aint] at h
        first
          | (cases h; exact ⟨_, fun w => by simp only [binOp, ne_eq, not_true_eq_false, if_false, Op.intArith, Op.intBits, Op.intCmp]; rfl, by first | exact .i _ _ | exact .b _⟩)
          | (split at h
             · cases h
             · rename_i hb
               cases h
               exact ⟨_, fun w => by simp only [binOp, ne_eq, not_true_eq_false, if_false, Op.intDiv, hb]; rfl, .i _ _⟩)
      · cases h
  · rename_i a b
    cases hx with
    | s _ ca hca =>
      cases hy with
      | s _ cb hcb =>
        subst hca hcb
        have hg : ∀ w, (eqGuard op t ox oy (.string ca) (.string cb)).run P w = .ok () w := by intro w; cases op <;> simp [eqGuard]
        simp only [Sem.run_bind, hg, Result.andThen_ok]
        cases op <;> simp only [astr] at h
        case add =>
          split at h <;> cases h
          rename_i hl
          have hl' : ca.size + cb.size ≤ 9223372036854775807 := by simpa using hl
          exact ⟨_, fun w => by simp only [binOp_string_add]; exact run_string_add_sum w ca cb hl', .s _ _ (by simp)⟩
        all_goals first
          | (cases h; exact ⟨_, fun w => by simp only [binOp, Op.stringOp, toList_data]; rfl, .b _⟩)
          | cases h
  · rename_i h1 h2
    cases op <;> simp only [Option.map_eq_some_iff] at h <;> try cases h
    all_goals
      rename_i r hr
      obtain ⟨hr, rfl⟩ := hr
      have e := fun w => (sim_aeq (w := w) hx hy hr).1
      have hg := fun w => (sim_aeq (w := w) hx hy hr).2
      refine ⟨.bool _, ?_, .b _⟩
      intro w
      simp only [Sem.run_bind, hg, Result.andThen_ok]
      unfold binOp
      split <;> first
        | (simp [e]; done)
        | (exfalso; cases hx; cases hy; first | exact h1 _ _ _ _ rfl rfl | exact h2 _ _ rfl rfl)
        | (exfalso; cases hx <;> cases hy <;> simp_all [aeq])
        | skip
end
end Go.Abs

set_option linter.unusedVariables false
set_option linter.unusedSimpArgs false
namespace Go.Abs
open Go Go.RowKit

def afieldAddr (P : Program) (t : TypeId) (f : Nat) (a : V) : Option V :=
  match a, qfield P t f with
  | .p (some (id, g, off)), some (o, n, _) => if n = 0 then none else some (.p (some (id, g, off + o)))
  | _, _ => none
def afield (P : Program) (t : TypeId) (f : Nat) (x : V) : Option V :=
  match x, qfield P t f with
  | .agg l, some (o, n, true) => if o + n ≤ l.length then some (.agg ((l.drop o).take n)) else none
  | .agg l, some (o, _, false) => l[o]?
  | _, _ => none
def aindexAddr (P : Program) (t : TypeId) (x i : V) : Option V :=
  match x, i with
  | .sl (some (id, g, off)) len _, .i _ n => match qelem P t with
    | some e => match qsize P e with
      | some sz => if 0 ≤ n ∧ n < len then some (.p (some (id, g, off + n.toNat * sz))) else none
      | none => none
    | none => none
  | .p (some (id, g, off)), .i _ n => match qarr P t with
    | some (len, e) => match qsize P e with
      | some sz => if 0 ≤ n ∧ n < len then some (.p (some (id, g, off + n.toNat * sz))) else none
      | none => none
    | none => none
  | _, _ => none
def aindex (P : Program) (t : TypeId) (x i : V) : Option V :=
  match x, i with
  | .s l, .i _ n => if qstr P t ∧ 0 ≤ n then (l[n.toNat]?).map fun b => .i .u8 b.toNat else none
  | .agg l, .i _ n => match qarr P t with
    | some (len, e) => match qsize P e, qagg P e with
      | some sz, some true => if 0 ≤ n ∧ n < len ∧ n.toNat * sz + sz ≤ l.length then some (.agg ((l.drop (n.toNat * sz)).take sz)) else none
      | some sz, some false => if 0 ≤ n ∧ n < len ∧ sz = 1 then l[n.toNat]? else none
      | _, _ => none
    | none => none
  | _, _ => none

/-- A bound that is a number. -/
def abound (x : Option V) (d y : Nat) : Option Nat :=
  match x with
  | none => some d
  | some (.i _ n) => if 0 ≤ n ∧ n ≤ y then some n.toNat else none
  | some _ => none
def aslice (P : Program) (H : AH) (t : TypeId) (x : V) (lo hi mx : Option V) : Option V :=
  match x with
  | .s l => if qstr P t ∧ mx.isNone then
      match abound hi l.length l.length with
      | some h => match abound lo 0 h with
        | some k => some (.s ((l.take h).drop k))
        | none => none
      | none => none
    else none
  | .sl none len c => match qelem P t with
    | some e => match qsize P e, abound mx 0 0 with
      | some _, some m => match abound hi 0 m with
        | some h => match abound lo 0 h with
          | some _ => if mx.isSome = true ∧ hi.isSome = false then none else some (.sl none 0 c)
          | none => none
        | none => none
      | _, _ => none
    | none => none
  | .sl (some (id, g, off)) len clip => match qelem P t with
    | some e => match qsize P e, H.get id with
      | some sz, some (.cells c g' _ esz) => if g = g' ∧ (esz = 0 ∨ esz = sz) then
          match abound mx len len with
          | some m => match abound hi len m with
            | some h => match abound lo 0 h with
              | some k => if off + h * sz ≤ c.length then
                  (if mx.isSome then (if hi.isSome ∧ m = h then some (.sl (some (id, g, off + k * sz)) (h - k) true) else none)
                   else if clip = true ∧ h ≠ len then none else some (.sl (some (id, g, off + k * sz)) (h - k) clip)) else none
              | none => none
            | none => none
          | none => none
        else none
      | _, _ => none
    | none => none
  | .p (some (id, g, off)) => match qarr P t with
    | some (n, e) => match qsize P e, H.get id with
      | some sz, some (.cells c g' _ 0) => if g = g' ∧ mx.isNone ∧ off + n * sz ≤ c.length then
          match abound hi n n with
          | some h => match abound lo 0 h with
            | some k => some (.sl (some (id, g, off + k * sz)) (h - k) (h == n))
            | none => none
          | none => none
        else none
      | _, _ => none
    | none => none
  | _ => none

/-- The cells of what is appended, and how many elements they are. -/
def asource (P : Program) (H : AH) (sz : Nat) (x : V) : Option (List V × Nat) :=
  match x with
  | .s l => if sz = 1 then some (bytesV l, l.length) else none
  | .sl none _ _ => some ([], 0)
  | .sl (some (id, g, off)) len _ => match H.get id with
    | some (.cells c g' _ _) => if len = 0 then some ([], 0) else if g = g' ∧ off + len * sz ≤ c.length then some ((c.drop off).take (len * sz), len) else none
    | _ => none
  | _ => none

/-- The generation of a row that grew: what its block is made for stays where it must. -/
def anext (P : Program) (e : TypeId) (g off : Nat) : Nat := gnext g (if g % gK = e + 1 then off else 1)
theorem anext_gt (P : Program) (e : TypeId) (g off : Nat) : g < anext P e g off := gnext_gt ..
theorem anext_spec {P : Program} {e t : TypeId} {g off : Nat} (h : anext P e g off % gK = t + 1) : t = e ∧ off = 0 ∧ g % gK = e + 1 := by
  unfold anext at h
  split at h
  · rename_i h1
    by_cases h0 : off = 0
    · subst h0; rw [gnext_zero, h1] at h; exact ⟨(Nat.succ.inj h).symm, rfl, h1⟩
    · rw [gnext_off h0] at h; cases h
  · rw [gnext_off (by decide)] at h; cases h
theorem anext_zero {P : Program} {e : TypeId} {g : Nat} (h : g % gK = e + 1) : anext P e g 0 % gK = e + 1 := by
  unfold anext; rw [if_pos h, gnext_zero, h]
def descSrc : TypeDesc → Bool | .slice _ => true | .string => true | _ => false
def roomOk (need bytes : Nat) : Bool := 0 < bytes && (3 * need + 1000) * bytes ≤ 281474976710656

def aappend (P : Program) (H : AH) (t t2 : TypeId) (s x : V) : Option (V × AH) :=
  match qelem P t with
  | none => none
  | some e => match qsize P e, qbytes P e, qzero P e, P.underlying t2 with
    | some sz, some bytes, some z, some d2 => if 0 < sz ∧ descSrc d2 = true ∧ z.cells.map List.length = some sz then
        match asource P H sz x with
        | none => none
        | some (new, n) =>
          if n = 0 then
            match s with
            | .sl a l c => some (.sl a l c, H)
            | _ => none
          else match s with
            | .sl none _ _ => if roomOk n bytes then some (.sl (some (H.next, qgenB P e, 0)) n false, H.new (.cells new (qgenB P e) false sz)) else none
            | .sl (some (id, g, off)) len clip => match H.get id with
              | some (.cells c g' ro esz) =>
                if g = g' ∧ off + len * sz ≤ c.length ∧ roomOk (len + n) bytes then
                  if clip then some (.sl (some (H.next, 0, 0)) (len + n) false, H.new (.cells ((c.drop off).take (len * sz) ++ new) 0 false sz))
                  else if ro = false ∧ esz = sz then
                    if off + (len + n) * sz ≤ c.length then some (.sl (some (id, g, off)) (len + n) false, H.set id (.cells (splice c (off + len * sz) new) g' false esz))
                    else some (.sl (some (id, anext P e g off, 0)) (len + n) false, H.set id (.cells ((c.drop off).take (len * sz) ++ new) (anext P e g off) false esz))
                  else none
                else none
              | _ => none
            | _ => none
      else none
    | _, _, _, _ => none

def alen (P : Program) (H : AH) (t : TypeId) (x : V) : Option V :=
  match x with
  | .s l => if qstr P t then some (.i .i64 l.length) else none
  | .sl _ len _ => match qelem P t with | some _ => some (.i .i64 len) | none => none
  | .m none => match qmap P t with | some _ => some (.i .i64 0) | none => none
  | .m (some id) => match qmap P t, H.get id with
    | some _, some (.map es _) => some (.i .i64 es.length)
    | _, _ => none
  | _ => none
def amin2 : V → V → Option V
  | .i k x, .i _ y => some (.i k (if y < x then y else x))
  | _, _ => none
def amax2 : V → V → Option V
  | .i k x, .i _ y => some (.i k (if y > x then y else x))
  | _, _ => none
def afold (f : V → V → Option V) : V → List V → Option V
  | x, [] => some x
  | x, y :: l => match f x y with | some z => afold f z l | none => none

/-- May a value of this type be a map's key, by the cells alone? -/
def qkey (P : Program) (t : TypeId) : Bool :=
  match P.underlying t with
  | some (.int _) | some .string => true
  | some (.struct _) => (qeq P t).isSome
  | _ => false

/-- A key that fits its type: of ints and texts there is nothing to ask; a struct's cells are of their kinds. -/
def keyFits (P : Program) (t : TypeId) (k : V) : Bool :=
  match P.underlying t with
  | some (.struct _) => match qeq P t, k with
    | some ks, .agg l => fitsAll ks l
    | _, _ => false
  | _ => true

def alookup (P : Program) (H : AH) (t : TypeId) (x k : V) (ok : Bool) : Option V :=
  match qmap P t with
  | some (kt, et) => if qkey P kt = true ∧ keyFits P kt k = true then
      match (match x with
        | .m none => some []
        | .m (some id) => match H.get id with | some (.map es _) => some es | _ => none
        | _ => none) with
      | some es => match afind P kt k es 0 with
        | some (some (_, v)) => some (if ok then .tup [v, .b true] else v)
        | some none => match qzero P et with
          | some z => some (if ok then .tup [z, .b false] else z)
          | none => none
        | none => none
      | none => none
    else none
  | none => none
def setKV (es : List (V × V × Nat)) (i : Nat) (k v : V) : List (V × V × Nat) := es.modify i fun e => (k, v, e.2.2)
def amapUpdate (P : Program) (H : AH) (t : TypeId) (m k v : V) : Option AH :=
  match qmap P t, m with
  | some (kt, _), .m (some id) => if qkey P kt = true ∧ keyFits P kt k = true then
      match H.get id with
      | some (.map es clock) => match afind P kt k es 0 with
        | some (some (i, _)) => some (H.set id (.map (setKV es i k v) clock))
        | some none => some (H.set id (.map (es ++ [(k, v, clock)]) (clock + 1)))
        | none => none
      | _ => none
    else none
  | _, _ => none
def adelete (P : Program) (H : AH) (t : TypeId) (m k : V) : Option AH :=
  match qmap P t, m with
  | some (kt, _), .m (some id) => if qkey P kt = true ∧ keyFits P kt k = true then
      match H.get id with
      | some (.map es clock) => match afind P kt k es 0 with
        | some (some (i, _)) => some (H.set id (.map (es.eraseIdx i) clock))
        | some none => some (H.set id (.map es clock))
        | none => none
      | _ => none
    else none
  | _, _ => none

/-- The entry of a key, made if it is not there: its content and its stamp. -/
def amapEntry (P : Program) (H : AH) (t : TypeId) (m k : V) : Option (V × AH) :=
  match qmap P t, m with
  | some (kt, et), .m (some id) => if qkey P kt = true ∧ keyFits P kt k = true then
      match H.get id with
      | some (.map es clock) => match afind P kt k es 0 with
        | some (some (i, v)) => match es[i]? with
          | some e => some (.tup [v, .i .i64 e.2.2], H.set id (.map (setKV es i k v) clock))
          | none => none
        | some none => match qzero P et with
          | some z => some (.tup [z, .i .i64 clock], H.set id (.map (es ++ [(k, z, clock)]) (clock + 1)))
          | none => none
        | none => none
      | _ => none
    else none
  | _, _ => none
def setV (es : List (V × V × Nat)) (i : Nat) (v : V) : List (V × V × Nat) := es.modify i fun e => (e.1, v, e.2.2)
/-- A content put into the entry of a stamp. -/
def aentryStore (H : AH) (m stamp v : V) : Option AH :=
  match m, stamp with
  | .m (some id), .i _ b => match H.get id with
    | some (.map es clock) => match es.findIdx? (fun e => (e.2.2 : Int) == b) with
      | some i => some (H.set id (.map (setV es i v) clock))
      | none => none
    | _ => none
  | _, _ => none
/-- Is it of this type? (No interface's type.) -/
def atypeAssert (P : Program) (t : TypeId) (ok : Bool) (x : V) : Option V :=
  match P.underlying t with
  | none | some (.interface _) => none
  | some _ => match x with
    | .ifc u v => if u = t then some (if ok then .tup [v, .b true] else v)
        else if ok then (qzero P t).map fun z => .tup [z, .b false] else none
    | .nif => if ok then (qzero P t).map fun z => .tup [z, .b false] else none
    | _ => none

def aconvert (P : Program) (H : AH) (src dst : TypeId) (x : V) : Option (V × AH) :=
  match P.underlying src, P.underlying dst, x with
  | some (.pointer t), some .unsafePointer, .p (some (id, g, off)) => match H.get id, qsize P t with
    | some (.cells c g' _ _), some n => if g = g' ∧ off < c.length ∧ 0 < n then some (.p (some (id, g, off)), H) else none
    | _, _ => none
  | some .unsafePointer, some (.pointer u), .p (some (id, g, 0)) => match H.get id with
    | some (.cells c g' false _) => if g = g' ∧ g % gK = u + 1 ∧ 0 < P.cellsOf u ∧ P.cellsOf u ≤ c.length ∧ (qsize P u).isSome = true then some (.p (some (id, g, 0)), H) else none
    | _ => none
  | some _, some (.int k), .i _ n => some (.i k (k.wrap n), H)
  | some _, some .string, .s l => some (.s l, H)
  | some _, some (.slice e), .s l => match P.underlying e with
    | some (.int .u8) => some (.sl (some (H.next, 0, 0)) l.length false, H.new (.cells (bytesV l) 0 false 1))
    | _ => none
  | some (.slice e), some .string, .sl none _ _ => match P.underlying e with
    | some (.int .u8) => some (.s [], H)
    | _ => none
  | some (.slice e), some .string, .sl (some (id, g, off)) len _ => match P.underlying e, H.get id with
    | some (.int .u8), some (.cells c g' _ _) => if len = 0 then some (.s [], H) else if g = g' ∧ off + len ≤ c.length then (unbytes ((c.drop off).take len)).map fun l => (.s l, H) else none
    | _, _ => none
  | _, _, _ => none

/-- Is a pointer itself? (Two places aren't told apart.) -/
def apeq (P : Program) (H : AH) (op : BinOp) (t : TypeId) (x y : V) : Option V :=
  match P.underlying t, x, y with
  | some (.pointer e), .p (some (id, g, off)), .p (some q) => match H.get id, qsize P e with
    | some (.cells _ g' _ _), some n => if (id, g, off) = q ∧ g = g' ∧ 0 < n then
        match op with
        | .eql => some (.b true)
        | .neq => some (.b false)
        | _ => none
      else none
    | _, _ => none
  | _, _, _ => none
def abin2 (P : Program) (H : AH) (op : BinOp) (t : TypeId) (x y : V) : Option V :=
  match x, y with
  | .p (some a), .p (some b) => apeq P H op t (.p (some a)) (.p (some b))
  | x, y => abin P op t x y
def aunsafeData (x : V) : Option V :=
  match x with
  | .sl none _ _ => some (.p none)
  | .sl (some q) len _ => if len = 0 then none else some (.p (some q))
  | _ => none
/-- Cells that are bytes. -/
def unbytesS : List V → Option (List UInt8)
  | [] => some []
  | .i .u8 n :: l => if 0 ≤ n ∧ n < 256 then (unbytesS l).map (UInt8.ofNat n.toNat :: ·) else none
  | _ => none
theorem unbytesS_spec : ∀ {c : List V} {l : List UInt8}, unbytesS c = some l → c = bytesV l
  | [], l, h => by simp [unbytesS] at h; subst h; rfl
  | v :: c, l, h => by
    unfold unbytesS at h
    split at h
    · rename_i e; cases e
    · rename_i n l' e
      injection e with e1 e2
      subst e1 e2
      split at h
      · rename_i hn
        simp only [Option.map_eq_some_iff] at h
        obtain ⟨l2, h2, rfl⟩ := h
        have : (UInt8.ofNat n.toNat).toNat = n.toNat := by simp; omega
        rw [unbytesS_spec h2]
        simp only [bytesV, List.map_cons, this, List.cons.injEq, V.i.injEq, and_true, true_and]
        omega
      · cases h
    · cases h
@[simp] theorem unbytesS_bytes (l : List UInt8) : unbytesS (bytesV l) = some l := by
  induction l with
  | nil => rfl
  | cons b l ih =>
    have h : (0 : Int) ≤ b.toNat ∧ (b.toNat : Int) < 256 := ⟨by omega, by have := b.toNat_lt; omega⟩
    have e : bytesV (b :: l) = .i .u8 b.toNat :: bytesV l := rfl
    rw [e, unbytesS, if_pos h, ih]
    simp
/-- unsafe.String: what it shares is never written again. -/
def aunsafeString (P : Program) (H : AH) (pt : TypeId) (p n : V) : Option (V × AH) :=
  match P.underlying pt, p, n with
  | some (.pointer e), .p (some (id, g, 0)), .i .i64 k => match H.get id with
    | some (.cells c g' false esz) => if g = g' ∧ g % gK = e + 1 ∧ P.cellsOf e = 1 ∧ 0 < k ∧ k ≤ c.length ∧ k ≤ 9223372036854775807 then
        (unbytesS (c.take k.toNat)).map fun l => (.s l, H.set id (.cells c g true esz))
      else none
    | _ => none
  | some (.pointer _), .p none, .i .i64 k => if k = 0 then some (.s [], H) else none
  | _, _, _ => none

def abuild (P : Program) (t : TypeId) (parts : List (Nat × V)) : Option V :=
  match qplaces P t, qzero P t with
  | some pl, some (.agg z) => (afill (fun i => pl[i]?) z parts).map .agg
  | _, _ => match qarr P t, qzero P t with
    | some (_, e), some (.agg z) => match qsize P e with
      | some sz => (afill (fun i => some (i * sz, sz)) z parts).map .agg
      | none => none
    | _, _ => none
def abuildSlice (P : Program) (H : AH) (t : TypeId) (n : Nat) (parts : List (Nat × V)) : Option (V × AH) :=
  match qelem P t with
  | some e => match qsize P e, qzero P e with
    | some sz, some z => match z.cells with
      | some zl => if zl.length = sz ∧ n * sz ≤ 16777216 ∧ 0 < sz then
          match afill (fun i => some (i * sz, sz)) (List.replicate n zl).flatten parts with
          | some l => some (.sl (some (H.next, 0, 0)) n false, H.new (.cells l 0 false sz))
          | none => none
        else none
      | none => none
    | _, _ => none
  | none => none

/-! Ranging over a map (a text's turn comes when it is needed). -/
def arange (P : Program) (H : AH) (t : TypeId) (x : V) : Option (V × AH) :=
  match qmap P t, x with
  | some _, .m none => some (.p (some (H.next, 0, 0)), H.new (.mapIter none 0 [] 0))
  | some _, .m (some m) => match H.get m with
    | some (.map _ clock) => some (.p (some (H.next, 0, 0)), H.new (.mapIter (some m) clock [] clock))
    | _ => none
  | _, .s l => if qstr P t then some (.p (some (H.next, 0, 0)), H.new (.strIter l 0)) else none
  | _, _ => none
/-- The next letter of a text. -/
def anextS (H : AH) (it : V) : Option (V × AH) :=
  match it with
  | .p (some (id, 0, 0)) => match H.get id with
    | some (.strIter s pos) => if pos < s.length then some (.tup [.b true, .i .i64 pos, .i .i32 (Utf8.decode ⟨s.toArray⟩ pos).1], H.set id (.strIter s (pos + (Utf8.decode ⟨s.toArray⟩ pos).2))) else some (.tup [.b false], H)
    | _ => none
  | _ => none
/-- What 'next' may do: any entry that was not seen may come; it may end where no old one is left. -/
def ANext (H : AH) (it : V) (K : V → AH → Prop) : Prop :=
  match it with
  | .p (some (id, 0, 0)) => match H.get id with
    | some (.mapIter none _ _ _) => K (.tup [.b false]) H
    | some (.mapIter (some m) since seen stepped) => match H.get m with
      | some (.map es clock) => (seen = [] ∨ es = [] ∨ ∃ e ∈ es, e.2.2 < stepped) ∧
          (∀ e ∈ es, e.2.2 ∉ seen → K (.tup [.b true, e.1, e.2.1]) (H.set id (.mapIter (some m) since (seen ++ [e.2.2]) clock))) ∧
          ((∀ e ∈ es, e.2.2 ∉ seen → since ≤ e.2.2) → K (.tup [.b false]) H)
      | _ => False
    | _ => False
  | _ => False
def aentry (H : AH) (it : V) : Option V :=
  match it with
  | .p (some (id, 0, 0)) => match H.get id with
    | some (.mapIter (some m) _ seen stepped) => match seen.getLast?, H.get m with
      | some stamp, some (.map es clock) => if clock = stepped then (es.find? fun e => e.2.2 == stamp).map fun e => .tup [e.1, e.2.1] else none
      | _, _ => none
    | _ => none
  | _ => none

def evs (ev : Operand → V) (xs : Array Operand) : List V := xs.toList.map ev
def evo (ev : Operand → V) (x : Option Operand) : Option V := x.map ev

/-- One operation that is no call of a Go function. -/
def aop (P : Program) (op : Op) (ev : Operand → V) (H : AH) : Option (V × AH) :=
  match op with
  | .move x | .assign x => some (ev x, H)
  | .pick c a b => match ev c with
    | .b true => some (ev a, H)
    | .b false => some (ev b, H)
    | _ => none
  | .alloc t => match qzero P t with
    | some z => z.cells.map fun l => (.p (some (H.next, qgen P t, 0)), H.new (.cells l (qgen P t) false 0))
    | none => none
  | .box _ x => (ev x).cells.map fun l => (.p (some (H.next, 0, 0)), H.new (.cells l 0 false 0))
  | .build t parts => (abuild P t (parts.toList.map fun (i, x) => (i, ev x))).map (·, H)
  | .buildSlice t n parts => abuildSlice P H t n (parts.toList.map fun (i, x) => (i, ev x))
  | .load t a => (aload P H t (ev a)).map (·, H)
  | .store t a x => (astore P H t (ev a) (ev x)).map (.un, ·)
  | .nilCheck x => match ev x with
    | .p (some q) => some (.p (some q), H)
    | .ifc t v => some (.ifc t v, H)
    | .fn (.func f) a b => some (.fn (.func f) a b, H)
    | _ => none
  | .binOp op t x y _ => (abin2 P H op t (ev x) (ev y)).map (·, H)
  | .unOp op _ x => (aunary op (ev x)).map (·, H)
  | .convert src dst x => aconvert P H src dst (ev x)
  | .makeInterface t x => if qconcrete P t then some (.ifc t (ev x), H) else none
  | .makeFunc fn first caps => some (.fn fn (evs ev first) (evs ev caps), H)
  | .makeMap _ none => some (.m (some H.next), H.new (.map [] 0))
  | .slice t x lo hi mx => (aslice P H t (ev x) (evo ev lo) (evo ev hi) (evo ev mx)).map (·, H)
  | .fieldAddr t x f => (afieldAddr P t f (ev x)).map (·, H)
  | .field t x f => (afield P t f (ev x)).map (·, H)
  | .indexAddr t x i => (aindexAddr P t (ev x) (ev i)).map (·, H)
  | .index t x i => (aindex P t (ev x) (ev i)).map (·, H)
  | .lookup t x k ok => (alookup P H t (ev x) (ev k) ok).map (·, H)
  | .mapUpdate t m k x | .insert t m k x => (amapUpdate P H t (ev m) (ev k) (ev x)).map (.un, ·)
  | .mapEntry t m k => amapEntry P H t (ev m) (ev k)
  | .entryStore _ m b x => (aentryStore H (ev m) (ev b) (ev x)).map (.un, ·)
  | .typeAssert x _ t ok => (atypeAssert P t ok (ev x)).map (·, H)
  | .range t x => arange P H t (ev x)
  | .entry x => (aentry H (ev x)).map (·, H)
  | .next x true => anextS H (ev x)
  | .extract x i => match ev x with
    | .tup l => (l[i]?).map (·, H)
    | _ => none
  | .call { callee := .builtin b, args, argTypes } =>
    match b, args.toList.map ev, argTypes.toList with
    | .len, [x], [t] => (alen P H t x).map (·, H)
    | .append, [s, x], [t, t2] => aappend P H t t2 s x
    | .min, x :: l, _ => (afold amin2 x l).map (·, H)
    | .max, x :: l, _ => (afold amax2 x l).map (·, H)
    | .delete, [m, k], [t, _] => (adelete P H t m k).map (.un, ·)
    | .unsafeSliceData, [x], _ => (aunsafeData x).map (·, H)
    | .unsafeString, [p, n], [t, _] => aunsafeString P H t p n
    | _, _, _ => none
  | _ => none

end Go.Abs

set_option linter.unusedVariables false
set_option linter.unusedSimpArgs false
namespace Go.Abs
open Go Go.RowKit

section
variable {C : Ctx} {P : Program} {S : Loc} {H : AH} {w : World}

theorem qelem_spec {t e : TypeId} (h : qelem P t = some e) : P.underlying t = some (.slice e) := by
  unfold qelem at h; split at h <;> simp_all
theorem qarr_spec {t e : TypeId} {n : Nat} (h : qarr P t = some (n, e)) : P.underlying t = some (.array n e) := by
  unfold qarr at h; split at h <;> simp_all
theorem qmap_spec {t k e : TypeId} (h : qmap P t = some (k, e)) : P.underlying t = some (.map k e) := by
  unfold qmap at h; split at h <;> simp_all
theorem qstr_spec {t : TypeId} (h : qstr P t = true) : P.underlying t = some .string := by
  unfold qstr at h; split at h <;> simp_all
theorem qfield_spec {t : TypeId} {f o n : Nat} {a : Bool} (h : qfield P t f = some (o, n, a)) :
    ∃ fs fl, P.underlying t = some (.struct fs) ∧ fs[f]? = some fl ∧ fl.offset = o ∧ qsize P fl.type = some n ∧ qagg P fl.type = some a := by
  unfold qfield at h
  split at h
  · rename_i fs hu
    split at h
    · rename_i fl hf
      split at h
      · rename_i n' a' hn ha
        simp only [Option.some.injEq, Prod.mk.injEq] at h
        obtain ⟨rfl, rfl, rfl⟩ := h
        exact ⟨fs, fl, hu, hf, rfl, hn, ha⟩
      · cases h
    · cases h
  · cases h

theorem sim_fieldAddr {t : TypeId} {f : Nat} {a v : V} {ca : Value} (ha : VR S a ca) (h : afieldAddr P t f a = some v) :
    ∃ cv, (∀ w, (Instr.fieldAt t ca f).run P w = .ok cv w) ∧ VR S v cv := by
  unfold afieldAddr at h
  split at h
  · rename_i id g off o n b hq
    obtain ⟨fs, fl, hu, hf, ho, hn, _⟩ := qfield_spec hq
    split at h <;> cases h
    rename_i hn0
    cases ha with
    | p _ _ _ ad h1 h2 h3 =>
      refine ⟨.pointer (some (ad.add fl.offset)), ?_, .p _ _ _ _ h1 h2 fun e => ?_⟩
      · intro w; unfold Instr.fieldAt Instr.sureAddr fieldPlace
        simp [run_underlying hu, hf, run_sizeOf w hn, hn0]
      · rw [h3 e, add_none, ho, Nat.add_assoc]
  · cases h

theorem VR.agg_part {l : List V} {l' : List Value} (h : VRs S l l') (h2 : ∀ c ∈ l', c.oneCell' = true) (o n : Nat) :
    VR S (.agg ((l.drop o).take n)) (.agg ((l'.drop o).take n).toArray) :=
  .agg _ _ ((h.drop o).take n) fun c hc => h2 c (List.mem_of_mem_drop (List.mem_of_mem_take hc))

theorem run_part_agg {t : TypeId} {n : Nat} (w : World) (cs : List Value) (off : Nat) (ha : qagg P t = some true) (hn : qsize P t = some n) (hl : off + n ≤ cs.length) :
    (part t cs.toArray off).run P w = .ok (.agg ((cs.drop off).take n).toArray) w := by
  have := run_part (P := P) w cs.toArray off ha hn (fun e => by cases e) (by simpa using hl)
  simpa [Vof] using this
theorem run_part_one {t : TypeId} {n : Nat} (w : World) (cs : List Value) (off : Nat) (ha : qagg P t = some false) (v : Value) (hv : cs[off]? = some v) :
    (part t cs.toArray off).run P w = .ok v w := by
  unfold part
  simp [run_isAgg w ha, hv]

theorem sim_field {t : TypeId} {f : Nat} {x v : V} {cx : Value} (hx : VR S x cx) (h : afield P t f x = some v) :
    ∃ cv, (∀ w, (Instr.field t cx f).run P w = .ok cv w) ∧ VR S v cv := by
  unfold afield at h
  split at h
  · rename_i l o n hq
    obtain ⟨fs, fl, hu, hf, ho, hn, hagg⟩ := qfield_spec hq
    split at h <;> cases h
    rename_i hl
    cases hx with
    | agg _ l' hv h2 =>
      refine ⟨_, ?_, VR.agg_part hv h2 o n⟩
      intro w
      unfold Instr.field
      simp only [Sem.run_bind, run_underlying hu, Result.andThen_ok, hf, asAgg, Sem.run_pure, ho]
      exact run_part_agg w l' o hagg hn (by rw [← hv.length]; exact hl)
  · rename_i l o n hq
    obtain ⟨fs, fl, hu, hf, ho, hn, hagg⟩ := qfield_spec hq
    cases hx with
    | agg _ l' hv h2 =>
      obtain ⟨c, hc, hcv⟩ := hv.get o v h
      refine ⟨c, ?_, hcv⟩
      intro w
      unfold Instr.field
      simp only [Sem.run_bind, run_underlying hu, Result.andThen_ok, hf, asAgg, Sem.run_pure, ho]
      exact run_part_one (n := n) w l' o hagg c hc
  · cases h

theorem sim_indexAddr {t : TypeId} {x i v : V} {cx ci : Value} (hx : VR S x cx) (hi : VR S i ci) (h : aindexAddr P t x i = some v) :
    ∃ cv, (∀ w, (Instr.indexAt t cx ci).run P w = .ok cv w) ∧ VR S v cv := by
  unfold aindexAddr at h
  split at h
  · rename_i id g off len clip k n
    split at h
    · rename_i e he
      split at h
      · rename_i sz hsz
        split at h <;> cases h
        rename_i hb
        have hu := qelem_spec he
        cases hi
        cases hx with
        | sl _ _ _ _ cap _ ad h1 h2 hl h3 h4 h5 =>
          refine ⟨.pointer (some (ad.add (n.toNat * sz))), ?_, .p _ _ _ _ h1 h2 fun e => ?_⟩
          · intro w; unfold Instr.indexAt
            simp [asIntOf, run_underlying hu, hb, run_sizeOf w hsz]
          · rw [h3 e (by omega), add_none, Nat.add_assoc]
      · cases h
    · cases h
  · rename_i id g off k n
    split at h
    · rename_i len e he
      split at h
      · rename_i sz hsz
        split at h <;> cases h
        rename_i hb
        have hu := qarr_spec he
        cases hi
        cases hx with
        | p _ _ _ ad h1 h2 h3 =>
          refine ⟨.pointer (some (ad.add (n.toNat * sz))), ?_, .p _ _ _ _ h1 h2 fun e => ?_⟩
          · intro w; unfold Instr.indexAt Instr.sureAddr
            simp [asIntOf, run_underlying hu, hb, run_sizeOf w hsz]
          · rw [h3 e, add_none, Nat.add_assoc]
      · cases h
    · cases h
  · cases h

theorem sim_index {t : TypeId} {x i v : V} {cx ci : Value} (hx : VR S x cx) (hi : VR S i ci) (h : aindex P t x i = some v) :
    ∃ cv, (∀ w, (Instr.index t cx ci).run P w = .ok cv w) ∧ VR S v cv := by
  unfold aindex at h
  split at h
  · rename_i l k n
    split at h
    · rename_i hb
      have hu := qstr_spec hb.1
      cases hi
      cases hx with
      | s _ c hc =>
        simp only [Option.map_eq_some_iff] at h
        obtain ⟨b, hb2, rfl⟩ := h
        subst hc
        have hlt : n.toNat < c.size := by
          have := (List.getElem?_eq_some_iff.1 hb2).1
          simpa using this
        have e : (if 0 ≤ n then c[n.toNat]? else none) = some b := by
          rw [if_pos hb.2, ByteArray.getElem?_lt' c _ hlt]
          have := (List.getElem?_eq_some_iff.1 hb2).2
          rw [← this]; rfl
        refine ⟨.int .u8 b.toNat, ?_, .i _ _⟩
        intro w
        unfold Instr.index
        simp only [Sem.run_bind, asIntOf, Sem.run_pure, Result.andThen_ok, run_underlying hu, e]
    · cases h
  · rename_i l k n
    split at h
    · rename_i len e he
      have hu := qarr_spec he
      cases hi
      cases hx with
      | agg _ l' hv h2 =>
        split at h
        · rename_i sz hsz hagg
          split at h <;> cases h
          rename_i hb
          refine ⟨_, ?_, VR.agg_part hv h2 (n.toNat * sz) sz⟩
          intro w
          unfold Instr.index
          simp only [Sem.run_bind, asIntOf, Sem.run_pure, Result.andThen_ok, run_underlying hu]
          rw [if_pos ⟨hb.1, hb.2.1⟩]
          simp only [Sem.run_bind, run_sizeOf w hsz, Result.andThen_ok]
          exact run_part_agg w l' _ hagg hsz (by rw [← hv.length]; exact hb.2.2)
        · rename_i sz hsz hagg
          split at h
          · rename_i hb
            obtain ⟨c, hc, hcv⟩ := hv.get _ v h
            refine ⟨c, ?_, hcv⟩
            intro w
            unfold Instr.index
            simp only [Sem.run_bind, asIntOf, Sem.run_pure, Result.andThen_ok, run_underlying hu]
            rw [if_pos ⟨hb.1, hb.2.1⟩]
            simp only [Sem.run_bind, run_sizeOf w hsz, Result.andThen_ok]
            rw [hb.2.2, Nat.mul_one]
            exact run_part_one (n := sz) w l' _ hagg c hc
          · cases h
        · cases h
    · cases h
  · cases h

/-! Slices. -/
def VRo (S : Loc) : Option V → Option Value → Prop
  | none, none => True
  | some v, some c => VR S v c
  | _, _ => False

theorem sim_bound {x : Option V} {cx : Option Value} {d y r : Nat} (hx : VRo S x cx) (h : abound x d y = some r) :
    (cx = none ∧ x = none ∧ r = d) ∨ (∃ c, cx = some c ∧ x.isSome = true ∧ r ≤ y ∧ ∀ y' code, y ≤ y' → (Instr.sliceBound c y' code).run P w = .ok r w) := by
  unfold abound at h
  split at h
  · cases cx with
    | none => cases h; exact .inl ⟨rfl, rfl, rfl⟩
    | some c => exact hx.elim
  · rename_i k n
    cases cx with
    | none => exact hx.elim
    | some c =>
      have hx : VR S (.i k n) c := hx
      cases hx
      split at h <;> cases h
      rename_i hb
      refine .inr ⟨_, rfl, rfl, by omega, fun y' code hy => ?_⟩
      unfold Instr.sliceBound
      have : 0 ≤ n ∧ n ≤ (y' : Int) := ⟨hb.1, by omega⟩
      simp [asIntOf, this]
  · cases h

/-- Bounds without a third one. -/
theorem run_bounds2 {lo hi : Option V} {clo chi : Option Value} {len y cap k h : Nat} (isSlice : Bool) (hlo : VRo S lo clo) (hhi : VRo S hi chi) (e1 : abound hi len y = some h) (e2 : abound lo 0 h = some k) (hc : y ≤ cap) (hl : len ≤ y) :
    (Instr.sliceBounds isSlice len cap clo chi none).run P w = .ok (k, h, cap) w ∧ h ≤ y ∧ k ≤ h := by
  unfold Instr.sliceBounds
  rcases sim_bound (P := P) (w := w) hhi e1 with ⟨rfl, _, rfl⟩ | ⟨cc, rfl, _, hr1, q1⟩ <;> rcases sim_bound (P := P) (w := w) hlo e2 with ⟨rfl, _, rfl⟩ | ⟨cd, rfl, _, hr2, q2⟩
  · simp [hl]
  · simp [q2 _ _ (Nat.le_refl _), hl, hr2]
  · simp [q1 _ _ hc, hr1]
  · simp [q1 _ _ hc, q2 _ _ (Nat.le_refl _), hr1, hr2]
/-- Bounds with a third one. -/
theorem run_bounds3 {lo hi mx : Option V} {clo chi cmx : Option Value} {len y cap k h m : Nat} (isSlice : Bool) (hlo : VRo S lo clo) (hhi : VRo S hi chi) (hmx : VRo S mx cmx) (e0 : abound mx len y = some m) (e1 : abound hi len m = some h) (e2 : abound lo 0 h = some k)
    (hc : y ≤ cap) (hl : len ≤ y) (h1 : hi.isSome = true) (h2 : mx.isSome = true) :
    (Instr.sliceBounds isSlice len cap clo chi cmx).run P w = .ok (k, h, m) w ∧ h ≤ m ∧ k ≤ h ∧ m ≤ y := by
  unfold Instr.sliceBounds
  rcases sim_bound (P := P) (w := w) hmx e0 with ⟨rfl, r0, rfl⟩ | ⟨cb, rfl, _, hr0, q0⟩
  · subst r0; simp at h2
  · rcases sim_bound (P := P) (w := w) hhi e1 with ⟨rfl, r1, rfl⟩ | ⟨cc, rfl, _, hr1, q1⟩
    · subst r1; simp at h1
    · rcases sim_bound (P := P) (w := w) hlo e2 with ⟨rfl, _, rfl⟩ | ⟨cd, rfl, _, hr2, q2⟩
      · simp [q0 _ _ hc, q1 _ _ (Nat.le_refl _), hr1, hr0]
      · simp [q0 _ _ hc, q1 _ _ (Nat.le_refl _), q2 _ _ (Nat.le_refl _), hr1, hr0, hr2]

theorem run_sliceAt_of (t e : TypeId) (a : Option Addr) (len cap k h m sz : Nat) (clo chi cmx : Option Value) (hu : P.underlying t = some (.slice e)) (hsz : qsize P e = some sz)
    (hb : (Instr.sliceBounds true len cap clo chi cmx).run P w = .ok (k, h, m) w) :
    (Instr.sliceAt t (.slice a len cap) clo chi cmx).run P w = .ok (.slice (if m = k then a else a.map (·.add (k * sz))) (h - k) (m - k)) w := by
  unfold Instr.sliceAt
  simp only [Sem.run_bind, run_underlying hu, Result.andThen_ok]
  unfold Instr.slice
  simp only [Sem.run_bind, run_underlying hu, Result.andThen_ok, hb, run_sizeOf w hsz, Sem.run_pure]

theorem sim_slice (hH : HR C S H w) {t : TypeId} {x v : V} {lo hi mx : Option V} {cx : Value} {clo chi cmx : Option Value} (hx : VR S x cx) (hlo : VRo S lo clo) (hhi : VRo S hi chi) (hmx : VRo S mx cmx)
    (h : aslice P H t x lo hi mx = some v) : ∃ cv, (Instr.sliceAt t cx clo chi cmx).run P w = .ok cv w ∧ VR S v cv := by
  unfold aslice at h
  split at h
  · -- a string
    rename_i l
    split at h
    · rename_i hq
      have hu := qstr_spec hq.1
      cases mx with
      | some _ => simp at hq
      | none =>
        cases cmx with
        | some _ => exact hmx.elim
        | none =>
          cases hx with
          | s _ c hc =>
            subst hc
            split at h
            · rename_i h' hh
              split at h
              · rename_i k hk
                cases h
                have hsz : c.data.toList.length = c.size := by simp
                rw [hsz] at hh
                obtain ⟨hb, hle, hkl⟩ := run_bounds2 (P := P) (w := w) false hlo hhi hh hk (Nat.le_refl _) (Nat.le_refl _)
                refine ⟨.string (c.extract k h'), ?_, .s _ _ ?_⟩
                · unfold Instr.sliceAt
                  simp only [Sem.run_bind, run_underlying hu, Result.andThen_ok]
                  unfold Instr.slice
                  simp only [Sem.run_bind, run_underlying hu, Result.andThen_ok, Option.isSome_none, Bool.false_eq_true, if_false, hb, Sem.run_pure]
                · simp only [ByteArray.data_extract, Array.toList_extract]
                  rw [List.extract_eq_take_drop, List.drop_take]
              · cases h
            · cases h
    · cases h
  · -- nil
    rename_i len c
    cases hx
    split at h
    · rename_i e he
      split at h
      · rename_i sz m hsz hm
        split at h
        · rename_i h' hh
          split at h
          · rename_i k hk
            split at h
            · cases h
            · rename_i hms
              cases h
              have hu := qelem_spec he
              have hres : ∃ h'' m', (Instr.sliceBounds true 0 0 clo chi cmx).run P w = .ok (0, h'', m') w ∧ h'' = 0 ∧ m' = 0 := by
                by_cases hmx1 : mx.isSome = true
                · obtain ⟨hb, q1, q2, q3⟩ := run_bounds3 (P := P) (w := w) true hlo hhi hmx hm hh hk (Nat.le_refl 0) (Nat.le_refl 0) (by
                    cases hi <;> simp_all) hmx1
                  have e1 : m = 0 := by omega
                  have e2 : h' = 0 := by omega
                  have e3 : k = 0 := by omega
                  subst e1 e2 e3
                  exact ⟨0, 0, hb, rfl, rfl⟩
                · have hmn : mx = none := by simpa using hmx1
                  subst hmn
                  cases cmx with
                  | some _ => exact hmx.elim
                  | none =>
                    simp only [abound, Option.some.injEq] at hm
                    subst hm
                    obtain ⟨hb, q1, q2⟩ := run_bounds2 (P := P) (w := w) true hlo hhi hh hk (Nat.le_refl 0) (Nat.le_refl 0)
                    have e2 : h' = 0 := by omega
                    have e3 : k = 0 := by omega
                    subst e2 e3
                    exact ⟨0, 0, hb, rfl, rfl⟩
              obtain ⟨_, _, hb, rfl, rfl⟩ := hres
              refine ⟨_, run_sliceAt_of t e none 0 0 0 0 0 sz _ _ _ hu hsz hb, ?_⟩
              simp only [if_true, Nat.sub_self]
              exact .slnil _
          · cases h
        · cases h
      · cases h
    · cases h
  · -- a slice
    rename_i id g off len clip
    split at h
    · rename_i e he
      split at h
      · rename_i sz c g' ro esz hsz hg
        split at h
        · rename_i hge
          obtain ⟨hge, hesz⟩ := hge
          subst hge
          have hu := qelem_spec he
          cases hx with
          | sl _ _ _ _ cap _ ad h1 h2 hl h3 h4 h5 =>
            have ho := hH.obj id _ hg
            split at h
            · rename_i m hm
              split at h
              · rename_i hh' hhh
                split at h
                · rename_i k hk
                  split at h
                  · rename_i hlen
                    split at h
                    · rename_i hms
                      split at h <;> cases h
                      rename_i hmh
                      obtain ⟨hmh1, hmh2⟩ := hmh
                      subst hmh2
                      obtain ⟨hb, q1, q2, q3⟩ := run_bounds3 (P := P) (w := w) true hlo hhi hmx hm hhh hk hl (Nat.le_refl _) hmh1 hms
                      refine ⟨_, run_sliceAt_of t e _ len cap k m m sz _ _ _ hu hsz hb, ?_⟩
                      split
                      · rename_i hmk
                        subst hmk
                        simp only [Nat.sub_self]
                        exact .sl _ _ _ _ _ _ _ h1 h2 (Nat.le_refl _) (fun _ h => absurd h (by omega)) (fun _ => rfl) (fun _ _ _ h => by cases h)
                      · exact .sl _ _ _ _ _ _ _ h1 h2 (Nat.le_refl _) (fun e _ => by rw [h3 e (by omega)]; show Addr.add _ _ = _; rw [add_none, Nat.add_assoc]) (fun _ => rfl) (fun _ _ _ h => by cases h)
                    · rename_i hms
                      split at h
                      · cases h
                      · rename_i hcl
                        cases h
                        have hmn : mx = none := by simpa using hms
                        subst hmn
                        cases cmx with
                        | some _ => exact hmx.elim
                        | none =>
                          simp only [abound, Option.some.injEq] at hm
                          subst hm
                          obtain ⟨hb, q1, q2⟩ := run_bounds2 (P := P) (w := w) true hlo hhi hhh hk hl (Nat.le_refl _)
                          refine ⟨_, run_sliceAt_of t e _ len cap k hh' cap sz _ _ _ hu hsz hb, ?_⟩
                          have hr : g = S.gen id → S.own id = true → 0 < S.esz id → clip = false → S.base id + (off + k * sz) + (cap - k) * S.esz id = S.room id := by
                            intro e1 e2 e3 hc
                            have hes : sz = S.esz id := by
                              have := ho.2.1
                              rcases hesz with h | h <;> omega
                            have := h5 e1 e2 e3 hc
                            rw [← hes] at this ⊢
                            have : (cap - k) * sz + k * sz = cap * sz := by rw [← Nat.add_mul, Nat.sub_add_cancel (by omega)]
                            omega
                          have hcc : clip = true → cap - k = hh' - k := by
                            intro hc
                            have := h4 hc
                            have : hh' = len := by simpa [hc] using hcl
                            omega
                          split
                          · rename_i hmk
                            subst hmk
                            exact .sl _ _ _ _ _ _ _ h1 h2 (by omega) (fun _ h => absurd h (by omega)) hcc hr
                          · exact .sl _ _ _ _ _ _ _ h1 h2 (by omega) (fun e _ => by rw [h3 e (by omega)]; show Addr.add _ _ = _; rw [add_none, Nat.add_assoc]) hcc hr
                  · cases h
                · cases h
              · cases h
            · cases h
        · cases h
      · cases h
    · cases h
  · -- an array
    rename_i id g off
    split at h
    · rename_i n e he
      split at h
      · rename_i sz c g' ro hsz hg
        split at h
        · rename_i hge
          obtain ⟨hge, hmn, hcl⟩ := hge
          subst hge
          have hu := qarr_spec he
          cases mx with
          | some _ => simp at hmn
          | none =>
            cases cmx with
            | some _ => exact hmx.elim
            | none =>
              cases hx with
              | p _ _ _ ad h1 h2 h3 =>
                have ho := hH.obj id _ hg
                split at h
                · rename_i hh' hhh
                  split at h
                  · rename_i k hk
                    cases h
                    obtain ⟨hb, q1, q2⟩ := run_bounds2 (P := P) (w := w) false hlo hhi hhh hk (Nat.le_refl _) (Nat.le_refl _)
                    refine ⟨.slice (some (if n = k then ad else ad.add (k * sz))) (hh' - k) (n - k), ?_, ?_⟩
                    · unfold Instr.sliceAt Instr.sureAddr
                      simp only [Sem.run_bind, run_underlying hu, Result.andThen_ok, Sem.run_pure, hb, run_sizeOf w hsz]
                    · refine .sl _ _ _ _ _ _ _ h1 h2 (by omega) (fun e1 e2 => ?_) (fun hc => ?_) (fun e1 e2 e3 _ => ?_)
                      · rw [if_neg (by omega), h3 e1, add_none, Nat.add_assoc]
                      · simp at hc; omega
                      · have := ho.2.1; omega
                  · cases h
                · cases h
        · cases h
      · cases h
    · cases h
  · cases h

end
end Go.Abs

set_option linter.unusedVariables false
set_option linter.unusedSimpArgs false
namespace Go.Abs
open Go Go.RowKit

section
variable {P : Program} {w : World}

/-- The walk over a struct's fields that looks at a key. -/
def ckFields (e : Bool) (d : Nat) (cs : Array Value) : List Field → Sem Unit
  | [] => pure ()
  | f :: fs => if f.name ≠ "_" then do
      let v ← part f.type cs f.offset
      Instr.checkKey e d f.type v
      ckFields e d cs fs
    else ckFields e d cs fs

theorem run_checkKey_struct (e : Bool) (d : Nat) (t : TypeId) (cs : Array Value) (fs : Array Field) (ht : P.underlying t = some (.struct fs)) :
    (Instr.checkKey e (d + 1) t (.agg cs)).run P w = (ckFields e d cs fs.toList).run P w := by
  simp only [Instr.checkKey, Sem.run_bind, run_underlying ht, Result.andThen_ok]
  rw [← Array.forIn_toList]
  generalize fs.toList = l
  clear ht
  induction l generalizing w with
  | nil => simp [ckFields]
  | cons f fs ih =>
    simp only [List.forIn_cons, ckFields, Sem.run_bind, Sem.run_ite]
    split
    · generalize (part f.type cs f.offset).run P w = r1
      cases r1 with
      | ok a w1 =>
        simp only [Result.andThen_ok]
        generalize (Instr.checkKey e d f.type a).run P w1 = r2
        cases r2 with
        | ok b w2 =>
          simp only [Result.andThen_ok, Sem.run_pure]
          exact ih
        | halt x w2 => simp [Result.andThen]
      | halt x w1 => simp [Result.andThen]
    · simp only [Sem.run_pure, Result.andThen_ok]
      exact ih

theorem ckFields_run {k : TypeId → Option (List CK)} {e : Bool} {d : Nat}
    (hk : ∀ t ks, k t = some ks → (∃ a, qagg P t = some a ∧ (a = false → ks.length = 1)) ∧ ∀ a, qagg P t = some a → ∀ xs : List Value, cfitsAll ks xs = true → (Instr.checkKey e d t (Vof a xs)).run P w = .ok () w) :
    ∀ (fs : List Field) (off : Nat) (ks : List CK) (xs : Array Value), kindsFs P k off fs = some ks → cfitsAll ks (xs.toList.drop off) = true →
      (ckFields e d xs fs).run P w = .ok () w
  | [], off, ks, xs, h, hx => by simp [ckFields]
  | f :: fs, off, ks, xs, h, hx => by
    simp only [kindsFs] at h
    split at h
    · rename_i l hl
      split at h
      · rename_i hc
        obtain ⟨hname, hoff, hsz, hpos⟩ := hc
        cases hr : kindsFs P k (off + l.length) fs with
        | none => simp [hr] at h
        | some ks' =>
          simp only [hr, Option.map_some, Option.some.injEq] at h
          subst h
          obtain ⟨⟨a, ha, h1⟩, heq⟩ := hk f.type l hl
          have hx' := cfitsAll_append hx
          have lx := cfitsAll_length hx
          simp only [List.length_drop, Array.length_toList, List.length_append] at lx
          have e := heq a ha _ hx'.1
          rw [List.drop_drop] at hx'
          have ih := ckFields_run hk fs (off + l.length) ks' xs hr hx'.2
          simp only [ckFields]
          rw [if_pos hname]
          subst hoff
          simp only [Sem.run_bind, run_part w xs f.offset ha hsz h1 (by omega), Result.andThen_ok, e]
          exact ih
      · cases h
    · cases h

theorem checkKey_run (e : Bool) : ∀ (d : Nat) (t : TypeId) (ks : List CK), kindsOf P d t = some ks → ∀ D, d ≤ D →
    (∃ a, qagg P t = some a ∧ (a = false → ks.length = 1)) ∧ ∀ a, qagg P t = some a → ∀ xs : List Value, cfitsAll ks xs = true → (Instr.checkKey e D t (Vof a xs)).run P w = .ok () w
  | 0, t, ks, h, D, hD => by simp [kindsOf] at h
  | d + 1, t, ks, h, D, hD => by
    obtain ⟨D, rfl⟩ : ∃ m, D = m + 1 := ⟨D - 1, by omega⟩
    have h0 := kindsOf_run (P := P) w (d + 1) t ks h (D + 1) hD
    refine ⟨h0.1, fun a ha xs hx => ?_⟩
    simp only [kindsOf] at h
    split at h
    · rename_i hu
      simp only [Instr.checkKey, Sem.run_bind, run_underlying hu, Result.andThen_ok]
      rfl
    · rename_i k hu
      simp only [Instr.checkKey, Sem.run_bind, run_underlying hu, Result.andThen_ok]
      rfl
    · rename_i hu
      simp only [Instr.checkKey, Sem.run_bind, run_underlying hu, Result.andThen_ok]
      rfl
    · rename_i fs hu
      split at h
      · cases h
      · have hat : qagg P t = some true := by simp [qagg, hu, descAgg]
        rw [hat] at ha; cases ha
        simp only [Vof, if_true]
        rw [run_checkKey_struct e D t _ fs hu]
        exact ckFields_run (k := kindsOf P d) (fun t' ks' h' => checkKey_run e d t' ks' h' D (by omega)) fs.toList 0 ks xs.toArray h (by simpa using hx)
    · cases h
end

section
variable {C : Ctx} {P : Program} {S : Loc} {H : AH} {w : World}

/-- What was found. -/
def FR (S : Loc) : Option (Nat × V) → Option (Nat × Value) → Prop
  | none, none => True
  | some (i, v), some (j, c) => i = j ∧ VR S v c
  | _, _ => False

theorem keq_int {t : TypeId} {k : V} {ck : Value} {q : IntKind} (hu : P.underlying t = some (.int q)) (hk : VR S k ck) : ∀ (es : List (V × V × Nat)) (ces : List MapEntry) (i : Nat) (r : Option (Nat × V)),
    VRs S (es.map (·.1)) (ces.map (·.key)) → VRs S (es.map (·.2.1)) (ces.map (·.val)) → afind P t k es i = some r → ∃ r', Instr.findNow (.int q) ck ces i = some r' ∧ FR S r r'
  | [], [], i, r, _, _, h => by simp [afind] at h; subst h; exact ⟨none, rfl, trivial⟩
  | (k', v, b) :: es, e :: ces, i, r, .cons _ _ _ _ h1 t1, .cons _ _ _ _ h2 t2, h => by
    simp only [afind] at h
    have key : ∀ x, keq P t k k' = some x → Instr.sameNow (.int q) ck e.key = some x := by
      intro x hx
      unfold keq at hx
      split at hx
      · cases hk
        simp only [hu] at hx
        split at hx
        · rename_i hkk
          cases hx
          have h1 : VR S (.i _ _) e.key := h1
          generalize e.key = ek at h1
          cases h1
          simp [Instr.sameNow, hkk]
        · cases hx
      · simp [hu] at hx
      · unfold aeq at hx
        split at hx
        · rename_i hk1 hk2
          have : qeq P t = none := by simp [qeq, qagg, hu, descAgg]
          simp [this] at hx
        all_goals simp_all
      · cases hx
    split at h
    · rename_i hq
      cases h
      exact ⟨some (i, e.val), by simp [Instr.findNow, key _ hq], rfl, h2⟩
    · rename_i hq
      obtain ⟨r', hr, hf⟩ := keq_int hu hk es ces (i + 1) r t1 t2 h
      exact ⟨r', by simp [Instr.findNow, key _ hq, hr], hf⟩
    · cases h
  | [], _ :: _, i, r, h, _, _ => by cases h
  | _ :: _, [], i, r, h, _, _ => by cases h

theorem keq_str {t : TypeId} {k : V} {ck : Value} (hu : P.underlying t = some .string) (hk : VR S k ck) : ∀ (es : List (V × V × Nat)) (ces : List MapEntry) (i : Nat) (r : Option (Nat × V)),
    VRs S (es.map (·.1)) (ces.map (·.key)) → VRs S (es.map (·.2.1)) (ces.map (·.val)) → afind P t k es i = some r → ∃ r', Instr.findNow .string ck ces i = some r' ∧ FR S r r'
  | [], [], i, r, _, _, h => by simp [afind] at h; subst h; exact ⟨none, rfl, trivial⟩
  | (k', v, b) :: es, e :: ces, i, r, .cons _ _ _ _ h1 t1, .cons _ _ _ _ h2 t2, h => by
    simp only [afind] at h
    have key : ∀ x, keq P t k k' = some x → Instr.sameNow .string ck e.key = some x := by
      intro x hx
      unfold keq at hx
      split at hx
      · simp [hu] at hx
      · rename_i a c
        cases hk with
        | s _ ca hca =>
          simp only [hu, Option.some.injEq] at hx
          have h1 : VR S (.s _) e.key := h1
          generalize e.key = ek at h1
          cases h1 with
          | s _ cb hcb =>
            subst hca hcb
            simp only [Instr.sameNow, beq_toListBytes, toList_data, hx]
      · unfold aeq at hx
        split at hx
        · rename_i hk1 hk2
          have : qeq P t = none := by simp [qeq, qagg, hu, descAgg]
          simp [this] at hx
        all_goals simp_all
      · cases hx
    split at h
    · rename_i hq
      cases h
      exact ⟨some (i, e.val), by simp [Instr.findNow, key _ hq], rfl, h2⟩
    · rename_i hq
      obtain ⟨r', hr, hf⟩ := keq_str hu hk es ces (i + 1) r t1 t2 h
      exact ⟨r', by simp [Instr.findNow, key _ hq, hr], hf⟩
    · cases h
  | [], _ :: _, i, r, h, _, _ => by cases h
  | _ :: _, [], i, r, h, _, _ => by cases h

theorem keq_struct {t : TypeId} {k : V} {ck : Value} {fs : Array Field} (hu : P.underlying t = some (.struct fs)) (hk : VR S k ck) : ∀ (es : List (V × V × Nat)) (ces : List MapEntry) (i : Nat) (r : Option (Nat × V)),
    VRs S (es.map (·.1)) (ces.map (·.key)) → VRs S (es.map (·.2.1)) (ces.map (·.val)) → afind P t k es i = some r → ∃ r', (Instr.findAsking t ck ces i).run P w = .ok r' w ∧ FR S r r'
  | [], [], i, r, _, _, h => by simp [afind] at h; subst h; exact ⟨none, rfl, trivial⟩
  | (k', v, b) :: es, e :: ces, i, r, .cons _ _ _ _ h1 t1, .cons _ _ _ _ h2 t2, h => by
    simp only [afind] at h
    have key : ∀ x, keq P t k k' = some x → (Op.equal t ck e.key).run P w = .ok x w := by
      intro x hx
      unfold keq at hx
      split at hx
      · simp [hu] at hx
      · simp [hu] at hx
      · exact (sim_aeq hk h1 hx).1
      · cases hx
    split at h
    · rename_i hq
      cases h
      exact ⟨some (i, e.val), by simp [Instr.findAsking, key _ hq], rfl, h2⟩
    · rename_i hq
      obtain ⟨r', hr, hf⟩ := keq_struct hu hk es ces (i + 1) r t1 t2 h
      exact ⟨r', by simp [Instr.findAsking, key _ hq, hr], hf⟩
    · cases h
  | [], _ :: _, i, r, h, _, _ => by cases h
  | _ :: _, [], i, r, h, _, _ => by cases h

theorem findNow_struct {fs : Array Field} {ck : Value} (e : MapEntry) (ces : List MapEntry) (i : Nat) : Instr.findNow (.struct fs) ck (e :: ces) i = none := by
  simp [Instr.findNow, Instr.sameNow]

theorem sim_find {t : TypeId} {k : V} {ck : Value} (hq : qkey P t = true) (hk : VR S k ck) {es : List (V × V × Nat)} {ces : List MapEntry} {r : Option (Nat × V)}
    (h1 : VRs S (es.map (·.1)) (ces.map (·.key))) (h2 : VRs S (es.map (·.2.1)) (ces.map (·.val))) (h : afind P t k es 0 = some r) :
    ∃ r', (Instr.findKey t ck ces).run P w = .ok r' w ∧ FR S r r' := by
  unfold qkey at hq
  unfold Instr.findKey
  split at hq
  · rename_i q hu
    obtain ⟨r', hr, hf⟩ := keq_int hu hk es ces 0 r h1 h2 h
    exact ⟨r', by simp [run_underlying hu, hr], hf⟩
  · rename_i hu
    obtain ⟨r', hr, hf⟩ := keq_str hu hk es ces 0 r h1 h2 h
    exact ⟨r', by simp [run_underlying hu, hr], hf⟩
  · rename_i fs hu
    cases ces with
    | nil =>
      cases es with
      | nil =>
        simp [afind] at h
        subst h
        exact ⟨none, by simp [run_underlying hu, Instr.findNow], trivial⟩
      | cons => cases h1
    | cons e ces =>
      obtain ⟨r', hr, hf⟩ := keq_struct (w := w) hu hk es (e :: ces) 0 r h1 h2 h
      exact ⟨r', by simp only [Sem.run_bind, run_underlying hu, Result.andThen_ok, findNow_struct]; exact hr, hf⟩
  · cases hq

theorem checkKey_leaf {t : TypeId} {ck : Value} (e : Bool) (d : Nat) {td : TypeDesc} (hu : P.underlying t = some td) (h : (∃ k, td = .int k) ∨ td = .string) : (Instr.checkKey e (d + 1) t ck).run P w = .ok () w := by
  simp only [Instr.checkKey, Sem.run_bind, run_underlying hu, Result.andThen_ok]
  rcases h with ⟨k, rfl⟩ | rfl <;> rfl
theorem sim_checkKey {t : TypeId} {k : V} {ck : Value} (e : Bool) (hq : qkey P t = true) (hf : keyFits P t k = true) (hk : VR S k ck) : (Instr.checkKey e 10000 t ck).run P w = .ok () w := by
  unfold qkey at hq
  split at hq
  · rename_i q hu
    exact checkKey_leaf e 9999 hu (.inl ⟨q, rfl⟩)
  · rename_i hu
    exact checkKey_leaf e 9999 hu (.inr rfl)
  · rename_i fs hu
    unfold keyFits at hf
    simp only [hu] at hf
    split at hf
    · rename_i ks l hqe
      unfold qeq at hqe
      split at hqe
      · rename_i hg
        cases hk with
        | agg _ l' hv h2 =>
          have := (checkKey_run (P := P) (w := w) e 12 t ks hqe 10000 (by decide)).2 true hg.2 l' (fits_VRs hf hv)
          simpa [Vof] using this
      · cases hqe
    · cases hf
  · cases hq

theorem setKV_VRs {es : List (V × V × Nat)} {ces : List MapEntry} {i : Nat} {k v : V} {ck cv : Value} (h1 : VRs S (es.map (·.1)) (ces.map (·.key))) (h2 : VRs S (es.map (·.2.1)) (ces.map (·.val))) (h3 : es.map (·.2.2) = ces.map (·.born))
    (hk : VR S k ck) (hv : VR S v cv) : VRs S ((setKV es i k v).map (·.1)) ((ces.modify i fun e => { e with key := ck, val := cv }).map (·.key)) ∧ VRs S ((setKV es i k v).map (·.2.1)) ((ces.modify i fun e => { e with key := ck, val := cv }).map (·.val)) ∧
      (setKV es i k v).map (·.2.2) = (ces.modify i fun e => { e with key := ck, val := cv }).map (·.born) := by
  have hl : es.length = ces.length := by simpa using h1.length
  refine ⟨VRs.of (by simp [setKV, hl]) fun j a c ha hc => ?_, VRs.of (by simp [setKV, hl]) fun j a c ha hc => ?_, ?_⟩
  · simp only [setKV, List.getElem?_map, List.getElem?_modify] at ha hc
    by_cases hij : i = j
    · subst hij
      cases he : es[i]? <;> simp [he] at ha
      cases hce : ces[i]? <;> simp [hce] at hc
      subst ha hc; exact hk
    · simp only [hij, if_false] at ha hc
      obtain ⟨c', hc', hr⟩ := h1.get j a (by simpa using ha)
      have : c = c' := by simp at hc hc'; obtain ⟨x, hx, rfl⟩ := hc; obtain ⟨y, hy, rfl⟩ := hc'; rw [hx] at hy; cases hy; rfl
      rw [this]; exact hr
  · simp only [setKV, List.getElem?_map, List.getElem?_modify] at ha hc
    by_cases hij : i = j
    · subst hij
      cases he : es[i]? <;> simp [he] at ha
      cases hce : ces[i]? <;> simp [hce] at hc
      subst ha hc; exact hv
    · simp only [hij, if_false] at ha hc
      obtain ⟨c', hc', hr⟩ := h2.get j a (by simpa using ha)
      have : c = c' := by simp at hc hc'; obtain ⟨x, hx, rfl⟩ := hc; obtain ⟨y, hy, rfl⟩ := hc'; rw [hx] at hy; cases hy; rfl
      rw [this]; exact hr
  · apply List.ext_getElem?
    intro j
    have := congrArg (fun l => l[j]?) h3
    simp only [List.getElem?_map] at this
    simp only [setKV, List.getElem?_map, List.getElem?_modify, Option.map_map]
    cases he : es[j]? <;> cases hce : ces[j]? <;> simp [he, hce] at this ⊢
    by_cases hij : i = j <;> simp [hij, this]

theorem sim_lookup (hH : HR C S H w) {t : TypeId} {x k v : V} {cx ck : Value} {ok : Bool} (hx : VR S x cx) (hk : VR S k ck) (h : alookup P H t x k ok = some v) :
    ∃ cv, (Instr.lookup t cx ck ok).run P w = .ok cv w ∧ VR S v cv := by
  unfold alookup at h
  split at h
  · rename_i kt et hq
    have hu := qmap_spec hq
    split at h
    · rename_i hkq
      obtain ⟨hkq, hkf⟩ := hkq
      split at h
      · rename_i es hes
        have hent : ∃ ces : Array MapEntry, VRs S (es.map (·.1)) (ces.toList.map (·.key)) ∧ VRs S (es.map (·.2.1)) (ces.toList.map (·.val)) ∧
            ((cx = .map none ∧ ces = #[]) ∨ ∃ r, cx = .map (some r) ∧ ∃ clk, (getObj r).run P w = .ok (.map ces clk) w) := by
          split at hes
          · cases hes; cases hx
            exact ⟨#[], by simpa using VRs.nil, by simpa using VRs.nil, .inl ⟨rfl, rfl⟩⟩
          · split at hes <;> cases hes
            rename_i id es' clock hg
            cases hx with
            | m _ r h1 h2 =>
              have ho := hH.obj id _ hg
              obtain ⟨g0, _, ces, hh, e1, e2, _⟩ := ho
              have := h2 g0
              subst this
              exact ⟨ces, e1, e2, .inr ⟨_, rfl, clock, by simp [getObj, Sem.run, hh]⟩⟩
          · cases hes
        obtain ⟨ces, e1, e2, hcx⟩ := hent
        have hck : ∀ e, (Instr.checkKey e 10000 kt ck).run P w = .ok () w := fun e => sim_checkKey e hkq hkf hk
        have tail : ∀ r', (Instr.findKey kt ck ces.toList).run P w = .ok r' w → ∀ cv ok', (match r' with | some (_, v) => (pure (v, true) : Sem (Value × Bool)) | none => do pure (← zeroValue et, false)).run P w = .ok (cv, ok') w →
            (Instr.lookup t cx ck ok).run P w = .ok (if ok then .tuple #[cv, .bool ok'] else cv) w := by
          intro r' hr cv ok' hz
          unfold Instr.lookup
          rcases hcx with ⟨rfl, rfl⟩ | ⟨r, rfl, clk, hget⟩
          · simp only [Sem.run_bind, run_underlying hu, Result.andThen_ok, Sem.run_pure, hck]
            rw [hr]
            simp only [Result.andThen_ok]
            cases r' with
            | none =>
              simp only [Sem.run_bind] at hz ⊢
              cases hzr : (zeroValue et).run P w with
              | ok z w' => simp [hzr] at hz ⊢; obtain ⟨⟨rfl, rfl⟩, rfl⟩ := hz; cases ok <;> simp
              | halt x w' => simp [hzr, Result.andThen] at hz
            | some x =>
              simp at hz ⊢; obtain ⟨rfl, rfl⟩ := hz; cases ok <;> simp
          · simp only [Sem.run_bind, run_underlying hu, Result.andThen_ok, hget, Sem.run_pure, hck]
            rw [hr]
            simp only [Result.andThen_ok]
            cases r' with
            | none =>
              simp only [Sem.run_bind] at hz ⊢
              cases hzr : (zeroValue et).run P w with
              | ok z w' => simp [hzr] at hz ⊢; obtain ⟨⟨rfl, rfl⟩, rfl⟩ := hz; cases ok <;> simp
              | halt x w' => simp [hzr, Result.andThen] at hz
            | some x =>
              simp at hz ⊢; obtain ⟨rfl, rfl⟩ := hz; cases ok <;> simp
        split at h
        · rename_i i v' hf
          cases h
          obtain ⟨r', hr, hfr⟩ := sim_find (w := w) hkq hk e1 e2 hf
          rcases r' with _ | ⟨j, c⟩
          · exact hfr.elim
          · obtain ⟨_, hv⟩ := hfr
            refine ⟨_, tail _ hr c true rfl, ?_⟩
            cases ok
            · exact hv
            · exact .tup _ [c, .bool true] (.cons _ _ _ _ hv (.cons _ _ _ _ (.b true) .nil))
        · rename_i hf
          split at h
          · rename_i z hz
            cases h
            obtain ⟨r', hr, hfr⟩ := sim_find (w := w) hkq hk e1 e2 hf
            rcases r' with _ | ⟨j, c⟩
            · obtain ⟨cz, hcz, rfl⟩ := run_zeroValue w hz
              refine ⟨_, tail _ hr cz false (by simp [hcz]), ?_⟩
              cases ok
              · exact absV_VR S cz
              · exact .tup _ [cz, .bool false] (.cons _ _ _ _ (absV_VR S cz) (.cons _ _ _ _ (.b false) .nil))
            · exact hfr.elim
          · cases h
        · cases h
      · cases h
    · cases h
  · cases h

/-- Keys that are found are the same to the bit. -/
theorem sameBits_leaf (n : Nat) {c d : Value} (h : cceq c d = true) (hk : ∃ q : CK, q.cfits c = true ∧ q.cfits d = true) : Instr.sameBits n c d = true := by
  obtain ⟨q, h1, h2⟩ := hk
  cases q <;> cases c <;> simp [CK.cfits] at h1 <;> cases d <;> simp [CK.cfits] at h2 <;> cases n <;> simp_all [cceq, Instr.sameBits, beq_toListBytes]
theorem sameBits_all (n : Nat) : ∀ {ks : List CK} {xs ys : List Value}, cfitsAll ks xs = true → cfitsAll ks ys = true → cceqs xs ys = true → ((xs.zip ys).all fun (x, y) => Instr.sameBits n x y) = true
  | [], [], [], _, _, _ => rfl
  | k :: ks, x :: xs, y :: ys, h1, h2, h3 => by
    simp only [cfitsAll, cceqs, Bool.and_eq_true] at h1 h2 h3
    simp only [List.zip_cons_cons, List.all_cons, Bool.and_eq_true]
    exact ⟨sameBits_leaf n h3.1 ⟨k, h1.1, h2.1⟩, sameBits_all n h1.2 h2.2 h3.2⟩
  | [], _ :: _, _, h, _, _ => by simp [cfitsAll] at h
  | _ :: _, [], _, h, _, _ => by simp [cfitsAll] at h
  | [], [], _ :: _, _, h, _ => by simp [cfitsAll] at h
  | _ :: _, _ :: _, [], _, h, _ => by simp [cfitsAll] at h
theorem keq_bits {t : TypeId} {k k' : V} {ck ck' : Value} (h : keq P t k k' = some true) (hk : VR S k ck) (hk' : VR S k' ck') : Instr.sameBits 10000 ck' ck = true := by
  unfold keq at h
  split at h
  · cases hk; cases hk'
    split at h
    · split at h <;> simp at h
      rename_i hkk
      simp [Instr.sameBits, hkk, h]
    · cases h
  · cases hk with
    | s _ c hc =>
      cases hk' with
      | s _ d hd =>
        split at h
        · simp at h
          subst hc hd
          simp [Instr.sameBits, beq_toListBytes, toList_data, h]
        · cases h
  · unfold aeq at h
    cases hk with
    | agg _ xs hv h2 =>
      cases hk' with
      | agg _ ys hv' h2' =>
        simp only [] at h
        split at h
        · rename_i ks hq
          split at h
          · rename_i hf
            have e := ceqs_VRs h hv hv'
            have f1 := fits_VRs hf.1 hv
            have f2 := fits_VRs hf.2 hv'
            have e' : cceqs ys xs = true := by
              have : ∀ {l r : List Value} {ks : List CK}, cfitsAll ks l = true → cfitsAll ks r = true → cceqs l r = true → cceqs r l = true := by
                intro l
                induction l with
                | nil => intro r ks h1 h2 h; cases r <;> simp_all [cceqs]
                | cons x l ih =>
                  intro r ks h1 h2 h
                  cases r with
                  | nil => simp [cceqs] at h
                  | cons y r =>
                    cases ks with
                    | nil => simp [cfitsAll] at h1
                    | cons k ks =>
                      simp only [cceqs, cfitsAll, Bool.and_eq_true] at h h1 h2 ⊢
                      refine ⟨?_, ih h1.2 h2.2 h.2⟩
                      have a1 := h.1; have a2 := h1.1; have a3 := h2.1
                      cases k <;> cases x <;> simp [CK.cfits] at a2 <;> cases y <;> simp [CK.cfits] at a3 <;> simp_all [cceq]
              exact this f1 f2 e
            show Instr.sameBits (9999 + 1) _ _ = true
            rw [show Instr.sameBits (9999 + 1) (.agg ys.toArray) (.agg xs.toArray) = (ys.toArray.size == xs.toArray.size && (ys.toArray.toList.zip xs.toArray.toList).all fun (x, y) => Instr.sameBits 9999 x y) from rfl]
            have hl : ys.length = xs.length := by rw [cfitsAll_length f1, cfitsAll_length f2]
            simp only [List.size_toArray, hl, beq_self_eq_true, Bool.true_and]
            exact sameBits_all 9999 f2 f1 e'
          · cases h
        · cases h
  · cases h
theorem afind_get {t : TypeId} {k : V} : ∀ {es : List (V × V × Nat)} {i j : Nat} {v : V}, afind P t k es i = some (some (j, v)) → i ≤ j ∧ ∃ k' b, es[j - i]? = some (k', v, b) ∧ keq P t k k' = some true
  | [], i, j, v, h => by simp [afind] at h
  | (k', v', b) :: es, i, j, v, h => by
    simp only [afind] at h
    split at h
    · rename_i hq
      cases h
      exact ⟨Nat.le_refl _, k', b, by simp, hq⟩
    · obtain ⟨h1, k'', b', h2, h3⟩ := afind_get h
      refine ⟨by omega, k'', b', ?_, h3⟩
      rw [show j - i = (j - (i + 1)) + 1 by omega]
      simpa using h2
    · cases h

theorem sim_mapUpdate (hH : HR C S H w) {t : TypeId} {m k v : V} {cm ck cv : Value} {H' : AH} (hm : VR S m cm) (hk : VR S k ck) (hv : VR S v cv) (h : amapUpdate P H t m k v = some H') :
    ∃ w', (Instr.mapUpdate t cm ck cv).run P w = .ok () w' ∧ HR C S H' w' := by
  unfold amapUpdate at h
  split at h
  · rename_i kt et id hq
    have hu := qmap_spec hq
    split at h
    · rename_i hkq
      obtain ⟨hkq, hkf⟩ := hkq
      split at h
      · rename_i es clock hg
        cases hm with
        | m _ r h1 h2 =>
          have ho := hH.obj id _ hg
          obtain ⟨g0, hown, ces, hh, e1, e2, e3⟩ := ho
          have := h2 g0
          subst this
          have hlt : S.blk id < w.heap.size := (Array.getElem?_eq_some_iff.1 hh).1
          have hck : (Instr.checkKey false 10000 kt ck).run P w = .ok () w := sim_checkKey false hkq hkf hk
          have hset : ∀ o : Obj, (setObj (S.blk id) o).run P w = .ok () { w with heap := w.heap.setIfInBounds (S.blk id) o } := by
            intro o; simp [setObj, Sem.run, hh]
          unfold Instr.mapUpdate
          simp only [Sem.run_bind, run_underlying hu, Result.andThen_ok]
          have hget : (getObj (S.blk id)).run P w = .ok (.map ces clock) w := by simp [getObj, Sem.run, hh]
          simp only [hget, Result.andThen_ok, Sem.run_bind, hck]
          split at h
          · rename_i i v' hf
            cases h
            obtain ⟨r', hr, hfr⟩ := sim_find (w := w) hkq hk e1 e2 hf
            rcases r' with _ | ⟨j, c⟩
            · exact hfr.elim
            · obtain ⟨rfl, _⟩ := hfr
              obtain ⟨_, k', b, hki, hke⟩ := afind_get hf
              simp only [Nat.sub_zero] at hki
              obtain ⟨ck', hck', hkr⟩ := e1.get i k' (by simp [hki])
              have hold : ((ces[i]?).map (·.key)).getD ck = ck' := by
                simp at hck'
                obtain ⟨e, he, rfl⟩ := hck'
                simp [he]
              have hstay : (Instr.keyThatStays ck' ck).run P w = .ok ck w := by
                unfold Instr.keyThatStays
                simp [keq_bits hke hk hkr]
              simp only [hr, Result.andThen_ok, Sem.run_bind, hold, hstay, hset]
              refine ⟨_, rfl, hH.write id h1 hown _ _ ⟨g0, hown, ces.modify i fun e => { e with key := ck, val := cv }, by simp [hlt], ?_⟩⟩
              simpa using setKV_VRs (i := i) e1 e2 e3 hk hv
          · rename_i hf
            cases h
            obtain ⟨r', hr, hfr⟩ := sim_find (w := w) hkq hk e1 e2 hf
            rcases r' with _ | ⟨j, c⟩
            · simp only [hr, Result.andThen_ok, hset]
              refine ⟨_, rfl, hH.write id h1 hown _ _ ⟨g0, hown, ces.push { key := ck, val := cv, born := clock }, by simp [hlt], ?_, ?_, ?_⟩⟩
              · simpa using e1.append (.cons _ _ _ _ hk .nil)
              · simpa using e2.append (.cons _ _ _ _ hv .nil)
              · simpa using e3
            · exact hfr.elim
          · cases h
      · cases h
    · cases h
  · cases h

theorem VRs.eraseIdx {S : Loc} : ∀ {l : List V} {l' : List Value} (n : Nat), VRs S l l' → VRs S (l.eraseIdx n) (l'.eraseIdx n)
  | [], [], _, _ => by simpa using VRs.nil
  | _ :: _, _ :: _, 0, .cons v c l l' h t => by simpa using t
  | _ :: _, _ :: _, n + 1, .cons v c l l' h t => by simpa using VRs.cons v c _ _ h (t.eraseIdx n)
theorem map_eraseIdx' {α β : Type} (f : α → β) : ∀ (l : List α) (n : Nat), (l.eraseIdx n).map f = (l.map f).eraseIdx n
  | [], n => by simp
  | x :: l, 0 => by simp
  | x :: l, n + 1 => by simp [map_eraseIdx' f l n]
theorem eraseIdxIfInBounds_toList {α : Type} (a : Array α) (i : Nat) : (a.eraseIdxIfInBounds i).toList = a.toList.eraseIdx i := by
  unfold Array.eraseIdxIfInBounds
  split
  · simp
  · rename_i h
    rw [List.eraseIdx_of_length_le (by simpa using h)]

theorem sim_delete (hH : HR C S H w) {t t2 ty : TypeId} {m k : V} {cm ck : Value} {H' : AH} (hm : VR S m cm) (hk : VR S k ck) (h : adelete P H t m k = some H') :
    ∃ w', (Builtin.delete_ #[t, t2] ty #[cm, ck]).run P w = .ok (.tuple #[]) w' ∧ HR C S H' w' := by
  unfold adelete at h
  split at h
  · rename_i kt et id hq
    have hu := qmap_spec hq
    split at h
    · rename_i hkq
      obtain ⟨hkq, hkf⟩ := hkq
      split at h
      · rename_i es clock hg
        cases hm with
        | m _ r h1 h2 =>
          have ho := hH.obj id _ hg
          obtain ⟨g0, hown, ces, hh, e1, e2, e3⟩ := ho
          have := h2 g0
          subst this
          have hlt : S.blk id < w.heap.size := (Array.getElem?_eq_some_iff.1 hh).1
          have hck : (Instr.checkKey ces.isEmpty 10000 kt ck).run P w = .ok () w := sim_checkKey _ hkq hkf hk
          have hset : ∀ o : Obj, (setObj (S.blk id) o).run P w = .ok () { w with heap := w.heap.setIfInBounds (S.blk id) o } := by
            intro o; simp [setObj, Sem.run, hh]
          have hget : (getObj (S.blk id)).run P w = .ok (.map ces clock) w := by simp [getObj, Sem.run, hh]
          split at h
          · rename_i i v' hf
            cases h
            obtain ⟨r', hr, hfr⟩ := sim_find (w := w) hkq hk e1 e2 hf
            rcases r' with _ | ⟨j, c⟩
            · exact hfr.elim
            · obtain ⟨rfl, _⟩ := hfr
              refine ⟨{ w with heap := w.heap.setIfInBounds (S.blk id) (.map (ces.eraseIdxIfInBounds i) clock) }, ?_, hH.write id h1 hown _ _ ⟨g0, hown, ces.eraseIdxIfInBounds i, by simp [hlt], ?_, ?_, ?_⟩⟩
              · simp [Builtin.delete_, run_underlying hu, hget, hck, hr, hset]
              · rw [eraseIdxIfInBounds_toList, map_eraseIdx', map_eraseIdx']; exact e1.eraseIdx i
              · rw [eraseIdxIfInBounds_toList, map_eraseIdx', map_eraseIdx']; exact e2.eraseIdx i
              · rw [eraseIdxIfInBounds_toList, map_eraseIdx', map_eraseIdx', e3]
          · rename_i hf
            cases h
            obtain ⟨r', hr, hfr⟩ := sim_find (w := w) hkq hk e1 e2 hf
            rcases r' with _ | ⟨j, c⟩
            · refine ⟨{ w with heap := w.heap.setIfInBounds (S.blk id) (.map ces clock) }, ?_, hH.write id h1 hown _ _ ⟨g0, hown, ces, by simp [hlt], e1, e2, e3⟩⟩
              simp [Builtin.delete_, run_underlying hu, hget, hck, hr, hset]
            · exact hfr.elim
          · cases h
      · cases h
    · cases h
  · cases h
theorem modify_keep {ces : Array MapEntry} {i : Nat} {e : MapEntry} (h : ces[i]? = some e) (ck : Value) : (ces.modify i fun e => { e with key := ck }) = ces.modify i fun e' => { e' with key := ck, val := e.val } := by
  apply Array.ext'
  simp only [Array.toList_modify]
  apply List.ext_getElem?
  intro j
  simp only [List.getElem?_modify]
  by_cases hij : i = j
  · subst hij
    have : ces.toList[i]? = some e := by simpa using h
    simp [this]
  · simp [hij]
theorem modify_keepV {es : List (V × V × Nat)} {ces : List MapEntry} {i : Nat} {v : V} {cv : Value} (h1 : VRs S (es.map (·.1)) (ces.map (·.key))) (h2 : VRs S (es.map (·.2.1)) (ces.map (·.val))) (h3 : es.map (·.2.2) = ces.map (·.born))
    (hv : VR S v cv) : VRs S ((setV es i v).map (·.1)) ((ces.modify i fun e => { e with val := cv }).map (·.key)) ∧ VRs S ((setV es i v).map (·.2.1)) ((ces.modify i fun e => { e with val := cv }).map (·.val)) ∧
      (setV es i v).map (·.2.2) = (ces.modify i fun e => { e with val := cv }).map (·.born) := by
  have hl : es.length = ces.length := by simpa using h1.length
  rcases Nat.lt_or_ge i es.length with hi | hi
  · have hc : ces[i]? = some ces[i] := by simp
    have he : es[i]? = some es[i] := by simp
    have hk : VR S es[i].1 ces[i].key := by
      obtain ⟨c, hc1, hc2⟩ := h1.get i es[i].1 (by simp [hi])
      simp at hc1
      obtain ⟨x, hx, rfl⟩ := hc1
      rw [hc] at hx; cases hx; exact hc2
    have := setKV_VRs (i := i) h1 h2 h3 hk hv
    have e1 : setKV es i es[i].1 v = setV es i v := by
      apply List.ext_getElem?
      intro j
      simp only [setKV, setV, List.getElem?_modify]
      by_cases hij : i = j
      · subst hij; simp [he]
      · simp [hij]
    have e2 : (ces.modify i fun e => { e with key := ces[i].key, val := cv }) = ces.modify i fun e => { e with val := cv } := by
      apply List.ext_getElem?
      intro j
      simp only [List.getElem?_modify]
      by_cases hij : i = j
      · subst hij; simp [hc]
      · simp [hij]
    rw [e1, e2] at this
    exact this
  · have e1 : setV es i v = es := by simp [setV, List.modify_eq_self hi]
    have e2 : (ces.modify i fun e => { e with val := cv }) = ces := List.modify_eq_self (by omega)
    rw [e1, e2]
    exact ⟨h1, h2, h3⟩
theorem sim_mapEntry (hH : HR C S H w) {t : TypeId} {m k v : V} {cm ck : Value} {H' : AH} (hm : VR S m cm) (hk : VR S k ck) (h : amapEntry P H t m k = some (v, H')) :
    ∃ w' cv, (Instr.mapEntry t cm ck).run P w = .ok cv w' ∧ VR S v cv ∧ HR C S H' w' := by
  unfold amapEntry at h
  split at h
  · rename_i kt et id hq
    have hu := qmap_spec hq
    split at h
    · rename_i hkq
      obtain ⟨hkq, hkf⟩ := hkq
      split at h
      · rename_i es clock hg
        cases hm with
        | m _ r h1 h2 =>
          have ho := hH.obj id _ hg
          obtain ⟨g0, hown, ces, hh, e1, e2, e3⟩ := ho
          have := h2 g0
          subst this
          have hlt : S.blk id < w.heap.size := (Array.getElem?_eq_some_iff.1 hh).1
          have hck : (Instr.checkKey false 10000 kt ck).run P w = .ok () w := sim_checkKey false hkq hkf hk
          have hset : ∀ o : Obj, (setObj (S.blk id) o).run P w = .ok () { w with heap := w.heap.setIfInBounds (S.blk id) o } := by
            intro o; simp [setObj, Sem.run, hh]
          unfold Instr.mapEntry
          simp only [Sem.run_bind, run_underlying hu, Result.andThen_ok]
          have hget : (getObj (S.blk id)).run P w = .ok (.map ces clock) w := by simp [getObj, Sem.run, hh]
          simp only [hget, Result.andThen_ok, Sem.run_bind, hck]
          split at h
          · rename_i i v' hf
            split at h
            · rename_i e he
              cases h
              obtain ⟨r', hr, hfr⟩ := sim_find (w := w) hkq hk e1 e2 hf
              rcases r' with _ | ⟨j, c⟩
              · exact hfr.elim
              · obtain ⟨rfl, hvc⟩ := hfr
                obtain ⟨_, k', b, hki, hke⟩ := afind_get hf
                simp only [Nat.sub_zero] at hki
                rw [he] at hki
                cases hki
                obtain ⟨ck', hck', hkr⟩ := e1.get i k' (by simp [he])
                obtain ⟨cc, hcc, hvr⟩ := e2.get i v' (by simp [he])
                have hcb : (es.map (·.2.2))[i]? = some b := by simp [he]
                rw [e3] at hcb
                simp at hck' hcc hcb
                obtain ⟨e, he', rfl⟩ := hck'
                obtain ⟨e', he'', rfl⟩ := hcc
                rw [he'] at he''; cases he''
                obtain ⟨e', he'', hbb⟩ := hcb
                rw [he'] at he''; cases he''
                have hold : ((ces[i]?).map (·.key)).getD ck = e.key := by simp [he']
                have hborn : ((ces[i]?).map fun x => (x.born : Int)).getD 0 = e.born := by simp [he']
                have hstay : (Instr.keyThatStays e.key ck).run P w = .ok ck w := by
                  unfold Instr.keyThatStays
                  simp [keq_bits hke hk hkr]
                simp only [hr, Result.andThen_ok, Sem.run_bind, hold, hstay, hset, Sem.run_pure]
                refine ⟨_, _, rfl, .tup _ [c, goInt _] (.cons _ _ _ _ hvc (.cons _ _ _ _ (by rw [hborn, hbb]; exact .i _ _) .nil)), hH.write id h1 hown _ _ ⟨g0, hown, ces.modify i fun e => { e with key := ck }, by simp [hlt], ?_⟩⟩
                rw [modify_keep he']
                simpa using setKV_VRs (i := i) e1 e2 e3 hk hvr
            · cases h
          · rename_i hf
            split at h
            · rename_i z hz
              cases h
              obtain ⟨cz, hcz, rfl⟩ := run_zeroValue w hz
              obtain ⟨r', hr, hfr⟩ := sim_find (w := w) hkq hk e1 e2 hf
              rcases r' with _ | ⟨j, c⟩
              · simp only [hr, Result.andThen_ok, hset, hcz, Sem.run_bind, Sem.run_pure]
                have hzv := absV_VR S cz
                refine ⟨_, _, rfl, .tup _ [cz, goInt _] (.cons _ _ _ _ hzv (.cons _ _ _ _ (.i _ _) .nil)), hH.write id h1 hown _ _ ⟨g0, hown, ces.push { key := ck, val := cz, born := clock }, by simp [hlt], ?_, ?_, ?_⟩⟩
                · simpa using e1.append (.cons _ _ _ _ hk .nil)
                · simpa using e2.append (.cons _ _ _ _ hzv .nil)
                · simpa using e3
              · exact hfr.elim
            · cases h
          · cases h
      · cases h
    · cases h
  · cases h
theorem findIdx_map {α β : Type} (f : α → Nat) (g : β → Nat) (b : Int) : ∀ (l : List α) (r : List β), l.map f = r.map g → l.findIdx? (fun e => (f e : Int) == b) = r.findIdx? (fun e => (g e : Int) == b)
  | [], [], _ => rfl
  | x :: l, [], h => by simp at h
  | [], y :: r, h => by simp at h
  | x :: l, y :: r, h => by
    simp only [List.map_cons, List.cons.injEq] at h
    simp only [List.findIdx?_cons, h.1, findIdx_map f g b l r h.2]
theorem sim_entryStore (hH : HR C S H w) {t : TypeId} {m b v : V} {cm cb cv : Value} {H' : AH} (hm : VR S m cm) (hb : VR S b cb) (hv : VR S v cv) (h : aentryStore H m b v = some H') :
    ∃ w', (Instr.entryStore t cm cb cv).run P w = .ok () w' ∧ HR C S H' w' := by
  unfold aentryStore at h
  split at h
  · rename_i id k b
    split at h
    · rename_i es clock hg
      split at h
      · rename_i i hi
        cases h
        cases hm with
        | m _ r h1 h2 =>
          cases hb
          have ho := hH.obj id _ hg
          obtain ⟨g0, hown, ces, hh, e1, e2, e3⟩ := ho
          have := h2 g0
          subst this
          have hlt : S.blk id < w.heap.size := (Array.getElem?_eq_some_iff.1 hh).1
          have hset : ∀ o : Obj, (setObj (S.blk id) o).run P w = .ok () { w with heap := w.heap.setIfInBounds (S.blk id) o } := by
            intro o; simp [setObj, Sem.run, hh]
          have hget : (getObj (S.blk id)).run P w = .ok (.map ces clock) w := by simp [getObj, Sem.run, hh]
          have hfi : ces.findIdx? (fun e => (e.born : Int) == b) = some i := by
            obtain ⟨cl⟩ := ces; rw [List.findIdx?_toArray, ← findIdx_map (fun e : V × V × Nat => e.2.2) (fun e : MapEntry => e.born) b es cl e3]; exact hi
          refine ⟨{ w with heap := w.heap.setIfInBounds (S.blk id) (.map (ces.modify i fun e => { e with val := cv }) clock) }, ?_, hH.write id h1 hown _ _ ⟨g0, hown, ces.modify i fun e => { e with val := cv }, by simp [hlt], ?_⟩⟩
          · simp [Instr.entryStore, hget, asInt, asIntOf, hfi, hset]
          · simpa using modify_keepV (i := i) e1 e2 e3 hv
      · cases h
    · cases h
  · cases h
theorem sim_typeAssert {t0 t : TypeId} {ok : Bool} {x v : V} {cx : Value} (hx : VR S x cx) (h : atypeAssert P t ok x = some v) : ∃ cv, (Instr.typeAssert cx t0 t ok).run P w = .ok cv w ∧ VR S v cv := by
  unfold atypeAssert at h
  split at h
  · cases h
  · cases h
  · rename_i d hn hu
    split at h
    · rename_i u y
      cases hx with
      | ifc _ _ c hc =>
        split at h
        · rename_i e
          subst e
          cases h
          refine ⟨if ok then .tuple #[c, .bool true] else c, ?_, ?_⟩
          · unfold Instr.typeAssert
            simp only [Sem.run_bind, run_underlying hu, Result.andThen_ok]
            cases d <;> first | exact (hn _ rfl).elim | simp
          · cases ok
            · exact hc
            · exact .tup _ [c, _] (.cons _ _ _ _ hc (.cons _ _ _ _ (.b _) .nil))
        · rename_i e
          split at h
          · rename_i hok
            subst hok
            simp only [Option.map_eq_some_iff] at h
            obtain ⟨z, hz, rfl⟩ := h
            obtain ⟨cz, hcz, rfl⟩ := run_zeroValue w hz
            refine ⟨.tuple #[cz, .bool false], ?_, .tup _ [cz, _] (.cons _ _ _ _ (absV_VR S cz) (.cons _ _ _ _ (.b _) .nil))⟩
            unfold Instr.typeAssert
            simp only [Sem.run_bind, run_underlying hu, Result.andThen_ok]
            cases d <;> first | exact (hn _ rfl).elim | simp [e, hcz]
          · cases h
    · cases hx
      split at h
      · rename_i hok
        subst hok
        simp only [Option.map_eq_some_iff] at h
        obtain ⟨z, hz, rfl⟩ := h
        obtain ⟨cz, hcz, rfl⟩ := run_zeroValue w hz
        refine ⟨.tuple #[cz, .bool false], ?_, .tup _ [cz, _] (.cons _ _ _ _ (absV_VR S cz) (.cons _ _ _ _ (.b _) .nil))⟩
        unfold Instr.typeAssert
        simp only [Sem.run_bind, run_underlying hu, Result.andThen_ok]
        cases d <;> first | exact (hn _ rfl).elim | simp [hcz]
      · cases h
    · cases h
end
end Go.Abs

set_option linter.unusedVariables false
set_option linter.unusedSimpArgs false
namespace Go.Abs
open Go Go.RowKit

section
variable {C : Ctx} {P : Program} {S : Loc} {H : AH} {w : World}

theorem sim_len (hH : HR C S H w) {t ty : TypeId} {x v : V} {cx : Value} (hx : VR S x cx) (h : alen P H t x = some v) :
    ∃ cv, (Builtin.len_ #[t] ty #[cx]).run P w = .ok cv w ∧ VR S v cv := by
  unfold alen at h
  split at h
  · split at h <;> cases h
    rename_i l hq
    cases hx with
    | s _ c hc =>
      subst hc
      refine ⟨.int .i64 c.size, ?_, ?_⟩
      · simp [Builtin.len_, run_underlying (qstr_spec hq), goInt]
      · simpa using VR.i (S := S) .i64 (c.size : Int)
  · split at h <;> cases h
    rename_i e he
    cases hx
    · exact ⟨.int .i64 (0 : Nat), by simp [Builtin.len_, run_underlying (qelem_spec he), goInt], .i _ _⟩
    · exact ⟨.int .i64 _, by simp [Builtin.len_, run_underlying (qelem_spec he), goInt], .i _ _⟩
  · split at h <;> cases h
    rename_i k he
    cases hx
    exact ⟨.int .i64 0, by simp [Builtin.len_, run_underlying (qmap_spec (k := k.1) (e := k.2) he), goInt], .i _ _⟩
  · split at h <;> cases h
    rename_i id _ _ k es clock he hg
    cases hx with
    | m _ r h1 h2 =>
      obtain ⟨g0, _, ces, hh, e1, e2, e3⟩ := hH.obj id _ hg
      have := h2 g0
      subst this
      have hl : es.length = ces.size := by simpa using e1.length
      refine ⟨.int .i64 ces.size, ?_, ?_⟩
      · simp [Builtin.len_, run_underlying (qmap_spec (k := k.1) (e := k.2) he), goInt, getObj, Sem.run, hh]
      · rw [hl]; exact .i _ _
  · cases h

theorem sim_fold {f : V → V → Option V} {g : Value → Value → Sem Value} (hfg : ∀ x y z cx cy, f x y = some z → VR S x cx → VR S y cy → ∃ cz, (g cx cy).run P w = .ok cz w ∧ VR S z cz) :
    ∀ (l : List V) (l' : List Value) (x : V) (cx : Value) (v : V), VRs S l l' → VR S x cx → afold f x l = some v → ∃ cv, (l'.foldlM g cx).run P w = .ok cv w ∧ VR S v cv
  | [], [], x, cx, v, _, hx, h => by simp [afold] at h; subst h; exact ⟨cx, by simp, hx⟩
  | y :: l, cy :: l', x, cx, v, .cons _ _ _ _ hy ht, hx, h => by
    simp only [afold] at h
    split at h
    · rename_i z hz
      obtain ⟨cz, hr, hcz⟩ := hfg _ _ _ _ _ hz hx hy
      obtain ⟨cv, hr2, hv⟩ := sim_fold hfg l l' z cz v ht hcz h
      exact ⟨cv, by simp [hr, hr2], hv⟩
    · cases h
  | [], _ :: _, _, _, _, h, _, _ => by cases h
  | _ :: _, [], _, _, _, h, _, _ => by cases h
theorem sim_min2 (x y z : V) (cx cy : Value) (h : amin2 x y = some z) (hx : VR S x cx) (hy : VR S y cy) : ∃ cz, (Builtin.min2 cx cy).run P w = .ok cz w ∧ VR S z cz := by
  unfold amin2 at h
  split at h <;> cases h
  cases hx; cases hy
  exact ⟨_, rfl, .i _ _⟩
theorem sim_max2 (x y z : V) (cx cy : Value) (h : amax2 x y = some z) (hx : VR S x cx) (hy : VR S y cy) : ∃ cz, (Builtin.max2 cx cy).run P w = .ok cz w ∧ VR S z cz := by
  unfold amax2 at h
  split at h <;> cases h
  cases hx; cases hy
  exact ⟨_, rfl, .i _ _⟩

theorem sim_unary {op : UnOp} {x v : V} {cx : Value} (hx : VR S x cx) (h : aunary op x = some v) : ∃ cv, (∀ w, (Op.unary op cx).run P w = .ok cv w) ∧ VR S v cv := by
  unfold aunary at h
  split at h
  · cases hx; simp only [aint, Option.some.injEq] at h; subst h
    exact ⟨_, fun _ => rfl, .i _ _⟩
  · cases hx; simp only [aint, Option.some.injEq] at h; subst h
    exact ⟨_, fun _ => rfl, .i _ _⟩
  · cases hx; cases h
    exact ⟨_, fun _ => rfl, .b _⟩
  · cases h

/-! Conversions. -/
theorem bytesV_VRs (S : Loc) (l : List UInt8) : VRs S (bytesV l) (l.map fun b => .int .u8 b.toNat) := by
  induction l with
  | nil => exact .nil
  | cons b l ih => exact .cons _ _ _ _ (.i _ _) ih
theorem unbytes_ints : ∀ {k : List V} {l : List UInt8}, unbytes k = some l → ∃ ns : List Int, k = ns.map (fun n => .i .u8 n) ∧ l = ns.map fun n => UInt8.ofNat n.toNat
  | [], l, h => by simp [unbytes] at h; exact ⟨[], by simp [h]⟩
  | v :: k, l, h => by
    unfold unbytes at h
    split at h
    · rename_i h1; cases h1
    · rename_i n k' h1
      cases h1
      simp only [Option.map_eq_some_iff] at h
      obtain ⟨l', hl, rfl⟩ := h
      obtain ⟨ns, rfl, rfl⟩ := unbytes_ints hl
      exact ⟨n :: ns, rfl, rfl⟩
    · cases h

theorem VRs_ints : ∀ {ns : List Int} {cs : List Value}, VRs S (ns.map fun n => V.i .u8 n) cs → cs = ns.map fun n => Value.int .u8 n
  | [], [], _ => rfl
  | n :: ns, c :: cs, .cons _ _ _ _ h t => by
    have h : VR S (.i .u8 n) c := h
    cases h
    simp [VRs_ints t]
  | [], _ :: _, h => by cases h
  | _ :: _, [], h => by cases h
theorem foldl_push (ns : List Int) : ∀ c : ByteArray, (ns.foldl (fun r n => r.push (UInt8.ofNat n.toNat)) c).data.toList = c.data.toList ++ ns.map fun n => UInt8.ofNat n.toNat := by
  induction ns with
  | nil => intro c; simp
  | cons n ns ih => intro c; simp [ih]

theorem liesAt_self {u : TypeId} (h0 : 0 < P.cellsOf u) {n : Nat} (hn : P.cellsOf u ≤ n) : liesAt P P.depth u (n / P.cellsOf u) 0 u 1 = true := by
  have h1 : 1 ≤ n / P.cellsOf u := (Nat.le_div_iff_mul_le h0).2 (by omega)
  have h2 : P.cellsOf u ≠ 0 := by omega
  have hd : P.depth = (2 * (P.types.size + Made.depth) + 1) + 1 := rfl
  rw [hd]
  simp only [liesAt, Bool.or_eq_true]
  left
  rw [hd]
  simp [rowAt, h2, h1, sameLayout]
theorem qsize_info {t : TypeId} {n : Nat} (h : qsize P t = some n) : ∃ j, P.info? t = some j ∧ j.size = n := by unfold qsize at h; simpa using h
theorem sim_convert (hH : HR C S H w) {src dst : TypeId} {x v : V} {cx : Value} {H' : AH} (hx : VR S x cx) (h : aconvert P H src dst x = some (v, H')) :
    ∃ S' cv w', (convert src dst cx).run P w = .ok cv w' ∧ S.le S' ∧ VR S' v cv ∧ HR C S' H' w' := by
  unfold aconvert at h
  split at h
  · rename_i t id g off hs hd
    split at h
    · rename_i c g' ro esz n hg hn
      split at h
      · rename_i hc
        obtain ⟨hgg, hoff, hn0⟩ := hc
        subst hgg
        cases h
        cases hx with
        | p _ _ _ ad h1 h2 h3 =>
          have ho := hH.obj id _ hg
          have := h3 ho.1
          subst this
          obtain ⟨cv, hcv, _, _⟩ := ho.2.2.1 off c[off] (by simp [hoff])
          obtain ⟨e, cells, hsh, hlt⟩ : ∃ e cells, w.shape? (S.blk id) = some (e, cells) ∧ S.base id + off < cells := by
            unfold World.cell? at hcv
            split at hcv
            · rename_i cs el fr hh
              simp only [Option.isSome_none, Bool.false_eq_true, if_false] at hcv
              have hh' : w.heap[S.blk id]? = some (.cells cs el fr) := hh
              exact ⟨el, cs.size, by simp [World.shape?, hh'], (Array.getElem?_eq_some_iff.1 hcv).1⟩
            · cases hcv
          obtain ⟨j, hj, hjs⟩ := qsize_info hn
          exact ⟨S, _, w, Lib.run_to_unsafe w _ hs hd hj (by omega) hsh hlt, Loc.le.refl S, .p id g off _ h1 h2 (fun _ => rfl), hH⟩
      · cases h
    · cases h
  · rename_i u id g hs hd
    split at h
    · rename_i c g' esz hg
      split at h
      · rename_i hc
        obtain ⟨hgg, ht, hc0, hcl, hq⟩ := hc
        subst hgg
        cases h
        cases hx with
        | p _ _ _ ad h1 h2 h3 =>
          have ho := hH.obj id _ hg
          have := h3 ho.1
          subst this
          obtain ⟨cs, el, fr, hh, hsz, hb, hf, hty⟩ := ho.2.2.2.1 (ho.2.2.2.2 rfl)
          obtain ⟨hel, hbase⟩ := hty u (by rw [← ho.1]; exact ht)
          subst hel
          obtain ⟨n, hn⟩ := Option.isSome_iff_exists.1 hq
          obtain ⟨j, hj, _⟩ := qsize_info hn
          have hsh : w.shape? (S.blk id) = some (el, cs.size) := by simp [World.shape?, hh]
          exact ⟨S, _, w, Lib.run_from_unsafe w ⟨S.blk id, S.base id + 0, none⟩ hs hd hj hsh (by rw [hbase]; exact liesAt_self hc0 (by omega)), Loc.le.refl S, .p id g 0 _ h1 h2 (fun _ => rfl), hH⟩
      · cases h
    · cases h
  · rename_i k k' n hs hd
    cases h
    cases hx
    exact ⟨S, .int k (k.wrap n), w, by simp [convert, run_underlying hs, run_underlying hd, Conv.intToInt], Loc.le.refl S, .i _ _, hH⟩
  · rename_i l hs hd
    cases h
    cases hx with
    | s _ c hc => exact ⟨S, .string c, w, by simp [convert, run_underlying hs, run_underlying hd], Loc.le.refl S, .s _ _ hc, hH⟩
  · rename_i e l hs hd
    split at h
    · rename_i he
      cases h
      cases hx with
      | s _ c hc =>
        subst hc
        have hd2 := hH.drew
        let cap := Question.cut (.appendCap c.size 0 e) (w.tape w.drawn (.appendCap c.size 0 e))
        have hcap : c.size ≤ cap := Nat.le_add_right _ _
        have hsz : ((c.data.toList.map fun b => Value.int .u8 b.toNat) ++ List.replicate (cap - c.size) (Value.int .u8 0)).length = cap := by simp; omega
        have hn := sim_newf (C := C) (S := S) (H := H) (w := { w with drawn := w.drawn + 1 }) hd2 (bytesV_VRs S c.data.toList) (fun v hv => by simp at hv; obtain ⟨b, _, rfl⟩ := hv; rfl) e 1 (List.replicate (cap - c.size) (.int .u8 0)) (cap, cap + 1)
          (fun o ho => by rw [hsz] at ho; have ho : o < cap := ho.elim id (fun h => absurd rfl h.1); simp; omega)
        have hrow : ((c.data.toList.map fun b => Value.int .u8 b.toNat) ++ List.replicate (cap - c.size) (Value.int .u8 0)).toArray = (c.data.map fun b => Value.int .u8 b.toNat) ++ Array.replicate (cap - c.size) (.int .u8 0) := by
          apply Array.ext'; simp
        rw [hsz, hrow] at hn
        refine ⟨_, .slice (some ⟨w.heap.size, 0, none⟩) c.size cap, _, ?_, Loc.le_add .., ?_, hn 0 (fun t h => by simp at h)⟩
        · have hsize : ((c.data.map fun b => Value.int .u8 b.toNat) ++ Array.replicate (cap - c.size) (Value.int .u8 0)).size = cap := by
            simp only [Array.size_append, Array.size_map, Array.size_replicate]
            have : c.data.size = c.size := rfl
            omega
          have hmod : ∀ (h : Array Obj) (cells : Array Value), (h.push (.cells cells e)).modify h.size (fun
              | .cells c elem (lo, hi) => .cells c elem (if lo == hi then (cells.size, cells.size + 1) else (min lo cells.size, max hi (cells.size + 1)))
              | o => o) = h.push (.cells cells e (cells.size, cells.size + 1)) := by
            intro h cells
            apply Array.ext_getElem?
            intro j
            rw [Array.getElem?_modify]
            by_cases hj : h.size = j
            · subst hj; simp
            · simp only [hj, if_false, Array.getElem?_push]
              by_cases hj2 : j = h.size
              · omega
              · simp [hj2]
          have hq : (Question.appendCap c.size 0 e).forced = false := rfl
          simp only [convert, Sem.run_bind, run_underlying hs, run_underlying hd, Result.andThen_ok, run_underlying he]
          simp only [Conv.stringToBytes, Sem.run_bind, run_choose, hq, Bool.false_eq_true, if_false, Result.andThen_ok, newRow, run_newObj, Sem.run_pure, markStringish, run_shape, World.shape?]
          simp only [Array.getElem?_push_size, run_freeze, Result.andThen_ok, World.freeze, if_neg (Nat.succ_ne_zero 0)]
          refine congrArg (fun h => Result.ok (Value.slice (some { block := w.heap.size, off := 0 }) c.size cap) ({ heap := h, tape := w.tape, drawn := w.drawn + 1, os := w.os, output := w.output } : World)) ?_
          exact (hmod _ _).trans (by rw [hsize])
        · have : c.data.toList.length = c.size := by simp
          rw [this, hH.next]
          refine .sl _ _ _ _ _ _ _ (by simp [Loc.add]) (by simp [Loc.add]) hcap (fun _ _ => by simp [Loc.add]) (fun h => by cases h) (fun _ _ _ _ => by simp [Loc.add])
    · cases h
  · rename_i e hs hd
    split at h
    · rename_i he
      cases h
      cases hx
      exact ⟨S, .string .empty, w, by simp [convert, run_underlying hs, run_underlying hd, run_underlying he, Conv.bytesToString], Loc.le.refl S, .s _ _ rfl, hH⟩
    · cases h
  · rename_i e id g off len clip hs hd
    split at h
    · rename_i c g' ro esz he hg
      cases hx with
      | sl _ _ _ _ cap _ ad h1 h2 hl h3 h4 h5 =>
        split at h
        · rename_i hz
          cases h
          subst hz
          refine ⟨S, .string .empty, w, ?_, Loc.le.refl S, .s _ _ rfl, hH⟩
          simp [convert, run_underlying hs, run_underlying hd, run_underlying he, Conv.bytesToString, loadCells, loadCellsFrom]
        · rename_i hz
          split at h
          · rename_i hgo
            obtain ⟨hge, hlen⟩ := hgo
            subst hge
            simp only [Option.map_eq_some_iff, Prod.mk.injEq] at h
            obtain ⟨l, hl2, rfl, rfl⟩ := h
            have ho := hH.obj id _ hg
            have := h3 ho.1 (by omega)
            subst this
            obtain ⟨cs, hv, hcl, hc, _⟩ := ho.part off len hlen
            obtain ⟨ns, hns, rfl⟩ := unbytes_ints hl2
            rw [hns] at hv
            have := VRs_ints hv
            subst this
            have hload := run_loadCells_list (P := P) w _ _ hc
            rw [hcl] at hload
            refine ⟨S, .string (ns.foldl (fun r n => r.push (UInt8.ofNat n.toNat)) ByteArray.empty), w, ?_, Loc.le.refl S, .s _ _ ?_, hH⟩
            · rw [run_convert_bytes_string w src dst e _ _ _ hs he hd]
              exact run_bytesToString w _ len cap ns hload
            · rw [foldl_push]; simp
          · cases h
    · cases h
  · cases h
end
end Go.Abs

set_option linter.unusedVariables false
set_option linter.unusedSimpArgs false
namespace Go.Abs
open Go Go.RowKit

theorem growBy_le (n B : Nat) (hB : n + (n + 768) / 4 ≤ B) : ∀ (r c : Nat), c ≤ B → Builtin.growBy n r c ≤ B
  | 0, c, h => h
  | r + 1, c, h => by
    simp only [Builtin.growBy]
    split
    · exact h
    · exact growBy_le n B hB r _ (by omega)
theorem nextslicecap_le (need old : Nat) (h : old < need) : Builtin.nextslicecap need old ≤ 3 * need + 1000 := by
  unfold Builtin.nextslicecap
  split
  · omega
  · split
    · omega
    · exact growBy_le need _ (by omega) 4 old (by omega)
theorem roomOk_spec {need bytes : Nat} (h : roomOk need bytes = true) (old : Nat) (ho : old < need) : Builtin.nextslicecap need old * bytes ≤ 281474976710656 ∧ 0 < bytes := by
  simp only [roomOk, Bool.and_eq_true, decide_eq_true_eq] at h
  exact ⟨Nat.le_trans (Nat.mul_le_mul_right _ (nextslicecap_le need old ho)) h.2, h.1⟩

section
variable {C : Ctx} {P : Program} {S : Loc} {H : AH} {w : World}

/-- What is appended: how many elements, and their cells. -/
theorem sim_source (hH : HR C S H w) {sz n : Nat} {x : V} {cx : Value} {new : List V} (hx : VR S x cx) (h : asource P H sz x = some (new, n)) :
    ∃ new' : List Value, VRs S new new' ∧ (∀ c ∈ new', c.oneCell' = true) ∧ new.length = n * sz ∧
      ∀ w' : World, w'.heap = w.heap → (Builtin.lenOf cx).run P w' = .ok n w' ∧ (Builtin.firstCells sz n cx).run P w' = .ok new'.toArray w' := by
  unfold asource at h
  split at h
  · split at h <;> cases h
    rename_i l hs
    cases hx with
    | s _ c hc =>
      subst hc
      refine ⟨c.data.toList.map fun b => .int .u8 b.toNat, bytesV_VRs S _, fun v hv => by simp at hv; obtain ⟨b, _, rfl⟩ := hv; rfl, by simp [bytesV, hs], fun w' _ => ⟨by simp [Builtin.lenOf], ?_⟩⟩
      simp only [Builtin.firstCells, Sem.run_pure]
      congr 1
      apply Array.ext'
      simp
  · cases h
    cases hx
    exact ⟨[], .nil, by simp, by simp, fun w' _ => ⟨by simp [Builtin.lenOf], by simp [Builtin.firstCells]⟩⟩
  · rename_i id g off len clip
    split at h
    · rename_i c g' ro esz hg
      cases hx with
      | sl _ _ _ _ cap _ ad h1 h2 hl h3 h4 h5 =>
        split at h
        · rename_i h0
          cases h
          subst h0
          exact ⟨[], .nil, by simp, by simp, fun w' _ => ⟨by simp [Builtin.lenOf], by simp [Builtin.firstCells, loadCells, loadCellsFrom]⟩⟩
        · rename_i h0
          split at h <;> cases h
          rename_i hge
          obtain ⟨hge, hlen⟩ := hge
          subst hge
          have ho := hH.obj id _ hg
          have := h3 ho.1 (by omega)
          subst this
          obtain ⟨cs, hv, hcl, hc, h1'⟩ := ho.part off (n * sz) hlen
          refine ⟨cs, hv, h1', by rw [hv.length, hcl], fun w' hw => ⟨by simp [Builtin.lenOf], ?_⟩⟩
          have hload := run_loadCells_list (P := P) w' _ cs (fun j v hj => by
            have := hc j v hj
            unfold World.cell? at this ⊢
            rw [hw]; exact this)
          rw [hcl] at hload
          simpa [Builtin.firstCells] using hload
    · cases h
  · cases h

/-- Append where there is room. -/
theorem run_append_fit {t t2 ty e : TypeId} {d2 : TypeDesc} {sz n len cap : Nat} {a : Option Addr} {cx : Value} {new : List Value} {w' : World}
    (hu : P.underlying t = some (.slice e)) (hsz : qsize P e = some sz) (h2 : P.underlying t2 = some d2) (hd : descSrc d2 = true)
    (hn : (Builtin.lenOf cx).run P w = .ok n w) (hf : (Builtin.firstCells sz n cx).run P w = .ok new.toArray w) (hfit : len + n ≤ cap)
    (hst : ∀ ad, a = some ad → (storeCells (ad.add (len * sz)) new).run P w = .ok () w') (hno : a = none → w' = w) :
    (Builtin.append_ #[t, t2] ty #[.slice a len cap, cx]).run P w = .ok (.slice a (len + n) cap) w' := by
  cases d2 <;> simp [descSrc] at hd
  all_goals
    cases a with
    | none =>
      rw [hno rfl]
      simp [Builtin.append_, run_underlying hu, run_sizeOf w hsz, run_underlying h2, hn, hf, hfit]
    | some ad =>
      have := hst ad rfl
      simp [Builtin.append_, run_underlying hu, run_sizeOf w hsz, run_underlying h2, hn, hf, hfit, this]

/-- Append where there is none. -/
theorem run_append_more {t t2 ty e : TypeId} {d2 : TypeDesc} {sz n len cap bytes : Nat} {a : Option Addr} {cx : Value} {old new : List Value} {z : V}
    (hu : P.underlying t = some (.slice e)) (hsz : qsize P e = some sz) (hb : qbytes P e = some bytes) (hz : qzero P e = some z) (h2 : P.underlying t2 = some d2) (hd : descSrc d2 = true)
    (hx : ∀ w' : World, w'.heap = w.heap → (Builtin.lenOf cx).run P w' = .ok n w' ∧ (Builtin.firstCells sz n cx).run P w' = .ok new.toArray w')
    (ho : ∀ w' : World, w'.heap = w.heap → (Builtin.firstCells sz len (.slice a len cap)).run P w' = .ok old.toArray w') (hmore : cap < len + n) (hr : roomOk (len + n) bytes = true) :
    ∃ (newCap : Nat) (rest : List Value), len + n ≤ newCap ∧ (∃ zc : Value, z = absV zc ∧ rest.length = (newCap - (len + n)) * zc.cells.size) ∧
      (Builtin.append_ #[t, t2] ty #[.slice a len cap, cx]).run P w = .ok (.slice (some ⟨w.heap.size, 0, none⟩) (len + n) newCap)
        { w with heap := w.heap.push (.cells (old ++ new ++ rest).toArray e), drawn := w.drawn + 1 } := by
  obtain ⟨zc, hzr, hza⟩ := run_zeroValue w hz
  have hzr' : ∀ w' : World, (zeroValue e).run P w' = .ok zc w' := by
    intro w'
    unfold qzero at hz
    cases hi : P.info? e with
    | none => simp [hi] at hz
    | some i =>
      unfold zeroValue at hzr ⊢
      simp only [Sem.run_bind, run_typeInfo _ hi, Result.andThen_ok] at hzr ⊢
      cases hiz : i.zero with
      | none => simp [hiz] at hzr
      | some v => simp [hiz] at hzr ⊢; exact hzr
  obtain ⟨hcap, hbpos⟩ := roomOk_spec hr cap hmore
  have hbi : ∃ i, P.info? e = some i ∧ i.bytes = bytes := by
    unfold qbytes at hb
    cases hi : P.info? e with
    | none => simp [hi] at hb
    | some i => simp [hi] at hb; exact ⟨i, rfl, hb⟩
  obtain ⟨i, hi, hib⟩ := hbi
  let q := Question.appendCap (len + n) cap e
  refine ⟨q.cut (w.tape w.drawn q), (Builtin.zeroCells zc.cells (q.cut (w.tape w.drawn q) - (len + n))).toList, Nat.le_add_right _ _, ⟨zc, hza, by simp [Builtin.zeroCells]⟩, ?_⟩
  have hq : q.forced = false := rfl
  have hnot : ¬ (len + n ≤ cap) := by omega
  have hx0 := hx w rfl
  have hx1 := hx w.drew rfl
  have ho1 := ho w.drew rfl
  have hb0 : ¬ (bytes = 0) := by omega
  have hcap' : ¬ (Builtin.nextslicecap (len + n) cap * bytes > 2 ^ 48) := by
    have : (2 : Nat) ^ 48 = 281474976710656 := by decide
    omega
  have hfin : (old ++ new ++ (Builtin.zeroCells zc.cells (q.cut (w.tape w.drawn q) - (len + n))).toList).toArray = old.toArray ++ new.toArray ++ Builtin.zeroCells zc.cells (q.cut (w.tape w.drawn q) - (len + n)) := by
    apply Array.ext'; simp
  rw [hfin]
  cases d2 <;> simp [descSrc] at hd
  all_goals
    simp [Builtin.append_, run_underlying hu, run_sizeOf _ hsz, run_underlying h2, hx0.1, hnot, run_typeInfo _ hi, hib, hb0, hcap', hq, q, ho1, hx1.2, hzr', newRow, run_askRoom]
    unfold World.alloc World.drew
    congr 3
    apply Array.ext'
    simp

theorem flat_grow {S : Loc} (S' : Loc) : True := trivial

/-- The locator where an object got new cells. -/
def Loc.grow (S : Loc) (id blk base room g : Nat) : Loc :=
  { S with gen := fun i => if i = id then g else S.gen i, blk := fun i => if i = id then blk else S.blk i, base := fun i => if i = id then base else S.base i, room := fun i => if i = id then room else S.room i }
theorem Loc.le_grow (S : Loc) (id blk base room : Nat) {g : Nat} (hg : S.gen id < g) : S.le (S.grow id blk base room g) where
  next := Nat.le_refl _
  gen i h := by
    simp only [Loc.grow]
    split
    · rename_i e; subst e; omega
    · exact Nat.le_refl _
  blk i h h2 := by
    simp only [Loc.grow] at h2 ⊢
    split
    · rename_i e; subst e; simp only [if_true] at h2; omega
    · rfl
  base i h h2 := by
    simp only [Loc.grow] at h2 ⊢
    split
    · rename_i e; subst e; simp only [if_true] at h2; omega
    · rfl
  room i h h2 := by
    simp only [Loc.grow] at h2 ⊢
    split
    · rename_i e; subst e; simp only [if_true] at h2; omega
    · rfl
  own i h := rfl
  esz i h := rfl

/-- An object of one's own gets other cells: in its block, or in a new one. -/
theorem HR.grow (hH : HR C S H w) {id : Nat} (hid : id < S.next) (hown : S.own id = true) {w' : World} {o : O} {blk base room g' : Nat} (hg' : S.gen id < g')
    (hb : (blk = S.blk id ∧ w'.heap.size = w.heap.size) ∨ (blk = w.heap.size ∧ w'.heap.size = w.heap.size + 1)) (hk : ∀ k, k < w.heap.size → k ≠ blk → w'.heap[k]? = w.heap[k]?)
    (hw : w'.os = w.os ∧ w'.tape = w.tape ∧ w'.output = w.output) (hd : w.drawn ≤ w'.drawn) (ho : OR (S.grow id blk base room g') w' id o) : HR C (S.grow id blk base room g') (H.set id o) w' where
  next := by simp [hH.next, Loc.grow]
  obj i o' ho' := by
    rw [AH.get_set] at ho'
    split at ho'
    · rename_i e
      subst e
      split at ho'
      · cases ho'; exact ho
      · cases ho'
    · rename_i e
      have hlt : i < S.next := by rw [← hH.next]; exact AH.get_lt ho'
      have hin : (S.blk i < w.heap.size ∧ S.blk i ≠ blk) ∨ (S.own i = false ∧ ∃ g esz, H.get i = Option.some (.cells [] g true esz)) := by
        cases hown' : S.own i with
        | true =>
          have hl := (hH.lt i hlt hown').1
          refine .inl ⟨hl, ?_⟩
          rcases hb with ⟨rfl, _⟩ | ⟨rfl, _⟩
          · exact fun hb => e (hH.sep i id hlt hid hown' hown hb)
          · omega
        | false =>
          refine (hH.foreign i hlt hown').imp (fun h1 => ?_) (fun he => ⟨rfl, he⟩)
          have hl := h1.1
          refine ⟨hl, ?_⟩
          rcases hb with ⟨rfl, _⟩ | ⟨rfl, _⟩
          · exact fun e => h1.2 id hid hown e.symm
          · omega
      rcases hin with ⟨hl, hne⟩ | ⟨hown', g, esz', he⟩
      · exact (hH.obj i o' ho').block (Loc.le_grow _ _ _ _ _ hg') hlt (by simp [Loc.grow, e]) (hk _ hl hne)
      · rw [he] at ho'; cases ho'
        exact (hH.obj i _ he).empty (Loc.le_grow _ _ _ _ _ hg') hlt (by simp [Loc.grow, e]) hown'
  some i hi := by
    rw [AH.get_set]
    split
    · rw [hH.next, if_pos hid]; rfl
    · exact hH.some i hi
  lt i hi hoi := by
    have := hH.lt i hi hoi
    have h2 := hH.below.size
    have h3 := hH.lt id hid hown
    simp only [Loc.grow]
    split
    · rcases hb with ⟨rfl, e⟩ | ⟨rfl, e⟩
      · exact ⟨by omega, h3.2⟩
      · exact ⟨by omega, .inl (by omega)⟩
    · exact ⟨by rcases hb with ⟨_, e⟩ | ⟨_, e⟩ <;> omega, this.2⟩
  foreign i hi hoi := by
    have hne : i ≠ id := by
      rintro rfl
      have : S.own i = false := hoi
      simp [hown] at this
    rw [AH.get_set_ne hne]
    refine (hH.foreign i hi hoi).imp (fun h1 => ⟨?_, fun i' hi' ho' => ?_⟩) fun h => h
    · simp only [Loc.grow, hne, if_false]
      rcases hb with ⟨_, e⟩ | ⟨_, e⟩ <;> omega
    · simp only [Loc.grow, hne, if_false]
      split
      · rcases hb with ⟨rfl, e⟩ | ⟨rfl, e⟩
        · exact h1.2 id hid hown
        · omega
      · exact h1.2 i' hi' ho'
  sep i i' hi hi' hoi hoi' hbb := by
    simp only [Loc.grow] at hbb
    have hl := (hH.lt i hi hoi).1
    have hl' := (hH.lt i' hi' hoi').1
    by_cases e : i = id <;> by_cases e' : i' = id
    · rw [e, e']
    · simp only [e, e', if_true, if_false] at hbb
      rcases hb with ⟨rfl, _⟩ | ⟨rfl, _⟩
      · exact (e' (hH.sep id i' hid hi' hown hoi' hbb).symm).elim
      · omega
    · simp only [e, e', if_true, if_false] at hbb
      rcases hb with ⟨rfl, _⟩ | ⟨rfl, _⟩
      · exact (e (hH.sep i id hi hid hoi hown hbb)).elim
      · omega
    · simp only [e, e', if_false] at hbb
      exact hH.sep i i' hi hi' hoi hoi' hbb
  below := by
    have h3 := hH.lt id hid hown
    have hs := hH.below.size
    refine ⟨hw.1.trans hH.below.os, hw.2.1.trans hH.below.tape, hw.2.2.trans hH.below.output, ?_, fun k hk' hm => ?_, fun hl => Nat.le_trans (hH.below.drawn hl) hd⟩
    · rcases hb with ⟨_, e⟩ | ⟨_, e⟩ <;> omega
    · rw [hk k (by omega) (by
        rcases hb with ⟨rfl, _⟩ | ⟨rfl, _⟩
        · intro e
          rcases h3.2 with h4 | h4
          · omega
          · exact hm (e ▸ h4)
        · omega)]
      exact hH.below.block k hk' hm
  loose := hH.loose

set_option maxHeartbeats 2000000 in
theorem sim_append (hH : HR C S H w) {t t2 ty : TypeId} {s x v : V} {cs cx : Value} {H' : AH} (hs : VR S s cs) (hx : VR S x cx) (h : aappend P H t t2 s x = some (v, H')) :
    ∃ S' cv w', (Builtin.append_ #[t, t2] ty #[cs, cx]).run P w = .ok cv w' ∧ S.le S' ∧ VR S' v cv ∧ HR C S' H' w' := by
  unfold aappend at h
  split at h
  · cases h
  · rename_i e he
    have hu := qelem_spec he
    split at h
    · rename_i sz bytes z d2 hsz hb hz h2
      split at h
      · rename_i hc
        obtain ⟨hpos, hd, hzl⟩ := hc
        split at h
        · cases h
        · rename_i new n hsrc
          obtain ⟨new', hnv, hn1, hnl, hrun⟩ := sim_source (P := P) hH hx hsrc
          have hnl' : new'.length = n * sz := by rw [← hnv.length]; exact hnl
          have hzlen : ∀ zc : Value, z = absV zc → zc.cells.size = sz := by
            intro zc hzc
            simp only [Option.map_eq_some_iff] at hzl
            obtain ⟨zl, hzl, hzl2⟩ := hzl
            obtain ⟨l', hl', hv', _⟩ := V.cells_VR (S := S) (hzc ▸ absV_VR S zc) hzl
            rw [hl']; simp; rw [← hv'.length]; exact hzl2
          split at h
          · rename_i hn0
            subst hn0
            have hnew : new' = [] := List.eq_nil_of_length_eq_zero (by omega)
            subst hnew
            split at h
            · rename_i a len c
              cases h
              cases hs with
              | slnil c =>
                refine ⟨S, .slice none 0 0, w, ?_, Loc.le.refl S, .slnil _, hH⟩
                exact run_append_fit (w' := w) hu hsz h2 hd (hrun w rfl).1 (hrun w rfl).2 (Nat.le_refl _) (fun ad h => by cases h) (fun _ => rfl)
              | sl id g off _ cap _ ad h1 h2' hl h3 h4 h5 =>
                refine ⟨S, .slice (some ad) len cap, w, ?_, Loc.le.refl S, .sl _ _ _ _ _ _ _ h1 h2' hl h3 h4 h5, hH⟩
                exact run_append_fit (w' := w) hu hsz h2 hd (hrun w rfl).1 (hrun w rfl).2 hl (fun ad h => by simp only [storeCells]; rfl) (fun h => by cases h)
            · cases h
          · rename_i hn0
            split at h
            · -- nil
              split at h <;> cases h
              rename_i hr
              cases hs
              obtain ⟨newCap, rest, hcap, ⟨zc, hzc, hrl⟩, hra⟩ := run_append_more (ty := ty) (len := 0) (cap := 0) (a := none) (old := []) hu hsz hb hz h2 hd hrun (fun w' _ => by simp [Builtin.firstCells]) (by omega) (by simpa using hr)
              simp only [Nat.zero_add, List.nil_append] at hra hcap hrl
              have hnw := sim_newg (C := C) (S := S) (H := H) (w := { w with drawn := w.drawn + 1 }) hH.drew hnv hn1 e sz rest (qgenB P e) (fun t h => qgenB_spec h)
              refine ⟨_, _, _, hra, Loc.le_add .., ?_, hnw⟩
              rw [hH.next]
              refine .sl _ _ _ _ _ _ _ (by simp [Loc.add]) (by simp [Loc.add]) hcap (fun _ _ => by simp [Loc.add]) (fun h => by cases h) (fun _ _ _ _ => ?_)
              simp only [Loc.add, if_true, List.length_append, hnl', hrl, hzlen zc hzc]
              simp only [Nat.zero_add]; rw [← Nat.add_mul, Nat.add_sub_cancel' hcap]
            · rename_i id g off len clip
              split at h
              · rename_i c g' ro esz hg
                split at h
                · rename_i hge
                  obtain ⟨hge, hlen, hr⟩ := hge
                  subst hge
                  have ho := hH.obj id _ hg
                  cases hs with
                  | sl _ _ _ _ cap _ ad h1 h2' hl h3 h4 h5 =>
                    obtain ⟨old, hov, hol, hoc, ho1⟩ := ho.part off (len * sz) hlen
                    have hold : ∀ w' : World, w'.heap = w.heap → (Builtin.firstCells sz len (.slice (some ad) len cap)).run P w' = .ok old.toArray w' := by
                      intro w' hw
                      by_cases h0 : len = 0
                      · subst h0
                        have : old = [] := List.eq_nil_of_length_eq_zero (by omega)
                        subst this
                        simp [Builtin.firstCells, loadCells, loadCellsFrom]
                      · have := h3 ho.1 (by omega)
                        subst this
                        have hload := run_loadCells_list (P := P) w' _ old (fun j v hj => by
                          have := hoc j v hj
                          unfold World.cell? at this ⊢
                          rw [hw]; exact this)
                        rw [hol] at hload
                        simpa [Builtin.firstCells] using hload
                    have hone : ∀ c ∈ old ++ new', c.oneCell' = true := fun c hc => by
                      rcases List.mem_append.1 hc with h | h
                      · exact ho1 c h
                      · exact hn1 c h
                    split at h
                    · -- clipped: the row grows elsewhere
                      rename_i hclip
                      cases h
                      have := h4 hclip
                      subst this
                      obtain ⟨newCap, rest, hcap, ⟨zc, hzc, hrl⟩, hra⟩ := run_append_more (ty := ty) (a := some ad) (old := old) hu hsz hb hz h2 hd hrun hold (by omega) hr
                      have hnw := sim_new (C := C) (S := S) (H := H) (w := { w with drawn := w.drawn + 1 }) hH.drew (hov.append hnv) hone e sz rest
                      refine ⟨_, _, _, hra, Loc.le_add .., ?_, hnw⟩
                      rw [hH.next]
                      refine .sl _ _ _ _ _ _ _ (by simp [Loc.add]) (by simp [Loc.add]) hcap (fun _ _ => by simp [Loc.add]) (fun h => by cases h) (fun _ _ _ _ => ?_)
                      simp only [Loc.add, if_true, List.length_append, hnl', hol, hrl, hzlen zc hzc]
                      simp only [Nat.zero_add]; rw [← Nat.add_mul, ← Nat.add_mul, Nat.add_sub_cancel' hcap]
                    · rename_i hclip
                      split at h
                      · rename_i hro
                        obtain ⟨hro, hesz⟩ := hro
                        subst hro hesz
                        have hown := ho.2.2.2.2 rfl
                        obtain ⟨cs, el, fr, hh, hsz2, hbl, hfz⟩ := ho.2.2.2.1 hown
                        obtain ⟨hfz, hty⟩ := hfz
                        have hfz := hfz rfl
                        have hgt : S.gen id < anext P e g off := by rw [← ho.1]; exact anext_gt ..
                        have hesz' := ho.2.1
                        have hroom := h5 ho.1 hown (by omega) (by simpa using hclip)
                        rw [← hesz'] at hroom
                        have hlt : S.blk id < w.heap.size := (Array.getElem?_eq_some_iff.1 hh).1
                        -- what a store behind the slice does
                        have hstore : len + n ≤ cap → (storeCells (ad.add (len * esz)) new').run P w = .ok () { w with heap := w.heap.setIfInBounds (S.blk id) (.cells (csplice cs (S.base id + off + len * esz) new') el fr) } := by
                          intro hfit
                          have := h3 ho.1 (by omega)
                          subst this
                          rw [add_none]
                          have hm : (len + n) * esz ≤ cap * esz := Nat.mul_le_mul_right _ hfit
                          rw [Nat.add_mul] at hm
                          have := run_storeCells_all (P := P) (S.blk id) (S.base id + off + len * esz) el fr new' 0 w cs hh (by omega) (by rw [hsz2]; exact fun k hk => hfz k (.inl hk)) hn1
                          simpa using this
                        split at h
                        · -- in place, inside of what is known
                          rename_i hin
                          cases h
                          have hm : (len + n) * esz = len * esz + n * esz := Nat.add_mul ..
                          have hfit : len + n ≤ cap := by
                            apply Nat.le_of_mul_le_mul_right (c := esz) _ hpos
                            omega
                          refine ⟨S, .slice (some ad) (len + n) cap, _, run_append_fit hu hsz h2 hd (hrun w rfl).1 (hrun w rfl).2 hfit (fun ad' h => by cases h; exact hstore hfit) (fun h => by cases h), Loc.le.refl S, ?_, ?_⟩
                          · exact .sl _ _ _ _ _ _ _ h1 h2' hfit h3 (fun h => by cases h) (fun a b c _ => h5 a b c (by simpa using hclip))
                          · have := OR.splice (S := S) h1 ho (l := new) (off := off + len * esz) (by omega) hnv hn1 hh hsz2
                            rw [← Nat.add_assoc] at this
                            exact hH.write id h1 hown _ _ this
                        · -- at the end: in place, or elsewhere
                          rename_i hin
                          cases h
                          by_cases hfit : len + n ≤ cap
                          · have hm : (len + n) * esz ≤ cap * esz := Nat.mul_le_mul_right _ hfit
                            rw [Nat.add_mul] at hm
                            have hsp := csplice_size cs (S.base id + off + len * esz) new' (by omega)
                            refine ⟨S.grow id (S.blk id) (S.base id + off) (S.room id) (anext P e g off), .slice (some ad) (len + n) cap, _, run_append_fit hu hsz h2 hd (hrun w rfl).1 (hrun w rfl).2 hfit (fun ad' h => by cases h; exact hstore hfit) (fun h => by cases h), Loc.le_grow _ _ _ _ _ hgt, ?_, ?_⟩
                            · have hg0 := ho.1
                              refine .sl _ _ _ _ _ _ _ h1 (by simp [Loc.grow, hg0]) hfit (fun _ _ => ?_) (fun h => by cases h) (fun _ _ _ _ => ?_)
                              · rw [h3 ho.1 (by omega)]; simp [Loc.grow]
                              · simp only [Loc.grow, if_true]; rw [← hesz']; omega
                            · refine hH.grow h1 hown hgt (.inl ⟨rfl, by simp⟩) (fun k hk hne => by simp only [Array.getElem?_setIfInBounds]; rw [if_neg (fun e => hne e.symm)]) ⟨rfl, rfl, rfl⟩ (Nat.le_refl _) ?_
                              refine ⟨by simp [Loc.grow, ho.1], by simp [Loc.grow, hesz'], fun j v hj => ?_, fun _ => ⟨csplice cs (S.base id + off + len * esz) new', el, fr, by simp [Loc.grow, hlt], by simp [Loc.grow, hsp, hsz2], ?_, fun _ o hoo => hfz o (by simpa [Loc.grow] using hoo), fun t ht => ?_⟩, fun _ => hown⟩
                              · obtain ⟨cv, hcv, hvv⟩ := (hov.append hnv).get j v hj
                                have hjl := (List.getElem?_eq_some_iff.1 hcv).1
                                simp only [List.length_append, hol, hnl'] at hjl
                                refine ⟨cv, ?_, hvv.mono (Loc.le_grow _ _ _ _ _ hgt), hone cv (List.mem_of_getElem? hcv)⟩
                                unfold World.cell?
                                simp only [Loc.grow, if_true, Array.getElem?_setIfInBounds, hlt]
                                unfold csplice
                                simp only [Option.isSome_none, Bool.false_eq_true, if_false, List.getElem?_toArray]
                                by_cases hj1 : j < len * esz
                                · rw [List.getElem?_append_left (by simp; omega), List.getElem?_append_left (by simp; omega), List.getElem?_take, if_pos (by omega)]
                                  rw [List.getElem?_append_left (by omega)] at hcv
                                  have := hoc j cv hcv
                                  rw [add_none] at this
                                  unfold World.cell? at this
                                  simpa [hh] using this
                                · rw [List.getElem?_append_left (by simp; omega), List.getElem?_append_right (by simp; omega)]
                                  rw [List.getElem?_append_right (by omega)] at hcv
                                  simp only [List.length_take, Array.length_toList]
                                  rw [Nat.min_eq_left (by omega)]
                                  rw [hol] at hcv
                                  rw [show S.base id + off + j - (S.base id + off + len * esz) = j - len * esz by omega]
                                  exact hcv
                              · have h1' := hov.length
                                have h2'' := hnv.length
                                simp only [Loc.grow, if_true, List.length_append]
                                omega
                              · obtain ⟨q1, q2, q3⟩ := anext_spec (show anext P e g off % gK = t + 1 by simpa [Loc.grow] using ht)
                                obtain ⟨q4, q5⟩ := hty e (by rw [← ho.1]; exact q3)
                                exact ⟨q4.trans q1.symm, by simp [Loc.grow, q5, q2]⟩
                          · obtain ⟨newCap, rest, hcap, ⟨zc, hzc, hrl⟩, hra⟩ := run_append_more (ty := ty) (a := some ad) (old := old) hu hsz hb hz h2 hd hrun hold (by omega) hr
                            refine ⟨S.grow id w.heap.size 0 (old ++ new' ++ rest).length (anext P e g off), _, _, hra, Loc.le_grow _ _ _ _ _ hgt, ?_, ?_⟩
                            · have hg0 := ho.1
                              refine .sl _ _ _ _ _ _ _ h1 (by simp [Loc.grow, hg0]) hcap (fun _ _ => by simp [Loc.grow]) (fun h => by cases h) (fun _ _ _ _ => ?_)
                              simp only [Loc.grow, if_true, List.length_append, hnl', hol, hrl, hzlen zc hzc]
                              simp only [Nat.zero_add]; rw [← Nat.add_mul, ← Nat.add_mul, Nat.add_sub_cancel' hcap, ← hesz']
                            · refine hH.grow h1 hown hgt (.inr ⟨rfl, by simp⟩) (fun k hk hne => by simp only [Array.getElem?_push]; rw [if_neg (by omega)]) ⟨rfl, rfl, rfl⟩ (Nat.le_succ _) ?_
                              refine ⟨by simp [Loc.grow, ho.1], by simp [Loc.grow, hesz'], fun j v hj => ?_, fun _ => ⟨(old ++ new' ++ rest).toArray, e, (0, 0), by simp [Loc.grow], by simp [Loc.grow], ?_, fun _ o hoo => by simp, fun t ht => ⟨(anext_spec (show anext P e g off % gK = t + 1 by simpa [Loc.grow] using ht)).1.symm, by simp [Loc.grow]⟩⟩, fun _ => hown⟩
                              · obtain ⟨cv, hcv, hvv⟩ := (hov.append hnv).get j v hj
                                have hjl := (List.getElem?_eq_some_iff.1 hcv).1
                                refine ⟨cv, ?_, hvv.mono (Loc.le_grow _ _ _ _ _ hgt), hone cv (List.mem_of_getElem? hcv)⟩
                                unfold World.cell?
                                simp only [Loc.grow, if_true, Array.getElem?_push_size, Option.isSome_none, Bool.false_eq_true, if_false, List.getElem?_toArray, Nat.zero_add]
                                rw [List.getElem?_append_left hjl]
                                exact hcv
                              · have h1' := hov.length
                                have h2'' := hnv.length
                                simp only [Loc.grow, if_true, List.length_append]
                                omega
                      · cases h
                · cases h
              · cases h
            · cases h
      · cases h
    · cases h
end
end Go.Abs

set_option linter.unusedVariables false
set_option linter.unusedSimpArgs false
namespace Go.Abs
open Go Go.RowKit

section
variable {C : Ctx} {P : Program} {S : Loc} {H : AH} {w : World}

theorem VRs.toArray2 {S : Loc} {a b : V} {c d : Value} (h1 : VR S a c) (h2 : VR S b d) : VR S (.tup [a, b]) (.tuple #[c, d]) := VR.tup [a, b] [c, d] (.cons _ _ _ _ h1 (.cons _ _ _ _ h2 .nil))
theorem VRs.toArray3 {S : Loc} {a b e : V} {c d f : Value} (h1 : VR S a c) (h2 : VR S b d) (h3 : VR S e f) : VR S (.tup [a, b, e]) (.tuple #[c, d, f]) := VR.tup [a, b, e] [c, d, f] (.cons _ _ _ _ h1 (.cons _ _ _ _ h2 (.cons _ _ _ _ h3 .nil)))

theorem sim_range (hH : HR C S H w) {t : TypeId} {x v : V} {cx : Value} {H' : AH} (hx : VR S x cx) (h : arange P H t x = some (v, H')) :
    ∃ S' cv w', (Instr.range t cx).run P w = .ok cv w' ∧ S.le S' ∧ VR S' v cv ∧ HR C S' H' w' := by
  unfold arange at h
  split at h
  · rename_i kt hq
    cases h
    obtain ⟨kt, et⟩ := kt
    have hu := qmap_spec hq
    cases hx
    refine ⟨S.add w.heap.size 0 0 0, .pointer (some ⟨w.heap.size, 0, none⟩), { w with heap := w.heap.push (.mapIter none 0 #[] 0) }, ?_, Loc.le_add .., ?_, ?_⟩
    · unfold Instr.range
      simp only [Sem.run_bind, run_underlying hu, Result.andThen_ok, Sem.run_pure, run_newObj]
    · rw [hH.next]; exact .p _ _ _ _ (by simp [Loc.add]) (by simp [Loc.add]) (fun _ => by simp [Loc.add])
    · exact hH.new _ _ _ _ ⟨by simp [Loc.add], by simp [Loc.add], by simp [Loc.add], none, .mnil, by simp [Loc.add]⟩
  · rename_i kt m hq
    obtain ⟨kt, et⟩ := kt
    have hu := qmap_spec hq
    split at h
    · rename_i es clock hg
      cases h
      cases hx with
      | m _ r h1 h2 =>
        obtain ⟨g0, hown, ces, hh, e1, e2, e3⟩ := hH.obj m _ hg
        have := h2 g0
        subst this
        have hget : (getObj (S.blk m)).run P w = .ok (.map ces clock) w := by simp [getObj, Sem.run, hh]
        refine ⟨S.add w.heap.size 0 0 0, .pointer (some ⟨w.heap.size, 0, none⟩), { w with heap := w.heap.push (.mapIter (some (S.blk m)) clock #[] clock) }, ?_, Loc.le_add .., ?_, ?_⟩
        · unfold Instr.range
          simp only [Sem.run_bind, run_underlying hu, Result.andThen_ok, Sem.run_pure, hget, run_newObj]
        · rw [hH.next]; exact .p _ _ _ _ (by simp [Loc.add]) (by simp [Loc.add]) (fun _ => by simp [Loc.add])
        · refine hH.new _ _ _ _ ⟨by simp [Loc.add], by simp [Loc.add], by simp [Loc.add], some (S.blk m), ?_, by simp [Loc.add]⟩
          exact (VR.m (S := S) m (S.blk m) h1 (fun _ => rfl)).mono (Loc.le_add ..)
    · cases h
  · rename_i l hne
    split at h
    · rename_i hs
      cases h
      have hu := qstr_spec hs
      cases hx with
      | s _ c hc =>
        refine ⟨S.add w.heap.size 0 0 0, .pointer (some ⟨w.heap.size, 0, none⟩), { w with heap := w.heap.push (.stringIter c 0) }, ?_, Loc.le_add .., ?_, ?_⟩
        · unfold Instr.range
          simp only [Sem.run_bind, run_underlying hu, Result.andThen_ok, Sem.run_pure, run_newObj]
        · rw [hH.next]; exact .p _ _ _ _ (by simp [Loc.add]) (by simp [Loc.add]) (fun _ => by simp [Loc.add])
        · exact hH.new _ _ _ _ ⟨by simp [Loc.add], by simp [Loc.add], by simp [Loc.add], c, hc, by simp [Loc.add]⟩
    · cases h
  · cases h

/-- The next letter of a text. -/
theorem sim_nextS (hH : HR C S H w) {x v : V} {cx : Value} {t : TypeId} {H' : AH} (hx : VR S x cx) (h : anextS H x = some (v, H')) :
    ∃ S' cv w', (Instr.next cx true t).run P w = .ok cv w' ∧ S.le S' ∧ VR S' v cv ∧ HR C S' H' w' := by
  unfold anextS at h
  split at h
  · rename_i id
    split at h
    · rename_i s pos hg
      obtain ⟨g0, hown, b0, cs, hcs, hh⟩ := hH.obj id _ hg
      cases hx with
      | p _ _ _ a h1 h2 h3 =>
        have ha := h3 g0.symm
        rw [b0] at ha
        subst ha
        have hce : cs = ⟨s.toArray⟩ := by rw [← hcs]
        have hsz : cs.size = s.length := by rw [hce]; rfl
        have g1 : (getObj (S.blk id)).run P w = .ok (.stringIter cs pos) w := by simp [getObj, Sem.run, hh]
        have hlt : S.blk id < w.heap.size := (Array.getElem?_eq_some_iff.1 hh).1
        split at h
        · rename_i hp
          cases h
          have hset : ∀ o : Obj, (setObj (S.blk id) o).run P w = .ok () { w with heap := w.heap.setIfInBounds (S.blk id) o } := by
            intro o; simp [setObj, Sem.run, hh]
          refine ⟨S, .tuple #[.bool true, .int .i64 pos, .int .i32 (Utf8.decode cs pos).1], { w with heap := w.heap.setIfInBounds (S.blk id) (.stringIter cs (pos + (Utf8.decode cs pos).2)) }, ?_, Loc.le.refl S, ?_, ?_⟩
          · unfold Instr.next
            simp only [Sem.run_bind, g1, Result.andThen_ok, hsz, hp, if_true, hset, Sem.run_pure]
            rfl
          · rw [hce]; exact VRs.toArray3 (.b _) (.i _ _) (.i _ _)
          · refine hH.write id h1 hown _ _ ⟨g0, hown, b0, cs, hcs, ?_⟩
            rw [hce]; simp [hlt]
        · rename_i hp
          cases h
          refine ⟨S, .tuple #[.bool false], w, ?_, Loc.le.refl S, .tup [.b false] [.bool false] (.cons _ _ _ _ (.b _) .nil), hH⟩
          unfold Instr.next
          simp only [Sem.run_bind, g1, Result.andThen_ok, hsz, hp, if_false, Sem.run_pure]
    · cases h
  · cases h

/-- The iterator behind a pointer. -/
theorem iter_ptr (hH : HR C S H w) {id : Nat} {cv : Value} (hv : VR S (.p (some (id, 0, 0))) cv) {m : Option Nat} {since stepped : Nat} {seen : List Nat} (hg : H.get id = some (.mapIter m since seen stepped)) :
    cv = .pointer (some ⟨S.blk id, 0, none⟩) ∧ ∃ cm, VR S (.m m) (.map cm) ∧ w.heap[S.blk id]? = some (.mapIter cm since seen.toArray stepped) := by
  obtain ⟨g0, hown, b0, cm, hm, hh⟩ := hH.obj id _ hg
  cases hv with
  | p _ _ _ a h1 h2 h3 =>
    have := h3 g0.symm
    rw [b0] at this
    exact ⟨by rw [this], cm, hm, hh⟩

theorem sim_entry (hH : HR C S H w) {x v : V} {cx : Value} (hx : VR S x cx) (h : aentry H x = some v) : ∃ cv, (Instr.entry cx).run P w = .ok cv w ∧ VR S v cv := by
  unfold aentry at h
  split at h
  · rename_i id
    split at h
    · rename_i m since seen stepped hg
      split at h
      · rename_i stamp es clock hs hgm
        split at h
        · rename_i hc
          subst hc
          simp only [Option.map_eq_some_iff] at h
          obtain ⟨e, he, rfl⟩ := h
          obtain ⟨rfl, cm, hm, hh⟩ := iter_ptr hH hx hg
          obtain ⟨g0, hown, ces, hhm, e1, e2, e3⟩ := hH.obj m _ hgm
          cases hm with
          | m _ r h1 h2 =>
            have := h2 g0
            subst this
            have hfind : ∃ ce, ces.find? (fun e => e.born == stamp) = some ce ∧ VR S e.1 ce.key ∧ VR S e.2.1 ce.val := by
              rw [← Array.find?_toList]
              generalize ces.toList = l at e1 e2 e3
              clear hhm hgm
              induction es generalizing l with
              | nil => cases he
              | cons a es ih =>
                cases l with
                | nil => simp at e3
                | cons b l =>
                  simp only [List.map_cons] at e1 e2 e3
                  cases e1 with
                  | cons _ _ _ _ k1 k2 =>
                    cases e2 with
                    | cons _ _ _ _ j1 j2 =>
                      have e3 := List.cons.inj e3
                      simp only [List.find?_cons] at he ⊢
                      rw [← e3.1]
                      cases hb : (a.2.2 == stamp) with
                      | true =>
                        rw [hb] at he
                        cases he
                        exact ⟨b, rfl, k1, j1⟩
                      | false =>
                        rw [hb] at he
                        exact ih he l k2 j2 e3.2
            obtain ⟨ce, hce, hk, hv⟩ := hfind
            refine ⟨.tuple #[ce.key, ce.val], ?_, VRs.toArray2 hk hv⟩
            have hb : seen.toArray.back? = some stamp := by simpa using hs
            have g1 : (getObj (S.blk id)).run P w = .ok (.mapIter (some (S.blk m)) since seen.toArray clock) w := by simp [getObj, Sem.run, hh]
            have g2 : (getObj (S.blk m)).run P w = .ok (.map ces clock) w := by simp [getObj, Sem.run, hhm]
            unfold Instr.entry
            simp only [Sem.run_bind, g1, Result.andThen_ok, hb, g2, bne_self_eq_false, Bool.false_eq_true, if_false, hce, Sem.run_pure]
        · cases h
      · cases h
    · cases h
  · cases h

/-- What 'next' does. -/
theorem sim_next (hH : HR C S H w) {x : V} {cx : Value} {t : TypeId} {K : V → AH → Prop} (hx : VR S x cx) (h : ANext H x K) :
    ∃ v cv H' w', (Instr.next cx false t).run P w = .ok cv w' ∧ VR S v cv ∧ HR C S H' w' ∧ K v H' := by
  unfold ANext at h
  split at h
  · rename_i id
    split at h
    · rename_i since seen stepped hg
      obtain ⟨rfl, cm, hm, hh⟩ := iter_ptr hH hx hg
      cases hm
      have g1 : (getObj (S.blk id)).run P w = .ok (.mapIter none since seen.toArray stepped) w := by simp [getObj, Sem.run, hh]
      refine ⟨_, .tuple #[.bool false], H, w, ?_, .tup [.b false] [.bool false] (.cons _ _ _ _ (.b _) .nil), hH, h⟩
      unfold Instr.next
      simp only [Sem.run_bind, g1, Result.andThen_ok, Sem.run_pure]
    · rename_i m since seen stepped hg
      obtain ⟨rfl, cm, hm, hh⟩ := iter_ptr hH hx hg
      obtain ⟨ig0, iown, ib0, _⟩ := hH.obj id _ hg
      split at h
      · rename_i es clock hgm
        obtain ⟨hnew, hcome, hover⟩ := h
        obtain ⟨g0, hown, ces, hhm, e1, e2, e3⟩ := hH.obj m _ hgm
        cases hm with
        | m _ r h1 h2 =>
          have := h2 g0
          subst this
          have g1 : (getObj (S.blk id)).run P w = .ok (.mapIter (some (S.blk m)) since seen.toArray stepped) w := by simp [getObj, Sem.run, hh]
          have g2 : (getObj (S.blk m)).run P w = .ok (.map ces clock) w := by simp [getObj, Sem.run, hhm]
          -- the entries on both sides
          have hmem : ∀ ce ∈ ces.toList, ∃ e ∈ es, e.2.2 = ce.born ∧ VR S e.1 ce.key ∧ VR S e.2.1 ce.val := by
            clear hhm hgm hnew hcome hover g2
            generalize ces.toList = l at e1 e2 e3
            induction es generalizing l with
            | nil => cases l with
              | nil => simp
              | cons _ _ => simp at e3
            | cons a es ih =>
              cases l with
              | nil => simp
              | cons b l =>
                simp only [List.map_cons] at e1 e2 e3
                cases e1 with
                | cons _ _ _ _ k1 k2 =>
                  cases e2 with
                  | cons _ _ _ _ j1 j2 =>
                    have e3 := List.cons.inj e3
                    intro ce hce
                    rcases List.mem_cons.1 hce with rfl | hce
                    · exact ⟨a, by simp, e3.1, k1, j1⟩
                    · obtain ⟨e, he, h⟩ := ih l k2 j2 e3.2 ce hce
                      exact ⟨e, by simp [he], h⟩
          have hborn : ∀ e ∈ es, ∃ ce ∈ ces.toList, ce.born = e.2.2 := by
            intro e he
            have : e.2.2 ∈ es.map (·.2.2) := List.mem_map_of_mem he
            rw [e3] at this
            obtain ⟨ce, h1, h2⟩ := List.mem_map.1 this
            exact ⟨ce, h1, h2⟩
          have hguard : (!seen.toArray.isEmpty && !ces.isEmpty && ces.all (·.born ≥ stepped)) = false := by
            rcases hnew with rfl | rfl | ⟨e, he, hlt⟩
            · rfl
            · have : ces.toList = [] := by simpa using e3.symm
              have : ces = #[] := Array.ext' this
              subst this; simp
            · obtain ⟨ce, h1, h2⟩ := hborn e he
              have : ces.all (·.born ≥ stepped) = false := by
                rw [Bool.eq_false_iff]
                intro hall
                have := Array.all_eq_true_iff_forall_mem.1 hall ce (by simpa using h1)
                simp at this; omega
              rw [this]; simp
          let left := ces.filter fun e => !seen.toArray.contains e.born
          let old := left.filter fun e => decide (e.born < since)
          let new := left.filter fun e => decide (e.born ≥ since)
          let cands : Array (Option MapEntry) := (if old.isEmpty then #[none] else #[]) ++ (old ++ new).map some
          have hpos : 0 < cands.size := by
            simp only [cands, Array.size_append, Array.size_map]
            by_cases ho : old.isEmpty = true
            · simp [ho]; omega
            · simp [ho]
              have : old.size ≠ 0 := fun e => ho (by simpa using e)
              omega
          have hnone : none ∈ cands → old.isEmpty = true := by
            intro hm
            simp only [cands, Array.mem_append] at hm
            rcases hm with hm | hm
            · by_cases ho : old.isEmpty = true
              · exact ho
              · simp [ho] at hm
            · simp at hm
          have hsome : ∀ e, some e ∈ cands → e ∈ ces ∧ e.born ∉ seen := by
            intro e hm
            simp only [cands, Array.mem_append] at hm
            have hl : e ∈ left := by
              rcases hm with hm | hm
              · split at hm <;> simp at hm
              · simp only [Array.mem_map, Array.mem_append] at hm
                obtain ⟨e', he', h⟩ := hm
                cases h
                rcases he' with h | h
                · exact (Array.mem_filter.1 h).1
                · exact (Array.mem_filter.1 h).1
            have := Array.mem_filter.1 hl
            exact ⟨this.1, by simpa using this.2⟩
          have hold : old.isEmpty = true → ∀ e ∈ es, e.2.2 ∉ seen → since ≤ e.2.2 := by
            intro ho e he hn
            obtain ⟨ce, k1, k2⟩ := hborn e he
            refine Nat.le_of_not_lt fun hlt => ?_
            have : ce ∈ old := Array.mem_filter.2 ⟨Array.mem_filter.2 ⟨by simpa using k1, by simpa [k2] using hn⟩, by simp [k2, hlt]⟩
            have h0 : old = #[] := by simpa using ho
            rw [h0] at this; simp at this
          have hk : ∀ k, k < cands.size → ∀ w1, HR C S H w1 → w1.heap = w.heap → ∃ v cv H' w', ((match cands[k]? with
              | some (some e) => do setObj (S.blk id) (.mapIter (some (S.blk m)) since (seen.toArray.push e.born) clock); pure (.tuple #[.bool true, e.key, e.val])
              | some none => pure (.tuple #[.bool false])
              | none => stuck "Next: no such candidate" : Sem Value)).run P w1 = .ok cv w' ∧ VR S v cv ∧ HR C S H' w' ∧ K v H' := by
            intro k hk w1 hH1 hw1
            have hmk : cands[k] ∈ cands := Array.getElem_mem hk
            rw [Array.getElem?_eq_getElem hk]
            generalize cands[k] = x at hmk
            cases x with
            | none => exact ⟨_, .tuple #[.bool false], H, w1, by simp, .tup [.b false] [.bool false] (.cons _ _ _ _ (.b _) .nil), hH1, hover (hold (hnone hmk))⟩
            | some ce =>
              obtain ⟨c1, c2⟩ := hsome ce hmk
              obtain ⟨e, he, hb, hke, hve⟩ := hmem ce (by simpa using c1)
              have hlt : S.blk id < w1.heap.size := by rw [hw1]; exact (Array.getElem?_eq_some_iff.1 hh).1
              have hset : (setObj (S.blk id) (.mapIter (some (S.blk m)) since (seen.toArray.push ce.born) clock)).run P w1 = .ok () { w1 with heap := w1.heap.setIfInBounds (S.blk id) (.mapIter (some (S.blk m)) since (seen.toArray.push ce.born) clock) } := by
                simp [setObj, Sem.run, hw1, hh]
              refine ⟨.tup [.b true, e.1, e.2.1], .tuple #[.bool true, ce.key, ce.val], H.set id (.mapIter (some m) since (seen ++ [e.2.2]) clock), { w1 with heap := w1.heap.setIfInBounds (S.blk id) (.mapIter (some (S.blk m)) since (seen.toArray.push ce.born) clock) }, ?_, VRs.toArray3 (.b _) hke hve, ?_, hcome e he (by rw [hb]; exact c2)⟩
              · simp only [Sem.run_bind, hset, Result.andThen_ok, Sem.run_pure]
              · refine hH1.write id (by rw [← hH.next]; exact AH.get_lt hg) iown _ _ ⟨ig0, iown, ib0, some (S.blk m), .m m (S.blk m) h1 (fun _ => rfl), ?_⟩
                simp [hlt, hb]
          have hrun : ∀ w1 k, (choose (.mapNext cands.size)).run P w = .ok k w1 → k < cands.size ∧ HR C S H w1 ∧ w1.heap = w.heap := by
            intro w1 k hc
            rw [run_choose] at hc
            split at hc
            · cases hc; exact ⟨hpos, hH, rfl⟩
            · cases hc; exact ⟨Nat.mod_lt _ hpos, hH.drew, rfl⟩
          have hex : ∃ k w1, (choose (.mapNext cands.size)).run P w = .ok k w1 := by
            rw [run_choose]; split <;> exact ⟨_, _, rfl⟩
          obtain ⟨k, w1, hc⟩ := hex
          obtain ⟨k1, k2, k3⟩ := hrun w1 k hc
          obtain ⟨v, cv, H', w', r1, r2, r3, r4⟩ := hk k k1 w1 k2 k3
          refine ⟨v, cv, H', w', ?_, r2, r3, r4⟩
          unfold Instr.next
          simp only [Sem.run_bind, g1, Result.andThen_ok, g2, hguard, Bool.false_eq_true, if_false]
          change ((choose (.mapNext cands.size)).run P w).andThen _ = _
          rw [hc]
          exact r1
      · exact h.elim
    · exact h.elim
  · exact h.elim
end
end Go.Abs

set_option linter.unusedVariables false
set_option linter.unusedSimpArgs false
namespace Go.Abs
open Go Go.RowKit

section
variable {C : Ctx} {P : Program} {S : Loc} {H : AH} {w : World}

theorem VRs.splice {l k : List V} {l' k' : List Value} (h : VRs S l l') (hk : VRs S k k') (off : Nat) : VRs S (splice l off k) (l'.take off ++ k' ++ l'.drop (off + k'.length)) := by
  unfold Abs.splice
  rw [hk.length]
  exact ((h.take off).append hk).append (h.drop _)

/-- What the model's fill does, as a splice. -/
theorem fold_splice (off : Nat) : ∀ (vs : List Value) (i : Nat) (cs : Array Value), off + i + vs.length ≤ cs.size →
    ((vs.zipIdx i).foldl (fun cs (x : Value × Nat) => cs.setIfInBounds (off + x.2) x.1) cs) = csplice cs (off + i) vs
  | [], i, cs, _ => by simp [csplice_nil]
  | v :: vs, i, cs, h => by
    simp only [List.zipIdx_cons, List.foldl_cons]
    rw [fold_splice off vs (i + 1) _ (by simp at h ⊢; omega)]
    rw [show off + (i + 1) = off + i + 1 by omega, csplice_cons cs (off + i) v vs (by simp at h; omega)]

theorem sim_fill (place : Nat → Option (Nat × Nat)) (place' : Nat → Option (Nat × Nat)) (hp : ∀ i x, place i = some x → place' i = some x) : ∀ (parts : List (Nat × V)) (parts' : List (Nat × Value)) (cells l : List V) (cells' : List Value),
    parts.map (·.1) = parts'.map (·.1) → VRs S (parts.map (·.2)) (parts'.map (·.2)) → VRs S cells cells' → (∀ c ∈ cells', c.oneCell' = true) → afill place cells parts = some l →
    ∃ l' : List Value, Instr.fill place' cells'.toArray parts' = some l'.toArray ∧ VRs S l l' ∧ ∀ c ∈ l', c.oneCell' = true
  | [], [], cells, l, cells', _, _, hc, h1, h => by
    simp [afill] at h; subst h
    exact ⟨cells', rfl, hc, h1⟩
  | (i, v) :: parts, (i', c) :: parts', cells, l, cells', he, .cons _ _ _ _ hv ht, hc, h1, h => by
    have hi : i = i' := by simpa using (List.cons.inj he).1
    subst hi
    have he' : parts.map (·.1) = parts'.map (·.1) := (List.cons.inj he).2
    simp only [afill] at h
    split at h
    · rename_i off size k hpl hcl
      split at h
      · rename_i hlen
        obtain ⟨k', hck, hkv, hk1⟩ := V.cells_VR hv hcl
        have hkl := hkv.length
        have hcl2 := hc.length
        have hsz : k'.toArray.size = size := by simp; omega
        have hfold : (k'.toArray.zipIdx.foldl (fun cs (x : Value × Nat) => cs.setIfInBounds (off + x.2) x.1) cells'.toArray) = csplice cells'.toArray off k' := by
          have := fold_splice off k' 0 cells'.toArray (by simp; omega)
          simpa using this
        obtain ⟨l', hf, hl', ho⟩ := sim_fill place place' hp parts parts' (splice cells off k) l (cells'.take off ++ k' ++ cells'.drop (off + k'.length)) he' ht (hc.splice hkv off) (by
          intro x hx
          simp only [List.mem_append] at hx
          rcases hx with (hx | hx) | hx
          · exact h1 x (List.mem_of_mem_take hx)
          · exact hk1 x hx
          · exact h1 x (List.mem_of_mem_drop hx)) h
        refine ⟨l', ?_, hl', ho⟩
        simp only [Instr.fill, hp _ _ hpl, hck, hsz, bne_self_eq_false, Bool.false_or, ne_eq, not_true_eq_false, decide_false]
        have : ¬ (off + size > cells'.toArray.size) := by simp; omega
        simp only [this, decide_false, Bool.false_eq_true, if_false]
        rw [hfold]
        exact hf
      · cases h
    · cases h
  | [], _ :: _, _, _, _, h, _, _, _, _ => by simp at h
  | _ :: _, [], _, _, _, h, _, _, _, _ => by simp at h

theorem qplaces_run {t : TypeId} {pl : List (Nat × Nat)} (h : qplaces P t = some pl) :
    ∃ fs, P.underlying t = some (.struct fs) ∧ ∀ w : World, (fs.mapM (fun f => do pure (f.offset, ← sizeOf f.type) : Field → Sem (Nat × Nat))).run P w = .ok pl.toArray w := by
  unfold qplaces at h
  split at h
  · rename_i fs hu
    refine ⟨fs, hu, fun w => ?_⟩
    rw [Array.mapM_eq_mapM_toList]
    generalize fs.toList = l at h
    clear hu
    have key : ∀ (l : List Field) (pl : List (Nat × Nat)), (l.mapM fun f => (P.info? f.type).map fun i => (f.offset, i.size)) = some pl →
        (l.mapM (fun f => do pure (f.offset, ← sizeOf f.type) : Field → Sem (Nat × Nat))).run P w = .ok pl w := by
      intro l
      induction l with
      | nil => intro pl h; simp at h; subst h; simp
      | cons f l ih =>
        intro pl h
        simp only [List.mapM_cons, Option.bind_eq_bind, Option.bind_eq_some_iff, Option.pure_def] at h
        obtain ⟨x, hx, h⟩ := h
        obtain ⟨pl', hpl, h⟩ := h
        cases h
        simp only [Option.map_eq_some_iff] at hx
        obtain ⟨i, hi, rfl⟩ := hx
        have hs : qsize P f.type = some i.size := by simp [qsize, hi]
        simp only [List.mapM_cons, Sem.run_bind, run_sizeOf w hs, Result.andThen_ok, Sem.run_pure, ih pl' hpl]
    rw [Sem.run_map, key l pl h]; rfl
  · cases h

theorem sim_build {t : TypeId} {parts : List (Nat × V)} {parts' : Array (Nat × Value)} {v : V} (he : parts.map (·.1) = parts'.toList.map (·.1)) (hv : VRs S (parts.map (·.2)) (parts'.toList.map (·.2))) (h : abuild P t parts = some v) :
    ∃ cv, (∀ w, (Instr.build t parts').run P w = .ok cv w) ∧ VR S v cv := by
  unfold abuild at h
  split at h
  · rename_i pl z hpl hz
    simp only [Option.map_eq_some_iff] at h
    obtain ⟨l, hl, rfl⟩ := h
    obtain ⟨fs, hu, hm⟩ := qplaces_run hpl
    obtain ⟨zc, hzr, hza⟩ := run_zeroValue' hz
    obtain ⟨z', hz', hzv, hz1⟩ := V.cells_VR (S := S) (hza ▸ absV_VR S zc) (show V.cells (.agg z) = some z from rfl)
    obtain ⟨l', hf, hl', h1⟩ := sim_fill (fun i => pl[i]?) (fun i => pl.toArray[i]?) (fun i x hx => by simpa using hx) parts parts'.toList z l z' he hv hzv hz1 hl
    refine ⟨.agg l'.toArray, ?_, .agg _ _ hl' h1⟩
    intro w
    unfold Instr.build
    simp only [Sem.run_bind, hzr, Result.andThen_ok, run_underlying hu, hm, hz', hf, Sem.run_pure]
  · split at h
    · rename_i n e z hq hz
      split at h
      · rename_i sz hsz
        simp only [Option.map_eq_some_iff] at h
        obtain ⟨l, hl, rfl⟩ := h
        have hu := qarr_spec hq
        obtain ⟨zc, hzr, hza⟩ := run_zeroValue' hz
        obtain ⟨z', hz', hzv, hz1⟩ := V.cells_VR (S := S) (hza ▸ absV_VR S zc) (show V.cells (.agg z) = some z from rfl)
        obtain ⟨l', hf, hl', h1⟩ := sim_fill (fun i => some (i * sz, sz)) (fun i => some (i * sz, sz)) (fun i x hx => hx) parts parts'.toList z l z' he hv hzv hz1 hl
        refine ⟨.agg l'.toArray, ?_, .agg _ _ hl' h1⟩
        intro w
        unfold Instr.build
        simp only [Sem.run_bind, hzr, Result.andThen_ok, run_underlying hu, run_sizeOf w hsz, hz', hf, Sem.run_pure]
      · cases h
    · cases h

theorem flat_get {α : Type} [Inhabited α] (n : Nat) (z : List α) (hz : 0 < z.length) : ((Array.range (n * z.length)).map (z.toArray[· % z.toArray.size]!)) = (List.replicate n z).flatten.toArray := by
  apply Array.ext'
  simp only [Array.toList_map, Array.toList_range, List.size_toArray]
  induction n with
  | zero => simp
  | succ n ih =>
    rw [List.replicate_succ', List.flatten_append, List.flatten_singleton, Nat.succ_mul, List.range_add, List.map_append, ih]
    congr 1
    apply List.ext_getElem?
    intro j
    simp only [List.map_map, List.getElem?_map, Function.comp]
    by_cases hj : j < z.length
    · simp [hj, List.getElem?_range, Nat.add_mod, Nat.mod_eq_of_lt hj]
    · simp [hj]

theorem sim_buildSlice (hH : HR C S H w) {t : TypeId} {n : Nat} {parts : List (Nat × V)} {parts' : Array (Nat × Value)} {v : V} {H' : AH} (he : parts.map (·.1) = parts'.toList.map (·.1)) (hv : VRs S (parts.map (·.2)) (parts'.toList.map (·.2)))
    (h : abuildSlice P H t n parts = some (v, H')) : ∃ S' cv w', (Instr.buildSlice t n parts').run P w = .ok cv w' ∧ S.le S' ∧ VR S' v cv ∧ HR C S' H' w' := by
  unfold abuildSlice at h
  split at h
  · rename_i e hq
    have hu := qelem_spec hq
    split at h
    · rename_i sz z hsz hz
      split at h
      · rename_i zl hzl
        split at h
        · rename_i hc
          obtain ⟨hlen, hn, hpos⟩ := hc
          split at h
          · rename_i l hl
            cases h
            obtain ⟨zc, hzr, hza⟩ := run_zeroValue w hz
            obtain ⟨z', hz', hzv, hz1⟩ := V.cells_VR (S := S) (hza ▸ absV_VR S zc) hzl
            have hzl' := hzv.length
            have hrep : VRs S (List.replicate n zl).flatten (List.replicate n z').flatten := by
              clear hl hn
              induction n with
              | zero => exact .nil
              | succ n ih => simpa [List.replicate_succ] using hzv.append ih
            obtain ⟨l', hf, hl', h1⟩ := sim_fill (fun i => some (i * sz, sz)) (fun i => some (i * sz, sz)) (fun i x hx => hx) parts parts'.toList _ l _ he hv hrep (by
              intro c hc
              simp only [List.mem_flatten, List.mem_replicate] at hc
              obtain ⟨_, ⟨_, rfl⟩, hc⟩ := hc
              exact hz1 c hc) hl
            have hnw := sim_new (C := C) (S := S) (H := H) (w := w) hH hl' h1 e sz []
            simp only [List.append_nil] at hnw
            have hll : l'.length = n * sz := by
              have := hl'.length
              -- the fill keeps the length
              have key : ∀ (parts : List (Nat × V)) (cells l : List V), afill (fun i => some (i * sz, sz)) cells parts = some l → l.length = cells.length := by
                intro parts
                induction parts with
                | nil => intro cells l h; simp [afill] at h; subst h; rfl
                | cons x parts ih =>
                  obtain ⟨i, u⟩ := x
                  intro cells l h
                  simp only [afill] at h
                  split at h
                  · rename_i off size k hpl hcl
                    split at h
                    · rename_i hb
                      rw [ih _ _ h]
                      simp [Abs.splice]; omega
                    · cases h
                  · cases h
              have := key _ _ _ hl
              simp [hlen] at this
              omega
            refine ⟨_, .slice (some ⟨w.heap.size, 0, none⟩) n n, _, ?_, Loc.le_add .., ?_, hnw⟩
            · unfold Instr.buildSlice
              simp only [Sem.run_bind, run_underlying hu, Result.andThen_ok, run_sizeOf w hsz]
              have h24 : ¬ (n * sz > 2 ^ 24) := by
                have : (2 : Nat) ^ 24 = 16777216 := by decide
                omega
              rw [if_neg h24]
              by_cases h0 : n * sz = 0
              · have hn0 : n = 0 := by
                  rcases Nat.mul_eq_zero.1 h0 with h | h
                  · exact h
                  · omega
                subst hn0
                simp only [Nat.zero_mul, if_true, Sem.run_pure, Result.andThen_ok]
                simp only [List.replicate_zero, List.flatten_nil] at hf
                have e0 : (Array.map (fun x => (#[] : Array Value)[x % (#[] : Array Value).size]!) (Array.range 0)) = ([] : List Value).toArray := by simp
                simp only [e0, hf, newRow, Sem.run_bind, run_newObj, Result.andThen_ok, Sem.run_pure]
              · rw [if_neg h0]
                have hfl := flat_get n z' (by omega)
                have hzz : z'.length = sz := by omega
                rw [hzz] at hfl
                simp only [Sem.run_bind, hzr, Result.andThen_ok, Sem.run_pure, hz', hfl, hf, newRow, run_newObj]
            · rw [hH.next]
              refine .sl _ _ _ _ _ _ _ (by simp [Loc.add]) (by simp [Loc.add]) (Nat.le_refl _) (fun _ _ => by simp [Loc.add]) (fun h => by cases h) (fun _ _ _ _ => ?_)
              simp [Loc.add, hll]
          · cases h
        · cases h
      · cases h
    · cases h
  · cases h

theorem qconcrete_spec {t : TypeId} (h : qconcrete P t = true) (x : Value) : (Instr.makeInterface t x).run P w = .ok (.iface t x) w := by
  unfold qconcrete at h
  unfold Instr.makeInterface
  cases hu : P.underlying t with
  | none => simp [hu] at h
  | some d =>
    simp only [Sem.run_bind, run_underlying hu, Result.andThen_ok]
    cases d <;> simp_all

theorem evs_VRs {ev : Operand → V} {cev : Operand → Value} (hE : ∀ x, VR S (ev x) (cev x)) : ∀ l : List Operand, VRs S (l.map ev) (l.map cev)
  | [] => .nil
  | x :: l => .cons _ _ _ _ (hE x) (evs_VRs hE l)
theorem evo_VRo {ev : Operand → V} {cev : Operand → Value} (hE : ∀ x, VR S (ev x) (cev x)) (x : Option Operand) : VRo S (evo ev x) (x.map cev) := by
  cases x with
  | none => trivial
  | some x => exact hE x

/-- WHAT AN OPERATION DOES IN THE MODEL. -/
def OpDoes (C : Ctx) (P : Program) (S : Loc) (H' : AH) (w : World) (v : V) (s : Sem Next) : Prop :=
  ∃ S' cv w', (s.run P w = .ok (.value cv) w' ∨ (s.run P w = .ok .skip w' ∧ cv = undef)) ∧ S.le S' ∧ VR S' v cv ∧ HR C S' H' w'

theorem OpDoes.val {s : Sem Value} {v : V} (hH : HR C S H w) (h : ∃ cv, s.run P w = .ok cv w ∧ VR S v cv) : OpDoes C P S H w v (do pure (.value (← s))) := by
  obtain ⟨cv, hr, hv⟩ := h
  exact ⟨S, cv, w, .inl (by simp [hr]), Loc.le.refl S, hv, hH⟩
theorem OpDoes.valP {s : Sem Value} {v : V} (hH : HR C S H w) (h : ∃ cv, (∀ w, s.run P w = .ok cv w) ∧ VR S v cv) : OpDoes C P S H w v (do pure (.value (← s))) := by
  obtain ⟨cv, hr, hv⟩ := h
  exact OpDoes.val hH ⟨cv, hr w, hv⟩
theorem OpDoes.valW {s : Sem Value} {v : V} {H' : AH} (h : ∃ S' cv w', s.run P w = .ok cv w' ∧ S.le S' ∧ VR S' v cv ∧ HR C S' H' w') : OpDoes C P S H' w v (do pure (.value (← s))) := by
  obtain ⟨S', cv, w', hr, hS, hv, hH⟩ := h
  exact ⟨S', cv, w', .inl (by simp [hr]), hS, hv, hH⟩
theorem OpDoes.unit {s : Sem Unit} {H' : AH} (h : ∃ w', s.run P w = .ok () w' ∧ HR C S H' w') : OpDoes C P S H' w .un (do s; pure .skip) := by
  obtain ⟨w', hr, hH⟩ := h
  exact ⟨S, undef, w', .inr ⟨by simp [hr], rfl⟩, Loc.le.refl S, .un _, hH⟩

theorem sim_newv {v : V} {cv : Value} {l : List V} (hH : HR C S H w) (hv : VR S v cv) (hl : v.cells = some l) (t : TypeId) (g : Nat) (hg : ∀ u, g % gK = u + 1 → t = u) :
    ∃ S' cp w', (newVar t cv).run P w = .ok cp w' ∧ S.le S' ∧ VR S' (.p (some (H.next, g, 0))) (.pointer (some cp)) ∧ HR C S' (H.new (.cells l g false 0)) w' := by
  obtain ⟨l', hc, hvs, h1⟩ := V.cells_VR hv hl
  have hnw := sim_newg (C := C) (S := S) (H := H) (w := w) hH hvs h1 t 0 [] g hg
  simp only [List.append_nil] at hnw
  refine ⟨_, ⟨w.heap.size, 0, none⟩, _, ?_, Loc.le_add .., ?_, hnw⟩
  · unfold newVar newRow
    simp [hc]
  · rw [hH.next]
    exact .p _ _ _ _ (by simp [Loc.add]) (by simp [Loc.add]) (fun _ => by simp [Loc.add])

theorem sim_bin2 (hH : HR C S H w) {op : BinOp} {t : TypeId} {x y v : V} {cx cy : Value} (hx : VR S x cx) (hy : VR S y cy) (h : abin2 P H op t x y = some v) (ox oy : Operand) :
    ∃ cv, (∀ w, (do eqGuard op t ox oy cx cy; binOp op t cx cy : Sem Value).run P w = .ok cv w) ∧ VR S v cv := by
  unfold abin2 at h
  split at h
  · unfold apeq at h
    split at h
    · rename_i e id g off q hu e1 e2
      injection e1 with e1; injection e1 with e1
      injection e2 with e2; injection e2 with e2
      subst e1 e2
      split at h
      · rename_i c g' ro esz n hg hn
        split at h
        · rename_i hc
          obtain ⟨h1, h2, h3⟩ := hc
          subst h1 h2
          obtain ⟨j, hj, hjs⟩ := qsize_info hn
          cases hx with
          | p _ _ _ ad k1 k2 k3 =>
            cases hy with
            | p _ _ _ bd m1 m2 m3 =>
              have ho := hH.obj id _ hg
              have q1 := k3 ho.1
              have q2 := m3 ho.1
              subst q1 q2
              split at h
              · cases h
                exact ⟨.bool true, fun w => by simp [eqGuard, run_eql_ptr_same w _ hu hj], .b _⟩
              · cases h
                exact ⟨.bool false, fun w => by simp [eqGuard, Lib.run_neq_ptr_same w _ hu hj], .b _⟩
              · cases h
        · cases h
      · cases h
    · cases h
  · exact sim_bin hx hy h ox oy
theorem sim_unsafeData (hH : HR C S H w) {x v : V} {cx : Value} (ts : Array TypeId) (ty : TypeId) (hx : VR S x cx) (h : aunsafeData x = some v) :
    ∃ cv, (Builtin.unsafeSliceData_ ts ty #[cx]).run P w = .ok cv w ∧ VR S v cv := by
  unfold aunsafeData at h
  split at h
  · cases h
    cases hx
    exact ⟨_, rfl, .pnil⟩
  · rename_i q len clip
    split at h
    · cases h
    · rename_i h0
      cases h
      cases hx with
      | sl id g off _ cap _ ad h1 h2 hl h3 h4 h5 =>
        exact ⟨_, Lib.run_unsafeSliceData_row w ts ty ad len cap (by omega), .p id g off ad h1 h2 fun e => h3 e (by omega)⟩
  · cases h
theorem modify_set {α : Type} (a : Array α) (i : Nat) (f : α → α) (x : α) (h : a[i]? = some x) : a.modify i f = a.setIfInBounds i (f x) := by
  apply Array.ext_getElem?
  intro j
  simp only [Array.getElem?_modify, Array.getElem?_setIfInBounds]
  by_cases e : i = j
  · subst e
    obtain ⟨hl, hx⟩ := Array.getElem?_eq_some_iff.1 h
    simp [hl, hx]
  · simp [e]
theorem sim_unsafeString (hH : HR C S H w) {pt it ty : TypeId} {p n v : V} {cp cn : Value} {H' : AH} (hp : VR S p cp) (hn : VR S n cn) (h : aunsafeString P H pt p n = some (v, H')) :
    ∃ S' cv w', (Builtin.unsafeString_ #[pt, it] ty #[cp, cn]).run P w = .ok cv w' ∧ S.le S' ∧ VR S' v cv ∧ HR C S' H' w' := by
  unfold aunsafeString at h
  split at h
  · rename_i e id g k hu
    split at h
    · rename_i c g' esz hg
      split at h
      · rename_i hc
        obtain ⟨h1, h2, h3, h4, h5, h6⟩ := hc
        subst h1
        simp only [Option.map_eq_some_iff, Prod.mk.injEq] at h
        obtain ⟨l, hl, rfl, rfl⟩ := h
        have hb := unbytesS_spec hl
        have hk : k.toNat ≤ c.length := by omega
        have hll : l.length = k.toNat := by
          have := congrArg List.length hb
          simp [bytesV] at this
          omega
        cases hp with
        | p _ _ _ ad k1 k2 k3 =>
          cases hn
          have ho := hH.obj id _ hg
          have q1 := k3 ho.1
          subst q1
          have hown := ho.2.2.2.2 rfl
          obtain ⟨cs, el, fr, hh, hsz, hbl, hf, hty⟩ := ho.2.2.2.1 hown
          obtain ⟨hel, hbase⟩ := hty e (by rw [← ho.1]; exact h2)
          subst hel
          obtain ⟨cs', hv, hcl, hcell, _⟩ := ho.part 0 k.toNat (by omega)
          rw [List.drop_zero, hb, show bytesV l = (l.map fun b => (b.toNat : Int)).map (V.i .u8) by simp [bytesV]] at hv
          have hcs := VRs_ints hv
          have hshape : w.shape? (S.blk id) = some (el, cs.size) := by simp [World.shape?, hh]
          have hrow := Lib.run_unsafeString_row (P := P) w pt it ty el hu h3 (S.blk id) cs.size hshape l (by intro h0; rw [h0] at hll; simp at hll; omega) (by omega) (by omega) (fun j x hx => by
            rw [← show S.base id + 0 = 0 by omega]
            refine hcell j _ ?_
            rw [hcs]; simp [hx])
          have e1 : ({ block := S.blk id, off := S.base id + 0 } : Addr) = ⟨S.blk id, 0, none⟩ := by rw [hbase]
          have e2 : (k : Int) = (l.length : Int) := by omega
          rw [e1, e2]
          have hlt : S.blk id < w.heap.size := (Array.getElem?_eq_some_iff.1 hh).1
          refine ⟨S, _, _, hrow, Loc.le.refl S, .s _ _ (by simp), ?_⟩
          have hfr : ∃ fr', w.freeze ⟨S.blk id, 0, none⟩ l.length = { w with heap := w.heap.setIfInBounds (S.blk id) (.cells cs el fr') } := by
            unfold World.freeze
            rw [if_neg (by omega)]
            exact ⟨_, by rw [modify_set _ _ _ _ hh]⟩
          obtain ⟨fr', hfr⟩ := hfr
          rw [hfr]
          refine hH.write id k1 hown _ _ ⟨ho.1, ho.2.1, fun j v hj => ?_, fun _ => ⟨cs, el, fr', by simp [hlt], hsz, hbl, (fun h => by cases h), hty⟩, fun h => by cases h⟩
          obtain ⟨cv, hcv, hvv⟩ := ho.2.2.1 j v hj
          refine ⟨cv, ?_, hvv⟩
          rw [show w.cell? ⟨S.blk id, S.base id + j, none⟩ = cs[S.base id + j]? by simp [World.cell?, hh]] at hcv
          rw [← hcv]
          simp [World.cell?, hlt]
      · cases h
    · cases h
  · rename_i hu
    split at h
    · rename_i hk
      cases h
      subst hk
      cases hp; cases hn
      exact ⟨S, _, w, Lib.run_unsafeString_none w pt it ty none, Loc.le.refl S, .s _ _ rfl, hH⟩
    · cases h
  · cases h

theorem sim_aop {o : Oper} {ev : Operand → V} {cev : Operand → Value} {v : V} {H' : AH} (hH : HR C S H w) (hE : ∀ x, VR S (ev x) (cev x)) (h : aop P o.op ev H = some (v, H')) :
    OpDoes C P S H' w v (execOp cev o) := by
  have mapH : ∀ {x : Option V}, x.map (·, H) = some (v, H') → x = some v ∧ H' = H := by
    intro x hx
    cases x with
    | none => simp at hx
    | some y => simp at hx; exact ⟨by rw [hx.1], hx.2.symm⟩
  have mapU : ∀ {x : Option AH}, x.map ((.un : V), ·) = some (v, H') → x = some H' ∧ v = .un := by
    intro x hx
    cases x with
    | none => simp at hx
    | some y => simp at hx; exact ⟨by rw [hx.2], hx.1.symm⟩
  unfold aop at h
  unfold execOp
  split at h
  · rename_i x hop
    cases h
    rw [hop]
    exact ⟨S, cev x, w, .inl (by simp), Loc.le.refl S, hE x, hH⟩
  · rename_i x hop
    cases h
    rw [hop]
    exact ⟨S, cev x, w, .inl (by simp), Loc.le.refl S, hE x, hH⟩
  · rename_i c a b hop
    rw [hop]
    have hc := hE c
    split at h <;> cases h
    · rename_i hcb
      rw [hcb] at hc
      generalize hcx : cev c = cc at hc
      cases hc
      exact ⟨S, cev a, w, .inl (by simp [asBool, hcx]), Loc.le.refl S, hE a, hH⟩
    · rename_i hcb
      rw [hcb] at hc
      generalize hcx : cev c = cc at hc
      cases hc
      exact ⟨S, cev b, w, .inl (by simp [asBool, hcx]), Loc.le.refl S, hE b, hH⟩
  · rename_i t hop
    rw [hop]
    split at h
    · rename_i z hz
      cases hzl : z.cells with
      | none => simp [hzl] at h
      | some l =>
        simp only [hzl, Option.map_some, Option.some.injEq, Prod.mk.injEq] at h
        obtain ⟨rfl, rfl⟩ := h
        obtain ⟨zc, hzr, rfl⟩ := run_zeroValue w hz
        obtain ⟨S', cp, w', hr, hS, hv, hH'⟩ := sim_newv (P := P) hH (absV_VR S zc) hzl t (qgen P t) (fun u h => qgen_spec h)
        refine OpDoes.valW ⟨S', .pointer (some cp), w', ?_, hS, hv, hH'⟩
        unfold Instr.alloc
        simp [hzr, hr]
    · cases h
  · rename_i t x hop
    rw [hop]
    cases hzl : (ev x).cells with
    | none => simp [hzl] at h
    | some l =>
      simp only [hzl, Option.map_some, Option.some.injEq, Prod.mk.injEq] at h
      obtain ⟨rfl, rfl⟩ := h
      obtain ⟨S', cp, w', hr, hS, hv, hH'⟩ := sim_newv (P := P) hH (hE x) hzl t 0 (fun u h => by simp at h)
      refine OpDoes.valW ⟨S', .pointer (some cp), w', ?_, hS, hv, hH'⟩
      unfold Instr.box
      simp [hr]
  · rename_i t parts hop
    rw [hop]
    obtain ⟨hb, rfl⟩ := mapH h
    refine OpDoes.valP hH (sim_build ?_ ?_ hb)
    · simp
    · simpa [Function.comp_def] using evs_VRs hE (parts.toList.map (·.2))
  · rename_i t n parts hop
    rw [hop]
    refine OpDoes.valW (sim_buildSlice hH ?_ ?_ h)
    · simp
    · simpa [Function.comp_def] using evs_VRs hE (parts.toList.map (·.2))
  · rename_i t a hop
    rw [hop]
    obtain ⟨hb, rfl⟩ := mapH h
    exact OpDoes.val hH (sim_load hH (hE a) hb)
  · rename_i t a x hop
    rw [hop]
    obtain ⟨hb, rfl⟩ := mapU h
    exact OpDoes.unit (sim_store hH (hE a) (hE x) hb)
  · rename_i x hop
    rw [hop]
    have hx := hE x
    split at h <;> cases h
    · rename_i q hq
      rw [hq] at hx
      dsimp only
      generalize cev x = cx at hx
      cases hx with
      | p id g off a h1 h2 h3 => exact ⟨S, _, w, .inl (by simp), Loc.le.refl S, .p id g off a h1 h2 h3, hH⟩
    · rename_i t u hq
      rw [hq] at hx
      dsimp only
      generalize cev x = cx at hx
      cases hx with
      | ifc _ _ c hc => exact ⟨S, _, w, .inl (by simp), Loc.le.refl S, .ifc t u c hc, hH⟩
    · rename_i f a b hq
      rw [hq] at hx
      dsimp only
      generalize cev x = cx at hx
      cases hx with
      | fn _ _ _ a' b' h1 h2 => exact ⟨S, _, w, .inl (by simp), Loc.le.refl S, .fn _ _ _ a' b' h1 h2, hH⟩
  · rename_i op t x y t2 hop
    rw [hop]
    obtain ⟨hb, rfl⟩ := mapH h
    exact OpDoes.valP hH (sim_bin2 hH (hE x) (hE y) hb x y)
  · rename_i op t x hop
    rw [hop]
    obtain ⟨hb, rfl⟩ := mapH h
    exact OpDoes.valP hH (sim_unary (hE x) hb)
  · rename_i src dst x hop
    rw [hop]
    exact OpDoes.valW (sim_convert hH (hE x) h)
  · rename_i t x hop
    rw [hop]
    split at h <;> cases h
    rename_i hq
    exact OpDoes.val hH ⟨.iface t (cev x), qconcrete_spec hq _, .ifc _ _ _ (hE x)⟩
  · rename_i fn first caps hop
    rw [hop]
    cases h
    refine OpDoes.val hH ⟨.func fn (first.map cev) (caps.map cev), rfl, ?_⟩
    have := VR.fn (S := S) fn (evs ev first) (evs ev caps) (first.toList.map cev) (caps.toList.map cev) (evs_VRs hE _) (evs_VRs hE _)
    have e : ∀ xs : Array Operand, (xs.toList.map cev).toArray = xs.map cev := fun xs => by apply Array.ext'; simp
    rw [e, e] at this
    exact this
  · rename_i t hop
    rw [hop]
    cases h
    refine OpDoes.valW ⟨S.add w.heap.size 0 0 0, .map (some w.heap.size), { w with heap := w.heap.push (.map #[] 0) }, ?_, Loc.le_add .., ?_, ?_⟩
    · simp only [Instr.makeMap]; rfl
    · rw [hH.next]; exact .m _ _ (by simp [Loc.add]) (fun _ => by simp [Loc.add])
    · exact hH.new _ _ _ _ ⟨by simp [Loc.add], by simp [Loc.add], #[], by simp [Loc.add], by simpa using VRs.nil, by simpa using VRs.nil, by simp⟩
  · rename_i t x lo hi mx hop
    rw [hop]
    obtain ⟨hb, rfl⟩ := mapH h
    exact OpDoes.val hH (sim_slice hH (hE x) (evo_VRo hE lo) (evo_VRo hE hi) (evo_VRo hE mx) hb)
  · rename_i t x f hop
    rw [hop]
    obtain ⟨hb, rfl⟩ := mapH h
    exact OpDoes.valP hH (sim_fieldAddr (hE x) hb)
  · rename_i t x f hop
    rw [hop]
    obtain ⟨hb, rfl⟩ := mapH h
    exact OpDoes.valP hH (sim_field (hE x) hb)
  · rename_i t x i hop
    rw [hop]
    obtain ⟨hb, rfl⟩ := mapH h
    exact OpDoes.valP hH (sim_indexAddr (hE x) (hE i) hb)
  · rename_i t x i hop
    rw [hop]
    obtain ⟨hb, rfl⟩ := mapH h
    exact OpDoes.valP hH (sim_index (hE x) (hE i) hb)
  · rename_i t x k ok hop
    rw [hop]
    obtain ⟨hb, rfl⟩ := mapH h
    exact OpDoes.val hH (sim_lookup hH (hE x) (hE k) hb)
  · rename_i t m k x hop
    rw [hop]
    obtain ⟨hb, rfl⟩ := mapU h
    exact OpDoes.unit (sim_mapUpdate hH (hE m) (hE k) (hE x) hb)
  · rename_i t m k x hop
    rw [hop]
    obtain ⟨hb, rfl⟩ := mapU h
    exact OpDoes.unit (sim_mapUpdate hH (hE m) (hE k) (hE x) hb)
  · rename_i t m k hop
    rw [hop]
    obtain ⟨w', cv, hr, hv, hH'⟩ := sim_mapEntry hH (hE m) (hE k) h
    exact OpDoes.valW ⟨S, cv, w', hr, Loc.le.refl S, hv, hH'⟩
  · rename_i t m b x hop
    rw [hop]
    obtain ⟨hb, rfl⟩ := mapU h
    exact OpDoes.unit (sim_entryStore hH (hE m) (hE b) (hE x) hb)
  · rename_i x t0 t ok hop
    rw [hop]
    obtain ⟨hb, rfl⟩ := mapH h
    exact OpDoes.val hH (sim_typeAssert (hE x) hb)
  · rename_i t x hop
    rw [hop]
    exact OpDoes.valW (sim_range hH (hE x) h)
  · rename_i x hop
    rw [hop]
    obtain ⟨hb, rfl⟩ := mapH h
    exact OpDoes.val hH (sim_entry hH (hE x) hb)
  · rename_i x hop
    rw [hop]
    exact OpDoes.valW (sim_nextS hH (hE x) h)
  · rename_i x i hop
    rw [hop]
    have hx := hE x
    split at h
    · rename_i l hl
      obtain ⟨hb, rfl⟩ := mapH h
      rw [hl] at hx
      refine OpDoes.val hH ?_
      generalize cev x = cx at hx
      cases hx with
      | tup _ l' hv =>
        obtain ⟨c, hc, hcv⟩ := hv.get i v hb
        exact ⟨c, by simp [Instr.extract, hc], hcv⟩
    · cases h
  · rename_i b args argTypes hop
    rw [hop]
    have hargs := evs_VRs hE args.toList
    dsimp only
    simp only [resolve, pure_bind, invoke]
    have e : (args.map cev).toList = args.toList.map cev := by simp
    generalize args.map cev = cargs at e ⊢
    obtain ⟨cargs⟩ := cargs
    simp only at e
    subst e
    generalize args.toList.map ev = avs at h hargs
    generalize args.toList.map cev = acs at h hargs ⊢
    obtain ⟨argTypes⟩ := argTypes
    simp only at h
    split at h
    · cases hargs with
      | cons _ c _ _ hc ht =>
        cases ht
        obtain ⟨hb, rfl⟩ := mapH h
        exact OpDoes.val hH (sim_len hH hc hb)
    · cases hargs with
      | cons _ c _ _ hc ht =>
        cases ht with
        | cons _ d _ _ hd ht =>
          cases ht
          exact OpDoes.valW (sim_append hH hc hd h)
    · cases hargs with
      | cons _ c _ l' hc ht =>
        obtain ⟨hb, rfl⟩ := mapH h
        exact OpDoes.val hH (sim_fold sim_min2 _ l' _ c v ht hc hb)
    · cases hargs with
      | cons _ c _ l' hc ht =>
        obtain ⟨hb, rfl⟩ := mapH h
        exact OpDoes.val hH (sim_fold sim_max2 _ l' _ c v ht hc hb)
    · cases hargs with
      | cons _ c _ _ hc ht =>
        cases ht with
        | cons _ d _ _ hd ht =>
          cases ht
          obtain ⟨hb, rfl⟩ := mapU h
          obtain ⟨w', hr, hH'⟩ := sim_delete (ty := o.type) hH hc hd hb
          exact OpDoes.valW ⟨S, _, w', hr, Loc.le.refl S, .un _, hH'⟩
    · cases hargs with
      | cons _ c _ _ hc ht =>
        cases ht
        obtain ⟨hb, rfl⟩ := mapH h
        exact OpDoes.val hH (sim_unsafeData hH _ o.type hc hb)
    · cases hargs with
      | cons _ c _ _ hc ht =>
        cases ht with
        | cons _ d _ _ hd ht =>
          cases ht
          exact OpDoes.valW (sim_unsafeString hH hc hd h)
    · cases h
  · cases h
end
end Go.Abs

set_option linter.unusedVariables false
set_option linter.unusedSimpArgs false
namespace Go.Abs
open Go Go.RowKit

mutual
/-- It names no object from 'n' on. -/
def V.lt (n : Nat) : V → Bool
  | .p (some (id, _, _)) => decide (id < n)
  | .sl (some (id, _, _)) _ _ => decide (id < n)
  | .m (some id) => decide (id < n)
  | .yl id => decide (id < n)
  | .fn _ fs cs => V.lts n fs && V.lts n cs
  | .ifc _ v => V.lt n v
  | .agg l => V.lts n l
  | .tup l => V.lts n l
  | _ => true
def V.lts (n : Nat) : List V → Bool
  | [] => true
  | v :: l => V.lt n v && V.lts n l
end
@[simp] theorem V.lts_nil (n : Nat) : V.lts n [] = true := rfl
@[simp] theorem V.lts_cons (n : Nat) (v : V) (l : List V) : V.lts n (v :: l) = (V.lt n v && V.lts n l) := rfl
@[simp] theorem V.lt_i (n : Nat) (k : IntKind) (x : Int) : V.lt n (.i k x) = true := rfl
@[simp] theorem V.lt_b (n : Nat) (x : Bool) : V.lt n (.b x) = true := rfl
@[simp] theorem V.lt_s (n : Nat) (x : List UInt8) : V.lt n (.s x) = true := rfl
@[simp] theorem V.lt_un (n : Nat) : V.lt n .un = true := rfl
@[simp] theorem V.lt_nf (n : Nat) : V.lt n .nf = true := rfl
@[simp] theorem V.lt_nif (n : Nat) : V.lt n .nif = true := rfl
@[simp] theorem V.lt_p0 (n : Nat) : V.lt n (.p none) = true := rfl
@[simp] theorem V.lt_p (n id g off : Nat) : V.lt n (.p (some (id, g, off))) = decide (id < n) := rfl
@[simp] theorem V.lt_sl0 (n len : Nat) (c : Bool) : V.lt n (.sl none len c) = true := rfl
@[simp] theorem V.lt_sl (n id g off len : Nat) (c : Bool) : V.lt n (.sl (some (id, g, off)) len c) = decide (id < n) := rfl
@[simp] theorem V.lt_m0 (n : Nat) : V.lt n (.m none) = true := rfl
@[simp] theorem V.lt_m (n id : Nat) : V.lt n (.m (some id)) = decide (id < n) := rfl
@[simp] theorem V.lt_fn (n : Nat) (f : Fn) (fs cs : List V) : V.lt n (.fn f fs cs) = (V.lts n fs && V.lts n cs) := rfl
@[simp] theorem V.lt_ifc (n : Nat) (t : TypeId) (v : V) : V.lt n (.ifc t v) = V.lt n v := rfl
@[simp] theorem V.lt_agg (n : Nat) (l : List V) : V.lt n (.agg l) = V.lts n l := rfl
@[simp] theorem V.lt_tup (n : Nat) (l : List V) : V.lt n (.tup l) = V.lts n l := rfl
theorem V.lts_iff {n : Nat} : ∀ {l : List V}, V.lts n l = true ↔ ∀ v ∈ l, V.lt n v = true
  | [] => by simp
  | v :: l => by simp [V.lts_iff (l := l)]
theorem V.lts_append {n : Nat} {l k : List V} : V.lts n (l ++ k) = (V.lts n l && V.lts n k) := by
  induction l with
  | nil => simp
  | cons v l ih => simp [ih, Bool.and_assoc]
mutual
theorem V.lt_mono {n m : Nat} (h : n ≤ m) {v : V} (hv : V.lt n v = true) : V.lt m v = true := by
  cases v with
  | p x => rcases x with _ | ⟨id, g, off⟩ <;> simp_all; omega
  | sl x len c => rcases x with _ | ⟨id, g, off⟩ <;> simp_all; omega
  | m x => rcases x with _ | id <;> simp_all; omega
  | yl id => simp only [V.lt, decide_eq_true_eq] at *; omega
  | fn f a b => simp only [V.lt_fn, Bool.and_eq_true] at *; exact ⟨V.lts_mono h hv.1, V.lts_mono h hv.2⟩
  | ifc t v => exact V.lt_mono h (v := v) hv
  | agg l => exact V.lts_mono h (l := l) hv
  | tup l => exact V.lts_mono h (l := l) hv
  | _ => rfl
theorem V.lts_mono {n m : Nat} (h : n ≤ m) {l : List V} (hv : V.lts n l = true) : V.lts m l = true := by
  cases l with
  | nil => rfl
  | cons v l => simp only [V.lts_cons, Bool.and_eq_true] at *; exact ⟨V.lt_mono h hv.1, V.lts_mono h hv.2⟩
end
mutual
theorem VR.lt {S : Loc} {v : V} {c : Value} (h : VR S v c) : V.lt S.next v = true := by
  cases h with
  | p id g off a h1 h2 h3 => simpa using h1
  | sl id g off len cap clip a h1 h2 hl h3 h4 h5 => simpa using h1
  | m id r h1 h2 => simpa using h1
  | yl id r h1 h2 => simpa [V.lt] using h1
  | fn f a b a' b' h1 h2 => simp [VRs.lt h1, VRs.lt h2]
  | ifc t v c h => simpa using VR.lt h
  | agg l l' h h2 => exact VRs.lt h
  | tup l l' h => exact VRs.lt h
  | _ => rfl
theorem VRs.lt {S : Loc} {l : List V} {c : List Value} (h : VRs S l c) : V.lts S.next l = true := by
  cases h with
  | nil => rfl
  | cons v c l l' h t => simp [VR.lt h, VRs.lt t]
end
/-- The first 'n' objects. -/
def Loc.upto (S : Loc) (n : Nat) : Loc := { S with next := n }
mutual
theorem VR.upto {S : Loc} {v : V} {c : Value} (h : VR S v c) {n : Nat} (hv : V.lt n v = true) : VR (S.upto n) v c := by
  cases h with
  | un => exact .un _
  | b x => exact .b x
  | i k n => exact .i k n
  | s l c h => exact .s l c h
  | pnil => exact .pnil
  | p id g off a h1 h2 h3 => exact .p id g off a (show id < n by simpa using hv) h2 h3
  | slnil c => exact .slnil c
  | sl id g off len cap clip a h1 h2 hl h3 h4 h5 => exact .sl id g off len cap clip a (show id < n by simpa using hv) h2 hl h3 h4 h5
  | mnil => exact .mnil
  | m id r h1 h2 => exact .m id r (show id < n by simpa using hv) h2
  | fn f a b a' b' h1 h2 =>
    simp only [V.lt_fn, Bool.and_eq_true] at hv
    exact .fn f a b a' b' (VRs.upto h1 hv.1) (VRs.upto h2 hv.2)
  | nf => exact .nf
  | ifc t v c h => exact .ifc t v c (VR.upto h hv)
  | nif => exact .nif
  | agg l l' h h2 => exact .agg l l' (VRs.upto h hv) h2
  | tup l l' h => exact .tup l l' (VRs.upto h hv)
  | yl id r h1 h2 => exact .yl id r (show id < n by simpa [V.lt] using hv) h2
theorem VRs.upto {S : Loc} {l : List V} {c : List Value} (h : VRs S l c) {n : Nat} (hv : V.lts n l = true) : VRs (S.upto n) l c := by
  cases h with
  | nil => exact .nil
  | cons v c l l' h t =>
    simp only [V.lts_cons, Bool.and_eq_true] at hv
    exact .cons v c l l' (VR.upto h hv.1) (VRs.upto t hv.2)
end
/-- The objects name none from 'n' on. -/
def O.lt (n : Nat) : O → Prop
  | .cells c _ _ _ => V.lts n c = true
  | .map es _ => V.lts n (es.map (·.1)) = true ∧ V.lts n (es.map (·.2.1)) = true
  | .strIter _ _ => True
  | .mapIter m _ _ _ => V.lt n (.m m) = true
  | .loop _ _ _ ρ _ _ _ => ∀ t, V.lt n (ρ.get t) = true
def AH.wf (H : AH) : Prop := ∀ id o, H.get id = some o → O.lt H.next o
theorem OR.lt {S : Loc} {w : World} {id : Nat} {o : O} (h : OR S w id o) : O.lt S.next o := by
  cases o with
  | cells c g ro esz =>
    refine V.lts_iff.2 fun v hv => ?_
    obtain ⟨j, hj⟩ := List.getElem?_of_mem hv
    obtain ⟨cv, _, hvr, _⟩ := h.2.2.1 j v hj
    exact hvr.lt
  | map es clock =>
    obtain ⟨_, _, ces, _, h1, h2, _⟩ := h
    exact ⟨h1.lt, h2.lt⟩
  | strIter s pos => trivial
  | mapIter m a b c =>
    obtain ⟨_, _, _, cm, h1, _⟩ := h
    exact h1.lt
  | loop tag st pe ρ ps asg body =>
    obtain ⟨_, _, _, r, _, _, _, _, _, _, _, h1⟩ := h
    exact fun t => (h1 t).lt
theorem HR.wf {C : Ctx} {S : Loc} {H : AH} {w : World} (h : HR C S H w) : H.wf := fun id o ho => by
  rw [h.next]; exact (h.obj id o ho).lt
theorem OR.upto {S : Loc} {w : World} {id : Nat} {o : O} (h : OR S w id o) {n : Nat} (ho : O.lt n o) : OR (S.upto n) w id o := by
  cases o with
  | cells c g ro esz =>
    obtain ⟨h1, h2, h3, h4, h5⟩ := h
    refine ⟨h1, h2, fun j v hj => ?_, h4, h5⟩
    obtain ⟨cv, q1, q2, q3⟩ := h3 j v hj
    exact ⟨cv, q1, q2.upto (V.lts_iff.1 ho v (List.mem_of_getElem? hj)), q3⟩
  | map es clock =>
    obtain ⟨h1, h2, ces, h3, h4, h5, h6⟩ := h
    exact ⟨h1, h2, ces, h3, h4.upto ho.1, h5.upto ho.2, h6⟩
  | strIter s pos => exact h
  | mapIter m a b c =>
    obtain ⟨h1, h2, h3, cm, h4, h5⟩ := h
    exact ⟨h1, h2, h3, cm, h4.upto ho, h5⟩
  | loop tag st pe ρ ps asg body =>
    obtain ⟨h1, h2, h0, r, h3, h4, h5, h6, h7, h8, h9, hr⟩ := h
    exact ⟨h1, h2, h0, r, h3, h4, h5, h6, h7, h8, h9, fun t => (hr t).upto (ho t)⟩
/-- What is left where the newest objects are forgotten. -/
theorem HR.upto {C : Ctx} {S : Loc} {H H' : AH} {w : World} (h : HR C S H' w) (hn : H.next ≤ H'.next) (hg : ∀ j, j < H.next → H.get j = H'.get j) (hw : H.wf) : HR C (S.upto H.next) H w where
  next := rfl
  obj id o ho := by
    have hlt := AH.get_lt ho
    exact (h.obj id o (by rw [← hg id hlt]; exact ho)).upto (hw id o ho)
  some id hi := by
    have hi' : id < H.next := hi
    rw [hg id hi']
    exact h.some id (by rw [← h.next]; omega)
  lt id hi ho := by
    have hi' : id < H.next := hi
    exact h.lt id (by rw [← h.next]; omega) ho
  foreign id hi ho := by
    have hi' : id < H.next := hi
    rw [hg id hi']
    exact (h.foreign id (by rw [← h.next]; omega) ho).imp (fun k => ⟨k.1, fun id' hi2 ho' => by
      have hi3 : id' < H.next := hi2
      exact k.2 id' (by rw [← h.next]; omega) ho'⟩) fun k => k
  sep id id' hi hi' ho ho' hb := by
    have h1 : id < H.next := hi
    have h2 : id' < H.next := hi'
    exact h.sep id id' (by rw [← h.next]; omega) (by rw [← h.next]; omega) ho ho' hb
  below := h.below
  loose := h.loose
theorem Loc.le.upto {B S : Loc} (h : B.le S) {n : Nat} (hn : B.next ≤ n) : B.le (S.upto n) := ⟨hn, h.gen, h.blk, h.base, h.room, h.own, h.esz⟩
end Go.Abs
