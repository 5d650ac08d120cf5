/-
  Forgetting what nobody names any more.
-/
import Derived.Test.YtnfnkmodcjkabaaDoorAbsOps
set_option linter.unusedVariables false
set_option linter.unusedSimpArgs false
namespace Go.Abs
open Go Go.RowKit

mutual
/-- It names no object from 'n' on. -/
def V.lt (n : Nat) : V → Bool
  | .p (some (id, _, _)) => decide (id < n)
  | .sl (some (id, _, _)) _ _ => decide (id < n)
  | .m (some id) => decide (id < n)
  | .yl id => decide (id < n)
  | .fn _ fs cs => V.lts n fs && V.lts n cs
  | .ifc _ v => V.lt n v
  | .agg l => V.lts n l
  | .tup l => V.lts n l
  | _ => true
def V.lts (n : Nat) : List V → Bool
  | [] => true
  | v :: l => V.lt n v && V.lts n l
end
@[simp] theorem V.lts_nil (n : Nat) : V.lts n [] = true := rfl
@[simp] theorem V.lts_cons (n : Nat) (v : V) (l : List V) : V.lts n (v :: l) = (V.lt n v && V.lts n l) := rfl
@[simp] theorem V.lt_i (n : Nat) (k : IntKind) (x : Int) : V.lt n (.i k x) = true := rfl
@[simp] theorem V.lt_b (n : Nat) (x : Bool) : V.lt n (.b x) = true := rfl
@[simp] theorem V.lt_s (n : Nat) (x : List UInt8) : V.lt n (.s x) = true := rfl
@[simp] theorem V.lt_un (n : Nat) : V.lt n .un = true := rfl
@[simp] theorem V.lt_nf (n : Nat) : V.lt n .nf = true := rfl
@[simp] theorem V.lt_nif (n : Nat) : V.lt n .nif = true := rfl
@[simp] theorem V.lt_p0 (n : Nat) : V.lt n (.p none) = true := rfl
@[simp] theorem V.lt_p (n id g off : Nat) : V.lt n (.p (some (id, g, off))) = decide (id < n) := rfl
@[simp] theorem V.lt_sl0 (n len : Nat) (c : Bool) : V.lt n (.sl none len c) = true := rfl
@[simp] theorem V.lt_sl (n id g off len : Nat) (c : Bool) : V.lt n (.sl (some (id, g, off)) len c) = decide (id < n) := rfl
@[simp] theorem V.lt_m0 (n : Nat) : V.lt n (.m none) = true := rfl
@[simp] theorem V.lt_m (n id : Nat) : V.lt n (.m (some id)) = decide (id < n) := rfl
@[simp] theorem V.lt_fn (n : Nat) (f : Fn) (fs cs : List V) : V.lt n (.fn f fs cs) = (V.lts n fs && V.lts n cs) := rfl
@[simp] theorem V.lt_ifc (n : Nat) (t : TypeId) (v : V) : V.lt n (.ifc t v) = V.lt n v := rfl
@[simp] theorem V.lt_agg (n : Nat) (l : List V) : V.lt n (.agg l) = V.lts n l := rfl
@[simp] theorem V.lt_tup (n : Nat) (l : List V) : V.lt n (.tup l) = V.lts n l := rfl
theorem V.lts_iff {n : Nat} : ∀ {l : List V}, V.lts n l = true ↔ ∀ v ∈ l, V.lt n v = true
  | [] => by simp
  | v :: l => by simp [V.lts_iff (l := l)]
theorem V.lts_append {n : Nat} {l k : List V} : V.lts n (l ++ k) = (V.lts n l && V.lts n k) := by
  induction l with
  | nil => simp
  | cons v l ih => simp [ih, Bool.and_assoc]
mutual
theorem V.lt_mono {n m : Nat} (h : n ≤ m) {v : V} (hv : V.lt n v = true) : V.lt m v = true := by
  cases v with
  | p x => rcases x with _ | ⟨id, g, off⟩ <;> simp_all; omega
  | sl x len c => rcases x with _ | ⟨id, g, off⟩ <;> simp_all; omega
  | m x => rcases x with _ | id <;> simp_all; omega
  | yl id => simp only [V.lt, decide_eq_true_eq] at *; omega
  | fn f a b => simp only [V.lt_fn, Bool.and_eq_true] at *; exact ⟨V.lts_mono h hv.1, V.lts_mono h hv.2⟩
  | ifc t v => exact V.lt_mono h (v := v) hv
  | agg l => exact V.lts_mono h (l := l) hv
  | tup l => exact V.lts_mono h (l := l) hv
  | _ => rfl
theorem V.lts_mono {n m : Nat} (h : n ≤ m) {l : List V} (hv : V.lts n l = true) : V.lts m l = true := by
  cases l with
  | nil => rfl
  | cons v l => simp only [V.lts_cons, Bool.and_eq_true] at *; exact ⟨V.lt_mono h hv.1, V.lts_mono h hv.2⟩
end
mutual
theorem VR.lt {S : Loc} {v : V} {c : Value} (h : VR S v c) : V.lt S.next v = true := by
  cases h with
  | p id g off a h1 h2 h3 => simpa using h1
  | sl id g off len cap clip a h1 h2 hl h3 h4 h5 => simpa using h1
  | m id r h1 h2 => simpa using h1
  | yl id r h1 h2 => simpa [V.lt] using h1
  | fn f a b a' b' h1 h2 => simp [VRs.lt h1, VRs.lt h2]
  | ifc t v c h => simpa using VR.lt h
  | agg l l' h h2 => exact VRs.lt h
  | tup l l' h => exact VRs.lt h
  | _ => rfl
theorem VRs.lt {S : Loc} {l : List V} {c : List Value} (h : VRs S l c) : V.lts S.next l = true := by
  cases h with
  | nil => rfl
  | cons v c l l' h t => simp [VR.lt h, VRs.lt t]
end
/-- The first 'n' objects. -/
def Loc.upto (S : Loc) (n : Nat) : Loc := { S with next := n }
mutual
theorem VR.upto {S : Loc} {v : V} {c : Value} (h : VR S v c) {n : Nat} (hv : V.lt n v = true) : VR (S.upto n) v c := by
  cases h with
  | un => exact .un _
  | b x => exact .b x
  | i k n => exact .i k n
  | s l c h => exact .s l c h
  | pnil => exact .pnil
  | p id g off a h1 h2 h3 => exact .p id g off a (show id < n by simpa using hv) h2 h3
  | slnil c => exact .slnil c
  | sl id g off len cap clip a h1 h2 hl h3 h4 h5 => exact .sl id g off len cap clip a (show id < n by simpa using hv) h2 hl h3 h4 h5
  | mnil => exact .mnil
  | m id r h1 h2 => exact .m id r (show id < n by simpa using hv) h2
  | fn f a b a' b' h1 h2 =>
    simp only [V.lt_fn, Bool.and_eq_true] at hv
    exact .fn f a b a' b' (VRs.upto h1 hv.1) (VRs.upto h2 hv.2)
  | nf => exact .nf
  | ifc t v c h => exact .ifc t v c (VR.upto h hv)
  | nif => exact .nif
  | agg l l' h h2 => exact .agg l l' (VRs.upto h hv) h2
  | tup l l' h => exact .tup l l' (VRs.upto h hv)
  | yl id r h1 h2 => exact .yl id r (show id < n by simpa [V.lt] using hv) h2
theorem VRs.upto {S : Loc} {l : List V} {c : List Value} (h : VRs S l c) {n : Nat} (hv : V.lts n l = true) : VRs (S.upto n) l c := by
  cases h with
  | nil => exact .nil
  | cons v c l l' h t =>
    simp only [V.lts_cons, Bool.and_eq_true] at hv
    exact .cons v c l l' (VR.upto h hv.1) (VRs.upto t hv.2)
end
/-- The objects name none from 'n' on. -/
def O.lt (n : Nat) : O → Prop
  | .cells c _ _ _ => V.lts n c = true
  | .map es _ => V.lts n (es.map (·.1)) = true ∧ V.lts n (es.map (·.2.1)) = true
  | .strIter _ _ => True
  | .mapIter m _ _ _ => V.lt n (.m m) = true
  | .loop _ _ _ ρ _ _ _ => ∀ t, V.lt n (ρ.get t) = true
def AH.wf (H : AH) : Prop := ∀ id o, H.get id = some o → O.lt H.next o
theorem OR.lt {S : Loc} {w : World} {id : Nat} {o : O} (h : OR S w id o) : O.lt S.next o := by
  cases o with
  | cells c g ro esz =>
    refine V.lts_iff.2 fun v hv => ?_
    obtain ⟨j, hj⟩ := List.getElem?_of_mem hv
    obtain ⟨cv, _, hvr, _⟩ := h.2.2.1 j v hj
    exact hvr.lt
  | map es clock =>
    obtain ⟨_, _, ces, _, h1, h2, _⟩ := h
    exact ⟨h1.lt, h2.lt⟩
  | strIter s pos => trivial
  | mapIter m a b c =>
    obtain ⟨_, _, _, cm, h1, _⟩ := h
    exact h1.lt
  | loop tag st pe ρ ps asg body =>
    obtain ⟨_, _, _, r, _, _, _, _, _, _, _, h1⟩ := h
    exact fun t => (h1 t).lt
theorem HR.wf {C : Ctx} {S : Loc} {H : AH} {w : World} (h : HR C S H w) : H.wf := fun id o ho => by
  rw [h.next]; exact (h.obj id o ho).lt
theorem OR.upto {S : Loc} {w : World} {id : Nat} {o : O} (h : OR S w id o) {n : Nat} (ho : O.lt n o) : OR (S.upto n) w id o := by
  cases o with
  | cells c g ro esz =>
    obtain ⟨h1, h2, h3, h4, h5⟩ := h
    refine ⟨h1, h2, fun j v hj => ?_, h4, h5⟩
    obtain ⟨cv, q1, q2, q3⟩ := h3 j v hj
    exact ⟨cv, q1, q2.upto (V.lts_iff.1 ho v (List.mem_of_getElem? hj)), q3⟩
  | map es clock =>
    obtain ⟨h1, h2, ces, h3, h4, h5, h6⟩ := h
    exact ⟨h1, h2, ces, h3, h4.upto ho.1, h5.upto ho.2, h6⟩
  | strIter s pos => exact h
  | mapIter m a b c =>
    obtain ⟨h1, h2, h3, cm, h4, h5⟩ := h
    exact ⟨h1, h2, h3, cm, h4.upto ho, h5⟩
  | loop tag st pe ρ ps asg body =>
    obtain ⟨h1, h2, h0, r, h3, h4, h5, h6, h7, h8, h9, hr⟩ := h
    exact ⟨h1, h2, h0, r, h3, h4, h5, h6, h7, h8, h9, fun t => (hr t).upto (ho t)⟩
/-- What is left where the newest objects are forgotten. -/
theorem HR.upto {C : Ctx} {S : Loc} {H H' : AH} {w : World} (h : HR C S H' w) (hn : H.next ≤ H'.next) (hg : ∀ j, j < H.next → H.get j = H'.get j) (hw : H.wf) : HR C (S.upto H.next) H w where
  next := rfl
  obj id o ho := by
    have hlt := AH.get_lt ho
    exact (h.obj id o (by rw [← hg id hlt]; exact ho)).upto (hw id o ho)
  some id hi := by
    have hi' : id < H.next := hi
    rw [hg id hi']
    exact h.some id (by rw [← h.next]; omega)
  lt id hi ho := by
    have hi' : id < H.next := hi
    exact h.lt id (by rw [← h.next]; omega) ho
  foreign id hi ho := by
    have hi' : id < H.next := hi
    rw [hg id hi']
    exact (h.foreign id (by rw [← h.next]; omega) ho).imp (fun k => ⟨k.1, fun id' hi2 ho' => by
      have hi3 : id' < H.next := hi2
      exact k.2 id' (by rw [← h.next]; omega) ho'⟩) fun k => k
  sep id id' hi hi' ho ho' hb := by
    have h1 : id < H.next := hi
    have h2 : id' < H.next := hi'
    exact h.sep id id' (by rw [← h.next]; omega) (by rw [← h.next]; omega) ho ho' hb
  below := h.below
theorem Loc.le.upto {B S : Loc} (h : B.le S) {n : Nat} (hn : B.next ≤ n) : B.le (S.upto n) := ⟨hn, h.gen, h.blk, h.base, h.room, h.own, h.esz⟩
end Go.Abs
