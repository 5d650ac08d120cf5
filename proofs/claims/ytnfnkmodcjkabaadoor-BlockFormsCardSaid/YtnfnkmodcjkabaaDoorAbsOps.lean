/-
  The abstract machine's operations: partial functions on values and memory.
-/
import Derived.Test.YtnfnkmodcjkabaaDoorAbsDom
set_option linter.unusedVariables false
set_option linter.unusedSimpArgs false
namespace Go.Abs
open Go Go.RowKit

/-! What is asked of a type. -/
def qsize (P : Program) (t : TypeId) : Option Nat := (P.info? t).map (·.size)
def qbytes (P : Program) (t : TypeId) : Option Nat := (P.info? t).map (·.bytes)
def descAgg : TypeDesc → Bool
  | .struct _ | .array _ _ => true
  | _ => false
def qagg (P : Program) (t : TypeId) : Option Bool := (P.underlying t).map descAgg
def absC : Value → V
  | .bool x => .b x
  | .int k n => .i k n
  | .string c => .s c.data.toList
  | .pointer none => .p none
  | .slice none 0 0 => .sl none 0 false
  | .map none => .m none
  | .nilFunc => .nf
  | .nilIface => .nif
  | _ => .un
def absV : Value → V
  | .agg cs => if cs.toList.all Value.oneCell' then .agg (cs.toList.map absC) else .un
  | .tuple cs => .tup (cs.toList.map absC)
  | v => absC v
def qzero (P : Program) (t : TypeId) : Option V := ((P.info? t).bind (·.zero)).map absV
def qplaces (P : Program) (t : TypeId) : Option (List (Nat × Nat)) :=
  match P.underlying t with
  | some (.struct fs) => fs.toList.mapM fun f => (P.info? f.type).map fun i => (f.offset, i.size)
  | _ => none
def qelem (P : Program) (t : TypeId) : Option TypeId :=
  match P.underlying t with
  | some (.slice e) => some e
  | _ => none
def qarr (P : Program) (t : TypeId) : Option (Nat × TypeId) :=
  match P.underlying t with
  | some (.array n e) => some (n, e)
  | _ => none
/-- A struct's field: its offset, size, and whether it is an aggregate. -/
def qfield (P : Program) (t : TypeId) (f : Nat) : Option (Nat × Nat × Bool) :=
  match P.underlying t with
  | some (.struct fs) => match fs[f]? with
    | some fl => match qsize P fl.type, qagg P fl.type with
      | some n, some a => some (fl.offset, n, a)
      | _, _ => none
    | none => none
  | _ => none
def qstr (P : Program) (t : TypeId) : Bool := match P.underlying t with | some .string => true | _ => false
def qint (P : Program) (t : TypeId) : Option IntKind := match P.underlying t with | some (.int k) => some k | _ => none
def qmap (P : Program) (t : TypeId) : Option (TypeId × TypeId) := match P.underlying t with | some (.map k e) => some (k, e) | _ => none
def qconcrete (P : Program) (t : TypeId) : Bool := match P.underlying t with | some (.interface _) => false | some _ => true | none => false

/-! Environments. -/
def Env.put (ρ : Env) (d : Option Tmp) (v : V) : Env :=
  match d with
  | some d => { ρ with l := (d, if d < ρ.n then v else .un) :: ρ.l }
  | none => ρ
def aev (ρ : Env) : Operand → V
  | .tmp t => ρ.get t
  | .const v => absV v
  | .global _ => .un
  | .func f => .fn (.func f) [] []

def ER (S : Loc) (ρ : Env) (a : Act) : Prop := a.tmps.size = ρ.n ∧ ∀ t, VR S (ρ.get t) (a.tmps.getD t undef)

theorem absC_VR (S : Loc) (v : Value) : VR S (absC v) v := by
  unfold absC
  split <;> first | exact .b _ | exact .i _ _ | exact .s _ _ rfl | exact .pnil | exact .slnil _ | exact .mnil | exact .nf | exact .nif | exact .un _
theorem absCs_VRs (S : Loc) : ∀ l : List Value, VRs S (l.map absC) l
  | [] => .nil
  | v :: l => .cons _ _ _ _ (absC_VR S v) (absCs_VRs S l)
theorem absV_VR (S : Loc) (v : Value) : VR S (absV v) v := by
  unfold absV
  split
  · rename_i cs
    split
    · rename_i h
      have := VR.agg (cs.toList.map absC) cs.toList (absCs_VRs S cs.toList) (fun c hc => (List.all_eq_true.1 h) c hc)
      simpa using this
    · exact .un _
  · rename_i cs
    have := VR.tup (cs.toList.map absC) cs.toList (absCs_VRs S cs.toList)
    simpa using this
  · exact absC_VR S v

theorem ER.mono {S S' : Loc} (h : S.le S') {ρ : Env} {a : Act} (e : ER S ρ a) : ER S' ρ a := ⟨e.1, fun t => (e.2 t).mono h⟩
theorem aev_VR {S : Loc} {ρ : Env} {a : Act} (h : ER S ρ a) (x : Operand) : VR S (aev ρ x) (a.eval x) := by
  cases x with
  | tmp t => exact h.2 t
  | const v => exact absV_VR S v
  | global g => exact .un _
  | func f => exact .fn _ [] [] [] [] .nil .nil
theorem ER.put {S : Loc} {ρ : Env} {a : Act} (h : ER S ρ a) (d : Option Tmp) {v : V} {c : Value} (hv : VR S v c) : ER S (ρ.put d v) (a.put d c) := by
  cases d with
  | none => exact h
  | some d =>
    refine ⟨by simpa [Act.put, Env.put] using h.1, fun t => ?_⟩
    simp only [Env.put, Env.get, Env.look, Act.put]
    by_cases e : d = t
    · subst e
      simp only [if_true]
      by_cases hd : d < ρ.n
      · simp only [hd, if_true]
        rw [← h.1] at hd
        simpa [Array.getD, hd] using hv
      · simp only [hd, if_false]
        exact .un _
    · simp only [e, if_false]
      have := h.2 t
      simp only [Env.get] at this
      have e2 : (a.tmps.setIfInBounds d c).getD t undef = a.tmps.getD t undef := by
        simp only [Array.getD_eq_getD_getElem?, Array.getElem?_setIfInBounds]
        rw [if_neg e]
      rw [e2]; exact this

/-! The operations. -/
def splice (c : List V) (off : Nat) (l : List V) : List V := c.take off ++ l ++ c.drop (off + l.length)

def aload (P : Program) (H : AH) (t : TypeId) (a : V) : Option V :=
  match a with
  | .p (some (id, g, off)) => match H.get id with
    | some (.cells c g' _ _) => if g = g' then
        match qagg P t, qsize P t with
        | some true, some n => if off + n ≤ c.length then some (.agg ((c.drop off).take n)) else none
        | some false, some _ => c[off]?
        | _, _ => none
      else none
    | _ => none
  | _ => none

def astore (P : Program) (H : AH) (t : TypeId) (a v : V) : Option AH :=
  match a with
  | .p (some (id, g, off)) => match H.get id with
    | some (.cells c g' false esz) => if g = g' then
        match qsize P t, v.cells with
        | some n, some l => if l.length = n ∧ off + n ≤ c.length then some (H.set id (.cells (splice c off l) g' false esz)) else none
        | _, _ => none
      else none
    | _ => none
  | _ => none

def afill (place : Nat → Option (Nat × Nat)) (cells : List V) : List (Nat × V) → Option (List V)
  | [] => some cells
  | (i, v) :: rest =>
    match place i, v.cells with
    | some (off, size), some l => if l.length = size ∧ off + l.length ≤ cells.length then afill place (splice cells off l) rest else none
    | _, _ => none

def aint (op : BinOp) (k : IntKind) (a b : Int) : Option V :=
  match op with
  | .add => some (.i k (k.wrap (a + b)))
  | .sub => some (.i k (k.wrap (a - b)))
  | .mul => some (.i k (k.wrap (a * b)))
  | .quo => if b = 0 then none else some (.i k (k.wrap (a.tdiv b)))
  | .rem => if b = 0 then none else some (.i k (a.tmod b))
  | .and => some (.i k (k.wrap ((BitVec.ofInt k.bits a &&& BitVec.ofInt k.bits b).toNat : Nat)))
  | .or => some (.i k (k.wrap ((BitVec.ofInt k.bits a ||| BitVec.ofInt k.bits b).toNat : Nat)))
  | .xor => some (.i k (k.wrap ((BitVec.ofInt k.bits a ^^^ BitVec.ofInt k.bits b).toNat : Nat)))
  | .andNot => some (.i k (k.wrap ((BitVec.ofInt k.bits a &&& ~~~(BitVec.ofInt k.bits b)).toNat : Nat)))
  | .eql => some (.b (a == b))
  | .neq => some (.b (a != b))
  | .lss => some (.b (decide (a < b)))
  | .leq => some (.b (decide (a ≤ b)))
  | .gtr => some (.b (decide (a > b)))
  | .geq => some (.b (decide (a ≥ b)))
  | _ => none
def ashift (op : BinOp) (k : IntKind) (a b : Int) : Option V :=
  if b < 0 then none else match op with
  | .shl => some (.i k (k.wrap (a * 2 ^ (min b.toNat k.bits))))
  | .shr => some (.i k (a.fdiv (2 ^ (min b.toNat k.bits))))
  | _ => none
def astr (op : BinOp) (a b : List UInt8) : Option V :=
  match op with
  | .add => if a.length + b.length ≤ 9223372036854775807 then some (.s (a ++ b)) else none
  | .eql => some (.b (a == b))
  | .neq => some (.b (!(a == b)))
  | .lss => some (.b (Op.bytesLess a b))
  | .leq => some (.b (Op.bytesLess a b || a == b))
  | .gtr => some (.b (!(Op.bytesLess a b || a == b)))
  | .geq => some (.b (!Op.bytesLess a b))
  | _ => none

/-- Cells that are held against each other by their value alone. -/
def ceq : V → V → Option Bool
  | .b x, .b y => some (x == y)
  | .i k a, .i k' c => if k = k' then some (a == c) else none
  | .s a, .s c => some (a == c)
  | _, _ => none
def ceqs : List V → List V → Option Bool
  | [], [] => some true
  | v :: l, u :: r => match ceq v u, ceqs l r with
    | some a, some c => some (a && c)
    | _, _ => none
  | _, _ => none

/-- The kinds of the cells of a type that is compared cell by cell. -/
inductive CK where | b | i (k : IntKind) | s
  deriving DecidableEq
def CK.fits : CK → V → Bool
  | .b, .b _ => true
  | .i k, .i k' _ => k == k'
  | .s, .s _ => true
  | _, _ => false
def fitsAll : List CK → List V → Bool
  | [], [] => true
  | k :: ks, v :: vs => k.fits v && fitsAll ks vs
  | _, _ => false
def kindsFs (P : Program) (k : TypeId → Option (List CK)) : Nat → List Field → Option (List CK)
  | _, [] => some []
  | off, f :: fs => match k f.type with
    | some l => if f.name ≠ "_" ∧ f.offset = off ∧ qsize P f.type = some l.length ∧ 0 < l.length then (kindsFs P k (off + l.length) fs).map (l ++ ·) else none
    | none => none
def kindsOf (P : Program) : Nat → TypeId → Option (List CK)
  | 0, _ => none
  | d + 1, t => match P.underlying t with
    | some .bool => some [.b]
    | some (.int k) => some [.i k]
    | some .string => some [.s]
    | some (.struct fs) => if P.stoodInHeld t then none else kindsFs P (kindsOf P d) 0 fs.toList
    | _ => none
/-- May values of this type be compared cell by cell? -/
def qeq (P : Program) (t : TypeId) : Option (List CK) := if P.eqGuardType P.depth t = false ∧ qagg P t = some true then kindsOf P 12 t else none

def aeq (P : Program) (t : TypeId) (x y : V) : Option Bool :=
  match x, y with
  | .agg xs, .agg ys => match qeq P t with
    | some ks => if fitsAll ks xs ∧ fitsAll ks ys then ceqs xs ys else none
    | none => none
  | .b x, .b y => match P.underlying t with | some .bool => some (x == y) | _ => none
  | .p none, .p y => match P.underlying t with | some (.pointer _) => some y.isNone | _ => none
  | .p _, .p none => match P.underlying t with | some (.pointer _) => some false | _ => none
  | .sl none _ _, .sl y _ _ => match P.underlying t with | some (.slice _) => some y.isNone | _ => none
  | .sl _ _ _, .sl none _ _ => match P.underlying t with | some (.slice _) => some false | _ => none
  | .nif, .ifc _ _ => match P.underlying t with | some (.interface _) => some false | _ => none
  | .ifc _ _, .nif => match P.underlying t with | some (.interface _) => some false | _ => none
  | .m none, .m y => match P.underlying t with | some (.map _ _) => some y.isNone | _ => none
  | .m _, .m none => match P.underlying t with | some (.map _ _) => some false | _ => none
  | _, _ => none

def abin (P : Program) (op : BinOp) (t : TypeId) (x y : V) : Option V :=
  match x, y with
  | .i k a, .i k' b => match op with
    | .shl | .shr => ashift op k a b
    | _ => if k = k' then aint op k a b else none
  | .s a, .s b => astr op a b
  | _, _ => match op with
    | .eql => (aeq P t x y).map .b
    | .neq => (aeq P t x y).map fun r => .b (!r)
    | _ => none

def aunary (op : UnOp) (x : V) : Option V :=
  match op, x with
  | .neg, .i k n => aint .sub k 0 n
  | .xor, .i k n => aint .xor k (if k.signed then -1 else k.max) n
  | .not, .b b => some (.b (!b))
  | _, _ => none

/-- Key of a map's entry: which one is it? -/
def keq (P : Program) (t : TypeId) (x y : V) : Option Bool :=
  match x, y with
  | .i k a, .i k' c => match P.underlying t with | some (.int _) => if k = k' then some (a == c) else none | _ => none
  | .s a, .s c => match P.underlying t with | some .string => some (a == c) | _ => none
  | .agg _, .agg _ => aeq P t x y
  | _, _ => none
def afind (P : Program) (t : TypeId) (k : V) : List (V × V × Nat) → Nat → Option (Option (Nat × V))
  | [], _ => some none
  | (k', v, _) :: l, i => match keq P t k k' with
    | some true => some (some (i, v))
    | some false => afind P t k l (i + 1)
    | none => none

def bytesV (l : List UInt8) : List V := l.map fun b => .i .u8 b.toNat
def unbytes : List V → Option (List UInt8)
  | [] => some []
  | .i .u8 n :: l => (unbytes l).map (UInt8.ofNat n.toNat :: ·)
  | _ => none

end Go.Abs
