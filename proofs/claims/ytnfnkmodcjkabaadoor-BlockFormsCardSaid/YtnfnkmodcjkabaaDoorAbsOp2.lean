/-
  More operations of the abstract machine: places, parts, slices, append, maps; and the one function over all operations.
-/
import Derived.Test.YtnfnkmodcjkabaaDoorAbsOps
set_option linter.unusedVariables false
set_option linter.unusedSimpArgs false
namespace Go.Abs
open Go Go.RowKit

def afieldAddr (P : Program) (t : TypeId) (f : Nat) (a : V) : Option V :=
  match a, qfield P t f with
  | .p (some (id, g, off)), some (o, n, _) => if n = 0 then none else some (.p (some (id, g, off + o)))
  | _, _ => none
def afield (P : Program) (t : TypeId) (f : Nat) (x : V) : Option V :=
  match x, qfield P t f with
  | .agg l, some (o, n, true) => if o + n ≤ l.length then some (.agg ((l.drop o).take n)) else none
  | .agg l, some (o, _, false) => l[o]?
  | _, _ => none
def aindexAddr (P : Program) (t : TypeId) (x i : V) : Option V :=
  match x, i with
  | .sl (some (id, g, off)) len _, .i _ n => match qelem P t with
    | some e => match qsize P e with
      | some sz => if 0 ≤ n ∧ n < len then some (.p (some (id, g, off + n.toNat * sz))) else none
      | none => none
    | none => none
  | .p (some (id, g, off)), .i _ n => match qarr P t with
    | some (len, e) => match qsize P e with
      | some sz => if 0 ≤ n ∧ n < len then some (.p (some (id, g, off + n.toNat * sz))) else none
      | none => none
    | none => none
  | _, _ => none
def aindex (P : Program) (t : TypeId) (x i : V) : Option V :=
  match x, i with
  | .s l, .i _ n => if qstr P t ∧ 0 ≤ n then (l[n.toNat]?).map fun b => .i .u8 b.toNat else none
  | .agg l, .i _ n => match qarr P t with
    | some (len, e) => match qsize P e, qagg P e with
      | some sz, some true => if 0 ≤ n ∧ n < len ∧ n.toNat * sz + sz ≤ l.length then some (.agg ((l.drop (n.toNat * sz)).take sz)) else none
      | some sz, some false => if 0 ≤ n ∧ n < len ∧ sz = 1 then l[n.toNat]? else none
      | _, _ => none
    | none => none
  | _, _ => none

/-- A bound that is a number. -/
def abound (x : Option V) (d y : Nat) : Option Nat :=
  match x with
  | none => some d
  | some (.i _ n) => if 0 ≤ n ∧ n ≤ y then some n.toNat else none
  | some _ => none
def aslice (P : Program) (H : AH) (t : TypeId) (x : V) (lo hi mx : Option V) : Option V :=
  match x with
  | .s l => if qstr P t ∧ mx.isNone then
      match abound hi l.length l.length with
      | some h => match abound lo 0 h with
        | some k => some (.s ((l.take h).drop k))
        | none => none
      | none => none
    else none
  | .sl none len c => match qelem P t with
    | some e => match qsize P e, abound mx 0 0 with
      | some _, some m => match abound hi 0 m with
        | some h => match abound lo 0 h with
          | some _ => if mx.isSome = true ∧ hi.isSome = false then none else some (.sl none 0 c)
          | none => none
        | none => none
      | _, _ => none
    | none => none
  | .sl (some (id, g, off)) len clip => match qelem P t with
    | some e => match qsize P e, H.get id with
      | some sz, some (.cells c g' _ esz) => if g = g' ∧ (esz = 0 ∨ esz = sz) then
          match abound mx len len with
          | some m => match abound hi len m with
            | some h => match abound lo 0 h with
              | some k => if off + h * sz ≤ c.length then
                  (if mx.isSome then (if hi.isSome ∧ m = h then some (.sl (some (id, g, off + k * sz)) (h - k) true) else none)
                   else if clip = true ∧ h ≠ len then none else some (.sl (some (id, g, off + k * sz)) (h - k) clip)) else none
              | none => none
            | none => none
          | none => none
        else none
      | _, _ => none
    | none => none
  | .p (some (id, g, off)) => match qarr P t with
    | some (n, e) => match qsize P e, H.get id with
      | some sz, some (.cells c g' _ 0) => if g = g' ∧ mx.isNone ∧ off + n * sz ≤ c.length then
          match abound hi n n with
          | some h => match abound lo 0 h with
            | some k => some (.sl (some (id, g, off + k * sz)) (h - k) (h == n))
            | none => none
          | none => none
        else none
      | _, _ => none
    | none => none
  | _ => none

/-- The cells of what is appended, and how many elements they are. -/
def asource (P : Program) (H : AH) (sz : Nat) (x : V) : Option (List V × Nat) :=
  match x with
  | .s l => if sz = 1 then some (bytesV l, l.length) else none
  | .sl none _ _ => some ([], 0)
  | .sl (some (id, g, off)) len _ => match H.get id with
    | some (.cells c g' _ _) => if len = 0 then some ([], 0) else if g = g' ∧ off + len * sz ≤ c.length then some ((c.drop off).take (len * sz), len) else none
    | _ => none
  | _ => none

def descSrc : TypeDesc → Bool | .slice _ => true | .string => true | _ => false
def roomOk (need bytes : Nat) : Bool := 0 < bytes && (3 * need + 1000) * bytes ≤ 281474976710656

def aappend (P : Program) (H : AH) (t t2 : TypeId) (s x : V) : Option (V × AH) :=
  match qelem P t with
  | none => none
  | some e => match qsize P e, qbytes P e, qzero P e, P.underlying t2 with
    | some sz, some bytes, some z, some d2 => if 0 < sz ∧ descSrc d2 = true ∧ z.cells.map List.length = some sz then
        match asource P H sz x with
        | none => none
        | some (new, n) =>
          if n = 0 then
            match s with
            | .sl a l c => some (.sl a l c, H)
            | _ => none
          else match s with
            | .sl none _ _ => if roomOk n bytes then some (.sl (some (H.next, 0, 0)) n false, H.new (.cells new 0 false sz)) else none
            | .sl (some (id, g, off)) len clip => match H.get id with
              | some (.cells c g' ro esz) =>
                if g = g' ∧ off + len * sz ≤ c.length ∧ roomOk (len + n) bytes then
                  if clip then some (.sl (some (H.next, 0, 0)) (len + n) false, H.new (.cells ((c.drop off).take (len * sz) ++ new) 0 false sz))
                  else if ro = false ∧ esz = sz then
                    if off + (len + n) * sz ≤ c.length then some (.sl (some (id, g, off)) (len + n) false, H.set id (.cells (splice c (off + len * sz) new) g' false esz))
                    else some (.sl (some (id, g + 1, 0)) (len + n) false, H.set id (.cells ((c.drop off).take (len * sz) ++ new) (g' + 1) false esz))
                  else none
                else none
              | _ => none
            | _ => none
      else none
    | _, _, _, _ => none

def alen (P : Program) (H : AH) (t : TypeId) (x : V) : Option V :=
  match x with
  | .s l => if qstr P t then some (.i .i64 l.length) else none
  | .sl _ len _ => match qelem P t with | some _ => some (.i .i64 len) | none => none
  | .m none => match qmap P t with | some _ => some (.i .i64 0) | none => none
  | .m (some id) => match qmap P t, H.get id with
    | some _, some (.map es _) => some (.i .i64 es.length)
    | _, _ => none
  | _ => none
def amin2 : V → V → Option V
  | .i k x, .i _ y => some (.i k (if y < x then y else x))
  | _, _ => none
def amax2 : V → V → Option V
  | .i k x, .i _ y => some (.i k (if y > x then y else x))
  | _, _ => none
def afold (f : V → V → Option V) : V → List V → Option V
  | x, [] => some x
  | x, y :: l => match f x y with | some z => afold f z l | none => none

/-- May a value of this type be a map's key, by the cells alone? -/
def qkey (P : Program) (t : TypeId) : Bool :=
  match P.underlying t with
  | some (.int _) | some .string => true
  | some (.struct _) => (qeq P t).isSome
  | _ => false

/-- A key that fits its type: of ints and texts there is nothing to ask; a struct's cells are of their kinds. -/
def keyFits (P : Program) (t : TypeId) (k : V) : Bool :=
  match P.underlying t with
  | some (.struct _) => match qeq P t, k with
    | some ks, .agg l => fitsAll ks l
    | _, _ => false
  | _ => true

def alookup (P : Program) (H : AH) (t : TypeId) (x k : V) (ok : Bool) : Option V :=
  match qmap P t with
  | some (kt, et) => if qkey P kt = true ∧ keyFits P kt k = true then
      match (match x with
        | .m none => some []
        | .m (some id) => match H.get id with | some (.map es _) => some es | _ => none
        | _ => none) with
      | some es => match afind P kt k es 0 with
        | some (some (_, v)) => some (if ok then .tup [v, .b true] else v)
        | some none => match qzero P et with
          | some z => some (if ok then .tup [z, .b false] else z)
          | none => none
        | none => none
      | none => none
    else none
  | none => none
def setKV (es : List (V × V × Nat)) (i : Nat) (k v : V) : List (V × V × Nat) := es.modify i fun e => (k, v, e.2.2)
def amapUpdate (P : Program) (H : AH) (t : TypeId) (m k v : V) : Option AH :=
  match qmap P t, m with
  | some (kt, _), .m (some id) => if qkey P kt = true ∧ keyFits P kt k = true then
      match H.get id with
      | some (.map es clock) => match afind P kt k es 0 with
        | some (some (i, _)) => some (H.set id (.map (setKV es i k v) clock))
        | some none => some (H.set id (.map (es ++ [(k, v, clock)]) (clock + 1)))
        | none => none
      | _ => none
    else none
  | _, _ => none
def adelete (P : Program) (H : AH) (t : TypeId) (m k : V) : Option AH :=
  match qmap P t, m with
  | some (kt, _), .m (some id) => if qkey P kt = true ∧ keyFits P kt k = true then
      match H.get id with
      | some (.map es clock) => match afind P kt k es 0 with
        | some (some (i, _)) => some (H.set id (.map (es.eraseIdx i) clock))
        | some none => some (H.set id (.map es clock))
        | none => none
      | _ => none
    else none
  | _, _ => none

/-- The entry of a key, made if it is not there: its content and its stamp. -/
def amapEntry (P : Program) (H : AH) (t : TypeId) (m k : V) : Option (V × AH) :=
  match qmap P t, m with
  | some (kt, et), .m (some id) => if qkey P kt = true ∧ keyFits P kt k = true then
      match H.get id with
      | some (.map es clock) => match afind P kt k es 0 with
        | some (some (i, v)) => match es[i]? with
          | some e => some (.tup [v, .i .i64 e.2.2], H.set id (.map (setKV es i k v) clock))
          | none => none
        | some none => match qzero P et with
          | some z => some (.tup [z, .i .i64 clock], H.set id (.map (es ++ [(k, z, clock)]) (clock + 1)))
          | none => none
        | none => none
      | _ => none
    else none
  | _, _ => none
def setV (es : List (V × V × Nat)) (i : Nat) (v : V) : List (V × V × Nat) := es.modify i fun e => (e.1, v, e.2.2)
/-- A content put into the entry of a stamp. -/
def aentryStore (H : AH) (m stamp v : V) : Option AH :=
  match m, stamp with
  | .m (some id), .i _ b => match H.get id with
    | some (.map es clock) => match es.findIdx? (fun e => (e.2.2 : Int) == b) with
      | some i => some (H.set id (.map (setV es i v) clock))
      | none => none
    | _ => none
  | _, _ => none
/-- Is it of this type? (No interface's type.) -/
def atypeAssert (P : Program) (t : TypeId) (ok : Bool) (x : V) : Option V :=
  match P.underlying t with
  | none | some (.interface _) => none
  | some _ => match x with
    | .ifc u v => if u = t then some (if ok then .tup [v, .b true] else v)
        else if ok then (qzero P t).map fun z => .tup [z, .b false] else none
    | .nif => if ok then (qzero P t).map fun z => .tup [z, .b false] else none
    | _ => none

def aconvert (P : Program) (H : AH) (src dst : TypeId) (x : V) : Option (V × AH) :=
  match P.underlying src, P.underlying dst, x with
  | some _, some (.int k), .i _ n => some (.i k (k.wrap n), H)
  | some _, some .string, .s l => some (.s l, H)
  | some _, some (.slice e), .s l => match P.underlying e with
    | some (.int .u8) => some (.sl (some (H.next, 0, 0)) l.length false, H.new (.cells (bytesV l) 0 false 1))
    | _ => none
  | some (.slice e), some .string, .sl none _ _ => match P.underlying e with
    | some (.int .u8) => some (.s [], H)
    | _ => none
  | some (.slice e), some .string, .sl (some (id, g, off)) len _ => match P.underlying e, H.get id with
    | some (.int .u8), some (.cells c g' _ _) => if len = 0 then some (.s [], H) else if g = g' ∧ off + len ≤ c.length then (unbytes ((c.drop off).take len)).map fun l => (.s l, H) else none
    | _, _ => none
  | _, _, _ => none

def abuild (P : Program) (t : TypeId) (parts : List (Nat × V)) : Option V :=
  match qplaces P t, qzero P t with
  | some pl, some (.agg z) => (afill (fun i => pl[i]?) z parts).map .agg
  | _, _ => match qarr P t, qzero P t with
    | some (_, e), some (.agg z) => match qsize P e with
      | some sz => (afill (fun i => some (i * sz, sz)) z parts).map .agg
      | none => none
    | _, _ => none
def abuildSlice (P : Program) (H : AH) (t : TypeId) (n : Nat) (parts : List (Nat × V)) : Option (V × AH) :=
  match qelem P t with
  | some e => match qsize P e, qzero P e with
    | some sz, some z => match z.cells with
      | some zl => if zl.length = sz ∧ n * sz ≤ 16777216 ∧ 0 < sz then
          match afill (fun i => some (i * sz, sz)) (List.replicate n zl).flatten parts with
          | some l => some (.sl (some (H.next, 0, 0)) n false, H.new (.cells l 0 false sz))
          | none => none
        else none
      | none => none
    | _, _ => none
  | none => none

/-! Ranging over a map (a text's turn comes when it is needed). -/
def arange (P : Program) (H : AH) (t : TypeId) (x : V) : Option (V × AH) :=
  match qmap P t, x with
  | some _, .m none => some (.p (some (H.next, 0, 0)), H.new (.mapIter none 0 [] 0))
  | some _, .m (some m) => match H.get m with
    | some (.map _ clock) => some (.p (some (H.next, 0, 0)), H.new (.mapIter (some m) clock [] clock))
    | _ => none
  | _, .s l => if qstr P t then some (.p (some (H.next, 0, 0)), H.new (.strIter l 0)) else none
  | _, _ => none
/-- The next letter of a text. -/
def anextS (H : AH) (it : V) : Option (V × AH) :=
  match it with
  | .p (some (id, 0, 0)) => match H.get id with
    | some (.strIter s pos) => if pos < s.length then some (.tup [.b true, .i .i64 pos, .i .i32 (Utf8.decode ⟨s.toArray⟩ pos).1], H.set id (.strIter s (pos + (Utf8.decode ⟨s.toArray⟩ pos).2))) else some (.tup [.b false], H)
    | _ => none
  | _ => none
/-- What 'next' may do: any entry that was not seen may come; it may end where no old one is left. -/
def ANext (H : AH) (it : V) (K : V → AH → Prop) : Prop :=
  match it with
  | .p (some (id, 0, 0)) => match H.get id with
    | some (.mapIter none _ _ _) => K (.tup [.b false]) H
    | some (.mapIter (some m) since seen stepped) => match H.get m with
      | some (.map es clock) => (seen = [] ∨ es = [] ∨ ∃ e ∈ es, e.2.2 < stepped) ∧
          (∀ e ∈ es, e.2.2 ∉ seen → K (.tup [.b true, e.1, e.2.1]) (H.set id (.mapIter (some m) since (seen ++ [e.2.2]) clock))) ∧
          ((∀ e ∈ es, e.2.2 ∉ seen → since ≤ e.2.2) → K (.tup [.b false]) H)
      | _ => False
    | _ => False
  | _ => False
def aentry (H : AH) (it : V) : Option V :=
  match it with
  | .p (some (id, 0, 0)) => match H.get id with
    | some (.mapIter (some m) _ seen stepped) => match seen.getLast?, H.get m with
      | some stamp, some (.map es clock) => if clock = stepped then (es.find? fun e => e.2.2 == stamp).map fun e => .tup [e.1, e.2.1] else none
      | _, _ => none
    | _ => none
  | _ => none

def evs (ev : Operand → V) (xs : Array Operand) : List V := xs.toList.map ev
def evo (ev : Operand → V) (x : Option Operand) : Option V := x.map ev

/-- One operation that is no call of a Go function. -/
def aop (P : Program) (op : Op) (ev : Operand → V) (H : AH) : Option (V × AH) :=
  match op with
  | .move x | .assign x => some (ev x, H)
  | .pick c a b => match ev c with
    | .b true => some (ev a, H)
    | .b false => some (ev b, H)
    | _ => none
  | .alloc t => match qzero P t with
    | some z => z.cells.map fun l => (.p (some (H.next, 0, 0)), H.new (.cells l 0 false 0))
    | none => none
  | .box _ x => (ev x).cells.map fun l => (.p (some (H.next, 0, 0)), H.new (.cells l 0 false 0))
  | .build t parts => (abuild P t (parts.toList.map fun (i, x) => (i, ev x))).map (·, H)
  | .buildSlice t n parts => abuildSlice P H t n (parts.toList.map fun (i, x) => (i, ev x))
  | .load t a => (aload P H t (ev a)).map (·, H)
  | .store t a x => (astore P H t (ev a) (ev x)).map (.un, ·)
  | .nilCheck x => match ev x with
    | .p (some q) => some (.p (some q), H)
    | .ifc t v => some (.ifc t v, H)
    | .fn (.func f) a b => some (.fn (.func f) a b, H)
    | _ => none
  | .binOp op t x y _ => (abin P op t (ev x) (ev y)).map (·, H)
  | .unOp op _ x => (aunary op (ev x)).map (·, H)
  | .convert src dst x => aconvert P H src dst (ev x)
  | .makeInterface t x => if qconcrete P t then some (.ifc t (ev x), H) else none
  | .makeFunc fn first caps => some (.fn fn (evs ev first) (evs ev caps), H)
  | .makeMap _ none => some (.m (some H.next), H.new (.map [] 0))
  | .slice t x lo hi mx => (aslice P H t (ev x) (evo ev lo) (evo ev hi) (evo ev mx)).map (·, H)
  | .fieldAddr t x f => (afieldAddr P t f (ev x)).map (·, H)
  | .field t x f => (afield P t f (ev x)).map (·, H)
  | .indexAddr t x i => (aindexAddr P t (ev x) (ev i)).map (·, H)
  | .index t x i => (aindex P t (ev x) (ev i)).map (·, H)
  | .lookup t x k ok => (alookup P H t (ev x) (ev k) ok).map (·, H)
  | .mapUpdate t m k x | .insert t m k x => (amapUpdate P H t (ev m) (ev k) (ev x)).map (.un, ·)
  | .mapEntry t m k => amapEntry P H t (ev m) (ev k)
  | .entryStore _ m b x => (aentryStore H (ev m) (ev b) (ev x)).map (.un, ·)
  | .typeAssert x _ t ok => (atypeAssert P t ok (ev x)).map (·, H)
  | .range t x => arange P H t (ev x)
  | .entry x => (aentry H (ev x)).map (·, H)
  | .next x true => anextS H (ev x)
  | .extract x i => match ev x with
    | .tup l => (l[i]?).map (·, H)
    | _ => none
  | .call { callee := .builtin b, args, argTypes } =>
    match b, args.toList.map ev, argTypes.toList with
    | .len, [x], [t] => (alen P H t x).map (·, H)
    | .append, [s, x], [t, t2] => aappend P H t t2 s x
    | .min, x :: l, _ => (afold amin2 x l).map (·, H)
    | .max, x :: l, _ => (afold amax2 x l).map (·, H)
    | .delete, [m, k], [t, _] => (adelete P H t m k).map (.un, ·)
    | _, _, _ => none
  | _ => none

end Go.Abs
