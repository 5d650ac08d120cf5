/-
  Steps for walks: one rule for each operation, regions that keep what lives on.
-/
import Derived.Test.YtnfnkmodcjkabaaDoorAbsPlan
set_option linter.unusedVariables false
set_option linter.unusedSimpArgs false
set_option linter.unusedSectionVars false
namespace Go.Abs
open Go Go.RowKit

/-! Environments. -/
def Env.keep (ρ : Env) (idx : List Nat) : Env := ⟨ρ.n, idx.map fun t => (t, ρ.get t)⟩
theorem look_keep (f : Nat → V) : ∀ (idx : List Nat) (t : Nat), Env.look (idx.map fun t => (t, f t)) t = .un ∨ Env.look (idx.map fun t => (t, f t)) t = f t
  | [], t => .inl rfl
  | u :: idx, t => by
    simp only [List.map, Env.look]
    by_cases h : u = t
    · subst h; simp
    · simp only [h, if_false]; exact look_keep f idx t
theorem ER.keep {S : Loc} {ρ : Env} {a : Act} (h : ER S ρ a) (idx : List Nat) : ER S (ρ.keep idx) a := by
  refine ⟨h.1, fun t => ?_⟩
  rcases look_keep ρ.get idx t with e | e
  · have e2 : (ρ.keep idx).get t = .un := e
    rw [e2]; exact .un _
  · have e2 : (ρ.keep idx).get t = ρ.get t := e
    rw [e2]; exact h.2 t

/-- What an environment has to be for a shorter one to stand for it. -/
def Env.sub (ρ ρ0 : Env) : Prop := ρ0.n = ρ.n ∧ ∀ p ∈ ρ0.l, ρ.get p.1 = p.2
theorem look_sub (f : Nat → V) : ∀ (l : List (Nat × V)) (t : Nat), (∀ p ∈ l, f p.1 = p.2) → Env.look l t = .un ∨ Env.look l t = f t
  | [], t, h => .inl rfl
  | (u, v) :: l, t, h => by
    simp only [Env.look]
    by_cases e : u = t
    · subst e; simp only [if_true]; exact .inr (h (u, v) (by simp)).symm
    · simp only [e, if_false]; exact look_sub f l t fun p hp => h p (by simp [hp])
theorem ER.sub {S : Loc} {ρ ρ0 : Env} {a : Act} (h : ER S ρ a) (hs : ρ.sub ρ0) : ER S ρ0 a := by
  refine ⟨h.1.trans hs.1.symm, fun t => ?_⟩
  rcases look_sub ρ.get ρ0.l t hs.2 with e | e
  · have e2 : ρ0.get t = .un := e
    rw [e2]; exact .un _
  · have e2 : ρ0.get t = ρ.get t := e
    rw [e2]; exact h.2 t
@[simp] theorem sub_mk (ρ : Env) (n : Nat) (l : List (Nat × V)) : ρ.sub ⟨n, l⟩ ↔ n = ρ.n ∧ ∀ p ∈ l, ρ.get p.1 = p.2 := Iff.rfl

@[simp] theorem get_put (ρ : Env) (d : Nat) (v : V) (t : Nat) : (ρ.put (some d) v).get t = if d = t then (if d < ρ.n then v else .un) else ρ.get t := (rfl)
@[simp] theorem put_none (ρ : Env) (v : V) : ρ.put none v = ρ := (rfl)
@[simp] theorem put_n (ρ : Env) (d : Option Tmp) (v : V) : (ρ.put d v).n = ρ.n := by cases d <;> rfl
@[simp] theorem get_mk_cons (n t u : Nat) (v : V) (l : List (Nat × V)) : (Env.mk n ((u, v) :: l)).get t = if u = t then v else (Env.mk n l).get t := (rfl)
@[simp] theorem get_mk_nil (n t : Nat) : (Env.mk n []).get t = .un := (rfl)
@[simp] theorem mk_n (n : Nat) (l : List (Nat × V)) : (Env.mk n l).n = n := (rfl)
theorem init_eq (n : Nat) (args : List V) : Env.init n args = ⟨args.length + (n - args.length), Env.zip 0 args⟩ := rfl
@[simp] theorem zip_nil (i : Nat) : Env.zip i [] = [] := (rfl)
@[simp] theorem zip_cons (i : Nat) (v : V) (l : List V) : Env.zip i (v :: l) = (i, v) :: Env.zip (i + 1) l := (rfl)
@[simp] theorem keep_eq (ρ : Env) (idx : List Nat) : ρ.keep idx = ⟨ρ.n, idx.map fun t => (t, ρ.get t)⟩ := (rfl)
@[simp] theorem aev_tmp (ρ : Env) (t : Nat) : aev ρ (.tmp t) = ρ.get t := (rfl)
@[simp] theorem aev_func (ρ : Env) (f : Nat) : aev ρ (.func f) = .fn (.func f) [] [] := (rfl)
@[simp] theorem aev_bool (ρ : Env) (b : Bool) : aev ρ (.const (.bool b)) = .b b := (rfl)
@[simp] theorem aev_int (ρ : Env) (k : IntKind) (n : Int) : aev ρ (.const (.int k n)) = .i k n := (rfl)
@[simp] theorem aev_string (ρ : Env) (c : ByteArray) : aev ρ (.const (.string c)) = .s c.data.toList := (rfl)
@[simp] theorem aev_pnil (ρ : Env) : aev ρ (.const (.pointer none)) = .p none := (rfl)
@[simp] theorem aev_slnil (ρ : Env) : aev ρ (.const (.slice none 0 0)) = .sl none 0 false := (rfl)
@[simp] theorem aev_mnil (ρ : Env) : aev ρ (.const (.map none)) = .m none := (rfl)
@[simp] theorem aev_fnil (ρ : Env) : aev ρ (.const .nilFunc) = .nf := (rfl)
@[simp] theorem aev_inil (ρ : Env) : aev ρ (.const .nilIface) = .nif := (rfl)
@[simp] theorem aev_agg (ρ : Env) (cs : Array Value) : aev ρ (.const (.agg cs)) = absV (.agg cs) := (rfl)

section
variable {P : Program} [Laid P] {ops : Array Oper} {ρ : Env} {H : AH}

@[simp] theorem AOps_nil {K : Env → AH → Prop} : AOps P ops [] K ρ H = K ρ H := (rfl)
@[simp] theorem AOps_cons {o : Oper} {l : List Oper} {K : Env → AH → Prop} : AOps P ops (o :: l) K ρ H = AStep P ops o ρ H (AOps P ops l K) := (rfl)

section
variable {K : Env → AH → Prop} {d : Option Tmp} {op : Op} {ty : TypeId} {pos : String} {aft : Array Edge}
@[simp] theorem AStep_none : AStep P ops ⟨d, op, ty, pos, aft, none⟩ ρ H K = AOp P ⟨d, op, ty, pos, aft, none⟩ ρ H (fun v H' => K (ρ.put d v) H') := (rfl)
/-- What a guard's temporary says. -/
def guardSays (v : V) : Option (Option Bool) :=
  match v with
  | .b b => some (some b)
  | .tup [] => some none
  | _ => none
@[simp] theorem guardSays_b (b : Bool) : guardSays (.b b) = some (some b) := (rfl)
@[simp] theorem guardSays_tup : guardSays (.tup []) = some none := (rfl)
/-- A guarded operation: 'x' is what the guard yielded. -/
def AGuard (P : Program) [Laid P] (o : Oper) (want : Bool) (ρ : Env) (H : AH) (K : Env → AH → Prop) (x : Option (Option Bool)) : Prop :=
  match x with
  | some r => if r == some want then AOp P o ρ H (fun v H' => K (ρ.put o.dst v) H') else K (ρ.put o.dst (.tup [])) H
  | none => False
def yieldedAt (ρ : Env) (x : Option Tmp) : Option (Option Bool) :=
  match x with
  | none => some none
  | some t => if t < ρ.n then guardSays (ρ.get t) else none
@[simp] theorem yieldedAt_some (ρ : Env) (t : Nat) : yieldedAt ρ (some t) = if t < ρ.n then guardSays (ρ.get t) else none := (rfl)
@[simp] theorem AStep_some {j : Nat} {want : Bool} :
    AStep P ops ⟨d, op, ty, pos, aft, some (j, want)⟩ ρ H K = AGuard P ⟨d, op, ty, pos, aft, some (j, want)⟩ want ρ H K (yieldedAt ρ ((ops[j]?).bind fun o => o.dst)) := by
  have e : ayielded ops ρ j = yieldedAt ρ ((ops[j]?).bind fun o => o.dst) := by
    unfold ayielded yieldedAt guardSays
    cases (ops[j]?).bind fun o => o.dst <;> rfl
  unfold AStep AGuard
  rw [← e]
  rfl
@[simp] theorem AGuard_yes {want : Bool} {g : Option (Nat × Bool)} : AGuard P ⟨d, op, ty, pos, aft, g⟩ want ρ H K (some (some want)) = AOp P ⟨d, op, ty, pos, aft, g⟩ ρ H (fun v H' => K (ρ.put d v) H') := by
  simp [AGuard]
@[simp] theorem AGuard_tf {g : Option (Nat × Bool)} : AGuard P ⟨d, op, ty, pos, aft, g⟩ true ρ H K (some (some false)) = K (ρ.put d (.tup [])) H := (rfl)
@[simp] theorem AGuard_ft {g : Option (Nat × Bool)} : AGuard P ⟨d, op, ty, pos, aft, g⟩ false ρ H K (some (some true)) = K (ρ.put d (.tup [])) H := (rfl)
@[simp] theorem AGuard_none {want : Bool} {g : Option (Nat × Bool)} : AGuard P ⟨d, op, ty, pos, aft, g⟩ want ρ H K (some none) = K (ρ.put d (.tup [])) H := (rfl)
end

section
variable {K : V → AH → Prop} {d : Option Tmp} {ty : TypeId} {pos : String} {aft : Array Edge} {g : Option (Nat × Bool)}
theorem ex_some {v : V} {H0 : AH} : (∃ v' H', some (v, H0) = some (v', H') ∧ K v' H') = K v H0 := by
  apply propext; constructor
  · rintro ⟨v', H', e, h⟩; cases e; exact h
  · exact fun h => ⟨v, H0, rfl, h⟩
theorem ex_map {x : Option V} : (∃ v H', x.map (·, H) = some (v, H') ∧ K v H') = (∃ v, x = some v ∧ K v H) := by
  apply propext; constructor
  · rintro ⟨v, H', e, h⟩
    cases x with
    | none => cases e
    | some y => cases e; exact ⟨_, rfl, h⟩
  · rintro ⟨v, e, h⟩; exact ⟨v, H, by rw [e]; rfl, h⟩
theorem ex_mapH {x : Option AH} : (∃ v H', x.map (V.un, ·) = some (v, H') ∧ K v H') = (∃ H', x = some H' ∧ K .un H') := by
  apply propext; constructor
  · rintro ⟨v, H', e, h⟩
    cases x with
    | none => cases e
    | some y => cases e; exact ⟨_, rfl, h⟩
  · rintro ⟨v, e, h⟩; exact ⟨_, _, by rw [e]; rfl, h⟩
@[simp] theorem AOp_move {x : Operand} : AOp P ⟨d, .move x, ty, pos, aft, g⟩ ρ H K = K (aev ρ x) H := ex_some
@[simp] theorem AOp_assign {x : Operand} : AOp P ⟨d, .assign x, ty, pos, aft, g⟩ ρ H K = K (aev ρ x) H := ex_some
def apick (c a b : V) : Option V := match c with | .b true => some a | .b false => some b | _ => none
@[simp] theorem apick_true (a b : V) : apick (.b true) a b = some a := (rfl)
@[simp] theorem apick_false (a b : V) : apick (.b false) a b = some b := (rfl)
@[simp] theorem AOp_pick {c a b : Operand} : AOp P ⟨d, .pick c a b, ty, pos, aft, g⟩ ρ H K = ∃ v, apick (aev ρ c) (aev ρ a) (aev ρ b) = some v ∧ K v H := by
  refine Eq.trans ?_ (ex_map (H := H))
  unfold AOp aop apick
  dsimp only
  generalize aev ρ c = x
  cases x <;> try rfl
  rename_i b; cases b <;> rfl
@[simp] theorem AOp_alloc {t : TypeId} : AOp P ⟨d, .alloc t, ty, pos, aft, g⟩ ρ H K = ∃ l, (qzero P t).bind V.cells = some l ∧ K (.p (some (H.next, 0, 0))) (H.new (.cells l 0 false 0)) := by
  unfold AOp aop
  dsimp only
  cases qzero P t with
  | none => simp
  | some z =>
    dsimp only [Option.bind_some]
    cases hz : z.cells with
    | none => simp
    | some l => exact (ex_some).trans (by simp)
@[simp] theorem AOp_box {t : TypeId} {x : Operand} : AOp P ⟨d, .box t x, ty, pos, aft, g⟩ ρ H K = ∃ l, (aev ρ x).cells = some l ∧ K (.p (some (H.next, 0, 0))) (H.new (.cells l 0 false 0)) := by
  unfold AOp aop
  dsimp only
  cases hz : (aev ρ x).cells with
  | none => simp
  | some l => exact (ex_some).trans (by simp)
@[simp] theorem AOp_build {t : TypeId} {ps : Array (Nat × Operand)} : AOp P ⟨d, .build t ps, ty, pos, aft, g⟩ ρ H K = ∃ v, abuild P t (ps.toList.map fun (i, x) => (i, aev ρ x)) = some v ∧ K v H := ex_map (H := H)
@[simp] theorem AOp_buildSlice {t : TypeId} {n : Nat} {ps : Array (Nat × Operand)} : AOp P ⟨d, .buildSlice t n ps, ty, pos, aft, g⟩ ρ H K = ∃ v H', abuildSlice P H t n (ps.toList.map fun (i, x) => (i, aev ρ x)) = some (v, H') ∧ K v H' := (rfl)
@[simp] theorem AOp_load {t : TypeId} {a : Operand} : AOp P ⟨d, .load t a, ty, pos, aft, g⟩ ρ H K = ∃ v, aload P H t (aev ρ a) = some v ∧ K v H := ex_map (H := H)
@[simp] theorem AOp_store {t : TypeId} {a x : Operand} : AOp P ⟨d, .store t a x, ty, pos, aft, g⟩ ρ H K = ∃ H', astore P H t (aev ρ a) (aev ρ x) = some H' ∧ K .un H' := ex_mapH
def anil (v : V) : Option V := match v with | .p (some q) => some (.p (some q)) | .ifc t v => some (.ifc t v) | .fn (.func f) a b => some (.fn (.func f) a b) | _ => none
@[simp] theorem anil_p (q : Nat × Nat × Nat) : anil (.p (some q)) = some (.p (some q)) := (rfl)
@[simp] theorem AOp_nilCheck {x : Operand} : AOp P ⟨d, .nilCheck x, ty, pos, aft, g⟩ ρ H K = ∃ v, anil (aev ρ x) = some v ∧ K v H := by
  refine Eq.trans ?_ (ex_map (H := H))
  unfold AOp aop anil
  dsimp only
  generalize aev ρ x = v
  cases v <;> try rfl
  · rename_i x; cases x <;> rfl
  · rename_i f _ _; cases f <;> rfl
@[simp] theorem AOp_bin {op : BinOp} {t t2 : TypeId} {x y : Operand} : AOp P ⟨d, .binOp op t x y t2, ty, pos, aft, g⟩ ρ H K = ∃ v, abin P op t (aev ρ x) (aev ρ y) = some v ∧ K v H := ex_map (H := H)
@[simp] theorem AOp_un {op : UnOp} {t : TypeId} {x : Operand} : AOp P ⟨d, .unOp op t x, ty, pos, aft, g⟩ ρ H K = ∃ v, aunary op (aev ρ x) = some v ∧ K v H := ex_map (H := H)
@[simp] theorem AOp_convert {s t : TypeId} {x : Operand} : AOp P ⟨d, .convert s t x, ty, pos, aft, g⟩ ρ H K = ∃ v H', aconvert P H s t (aev ρ x) = some (v, H') ∧ K v H' := (rfl)
@[simp] theorem AOp_makeInterface {t : TypeId} {x : Operand} : AOp P ⟨d, .makeInterface t x, ty, pos, aft, g⟩ ρ H K = (qconcrete P t = true ∧ K (.ifc t (aev ρ x)) H) := by
  unfold AOp aop
  dsimp only
  cases qconcrete P t with
  | false => simp
  | true => simp only [if_true, true_and]; exact ex_some
@[simp] theorem AOp_makeFunc {f : Fn} {a b : Array Operand} : AOp P ⟨d, .makeFunc f a b, ty, pos, aft, g⟩ ρ H K = K (.fn f (evs (aev ρ) a) (evs (aev ρ) b)) H := ex_some
@[simp] theorem AOp_makeMap {t : TypeId} : AOp P ⟨d, .makeMap t none, ty, pos, aft, g⟩ ρ H K = K (.m (some H.next)) (H.new (.map [] 0)) := ex_some
@[simp] theorem AOp_slice {t : TypeId} {x : Operand} {lo hi mx : Option Operand} : AOp P ⟨d, .slice t x lo hi mx, ty, pos, aft, g⟩ ρ H K = ∃ v, aslice P H t (aev ρ x) (lo.map (aev ρ)) (hi.map (aev ρ)) (mx.map (aev ρ)) = some v ∧ K v H := ex_map (H := H)
@[simp] theorem AOp_fieldAddr {t : TypeId} {x : Operand} {f : Nat} : AOp P ⟨d, .fieldAddr t x f, ty, pos, aft, g⟩ ρ H K = ∃ v, afieldAddr P t f (aev ρ x) = some v ∧ K v H := ex_map (H := H)
@[simp] theorem AOp_field {t : TypeId} {x : Operand} {f : Nat} : AOp P ⟨d, .field t x f, ty, pos, aft, g⟩ ρ H K = ∃ v, afield P t f (aev ρ x) = some v ∧ K v H := ex_map (H := H)
@[simp] theorem AOp_indexAddr {t : TypeId} {x i : Operand} : AOp P ⟨d, .indexAddr t x i, ty, pos, aft, g⟩ ρ H K = ∃ v, aindexAddr P t (aev ρ x) (aev ρ i) = some v ∧ K v H := ex_map (H := H)
@[simp] theorem AOp_index {t : TypeId} {x i : Operand} : AOp P ⟨d, .index t x i, ty, pos, aft, g⟩ ρ H K = ∃ v, aindex P t (aev ρ x) (aev ρ i) = some v ∧ K v H := ex_map (H := H)
@[simp] theorem AOp_lookup {t : TypeId} {x i : Operand} {ok : Bool} : AOp P ⟨d, .lookup t x i ok, ty, pos, aft, g⟩ ρ H K = ∃ v, alookup P H t (aev ρ x) (aev ρ i) ok = some v ∧ K v H := ex_map (H := H)
@[simp] theorem AOp_mapUpdate {t : TypeId} {m k x : Operand} : AOp P ⟨d, .mapUpdate t m k x, ty, pos, aft, g⟩ ρ H K = ∃ H', amapUpdate P H t (aev ρ m) (aev ρ k) (aev ρ x) = some H' ∧ K .un H' := ex_mapH
@[simp] theorem AOp_insert {t : TypeId} {m k x : Operand} : AOp P ⟨d, .insert t m k x, ty, pos, aft, g⟩ ρ H K = ∃ H', amapUpdate P H t (aev ρ m) (aev ρ k) (aev ρ x) = some H' ∧ K .un H' := ex_mapH
def atup (v : V) (i : Nat) : Option V := match v with | .tup l => l[i]? | _ => none
@[simp] theorem atup_tup (l : List V) (i : Nat) : atup (.tup l) i = l[i]? := (rfl)
@[simp] theorem AOp_extract {x : Operand} {i : Nat} : AOp P ⟨d, .extract x i, ty, pos, aft, g⟩ ρ H K = ∃ v, atup (aev ρ x) i = some v ∧ K v H := by
  refine Eq.trans ?_ (ex_map (H := H))
  unfold AOp aop atup
  dsimp only
  generalize aev ρ x = v
  cases v <;> rfl
@[simp] theorem AOp_len {x : Operand} {t : TypeId} : AOp P ⟨d, .call { callee := .builtin .len, args := #[x], argTypes := #[t] }, ty, pos, aft, g⟩ ρ H K = ∃ v, alen P H t (aev ρ x) = some v ∧ K v H := ex_map (H := H)
@[simp] theorem AOp_append {s x : Operand} {t t2 : TypeId} : AOp P ⟨d, .call { callee := .builtin .append, args := #[s, x], argTypes := #[t, t2] }, ty, pos, aft, g⟩ ρ H K = ∃ v H', aappend P H t t2 (aev ρ s) (aev ρ x) = some (v, H') ∧ K v H' := (rfl)
@[simp] theorem AOp_delete {m k : Operand} {t t2 : TypeId} : AOp P ⟨d, .call { callee := .builtin .delete, args := #[m, k], argTypes := #[t, t2] }, ty, pos, aft, g⟩ ρ H K = ∃ H', adelete P H t (aev ρ m) (aev ρ k) = some H' ∧ K .un H' := ex_mapH
@[simp] theorem AOp_min {x y : Operand} {ts : Array TypeId} : AOp P ⟨d, .call { callee := .builtin .min, args := #[x, y], argTypes := ts }, ty, pos, aft, g⟩ ρ H K = ∃ v, amin2 (aev ρ x) (aev ρ y) = some v ∧ K v H := by
  refine Eq.trans ?_ (ex_map (H := H))
  have : afold amin2 (aev ρ x) [aev ρ y] = amin2 (aev ρ x) (aev ρ y) := by simp only [afold]; cases amin2 (aev ρ x) (aev ρ y) <;> rfl
  rw [← this]; rfl
@[simp] theorem AOp_max {x y : Operand} {ts : Array TypeId} : AOp P ⟨d, .call { callee := .builtin .max, args := #[x, y], argTypes := ts }, ty, pos, aft, g⟩ ρ H K = ∃ v, amax2 (aev ρ x) (aev ρ y) = some v ∧ K v H := by
  refine Eq.trans ?_ (ex_map (H := H))
  have : afold amax2 (aev ρ x) [aev ρ y] = amax2 (aev ρ x) (aev ρ y) := by simp only [afold]; cases amax2 (aev ρ x) (aev ρ y) <;> rfl
  rw [← this]; rfl
@[simp] theorem AOp_range {t : TypeId} {x : Operand} : AOp P ⟨d, .range t x, ty, pos, aft, g⟩ ρ H K = ∃ v H', arange P H t (aev ρ x) = some (v, H') ∧ K v H' := (rfl)
@[simp] theorem AOp_mapEntry {t : TypeId} {m k : Operand} : AOp P ⟨d, .mapEntry t m k, ty, pos, aft, g⟩ ρ H K = ∃ v H', amapEntry P H t (aev ρ m) (aev ρ k) = some (v, H') ∧ K v H' := (rfl)
@[simp] theorem AOp_entryStore {t : TypeId} {m b x : Operand} : AOp P ⟨d, .entryStore t m b x, ty, pos, aft, g⟩ ρ H K = ∃ H', aentryStore H (aev ρ m) (aev ρ b) (aev ρ x) = some H' ∧ K .un H' := ex_mapH
@[simp] theorem AOp_typeAssert {x : Operand} {t0 t : TypeId} {ok : Bool} : AOp P ⟨d, .typeAssert x t0 t ok, ty, pos, aft, g⟩ ρ H K = ∃ v, atypeAssert P t ok (aev ρ x) = some v ∧ K v H := ex_map (H := H)
@[simp] theorem AOp_entry {x : Operand} : AOp P ⟨d, .entry x, ty, pos, aft, g⟩ ρ H K = ∃ v, aentry H (aev ρ x) = some v ∧ K v H := ex_map (H := H)
@[simp] theorem AOp_nextS {x : Operand} : AOp P ⟨d, .next x true, ty, pos, aft, g⟩ ρ H K = ∃ v H', anextS H (aev ρ x) = some (v, H') ∧ K v H' := (rfl)
@[simp] theorem AOp_next {x : Operand} : AOp P ⟨d, .next x false, ty, pos, aft, g⟩ ρ H K = ANext H (aev ρ x) K := (rfl)
@[simp] theorem AOp_call {f : FuncId} {args : Array Operand} {ts : Array TypeId} : AOp P ⟨d, .call { callee := .value (.func f), args := args, argTypes := ts }, ty, pos, aft, g⟩ ρ H K = ACalls P f (args.toList.map (aev ρ)) H K := by
  unfold AOp
  simp [evs]
theorem AOp_callv {x : Operand} {args : Array Operand} {ts : Array TypeId} {f : FuncId} {first caps : List V} (hx : aev ρ x = .fn (.func f) first caps) : AOp P ⟨d, .call { callee := .value x, args := args, argTypes := ts }, ty, pos, aft, g⟩ ρ H K = ACalls P f (first ++ args.toList.map (aev ρ) ++ caps) H K := by
  unfold AOp
  simp only [hx, evs]
end

/-! Code. -/
variable {r : Fm} {Q : Exit → Env → AH → Prop}
/-- A region, in the text's order; what lives on is kept. -/
theorem AW_reg {id : Nat} (idx : List Nat) (h : ∀ K : Env → AH → Prop, (∀ ρ' H', Q .normal ρ' H' → K ρ' H') → AOps P ops ops.toList (fun ρ' H' => K (ρ'.keep idx) H') ρ H) : AW r P (.region id ops false) Q ρ H := by
  intro C B S a w hl hB hH hE hd
  refine wpIn_region ?_
  have := AOps.sound (r := r) (C := C) (S := S) (P := P) (B := B) (Q := fun e a' w' => Lift C B (Q e) a' w') hl ops.toList 0 (fun j o hj => by simpa using hj) (fun a w ⟨S', ρ', H', h1, h2, h3, h4, h5⟩ => ⟨S', ρ'.keep idx, H', h1, h2, h3.keep idx, h4, h5⟩) (h _ fun _ _ h => h) hB.2 hH hE hd
  rw [List.range_eq_range']
  simpa using this
/-- A region that ends in one known state, whatever way it takes. -/
theorem AW_regto {id : Nat} (idx : List Nat) (ρ1 : Env) (H1 : AH) (h : ∀ K : Env → AH → Prop, K ρ1 H1 → AOps P ops ops.toList (fun ρ' H' => K (ρ'.keep idx) H') ρ H) (hr : Q .normal ρ1 H1) : AW r P (.region id ops false) Q ρ H :=
  AW_reg idx fun K hK => h K (hK _ _ hr)
/-- A region that draws its order: 'mm' says what may turn while loads are put off. -/
theorem AW_regm (mm : Md) {id : Nat} (idx : List Nat) (pl : Plan) (ext : Bool) (hm : P.follows .mixedOrders = true) (hok : planOk P .any ops ext pl true (Array.replicate ops.size false) = true) (hdep : pl.depth ≤ ops.size)
    (h : ∀ K : Env → AH → Prop, (∀ ρ' H', Q .normal ρ' H' → K ρ' H') → APlan P ops mm pl (fun ρ' H' => K (ρ'.keep idx) H') ρ H) : AW r P (.region id ops true) Q ρ H := by
  have h1 : AW r P (.region id ops true) (fun e ρ H => match e with | .normal => Q .normal (ρ.keep idx) H | e => Q e ρ H) ρ H := AW_region_draw mm pl ext hm hok hdep (h _ fun _ _ h => h)
  intro C B S a w hl hB hH hE hd
  refine wpIn_mono (h1 C B S a w hl hB hH hE hd) fun e a w ⟨S', ρ', H', h1, h2, h3, h4, h5⟩ => ?_
  cases e with
  | normal => exact ⟨S', ρ'.keep idx, H', h1, h2, h3.keep idx, h4, h5⟩
  | exit id => exact ⟨S', ρ', H', h1, h2, h3, h4, h5⟩
  | goto id => exact ⟨S', ρ', H', h1, h2, h3, h4, h5⟩
  | ret => exact ⟨S', ρ', H', h1, h2, h3, h4, h5⟩
  | panic c => exact ⟨S', ρ', H', h1, h2, h3, h4, h5⟩
  | outgrown => exact ⟨S', ρ', H', h1, h2, h3, h4, h5⟩
/-- A region that draws its order. -/
theorem AW_regd {id : Nat} (idx : List Nat) (pl : Plan) (ext : Bool) (hm : P.follows .mixedOrders = true) (hok : planOk P .any ops ext pl true (Array.replicate ops.size false) = true) (hdep : pl.depth ≤ ops.size)
    (h : ∀ K : Env → AH → Prop, (∀ ρ' H', Q .normal ρ' H' → K ρ' H') → APlan P ops .ext pl (fun ρ' H' => K (ρ'.keep idx) H') ρ H) : AW r P (.region id ops true) Q ρ H :=
  AW_regm .ext idx pl ext hm hok hdep h
@[simp] theorem APlan_done {mm : Md} {K : Env → AH → Prop} : APlan P ops mm .done K ρ H = K ρ H := (rfl)
@[simp] theorem APlan_stop {mm : Md} {K : Env → AH → Prop} : APlan P ops mm .stop K ρ H = True := (rfl)
/-- The operation at a place of the region. -/
def AAt (P : Program) [Laid P] (ops : Array Oper) (x : Option Oper) (ρ : Env) (H : AH) (K : Env → AH → Prop) : Prop :=
  match x with
  | some o => AStep P ops o ρ H K
  | none => False
@[simp] theorem AAt_some {o : Oper} {K : Env → AH → Prop} : AAt P ops (some o) ρ H K = AStep P ops o ρ H K := (rfl)
/-- May it be put first? -/
def ATk (mm : Md) (x : Option Oper) (ρ : Env) : Prop :=
  match x with
  | some o => tkOk mm (through o.op (aev ρ)) = true
  | none => True
@[simp] theorem ATk_some {mm : Md} {o : Oper} : ATk mm (some o) ρ = (tkOk mm (through o.op (aev ρ)) = true) := (rfl)
theorem APlan_takem {mm : Md} {K : Env → AH → Prop} {i : Nat} {p : Plan} : APlan P ops mm (.take i p) K ρ H = (ATk mm (ops[i]?) ρ ∧ AAt P ops (ops[i]?) ρ H (APlan P ops mm p K)) := by
  unfold APlan ATk AAt
  cases ops[i]? <;> simp
@[simp] theorem APlan_take {K : Env → AH → Prop} {i : Nat} {p : Plan} : APlan P ops .ext (.take i p) K ρ H = AAt P ops (ops[i]?) ρ H (APlan P ops .ext p K) := by
  unfold APlan AAt
  cases ops[i]? <;> simp [tkOk]
@[simp] theorem APlan_alt {mm : Md} {K : Env → AH → Prop} {i : Nat} {p q : Plan} {x : Bool} : APlan P ops mm (.alt i x p q) K ρ H = (AAt P ops (ops[i]?) ρ H (fun ρ' H' => (if x then RM mm H H' else True) ∧ APlan P ops mm p K ρ' H') ∧ APlan P ops mm q K ρ H) := (rfl)
@[simp] theorem keep_new (lo : Nat) (H : AH) (o : O) : Keep lo H (H.new o) := Keep.new lo H o
@[simp] theorem keep_refl (lo : Nat) (H : AH) : Keep lo H H := Keep.refl lo H
@[simp] theorem keep_set {lo : Nat} (H : AH) {k : Nat} (o : O) (hk : lo ≤ k) : Keep lo H (H.set k o) := Keep.set H o hk
@[simp] theorem RM_some {n0 : Nat} {H H' : AH} : RM (.base n0) H H' = Keep n0 H H' := (rfl)
@[simp] theorem RM_none {H H' : AH} : RM .ext H H' = H.ext H' := (rfl)
@[simp] theorem RM_only {ids : List Nat} {H H' : AH} : RM (.only ids) H H' = (H.next ≤ H'.next ∧ ∀ j ∈ ids, j < H.next → H'.get j = H.get j) := (rfl)
@[simp] theorem ext_new (H : AH) (o : O) : H.ext (H.new o) := AH.ext.new H o
@[simp] theorem ext_refl (H : AH) : H.ext H := AH.ext.refl H
theorem AW_cond' {c : Operand} {x y : Code} {v : V} (hv : aev ρ c = v) {b : Bool} (hb : v = .b b) (h1 : b = true → AW r P x Q ρ H) (h2 : b = false → AW r P y Q ρ H) : AW r P (.cond c x y) Q ρ H := by
  refine AW_cond (hv.trans hb) ?_
  cases b
  · exact h2 rfl
  · exact h1 rfl
end

theorem AW_cut {r : Fm} {P : Program} [Laid P] {x y : Code} {Q : Exit → Env → AH → Prop} {ρ : Env} {H : AH} (M : Env → AH → Prop) (h1 : AW r P x (AThen (fun ρ H => ∃ ρ0, ρ.sub ρ0 ∧ M ρ0 H) Q) ρ H) (h2 : ∀ ρ H, M ρ H → AW r P y Q ρ H) : AW r P (.seq x y) Q ρ H := by
  refine AW_seq (h1.mono fun e ρ H h => ?_)
  cases e with
  | normal =>
    obtain ⟨ρ0, hs, hM⟩ := h
    exact fun C B S a w hl hB hH hE hd => h2 ρ0 H hM C B S a w hl hB hH (hE.sub hs) hd
  | exit id => exact h
  | goto l => exact h
  | ret => exact h
  | panic c => exact h
  | outgrown => exact h
/-- A part that ends in one known state. -/
theorem AW_cutto {r : Fm} {P : Program} [Laid P] {x y : Code} {Q : Exit → Env → AH → Prop} {ρ : Env} {H : AH} (ρ1 : Env) (H1 : AH) (h1 : AW r P x (AThen (fun ρ H => ρ = ρ1 ∧ H = H1) Q) ρ H) (h2 : AW r P y Q ρ1 H1) : AW r P (.seq x y) Q ρ H := by
  refine AW_seq (h1.mono fun e ρ H h => ?_)
  cases e with
  | normal => obtain ⟨rfl, rfl⟩ := h; exact h2
  | exit id => exact h
  | goto l => exact h
  | ret => exact h
  | panic c => exact h
  | outgrown => exact h
/-- A loop: what its head looks like ('x' tells the round), what holds of the memory, and a measure. -/
theorem AW_sub {r : Fm} {P : Program} [Laid P] {Q : Exit → Env → AH → Prop} {ρ ρ0 : Env} {H : AH} {c : Code} (hs : ρ.sub ρ0) (h : AW r P c Q ρ0 H) : AW r P c Q ρ H :=
  fun C B S a w hl hB hH hE hd => h C B S a w hl hB hH (hE.sub hs) hd
theorem AW_loopx {r : Fm} {P : Program} [Laid P] {Q : Exit → Env → AH → Prop} {ρ : Env} {H : AH} {c : Code} {α : Type} (E : α → Env) (M : α → AH → Prop) (μ : α → Nat) (x0 : α) (h0 : ρ.sub (E x0)) (hM : M x0 H)
    (round : ∀ x H, M x H → AW r P c (AThen (fun ρ' H' => ∃ y, ρ'.sub (E y) ∧ M y H' ∧ μ y < μ x) Q) (E x) H) : AW r P (.loop c) Q ρ H := by
  refine AW_sub h0 (AW_loopn (fun n ρ H => ∃ x, ρ = E x ∧ M x H ∧ μ x = n) (μ x0) ⟨x0, rfl, hM, rfl⟩ ?_)
  rintro n ρ H ⟨x, rfl, hx, rfl⟩
  refine (round x H hx).mono fun e ρ' H' h => ?_
  cases e with
  | normal =>
    obtain ⟨y, h1, h2, h3⟩ := h
    exact ⟨μ y, h3, E y, H', fun S a hE => hE.sub h1, .inl rfl, y, rfl, h2, rfl⟩
  | exit id => exact h
  | goto l => exact h
  | ret => exact h
  | panic c => exact h
  | outgrown => exact h

/-- An environment that names only what there was. -/
def Env.lt (n : Nat) (ρ : Env) : Prop := ∀ p ∈ ρ.l, V.lt n p.2 = true
theorem Env.lt.get {n : Nat} {ρ : Env} (h : ρ.lt n) (t : Nat) : V.lt n (ρ.get t) = true := by
  obtain ⟨m, l⟩ := ρ
  have h' : ∀ p ∈ l, V.lt n p.2 = true := h
  clear h
  show V.lt n (Env.look l t) = true
  induction l with
  | nil => rfl
  | cons p l ih =>
    obtain ⟨u, v⟩ := p
    simp only [Env.look]
    split
    · exact h' (u, v) (by simp)
    · exact ih fun p hp => h' p (by simp [hp])
@[simp] theorem lt_mk_nil (n m : Nat) : (Env.mk m []).lt n ↔ True := by simp [Env.lt]
@[simp] theorem lt_mk_cons (n m t : Nat) (v : V) (l : List (Nat × V)) : (Env.mk m ((t, v) :: l)).lt n ↔ V.lt n v = true ∧ (Env.mk m l).lt n := by simp [Env.lt]
/-- A loop that leaves the memory as it was: what each round made is forgotten at its end. -/
theorem AW_loop0 {r : Fm} {P : Program} [Laid P] {Q : Exit → Env → AH → Prop} {ρ : Env} {H : AH} {c : Code} {α : Type} (E : α → Env) (M : α → Prop) (μ : α → Nat) (x0 : α) (h0 : ρ.sub (E x0)) (hM : M x0) (hb : r.base ≤ H.next)
    (round : H.wf → ∀ x, M x → AW r P c (AThen (fun ρ' H' => ∃ y, ρ'.sub (E y) ∧ M y ∧ μ y < μ x ∧ (H' = H ∨ (H.next ≤ H'.next ∧ (∀ j, j < H.next → H'.get j = H.get j) ∧ (E y).lt H.next))) Q) (E x) H) : AW r P (.loop c) Q ρ H := by
  refine AW_wf fun hw _ => AW_sub h0 (AW_loopn (fun n ρ H' => ∃ x, ρ = E x ∧ M x ∧ μ x = n ∧ H' = H) (μ x0) ⟨x0, rfl, hM, rfl, rfl⟩ ?_)
  rintro n ρ H' ⟨x, rfl, hx, rfl, rfl⟩
  refine (round hw x hx).mono fun e ρ' H' h => ?_
  cases e with
  | normal =>
    obtain ⟨y, h1, h2, h3, h4⟩ := h
    rcases h4 with rfl | ⟨h4, h5, h6⟩
    · exact ⟨μ y, h3, E y, _, fun S a hE => hE.sub h1, .inl rfl, y, rfl, h2, rfl, rfl⟩
    · exact ⟨μ y, h3, E y, _, fun S a hE => hE.sub h1, .inr ⟨hw, h4, fun j hj => (h5 j hj).symm, hb, h6.get⟩, y, rfl, h2, rfl, rfl⟩
  | exit id => exact h
  | goto l => exact h
  | ret => exact h
  | panic c => exact h
  | outgrown => exact h

/-! Values. -/
section
variable {P : Program}
@[simp] theorem abin_int {op : BinOp} {t : TypeId} {k : IntKind} {a b : Int} (h : (match op with | .shl | .shr => false | _ => true) = true) : abin P op t (.i k a) (.i k b) = aint op k a b := by
  cases op <;> simp at h <;> simp [abin]
@[simp] theorem abin_str {op : BinOp} {t : TypeId} {a b : List UInt8} : abin P op t (.s a) (.s b) = astr op a b := (rfl)
@[simp] theorem aint_add {k : IntKind} {a b : Int} : aint .add k a b = some (.i k (k.wrap (a + b))) := (rfl)
@[simp] theorem aint_sub {k : IntKind} {a b : Int} : aint .sub k a b = some (.i k (k.wrap (a - b))) := (rfl)
@[simp] theorem aint_mul {k : IntKind} {a b : Int} : aint .mul k a b = some (.i k (k.wrap (a * b))) := (rfl)
theorem beq_dec {α : Type} [DecidableEq α] (a b : α) : (a == b) = decide (a = b) := by
  by_cases h : a = b
  · subst h; simp
  · simp [h]
@[simp] theorem aint_eql {k : IntKind} {a b : Int} : aint .eql k a b = some (.b (decide (a = b))) := by simp only [aint, beq_dec]
@[simp] theorem aint_neq {k : IntKind} {a b : Int} : aint .neq k a b = some (.b (!decide (a = b))) := by simp only [aint, bne, beq_dec]
@[simp] theorem aint_lss {k : IntKind} {a b : Int} : aint .lss k a b = some (.b (decide (a < b))) := (rfl)
@[simp] theorem aint_leq {k : IntKind} {a b : Int} : aint .leq k a b = some (.b (decide (a ≤ b))) := (rfl)
@[simp] theorem aint_gtr {k : IntKind} {a b : Int} : aint .gtr k a b = some (.b (decide (a > b))) := (rfl)
@[simp] theorem aint_geq {k : IntKind} {a b : Int} : aint .geq k a b = some (.b (decide (a ≥ b))) := (rfl)
@[simp] theorem astr_eql {a b : List UInt8} : astr .eql a b = some (.b (decide (a = b))) := by by_cases h : a = b <;> simp [astr, h]
@[simp] theorem astr_neq {a b : List UInt8} : astr .neq a b = some (.b (!decide (a = b))) := by by_cases h : a = b <;> simp [astr, h]
@[simp] theorem astr_lss {a b : List UInt8} : astr .lss a b = some (.b (Op.bytesLess a b)) := (rfl)
@[simp] theorem aunary_not {b : Bool} : aunary .not (.b b) = some (.b (!b)) := (rfl)
@[simp] theorem abin_p_eql {t : TypeId} {x y : Option (Nat × Nat × Nat)} : abin P .eql t (.p x) (.p y) = (aeq P t (.p x) (.p y)).map .b := (rfl)
@[simp] theorem abin_p_neq {t : TypeId} {x y : Option (Nat × Nat × Nat)} : abin P .neq t (.p x) (.p y) = (aeq P t (.p x) (.p y)).map fun r => .b (!r) := (rfl)
@[simp] theorem abin_b_eql {t : TypeId} {x y : Bool} : abin P .eql t (.b x) (.b y) = (aeq P t (.b x) (.b y)).map .b := (rfl)
@[simp] theorem abin_b_neq {t : TypeId} {x y : Bool} : abin P .neq t (.b x) (.b y) = (aeq P t (.b x) (.b y)).map fun r => .b (!r) := (rfl)
@[simp] theorem abin_agg_eql {t : TypeId} {x y : List V} : abin P .eql t (.agg x) (.agg y) = (aeq P t (.agg x) (.agg y)).map .b := (rfl)
@[simp] theorem abin_agg_neq {t : TypeId} {x y : List V} : abin P .neq t (.agg x) (.agg y) = (aeq P t (.agg x) (.agg y)).map fun r => .b (!r) := (rfl)
@[simp] theorem abin_m_eql {t : TypeId} {x y : Option Nat} : abin P .eql t (.m x) (.m y) = (aeq P t (.m x) (.m y)).map .b := (rfl)
@[simp] theorem abin_m_neq {t : TypeId} {x y : Option Nat} : abin P .neq t (.m x) (.m y) = (aeq P t (.m x) (.m y)).map fun r => .b (!r) := (rfl)
@[simp] theorem abin_sl_eql {t : TypeId} {x y : Option (Nat × Nat × Nat)} {n m : Nat} {c e : Bool} : abin P .eql t (.sl x n c) (.sl y m e) = (aeq P t (.sl x n c) (.sl y m e)).map .b := (rfl)
@[simp] theorem abin_sl_neq {t : TypeId} {x y : Option (Nat × Nat × Nat)} {n m : Nat} {c e : Bool} : abin P .neq t (.sl x n c) (.sl y m e) = (aeq P t (.sl x n c) (.sl y m e)).map fun r => .b (!r) := (rfl)
/-- Is it a type of pointers? -/
def qptr (P : Program) (t : TypeId) : Bool := match P.underlying t with | some (.pointer _) => true | _ => false
def qbool (P : Program) (t : TypeId) : Bool := match P.underlying t with | some .bool => true | _ => false
theorem aeq_pnn {t : TypeId} (h : qptr P t = true) : aeq P t (.p none) (.p none) = some true := by
  unfold qptr at h; unfold aeq; split at h <;> simp_all
theorem aeq_psn {t : TypeId} {q : Nat × Nat × Nat} (h : qptr P t = true) : aeq P t (.p (some q)) (.p none) = some false := by
  unfold qptr at h; unfold aeq; split at h <;> simp_all
theorem aeq_pns {t : TypeId} {q : Nat × Nat × Nat} (h : qptr P t = true) : aeq P t (.p none) (.p (some q)) = some false := by
  unfold qptr at h; unfold aeq; split at h <;> simp_all
theorem aeq_bb {t : TypeId} {x y : Bool} (h : qbool P t = true) : aeq P t (.b x) (.b y) = some (x == y) := by
  unfold qbool at h; unfold aeq; split at h <;> simp_all
end

/-! More queries, and what they give. -/
section
variable {P : Program} {H : AH}
/-- What may be appended. -/
def qsrc (P : Program) (t : TypeId) : Bool := match P.underlying t with | some d => descSrc d | none => false
/-- A key that is an int or a text. -/
def qplainKey (P : Program) (t : TypeId) : Bool := match P.underlying t with | some (.int _) | some .string => true | _ => false
/-- It is a slice of bytes. -/
def qbs (P : Program) (t : TypeId) : Bool := match P.underlying t with | some (.slice e) => (match P.underlying e with | some (.int .u8) => true | _ => false) | _ => false
def qthere (P : Program) (t : TypeId) : Bool := (P.underlying t).isSome
theorem keyFits_plain {t : TypeId} {k : V} (h : qplainKey P t = true) : keyFits P t k = true := by
  unfold qplainKey at h; unfold keyFits; split at h <;> simp_all
theorem keq_s {t : TypeId} {a c : List UInt8} (h : qstr P t = true) : keq P t (.s a) (.s c) = some (a == c) := by
  unfold qstr at h; unfold keq; split at h <;> simp_all
theorem keq_i {t : TypeId} {k : IntKind} {a c : Int} (h : qint P t = some k) : keq P t (.i k a) (.i k c) = some (a == c) := by
  unfold qint at h; unfold keq; split at h <;> simp_all
theorem conv_int {s t : TypeId} {k k' : IntKind} {n : Int} (h : qthere P s = true) (h2 : qint P t = some k) : aconvert P H s t (.i k' n) = some (.i k (k.wrap n), H) := by
  unfold qthere at h; unfold qint at h2; unfold aconvert
  cases hs : P.underlying s with
  | none => simp [hs] at h
  | some d =>
    split at h2 <;> simp_all
theorem conv_str {s t : TypeId} {l : List UInt8} (h : qthere P s = true) (h2 : qstr P t = true) : aconvert P H s t (.s l) = some (.s l, H) := by
  unfold qthere at h; unfold qstr at h2; unfold aconvert
  cases hs : P.underlying s with
  | none => simp [hs] at h
  | some d =>
    split at h2 <;> simp_all
theorem conv_bytes {s t : TypeId} {l : List UInt8} (h : qthere P s = true) (h2 : qbs P t = true) : aconvert P H s t (.s l) = some (.sl (some (H.next, 0, 0)) l.length false, H.new (.cells (bytesV l) 0 false 1)) := by
  unfold qthere at h; unfold qbs at h2; unfold aconvert
  cases hs : P.underlying s with
  | none => simp [hs] at h
  | some d =>
    split at h2
    · rename_i e he
      split at h2
      · rename_i h3; simp [he, h3]
      · cases h2
    · cases h2
theorem alookup_hit {t kt et : TypeId} {k v : V} {i : Nat} {ok : Bool} (h : qmap P t = some (kt, et)) (hk : qkey P kt = true) (hf : keyFits P kt k = true) {id : Nat} {es : List (V × V × Nat)} {clock : Nat} (hg : H.get id = some (.map es clock)) (hs : afind P kt k es 0 = some (some (i, v))) :
    alookup P H t (.m (some id)) k ok = some (if ok then .tup [v, .b true] else v) := by
  simp [alookup, h, hk, hf, hg, hs]
theorem alookup_miss {t kt et : TypeId} {k z : V} {ok : Bool} (h : qmap P t = some (kt, et)) (hk : qkey P kt = true) (hf : keyFits P kt k = true) (hz : qzero P et = some z) {id : Nat} {es : List (V × V × Nat)} {clock : Nat} (hg : H.get id = some (.map es clock)) (hs : afind P kt k es 0 = some none) :
    alookup P H t (.m (some id)) k ok = some (if ok then .tup [z, .b false] else z) := by
  simp [alookup, h, hk, hf, hg, hs, hz]
theorem alookup_nil {t kt et : TypeId} {k z : V} {ok : Bool} (h : qmap P t = some (kt, et)) (hk : qkey P kt = true) (hf : keyFits P kt k = true) (hz : qzero P et = some z) :
    alookup P H t (.m none) k ok = some (if ok then .tup [z, .b false] else z) := by
  simp [alookup, h, hk, hf, afind, hz]
theorem amapUpdate_hit {t kt et : TypeId} {k v v' : V} {i : Nat} (h : qmap P t = some (kt, et)) (hk : qkey P kt = true) (hf : keyFits P kt k = true) {id : Nat} {es : List (V × V × Nat)} {clock : Nat} (hg : H.get id = some (.map es clock)) (hs : afind P kt k es 0 = some (some (i, v'))) :
    amapUpdate P H t (.m (some id)) k v = some (H.set id (.map (setKV es i k v) clock)) := by
  simp [amapUpdate, h, hk, hf, hg, hs]
theorem amapUpdate_miss {t kt et : TypeId} {k v : V} (h : qmap P t = some (kt, et)) (hk : qkey P kt = true) (hf : keyFits P kt k = true) {id : Nat} {es : List (V × V × Nat)} {clock : Nat} (hg : H.get id = some (.map es clock)) (hs : afind P kt k es 0 = some none) :
    amapUpdate P H t (.m (some id)) k v = some (H.set id (.map (es ++ [(k, v, clock)]) (clock + 1))) := by
  simp [amapUpdate, h, hk, hf, hg, hs]
end

/-! What a function's end asks. -/
section
variable {P : Program} {H : AH} {ρ : Env}
@[simp] theorem ares1_tmp {t : Nat} : ares1 P H ρ [.tmp t] = some (ρ.get t) := (rfl)
@[simp] theorem ares1_tmp2 {t u : Nat} : ares1 P H ρ [.tmp t, .tmp u] = some (.tup [ρ.get t, ρ.get u]) := (rfl)
@[simp] theorem ares1_tmp3 {t u x : Nat} : ares1 P H ρ [.tmp t, .tmp u, .tmp x] = some (.tup [ρ.get t, ρ.get u, ρ.get x]) := (rfl)
@[simp] theorem ares1_tmp4 {t u x y : Nat} : ares1 P H ρ [.tmp t, .tmp u, .tmp x, .tmp y] = some (.tup [ρ.get t, ρ.get u, ρ.get x, ρ.get y]) := (rfl)
@[simp] theorem ares1_none : ares1 P H ρ [] = some (.tup []) := (rfl)
end

section
variable {P : Program} {H : AH} {ρ : Env} {Q : Exit → Env → AH → Prop}
theorem end_ret {fn : Func} {Q : V → AH → Prop} {r : V} (h : ares1 P H ρ fn.results.toList = some r) (hq : Q r H) : AEnd P fn Q .ret ρ H := ⟨r, h, hq⟩
theorem end_normal {fn : Func} {Q : V → AH → Prop} {r : V} (h : ares1 P H ρ fn.results.toList = some r) (hq : Q r H) : AEnd P fn Q .normal ρ H := ⟨r, h, hq⟩
theorem rend {K : Env → AH → Prop} (h : K ρ H) : AThen K Q .normal ρ H := h
theorem bend {id : Nat} (h : Q .normal ρ H) : ABlock id Q .normal ρ H := h
theorem then_exit {K : Env → AH → Prop} {id : Nat} (h : Q (.exit id) ρ H) : AThen K Q (.exit id) ρ H := h
theorem block_here {id : Nat} (h : Q .normal ρ H) : ABlock id Q (.exit id) ρ H := by simp [ABlock, h]
theorem block_pass {id id' : Nat} (hn : id' ≠ id) (h : Q (.exit id') ρ H) : ABlock id Q (.exit id') ρ H := by simp [ABlock, hn, h]
end

@[simp] theorem ex_pair {a : V} {b : AH} {K : V → AH → Prop} : (∃ v H', (a = v ∧ b = H') ∧ K v H') ↔ K a b :=
  ⟨fun ⟨v, H', ⟨h1, h2⟩, h3⟩ => by subst h1 h2; exact h3, fun h => ⟨a, b, ⟨rfl, rfl⟩, h⟩⟩

theorem wrap_id {x : Int} (h1 : -9223372036854775808 ≤ x) (h2 : x ≤ 9223372036854775807) : IntKind.i64.wrap x = x := by
  rw [IntKind.wrap_i64]; omega

/-! Memory. -/
@[simp] theorem new_next (H : AH) (o : O) : (H.new o).next = H.next + 1 := (rfl)
@[simp] theorem set_next (H : AH) (k : Nat) (o : O) : (H.set k o).next = H.next := (rfl)
end Go.Abs
