/-
  A logic over abstract states: operations, regions, code, calls.
-/
import Derived.Test.YtdioggohbfgnfaaAbsSim5
set_option linter.unusedVariables false
set_option linter.unusedSimpArgs false
namespace Go.Abs
open Go Go.RowKit

/-- A call of a Go function with a body. -/
def goFunc (P : Program) (f : FuncId) : Prop := ∃ fn, P.funcs[f]? = some fn ∧ (fn.name == "runtime.NumGoroutine") = false ∧ fn.body.isNone = false

/-- WHAT A CALL DOES, over abstract states. -/
def ACalls (P : Program) (f : FuncId) (args : List V) (H : AH) (Q : V → AH → Prop) : Prop :=
  goFunc P f ∧ ∀ C S cargs w, HR C S H w → VRs S args cargs → Calls P f cargs.toArray w fun e w' => ∃ r cr S' H', e = .returned cr ∧ S.le S' ∧ VR S' r cr ∧ HR C S' H' w' ∧ Q r H'
theorem ACalls.mono {P : Program} {f : FuncId} {args : List V} {H : AH} {Q Q' : V → AH → Prop} (h : ACalls P f args H Q) (hq : ∀ r H', Q r H' → Q' r H') : ACalls P f args H Q' :=
  ⟨h.1, fun C S cargs w hH hv => (h.2 C S cargs w hH hv).mono fun e w' ⟨r, cr, S', H', h1, h2, h3, h4, h5⟩ => ⟨r, cr, S', H', h1, h2, h3, h4, hq r H' h5⟩⟩

/-- One operation, with what follows. -/
def AOp (P : Program) (o : Oper) (ρ : Env) (H : AH) (K : V → AH → Prop) : Prop :=
  match o.op with
  | .call { callee := .value f, args, .. } =>
    match aev ρ f with
    | .fn (.func g) first caps => ACalls P g (first ++ evs (aev ρ) args ++ caps) H K
    | _ => False
  | .next it false => ANext H (aev ρ it) K
  | op => ∃ v H', aop P op (aev ρ) H = some (v, H') ∧ K v H'

/-- The post over the model's states that an abstract post stands for. -/
def Lift (C : Ctx) (S : Loc) (K : Env → AH → Prop) (a : Act) (w : World) : Prop :=
  ∃ S' ρ H, S.le S' ∧ HR C S' H w ∧ ER S' ρ a ∧ a.defers = [] ∧ K ρ H
theorem Lift.mono {C : Ctx} {S S0 : Loc} {K K' : Env → AH → Prop} {a : Act} {w : World} (h : Lift C S K a w) (hS : S0.le S) (hk : ∀ ρ H, K ρ H → K' ρ H) : Lift C S0 K' a w := by
  obtain ⟨S', ρ, H, h1, h2, h3, h4, h5⟩ := h
  exact ⟨S', ρ, H, hS.trans h1, h2, h3, h4, hk _ _ h5⟩

theorem put_defers (a : Act) (d : Option Tmp) (v : Value) : (a.put d v).defers = a.defers := by cases d <;> rfl

section
variable {C : Ctx} {P : Program} {S : Loc} {H : AH} {w : World} {ρ : Env} {a : Act}

theorem AOp.sound {o : Oper} {K : Env → AH → Prop} {Q : Exit → Act → World → Prop} (h : AOp P o ρ H (fun v H' => K (ρ.put o.dst v) H')) (hH : HR C S H w) (hE : ER S ρ a) (hd : a.defers = []) :
    o.wp P a w (Lift C S K) Q := by
  unfold AOp at h
  split at h
  · rename_i f args ats hop
    split at h
    · rename_i g first caps hf
      obtain ⟨⟨fn, hfn, hname, hbody⟩, hcall⟩ := h
      have hfv := aev_VR hE f
      rw [hf] at hfv
      unfold Oper.wp execOp
      rw [hop]
      dsimp only
      simp only [resolve]
      generalize hcf : a.eval f = cf at hfv
      cases hfv with
      | fn _ _ _ first' caps' h1 h2 =>
        simp only [Deferred.ofValue, pure_bind, invoke, callFunc, Sem.run_bind, run_program, Result.andThen_ok, hfn, hname, Bool.false_eq_true, if_false, hbody, Sem.run_pure, Oper.upon]
        have hargs := (h1.append (evs_VRs (aev_VR hE) args.toList)).append h2
        have e : first'.toArray ++ args.map a.eval ++ caps'.toArray = (first' ++ args.toList.map a.eval ++ caps').toArray := by apply Array.ext'; simp
        rw [e]
        refine (hcall C S _ w hH hargs).mono fun e w' ⟨r, cr, S', H', he, hS, hv, hH', hK⟩ => ?_
        subst he
        exact ⟨S', ρ.put o.dst r, H', hS, hH', (hE.mono hS).put o.dst hv, by rw [put_defers]; exact hd, hK⟩
    · exact h.elim
  · rename_i it hop
    obtain ⟨v, cv, H', w', hr, hv, hH', hK⟩ := sim_next (P := P) (t := o.type) hH (aev_VR hE it) h
    unfold Oper.wp execOp
    rw [hop]
    dsimp only
    simp only [Sem.run_bind, hr, Result.andThen_ok, Sem.run_pure, Oper.upon]
    exact ⟨S, ρ.put o.dst v, H', Loc.le.refl S, hH', hE.put o.dst hv, by rw [put_defers]; exact hd, hK⟩
  · rename_i op hne
    obtain ⟨v, H', ha, hK⟩ := h
    obtain ⟨S', cv, w', hr, hS, hv, hH'⟩ := sim_aop (o := o) hH (aev_VR hE) ha
    unfold Oper.wp
    rcases hr with hr | ⟨hr, rfl⟩
    · rw [hr]
      exact ⟨S', ρ.put o.dst v, H', hS, hH', (hE.mono hS).put o.dst hv, by rw [put_defers]; exact hd, hK⟩
    · rw [hr]
      exact ⟨S', ρ.put o.dst v, H', hS, hH', (hE.mono hS).put o.dst hv, by rw [put_defers]; exact hd, hK⟩

/-- What a guard's operation yielded: a bool, or nothing (it was left out). -/
def ayielded (ops : Array Oper) (ρ : Env) (j : Nat) : Option (Option Bool) :=
  match (ops[j]?).bind (·.dst) with
  | none => some none
  | some d => if d < ρ.n then
      match ρ.get d with
      | .b b => some (some b)
      | .tup [] => some none
      | _ => none
    else none
theorem ayielded_sound {ops : Array Oper} {j : Nat} {r : Option Bool} (hE : ER S ρ a) (h : ayielded ops ρ j = some r) : yielded ops a.tmps j = r := by
  unfold ayielded at h
  unfold yielded
  split at h
  · rename_i hd
    cases h
    simp [hd]
  · rename_i d hd
    split at h
    · rename_i hlt
      have hv := hE.2 d
      have hsz : d < a.tmps.size := by rw [hE.1]; exact hlt
      have hget : a.tmps.getD d undef = a.tmps[d] := by simp [hsz]
      rw [hget] at hv
      simp only [hd, Option.bind_some, Array.getElem?_eq_getElem hsz]
      split at h
      · rename_i b hb
        cases h
        rw [hb] at hv
        generalize a.tmps[d] = c at hv
        cases hv; rfl
      · rename_i hb
        cases h
        rw [hb] at hv
        generalize a.tmps[d] = c at hv
        cases hv with
        | tup _ l' hl => rfl
      · cases h
    · cases h

/-- One operation of a region, with what follows: it may be left out. -/
def AStep (P : Program) (ops : Array Oper) (o : Oper) (ρ : Env) (H : AH) (K : Env → AH → Prop) : Prop :=
  match o.guard with
  | none => AOp P o ρ H (fun v H' => K (ρ.put o.dst v) H')
  | some (j, want) => match ayielded ops ρ j with
    | some r => if r == some want then AOp P o ρ H (fun v H' => K (ρ.put o.dst v) H') else K (ρ.put o.dst (.tup [])) H
    | none => False

theorem AStep.sound {ops : Array Oper} {i : Nat} {o : Oper} {K : Env → AH → Prop} {Q : Exit → Act → World → Prop} (hi : ops[i]? = some o) (h : AStep P ops o ρ H K) (hH : HR C S H w) (hE : ER S ρ a) (hd : a.defers = []) :
    wpOp P ops Q i (Lift C S K) a w := by
  unfold AStep at h
  unfold wpOp
  simp only [hi]
  split at h
  · rename_i hg
    have : Region.wanted o (yielded ops a.tmps) = true := by simp [Region.wanted, hg]
    simp only [this, if_true]
    exact .inl (AOp.sound h hH hE hd)
  · rename_i j want hg
    split at h
    · rename_i r hr
      have hy := ayielded_sound hE hr
      have hw : Region.wanted o (yielded ops a.tmps) = (r == some want) := by simp [Region.wanted, hg, hy]
      rw [hw]
      split at h
      · rename_i hrw
        simp only [hrw, if_true]
        exact .inl (AOp.sound h hH hE hd)
      · rename_i hrw
        simp only [hrw, Bool.false_eq_true, if_false]
        exact ⟨S, _, H, Loc.le.refl S, hH, hE.put o.dst (.tup [] [] .nil), by rw [put_defers]; exact hd, h⟩
    · exact h.elim

/-- Operations one behind the other. -/
def AOps (P : Program) (ops : Array Oper) : List Oper → (Env → AH → Prop) → Env → AH → Prop
  | [], K, ρ, H => K ρ H
  | o :: l, K, ρ, H => AStep P ops o ρ H (AOps P ops l K)

theorem AOps.sound {ops : Array Oper} {Q : Exit → Act → World → Prop} : ∀ (l : List Oper) (k : Nat) {K : Env → AH → Prop} {S : Loc} {ρ : Env} {H : AH} {a : Act} {w : World}, (∀ (j : Nat) (o : Oper), l[j]? = some o → ops[k + j]? = some o) →
    (∀ a w, Lift C S K a w → Q .normal a w) → AOps P ops l K ρ H → HR C S H w → ER S ρ a → a.defers = [] → wpOps P ops Q (List.range' k l.length) a w
  | [], k, K, S, ρ, H, a, w, hl, hQ, h, hH, hE, hd => hQ a w ⟨S, ρ, H, Loc.le.refl S, hH, hE, hd, h⟩
  | o :: l, k, K, S, ρ, H, a, w, hl, hQ, h, hH, hE, hd => by
    have hi : ops[k]? = some o := by simpa using hl 0 o rfl
    rw [List.length_cons, List.range'_succ, wpOps_cons]
    refine wpOp_mono (fun a' w' ⟨S', ρ', H', hS, hH', hE', hd', hK⟩ => ?_) (AStep.sound (Q := Q) hi h hH hE hd)
    exact AOps.sound l (k + 1) (fun j o' hj => by have := hl (j + 1) o' (by simpa using hj); rwa [show k + (j + 1) = k + 1 + j by omega] at this)
      (fun a w hl => hQ a w (hl.mono hS fun _ _ h => h)) hK hH' hE' hd'
end

/-- CODE over abstract states. -/
def AW (P : Program) (c : Code) (Q : Exit → Env → AH → Prop) (ρ : Env) (H : AH) : Prop :=
  ∀ C S a w, HR C S H w → ER S ρ a → a.defers = [] → c.wp P (fun e a' w' => Lift C S (Q e) a' w') a w

section
variable {P : Program} {Q : Exit → Env → AH → Prop} {ρ : Env} {H : AH}

theorem AW.mono {c : Code} {Q' : Exit → Env → AH → Prop} (h : AW P c Q ρ H) (hq : ∀ e ρ H, Q e ρ H → Q' e ρ H) : AW P c Q' ρ H :=
  fun C S a w hH hE hd => wp_mono (h C S a w hH hE hd) fun e a w hl => hl.mono (Loc.le.refl S) (hq e)

theorem AW_skip (h : Q .normal ρ H) : AW P .skip Q ρ H := fun C S a w hH hE hd => wp_skip ⟨S, ρ, H, Loc.le.refl S, hH, hE, hd, h⟩
theorem AW_exit {id : Nat} (h : Q (.exit id) ρ H) : AW P (.exit id) Q ρ H := fun C S a w hH hE hd => wp_exit ⟨S, ρ, H, Loc.le.refl S, hH, hE, hd, h⟩
theorem AW_ret (h : Q .ret ρ H) : AW P .ret Q ρ H := fun C S a w hH hE hd => wp_ret ⟨S, ρ, H, Loc.le.refl S, hH, hE, hd, h⟩

def AThen (K : Env → AH → Prop) (Q : Exit → Env → AH → Prop) : Exit → Env → AH → Prop
  | .normal, ρ, H => K ρ H
  | e, ρ, H => Q e ρ H
theorem AW_seq {x y : Code} (h : AW P x (AThen (AW P y Q) Q) ρ H) : AW P (.seq x y) Q ρ H := by
  intro C S a w hH hE hd
  refine wp_seq (wp_mono (h C S a w hH hE hd) fun e a' w' hl => ?_)
  cases e with
  | normal =>
    obtain ⟨S', ρ', H', hS, hH', hE', hd', hK⟩ := hl
    exact wp_mono (hK C S' a' w' hH' hE' hd') fun e a w hl => hl.mono hS fun _ _ h => h
  | exit id => exact hl
  | goto l => exact hl
  | ret => exact hl
  | panic c => exact hl
  | outgrown => exact hl

theorem AW_cond {c : Operand} {x y : Code} {b : Bool} (hc : aev ρ c = .b b) (h : AW P (if b then x else y) Q ρ H) : AW P (.cond c x y) Q ρ H := by
  intro C S a w hH hE hd
  have hv := aev_VR hE c
  rw [hc] at hv
  generalize hcv : a.eval c = cv at hv
  cases hv
  exact wp_cond hcv (h C S a w hH hE hd)

def ABlock (id : Nat) (Q : Exit → Env → AH → Prop) : Exit → Env → AH → Prop
  | .exit id', ρ, H => if id' = id then Q .normal ρ H else Q (.exit id') ρ H
  | e, ρ, H => Q e ρ H
theorem AW_block {id : Nat} {c : Code} (h : AW P c (ABlock id Q) ρ H) : AW P (.block id c) Q ρ H := by
  intro C S a w hH hE hd
  refine wp_block (wp_mono (h C S a w hH hE hd) fun e a' w' hl => ?_)
  cases e with
  | exit id' =>
    simp only [Exit.inBlock]
    split
    · rename_i e; subst e; exact hl.mono (Loc.le.refl S) fun ρ H h => by simpa [ABlock] using h
    · rename_i e; exact hl.mono (Loc.le.refl S) fun ρ H h => by simpa [ABlock, e] using h
  | normal => exact hl
  | goto l => exact hl
  | ret => exact hl
  | panic c => exact hl
  | outgrown => exact hl

/-- A loop: what holds at each round's head, and a measure. -/
theorem AW_loop {c : Code} (I : Env → AH → Prop) (μ : Env → AH → Nat) (h0 : I ρ H)
    (round : ∀ ρ H, I ρ H → AW P c (AThen (fun ρ' H' => I ρ' H' ∧ μ ρ' H' < μ ρ H) Q) ρ H) : AW P (.loop c) Q ρ H := by
  intro C S a w hH hE hd
  -- the least measure of the abstract states that stand for this one
  let J : Nat → Act → World → Prop := fun n a w => ∃ S' ρ H, S.le S' ∧ HR C S' H w ∧ ER S' ρ a ∧ a.defers = [] ∧ I ρ H ∧ μ ρ H = n
  have key : ∀ n a w, J n a w → ∀ b k cs, ∃ e a' w', Lift C S (Q e) a' w' ∧ Arrives P (lone (b.at a (.code c :: .inLoop c :: k)) cs w) b k cs e a' w' := by
    intro n
    induction n using Nat.strongRecOn with
    | _ n ih =>
      intro a w ⟨S', ρ, H, hS, hH', hE', hd', hI, hm⟩ b k cs
      obtain ⟨e, a₁, w₁, hq, harr⟩ := round ρ H hI C S' a w hH' hE' hd' b (.inLoop c :: k) cs
      cases e with
      | normal =>
        obtain ⟨S'', ρ'', H'', hS'', hH'', hE'', hd'', hI'', hlt⟩ := hq
        obtain ⟨e₂, a₂, w₂, hq₂, harr₂⟩ := ih (μ ρ'' H'') (by omega) a₁ w₁ ⟨S'', ρ'', H'', hS.trans hS'', hH'', hE'', hd'', hI'', rfl⟩ b k cs
        exact ⟨e₂, a₂, w₂, hq₂, .of_steps (Steps.trans harr (.one step_inLoop)) harr₂⟩
      | exit id => exact ⟨_, a₁, w₁, hq.mono hS fun _ _ h => h, .pass (x := .inLoop c) rfl (fun _ _ => .inl (by simp)) harr⟩
      | goto l => exact ⟨_, a₁, w₁, hq.mono hS fun _ _ h => h, .pass (x := .inLoop c) rfl (fun _ _ => .inl (by simp)) harr⟩
      | ret => exact ⟨_, a₁, w₁, hq.mono hS fun _ _ h => h, .pass (x := .inLoop c) rfl (fun _ _ => .inl (by simp)) harr⟩
      | panic ch => exact ⟨_, a₁, w₁, hq.mono hS fun _ _ h => h, .pass (x := .inLoop c) rfl (fun _ _ => .inl (by simp)) harr⟩
      | outgrown => exact ⟨_, a₁, w₁, hq.mono hS fun _ _ h => h, .pass (x := .inLoop c) rfl (fun _ _ => .inl (by simp)) harr⟩
  intro b k cs
  obtain ⟨e, a', w', hq, harr⟩ := key _ a w ⟨S, ρ, H, Loc.le.refl S, hH, hE, hd, h0, rfl⟩ b k cs
  exact ⟨e, a', w', hq, .of_steps (.one step_loop) harr⟩

/-- A region in the text's order. -/
theorem AW_region {id : Nat} {ops : Array Oper} (h : AOps P ops ops.toList (Q .normal) ρ H) : AW P (.region id ops false) Q ρ H := by
  intro C S a w hH hE hd
  refine wp_region ?_
  have := AOps.sound (C := C) (P := P) (Q := fun e a' w' => Lift C S (Q e) a' w') ops.toList 0 (fun j o hj => by simpa using hj) (fun a w h => h) h hH hE hd
  rw [List.range_eq_range']
  simpa using this

/-! Calls. -/
def Env.zip : Nat → List V → List (Nat × V)
  | _, [] => []
  | i, v :: l => (i, v) :: Env.zip (i + 1) l
def Env.init (n : Nat) (args : List V) : Env := { n := args.length + (n - args.length), l := Env.zip 0 args }
theorem Env.look_zip : ∀ (l : List V) (i t : Nat), Env.look (Env.zip i l) t = if i ≤ t then (l[t - i]?).getD .un else .un
  | [], i, t => by simp [Env.zip, Env.look]
  | v :: l, i, t => by
    simp only [Env.zip, Env.look]
    by_cases h : i = t
    · subst h; simp
    · simp only [h, if_false]
      rw [Env.look_zip l (i + 1) t]
      by_cases h2 : i ≤ t
      · have : i + 1 ≤ t := by omega
        simp only [h2, this, if_true]
        rw [show t - i = (t - (i + 1)) + 1 by omega]
        simp
      · have : ¬ i + 1 ≤ t := by omega
        simp [h2, this]
theorem ER_init {S : Loc} {args : List V} {cargs : List Value} (n : Nat) (h : VRs S args cargs) : ER S (Env.init n args) { tmps := cargs.toArray ++ Array.replicate (n - cargs.toArray.size) undef, defers := [] } := by
  have hl := h.length
  refine ⟨by simp [Env.init, hl], fun t => ?_⟩
  simp only [Env.init, Env.get, Env.look_zip, Nat.zero_le, if_true, Nat.sub_zero]
  cases ht : args[t]? with
  | none => simp; exact .un _
  | some v =>
    obtain ⟨c, hc, hv⟩ := h.get t v ht
    have hlt : t < cargs.length := (List.getElem?_eq_some_iff.1 hc).1
    have e : (cargs.toArray ++ Array.replicate (n - cargs.toArray.size) undef).getD t undef = c := by
      have e1 : cargs[t] = c := (List.getElem?_eq_some_iff.1 hc).2
      simp [Array.getD_eq_getD_getElem?, Array.getElem?_append, hlt, e1]
    rw [e]; simpa using hv

/-- The results, out of the slots. -/
def ares (P : Program) (H : AH) (ρ : Env) : List ResultVar → Option (List V)
  | [] => some []
  | .tmp t :: l => (ares P H ρ l).map (ρ.get t :: ·)
  | .cell a t :: l => match aload P H t (ρ.get a), ares P H ρ l with
    | some v, some r => some (v :: r)
    | _, _ => none
def ares1 (P : Program) (H : AH) (ρ : Env) (l : List ResultVar) : Option V :=
  match ares P H ρ l with
  | some [v] => some v
  | some r => some (.tup r)
  | none => none
/-- The post at a body's end. -/
def AEnd (P : Program) (fn : Func) (Q : V → AH → Prop) : Exit → Env → AH → Prop
  | .normal, ρ, H | .ret, ρ, H => ∃ r, ares1 P H ρ fn.results.toList = some r ∧ Q r H
  | _, _, _ => False

theorem sim_results {C : Ctx} {S : Loc} {w : World} {a : Act} (hH : HR C S H w) (hE : ER S ρ a) {fn : Func} {r : V} (h : ares1 P H ρ fn.results.toList = some r) : ∃ cr, (results fn a.tmps).run P w = .ok cr w ∧ VR S r cr := by
  have key : ∀ (l : List ResultVar) (vs : List V), ares P H ρ l = some vs → ∃ cs : List Value, (l.mapM (fun
      | .tmp t => pure (a.tmps.getD t undef)
      | .cell p t => do loadVar t (← asAddr (a.tmps.getD p undef)) : ResultVar → Sem Value)).run P w = .ok cs w ∧ VRs S vs cs := by
    intro l
    induction l with
    | nil => intro vs h; simp [ares] at h; subst h; exact ⟨[], by simp, .nil⟩
    | cons x l ih =>
      intro vs h
      cases x with
      | tmp t =>
        simp only [ares, Option.map_eq_some_iff] at h
        obtain ⟨vs', h', rfl⟩ := h
        obtain ⟨cs, hr, hv⟩ := ih vs' h'
        refine ⟨a.tmps.getD t undef :: cs, ?_, .cons _ _ _ _ (hE.2 t) hv⟩
        rw [List.mapM_cons]
        simp only [Sem.run_bind, Sem.run_pure, Result.andThen_ok]
        rw [hr]; rfl
      | cell p t =>
        simp only [ares] at h
        split at h
        · rename_i v r h1 h2
          cases h
          obtain ⟨cs, hr, hv⟩ := ih r h2
          obtain ⟨cv, hc, hcv⟩ := sim_load (P := P) hH (hE.2 p) h1
          refine ⟨cv :: cs, ?_, .cons _ _ _ _ hcv hv⟩
          have hp := hE.2 p
          have hp2 : ∃ ad, a.tmps.getD p undef = .pointer (some ad) := by
            unfold aload at h1
            split at h1
            · rename_i id g off hq
              rw [hq] at hp
              generalize a.tmps.getD p undef = c at hp
              cases hp
              exact ⟨_, rfl⟩
            · cases h1
          obtain ⟨ad, had⟩ := hp2
          have hc' : (loadVar t ad).run P w = .ok cv w := by
            rw [had] at hc
            simpa [Instr.loadAt, Instr.sureAddr] using hc
          have ha : (asAddr (a.tmps.getD p undef)).run P w = .ok ad w := by rw [had]; rfl
          rw [List.mapM_cons]
          simp only [Sem.run_bind, ha, Result.andThen_ok, hc', Sem.run_pure]
          rw [hr]; rfl
        · cases h
  unfold ares1 at h
  have hm : ∀ (vs : List V), ares P H ρ fn.results.toList = some vs → ∃ cs : List Value, (results fn a.tmps).run P w = .ok (if h : cs.toArray.size = 1 then cs.toArray[0] else .tuple cs.toArray) w ∧ VRs S vs cs := by
    intro vs hvs
    obtain ⟨cs, hr, hv⟩ := key _ _ hvs
    refine ⟨cs, ?_, hv⟩
    unfold results
    rw [Array.mapM_eq_mapM_toList]
    simp only [Sem.run_bind, Sem.run_map]
    exact congrArg (fun r : Result (List Value) => (r.andThen fun a w' => Result.ok a.toArray w').andThen fun a w' => Sem.run P (pure (if h : a.size = 1 then a[0] else Value.tuple a)) w') hr
  split at h
  · rename_i v hv
    cases h
    obtain ⟨cs, hr, hvs⟩ := hm _ hv
    cases hvs with
    | cons _ c _ l' h1 ht =>
      cases ht
      exact ⟨c, by simpa using hr, h1⟩
  · rename_i r' hne hr'
    cases h
    obtain ⟨cs, hr, hvs⟩ := hm _ hr'
    have hl := hvs.length
    have hne1 : ¬ cs.toArray.size = 1 := by
      intro h1
      have : r'.length = 1 := by simpa [hl] using h1
      obtain ⟨v, rfl⟩ := List.length_eq_one_iff.1 this
      exact hne v rfl
    rw [dif_neg hne1] at hr
    exact ⟨_, hr, .tup _ _ hvs⟩
  · cases h

/-- A call, from its body. -/
theorem ACalls_body {f : FuncId} {fn : Func} {c : Code} {args : List V} {Q : V → AH → Prop} (hf : P.funcs[f]? = some fn) (hb : fn.body = some c) (hn : (fn.name == "runtime.NumGoroutine") = false)
    (h : AW P c (AEnd P fn Q) (Env.init fn.ntmps args) H) : ACalls P f args H Q := by
  refine ⟨⟨fn, hf, hn, by simp [hb]⟩, fun C S cargs w hH hv => ?_⟩
  refine calls_of_wp hf hb (wp_mono (h C S _ w hH (ER_init fn.ntmps hv) rfl) fun e a' w' hl => ?_)
  obtain ⟨S', ρ', H', hS, hH', hE', hd', hq⟩ := hl
  cases e with
  | normal =>
    obtain ⟨r, hr, hQ⟩ := hq
    obtain ⟨cr, hrun, hrv⟩ := sim_results hH' hE' hr
    exact ⟨hd', cr, hrun, r, cr, S', H', rfl, hS, hrv, hH', hQ⟩
  | ret =>
    obtain ⟨r, hr, hQ⟩ := hq
    obtain ⟨cr, hrun, hrv⟩ := sim_results hH' hE' hr
    exact ⟨hd', cr, hrun, r, cr, S', H', rfl, hS, hrv, hH', hQ⟩
  | exit id => exact hq.elim
  | goto l => exact hq.elim
  | panic c => exact hq.elim
  | outgrown => exact hq.elim
end
end Go.Abs
