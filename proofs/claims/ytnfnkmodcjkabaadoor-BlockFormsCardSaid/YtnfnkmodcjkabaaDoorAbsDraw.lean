/-
  Regions that draw their order: one plan stands for every order.
-/
import Derived.Test.YtnfnkmodcjkabaaDoorAbsRun
import Derived.Test.YtnfnkmodcjkabaaDoorAbsOpen
set_option linter.unusedVariables false
set_option linter.unusedSimpArgs false
set_option linter.unusedSectionVars false
namespace Go.Abs
open Go Go.RowKit

/-- The same environment, whatever the order of its entries. -/
def Env.eqv (ρ ρ' : Env) : Prop := ρ.n = ρ'.n ∧ ∀ t, ρ.get t = ρ'.get t
theorem Env.eqv.refl (ρ : Env) : ρ.eqv ρ := ⟨rfl, fun _ => rfl⟩
theorem Env.eqv.symm {ρ ρ' : Env} (h : ρ.eqv ρ') : ρ'.eqv ρ := ⟨h.1.symm, fun t => (h.2 t).symm⟩
theorem Env.eqv.trans {ρ ρ' ρ'' : Env} (h : ρ.eqv ρ') (k : ρ'.eqv ρ'') : ρ.eqv ρ'' := ⟨h.1.trans k.1, fun t => (h.2 t).trans (k.2 t)⟩
theorem Env.get_put (ρ : Env) (d : Nat) (v : V) (t : Nat) : (ρ.put (some d) v).get t = if d = t then (if d < ρ.n then v else .un) else ρ.get t := rfl
theorem Env.put_n (ρ : Env) (d : Option Tmp) (v : V) : (ρ.put d v).n = ρ.n := by cases d <;> rfl
theorem Env.eqv.put {ρ ρ' : Env} (h : ρ.eqv ρ') (d : Option Tmp) (v : V) : (ρ.put d v).eqv (ρ'.put d v) := by
  cases d with
  | none => exact h
  | some d => exact ⟨h.1, fun t => by rw [Env.get_put, Env.get_put, h.1, h.2]⟩
theorem Env.put_comm (ρ : Env) {x y : Option Tmp} (v u : V) (h : ∀ d, x = some d → y ≠ some d) : ((ρ.put x v).put y u).eqv ((ρ.put y u).put x v) := by
  cases x with
  | none => exact .refl _
  | some d =>
    cases y with
    | none => exact .refl _
    | some e =>
      have hne : d ≠ e := fun he => h d rfl (he ▸ rfl)
      refine ⟨rfl, fun t => ?_⟩
      simp only [Env.get_put, Env.put_n]
      by_cases h1 : e = t <;> by_cases h2 : d = t <;> simp [h1, h2]
      · exact absurd (h2.trans h1.symm) hne
theorem aev_eqv {ρ ρ' : Env} (h : ρ.eqv ρ') : aev ρ = aev ρ' := by
  funext x; cases x <;> simp [aev, h.2]
theorem ayielded_eqv {ops : Array Oper} {ρ ρ' : Env} (h : ρ.eqv ρ') (j : Nat) : ayielded ops ρ j = ayielded ops ρ' j := by
  unfold ayielded; simp only [h.1, h.2]
theorem ER_eqv {S : Loc} {ρ ρ' : Env} {a : Act} (h : ρ.eqv ρ') (e : ER S ρ a) : ER S ρ' a := ⟨e.1.trans h.1, fun t => by rw [← h.2]; exact e.2 t⟩

section
variable {P : Program} [Laid P] {ops : Array Oper} {md : Region.Mode}

theorem ANext_mono {H : AH} {it : V} {K K' : V → AH → Prop} (h : ANext H it K) (hk : ∀ v H, K v H → K' v H) : ANext H it K' := by
  unfold ANext at *
  split at h
  · split at h
    · exact hk _ _ h
    · split at h
      · exact ⟨h.1, fun e he hn => hk _ _ (h.2.1 e he hn), fun hn => hk _ _ (h.2.2 hn)⟩
      · exact h.elim
    · exact h.elim
  · exact h.elim
theorem ARoundEnd_mono {id : Nat} {H : AH} {K K' : V → AH → Prop} {j : Option Code} (h : ARoundEnd id K j H) (hk : ∀ v H, K v H → K' v H) : ARoundEnd id K' j H := by
  unfold ARoundEnd at *
  split at h
  · exact hk _ _ h
  · exact h.elim
theorem ARound_mono {id : Nat} {vs : List V} {H : AH} {K K' : V → AH → Prop} (h : ARound P id vs H K) (hk : ∀ v H, K v H → K' v H) : ARound P id vs H K' := by
  unfold ARound at *
  split at h
  · refine ⟨h.1, fun r => (h.2 r).mono fun e ρ' H' h => ?_⟩
    cases e with
    | normal =>
      simp only [AThen] at h ⊢
      split at h
      · refine h.mono fun e ρ'' H'' h => ?_
        cases e with
        | normal => exact ARoundEnd_mono h hk
        | ret => exact ARoundEnd_mono h hk
        | exit x => exact ARoundEnd_mono h hk
        | goto x => exact h
        | panic c => exact h
        | outgrown => exact h
      · exact h.elim
    | exit id => exact h
    | goto l => exact h
    | ret => exact h
    | panic c => exact h
    | outgrown => exact h
  · exact h.elim
theorem AOp_mono {o : Oper} {ρ : Env} {H : AH} {K K' : V → AH → Prop} (h : AOp P o ρ H K) (hk : ∀ v H, K v H → K' v H) : AOp P o ρ H K' := by
  unfold AOp at *
  split at h
  · split at h
    · exact h.mono hk
    · exact ARound_mono h hk
    · exact h.elim
  · exact ANext_mono h hk
  · obtain ⟨v, H', h1, h2⟩ := h
    exact ⟨v, H', h1, hk _ _ h2⟩
theorem AStep_mono {o : Oper} {ρ : Env} {H : AH} {K K' : Env → AH → Prop} (h : AStep P ops o ρ H K) (hk : ∀ ρ H, K ρ H → K' ρ H) : AStep P ops o ρ H K' := by
  unfold AStep at *
  split at h
  · exact AOp_mono h fun v H => hk _ _
  · split at h
    · split at h
      · rename_i hrw; simp only [hrw, if_true]; exact AOp_mono h fun v H => hk _ _
      · rename_i hrw; simp only [hrw, Bool.false_eq_true, if_false]; exact hk _ _ h
    · exact h.elim

theorem aop_congr {ev ev' : Operand → V} {H : AH} (op : Op) (h : ∀ x ∈ op.operands, ev x = ev' x) : aop P op ev H = aop P op ev' H := by
  have pairs : ∀ ps : Array (Nat × Operand), (∀ x ∈ (ps.toList.map (·.2)).toArray, ev x = ev' x) → ps.toList.map (fun (i, x) => (i, ev x)) = ps.toList.map (fun (i, x) => (i, ev' x)) := fun ps hp =>
    List.map_congr_left fun p hm => by
      obtain ⟨i, x⟩ := p
      simp only [hp x (by simp; exact ⟨i, by simpa using hm⟩)]
  cases op <;> simp only [Op.operands] at h <;> unfold aop <;> try dsimp only
  case build t ps => rw [pairs ps h]
  case buildSlice t n ps => rw [pairs ps h]
  case makeFunc fn first caps =>
    have e1 : evs ev first = evs ev' first := List.map_congr_left fun x hx => h x (by simp; exact .inl (by simpa using hx))
    have e2 : evs ev caps = evs ev' caps := List.map_congr_left fun x hx => h x (by simp; exact .inr (by simpa using hx))
    rw [e1, e2]
  case makeMap t r => cases r <;> rfl
  case next x b => cases b <;> simp_all
  case slice t x lo hi mx => cases lo <;> cases hi <;> cases mx <;> simp_all [evo]
  case call c =>
    obtain ⟨cal, args, ats⟩ := c
    cases cal with
    | builtin b =>
      have e : args.toList.map ev = args.toList.map ev' := List.map_congr_left fun x hx => h x (by simp [Call.operands]; simpa using hx)
      simp only [e]
    | value f => rfl
    | invoke r m => rfl
  all_goals first | rfl | (simp_all; done)

theorem AOp_congr {o : Oper} {ρ ρ' : Env} {H : AH} {K : V → AH → Prop} (he : ∀ x ∈ o.op.operands, aev ρ x = aev ρ' x) (h : AOp P o ρ H K) : AOp P o ρ' H K := by
  unfold AOp at *
  split at h
  · rename_i f args ats hop
    simp only [hop, Op.operands, Call.operands] at he
    have e1 : aev ρ' f = aev ρ f := (he f (by simp)).symm
    have e2 : evs (aev ρ') args = evs (aev ρ) args := List.map_congr_left fun x hx => (he x (by simp; exact .inr (by simpa using hx))).symm
    rw [e1, e2]
    exact h
  · rename_i it hop
    simp only [hop, Op.operands] at he
    rw [← he it (by simp)]; exact h
  · rw [← aop_congr _ he]; exact h

theorem AStep_eqv {o : Oper} {ρ ρ' : Env} {H : AH} {K : Env → AH → Prop} (e : ρ.eqv ρ') (hK : ∀ ρ ρ' H, ρ.eqv ρ' → K ρ H → K ρ' H) (h : AStep P ops o ρ H K) : AStep P ops o ρ' H K := by
  unfold AStep at *
  have hop : ∀ K' K'' : V → AH → Prop, (∀ v H, K' v H → K'' v H) → AOp P o ρ H K' → AOp P o ρ' H K'' := fun K' K'' hk h => AOp_congr (fun x _ => by rw [aev_eqv e]) (AOp_mono h hk)
  split at h
  · exact hop _ _ (fun v H => hK _ _ _ (e.put _ _)) h
  · rename_i j want hg
    rw [← ayielded_eqv e]
    split at h
    · split at h
      · rename_i hrw; simp only [hrw, if_true]; exact hop _ _ (fun v H => hK _ _ _ (e.put _ _)) h
      · rename_i hrw; simp only [hrw, Bool.false_eq_true, if_false]; exact hK _ _ _ (e.put _ _) h
    · exact h.elim

theorem aev_put_apart {ρ : Env} {dst : Option Tmp} {v : V} {o : Oper} (h : ∀ d, dst = some d → d ∉ o.looksAt ops) : ∀ x ∈ o.op.operands, aev (ρ.put dst v) x = aev ρ x := by
  intro x hx
  cases dst with
  | none => rfl
  | some d =>
    cases x with
    | tmp t =>
      simp only [aev, Env.get_put]
      rw [if_neg]
      intro e
      subst e
      exact h d rfl (List.mem_append_left _ (List.mem_filterMap.2 ⟨.tmp d, by simpa using hx, rfl⟩))
    | const _ => rfl
    | global _ => rfl
    | func _ => rfl
theorem ayielded_put_apart {ρ : Env} {dst : Option Tmp} {v : V} {o : Oper} {g : Nat} {want : Bool} (hg : o.guard = some (g, want)) (h : ∀ d, dst = some d → d ∉ o.looksAt ops) : ayielded ops (ρ.put dst v) g = ayielded ops ρ g := by
  cases dst with
  | none => rfl
  | some d =>
    unfold ayielded
    cases ht : (ops[g]?).bind (·.dst) with
    | none => rfl
    | some t =>
      have hne : d ≠ t := fun e => h d rfl (by subst e; simp [Oper.looksAt, hg, ht])
      simp only [Env.put_n, Env.get_put, hne, if_false]

/-- An operation whose temporaries a put does not touch. -/
theorem AStep_apart {o : Oper} {dst : Option Tmp} {v : V} {ρ : Env} {H : AH} {K : Env → AH → Prop} (h : ∀ d, dst = some d → d ∉ o.looksAt ops) (hs : AStep P ops o (ρ.put dst v) H K) :
    AStep P ops o ρ H fun ρ' H' => ∃ u, ρ' = ρ.put o.dst u ∧ K ((ρ.put dst v).put o.dst u) H' := by
  unfold AStep at *
  have he := aev_put_apart (ρ := ρ) (v := v) h
  split at hs
  · exact AOp_congr he (AOp_mono hs fun u H hk => ⟨u, rfl, hk⟩)
  · rename_i j want hg
    rw [ayielded_put_apart hg h] at hs
    split at hs
    · split at hs
      · rename_i hrw; simp only [hrw, if_true]; exact AOp_congr he (AOp_mono hs fun u H hk => ⟨u, rfl, hk⟩)
      · rename_i hrw; simp only [hrw, Bool.false_eq_true, if_false]; exact ⟨_, rfl, hs⟩
    · exact hs.elim

/-- In every memory that may come from this one the operation leaves 'v' and nothing else. -/
def AYield (P : Program) (ops : Array Oper) (R : AH → AH → Prop) (o : Oper) (v : V) (ρ : Env) (H : AH) : Prop :=
  match o.guard with
  | none => ∀ H', R H H' → aop P o.op (aev ρ) H' = some (v, H')
  | some (j, want) => match ayielded ops ρ j with
    | some r => if r == some want then ∀ H', R H H' → aop P o.op (aev ρ) H' = some (v, H') else v = .tup []
    | none => False
/-- It is a call of a Go function. -/
def isGoCall : Op → Bool
  | .call { callee := .value _, .. } => true
  | _ => false
theorem AOp_of_aop {o : Oper} {ρ : Env} {H : AH} {K : V → AH → Prop} {v : V} {H' : AH} (h : aop P o.op (aev ρ) H = some (v, H')) (hk : K v H') : AOp P o ρ H K := by
  unfold AOp
  split
  · rename_i f args ats hop
    rw [hop] at h; simp [aop] at h
  · rename_i it hop
    rw [hop] at h; simp [aop] at h
  · exact ⟨v, H', h, hk⟩
theorem AYield.step {R : AH → AH → Prop} (hr : ∀ H, R H H) {o : Oper} {v : V} {ρ : Env} {H : AH} (h : AYield P ops R o v ρ H) {K : Env → AH → Prop} (hk : K (ρ.put o.dst v) H) : AStep P ops o ρ H K := by
  unfold AYield at h
  unfold AStep
  have key : ∀ v', aop P o.op (aev ρ) H = some (v', H) → K (ρ.put o.dst v') H → AOp P o ρ H (fun v H' => K (ρ.put o.dst v) H') := fun v' h hk => AOp_of_aop (K := fun v H' => K (ρ.put o.dst v) H') h hk
  cases hg : o.guard with
  | none => simp only [hg] at h; exact key v (h H (hr H)) hk
  | some jw =>
    obtain ⟨j, want⟩ := jw
    simp only [hg] at h
    dsimp only
    cases hy : ayielded ops ρ j with
    | none => simp only [hy] at h
    | some r =>
      simp only [hy] at h
      dsimp only
      by_cases hrw : (r == some want) = true
      · simp only [hrw, if_true] at h ⊢; exact key v (h H (hr H)) hk
      · simp only [hrw, Bool.false_eq_true, if_false] at h ⊢; subst h; exact hk
theorem AYield.keep {R : AH → AH → Prop} (ht : ∀ H H' H'', R H H' → R H' H'' → R H H'') {o : Oper} {v u : V} {ρ : Env} {H H' : AH} {dst : Option Tmp} (h : AYield P ops R o v ρ H) (hd : ∀ d, dst = some d → d ∉ o.looksAt ops) (hR : R H H') :
    AYield P ops R o v (ρ.put dst u) H' := by
  unfold AYield at *
  have he : aop P o.op (aev (ρ.put dst u)) = aop P o.op (aev ρ) := by funext H; exact aop_congr _ (aev_put_apart hd)
  rw [he]
  split at h
  · exact fun H'' h2 => h H'' (ht _ _ _ hR h2)
  · rename_i j want hg
    rw [ayielded_put_apart hg hd]
    split at h
    · split at h
      · rename_i hrw; simp only [hrw, if_true]; exact fun H'' h2 => h H'' (ht _ _ _ hR h2)
      · rename_i hrw; simp only [hrw, Bool.false_eq_true, if_false]; exact h
    · exact h.elim

/-- It waits for the k-th one, at once or by one between them. -/
def waits1 (md : Region.Mode) (o : Oper) (k : Nat) : Bool := o.after.any fun e => Region.binds md e && e.on == k
def waits (md : Region.Mode) (ops : Array Oper) (o : Oper) (k : Nat) : Bool :=
  waits1 md o k || o.after.any fun e => Region.binds md e && match ops[e.on]? with | some o' => waits1 md o' k | none => false
/-- What is listed had all listed that it waits for. -/
def Closed (md : Region.Mode) (ops : Array Oper) (listed : Array Bool) : Prop :=
  ∀ k ok, ops[k]? = some ok → listed.getD k false = true → ∀ e ∈ ok.after, Region.binds md e = true → listed.getD e.on false = true
theorem Closed.none {md : Region.Mode} {ops : Array Oper} (n : Nat) : Closed md ops (Array.replicate n false) := fun k ok _ h => by
  simp [Array.getD, Array.getElem_replicate] at h
theorem Closed.set {md : Region.Mode} {ops : Array Oper} {listed : Array Bool} (h : Closed md ops listed) {i : Nat} (hi : i ∈ Region.ready md ops listed) : Closed md ops (listed.setIfInBounds i true) := fun k ok hk hl e he hb => by
  obtain ⟨h0, oi, hoi, hall⟩ := mem_ready.1 hi
  refine getD_set_true ?_
  by_cases hki : k = i
  · subst hki
    cases hoi.symm.trans hk
    exact hall e he hb
  · refine h k ok hk ?_ e he hb
    rw [← hl]
    simp only [Array.getD_eq_getD_getElem?, Array.getElem?_setIfInBounds, Ne.symm hki, if_false]
theorem Closed.waits {md : Region.Mode} {ops : Array Oper} {listed : Array Bool} (h : Closed md ops listed) {i j : Nat} {oj : Oper} (hoj : ops[j]? = some oj) (hj : j ∈ Region.ready md ops listed) (hw : waits md ops oj i = true) : listed.getD i false = true := by
  obtain ⟨_, oj', hoj', hall⟩ := mem_ready.1 hj
  cases hoj.symm.trans hoj'
  unfold Go.Abs.waits waits1 at hw
  simp only [Bool.or_eq_true, Array.any_eq_true', Bool.and_eq_true, beq_iff_eq] at hw
  rcases hw with ⟨e, he, hb, rfl⟩ | ⟨e, he, hb, hw⟩
  · exact hall e he hb
  · split at hw
    · rename_i o' ho'
      simp only [Array.any_eq_true', Bool.and_eq_true, beq_iff_eq] at hw
      obtain ⟨e', he', hb', rfl⟩ := hw
      exact h e.on o' ho' (hall e he hb) e' he' hb'
    · cases hw
/-- It waits for all the others that look at the memory. -/
def lastly (md : Region.Mode) (ops : Array Oper) (lk : Nat → Bool) (i : Nat) (o : Oper) : Bool := (List.range ops.size).all fun k => k == i || !(lk k) || waits md ops o k
/-- Whatever order is picked. -/
def AAny (P : Program) [Laid P] (md : Region.Mode) (ops : Array Oper) (lk : Nat → Bool) (R : AH → AH → Prop) (Q : Env → AH → Prop) : Nat → Array Bool → Env → AH → Prop
  | 0, listed, ρ, H => Region.ready md ops listed = [] ∧ Q ρ H
  | fuel + 1, listed, ρ, H => (Region.ready md ops listed = [] → Q ρ H) ∧ ∀ i ∈ Region.ready md ops listed, ∀ o, ops[i]? = some o →
      AStep P ops o ρ H fun ρ' H' => (lastly md ops lk i o = false → R H H') ∧ AAny P md ops lk R Q fuel (listed.setIfInBounds i true) ρ' H'

theorem AAny.sound {lk : Nat → Bool} {r : Fm} {C : Ctx} (hl : Laid.ok P C) {B : Loc} {R : AH → AH → Prop} {Q : Env → AH → Prop} {Q' : Exit → Act → World → Prop} : ∀ (fuel : Nat) (listed : Array Bool) {S : Loc} {ρ : Env} {H : AH} {a : Act} {w : World},
    (∀ a w, Lift C B Q a w → Q' .normal a w) → AAny P md ops lk R Q fuel listed ρ H → B.le S → HR C S H w → ER S ρ a → Dfr C S w a.defers → wpAnyIn (FF r.round) 0 P md ops Q' fuel listed a w
  | 0, listed, S, ρ, H, a, w, hQ, h, hB, hH, hE, hd => ⟨h.1, hQ _ _ ⟨S, ρ, H, hB, hH, hE, hd, h.2⟩⟩
  | fuel + 1, listed, S, ρ, H, a, w, hQ, h, hB, hH, hE, hd => by
    refine ⟨fun h0 => hQ _ _ ⟨S, ρ, H, hB, hH, hE, hd, h.1 h0⟩, fun i hi => ?_⟩
    obtain ⟨_, o, ho, _⟩ := mem_ready.1 hi
    refine wpOpIn_mono (fun a' w' ⟨S', ρ', H', hS, hH', hE', hd', hK⟩ => ?_) (AStep.sound (r := r) (Q := Q') ho (h.2 i hi o ho) hl hB hH hE hd)
    exact AAny.sound hl fuel _ hQ hK.2 hS hH' hE' hd'

theorem AAny.eqv {lk : Nat → Bool} {R : AH → AH → Prop} {Q : Env → AH → Prop} (hQ : ∀ ρ ρ' H, ρ.eqv ρ' → Q ρ H → Q ρ' H) : ∀ (fuel : Nat) (listed : Array Bool) (ρ ρ' : Env) (H : AH), ρ.eqv ρ' → AAny P md ops lk R Q fuel listed ρ H → AAny P md ops lk R Q fuel listed ρ' H
  | 0, listed, ρ, ρ', H, e, h => ⟨h.1, hQ _ _ _ e h.2⟩
  | fuel + 1, listed, ρ, ρ', H, e, h => ⟨fun h0 => hQ _ _ _ e (h.1 h0), fun i hi o ho => AStep_eqv e (fun ρ ρ' H e h => ⟨h.1, AAny.eqv hQ fuel _ _ _ _ e h.2⟩) (h.2 i hi o ho)⟩

/-- What yields may be taken first. -/
theorem AAny_first {lk : Nat → Bool} {R : AH → AH → Prop} {Q : Env → AH → Prop} (hr : ∀ H, R H H) (ht : ∀ H H' H'', R H H' → R H' H'' → R H H'') (hQ : ∀ ρ ρ' H, ρ.eqv ρ' → Q ρ H → Q ρ' H)
    {i : Nat} {oi : Oper} {v : V} (hi : ops[i]? = some oi) :
    ∀ (fuel : Nat) (listed : Array Bool) (ρ : Env) (H : AH),
      (∀ j oj, ops[j]? = some oj → j ≠ i → listed.getD j true = false → (∀ e ∈ oj.after, Region.binds md e = true → e.on ≠ i) → oi.apart ops oj = true) →
      Closed md ops listed → i ∈ Region.ready md ops listed → AYield P ops (fun H H' => lk i = true → R H H') oi v ρ H → AAny P md ops lk R Q fuel (listed.setIfInBounds i true) (ρ.put oi.dst v) H → AAny P md ops lk R Q (fuel + 1) listed ρ H := by
  intro fuel
  induction fuel with
  | zero =>
    intro listed ρ H _ hcl hrd hy hA
    refine ⟨fun h => (by rw [h] at hrd; cases hrd), fun j hj oj hoj => ?_⟩
    by_cases hji : j = i
    · subst hji
      cases hi.symm.trans hoj
      exact hy.step (fun H _ => hr H) ⟨fun _ => hr H, hA⟩
    · have := ready_mono hj hji
      rw [hA.1] at this
      cases this
  | succ fuel ih =>
    intro listed ρ H hfree hcl hrd hy hA
    refine ⟨fun h => (by rw [h] at hrd; cases hrd), fun j hj oj hoj => ?_⟩
    by_cases hji : j = i
    · subst hji
      cases hi.symm.trans hoj
      exact hy.step (fun H _ => hr H) ⟨fun _ => hr H, hA⟩
    · have h1 := hA.2 j (ready_mono hj hji) oj hoj
      obtain ⟨hjun, oj', hoj', hall⟩ := mem_ready.1 hj
      cases hoj.symm.trans hoj'
      have hnot : ∀ e ∈ oj.after, Region.binds md e = true → e.on ≠ i := fun e he hb heq => by
        have h1 := hall e he hb
        have h0 := (mem_ready.1 hrd).1
        rw [heq] at h1
        rcases Nat.lt_or_ge i listed.size with h' | h'
        · simp [h'] at h0 h1; rw [h0] at h1; cases h1
        · simp [Array.getElem?_eq_none h'] at h1
      obtain ⟨a1, a2, a3⟩ := Oper.apart_spec (hfree j oj hoj hji hjun hnot)
      refine AStep_mono (AStep_apart a1 h1) fun ρ' H' ⟨u, e, hR, hA'⟩ => ?_
      subst e
      rw [Array.setIfInBounds_comm _ _ (Ne.symm hji)] at hA'
      have hRR : lk i = true → R H H' := fun hlk => by
        cases hl : lastly md ops lk j oj with
        | false => exact hR hl
        | true =>
          exfalso
          have hlt : i < ops.size := (Array.getElem?_eq_some_iff.1 hi).1
          have := List.all_eq_true.1 hl i (List.mem_range.2 hlt)
          simp only [Bool.or_eq_true, beq_iff_eq, Ne.symm hji, false_or, hlk, Bool.not_true, Bool.false_eq_true] at this
          have h1 := hcl.waits hoj hj this
          have h0 := (mem_ready.1 hrd).1
          rcases Nat.lt_or_ge i listed.size with h' | h'
          · simp [h'] at h0 h1; rw [h0] at h1; cases h1
          · simp [Array.getElem?_eq_none h'] at h1
      refine ⟨fun hl => hR hl, ih _ _ _ ?_ (hcl.set hj) (ready_mono hrd (Ne.symm hji)) (hy.keep (fun H H' H'' a b hx => ht _ _ _ (a hx) (b hx)) a3 hRR) (AAny.eqv hQ _ _ _ _ _ (Env.put_comm ρ v u a2) hA')⟩
      intro k ok hk hki hun hno
      refine hfree k ok hk hki ?_ hno
      by_cases hjk : j = k
      · subst hjk; exact hjun
      · rw [getD_set_ne true hjk] at hun; exact hun
end
end Go.Abs
