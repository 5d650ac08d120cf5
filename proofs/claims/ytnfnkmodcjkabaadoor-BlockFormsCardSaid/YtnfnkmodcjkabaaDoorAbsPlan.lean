/-
  Plans: an order for a region that draws one.
-/
import Derived.Test.YtnfnkmodcjkabaaDoorAbsDraw
set_option linter.unusedVariables false
set_option linter.unusedSimpArgs false
set_option linter.unusedSectionVars false
namespace Go.Abs
open Go Go.RowKit

/-- Does it leave the memory alone, and (ext = false) not even look at it? -/
def lightConv (P : Program) (ext : Bool) (src dst : TypeId) : Bool :=
  match P.underlying dst with
  | some (.int _) => true
  | some .string => match P.underlying src with
    | some .string => true
    | _ => ext
  | _ => false
def light (P : Program) (ext : Bool) : Op → Bool
  | .move _ | .assign _ | .pick .. | .build .. | .nilCheck _ | .binOp .. | .unOp .. | .makeInterface .. | .makeFunc .. | .fieldAddr .. | .field .. | .indexAddr .. | .index .. | .extract .. => true
  | .load .. | .lookup .. | .slice .. => ext
  | .convert src dst _ => lightConv P ext src dst
  | .call { callee := .builtin b, .. } => match b with
    | .min | .max => true
    | .len => ext
    | _ => false
  | _ => false

/-- The object that a value names. -/
def rid : V → Option Nat
  | .p (some (id, _, _)) => some id
  | .sl (some (id, _, _)) _ _ => some id
  | .m (some id) => some id
  | _ => none
/-- What an operation that looks at the memory looks through. -/
def through (op : Op) (ev : Operand → V) : V :=
  match op with
  | .load _ a => ev a
  | .lookup _ x _ _ => ev x
  | .slice _ x _ _ _ => ev x
  | .convert _ _ x => ev x
  | .call { callee := .builtin b, args, .. } => match b, args.toList with
    | .len, a :: _ => ev a
    | _, _ => .un
  | _ => .un
/-- Nothing below 'lo' was written. -/
def Keep (lo : Nat) (H H' : AH) : Prop := H.next ≤ H'.next ∧ ∀ j, j < H.next → j < lo → H'.get j = H.get j
theorem Keep.refl (lo : Nat) (H : AH) : Keep lo H H := ⟨Nat.le_refl _, fun _ _ _ => rfl⟩
theorem Keep.trans {lo lo' : Nat} {H H' H'' : AH} (h : Keep lo H H') (k : Keep lo' H' H'') (hl : lo' ≤ lo) : Keep lo' H H'' :=
  ⟨Nat.le_trans h.1 k.1, fun j hj hjl => by rw [k.2 j (Nat.lt_of_lt_of_le hj h.1) hjl, h.2 j hj (Nat.lt_of_lt_of_le hjl hl)]⟩
theorem Keep.mono {lo lo' : Nat} {H H' : AH} (h : Keep lo H H') (hl : lo' ≤ lo) : Keep lo' H H' := ⟨h.1, fun j hj hjl => h.2 j hj (Nat.lt_of_lt_of_le hjl hl)⟩
theorem Keep.new (lo : Nat) (H : AH) (o : O) : Keep lo H (H.new o) := ⟨Nat.le_succ _, fun j hj _ => by rw [AH.get_new, if_neg (by omega)]⟩
theorem Keep.set {lo : Nat} (H : AH) {k : Nat} (o : O) (hk : lo ≤ k) : Keep lo H (H.set k o) := ⟨Nat.le_refl _, fun j hj hl => AH.get_set_ne (by omega)⟩
theorem Keep.ext {lo : Nat} {H H' : AH} (h : Keep lo H H') (hl : H.next ≤ lo) : H.ext H' :=
  ⟨h.1, fun id o hg => by have := AH.get_lt hg; rw [h.2 id this (by omega)]; exact hg⟩

/-- How the memory may turn while operations of a region are put off: nothing old is touched; nothing that was there when the region began; these objects are not. -/
inductive Md where
  | ext
  | base (n0 : Nat)
  | only (ids : List Nat)
def RM (md : Md) (H H' : AH) : Prop := match md with
  | .ext => H.ext H'
  | .base n0 => Keep n0 H H'
  | .only ids => H.next ≤ H'.next ∧ ∀ j ∈ ids, j < H.next → H'.get j = H.get j
theorem RM.refl (md : Md) (H : AH) : RM md H H := by
  cases md with
  | ext => exact AH.ext.refl H
  | base n0 => exact Keep.refl _ _
  | only ids => exact ⟨Nat.le_refl _, fun _ _ _ => rfl⟩
theorem RM.trans {md : Md} {H H' H'' : AH} (h : RM md H H') (k : RM md H' H'') : RM md H H'' := by
  cases md with
  | ext => exact AH.ext.trans h k
  | base n0 => exact Keep.trans h k (Nat.le_refl _)
  | only ids => exact ⟨Nat.le_trans h.1 k.1, fun j hj hn => (k.2 j hj (Nat.lt_of_lt_of_le hn h.1)).trans (h.2 j hj hn)⟩
/-- The object that it names is the same. -/
def Same (x : V) (H H'' : AH) : Prop := ∀ id o, rid x = some id → H.get id = some o → H''.get id = some o
theorem AH.ext.same {H H'' : AH} (h : H.ext H'') (x : V) : Same x H H'' := fun id o _ hg => h.get id o hg

/-- May it be put first? -/
def tkOk (md : Md) (x : V) : Bool := match md, rid x with
  | .base n0, some id => Nat.ble (id + 1) n0
  | .only ids, some id => ids.contains id
  | _, _ => true
theorem RM.same {md : Md} {H H'' : AH} (h : RM md H H'') {x : V} (hx : tkOk md x = true) : Same x H H'' := by
  cases md with
  | ext => exact AH.ext.same h x
  | base n0 =>
    intro id o hr hg
    simp only [tkOk, hr] at hx
    have := AH.get_lt hg
    have h2 := Nat.le_of_ble_eq_true hx
    rw [h.2 id this (by omega)]; exact hg
  | only ids =>
    intro id o hr hg
    simp only [tkOk, hr] at hx
    rw [h.2 id (by simpa using hx) (AH.get_lt hg)]; exact hg

section
variable {P : Program} {H H' H'' : AH}
theorem aload_ext {t : TypeId} {a v : V} (h : aload P H t a = some v) (hx : Same a H H'') : aload P H'' t a = some v := by
  unfold aload at *
  split at h
  · split at h
    · rename_i hg; rw [hx _ _ rfl hg]; exact h
    · cases h
  · cases h
theorem aslice_ext {t : TypeId} {x : V} {lo hi mx : Option V} {v : V} (h : aslice P H t x lo hi mx = some v) (hx : Same x H H'') : aslice P H'' t x lo hi mx = some v := by
  unfold aslice at *
  split at h
  · exact h
  · exact h
  · split at h
    · split at h
      · rename_i h1 h2; rw [h1, hx _ _ rfl h2]; exact h
      · cases h
    · cases h
  · split at h
    · split at h
      · rename_i h1 h2; rw [h1, hx _ _ rfl h2]; exact h
      · cases h
    · cases h
  · cases h
theorem alen_ext {t : TypeId} {x v : V} (h : alen P H t x = some v) (hx : Same x H H'') : alen P H'' t x = some v := by
  unfold alen at *
  split at h
  · exact h
  · exact h
  · exact h
  · split at h
    · rename_i h1 h2; rw [h1, hx _ _ rfl h2]; exact h
    · cases h
  · cases h
theorem alookup_ext {t : TypeId} {x k : V} {ok : Bool} {v : V} (h : alookup P H t x k ok = some v) (hx : Same x H H'') : alookup P H'' t x k ok = some v := by
  unfold alookup at *
  split at h
  · split at h
    · rename_i hk
      rw [if_pos hk]
      cases x with
      | m a => cases a with
        | none => exact h
        | some id =>
          dsimp only at h ⊢
          cases hg : H.get id with
          | none => simp [hg] at h
          | some o => rw [hx _ _ rfl hg]; rw [hg] at h; exact h
      | _ => simp at h
    · cases h
  · cases h
theorem aconvert_light {ext : Bool} {src dst : TypeId} {x v : V} (hl : lightConv P ext src dst = true) (h : aconvert P H src dst x = some (v, H')) :
    H' = H ∧ ∀ H'', (ext = true → Same x H H'') → aconvert P H'' src dst x = some (v, H'') := by
  unfold lightConv at hl
  unfold aconvert at *
  split at h
  · simp at h; obtain ⟨rfl, rfl⟩ := h; exact ⟨rfl, fun H'' _ => by simp [*]⟩
  · rename_i hs hd; simp at h; obtain ⟨rfl, rfl⟩ := h; exact ⟨rfl, fun H'' _ => by simp [*]⟩
  · rename_i hs hd; simp [hd] at hl
  · rename_i hs hd
    split at h
    · simp at h; obtain ⟨rfl, rfl⟩ := h; exact ⟨rfl, fun H'' _ => by simp [*]⟩
    · cases h
  · rename_i e id g off len hs hd
    simp [hd, hs] at hl
    split at h
    · rename_i h1 h2
      split at h
      · rename_i h0; simp at h; obtain ⟨rfl, rfl⟩ := h; exact ⟨rfl, fun H'' hx => by simp [hs, hd, h1, (hx hl) _ _ rfl h2, h0]⟩
      · rename_i h0
        split at h
        · rename_i h3
          simp at h
          obtain ⟨l, hl', rfl, rfl⟩ := h
          exact ⟨rfl, fun H'' hx => by
            simp only [hs, hd, h1, (hx hl) _ _ rfl h2, h0, if_false, h3]
            rw [if_pos ⟨trivial, trivial⟩] <;> simp [hl']⟩
        · cases h
    · cases h
  · cases h

theorem aop_light {ext : Bool} {op : Op} {ev : Operand → V} {v : V} (hl : light P ext op = true) (h : aop P op ev H = some (v, H')) :
    H' = H ∧ ∀ H'', (ext = true → Same (through op ev) H H'') → aop P op ev H'' = some (v, H'') := by
  have mp : ∀ (x : V) (f : AH → Option V), (∀ H'', (ext = true → Same x H H'') → ∀ v, f H = some v → f H'' = some v) → (f H).map (·, H) = some (v, H') → H' = H ∧ ∀ H'', (ext = true → Same x H H'') → (f H'').map (·, H'') = some (v, H'') := by
    intro x f hf h
    cases hfh : f H with
    | none => rw [hfh] at h; cases h
    | some v' =>
      rw [hfh] at h
      cases h
      exact ⟨rfl, fun H'' hx => by simp [hf H'' hx v hfh]⟩
  cases op <;> simp only [light] at hl <;> try (exfalso; simp at hl; done)
  case move x => simp [aop] at h ⊢; obtain ⟨rfl, rfl⟩ := h; exact ⟨rfl, fun _ _ => rfl⟩
  case assign x => simp [aop] at h ⊢; obtain ⟨rfl, rfl⟩ := h; exact ⟨rfl, fun _ _ => rfl⟩
  case pick c a b =>
    unfold aop at *
    dsimp only at *
    split at h <;> simp at h <;> obtain ⟨rfl, rfl⟩ := h <;> simp [*]
  case build t ps => exact mp _ (fun _ => abuild P t _) (fun _ _ _ h => h) h
  case load t a => exact mp _ (fun H => aload P H t (ev a)) (fun _ hx _ h => aload_ext h (hx hl)) h
  case nilCheck x =>
    unfold aop at *
    dsimp only at *
    split at h <;> simp at h <;> obtain ⟨rfl, rfl⟩ := h <;> simp [*]
  case binOp op t x y _ => exact mp _ (fun _ => abin P op t (ev x) (ev y)) (fun _ _ _ h => h) h
  case unOp op t x => exact mp _ (fun _ => aunary op (ev x)) (fun _ _ _ h => h) h
  case convert src dst x => exact aconvert_light hl h
  case makeInterface t x =>
    unfold aop at *
    dsimp only at *
    split at h <;> simp at h
    obtain ⟨rfl, rfl⟩ := h
    exact ⟨rfl, fun _ _ => by simp [*]⟩
  case makeFunc fn a b => simp [aop] at h ⊢; obtain ⟨rfl, rfl⟩ := h; exact ⟨rfl, fun _ _ => rfl⟩
  case slice t x lo hi mx => exact mp _ (fun H => aslice P H t (ev x) (evo ev lo) (evo ev hi) (evo ev mx)) (fun _ hx _ h => aslice_ext h (hx hl)) h
  case fieldAddr t x f => exact mp _ (fun _ => afieldAddr P t f (ev x)) (fun _ _ _ h => h) h
  case field t x f => exact mp _ (fun _ => afield P t f (ev x)) (fun _ _ _ h => h) h
  case indexAddr t x i => exact mp _ (fun _ => aindexAddr P t (ev x) (ev i)) (fun _ _ _ h => h) h
  case index t x i => exact mp _ (fun _ => aindex P t (ev x) (ev i)) (fun _ _ _ h => h) h
  case lookup t x k ok => exact mp _ (fun H => alookup P H t (ev x) (ev k) ok) (fun _ hx _ h => alookup_ext h (hx hl)) h
  case extract x i =>
    unfold aop at *
    dsimp only at *
    split at h
    · rename_i l hl
      exact mp _ (fun _ => l[i]?) (fun _ _ _ h => h) h
    · cases h
  case call c =>
    obtain ⟨cal, args, ats⟩ := c
    cases cal with
    | value f => simp at hl
    | invoke r m => simp at hl
    | builtin b =>
      unfold aop at *
      dsimp only at *
      split at h
      case h_1 x t ha _ =>
        cases hargs : args.toList with
        | nil => simp [hargs] at ha
        | cons a l =>
          simp only [hargs, List.map_cons, List.cons.injEq] at ha
          refine mp _ (fun H => alen P H _ _) (fun _ hx _ h => alen_ext h ?_) h
          have := hx hl
          simp only [through, hargs] at this
          rw [ha.1] at this; exact this
      case h_2 => exact absurd hl Bool.false_ne_true
      case h_3 => exact mp _ (fun _ => afold amin2 _ _) (fun _ _ _ h => h) h
      case h_4 => exact mp _ (fun _ => afold amax2 _ _) (fun _ _ _ h => h) h
      case h_5 => exact absurd hl Bool.false_ne_true
      case h_6 => cases h
end

/-- An order for a region that draws one; where several may come and it matters, each of them. -/
inductive Plan where
  | done
  | take (i : Nat) (p : Plan)
  | alt (i : Nat) (x : Bool) (p q : Plan)
  | stop
  deriving Repr, Inhabited
def Plan.alts : Plan → List Nat
  | .alt i _ _ q => i :: q.alts
  | _ => []
def Plan.depth : Plan → Nat
  | .take _ p => p.depth + 1
  | .alt _ _ p q => max (p.depth + 1) q.depth
  | _ => 0

def APlan (P : Program) [Laid P] (ops : Array Oper) (md : Md) : Plan → (Env → AH → Prop) → Env → AH → Prop
  | .done, K, ρ, H => K ρ H
  | .take i p, K, ρ, H => match ops[i]? with
    | some o => tkOk md (through o.op (aev ρ)) = true ∧ AStep P ops o ρ H (APlan P ops md p K)
    | none => False
  | .alt i x p q, K, ρ, H => (match ops[i]? with
    | some o => AStep P ops o ρ H (fun ρ' H' => (if x then RM md H H' else True) ∧ APlan P ops md p K ρ' H')
    | none => False) ∧ APlan P ops md q K ρ H
  | .stop, K, ρ, H => True

/-- Does the k-th operation look at the memory, and do no more? -/
def looks (P : Program) (ops : Array Oper) (k : Nat) : Bool := match ops[k]? with | some o => light P true o.op && !light P false o.op | none => false
def planOk (P : Program) (md : Region.Mode) (ops : Array Oper) (ext : Bool) : Plan → Bool → Array Bool → Bool
  | .done, _, l => (Region.ready md ops l).isEmpty
  | .take i p, _, l => (match ops[i]? with | some o => light P ext o.op | none => false) && (Region.ready md ops l).contains i && Region.free md ops l i && planOk P md ops ext p true (l.setIfInBounds i true)
  | .alt i x p q, first, l => (!first || (Region.ready md ops l == i :: q.alts)) && (x || !ext || (match ops[i]? with | some o => lastly md ops (looks P ops) i o | none => false)) && planOk P md ops ext p true (l.setIfInBounds i true) && planOk P md ops ext q false l
  | .stop, first, _ => !first

section
variable {P : Program} [Laid P] {ops : Array Oper} {md : Region.Mode}

theorem AStep_light {ext : Bool} {md : Md} {o : Oper} {ρ : Env} {H : AH} {K : Env → AH → Prop} (hl : light P ext o.op = true) (htk : tkOk md (through o.op (aev ρ)) = true) (h : AStep P ops o ρ H K) :
    ∃ v, AYield P ops (fun H H' => ext = true → RM md H H') o v ρ H ∧ K (ρ.put o.dst v) H := by
  have key : ∀ K' : V → AH → Prop, AOp P o ρ H K' → ∃ v, (∀ H', (ext = true → RM md H H') → aop P o.op (aev ρ) H' = some (v, H')) ∧ K' v H := by
    intro K' h
    unfold AOp at h
    split at h
    · rename_i f args ats hop
      rw [hop] at hl; simp [light] at hl
    · rename_i it hop
      rw [hop] at hl; simp [light] at hl
    · obtain ⟨v, H', h1, h2⟩ := h
      obtain ⟨rfl, h3⟩ := aop_light hl h1
      exact ⟨v, fun H' hx => h3 H' fun he => (hx he).same htk, h2⟩
  unfold AStep at h
  unfold AYield
  cases hg : o.guard with
  | none =>
    simp only [hg] at h
    exact key _ h
  | some jw =>
    obtain ⟨j, want⟩ := jw
    simp only [hg] at h ⊢
    cases hy : ayielded ops ρ j with
    | none => simp only [hy] at h
    | some r =>
      simp only [hy] at h ⊢
      by_cases hrw : (r == some want) = true
      · simp only [hrw, if_true] at h ⊢; exact key _ h
      · simp only [hrw, Bool.false_eq_true, if_false] at h ⊢; exact ⟨_, rfl, h⟩

theorem APlan_mono {md' : Md} {K K' : Env → AH → Prop} (hk : ∀ ρ H, K ρ H → K' ρ H) : ∀ (p : Plan) (ρ : Env) (H : AH), APlan P ops md' p K ρ H → APlan P ops md' p K' ρ H
  | .done, ρ, H, h => hk _ _ h
  | .take i p, ρ, H, h => by
    unfold APlan at *
    split at h
    · exact ⟨h.1, AStep_mono h.2 (APlan_mono hk p)⟩
    · exact h.elim
  | .alt i x p q, ρ, H, h => by
    unfold APlan at *
    refine ⟨?_, APlan_mono hk q _ _ h.2⟩
    have h1 := h.1
    split at h1
    · exact AStep_mono h1 fun ρ H h => ⟨h.1, APlan_mono hk p _ _ h.2⟩
    · exact h1.elim
  | .stop, ρ, H, h => trivial

theorem plan_sound {ext : Bool} {mm : Md} {K : Env → AH → Prop} (hK : ∀ ρ ρ' H, ρ.eqv ρ' → K ρ H → K ρ' H) : ∀ (p : Plan),
    (∀ (l : Array Bool) (fuel : Nat) (ρ : Env) (H : AH), Closed md ops l → p.depth ≤ fuel → planOk P md ops ext p true l = true → APlan P ops mm p K ρ H → AAny P md ops (looks P ops) (fun H H' => ext = true → RM mm H H') K fuel l ρ H) ∧
    (∀ (l : Array Bool) (fuel : Nat) (ρ : Env) (H : AH), Closed md ops l → (∀ j ∈ p.alts, j ∈ Region.ready md ops l) → p.depth ≤ fuel + 1 → planOk P md ops ext p false l = true → APlan P ops mm p K ρ H → ∀ i ∈ p.alts, ∀ o, ops[i]? = some o →
      AStep P ops o ρ H fun ρ' H' => (lastly md ops (looks P ops) i o = false → ext = true → RM mm H H') ∧ AAny P md ops (looks P ops) (fun H H' => ext = true → RM mm H H') K fuel (l.setIfInBounds i true) ρ' H')
  | .done => by
    refine ⟨fun l fuel ρ H hcl _ hok h => ?_, fun l fuel ρ H hcl _ _ hok h i hi => by cases hi⟩
    simp [planOk] at hok
    cases fuel with
    | zero => exact ⟨hok, h⟩
    | succ fuel => exact ⟨fun _ => h, fun i hi => by rw [hok] at hi; cases hi⟩
  | .stop => ⟨fun l fuel ρ H hcl _ hok h => by simp [planOk] at hok, fun l fuel ρ H hcl _ _ hok h i hi => by cases hi⟩
  | .take i p => by
    have ih := plan_sound (ext := ext) (mm := mm) hK p
    refine ⟨fun l fuel ρ H hcl hd hok h => ?_, fun l fuel ρ H hcl _ _ hok h i hi => by cases hi⟩
    cases fuel with
    | zero => simp [Plan.depth] at hd
    | succ fuel =>
      simp only [planOk, Bool.and_eq_true] at hok
      obtain ⟨⟨⟨h1, h2⟩, h3⟩, h4⟩ := hok
      cases ho : ops[i]? with
      | none => simp [ho] at h1
      | some o =>
        simp only [ho] at h1
        simp only [APlan, ho] at h
        have hlk : ∃ v, AYield P ops (fun H H' => looks P ops i = true → ext = true → RM mm H H') o v ρ H ∧ APlan P ops mm p K (ρ.put o.dst v) H := by
          cases hlo : looks P ops i with
          | true =>
            obtain ⟨v, hy, hp⟩ := AStep_light h1 h.1 h.2
            exact ⟨v, by simpa using hy, hp⟩
          | false =>
            have h0 : light P false o.op = true := by
              simp only [looks, ho] at hlo
              cases ext with
              | false => exact h1
              | true => simpa [h1] using hlo
            obtain ⟨v, hy, hp⟩ := AStep_light (ext := false) (md := .ext) h0 rfl h.2
            exact ⟨v, by simpa using hy, hp⟩
        obtain ⟨v, hy, hp⟩ := hlk
        exact AAny_first (fun H _ => RM.refl mm H) (fun H H' H'' a b hx => (a hx).trans (b hx)) hK ho fuel l ρ H (Region.free_spec ho h3) hcl (by simpa using h2) hy
          (ih.1 _ fuel _ _ (hcl.set (by simpa using h2)) (by simp [Plan.depth] at hd; omega) h4 hp)
  | .alt i x p q => by
    have ihp := plan_sound (ext := ext) (mm := mm) hK p
    have ihq := plan_sound (ext := ext) (mm := mm) hK q
    have second : ∀ (l : Array Bool) (fuel : Nat) (ρ : Env) (H : AH) (first : Bool), Closed md ops l → (∀ j ∈ (Plan.alt i x p q).alts, j ∈ Region.ready md ops l) → (Plan.alt i x p q).depth ≤ fuel + 1 → planOk P md ops ext (.alt i x p q) first l = true → APlan P ops mm (.alt i x p q) K ρ H → ∀ j ∈ (Plan.alt i x p q).alts, ∀ o, ops[j]? = some o →
        AStep P ops o ρ H fun ρ' H' => (lastly md ops (looks P ops) j o = false → ext = true → RM mm H H') ∧ AAny P md ops (looks P ops) (fun H H' => ext = true → RM mm H H') K fuel (l.setIfInBounds j true) ρ' H' := by
      intro l fuel ρ H first hcl hal hd hok h j hj o ho
      simp only [planOk, Bool.and_eq_true] at hok
      obtain ⟨⟨⟨h1, h2⟩, h3⟩, h4⟩ := hok
      simp only [Plan.depth, Nat.max_le] at hd
      unfold APlan at h
      simp only [Plan.alts, List.mem_cons] at hj
      rcases hj with rfl | hj
      · have h5 := h.1
        simp only [ho] at h5 h2
        refine AStep_mono h5 fun ρ' H' ⟨hx, hp⟩ => ⟨fun hl he => ?_, ihp.1 _ fuel _ _ (hcl.set (hal j (by simp [Plan.alts]))) (by omega) h3 hp⟩
        simp [hl, he] at h2
        subst h2
        simpa using hx
      · exact ihq.2 l fuel ρ H hcl (fun j hj => hal j (by simp [Plan.alts, hj])) (by omega) h4 h.2 j hj o ho
    refine ⟨fun l fuel ρ H hcl hd hok h => ?_, fun l fuel ρ H hcl hal hd hok h => second l fuel ρ H false hcl hal hd hok h⟩
    cases fuel with
    | zero => simp [Plan.depth] at hd
    | succ fuel =>
      have hr : Region.ready md ops l = i :: q.alts := by
        simp only [planOk, Bool.and_eq_true] at hok
        simpa using hok.1.1.1
      refine ⟨fun h0 => absurd (h0.symm.trans hr) (by simp), fun j hj o ho => ?_⟩
      rw [hr] at hj
      exact second l fuel ρ H true hcl (fun j hj => by rw [hr]; exact hj) hd hok h j hj o ho

/-- A region that draws its order. -/
theorem AW_region_draw (mm : Md) {r : Fm} {Q : Exit → Env → AH → Prop} {ρ : Env} {H : AH} {id : Nat} (pl : Plan) (ext : Bool) (hm : P.follows .mixedOrders = true) (hok : planOk P .any ops ext pl true (Array.replicate ops.size false) = true) (hdep : pl.depth ≤ ops.size)
    (h : APlan P ops mm pl (Q .normal) ρ H) : AW r P (.region id ops true) Q ρ H := by
  intro C B S a w hl hB hH hE hd
  refine wpIn_region_any hm ?_
  have hA := (plan_sound (ext := ext) (mm := mm) (K := fun ρ H => ∃ ρ0, ρ0.eqv ρ ∧ Q .normal ρ0 H) (fun ρ ρ' H e ⟨ρ0, e0, hq⟩ => ⟨ρ0, e0.trans e, hq⟩) pl).1 _ ops.size ρ H (Closed.none _) hdep hok (APlan_mono (fun ρ H h => ⟨ρ, .refl ρ, h⟩) pl _ _ h)
  refine AAny.sound (r := r) (C := C) (B := B) hl _ _ (fun a w hl => ?_) hA hB.2 hH.drew hE hd.drew
  obtain ⟨S', ρ', H', h1, h2, h3, h4, ρ0, e0, h5⟩ := hl
  exact ⟨S', ρ0, H', h1, h2, ER_eqv e0.symm h3, h4, h5⟩
end
end Go.Abs
