/-
  A logic over abstract states: operations, regions, code, calls.
-/
import Derived.Test.YtnfnkmodcjkabaaDoorAbsSim5
import Derived.Test.YtnfnkmodcjkabaaDoorAbsGc
import Derived.RangeFuncRecord
import Derived.OrdersIn
set_option linter.unusedVariables false
set_option linter.unusedSimpArgs false
set_option linter.unusedSectionVars false
namespace Go.Abs
open Go Go.RowKit

/-- The tables of Go's library (and of the program) that lie unwritten: block and cells. -/
class Laid (P : Program) where
  tabs : List (Nat × List Value)
def Laid.ok (P : Program) [Laid P] (C : Ctx) : Prop := ∀ x ∈ Laid.tabs P, x.1 < C.w0.heap.size ∧ ¬ C.mine x.1 ∧ ∀ j v, x.2[j]? = some v → C.w0.cell? ⟨x.1, j, none⟩ = some v
theorem Laid.here {P : Program} [Laid P] {C : Ctx} {w : World} (h : Laid.ok P C) (hf : Fr C w) {x : Nat × List Value} (hx : x ∈ Laid.tabs P) {j : Nat} {v : Value} (hj : x.2[j]? = some v) : w.cell? ⟨x.1, j, none⟩ = some v := by
  obtain ⟨h1, h2, h3⟩ := h x hx
  rw [World.cell?_of_block (w := C.w0) (hf.block _ h1 h2)]
  exact h3 j v hj
theorem Laid.rebase {P : Program} [Laid P] {C : Ctx} {S : Loc} {H : AH} {w : World} (h : HR C S H w) (hl : Laid.ok P C) : Laid.ok P ⟨w, S⟩ := fun x hx => by
  obtain ⟨h1, h2, h3⟩ := hl x hx
  refine ⟨Nat.lt_of_lt_of_le h1 h.below.size, fun ⟨id, hi, ho, e⟩ => ?_, fun j v hj => Laid.here hl h.below hx hj⟩
  have e' : S.blk id = x.1 := e
  rcases (h.lt id hi ho).2 with h4 | h4
  · omega
  · exact h2 (e' ▸ h4)
theorem Laid.fresh {P : Program} [Laid P] {C : Ctx} {S : Loc} {H : AH} {w : World} (h : HR C S H w) (hl : Laid.ok P C) : Laid.ok P ⟨w, Loc.none⟩ := fun x hx => by
  obtain ⟨h1, _, h3⟩ := Laid.rebase h hl x hx
  exact ⟨h1, fun ⟨id, hi, _⟩ => absurd hi (Nat.not_lt_zero _), h3⟩

/-- A call of a Go function with a body. -/
def goFunc (P : Program) (f : FuncId) : Prop := ∃ fn, P.funcs[f]? = some fn ∧ (fn.name == "runtime.NumGoroutine") = false ∧ fn.body.isNone = false
/-- A call of a function without a Go body. -/
def extFunc (P : Program) (f : FuncId) : Prop := ∃ fn, P.funcs[f]? = some fn ∧ (fn.name == "runtime.NumGoroutine") = false ∧ fn.body.isNone = true

/-- WHAT A CALL DOES, over abstract states. -/
def ACalls (P : Program) [Laid P] (f : FuncId) (args : List V) (H : AH) (Q : V → AH → Prop) : Prop :=
  (goFunc P f ∧ ∀ C S cargs w, Laid.ok P C → HR C S H w → VRs S args cargs → Calls P f cargs.toArray w fun e w' => ∃ r cr S' H', e = .returned cr ∧ S.le S' ∧ VR S' r cr ∧ HR C S' H' w' ∧ Q r H') ∨
  (extFunc P f ∧ ∀ C S cargs w, Laid.ok P C → HR C S H w → VRs S args cargs → ∃ r cr S' H' w', (callFunc f cargs.toArray).run P w = .ok (.value cr) w' ∧ S.le S' ∧ VR S' r cr ∧ HR C S' H' w' ∧ Q r H')
theorem ACalls.mono {P : Program} [Laid P] {f : FuncId} {args : List V} {H : AH} {Q Q' : V → AH → Prop} (h : ACalls P f args H Q) (hq : ∀ r H', Q r H' → Q' r H') : ACalls P f args H Q' := by
  rcases h with h | h
  · exact .inl ⟨h.1, fun C S cargs w hl hH hv => (h.2 C S cargs w hl hH hv).mono fun e w' ⟨r, cr, S', H', h1, h2, h3, h4, h5⟩ => ⟨r, cr, S', H', h1, h2, h3, h4, hq r H' h5⟩⟩
  · exact .inr ⟨h.1, fun C S cargs w hl hH hv => by
      obtain ⟨r, cr, S', H', w', h1, h2, h3, h4, h5⟩ := h.2 C S cargs w hl hH hv
      exact ⟨r, cr, S', H', w', h1, h2, h3, h4, hq r H' h5⟩⟩

/-- The fence that lets everything in, at a round of a loop or at none. -/
def FF (r : Option Nat) : Fence := { Fence.wide with round := r }
theorem callsIn_FF {q : Option Nat} {n : Nat} {P : Program} {f : FuncId} {args : Array Value} {w : World} {R : Ending → World → Prop} (h : Calls P f args w R) : CallsIn (FF q) n P f args w R :=
  callsIn_wide.2 h
theorem FF_room (q : Option Nat) (n : Nat) : (FF q).room n := fun _ h => by simp [FF, Fence.wide] at h

/-- The marks of the loops over functions that an activation has entered. -/
def Dfr (C : Ctx) (S : Loc) (w : World) (ds : List Deferred) : Prop :=
  ∃ bs : List Nat, bs.Nodup ∧ (∀ b ∈ bs, C.w0.heap.size ≤ b ∧ (∀ id, id < S.next → S.own id = true → S.blk id ≠ b) ∧ w.heap[b]? = some (.deferred (some []))) ∧ ds = bs.map fun b => { target := .collected b, args := #[] }
theorem Dfr.nil {C : Ctx} {S : Loc} {w : World} : Dfr C S w [] := ⟨[], List.nodup_nil, by simp, rfl⟩
theorem Dfr.keep {C : Ctx} {S S' : Loc} {H H' : AH} {w w' : World} {ds : List Deferred} (h : Dfr C S w ds) (hH : HR C S H w) (k : HR ⟨w, S⟩ S' H' w') : Dfr C S' w' ds := by
  obtain ⟨bs, h1, h2, h3⟩ := h
  refine ⟨bs, h1, fun b hb => ?_, h3⟩
  obtain ⟨g1, g2, g3⟩ := h2 b hb
  have hlt : b < w.heap.size := (Array.getElem?_eq_some_iff.1 g3).1
  have hm : ¬ (Ctx.mk w S).mine b := fun ⟨id, hi, ho, e⟩ => g2 id hi ho e
  refine ⟨g1, fun id hi ho e => ?_, by rw [k.below.block b hlt hm]; exact g3⟩
  rcases (k.lt id hi ho).2 with h4 | h4
  · have : w.heap.size ≤ S'.blk id := h4
    omega
  · exact hm (e ▸ h4)
theorem Dfr.drew {C : Ctx} {S : Loc} {w : World} {ds : List Deferred} (h : Dfr C S w ds) : Dfr C S { w with drawn := w.drawn + 1 } ds := h

/-- The post over the model's states that an abstract post stands for. -/
def Lift (C : Ctx) (S : Loc) (K : Env → AH → Prop) (a : Act) (w : World) : Prop :=
  ∃ S' ρ H, S.le S' ∧ HR C S' H w ∧ ER S' ρ a ∧ Dfr C S' w a.defers ∧ K ρ H
theorem Lift.mono {C : Ctx} {S S0 : Loc} {K K' : Env → AH → Prop} {a : Act} {w : World} (h : Lift C S K a w) (hS : S0.le S) (hk : ∀ ρ H, K ρ H → K' ρ H) : Lift C S0 K' a w := by
  obtain ⟨S', ρ, H, h1, h2, h3, h4, h5⟩ := h
  exact ⟨S', ρ, H, hS.trans h1, h2, h3, h4, hk _ _ h5⟩

/-- Where code runs: in a round of a loop or in none; how many objects there were when the call (the round) began. -/
structure Fm where
  round : Option Nat
  base : Nat
/-- CODE over abstract states. -/
def AW (r : Fm) (P : Program) [Laid P] (c : Code) (Q : Exit → Env → AH → Prop) (ρ : Env) (H : AH) : Prop :=
  ∀ C B S a w, Laid.ok P C → B.next = r.base ∧ B.le S → HR C S H w → ER S ρ a → Dfr C S w a.defers → c.wpIn (FF r.round) 0 P (fun e a' w' => Lift C B (Q e) a' w') a w
def AThen (K : Env → AH → Prop) (Q : Exit → Env → AH → Prop) : Exit → Env → AH → Prop
  | .normal, ρ, H => K ρ H
  | e, ρ, H => Q e ρ H

/-- A round's end. -/
def ARoundEnd (id : Nat) (K : V → AH → Prop) (jump : Option Code) (H : AH) : Prop :=
  match H.get id with
  | some (.loop tag _ _ ρ ps asg body) => K (.b jump.isNone) (H.set id (.loop tag (if jump.isNone then .ready else .done) jump ρ ps asg body))
  | _ => False
def ARoundPost (id : Nat) (K : V → AH → Prop) : Exit → Env → AH → Prop
  | .normal, _, H => ARoundEnd id K none H
  | .ret, _, H => ARoundEnd id K (some .ret) H
  | .exit x, _, H => ARoundEnd id K (some (.exit x)) H
  | _, _, _ => False
def Env.puts (ρ : Env) (l : List (Tmp × V)) : Env := l.foldl (fun ρ x => ρ.put (some x.1) x.2) ρ
/-- A call of a loop's yield: a round. -/
def ARound (P : Program) [Laid P] (id : Nat) (vs : List V) (H : AH) (K : V → AH → Prop) : Prop :=
  match H.get id with
  | some (.loop _ .ready _ ρ ps asg body) => vs.length = ps.size ∧ ∀ l, AW ⟨l, H.next⟩ P asg (AThen (fun ρ' H' =>
      match H'.get id with
      | some (.loop tag .ready pe ρ0 ps0 asg0 body0) => AW ⟨l, H.next⟩ P body (ARoundPost id K) ρ' (H'.set id (.loop tag .busy pe ρ0 ps0 asg0 body0))
      | _ => False) (fun _ _ _ => False)) (ρ.puts (ps.toList.zip vs)) H
  | _ => False

/-- One operation, with what follows. -/
def AOp (P : Program) [Laid P] (o : Oper) (ρ : Env) (H : AH) (K : V → AH → Prop) : Prop :=
  match o.op with
  | .call { callee := .value f, args, .. } =>
    match aev ρ f with
    | .fn (.func g) first caps => ACalls P g (first ++ evs (aev ρ) args ++ caps) H K
    | .yl id => ARound P id (evs (aev ρ) args) H K
    | _ => False
  | .next it false => ANext H (aev ρ it) K
  | op => ∃ v H', aop P op (aev ρ) H = some (v, H') ∧ K v H'

theorem put_defers (a : Act) (d : Option Tmp) (v : Value) : (a.put d v).defers = a.defers := by cases d <;> rfl

section
variable {r : Fm} {C : Ctx} {P : Program} [Laid P] {S : Loc} {H : AH} {w : World} {ρ : Env} {a : Act}

theorem Env.puts_cons (ρ : Env) (x : Tmp × V) (l : List (Tmp × V)) : ρ.puts (x :: l) = (ρ.put (some x.1) x.2).puts l := rfl
theorem ER.puts {S : Loc} : ∀ (ps : List Tmp) (vs : List V) (cs : List Value) {ρ : Env} {a : Act}, ER S ρ a → VRs S vs cs → ER S (ρ.puts (ps.zip vs)) { a with tmps := (ps.zip cs).foldl (fun t (p : Tmp × Value) => t.setIfInBounds p.1 p.2) a.tmps }
  | [], vs, cs, ρ, a, h, hv => by simpa [Env.puts] using h
  | p :: ps, [], cs, ρ, a, h, hv => by cases hv; simpa [Env.puts] using h
  | p :: ps, v :: vs, _, ρ, a, h, .cons _ c _ cs hv ht => by
    simp only [List.zip_cons_cons, Env.puts_cons, List.foldl_cons]
    exact ER.puts ps vs cs (a := a.put (some p) c) (h.put (some p) hv) ht

theorem HR.setLoop {C : Ctx} {S : Loc} {H : AH} {w : World} (hH : HR C S H w) {id tag : Nat} {st : LoopState} {pe : Option Code} {ρ : Env} {ps : Array Tmp} {asg body : Code} (hg : H.get id = Option.some (.loop tag st pe ρ ps asg body)) :
    ∃ rec : Loop, w.heap[S.blk id]? = Option.some (.loop rec) ∧ rec.state = st ∧ rec.pending = pe ∧ rec.params = ps ∧ rec.assign = asg ∧ rec.body = body ∧ rec.tmps.size = ρ.n ∧ (∀ t, VR S (ρ.get t) (rec.tmps.getD t undef)) ∧
      ∀ st' pe', HR C S (H.set id (.loop tag st' pe' ρ ps asg body)) (w.putObj (S.blk id) (.loop { rec with state := st', pending := pe' })) := by
  have hlt : id < S.next := by rw [← hH.next]; exact AH.get_lt hg
  obtain ⟨h1, h2, h0, rec, h3, h4, h5, h6, h7, h8, h9, h10⟩ := hH.obj id _ hg
  refine ⟨rec, h3, h4, h5, h6, h7, h8, h9, h10, fun st' pe' => ?_⟩
  refine hH.write id hlt h2 _ _ ⟨h1, h2, h0, { rec with state := st', pending := pe' }, ?_, rfl, rfl, h6, h7, h8, h9, h10⟩
  have := (Array.getElem?_eq_some_iff.1 h3).1
  simp [this]

/-- One round, run. -/
theorem ARound.sound {q : Option Nat} {fn : FuncId} {id l : Nat} {vs : List V} {cs : List Value} {K : V → AH → Prop} (h : ARound P id vs H K) (hl : Laid.ok P C) (hH : HR C S H w) (hy : VR S (.yl id) (.func (.yield l) #[] #[])) (hv : VRs S vs cs) :
    ∃ (rec : Loop), (Instr.yield l cs.toArray).run P w = .ok (.round l rec.fn ((rec.params.zip cs.toArray).foldl (fun tmps (t, a) => tmps.setIfInBounds t a) rec.tmps) rec.assign rec.body) w ∧
      RoundIn (FF q) 0 P l rec.fn ((rec.params.zip cs.toArray).foldl (fun tmps (t, a) => tmps.setIfInBounds t a) rec.tmps) rec.assign rec.body w
        (fun e w' => ∃ v cv S' H', e = .returned cv ∧ S.le S' ∧ VR S' v cv ∧ HR C S' H' w' ∧ K v H') := by
  unfold ARound at h
  split at h
  · rename_i tag pe ρ ps asg body hg
    obtain ⟨hlen, h⟩ := h
    cases hy with
    | yl _ _ hid hb =>
      have hgen : S.gen id = 0 := (hH.obj id _ hg).1
      obtain ⟨rec, h3, h4, h5, h6, h7, h8, h9, h10, hset⟩ := hH.setLoop hg
      have hl' : l = S.blk id := hb hgen
      subst hl'
      have hsz : cs.toArray.size = rec.params.size := by rw [h6, ← hlen]; simp [hv.length]
      refine ⟨rec, run_yield h3 hsz, roundIn_of_wpIn (F := FF q) trivial ?_⟩
      have hE : ER S (ρ.puts (ps.toList.zip vs)) { tmps := (rec.params.zip cs.toArray).foldl (fun tmps (t, a) => tmps.setIfInBounds t a) rec.tmps, defers := [] } := by
        have := ER.puts ps.toList vs cs (a := { tmps := rec.tmps, defers := [] }) (ρ := ρ) ⟨h9, h10⟩ hv
        have e : (rec.params.zip cs.toArray).foldl (fun tmps (x : Tmp × Value) => tmps.setIfInBounds x.1 x.2) rec.tmps = (ps.toList.zip cs).foldl (fun t (p : Tmp × Value) => t.setIfInBounds p.1 p.2) rec.tmps := by
          rw [← Array.foldl_toList, Array.toList_zip, h6]
        show ER S _ { tmps := (rec.params.zip cs.toArray).foldl (fun tmps (x : Tmp × Value) => tmps.setIfInBounds x.1 x.2) rec.tmps, defers := [] }
        rw [e]; exact this
      rw [h7]
      refine wpIn_mono (h (some (S.blk id)) C S S _ w hl ⟨hH.next.symm, Loc.le.refl S⟩ hH hE Dfr.nil) fun e a1 w1 hlift => ?_
      obtain ⟨S1, ρ1, H1, k1, k2, k3, k4, k5⟩ := hlift
      cases e with
      | normal =>
        have k5' : (match H1.get id with
          | some (.loop tag .ready pe ρ0 ps0 asg0 body0) => AW ⟨some (S.blk id), H.next⟩ P body (ARoundPost id K) ρ1 (H1.set id (.loop tag .busy pe ρ0 ps0 asg0 body0))
          | _ => False) := k5
        split at k5'
        · rename_i tag1 pe1 ρ0 ps0 asg0 body0 hg1
          have hblk1 : S1.blk id = S.blk id := k1.blk id hid (by rw [(k2.obj id _ hg1).1, hgen])
          obtain ⟨rec1, m3, m4, m5, m6, m7, m8, m9, m10, mset⟩ := k2.setLoop hg1
          rw [hblk1] at m3 mset
          refine ⟨_, run_beginRound m3 m4, ?_⟩
          rw [h8]
          have hset1 := mset .busy pe1
          have hdf : Dfr C S1 (w1.putObj (S.blk id) (.loop { rec1 with state := .busy })) a1.defers := by
            have := (k2.rebase).write id (by rw [← k2.next]; exact AH.get_lt hg1) (k2.obj id _ hg1).2.1 (.loop tag1 .busy pe1 ρ0 ps0 asg0 body0) (.loop { rec1 with state := .busy }) ?_
            · rw [hblk1] at this
              exact k4.keep k2 this
            · obtain ⟨g1, g2, g0, _⟩ := k2.obj id _ hg1
              refine ⟨g1, g2, g0, { rec1 with state := .busy }, ?_, rfl, m5, m6, m7, m8, m9, m10⟩
              have := (Array.getElem?_eq_some_iff.1 m3).1
              simp [hblk1, this]
          have e0 : ({ rec1 with state := .busy } : Loop) = { rec1 with state := .busy, pending := pe1 } := by rw [← m5]
          rw [e0] at hdf ⊢
          refine wpIn_mono (k5' C S S1 a1 _ hl ⟨hH.next.symm, k1⟩ hset1 k3 hdf) fun e2 a2 w2 hlift2 => ?_
          obtain ⟨S2, ρ2, H2, n1, n2, n3, n4, n5⟩ := hlift2
          have fin : ∀ jump, ARoundEnd id K jump H2 → ∃ v w', (Instr.endRound (S.blk id) jump).run P w2 = .ok v w' ∧ ∃ v' cv S' H', Ending.returned v = .returned cv ∧ S.le S' ∧ VR S' v' cv ∧ HR C S' H' w' ∧ K v' H' := by
            intro jump hend
            unfold ARoundEnd at hend
            split at hend
            · rename_i tag2 st2 pe2 ρ02 ps02 asg02 body02 hg2
              have hblk2 : S2.blk id = S.blk id := n1.blk id hid (by rw [(n2.obj id _ hg2).1, hgen])
              obtain ⟨rec2, q3, q4, q5, q6, q7, q8, q9, q10, qset⟩ := n2.setLoop hg2
              rw [hblk2] at q3 qset
              exact ⟨_, _, run_endRound jump q3, .b jump.isNone, _, S2, _, rfl, n1, .b _, qset _ _, hend⟩
            · exact hend.elim
          cases e2 with
          | normal => exact fin none n5
          | ret => exact fin (some .ret) n5
          | exit x => exact fin (some (.exit x)) n5
          | goto x => exact n5.elim
          | panic c => exact n5.elim
          | outgrown => exact n5.elim
        · exact k5'.elim
      | exit id => exact k5.elim
      | goto l => exact k5.elim
      | ret => exact k5.elim
      | panic c => exact k5.elim
      | outgrown => exact k5.elim
  · exact h.elim

theorem aop_noDefer {ev : Operand → V} {H H' : AH} {op : Op} {v : V} (h : aop P op ev H = some (v, H')) : ∀ c, op ≠ .defer c := by
  rintro c rfl; simp [aop] at h

/-- Seen from where it is, an operation leaves the marks alone. -/
theorem Lift.of_rebase {K : Env → AH → Prop} {a' : Act} {S' : Loc} {ρ' : Env} {H' : AH} {w' : World} (hH : HR C S H w) (hd : Dfr C S w a'.defers) (hS : S.le S') (k : HR ⟨w, S⟩ S' H' w') (hE : ER S' ρ' a') (hK : K ρ' H') : Lift C S K a' w' :=
  ⟨S', ρ', H', hS, hH.back k, hE, hd.keep hH k, hK⟩

theorem AOp.sound {o : Oper} {K : Env → AH → Prop} {Q : Exit → Act → World → Prop} (h : AOp P o ρ H (fun v H' => K (ρ.put o.dst v) H')) (hl : Laid.ok P C) {B : Loc} (hB : B.le S) (hH : HR C S H w) (hE : ER S ρ a) (hd : Dfr C S w a.defers) :
    o.wpIn (FF r.round) 0 P a w (Lift C B K) Q := by
  refine Oper.wpIn_mono (K := Lift C S K) (fun a w h => h.mono hB fun _ _ h => h) ⟨fun _ _ => trivial, ?_⟩
  have hl' := Laid.rebase hH hl
  have hH0 := hH.rebase
  unfold AOp at h
  split at h
  · rename_i f args ats hop
    have hsem : o.semAt (FF r.round).round a.eval = execOp a.eval o := Oper.semAt_eq _ _ _ (fun c e => by rw [hop] at e; cases e)
    rw [hsem]
    split at h
    · rename_i g first caps hf
      have hfv := aev_VR hE f
      rw [hf] at hfv
      unfold execOp
      rw [hop]
      dsimp only
      simp only [resolve]
      generalize hcf : a.eval f = cf at hfv
      cases hfv with
      | fn _ _ _ first' caps' h1 h2 =>
        have hargs := (h1.append (evs_VRs (aev_VR hE) args.toList)).append h2
        have e : first'.toArray ++ args.map a.eval ++ caps'.toArray = (first' ++ args.toList.map a.eval ++ caps').toArray := by apply Array.ext'; simp
        rcases h with ⟨⟨fn, hfn, hname, hbody⟩, hcall⟩ | ⟨⟨fn, hfn, hname, hbody⟩, hcall⟩
        · simp only [Deferred.ofValue, pure_bind, invoke, callFunc, Sem.run_bind, run_program, Result.andThen_ok, hfn, hname, Bool.false_eq_true, if_false, hbody, Sem.run_pure, Oper.uponIn]
          rw [e]
          refine ⟨fun h => by simp [FF, Fence.wide] at h, callsIn_FF ((hcall ⟨w, S⟩ S _ w hl' hH0 hargs).mono fun e w' ⟨r, cr, S', H', he, hS, hv, hH', hK⟩ => ?_)⟩
          subst he
          exact Lift.of_rebase hH (by rw [put_defers]; exact hd) hS hH' ((hE.mono hS).put o.dst hv) hK
        · obtain ⟨r, cr, S', H', w', hrun, hS, hv, hH', hK⟩ := hcall ⟨w, S⟩ S _ w hl' hH0 hargs
          rw [← e] at hrun
          simp only [Deferred.ofValue, pure_bind, invoke, Sem.run_bind, hrun, Result.andThen_ok, Sem.run_pure, Oper.uponIn]
          exact Lift.of_rebase hH (by rw [put_defers]; exact hd) hS hH' ((hE.mono hS).put o.dst hv) hK
    · rename_i id hf
      have hfv := aev_VR hE f
      rw [hf] at hfv
      unfold execOp
      rw [hop]
      dsimp only
      simp only [resolve]
      generalize hcf : a.eval f = cf at hfv
      have hfv' := hfv
      cases hfv with
      | yl _ l hid hb =>
        have hargs := evs_VRs (aev_VR hE) args.toList
        obtain ⟨rec, hy, hround⟩ := ARound.sound (q := r.round) (fn := 0) h hl' hH0 hfv' hargs
        have e : args.map a.eval = (args.toList.map a.eval).toArray := by apply Array.ext'; simp
        simp only [Deferred.ofValue, pure_bind, invoke, Sem.run_bind, Array.append_empty, Array.empty_append]
        rw [e]
        simp only [hy, Result.andThen_ok, Sem.run_pure, Oper.uponIn]
        refine ⟨fun h => by simp [FF, Fence.wide] at h, hround.mono fun e w' ⟨v, cv, S', H', he, hS, hv, hH', hK⟩ => ?_⟩
        subst he
        exact Lift.of_rebase hH (by rw [put_defers]; exact hd) hS hH' ((hE.mono hS).put o.dst hv) hK
    · exact h.elim
  · rename_i it hop
    have hsem : o.semAt (FF r.round).round a.eval = execOp a.eval o := Oper.semAt_eq _ _ _ (fun c e => by rw [hop] at e; cases e)
    rw [hsem]
    obtain ⟨v, cv, H', w', hr, hv, hH', hK⟩ := sim_next (P := P) (t := o.type) hH0 (aev_VR hE it) h
    unfold execOp
    rw [hop]
    dsimp only
    simp only [Sem.run_bind, hr, Result.andThen_ok, Sem.run_pure, Oper.uponIn]
    exact Lift.of_rebase hH (by rw [put_defers]; exact hd) (Loc.le.refl S) hH' (hE.put o.dst hv) hK
  · rename_i op hne
    obtain ⟨v, H', ha, hK⟩ := h
    have hsem : o.semAt (FF r.round).round a.eval = execOp a.eval o := Oper.semAt_eq _ _ _ (aop_noDefer ha)
    rw [hsem]
    obtain ⟨S', cv, w', hr, hS, hv, hH'⟩ := sim_aop (o := o) hH0 (aev_VR hE) ha
    rcases hr with hr | ⟨hr, rfl⟩
    · rw [hr]
      exact Lift.of_rebase hH (by rw [put_defers]; exact hd) hS hH' ((hE.mono hS).put o.dst hv) hK
    · rw [hr]
      exact Lift.of_rebase hH (by rw [put_defers]; exact hd) hS hH' ((hE.mono hS).put o.dst hv) hK

/-- What a guard's operation yielded: a bool, or nothing (it was left out). -/
def ayielded (ops : Array Oper) (ρ : Env) (j : Nat) : Option (Option Bool) :=
  match (ops[j]?).bind (·.dst) with
  | none => some none
  | some d => if d < ρ.n then
      match ρ.get d with
      | .b b => some (some b)
      | .tup [] => some none
      | _ => none
    else none
theorem ayielded_sound {ops : Array Oper} {j : Nat} {r : Option Bool} (hE : ER S ρ a) (h : ayielded ops ρ j = some r) : yielded ops a.tmps j = r := by
  unfold ayielded at h
  unfold yielded
  split at h
  · rename_i hd
    cases h
    simp [hd]
  · rename_i d hd
    split at h
    · rename_i hlt
      have hv := hE.2 d
      have hsz : d < a.tmps.size := by rw [hE.1]; exact hlt
      have hget : a.tmps.getD d undef = a.tmps[d] := by simp [hsz]
      rw [hget] at hv
      simp only [hd, Option.bind_some, Array.getElem?_eq_getElem hsz]
      split at h
      · rename_i b hb
        cases h
        rw [hb] at hv
        generalize a.tmps[d] = c at hv
        cases hv; rfl
      · rename_i hb
        cases h
        rw [hb] at hv
        generalize a.tmps[d] = c at hv
        cases hv with
        | tup _ l' hl => rfl
      · cases h
    · cases h

/-- One operation of a region, with what follows: it may be left out. -/
def AStep (P : Program) [Laid P] (ops : Array Oper) (o : Oper) (ρ : Env) (H : AH) (K : Env → AH → Prop) : Prop :=
  match o.guard with
  | none => AOp P o ρ H (fun v H' => K (ρ.put o.dst v) H')
  | some (j, want) => match ayielded ops ρ j with
    | some r => if r == some want then AOp P o ρ H (fun v H' => K (ρ.put o.dst v) H') else K (ρ.put o.dst (.tup [])) H
    | none => False

theorem AStep.sound {ops : Array Oper} {i : Nat} {o : Oper} {K : Env → AH → Prop} {Q : Exit → Act → World → Prop} (hi : ops[i]? = some o) (h : AStep P ops o ρ H K) (hl : Laid.ok P C) {B : Loc} (hB : B.le S) (hH : HR C S H w) (hE : ER S ρ a) (hd : Dfr C S w a.defers) :
    wpOpIn (FF r.round) 0 P ops Q i (Lift C B K) a w := by
  unfold AStep at h
  unfold wpOpIn
  simp only [hi]
  split at h
  · rename_i hg
    have : Region.wanted o (yielded ops a.tmps) = true := by simp [Region.wanted, hg]
    simp only [this, if_true]
    exact AOp.sound h hl hB hH hE hd
  · rename_i j want hg
    split at h
    · rename_i r hr
      have hy := ayielded_sound hE hr
      have hw : Region.wanted o (yielded ops a.tmps) = (r == some want) := by simp [Region.wanted, hg, hy]
      rw [hw]
      split at h
      · rename_i hrw
        simp only [hrw, if_true]
        exact AOp.sound h hl hB hH hE hd
      · rename_i hrw
        simp only [hrw, Bool.false_eq_true, if_false]
        exact ⟨fun _ _ => trivial, S, _, H, hB, hH, hE.put o.dst (.tup [] [] .nil), by rw [put_defers]; exact hd, h⟩
    · exact h.elim

/-- Operations one behind the other. -/
def AOps (P : Program) [Laid P] (ops : Array Oper) : List Oper → (Env → AH → Prop) → Env → AH → Prop
  | [], K, ρ, H => K ρ H
  | o :: l, K, ρ, H => AStep P ops o ρ H (AOps P ops l K)

theorem AOps.sound {ops : Array Oper} {Q : Exit → Act → World → Prop} (hl : Laid.ok P C) {B : Loc} : ∀ (l : List Oper) (k : Nat) {K : Env → AH → Prop} {S : Loc} {ρ : Env} {H : AH} {a : Act} {w : World}, (∀ (j : Nat) (o : Oper), l[j]? = some o → ops[k + j]? = some o) →
    (∀ a w, Lift C B K a w → Q .normal a w) → AOps P ops l K ρ H → B.le S → HR C S H w → ER S ρ a → Dfr C S w a.defers → wpOpsIn (FF r.round) 0 P ops Q (List.range' k l.length) a w
  | [], k, K, S, ρ, H, a, w, _, hQ, h, hB, hH, hE, hd => hQ a w ⟨S, ρ, H, hB, hH, hE, hd, h⟩
  | o :: l, k, K, S, ρ, H, a, w, hlk, hQ, h, hB, hH, hE, hd => by
    have hi : ops[k]? = some o := by simpa using hlk 0 o rfl
    rw [List.length_cons, List.range'_succ, wpOpsIn_cons]
    refine wpOpIn_mono (fun a' w' ⟨S', ρ', H', hS, hH', hE', hd', hK⟩ => ?_) (AStep.sound (r := r) (Q := Q) hi h hl hB hH hE hd)
    exact AOps.sound hl l (k + 1) (fun j o' hj => by have := hlk (j + 1) o' (by simpa using hj); rwa [show k + (j + 1) = k + 1 + j by omega] at this)
      hQ hK hS hH' hE' hd'
end

section
variable {r : Fm} {P : Program} [Laid P] {Q : Exit → Env → AH → Prop} {ρ : Env} {H : AH}

theorem AW.mono {c : Code} {Q' : Exit → Env → AH → Prop} (h : AW r P c Q ρ H) (hq : ∀ e ρ H, Q e ρ H → Q' e ρ H) : AW r P c Q' ρ H :=
  fun C B S a w hl hB hH hE hd => wpIn_mono (h C B S a w hl hB hH hE hd) fun e a w hl => hl.mono (Loc.le.refl B) (hq e)

theorem AW_skip (h : Q .normal ρ H) : AW r P .skip Q ρ H := fun C B S a w hl hB hH hE hd => wpIn_skip ⟨S, ρ, H, hB.2, hH, hE, hd, h⟩
theorem AW_exit {id : Nat} (h : Q (.exit id) ρ H) : AW r P (.exit id) Q ρ H := fun C B S a w hl hB hH hE hd => wpIn_exit ⟨S, ρ, H, hB.2, hH, hE, hd, h⟩
theorem AW_ret (h : Q .ret ρ H) : AW r P .ret Q ρ H := fun C B S a w hl hB hH hE hd => wpIn_ret ⟨S, ρ, H, hB.2, hH, hE, hd, h⟩

theorem AW_seq {x y : Code} (h : AW r P x (AThen (AW r P y Q) Q) ρ H) : AW r P (.seq x y) Q ρ H := by
  intro C B S a w hl hB hH hE hd
  refine wpIn_seq (wpIn_mono (h C B S a w hl hB hH hE hd) fun e a' w' hl' => ?_)
  cases e with
  | normal =>
    obtain ⟨S', ρ', H', hS, hH', hE', hd', hK⟩ := hl'
    exact hK C B S' a' w' hl ⟨hB.1, hS⟩ hH' hE' hd'
  | exit id => exact hl'
  | goto l => exact hl'
  | ret => exact hl'
  | panic c => exact hl'
  | outgrown => exact hl'

theorem AW_cond {c : Operand} {x y : Code} {b : Bool} (hc : aev ρ c = .b b) (h : AW r P (if b then x else y) Q ρ H) : AW r P (.cond c x y) Q ρ H := by
  intro C B S a w hl hB hH hE hd
  have hv := aev_VR hE c
  rw [hc] at hv
  generalize hcv : a.eval c = cv at hv
  cases hv
  exact wpIn_cond hcv (h C B S a w hl hB hH hE hd)

def ABlock (id : Nat) (Q : Exit → Env → AH → Prop) : Exit → Env → AH → Prop
  | .exit id', ρ, H => if id' = id then Q .normal ρ H else Q (.exit id') ρ H
  | e, ρ, H => Q e ρ H
theorem AW_block {id : Nat} {c : Code} (h : AW r P c (ABlock id Q) ρ H) : AW r P (.block id c) Q ρ H := by
  intro C B S a w hl hB hH hE hd
  refine wpIn_block (wpIn_mono (h C B S a w hl hB hH hE hd) fun e a' w' hl => ?_)
  cases e with
  | exit id' =>
    simp only [Exit.inBlock]
    split
    · rename_i e; subst e; exact hl.mono (Loc.le.refl B) fun ρ H h => by simpa [ABlock] using h
    · rename_i e; exact hl.mono (Loc.le.refl B) fun ρ H h => by simpa [ABlock, e] using h
  | normal => exact hl
  | goto l => exact hl
  | ret => exact hl
  | panic c => exact hl
  | outgrown => exact hl

/-- What may be assumed: what names an object names one that is there. -/
theorem AW_wf {c : Code} (h : H.wf → (∀ t, V.lt H.next (ρ.get t) = true) → AW r P c Q ρ H) : AW r P c Q ρ H := fun C B S a w hl hB hH hE hd =>
  h hH.wf (fun t => by rw [hH.next]; exact (hE.2 t).lt) C B S a w hl hB hH hE hd
/-- What nobody names may be forgotten. -/
theorem AW_gc {c : Code} {H0 : AH} {ρ0 : Env} (hw : H0.wf) (hn : H0.next ≤ H.next) (hg : ∀ j, j < H0.next → H0.get j = H.get j) (hb : r.base ≤ H0.next) (hs : ∀ S a, ER S ρ a → ER S ρ0 a) (hρ : ∀ t, V.lt H0.next (ρ0.get t) = true) (h : AW r P c Q ρ0 H0) : AW r P c Q ρ H := fun C B S a w hl hB hH hE hd => by
  have hH0 := hH.upto hn hg hw
  refine h C B (S.upto H0.next) a w hl ⟨hB.1, hB.2.upto (by rw [hB.1]; exact hb)⟩ hH0 ⟨(hs S a hE).1, fun t => ((hs S a hE).2 t).upto (hρ t)⟩ ?_
  obtain ⟨bs, h1, h2, h3⟩ := hd
  refine ⟨bs, h1, fun b hb => ⟨(h2 b hb).1, fun id hi ho => ?_, (h2 b hb).2.2⟩, h3⟩
  have hi' : id < H0.next := hi
  exact (h2 b hb).2.1 id (by rw [← hH.next]; omega) ho

/-- A loop: what holds at each round's head ('n' counts down), with the rounds left. What nobody names any more may be forgotten at a round's end. -/
theorem AW_loopn {c : Code} (I : Nat → Env → AH → Prop) (n0 : Nat) (h0 : I n0 ρ H)
    (round : ∀ n ρ H, I n ρ H → AW r P c (AThen (fun ρ' H' => ∃ m, m < n ∧ ∃ ρ0 H0, (∀ S a, ER S ρ' a → ER S ρ0 a) ∧ (H0 = H' ∨ (H0.wf ∧ H0.next ≤ H'.next ∧ (∀ j, j < H0.next → H0.get j = H'.get j) ∧ r.base ≤ H0.next ∧ ∀ t, V.lt H0.next (ρ0.get t) = true)) ∧ I m ρ0 H0) Q) ρ H) : AW r P (.loop c) Q ρ H := by
  intro C B S a w hl hB hH hE hd
  let J : Nat → Act → World → Prop := fun n a w => ∃ S' ρ H, B.le S' ∧ HR C S' H w ∧ ER S' ρ a ∧ Dfr C S' w a.defers ∧ I n ρ H
  intro b k cs hro hb hr
  have key : ∀ n a w, J n a w → ∃ e a' w', Lift C B (Q e) a' w' ∧ ArrivesIn (Machine.fenced P (FF r.round)) P (lone (b.atR a (.code c :: .inLoop c :: k)) cs w) b k cs e a' w' := by
    intro n
    induction n using Nat.strongRecOn with
    | _ n ih =>
      intro a w ⟨S', ρ, H, hS, hH', hE', hd', hI⟩
      obtain ⟨e, a₁, w₁, hq, harr⟩ := round n ρ H hI C B S' a w hl ⟨hB.1, hS⟩ hH' hE' hd' b (.inLoop c :: k) cs hro hb hr
      cases e with
      | normal =>
        obtain ⟨S'', ρ'', H'', hS'', hH'', hE'', hd'', m, hlt, ρ0, H0, hρ0, hgc, hI''⟩ := hq
        have hJ : J m a₁ w₁ := by
          rcases hgc with rfl | ⟨g1, g2, g3, g4, g5⟩
          · exact ⟨S'', ρ0, H0, hS'', hH'', hρ0 _ _ hE'', hd'', hI''⟩
          · have hE0 := hρ0 _ _ hE''
            refine ⟨S''.upto H0.next, ρ0, H0, hS''.upto (by rw [hB.1]; exact g4), hH''.upto g2 g3 g1, ⟨hE0.1, fun t => (hE0.2 t).upto (g5 t)⟩, ?_, hI''⟩
            obtain ⟨bs, h1, h2, h3⟩ := hd''
            refine ⟨bs, h1, fun b hb => ⟨(h2 b hb).1, fun id hi ho => ?_, (h2 b hb).2.2⟩, h3⟩
            have hi' : id < H0.next := hi
            exact (h2 b hb).2.1 id (by rw [← hH''.next]; omega) ho
        obtain ⟨e₂, a₂, w₂, hq₂, harr₂⟩ := ih m hlt a₁ w₁ hJ
        exact ⟨e₂, a₂, w₂, hq₂, .of_steps (StepsIn.trans harr (.one (fenced_calm hb hr rfl) stepR_inLoop)) harr₂⟩
      | exit id => exact ⟨_, a₁, w₁, hq, .pass (x := .inLoop c) rfl (fun _ _ => .inl (by simp)) harr⟩
      | goto l => exact ⟨_, a₁, w₁, hq, .pass (x := .inLoop c) rfl (fun _ _ => .inl (by simp)) harr⟩
      | ret => exact ⟨_, a₁, w₁, hq, .pass (x := .inLoop c) rfl (fun _ _ => .inl (by simp)) harr⟩
      | panic ch => exact ⟨_, a₁, w₁, hq, .pass (x := .inLoop c) rfl (fun _ _ => .inl (by simp)) harr⟩
      | outgrown => exact ⟨_, a₁, w₁, hq, .pass (x := .inLoop c) rfl (fun _ _ => .inl (by simp)) harr⟩
  obtain ⟨e, a', w', hq, harr⟩ := key _ a w ⟨S, ρ, H, hB.2, hH, hE, hd, h0⟩
  exact ⟨e, a', w', hq, .of_steps (.one (fenced_calm hb hr rfl) stepR_loop) harr⟩
/-- A loop: what holds at each round's head, and a measure. -/
theorem AW_loop {c : Code} (I : Env → AH → Prop) (μ : Env → AH → Nat) (h0 : I ρ H)
    (round : ∀ ρ H, I ρ H → AW r P c (AThen (fun ρ' H' => I ρ' H' ∧ μ ρ' H' < μ ρ H) Q) ρ H) : AW r P (.loop c) Q ρ H := by
  refine AW_loopn (fun n ρ H => I ρ H ∧ μ ρ H = n) (μ ρ H) ⟨h0, rfl⟩ fun n ρ H ⟨hI, hm⟩ => (round ρ H hI).mono fun e ρ' H' h => ?_
  cases e with
  | normal => exact ⟨_, hm ▸ h.2, ρ', H', fun _ _ h => h, .inl rfl, h.1, rfl⟩
  | exit id => exact h
  | goto l => exact h
  | ret => exact h
  | panic c => exact h
  | outgrown => exact h

theorem AW_scope {c : Code} (h : AW r P c (fun e ρ H => match e with | .goto _ => False | e => Q e ρ H) ρ H) : AW r P (.scope c) Q ρ H := by
  intro C B S a w hl hB hH hE hd b k cs hro hb hr
  have h0 : (lone (b.atR a (.code (.scope c) :: k)) cs w).fenced P (FF r.round) := fenced_calm hb hr rfl
  have s1 : step P (lone (b.atR a (.code (.scope c) :: k)) cs w) = .next (lone (b.atR a (.code c :: .inScope c :: k)) cs w) := step_lone_go (by simp [stepG, stepG.exec, Frame.atR])
  obtain ⟨e, a₁, w₁, hq, harr⟩ := h C B S a w hl hB hH hE hd b (.inScope c :: k) cs hro hb hr
  cases e with
  | normal =>
    have s2 : step P (lone (b.atR a₁ (.inScope c :: k)) cs w₁) = .next (lone (b.atR a₁ k) cs w₁) := step_lone_go (by simp [stepG, stepG.exec, Frame.atR])
    exact ⟨.normal, a₁, w₁, hq, .head h0 s1 (StepsIn.trans harr (.one (fenced_calm hb hr rfl) s2))⟩
  | exit id =>
    have hx : exitTo id (.inScope c :: k) = exitTo id k := by simp [exitTo]
    exact ⟨.exit id, a₁, w₁, hq, fun k' hk => .head h0 s1 (harr.1 k' (by rw [hx]; exact hk)), fun hr' hk => let ⟨k₁, h1, h2⟩ := harr.2 hr' (by rw [hx]; exact hk); ⟨k₁, h1, .head h0 s1 h2⟩⟩
  | goto l => obtain ⟨_, _, _, _, _, _, _, h⟩ := hq; exact h.elim
  | ret => exact ⟨_, a₁, w₁, hq, .of_steps (.one h0 s1) harr⟩
  | panic ch => exact ⟨_, a₁, w₁, hq, .of_steps (.one h0 s1) harr⟩
  | outgrown => exact ⟨_, a₁, w₁, hq, .of_steps (.one h0 s1) harr⟩

/-- A region in the text's order. -/
theorem AW_region {id : Nat} {ops : Array Oper} (h : AOps P ops ops.toList (Q .normal) ρ H) : AW r P (.region id ops false) Q ρ H := by
  intro C B S a w hl hB hH hE hd
  refine wpIn_region ?_
  have := AOps.sound (r := r) (C := C) (P := P) (B := B) (Q := fun e a' w' => Lift C B (Q e) a' w') hl ops.toList 0 (fun j o hj => by simpa using hj) (fun a w h => h) h hB.2 hH hE hd
  rw [List.range_eq_range']
  simpa using this

/-- A world with one block more, of which nothing is said. -/
theorem HR.hide {C : Ctx} {S : Loc} {H : AH} {w : World} (h : HR C S H w) (ob : Obj) : HR C S H (w.alloc ob) where
  next := h.next
  obj id o ho := by
    have hlt : id < S.next := by rw [← h.next]; exact AH.get_lt ho
    have hin : S.blk id < w.heap.size ∨ (S.own id = false ∧ ∃ g esz, H.get id = Option.some (.cells [] g true esz)) := by
      cases hown : S.own id with
      | true => exact .inl (h.lt id hlt hown).1
      | false => exact (h.foreign id hlt hown).imp (fun hb => hb.1) (fun he => ⟨rfl, he⟩)
    rcases hin with hin | ⟨hown, g, esz, hg⟩
    · exact (h.obj id o ho).block (Loc.le.refl S) hlt rfl (Below.heap_alloc _ _ _ hin)
    · rw [hg] at ho; cases ho
      exact (h.obj id _ hg).empty (Loc.le.refl S) hlt rfl hown
  some := h.some
  lt id hi ho := ⟨by have := (h.lt id hi ho).1; simp; omega, (h.lt id hi ho).2⟩
  foreign id hi ho := (h.foreign id hi ho).imp (fun hb => ⟨by have := hb.1; simp; omega, hb.2⟩) fun h => h
  sep := h.sep
  below := ⟨h.below.os, h.below.tape, h.below.output, by have := h.below.size; simp; omega, fun k hk hm => by rw [Below.heap_alloc _ _ _ (Nat.lt_of_lt_of_le hk h.below.size)]; exact h.below.block k hk hm⟩
/-- A hidden block is written. -/
theorem HR.shut {C : Ctx} {S : Loc} {H : AH} {w : World} (h : HR C S H w) {b : Nat} (hb : C.w0.heap.size ≤ b) (ho : ∀ id, id < S.next → S.own id = true → S.blk id ≠ b) {x : Option (List Deferred)} (hx : w.heap[b]? = Option.some (.deferred x)) (ob : Obj) : HR C S H (w.putObj b ob) where
  next := h.next
  obj id o hg := by
    have hlt : id < S.next := by rw [← h.next]; exact AH.get_lt hg
    by_cases e : S.blk id = b
    · have hno : S.own id = false := by
        cases hown : S.own id with
        | true => exact absurd e (ho id hlt hown)
        | false => rfl
      cases o with
      | cells c g ro esz =>
        obtain ⟨h1, h2, h3, h4, h5⟩ := h.obj id _ hg
        have hc : c = [] := by
          cases c with
          | nil => rfl
          | cons v c =>
            obtain ⟨cv, hcv, _⟩ := h3 0 v rfl
            simp [World.cell?, e, hx] at hcv
        subst hc
        have hro : ro = true := by
          cases ro with
          | true => rfl
          | false => rw [h5 rfl] at hno; cases hno
        subst hro
        exact (h.obj id _ hg).empty (Loc.le.refl S) hlt rfl hno
      | map es clock => obtain ⟨_, h2, _⟩ := h.obj id _ hg; rw [h2] at hno; cases hno
      | strIter s p => obtain ⟨_, h2, _⟩ := h.obj id _ hg; rw [h2] at hno; cases hno
      | mapIter m a b' c => obtain ⟨_, h2, _⟩ := h.obj id _ hg; rw [h2] at hno; cases hno
      | loop g' a b' c d e' f => obtain ⟨_, h2, _⟩ := h.obj id _ hg; rw [h2] at hno; cases hno
    · exact (h.obj id o hg).block (Loc.le.refl S) hlt rfl (World.putObj_heap_other e)
  some := h.some
  lt id hi ho' := by simpa using h.lt id hi ho'
  foreign id hi ho' := by simpa using h.foreign id hi ho'
  sep := h.sep
  below := ⟨h.below.os, h.below.tape, h.below.output, by simpa using h.below.size, fun k hk hm => by rw [World.putObj_heap_other (by omega)]; exact h.below.block k hk hm⟩

/-- A RANGE OVER A FUNCTION (not within a round): the function is called with the loop's yield; what a round left to do is done. -/
theorem AW_rangeFunc (tag : Nat) {n0 : Nat} {g : Operand} {ps : Array Tmp} {asg body : Code} {gf : FuncId} {first caps : List V} (hg : aev ρ g = .fn (.func gf) first caps) (hb : goFunc P gf)
    (h : ACalls P gf (first ++ [.yl H.next] ++ caps) (H.new (.loop tag .ready none ρ ps asg body)) fun _ H' =>
      match H'.get H.next with
      | some (.loop tag0 st pe ρ0 ps0 asg0 body0) => st ≠ .busy ∧ (match pe with
        | none => Q .normal ρ (H'.set H.next (.loop tag0 .exhausted pe ρ0 ps0 asg0 body0))
        | some c => AW ⟨none, n0⟩ P c Q ρ (H'.set H.next (.loop tag0 .exhausted pe ρ0 ps0 asg0 body0)))
      | _ => False) : AW ⟨none, n0⟩ P (.rangeFunc g ps asg body) Q ρ H := by
  intro C B S a w hl hB hH hE hd
  refine wpIn_rangeFunc (F := FF none) ?_
  intro fn _
  have hgv := aev_VR hE g
  rw [hg] at hgv
  generalize hcg : a.eval g = cg at hgv
  cases hgv with
  | fn _ _ _ first' caps' hv1 hv2 =>
    obtain ⟨fnn, hfn, hname, hbody⟩ := hb
    let rec0 : Loop := { state := .ready, pending := none, fn, tmps := a.tmps, params := ps, assign := asg, body, defers := w.heap.size }
    have hH1 := hH.hide (.deferred (some []))
    have hH2 : HR C (S.add (w.alloc (.deferred (some []))).heap.size 0 0 0) (H.new (.loop tag .ready none ρ ps asg body)) ((w.alloc (.deferred (some []))).alloc (.loop rec0)) := by
      refine hH1.new (.loop tag .ready none ρ ps asg body) (.loop rec0) 0 0 ?_
      refine ⟨by simp [Loc.add], by simp [Loc.add], by simp [Loc.add], rec0, ?_, rfl, rfl, rfl, rfl, rfl, hE.1, fun t => (hE.2 t).mono (Loc.le_add ..)⟩
      have := World.alloc_heap_new (w.alloc (.deferred (some []))) (.loop rec0)
      have e : (S.add (w.alloc (.deferred (some []))).heap.size 0 0 0).blk S.next = (w.alloc (.deferred (some []))).heap.size := by simp [Loc.add]
      rw [e]; exact this
    have hS1 := Loc.le_add S (w.alloc (.deferred (some []))).heap.size 0 0 0
    have hd2 : Dfr C (S.add (w.alloc (.deferred (some []))).heap.size 0 0 0) ((w.alloc (.deferred (some []))).alloc (.loop rec0)) ({ target := .collected w.heap.size, args := #[] } :: a.defers) := by
      obtain ⟨bs, g1, g2, g3⟩ := hd
      refine ⟨w.heap.size :: bs, List.nodup_cons.2 ⟨fun hm => ?_, g1⟩, fun b hb => ?_, by simp [g3]⟩
      · have := (Array.getElem?_eq_some_iff.1 (g2 _ hm).2.2).1
        omega
      · rcases List.mem_cons.1 hb with rfl | hb
        · refine ⟨hH.below.size, fun id hi ho => ?_, ?_⟩
          · simp only [Loc.add] at ho ⊢
            by_cases e : id = S.next
            · simp [e]
            · simp only [e, if_false] at ho ⊢
              have hi' : id < S.next + 1 := hi
              have := (hH.lt id (by omega) ho).1
              omega
          · exact (Below.heap_alloc _ _ _ (by simp)).trans (World.alloc_heap_new w _)
        · obtain ⟨k1, k2, k3⟩ := g2 b hb
          have hlt := (Array.getElem?_eq_some_iff.1 k3).1
          refine ⟨k1, fun id hi ho => ?_, ?_⟩
          · simp only [Loc.add] at ho ⊢
            by_cases e : id = S.next
            · simp [e]; omega
            · simp only [e, if_false] at ho ⊢
              have hi' : id < S.next + 1 := hi
              exact k2 id (by omega) ho
          · rw [Below.heap_alloc _ _ _ (by simp; omega), Below.heap_alloc _ _ _ hlt]; exact k3
    refine ⟨w.heap.size + 1, [{ target := .collected w.heap.size, args := #[] }], (w.alloc (.deferred (some []))).alloc (.loop rec0), { target := .fn (.func gf) caps'.toArray, args := first'.toArray ++ #[.func (.yield (w.heap.size + 1)) #[] #[]] }, (w.alloc (.deferred (some []))).alloc (.loop rec0), gf,
      first'.toArray ++ #[.func (.yield (w.heap.size + 1)) #[] #[]] ++ caps'.toArray, (w.alloc (.deferred (some []))).alloc (.loop rec0), run_enterLoop_outer _ _ _ _ _, ?_, fun _ _ => trivial, ?_, fun h => by simp [FF, Fence.wide] at h, ?_⟩
    · simp only [resolve, rangeCall, hcg, Deferred.ofValue]
      simp [Act.eval]
    · simp only [invoke, callFunc, Sem.run_bind, run_program, Result.andThen_ok, hfn, hname, hbody, Bool.false_eq_true, if_false, Sem.run_pure]
    · have hyl : VR (S.add (w.alloc (.deferred (some []))).heap.size 0 0 0) (.yl H.next) (.func (.yield (w.heap.size + 1)) #[] #[]) := by
        refine .yl _ _ (by simp [Loc.add, hH.next]) fun _ => ?_
        simp [Loc.add, hH.next]
      have hargs : VRs (S.add (w.alloc (.deferred (some []))).heap.size 0 0 0) (first ++ [.yl H.next] ++ caps) (first' ++ [Value.func (.yield (w.heap.size + 1)) #[] #[]] ++ caps') :=
        ((hv1.mono hS1).append (.cons _ _ _ _ hyl .nil)).append (hv2.mono hS1)
      rcases h with ⟨_, hcall⟩ | ⟨⟨fn2, hfn2, _, hb2⟩, _⟩
      · have e : first'.toArray ++ #[.func (.yield (w.heap.size + 1)) #[] #[]] ++ caps'.toArray = (first' ++ [Value.func (.yield (w.heap.size + 1)) #[] #[]] ++ caps').toArray := by apply Array.ext'; simp
        rw [e]
        refine callsIn_FF ((hcall ⟨_, _⟩ _ _ _ (Laid.rebase hH2 hl) hH2.rebase hargs).mono fun e w' ⟨v, cv, S', H', he, hS, hv, hH', hK⟩ => ?_)
        subst he
        have hHb := hH2.back hH'
        have hdb := hd2.keep hH2 hH'
        dsimp only at hK
        split at hK
        · rename_i tag0 st pe ρ0 ps0 asg0 body0 hg2
          obtain ⟨hst, hK⟩ := hK
          obtain ⟨rec2, q3, q4, q5, q6, q7, q8, q9, q10, qset⟩ := hHb.setLoop hg2
          have hnl : H.next < (S.add (w.alloc (.deferred (some []))).heap.size 0 0 0).next := by simp [Loc.add, hH.next]
          have hblk : S'.blk H.next = w.heap.size + 1 := by
            have h1 := hS.blk H.next hnl (by rw [(hHb.obj _ _ hg2).1]; simp [Loc.add, hH.next])
            rw [h1]; simp [Loc.add, hH.next]
          rw [hblk] at q3 qset
          have hend := run_endLoop (P := P) q3 (by rw [q4]; exact hst)
          have hset := qset .exhausted pe
          have e0 : ({ rec2 with state := .exhausted, pending := pe } : Loop) = { rec2 with state := .exhausted } := by rw [← q5]
          rw [e0] at hset
          have hend' : (Instr.endLoop (w.heap.size + 1)).run P w' = .ok pe (w'.putObj (w.heap.size + 1) (.loop { rec2 with state := .exhausted })) := by
            rw [hend]; exact congrArg (fun x => Result.ok x _) q5
          refine ⟨pe, _, hend', ?_⟩
          have hE' : ER S' ρ { a with defers := [{ target := .collected w.heap.size, args := #[] }] ++ a.defers } := (hE.mono (hS1.trans hS))
          have hd' : Dfr C S' (w'.putObj (w.heap.size + 1) (.loop { rec2 with state := .exhausted })) ([{ target := .collected w.heap.size, args := #[] }] ++ a.defers) := by
            have := (hHb.rebase).setLoop hg2
            obtain ⟨rec3, z3, _, _, _, _, _, _, _, zset⟩ := this
            rw [hblk, q3] at z3
            have z3' : rec2 = rec3 := by simpa using z3
            subst z3'
            have := zset .exhausted pe
            rw [hblk, e0] at this
            exact hdb.keep hHb this
          cases pe with
          | none => exact ⟨S', ρ, _, hB.2.trans (hS1.trans hS), hset, hE', hd', hK⟩
          | some c => exact hK C B S' _ _ hl ⟨hB.1, hB.2.trans (hS1.trans hS)⟩ hset hE' hd'
        · exact hK.elim
      · rw [hfn] at hfn2; cases hfn2; rw [hbody] at hb2; cases hb2
end

/-! Calls. -/
def Env.zip : Nat → List V → List (Nat × V)
  | _, [] => []
  | i, v :: l => (i, v) :: Env.zip (i + 1) l
def Env.init (n : Nat) (args : List V) : Env := { n := args.length + (n - args.length), l := Env.zip 0 args }
theorem Env.look_zip : ∀ (l : List V) (i t : Nat), Env.look (Env.zip i l) t = if i ≤ t then (l[t - i]?).getD .un else .un
  | [], i, t => by simp [Env.zip, Env.look]
  | v :: l, i, t => by
    simp only [Env.zip, Env.look]
    by_cases h : i = t
    · subst h; simp
    · simp only [h, if_false]
      rw [Env.look_zip l (i + 1) t]
      by_cases h2 : i ≤ t
      · have : i + 1 ≤ t := by omega
        simp only [h2, this, if_true]
        rw [show t - i = (t - (i + 1)) + 1 by omega]
        simp
      · have : ¬ i + 1 ≤ t := by omega
        simp [h2, this]
theorem ER_init {S : Loc} {args : List V} {cargs : List Value} (n : Nat) (h : VRs S args cargs) : ER S (Env.init n args) { tmps := cargs.toArray ++ Array.replicate (n - cargs.toArray.size) undef, defers := [] } := by
  have hl := h.length
  refine ⟨by simp [Env.init, hl], fun t => ?_⟩
  simp only [Env.init, Env.get, Env.look_zip, Nat.zero_le, if_true, Nat.sub_zero]
  cases ht : args[t]? with
  | none => simp; exact .un _
  | some v =>
    obtain ⟨c, hc, hv⟩ := h.get t v ht
    have hlt : t < cargs.length := (List.getElem?_eq_some_iff.1 hc).1
    have e : (cargs.toArray ++ Array.replicate (n - cargs.toArray.size) undef).getD t undef = c := by
      have e1 : cargs[t] = c := (List.getElem?_eq_some_iff.1 hc).2
      simp [Array.getD_eq_getD_getElem?, Array.getElem?_append, hlt, e1]
    rw [e]; simpa using hv

/-- The results, out of the slots. -/
def ares (P : Program) (H : AH) (ρ : Env) : List ResultVar → Option (List V)
  | [] => some []
  | .tmp t :: l => (ares P H ρ l).map (ρ.get t :: ·)
  | .cell a t :: l => match aload P H t (ρ.get a), ares P H ρ l with
    | some v, some r => some (v :: r)
    | _, _ => none
def ares1 (P : Program) (H : AH) (ρ : Env) (l : List ResultVar) : Option V :=
  match ares P H ρ l with
  | some [v] => some v
  | some r => some (.tup r)
  | none => none
/-- The post at a body's end. -/
def AEnd (P : Program) (fn : Func) (Q : V → AH → Prop) : Exit → Env → AH → Prop
  | .normal, ρ, H | .ret, ρ, H => ∃ r, ares1 P H ρ fn.results.toList = some r ∧ Q r H
  | _, _, _ => False

section
variable {P : Program} [Laid P] {ρ : Env} {H : AH}
theorem sim_results {C : Ctx} {S : Loc} {w : World} {a : Act} (hH : HR C S H w) (hE : ER S ρ a) {fn : Func} {r : V} (h : ares1 P H ρ fn.results.toList = some r) : ∃ cr, (results fn a.tmps).run P w = .ok cr w ∧ VR S r cr := by
  have key : ∀ (l : List ResultVar) (vs : List V), ares P H ρ l = some vs → ∃ cs : List Value, (l.mapM (fun
      | .tmp t => pure (a.tmps.getD t undef)
      | .cell p t => do loadVar t (← asAddr (a.tmps.getD p undef)) : ResultVar → Sem Value)).run P w = .ok cs w ∧ VRs S vs cs := by
    intro l
    induction l with
    | nil => intro vs h; simp [ares] at h; subst h; exact ⟨[], by simp, .nil⟩
    | cons x l ih =>
      intro vs h
      cases x with
      | tmp t =>
        simp only [ares, Option.map_eq_some_iff] at h
        obtain ⟨vs', h', rfl⟩ := h
        obtain ⟨cs, hr, hv⟩ := ih vs' h'
        refine ⟨a.tmps.getD t undef :: cs, ?_, .cons _ _ _ _ (hE.2 t) hv⟩
        rw [List.mapM_cons]
        simp only [Sem.run_bind, Sem.run_pure, Result.andThen_ok]
        rw [hr]; rfl
      | cell p t =>
        simp only [ares] at h
        split at h
        · rename_i v r h1 h2
          cases h
          obtain ⟨cs, hr, hv⟩ := ih r h2
          obtain ⟨cv, hc, hcv⟩ := sim_load (P := P) hH (hE.2 p) h1
          refine ⟨cv :: cs, ?_, .cons _ _ _ _ hcv hv⟩
          have hp := hE.2 p
          have hp2 : ∃ ad, a.tmps.getD p undef = .pointer (some ad) := by
            unfold aload at h1
            split at h1
            · rename_i id g off hq
              rw [hq] at hp
              generalize a.tmps.getD p undef = c at hp
              cases hp
              exact ⟨_, rfl⟩
            · cases h1
          obtain ⟨ad, had⟩ := hp2
          have hc' : (loadVar t ad).run P w = .ok cv w := by
            rw [had] at hc
            simpa [Instr.loadAt, Instr.sureAddr] using hc
          have ha : (asAddr (a.tmps.getD p undef)).run P w = .ok ad w := by rw [had]; rfl
          rw [List.mapM_cons]
          simp only [Sem.run_bind, ha, Result.andThen_ok, hc', Sem.run_pure]
          rw [hr]; rfl
        · cases h
  unfold ares1 at h
  have hm : ∀ (vs : List V), ares P H ρ fn.results.toList = some vs → ∃ cs : List Value, (results fn a.tmps).run P w = .ok (if h : cs.toArray.size = 1 then cs.toArray[0] else .tuple cs.toArray) w ∧ VRs S vs cs := by
    intro vs hvs
    obtain ⟨cs, hr, hv⟩ := key _ _ hvs
    refine ⟨cs, ?_, hv⟩
    unfold results
    rw [Array.mapM_eq_mapM_toList]
    simp only [Sem.run_bind, Sem.run_map]
    exact congrArg (fun r : Result (List Value) => (r.andThen fun a w' => Result.ok a.toArray w').andThen fun a w' => Sem.run P (pure (if h : a.size = 1 then a[0] else Value.tuple a)) w') hr
  split at h
  · rename_i v hv
    cases h
    obtain ⟨cs, hr, hvs⟩ := hm _ hv
    cases hvs with
    | cons _ c _ l' h1 ht =>
      cases ht
      exact ⟨c, by simpa using hr, h1⟩
  · rename_i r' hne hr'
    cases h
    obtain ⟨cs, hr, hvs⟩ := hm _ hr'
    have hl := hvs.length
    have hne1 : ¬ cs.toArray.size = 1 := by
      intro h1
      have : r'.length = 1 := by simpa [hl] using h1
      obtain ⟨v, rfl⟩ := List.length_eq_one_iff.1 this
      exact hne v rfl
    rw [dif_neg hne1] at hr
    exact ⟨_, hr, .tup _ _ hvs⟩
  · cases h

/-- What the marks leave behind. -/
theorem leaves_marks {C : Ctx} {S : Loc} {H : AH} {P : Program} {fn : Func} {tmps : Array Value} {R : Ending → World → Prop} (hR : ∀ w, HR C S H w → ∃ v, (results fn tmps).run P w = .ok v w ∧ R (.returned v) w) :
    ∀ (bs : List Nat) (w : World), HR C S H w → bs.Nodup → (∀ b ∈ bs, C.w0.heap.size ≤ b ∧ (∀ id, id < S.next → S.own id = true → S.blk id ≠ b) ∧ w.heap[b]? = some (.deferred (some []))) →
      LeavesInM (FF none) 0 P fn tmps R (bs.map fun b => { target := .collected b, args := #[] }) .returning w
  | [], w, hH, _, _ => hR w hH
  | b :: bs, w, hH, hn, hb => by
    obtain ⟨h1, h2, h3⟩ := hb b (List.mem_cons_self ..)
    refine ⟨by simp, .inl ⟨b, _, rfl, run_takeDeferred h3, ?_⟩⟩
    refine leaves_marks hR bs _ (hH.shut h1 h2 h3 _) (List.nodup_cons.1 hn).2 fun b' hb' => ?_
    obtain ⟨k1, k2, k3⟩ := hb b' (List.mem_cons_of_mem _ hb')
    refine ⟨k1, k2, ?_⟩
    rw [World.putObj_heap_other (fun e => (List.nodup_cons.1 hn).1 (by rw [← e]; exact hb'))]
    exact k3

/-- A call, from its body. -/
theorem ACalls_body {f : FuncId} {fn : Func} {c : Code} {args : List V} {Q : V → AH → Prop} (hf : P.funcs[f]? = some fn) (hb : fn.body = some c) (hn : (fn.name == "runtime.NumGoroutine") = false)
    (h : AW ⟨none, H.next⟩ P c (AEnd P fn Q) (Env.init fn.ntmps args) H) : ACalls P f args H Q := by
  refine .inl ⟨⟨fn, hf, hn, by simp [hb]⟩, fun C S cargs w hl hH hv => ?_⟩
  refine (callsIn_wide (n := 0)).1 (callsIn_of_wp_marks (F := FF none) (n := 0) hf hb trivial (wpIn_mono (h C S S _ w hl ⟨hH.next.symm, Loc.le.refl S⟩ hH (ER_init fn.ntmps hv) Dfr.nil) fun e a' w' hl => ?_))
  obtain ⟨S', ρ', H', hS, hH', hE', ⟨bs, hn1, hb1, hd1⟩, hq⟩ := hl
  have fin : (∃ r, ares1 P H' ρ' fn.results.toList = some r ∧ Q r H') → LeavesInM (FF none) 0 P fn a'.tmps (fun e w' => ∃ r cr S' H', e = .returned cr ∧ S.le S' ∧ VR S' r cr ∧ HR C S' H' w' ∧ Q r H') a'.defers .returning w' := by
    intro ⟨r, hr, hQ⟩
    rw [hd1]
    refine leaves_marks (fun w2 hH2 => ?_) bs w' hH' hn1 hb1
    obtain ⟨cr, hrun, hrv⟩ := sim_results hH2 hE' hr
    exact ⟨cr, hrun, r, cr, S', H', rfl, hS, hrv, hH2, hQ⟩
  cases e with
  | normal => exact fin hq
  | ret => exact fin hq
  | exit id => exact hq.elim
  | goto l => exact hq.elim
  | panic c => exact hq.elim
  | outgrown => exact hq.elim

/-- What a call leaves behind that nobody names is forgotten. -/
theorem ACalls.gcTo {f : FuncId} {args : List V} {Q : V → AH → Prop}
    (h : ACalls P f args H fun r H' => ∃ H'', H''.next ≤ H'.next ∧ H.next ≤ H''.next ∧ (∀ j, j < H''.next → H''.get j = H'.get j) ∧ H''.wf ∧ V.lt H''.next r = true ∧ Q r H'') : ACalls P f args H Q := by
  rcases h with h | h
  · refine .inl ⟨h.1, fun C S cargs w hl hH hv => (h.2 C S cargs w hl hH hv).mono fun e w' ⟨r, cr, S', H', h1, h2, h3, h4, H'', g1, g2, g3, g4, g5, g6⟩ => ?_⟩
    exact ⟨r, cr, S'.upto H''.next, H'', h1, h2.upto (by rw [← hH.next]; exact g2), h3.upto g5, h4.upto g1 g3 g4, g6⟩
  · refine .inr ⟨h.1, fun C S cargs w hl hH hv => ?_⟩
    obtain ⟨r, cr, S', H', w', h1, h2, h3, h4, H'', g1, g2, g3, g4, g5, g6⟩ := h.2 C S cargs w hl hH hv
    exact ⟨r, cr, S'.upto H''.next, H'', w', h1, h2.upto (by rw [← hH.next]; exact g2), h3.upto g5, h4.upto g1 g3 g4, g6⟩
theorem ACalls.wf {f : FuncId} {args : List V} {Q : V → AH → Prop} (h : H.wf → V.lts H.next args = true → ACalls P f args H Q) (hf : goFunc P f) : ACalls P f args H Q := by
  refine .inl ⟨hf, fun C S cargs w hl hH hv => ?_⟩
  rcases h hH.wf (by rw [hH.next]; exact hv.lt) with h | h
  · exact h.2 C S cargs w hl hH hv
  · obtain ⟨⟨f1, h1, _, h2⟩, _⟩ := h
    obtain ⟨f2, h3, _, h4⟩ := hf
    rw [h1] at h3; cases h3; rw [h2] at h4; cases h4
/-- A call that writes nothing, and yields nothing new, leaves the memory as it was. -/
theorem ACalls.pure {f : FuncId} {args : List V} {Q : V → Prop} (hf : goFunc P f) (h : ACalls P f args H fun r H' => Q r ∧ V.lt H.next r = true ∧ H.next ≤ H'.next ∧ ∀ j, j < H.next → H'.get j = H.get j) : ACalls P f args H fun r H' => Q r ∧ H' = H :=
  ACalls.wf (fun hw _ => ACalls.gcTo (h.mono fun r H' ⟨h1, h2, h3, h4⟩ => ⟨H, h3, Nat.le_refl _, fun j hj => (h4 j hj).symm, hw, h2, h1, rfl⟩)) hf
end
end Go.Abs
