/-
  The abstract machine (part B): a logic over abstract states, proved sound once. No conditions.
-/
import Derived.Test.YtikonppmjkipoaaDoorAbsA
import Derived.RangeFuncRecord
import Derived.OrdersIn
import GoSem.ClaimJoined
import GoSem.ClaimOpen
import Derived.Carry
import Derived.OpenShut
import Derived.JoinedCond
import Derived.SizedLaws
import Derived.Deep.DeepHandedRow
import Derived.LaidLaws
import Derived.Laws.Externs
set_option linter.unusedVariables false
set_option linter.unusedSimpArgs false
set_option linter.unusedSectionVars false
namespace Go.Abs
open Go Go.RowKit

/-- The tables of Go's library (and of the program) that lie unwritten: block and cells. -/
class Laid (P : Program) where
  tabs : List (Nat × List Value)
  loose : Bool := true
def Laid.ok (P : Program) [Laid P] (C : Ctx) : Prop := C.S0.loose = Laid.loose P ∧ ∀ x ∈ Laid.tabs P, x.1 < C.w0.heap.size ∧ ¬ C.mine x.1 ∧ ∀ j v, x.2[j]? = some v → C.w0.cell? ⟨x.1, j, none⟩ = some v
theorem Laid.here {P : Program} [Laid P] {C : Ctx} {w : World} (h : Laid.ok P C) (hf : Fr C w) {x : Nat × List Value} (hx : x ∈ Laid.tabs P) {j : Nat} {v : Value} (hj : x.2[j]? = some v) : w.cell? ⟨x.1, j, none⟩ = some v := by
  obtain ⟨h1, h2, h3⟩ := h.2 x hx
  rw [World.cell?_of_block (w := C.w0) (hf.block _ h1 h2)]
  exact h3 j v hj
theorem Laid.rebase {P : Program} [Laid P] {C : Ctx} {S : Loc} {H : AH} {w : World} (h : HR C S H w) (hl : Laid.ok P C) : Laid.ok P ⟨w, S⟩ := ⟨h.loose.trans hl.1, fun x hx => by
  obtain ⟨h1, h2, h3⟩ := hl.2 x hx
  refine ⟨Nat.lt_of_lt_of_le h1 h.below.size, fun ⟨id, hi, ho, e⟩ => ?_, fun j v hj => Laid.here hl h.below hx hj⟩
  have e' : S.blk id = x.1 := e
  rcases (h.lt id hi ho).2 with h4 | h4
  · omega
  · exact h2 (e' ▸ h4)⟩
theorem Laid.fresh {P : Program} [Laid P] {C : Ctx} {S : Loc} {H : AH} {w : World} (h : HR C S H w) (hl : Laid.ok P C) (hb : Laid.loose P = true) : Laid.ok P ⟨w, Loc.none⟩ := ⟨hb.symm, fun x hx => by
  obtain ⟨h1, _, h3⟩ := (Laid.rebase h hl).2 x hx
  exact ⟨h1, fun ⟨id, hi, _⟩ => absurd hi (Nat.not_lt_zero _), h3⟩⟩

/-- A call of a Go function with a body. -/
def goFunc (P : Program) (f : FuncId) : Prop := ∃ fn, P.funcs[f]? = some fn ∧ (fn.name == "runtime.NumGoroutine") = false ∧ fn.body.isNone = false
/-- A call of a function without a Go body. -/
def extFunc (P : Program) (f : FuncId) : Prop := ∃ fn, P.funcs[f]? = some fn ∧ (fn.name == "runtime.NumGoroutine") = false ∧ fn.body.isNone = true

/-- WHAT A CALL DOES, over abstract states. -/
def ACalls (P : Program) [Laid P] (f : FuncId) (args : List V) (H : AH) (Q : V → AH → Prop) : Prop :=
  (goFunc P f ∧ ∀ C S cargs w, Laid.ok P C → HR C S H w → VRs S args cargs → Calls P f cargs.toArray w fun e w' => ∃ r cr S' H', e = .returned cr ∧ S.le S' ∧ VR S' r cr ∧ HR C S' H' w' ∧ Q r H') ∨
  (extFunc P f ∧ ∀ C S cargs w, Laid.ok P C → HR C S H w → VRs S args cargs → ∃ r cr S' H' w', (callFunc f cargs.toArray).run P w = .ok (.value cr) w' ∧ S.le S' ∧ VR S' r cr ∧ HR C S' H' w' ∧ Q r H')
theorem ACalls.mono {P : Program} [Laid P] {f : FuncId} {args : List V} {H : AH} {Q Q' : V → AH → Prop} (h : ACalls P f args H Q) (hq : ∀ r H', Q r H' → Q' r H') : ACalls P f args H Q' := by
  rcases h with h | h
  · exact .inl ⟨h.1, fun C S cargs w hl hH hv => (h.2 C S cargs w hl hH hv).mono fun e w' ⟨r, cr, S', H', h1, h2, h3, h4, h5⟩ => ⟨r, cr, S', H', h1, h2, h3, h4, hq r H' h5⟩⟩
  · exact .inr ⟨h.1, fun C S cargs w hl hH hv => by
      obtain ⟨r, cr, S', H', w', h1, h2, h3, h4, h5⟩ := h.2 C S cargs w hl hH hv
      exact ⟨r, cr, S', H', w', h1, h2, h3, h4, hq r H' h5⟩⟩

/-- The fence that lets everything in, at a round of a loop or at none. -/
def FF (r : Option Nat) : Fence := { Fence.wide with round := r }
theorem callsIn_FF {q : Option Nat} {n : Nat} {P : Program} {f : FuncId} {args : Array Value} {w : World} {R : Ending → World → Prop} (h : Calls P f args w R) : CallsIn (FF q) n P f args w R :=
  callsIn_wide.2 h
theorem FF_room (q : Option Nat) (n : Nat) : (FF q).room n := fun _ h => by simp [FF, Fence.wide] at h

/-- The marks of the loops over functions that an activation has entered. -/
def Dfr (C : Ctx) (S : Loc) (w : World) (ds : List Deferred) : Prop :=
  ∃ bs : List Nat, bs.Nodup ∧ (∀ b ∈ bs, C.w0.heap.size ≤ b ∧ (∀ id, id < S.next → S.own id = true → S.blk id ≠ b) ∧ w.heap[b]? = some (.deferred (some []))) ∧ ds = bs.map fun b => { target := .collected b, args := #[] }
theorem Dfr.nil {C : Ctx} {S : Loc} {w : World} : Dfr C S w [] := ⟨[], List.nodup_nil, by simp, rfl⟩
theorem Dfr.keep {C : Ctx} {S S' : Loc} {H H' : AH} {w w' : World} {ds : List Deferred} (h : Dfr C S w ds) (hH : HR C S H w) (k : HR ⟨w, S⟩ S' H' w') : Dfr C S' w' ds := by
  obtain ⟨bs, h1, h2, h3⟩ := h
  refine ⟨bs, h1, fun b hb => ?_, h3⟩
  obtain ⟨g1, g2, g3⟩ := h2 b hb
  have hlt : b < w.heap.size := (Array.getElem?_eq_some_iff.1 g3).1
  have hm : ¬ (Ctx.mk w S).mine b := fun ⟨id, hi, ho, e⟩ => g2 id hi ho e
  refine ⟨g1, fun id hi ho e => ?_, by rw [k.below.block b hlt hm]; exact g3⟩
  rcases (k.lt id hi ho).2 with h4 | h4
  · have : w.heap.size ≤ S'.blk id := h4
    omega
  · exact hm (e ▸ h4)
theorem Dfr.drew {C : Ctx} {S : Loc} {w : World} {ds : List Deferred} (h : Dfr C S w ds) : Dfr C S { w with drawn := w.drawn + 1 } ds := h

/-- The post over the model's states that an abstract post stands for. -/
def Lift (C : Ctx) (S : Loc) (K : Env → AH → Prop) (a : Act) (w : World) : Prop :=
  ∃ S' ρ H, S.le S' ∧ HR C S' H w ∧ ER S' ρ a ∧ Dfr C S' w a.defers ∧ K ρ H
theorem Lift.mono {C : Ctx} {S S0 : Loc} {K K' : Env → AH → Prop} {a : Act} {w : World} (h : Lift C S K a w) (hS : S0.le S) (hk : ∀ ρ H, K ρ H → K' ρ H) : Lift C S0 K' a w := by
  obtain ⟨S', ρ, H, h1, h2, h3, h4, h5⟩ := h
  exact ⟨S', ρ, H, hS.trans h1, h2, h3, h4, hk _ _ h5⟩

/-- Where code runs: in a round of a loop or in none; how many objects there were when the call (the round) began. -/
structure Fm where
  round : Option Nat
  base : Nat
/-- CODE over abstract states. -/
def AW (r : Fm) (P : Program) [Laid P] (c : Code) (Q : Exit → Env → AH → Prop) (ρ : Env) (H : AH) : Prop :=
  ∀ C B S a w, Laid.ok P C → B.next = r.base ∧ B.le S → HR C S H w → ER S ρ a → Dfr C S w a.defers → c.wpIn (FF r.round) 0 P (fun e a' w' => Lift C B (Q e) a' w') a w
def AThen (K : Env → AH → Prop) (Q : Exit → Env → AH → Prop) : Exit → Env → AH → Prop
  | .normal, ρ, H => K ρ H
  | e, ρ, H => Q e ρ H

/-- A round's end. -/
def ARoundEnd (id : Nat) (K : V → AH → Prop) (jump : Option Code) (H : AH) : Prop :=
  match H.get id with
  | some (.loop tag _ _ ρ ps asg body) => K (.b jump.isNone) (H.set id (.loop tag (if jump.isNone then .ready else .done) jump ρ ps asg body))
  | _ => False
def ARoundPost (id : Nat) (K : V → AH → Prop) : Exit → Env → AH → Prop
  | .normal, _, H => ARoundEnd id K none H
  | .ret, _, H => ARoundEnd id K (some .ret) H
  | .exit x, _, H => ARoundEnd id K (some (.exit x)) H
  | _, _, _ => False
def Env.puts (ρ : Env) (l : List (Tmp × V)) : Env := l.foldl (fun ρ x => ρ.put (some x.1) x.2) ρ
/-- A call of a loop's yield: a round. -/
def ARound (P : Program) [Laid P] (id : Nat) (vs : List V) (H : AH) (K : V → AH → Prop) : Prop :=
  match H.get id with
  | some (.loop _ .ready _ ρ ps asg body) => vs.length = ps.size ∧ ∀ l, AW ⟨l, H.next⟩ P asg (AThen (fun ρ' H' =>
      match H'.get id with
      | some (.loop tag .ready pe ρ0 ps0 asg0 body0) => AW ⟨l, H.next⟩ P body (ARoundPost id K) ρ' (H'.set id (.loop tag .busy pe ρ0 ps0 asg0 body0))
      | _ => False) (fun _ _ _ => False)) (ρ.puts (ps.toList.zip vs)) H
  | _ => False

/-- One operation, with what follows. -/
def AOp (P : Program) [Laid P] (o : Oper) (ρ : Env) (H : AH) (K : V → AH → Prop) : Prop :=
  match o.op with
  | .call { callee := .value f, args, .. } =>
    match aev ρ f with
    | .fn (.func g) first caps => ACalls P g (first ++ evs (aev ρ) args ++ caps) H K
    | .yl id => ARound P id (evs (aev ρ) args) H K
    | _ => False
  | .next it false => ANext H (aev ρ it) K
  | op => ∃ v H', aop P op (aev ρ) H = some (v, H') ∧ K v H'

theorem put_defers (a : Act) (d : Option Tmp) (v : Value) : (a.put d v).defers = a.defers := by cases d <;> rfl

section
variable {r : Fm} {C : Ctx} {P : Program} [Laid P] {S : Loc} {H : AH} {w : World} {ρ : Env} {a : Act}

theorem Env.puts_cons (ρ : Env) (x : Tmp × V) (l : List (Tmp × V)) : ρ.puts (x :: l) = (ρ.put (some x.1) x.2).puts l := rfl
theorem ER.puts {S : Loc} : ∀ (ps : List Tmp) (vs : List V) (cs : List Value) {ρ : Env} {a : Act}, ER S ρ a → VRs S vs cs → ER S (ρ.puts (ps.zip vs)) { a with tmps := (ps.zip cs).foldl (fun t (p : Tmp × Value) => t.setIfInBounds p.1 p.2) a.tmps }
  | [], vs, cs, ρ, a, h, hv => by simpa [Env.puts] using h
  | p :: ps, [], cs, ρ, a, h, hv => by cases hv; simpa [Env.puts] using h
  | p :: ps, v :: vs, _, ρ, a, h, .cons _ c _ cs hv ht => by
    simp only [List.zip_cons_cons, Env.puts_cons, List.foldl_cons]
    exact ER.puts ps vs cs (a := a.put (some p) c) (h.put (some p) hv) ht

theorem HR.setLoop {C : Ctx} {S : Loc} {H : AH} {w : World} (hH : HR C S H w) {id tag : Nat} {st : LoopState} {pe : Option Code} {ρ : Env} {ps : Array Tmp} {asg body : Code} (hg : H.get id = Option.some (.loop tag st pe ρ ps asg body)) :
    ∃ rec : Loop, w.heap[S.blk id]? = Option.some (.loop rec) ∧ rec.state = st ∧ rec.pending = pe ∧ rec.params = ps ∧ rec.assign = asg ∧ rec.body = body ∧ rec.tmps.size = ρ.n ∧ (∀ t, VR S (ρ.get t) (rec.tmps.getD t undef)) ∧
      ∀ st' pe', HR C S (H.set id (.loop tag st' pe' ρ ps asg body)) (w.putObj (S.blk id) (.loop { rec with state := st', pending := pe' })) := by
  have hlt : id < S.next := by rw [← hH.next]; exact AH.get_lt hg
  obtain ⟨h1, h2, h0, rec, h3, h4, h5, h6, h7, h8, h9, h10⟩ := hH.obj id _ hg
  refine ⟨rec, h3, h4, h5, h6, h7, h8, h9, h10, fun st' pe' => ?_⟩
  refine hH.write id hlt h2 _ _ ⟨h1, h2, h0, { rec with state := st', pending := pe' }, ?_, rfl, rfl, h6, h7, h8, h9, h10⟩
  have := (Array.getElem?_eq_some_iff.1 h3).1
  simp [this]

/-- One round, run. -/
theorem ARound.sound {q : Option Nat} {fn : FuncId} {id l : Nat} {vs : List V} {cs : List Value} {K : V → AH → Prop} (h : ARound P id vs H K) (hl : Laid.ok P C) (hH : HR C S H w) (hy : VR S (.yl id) (.func (.yield l) #[] #[])) (hv : VRs S vs cs) :
    ∃ (rec : Loop), (Instr.yield l cs.toArray).run P w = .ok (.round l rec.fn ((rec.params.zip cs.toArray).foldl (fun tmps (t, a) => tmps.setIfInBounds t a) rec.tmps) rec.assign rec.body) w ∧
      RoundIn (FF q) 0 P l rec.fn ((rec.params.zip cs.toArray).foldl (fun tmps (t, a) => tmps.setIfInBounds t a) rec.tmps) rec.assign rec.body w
        (fun e w' => ∃ v cv S' H', e = .returned cv ∧ S.le S' ∧ VR S' v cv ∧ HR C S' H' w' ∧ K v H') := by
  unfold ARound at h
  split at h
  · rename_i tag pe ρ ps asg body hg
    obtain ⟨hlen, h⟩ := h
    cases hy with
    | yl _ _ hid hb =>
      have hgen : S.gen id = 0 := (hH.obj id _ hg).1
      obtain ⟨rec, h3, h4, h5, h6, h7, h8, h9, h10, hset⟩ := hH.setLoop hg
      have hl' : l = S.blk id := hb hgen
      subst hl'
      have hsz : cs.toArray.size = rec.params.size := by rw [h6, ← hlen]; simp [hv.length]
      refine ⟨rec, run_yield h3 hsz, roundIn_of_wpIn (F := FF q) trivial ?_⟩
      have hE : ER S (ρ.puts (ps.toList.zip vs)) { tmps := (rec.params.zip cs.toArray).foldl (fun tmps (t, a) => tmps.setIfInBounds t a) rec.tmps, defers := [] } := by
        have := ER.puts ps.toList vs cs (a := { tmps := rec.tmps, defers := [] }) (ρ := ρ) ⟨h9, h10⟩ hv
        have e : (rec.params.zip cs.toArray).foldl (fun tmps (x : Tmp × Value) => tmps.setIfInBounds x.1 x.2) rec.tmps = (ps.toList.zip cs).foldl (fun t (p : Tmp × Value) => t.setIfInBounds p.1 p.2) rec.tmps := by
          rw [← Array.foldl_toList, Array.toList_zip, h6]
        show ER S _ { tmps := (rec.params.zip cs.toArray).foldl (fun tmps (x : Tmp × Value) => tmps.setIfInBounds x.1 x.2) rec.tmps, defers := [] }
        rw [e]; exact this
      rw [h7]
      refine wpIn_mono (h (some (S.blk id)) C S S _ w hl ⟨hH.next.symm, Loc.le.refl S⟩ hH hE Dfr.nil) fun e a1 w1 hlift => ?_
      obtain ⟨S1, ρ1, H1, k1, k2, k3, k4, k5⟩ := hlift
      cases e with
      | normal =>
        have k5' : (match H1.get id with
          | some (.loop tag .ready pe ρ0 ps0 asg0 body0) => AW ⟨some (S.blk id), H.next⟩ P body (ARoundPost id K) ρ1 (H1.set id (.loop tag .busy pe ρ0 ps0 asg0 body0))
          | _ => False) := k5
        split at k5'
        · rename_i tag1 pe1 ρ0 ps0 asg0 body0 hg1
          have hblk1 : S1.blk id = S.blk id := k1.blk id hid (by rw [(k2.obj id _ hg1).1, hgen])
          obtain ⟨rec1, m3, m4, m5, m6, m7, m8, m9, m10, mset⟩ := k2.setLoop hg1
          rw [hblk1] at m3 mset
          refine ⟨_, run_beginRound m3 m4, ?_⟩
          rw [h8]
          have hset1 := mset .busy pe1
          have hdf : Dfr C S1 (w1.putObj (S.blk id) (.loop { rec1 with state := .busy })) a1.defers := by
            have := (k2.rebase).write id (by rw [← k2.next]; exact AH.get_lt hg1) (k2.obj id _ hg1).2.1 (.loop tag1 .busy pe1 ρ0 ps0 asg0 body0) (.loop { rec1 with state := .busy }) ?_
            · rw [hblk1] at this
              exact k4.keep k2 this
            · obtain ⟨g1, g2, g0, _⟩ := k2.obj id _ hg1
              refine ⟨g1, g2, g0, { rec1 with state := .busy }, ?_, rfl, m5, m6, m7, m8, m9, m10⟩
              have := (Array.getElem?_eq_some_iff.1 m3).1
              simp [hblk1, this]
          have e0 : ({ rec1 with state := .busy } : Loop) = { rec1 with state := .busy, pending := pe1 } := by rw [← m5]
          rw [e0] at hdf ⊢
          refine wpIn_mono (k5' C S S1 a1 _ hl ⟨hH.next.symm, k1⟩ hset1 k3 hdf) fun e2 a2 w2 hlift2 => ?_
          obtain ⟨S2, ρ2, H2, n1, n2, n3, n4, n5⟩ := hlift2
          have fin : ∀ jump, ARoundEnd id K jump H2 → ∃ v w', (Instr.endRound (S.blk id) jump).run P w2 = .ok v w' ∧ ∃ v' cv S' H', Ending.returned v = .returned cv ∧ S.le S' ∧ VR S' v' cv ∧ HR C S' H' w' ∧ K v' H' := by
            intro jump hend
            unfold ARoundEnd at hend
            split at hend
            · rename_i tag2 st2 pe2 ρ02 ps02 asg02 body02 hg2
              have hblk2 : S2.blk id = S.blk id := n1.blk id hid (by rw [(n2.obj id _ hg2).1, hgen])
              obtain ⟨rec2, q3, q4, q5, q6, q7, q8, q9, q10, qset⟩ := n2.setLoop hg2
              rw [hblk2] at q3 qset
              exact ⟨_, _, run_endRound jump q3, .b jump.isNone, _, S2, _, rfl, n1, .b _, qset _ _, hend⟩
            · exact hend.elim
          cases e2 with
          | normal => exact fin none n5
          | ret => exact fin (some .ret) n5
          | exit x => exact fin (some (.exit x)) n5
          | goto x => exact n5.elim
          | panic c => exact n5.elim
          | outgrown => exact n5.elim
        · exact k5'.elim
      | exit id => exact k5.elim
      | goto l => exact k5.elim
      | ret => exact k5.elim
      | panic c => exact k5.elim
      | outgrown => exact k5.elim
  · exact h.elim

theorem aop_noDefer {ev : Operand → V} {H H' : AH} {op : Op} {v : V} (h : aop P op ev H = some (v, H')) : ∀ c, op ≠ .defer c := by
  rintro c rfl; simp [aop] at h

/-- Seen from where it is, an operation leaves the marks alone. -/
theorem Lift.of_rebase {K : Env → AH → Prop} {a' : Act} {S' : Loc} {ρ' : Env} {H' : AH} {w' : World} (hH : HR C S H w) (hd : Dfr C S w a'.defers) (hS : S.le S') (k : HR ⟨w, S⟩ S' H' w') (hE : ER S' ρ' a') (hK : K ρ' H') : Lift C S K a' w' :=
  ⟨S', ρ', H', hS, hH.back k, hE, hd.keep hH k, hK⟩

theorem AOp.sound {o : Oper} {K : Env → AH → Prop} {Q : Exit → Act → World → Prop} (h : AOp P o ρ H (fun v H' => K (ρ.put o.dst v) H')) (hl : Laid.ok P C) {B : Loc} (hB : B.le S) (hH : HR C S H w) (hE : ER S ρ a) (hd : Dfr C S w a.defers) :
    o.wpIn (FF r.round) 0 P a w (Lift C B K) Q := by
  refine Oper.wpIn_mono (K := Lift C S K) (fun a w h => h.mono hB fun _ _ h => h) ⟨fun _ _ => trivial, ?_⟩
  have hl' := Laid.rebase hH hl
  have hH0 := hH.rebase
  unfold AOp at h
  split at h
  · rename_i f args ats hop
    have hsem : o.semAt (FF r.round).round a.eval = execOp a.eval o := Oper.semAt_eq _ _ _ (fun c e => by rw [hop] at e; cases e)
    rw [hsem]
    split at h
    · rename_i g first caps hf
      have hfv := aev_VR hE f
      rw [hf] at hfv
      unfold execOp
      rw [hop]
      dsimp only
      simp only [resolve]
      generalize hcf : a.eval f = cf at hfv
      cases hfv with
      | fn _ _ _ first' caps' h1 h2 =>
        have hargs := (h1.append (evs_VRs (aev_VR hE) args.toList)).append h2
        have e : first'.toArray ++ args.map a.eval ++ caps'.toArray = (first' ++ args.toList.map a.eval ++ caps').toArray := by apply Array.ext'; simp
        rcases h with ⟨⟨fn, hfn, hname, hbody⟩, hcall⟩ | ⟨⟨fn, hfn, hname, hbody⟩, hcall⟩
        · simp only [Deferred.ofValue, pure_bind, invoke, callFunc, Sem.run_bind, run_program, Result.andThen_ok, hfn, hname, Bool.false_eq_true, if_false, hbody, Sem.run_pure, Oper.uponIn]
          rw [e]
          refine ⟨fun h => by simp [FF, Fence.wide] at h, callsIn_FF ((hcall ⟨w, S⟩ S _ w hl' hH0 hargs).mono fun e w' ⟨r, cr, S', H', he, hS, hv, hH', hK⟩ => ?_)⟩
          subst he
          exact Lift.of_rebase hH (by rw [put_defers]; exact hd) hS hH' ((hE.mono hS).put o.dst hv) hK
        · obtain ⟨r, cr, S', H', w', hrun, hS, hv, hH', hK⟩ := hcall ⟨w, S⟩ S _ w hl' hH0 hargs
          rw [← e] at hrun
          simp only [Deferred.ofValue, pure_bind, invoke, Sem.run_bind, hrun, Result.andThen_ok, Sem.run_pure, Oper.uponIn]
          exact Lift.of_rebase hH (by rw [put_defers]; exact hd) hS hH' ((hE.mono hS).put o.dst hv) hK
    · rename_i id hf
      have hfv := aev_VR hE f
      rw [hf] at hfv
      unfold execOp
      rw [hop]
      dsimp only
      simp only [resolve]
      generalize hcf : a.eval f = cf at hfv
      have hfv' := hfv
      cases hfv with
      | yl _ l hid hb =>
        have hargs := evs_VRs (aev_VR hE) args.toList
        obtain ⟨rec, hy, hround⟩ := ARound.sound (q := r.round) (fn := 0) h hl' hH0 hfv' hargs
        have e : args.map a.eval = (args.toList.map a.eval).toArray := by apply Array.ext'; simp
        simp only [Deferred.ofValue, pure_bind, invoke, Sem.run_bind, Array.append_empty, Array.empty_append]
        rw [e]
        simp only [hy, Result.andThen_ok, Sem.run_pure, Oper.uponIn]
        refine ⟨fun h => by simp [FF, Fence.wide] at h, hround.mono fun e w' ⟨v, cv, S', H', he, hS, hv, hH', hK⟩ => ?_⟩
        subst he
        exact Lift.of_rebase hH (by rw [put_defers]; exact hd) hS hH' ((hE.mono hS).put o.dst hv) hK
    · exact h.elim
  · rename_i it hop
    have hsem : o.semAt (FF r.round).round a.eval = execOp a.eval o := Oper.semAt_eq _ _ _ (fun c e => by rw [hop] at e; cases e)
    rw [hsem]
    obtain ⟨v, cv, H', w', hr, hv, hH', hK⟩ := sim_next (P := P) (t := o.type) hH0 (aev_VR hE it) h
    unfold execOp
    rw [hop]
    dsimp only
    simp only [Sem.run_bind, hr, Result.andThen_ok, Sem.run_pure, Oper.uponIn]
    exact Lift.of_rebase hH (by rw [put_defers]; exact hd) (Loc.le.refl S) hH' (hE.put o.dst hv) hK
  · rename_i op hne
    obtain ⟨v, H', ha, hK⟩ := h
    have hsem : o.semAt (FF r.round).round a.eval = execOp a.eval o := Oper.semAt_eq _ _ _ (aop_noDefer ha)
    rw [hsem]
    obtain ⟨S', cv, w', hr, hS, hv, hH'⟩ := sim_aop (o := o) hH0 (aev_VR hE) ha
    rcases hr with hr | ⟨hr, rfl⟩
    · rw [hr]
      exact Lift.of_rebase hH (by rw [put_defers]; exact hd) hS hH' ((hE.mono hS).put o.dst hv) hK
    · rw [hr]
      exact Lift.of_rebase hH (by rw [put_defers]; exact hd) hS hH' ((hE.mono hS).put o.dst hv) hK

/-- What a guard's operation yielded: a bool, or nothing (it was left out). -/
def ayielded (ops : Array Oper) (ρ : Env) (j : Nat) : Option (Option Bool) :=
  match (ops[j]?).bind (·.dst) with
  | none => some none
  | some d => if d < ρ.n then
      match ρ.get d with
      | .b b => some (some b)
      | .tup [] => some none
      | _ => none
    else none
theorem ayielded_sound {ops : Array Oper} {j : Nat} {r : Option Bool} (hE : ER S ρ a) (h : ayielded ops ρ j = some r) : yielded ops a.tmps j = r := by
  unfold ayielded at h
  unfold yielded
  split at h
  · rename_i hd
    cases h
    simp [hd]
  · rename_i d hd
    split at h
    · rename_i hlt
      have hv := hE.2 d
      have hsz : d < a.tmps.size := by rw [hE.1]; exact hlt
      have hget : a.tmps.getD d undef = a.tmps[d] := by simp [hsz]
      rw [hget] at hv
      simp only [hd, Option.bind_some, Array.getElem?_eq_getElem hsz]
      split at h
      · rename_i b hb
        cases h
        rw [hb] at hv
        generalize a.tmps[d] = c at hv
        cases hv; rfl
      · rename_i hb
        cases h
        rw [hb] at hv
        generalize a.tmps[d] = c at hv
        cases hv with
        | tup _ l' hl => rfl
      · cases h
    · cases h

/-- One operation of a region, with what follows: it may be left out. -/
def AStep (P : Program) [Laid P] (ops : Array Oper) (o : Oper) (ρ : Env) (H : AH) (K : Env → AH → Prop) : Prop :=
  match o.guard with
  | none => AOp P o ρ H (fun v H' => K (ρ.put o.dst v) H')
  | some (j, want) => match ayielded ops ρ j with
    | some r => if r == some want then AOp P o ρ H (fun v H' => K (ρ.put o.dst v) H') else K (ρ.put o.dst (.tup [])) H
    | none => False

theorem AStep.sound {ops : Array Oper} {i : Nat} {o : Oper} {K : Env → AH → Prop} {Q : Exit → Act → World → Prop} (hi : ops[i]? = some o) (h : AStep P ops o ρ H K) (hl : Laid.ok P C) {B : Loc} (hB : B.le S) (hH : HR C S H w) (hE : ER S ρ a) (hd : Dfr C S w a.defers) :
    wpOpIn (FF r.round) 0 P ops Q i (Lift C B K) a w := by
  unfold AStep at h
  unfold wpOpIn
  simp only [hi]
  split at h
  · rename_i hg
    have : Region.wanted o (yielded ops a.tmps) = true := by simp [Region.wanted, hg]
    simp only [this, if_true]
    exact AOp.sound h hl hB hH hE hd
  · rename_i j want hg
    split at h
    · rename_i r hr
      have hy := ayielded_sound hE hr
      have hw : Region.wanted o (yielded ops a.tmps) = (r == some want) := by simp [Region.wanted, hg, hy]
      rw [hw]
      split at h
      · rename_i hrw
        simp only [hrw, if_true]
        exact AOp.sound h hl hB hH hE hd
      · rename_i hrw
        simp only [hrw, Bool.false_eq_true, if_false]
        exact ⟨fun _ _ => trivial, S, _, H, hB, hH, hE.put o.dst (.tup [] [] .nil), by rw [put_defers]; exact hd, h⟩
    · exact h.elim

/-- Operations one behind the other. -/
def AOps (P : Program) [Laid P] (ops : Array Oper) : List Oper → (Env → AH → Prop) → Env → AH → Prop
  | [], K, ρ, H => K ρ H
  | o :: l, K, ρ, H => AStep P ops o ρ H (AOps P ops l K)

theorem AOps.sound {ops : Array Oper} {Q : Exit → Act → World → Prop} (hl : Laid.ok P C) {B : Loc} : ∀ (l : List Oper) (k : Nat) {K : Env → AH → Prop} {S : Loc} {ρ : Env} {H : AH} {a : Act} {w : World}, (∀ (j : Nat) (o : Oper), l[j]? = some o → ops[k + j]? = some o) →
    (∀ a w, Lift C B K a w → Q .normal a w) → AOps P ops l K ρ H → B.le S → HR C S H w → ER S ρ a → Dfr C S w a.defers → wpOpsIn (FF r.round) 0 P ops Q (List.range' k l.length) a w
  | [], k, K, S, ρ, H, a, w, _, hQ, h, hB, hH, hE, hd => hQ a w ⟨S, ρ, H, hB, hH, hE, hd, h⟩
  | o :: l, k, K, S, ρ, H, a, w, hlk, hQ, h, hB, hH, hE, hd => by
    have hi : ops[k]? = some o := by simpa using hlk 0 o rfl
    rw [List.length_cons, List.range'_succ, wpOpsIn_cons]
    refine wpOpIn_mono (fun a' w' ⟨S', ρ', H', hS, hH', hE', hd', hK⟩ => ?_) (AStep.sound (r := r) (Q := Q) hi h hl hB hH hE hd)
    exact AOps.sound hl l (k + 1) (fun j o' hj => by have := hlk (j + 1) o' (by simpa using hj); rwa [show k + (j + 1) = k + 1 + j by omega] at this)
      hQ hK hS hH' hE' hd'
end

section
variable {r : Fm} {P : Program} [Laid P] {Q : Exit → Env → AH → Prop} {ρ : Env} {H : AH}

theorem AW.mono {c : Code} {Q' : Exit → Env → AH → Prop} (h : AW r P c Q ρ H) (hq : ∀ e ρ H, Q e ρ H → Q' e ρ H) : AW r P c Q' ρ H :=
  fun C B S a w hl hB hH hE hd => wpIn_mono (h C B S a w hl hB hH hE hd) fun e a w hl => hl.mono (Loc.le.refl B) (hq e)

theorem AW_skip (h : Q .normal ρ H) : AW r P .skip Q ρ H := fun C B S a w hl hB hH hE hd => wpIn_skip ⟨S, ρ, H, hB.2, hH, hE, hd, h⟩
theorem AW_exit {id : Nat} (h : Q (.exit id) ρ H) : AW r P (.exit id) Q ρ H := fun C B S a w hl hB hH hE hd => wpIn_exit ⟨S, ρ, H, hB.2, hH, hE, hd, h⟩
theorem AW_ret (h : Q .ret ρ H) : AW r P .ret Q ρ H := fun C B S a w hl hB hH hE hd => wpIn_ret ⟨S, ρ, H, hB.2, hH, hE, hd, h⟩

theorem AW_seq {x y : Code} (h : AW r P x (AThen (AW r P y Q) Q) ρ H) : AW r P (.seq x y) Q ρ H := by
  intro C B S a w hl hB hH hE hd
  refine wpIn_seq (wpIn_mono (h C B S a w hl hB hH hE hd) fun e a' w' hl' => ?_)
  cases e with
  | normal =>
    obtain ⟨S', ρ', H', hS, hH', hE', hd', hK⟩ := hl'
    exact hK C B S' a' w' hl ⟨hB.1, hS⟩ hH' hE' hd'
  | exit id => exact hl'
  | goto l => exact hl'
  | ret => exact hl'
  | panic c => exact hl'
  | outgrown => exact hl'

theorem AW_cond {c : Operand} {x y : Code} {b : Bool} (hc : aev ρ c = .b b) (h : AW r P (if b then x else y) Q ρ H) : AW r P (.cond c x y) Q ρ H := by
  intro C B S a w hl hB hH hE hd
  have hv := aev_VR hE c
  rw [hc] at hv
  generalize hcv : a.eval c = cv at hv
  cases hv
  exact wpIn_cond hcv (h C B S a w hl hB hH hE hd)

def ABlock (id : Nat) (Q : Exit → Env → AH → Prop) : Exit → Env → AH → Prop
  | .exit id', ρ, H => if id' = id then Q .normal ρ H else Q (.exit id') ρ H
  | e, ρ, H => Q e ρ H
theorem AW_block {id : Nat} {c : Code} (h : AW r P c (ABlock id Q) ρ H) : AW r P (.block id c) Q ρ H := by
  intro C B S a w hl hB hH hE hd
  refine wpIn_block (wpIn_mono (h C B S a w hl hB hH hE hd) fun e a' w' hl => ?_)
  cases e with
  | exit id' =>
    simp only [Exit.inBlock]
    split
    · rename_i e; subst e; exact hl.mono (Loc.le.refl B) fun ρ H h => by simpa [ABlock] using h
    · rename_i e; exact hl.mono (Loc.le.refl B) fun ρ H h => by simpa [ABlock, e] using h
  | normal => exact hl
  | goto l => exact hl
  | ret => exact hl
  | panic c => exact hl
  | outgrown => exact hl

/-- What may be assumed: what names an object names one that is there. -/
theorem AW_wf {c : Code} (h : H.wf → (∀ t, V.lt H.next (ρ.get t) = true) → AW r P c Q ρ H) : AW r P c Q ρ H := fun C B S a w hl hB hH hE hd =>
  h hH.wf (fun t => by rw [hH.next]; exact (hE.2 t).lt) C B S a w hl hB hH hE hd
/-- What nobody names may be forgotten. -/
theorem AW_gc {c : Code} {H0 : AH} {ρ0 : Env} (hw : H0.wf) (hn : H0.next ≤ H.next) (hg : ∀ j, j < H0.next → H0.get j = H.get j) (hb : r.base ≤ H0.next) (hs : ∀ S a, ER S ρ a → ER S ρ0 a) (hρ : ∀ t, V.lt H0.next (ρ0.get t) = true) (h : AW r P c Q ρ0 H0) : AW r P c Q ρ H := fun C B S a w hl hB hH hE hd => by
  have hH0 := hH.upto hn hg hw
  refine h C B (S.upto H0.next) a w hl ⟨hB.1, hB.2.upto (by rw [hB.1]; exact hb)⟩ hH0 ⟨(hs S a hE).1, fun t => ((hs S a hE).2 t).upto (hρ t)⟩ ?_
  obtain ⟨bs, h1, h2, h3⟩ := hd
  refine ⟨bs, h1, fun b hb => ⟨(h2 b hb).1, fun id hi ho => ?_, (h2 b hb).2.2⟩, h3⟩
  have hi' : id < H0.next := hi
  exact (h2 b hb).2.1 id (by rw [← hH.next]; omega) ho

/-- A loop: what holds at each round's head ('n' counts down), with the rounds left. What nobody names any more may be forgotten at a round's end. -/
theorem AW_loopn {c : Code} (I : Nat → Env → AH → Prop) (n0 : Nat) (h0 : I n0 ρ H)
    (round : ∀ n ρ H, I n ρ H → AW r P c (AThen (fun ρ' H' => ∃ m, m < n ∧ ∃ ρ0 H0, (∀ S a, ER S ρ' a → ER S ρ0 a) ∧ (H0 = H' ∨ (H0.wf ∧ H0.next ≤ H'.next ∧ (∀ j, j < H0.next → H0.get j = H'.get j) ∧ r.base ≤ H0.next ∧ ∀ t, V.lt H0.next (ρ0.get t) = true)) ∧ I m ρ0 H0) Q) ρ H) : AW r P (.loop c) Q ρ H := by
  intro C B S a w hl hB hH hE hd
  let J : Nat → Act → World → Prop := fun n a w => ∃ S' ρ H, B.le S' ∧ HR C S' H w ∧ ER S' ρ a ∧ Dfr C S' w a.defers ∧ I n ρ H
  intro b k cs hro hb hr
  have key : ∀ n a w, J n a w → ∃ e a' w', Lift C B (Q e) a' w' ∧ ArrivesIn (Machine.fenced P (FF r.round)) P (lone (b.atR a (.code c :: .inLoop c :: k)) cs w) b k cs e a' w' := by
    intro n
    induction n using Nat.strongRecOn with
    | _ n ih =>
      intro a w ⟨S', ρ, H, hS, hH', hE', hd', hI⟩
      obtain ⟨e, a₁, w₁, hq, harr⟩ := round n ρ H hI C B S' a w hl ⟨hB.1, hS⟩ hH' hE' hd' b (.inLoop c :: k) cs hro hb hr
      cases e with
      | normal =>
        obtain ⟨S'', ρ'', H'', hS'', hH'', hE'', hd'', m, hlt, ρ0, H0, hρ0, hgc, hI''⟩ := hq
        have hJ : J m a₁ w₁ := by
          rcases hgc with rfl | ⟨g1, g2, g3, g4, g5⟩
          · exact ⟨S'', ρ0, H0, hS'', hH'', hρ0 _ _ hE'', hd'', hI''⟩
          · have hE0 := hρ0 _ _ hE''
            refine ⟨S''.upto H0.next, ρ0, H0, hS''.upto (by rw [hB.1]; exact g4), hH''.upto g2 g3 g1, ⟨hE0.1, fun t => (hE0.2 t).upto (g5 t)⟩, ?_, hI''⟩
            obtain ⟨bs, h1, h2, h3⟩ := hd''
            refine ⟨bs, h1, fun b hb => ⟨(h2 b hb).1, fun id hi ho => ?_, (h2 b hb).2.2⟩, h3⟩
            have hi' : id < H0.next := hi
            exact (h2 b hb).2.1 id (by rw [← hH''.next]; omega) ho
        obtain ⟨e₂, a₂, w₂, hq₂, harr₂⟩ := ih m hlt a₁ w₁ hJ
        exact ⟨e₂, a₂, w₂, hq₂, .of_steps (StepsIn.trans harr (.one (fenced_calm hb hr rfl) stepR_inLoop)) harr₂⟩
      | exit id => exact ⟨_, a₁, w₁, hq, .pass (x := .inLoop c) rfl (fun _ _ => .inl (by simp)) harr⟩
      | goto l => exact ⟨_, a₁, w₁, hq, .pass (x := .inLoop c) rfl (fun _ _ => .inl (by simp)) harr⟩
      | ret => exact ⟨_, a₁, w₁, hq, .pass (x := .inLoop c) rfl (fun _ _ => .inl (by simp)) harr⟩
      | panic ch => exact ⟨_, a₁, w₁, hq, .pass (x := .inLoop c) rfl (fun _ _ => .inl (by simp)) harr⟩
      | outgrown => exact ⟨_, a₁, w₁, hq, .pass (x := .inLoop c) rfl (fun _ _ => .inl (by simp)) harr⟩
  obtain ⟨e, a', w', hq, harr⟩ := key _ a w ⟨S, ρ, H, hB.2, hH, hE, hd, h0⟩
  exact ⟨e, a', w', hq, .of_steps (.one (fenced_calm hb hr rfl) stepR_loop) harr⟩
/-- A loop: what holds at each round's head, and a measure. -/
theorem AW_loop {c : Code} (I : Env → AH → Prop) (μ : Env → AH → Nat) (h0 : I ρ H)
    (round : ∀ ρ H, I ρ H → AW r P c (AThen (fun ρ' H' => I ρ' H' ∧ μ ρ' H' < μ ρ H) Q) ρ H) : AW r P (.loop c) Q ρ H := by
  refine AW_loopn (fun n ρ H => I ρ H ∧ μ ρ H = n) (μ ρ H) ⟨h0, rfl⟩ fun n ρ H ⟨hI, hm⟩ => (round ρ H hI).mono fun e ρ' H' h => ?_
  cases e with
  | normal => exact ⟨_, hm ▸ h.2, ρ', H', fun _ _ h => h, .inl rfl, h.1, rfl⟩
  | exit id => exact h
  | goto l => exact h
  | ret => exact h
  | panic c => exact h
  | outgrown => exact h

theorem AW_scope {c : Code} (h : AW r P c (fun e ρ H => match e with | .goto _ => False | e => Q e ρ H) ρ H) : AW r P (.scope c) Q ρ H := by
  intro C B S a w hl hB hH hE hd b k cs hro hb hr
  have h0 : (lone (b.atR a (.code (.scope c) :: k)) cs w).fenced P (FF r.round) := fenced_calm hb hr rfl
  have s1 : step P (lone (b.atR a (.code (.scope c) :: k)) cs w) = .next (lone (b.atR a (.code c :: .inScope c :: k)) cs w) := step_lone_go (by simp [stepG, stepG.exec, Frame.atR])
  obtain ⟨e, a₁, w₁, hq, harr⟩ := h C B S a w hl hB hH hE hd b (.inScope c :: k) cs hro hb hr
  cases e with
  | normal =>
    have s2 : step P (lone (b.atR a₁ (.inScope c :: k)) cs w₁) = .next (lone (b.atR a₁ k) cs w₁) := step_lone_go (by simp [stepG, stepG.exec, Frame.atR])
    exact ⟨.normal, a₁, w₁, hq, .head h0 s1 (StepsIn.trans harr (.one (fenced_calm hb hr rfl) s2))⟩
  | exit id =>
    have hx : exitTo id (.inScope c :: k) = exitTo id k := by simp [exitTo]
    exact ⟨.exit id, a₁, w₁, hq, fun k' hk => .head h0 s1 (harr.1 k' (by rw [hx]; exact hk)), fun hr' hk => let ⟨k₁, h1, h2⟩ := harr.2 hr' (by rw [hx]; exact hk); ⟨k₁, h1, .head h0 s1 h2⟩⟩
  | goto l => obtain ⟨_, _, _, _, _, _, _, h⟩ := hq; exact h.elim
  | ret => exact ⟨_, a₁, w₁, hq, .of_steps (.one h0 s1) harr⟩
  | panic ch => exact ⟨_, a₁, w₁, hq, .of_steps (.one h0 s1) harr⟩
  | outgrown => exact ⟨_, a₁, w₁, hq, .of_steps (.one h0 s1) harr⟩

/-- A region in the text's order. -/
theorem AW_region {id : Nat} {ops : Array Oper} (h : AOps P ops ops.toList (Q .normal) ρ H) : AW r P (.region id ops false) Q ρ H := by
  intro C B S a w hl hB hH hE hd
  refine wpIn_region ?_
  have := AOps.sound (r := r) (C := C) (P := P) (B := B) (Q := fun e a' w' => Lift C B (Q e) a' w') hl ops.toList 0 (fun j o hj => by simpa using hj) (fun a w h => h) h hB.2 hH hE hd
  rw [List.range_eq_range']
  simpa using this

/-- A world with one block more, of which nothing is said. -/
theorem HR.hide {C : Ctx} {S : Loc} {H : AH} {w : World} (h : HR C S H w) (ob : Obj) : HR C S H (w.alloc ob) where
  next := h.next
  obj id o ho := by
    have hlt : id < S.next := by rw [← h.next]; exact AH.get_lt ho
    have hin : S.blk id < w.heap.size ∨ (S.own id = false ∧ ∃ g esz, H.get id = Option.some (.cells [] g true esz)) := by
      cases hown : S.own id with
      | true => exact .inl (h.lt id hlt hown).1
      | false => exact (h.foreign id hlt hown).imp (fun hb => hb.1) (fun he => ⟨rfl, he⟩)
    rcases hin with hin | ⟨hown, g, esz, hg⟩
    · exact (h.obj id o ho).block (Loc.le.refl S) hlt rfl (Below.heap_alloc _ _ _ hin)
    · rw [hg] at ho; cases ho
      exact (h.obj id _ hg).empty (Loc.le.refl S) hlt rfl hown
  some := h.some
  lt id hi ho := ⟨by have := (h.lt id hi ho).1; simp; omega, (h.lt id hi ho).2⟩
  foreign id hi ho := (h.foreign id hi ho).imp (fun hb => ⟨by have := hb.1; simp; omega, hb.2⟩) fun h => h
  sep := h.sep
  below := ⟨h.below.os, h.below.tape, h.below.output, by have := h.below.size; simp; omega, fun k hk hm => by rw [Below.heap_alloc _ _ _ (Nat.lt_of_lt_of_le hk h.below.size)]; exact h.below.block k hk hm, h.below.drawn⟩
  loose := h.loose
/-- A hidden block is written. -/
theorem HR.shut {C : Ctx} {S : Loc} {H : AH} {w : World} (h : HR C S H w) {b : Nat} (hb : C.w0.heap.size ≤ b) (ho : ∀ id, id < S.next → S.own id = true → S.blk id ≠ b) {x : Option (List Deferred)} (hx : w.heap[b]? = Option.some (.deferred x)) (ob : Obj) : HR C S H (w.putObj b ob) where
  next := h.next
  obj id o hg := by
    have hlt : id < S.next := by rw [← h.next]; exact AH.get_lt hg
    by_cases e : S.blk id = b
    · have hno : S.own id = false := by
        cases hown : S.own id with
        | true => exact absurd e (ho id hlt hown)
        | false => rfl
      cases o with
      | cells c g ro esz =>
        obtain ⟨h1, h2, h3, h4, h5⟩ := h.obj id _ hg
        have hc : c = [] := by
          cases c with
          | nil => rfl
          | cons v c =>
            obtain ⟨cv, hcv, _⟩ := h3 0 v rfl
            simp [World.cell?, e, hx] at hcv
        subst hc
        have hro : ro = true := by
          cases ro with
          | true => rfl
          | false => rw [h5 rfl] at hno; cases hno
        subst hro
        exact (h.obj id _ hg).empty (Loc.le.refl S) hlt rfl hno
      | map es clock => obtain ⟨_, h2, _⟩ := h.obj id _ hg; rw [h2] at hno; cases hno
      | strIter s p => obtain ⟨_, h2, _⟩ := h.obj id _ hg; rw [h2] at hno; cases hno
      | mapIter m a b' c => obtain ⟨_, h2, _⟩ := h.obj id _ hg; rw [h2] at hno; cases hno
      | loop g' a b' c d e' f => obtain ⟨_, h2, _⟩ := h.obj id _ hg; rw [h2] at hno; cases hno
    · exact (h.obj id o hg).block (Loc.le.refl S) hlt rfl (World.putObj_heap_other e)
  some := h.some
  lt id hi ho' := by simpa using h.lt id hi ho'
  foreign id hi ho' := by simpa using h.foreign id hi ho'
  sep := h.sep
  below := ⟨h.below.os, h.below.tape, h.below.output, by simpa using h.below.size, fun k hk hm => by rw [World.putObj_heap_other (by omega)]; exact h.below.block k hk hm, h.below.drawn⟩
  loose := h.loose

/-- A RANGE OVER A FUNCTION (not within a round): the function is called with the loop's yield; what a round left to do is done. -/
theorem AW_rangeFunc (tag : Nat) {n0 : Nat} {g : Operand} {ps : Array Tmp} {asg body : Code} {gf : FuncId} {first caps : List V} (hg : aev ρ g = .fn (.func gf) first caps) (hb : goFunc P gf)
    (h : ACalls P gf (first ++ [.yl H.next] ++ caps) (H.new (.loop tag .ready none ρ ps asg body)) fun _ H' =>
      match H'.get H.next with
      | some (.loop tag0 st pe ρ0 ps0 asg0 body0) => st ≠ .busy ∧ (match pe with
        | none => Q .normal ρ (H'.set H.next (.loop tag0 .exhausted pe ρ0 ps0 asg0 body0))
        | some c => AW ⟨none, n0⟩ P c Q ρ (H'.set H.next (.loop tag0 .exhausted pe ρ0 ps0 asg0 body0)))
      | _ => False) : AW ⟨none, n0⟩ P (.rangeFunc g ps asg body) Q ρ H := by
  intro C B S a w hl hB hH hE hd
  refine wpIn_rangeFunc (F := FF none) ?_
  intro fn _
  have hgv := aev_VR hE g
  rw [hg] at hgv
  generalize hcg : a.eval g = cg at hgv
  cases hgv with
  | fn _ _ _ first' caps' hv1 hv2 =>
    obtain ⟨fnn, hfn, hname, hbody⟩ := hb
    let rec0 : Loop := { state := .ready, pending := none, fn, tmps := a.tmps, params := ps, assign := asg, body, defers := w.heap.size }
    have hH1 := hH.hide (.deferred (some []))
    have hH2 : HR C (S.add (w.alloc (.deferred (some []))).heap.size 0 0 0) (H.new (.loop tag .ready none ρ ps asg body)) ((w.alloc (.deferred (some []))).alloc (.loop rec0)) := by
      refine hH1.new (.loop tag .ready none ρ ps asg body) (.loop rec0) 0 0 ?_
      refine ⟨by simp [Loc.add], by simp [Loc.add], by simp [Loc.add], rec0, ?_, rfl, rfl, rfl, rfl, rfl, hE.1, fun t => (hE.2 t).mono (Loc.le_add ..)⟩
      have := World.alloc_heap_new (w.alloc (.deferred (some []))) (.loop rec0)
      have e : (S.add (w.alloc (.deferred (some []))).heap.size 0 0 0).blk S.next = (w.alloc (.deferred (some []))).heap.size := by simp [Loc.add]
      rw [e]; exact this
    have hS1 := Loc.le_add S (w.alloc (.deferred (some []))).heap.size 0 0 0 (g := 0)
    have hd2 : Dfr C (S.add (w.alloc (.deferred (some []))).heap.size 0 0 0) ((w.alloc (.deferred (some []))).alloc (.loop rec0)) ({ target := .collected w.heap.size, args := #[] } :: a.defers) := by
      obtain ⟨bs, g1, g2, g3⟩ := hd
      refine ⟨w.heap.size :: bs, List.nodup_cons.2 ⟨fun hm => ?_, g1⟩, fun b hb => ?_, by simp [g3]⟩
      · have := (Array.getElem?_eq_some_iff.1 (g2 _ hm).2.2).1
        omega
      · rcases List.mem_cons.1 hb with rfl | hb
        · refine ⟨hH.below.size, fun id hi ho => ?_, ?_⟩
          · simp only [Loc.add] at ho ⊢
            by_cases e : id = S.next
            · simp [e]
            · simp only [e, if_false] at ho ⊢
              have hi' : id < S.next + 1 := hi
              have := (hH.lt id (by omega) ho).1
              omega
          · exact (Below.heap_alloc _ _ _ (by simp)).trans (World.alloc_heap_new w _)
        · obtain ⟨k1, k2, k3⟩ := g2 b hb
          have hlt := (Array.getElem?_eq_some_iff.1 k3).1
          refine ⟨k1, fun id hi ho => ?_, ?_⟩
          · simp only [Loc.add] at ho ⊢
            by_cases e : id = S.next
            · simp [e]; omega
            · simp only [e, if_false] at ho ⊢
              have hi' : id < S.next + 1 := hi
              exact k2 id (by omega) ho
          · rw [Below.heap_alloc _ _ _ (by simp; omega), Below.heap_alloc _ _ _ hlt]; exact k3
    refine ⟨w.heap.size + 1, [{ target := .collected w.heap.size, args := #[] }], (w.alloc (.deferred (some []))).alloc (.loop rec0), { target := .fn (.func gf) caps'.toArray, args := first'.toArray ++ #[.func (.yield (w.heap.size + 1)) #[] #[]] }, (w.alloc (.deferred (some []))).alloc (.loop rec0), gf,
      first'.toArray ++ #[.func (.yield (w.heap.size + 1)) #[] #[]] ++ caps'.toArray, (w.alloc (.deferred (some []))).alloc (.loop rec0), run_enterLoop_outer _ _ _ _ _, ?_, fun _ _ => trivial, ?_, fun h => by simp [FF, Fence.wide] at h, ?_⟩
    · simp only [resolve, rangeCall, hcg, Deferred.ofValue]
      simp [Act.eval]
    · simp only [invoke, callFunc, Sem.run_bind, run_program, Result.andThen_ok, hfn, hname, hbody, Bool.false_eq_true, if_false, Sem.run_pure]
    · have hyl : VR (S.add (w.alloc (.deferred (some []))).heap.size 0 0 0) (.yl H.next) (.func (.yield (w.heap.size + 1)) #[] #[]) := by
        refine .yl _ _ (by simp [Loc.add, hH.next]) fun _ => ?_
        simp [Loc.add, hH.next]
      have hargs : VRs (S.add (w.alloc (.deferred (some []))).heap.size 0 0 0) (first ++ [.yl H.next] ++ caps) (first' ++ [Value.func (.yield (w.heap.size + 1)) #[] #[]] ++ caps') :=
        ((hv1.mono hS1).append (.cons _ _ _ _ hyl .nil)).append (hv2.mono hS1)
      rcases h with ⟨_, hcall⟩ | ⟨⟨fn2, hfn2, _, hb2⟩, _⟩
      · have e : first'.toArray ++ #[.func (.yield (w.heap.size + 1)) #[] #[]] ++ caps'.toArray = (first' ++ [Value.func (.yield (w.heap.size + 1)) #[] #[]] ++ caps').toArray := by apply Array.ext'; simp
        rw [e]
        refine callsIn_FF ((hcall ⟨_, _⟩ _ _ _ (Laid.rebase hH2 hl) hH2.rebase hargs).mono fun e w' ⟨v, cv, S', H', he, hS, hv, hH', hK⟩ => ?_)
        subst he
        have hHb := hH2.back hH'
        have hdb := hd2.keep hH2 hH'
        dsimp only at hK
        split at hK
        · rename_i tag0 st pe ρ0 ps0 asg0 body0 hg2
          obtain ⟨hst, hK⟩ := hK
          obtain ⟨rec2, q3, q4, q5, q6, q7, q8, q9, q10, qset⟩ := hHb.setLoop hg2
          have hnl : H.next < (S.add (w.alloc (.deferred (some []))).heap.size 0 0 0).next := by simp [Loc.add, hH.next]
          have hblk : S'.blk H.next = w.heap.size + 1 := by
            have h1 := hS.blk H.next hnl (by rw [(hHb.obj _ _ hg2).1]; simp [Loc.add, hH.next])
            rw [h1]; simp [Loc.add, hH.next]
          rw [hblk] at q3 qset
          have hend := run_endLoop (P := P) q3 (by rw [q4]; exact hst)
          have hset := qset .exhausted pe
          have e0 : ({ rec2 with state := .exhausted, pending := pe } : Loop) = { rec2 with state := .exhausted } := by rw [← q5]
          rw [e0] at hset
          have hend' : (Instr.endLoop (w.heap.size + 1)).run P w' = .ok pe (w'.putObj (w.heap.size + 1) (.loop { rec2 with state := .exhausted })) := by
            rw [hend]; exact congrArg (fun x => Result.ok x _) q5
          refine ⟨pe, _, hend', ?_⟩
          have hE' : ER S' ρ { a with defers := [{ target := .collected w.heap.size, args := #[] }] ++ a.defers } := (hE.mono (hS1.trans hS))
          have hd' : Dfr C S' (w'.putObj (w.heap.size + 1) (.loop { rec2 with state := .exhausted })) ([{ target := .collected w.heap.size, args := #[] }] ++ a.defers) := by
            have := (hHb.rebase).setLoop hg2
            obtain ⟨rec3, z3, _, _, _, _, _, _, _, zset⟩ := this
            rw [hblk, q3] at z3
            have z3' : rec2 = rec3 := by simpa using z3
            subst z3'
            have := zset .exhausted pe
            rw [hblk, e0] at this
            exact hdb.keep hHb this
          cases pe with
          | none => exact ⟨S', ρ, _, hB.2.trans (hS1.trans hS), hset, hE', hd', hK⟩
          | some c => exact hK C B S' _ _ hl ⟨hB.1, hB.2.trans (hS1.trans hS)⟩ hset hE' hd'
        · exact hK.elim
      · rw [hfn] at hfn2; cases hfn2; rw [hbody] at hb2; cases hb2
end

/-! Calls. -/
def Env.zip : Nat → List V → List (Nat × V)
  | _, [] => []
  | i, v :: l => (i, v) :: Env.zip (i + 1) l
def Env.init (n : Nat) (args : List V) : Env := { n := args.length + (n - args.length), l := Env.zip 0 args }
theorem Env.look_zip : ∀ (l : List V) (i t : Nat), Env.look (Env.zip i l) t = if i ≤ t then (l[t - i]?).getD .un else .un
  | [], i, t => by simp [Env.zip, Env.look]
  | v :: l, i, t => by
    simp only [Env.zip, Env.look]
    by_cases h : i = t
    · subst h; simp
    · simp only [h, if_false]
      rw [Env.look_zip l (i + 1) t]
      by_cases h2 : i ≤ t
      · have : i + 1 ≤ t := by omega
        simp only [h2, this, if_true]
        rw [show t - i = (t - (i + 1)) + 1 by omega]
        simp
      · have : ¬ i + 1 ≤ t := by omega
        simp [h2, this]
theorem ER_init {S : Loc} {args : List V} {cargs : List Value} (n : Nat) (h : VRs S args cargs) : ER S (Env.init n args) { tmps := cargs.toArray ++ Array.replicate (n - cargs.toArray.size) undef, defers := [] } := by
  have hl := h.length
  refine ⟨by simp [Env.init, hl], fun t => ?_⟩
  simp only [Env.init, Env.get, Env.look_zip, Nat.zero_le, if_true, Nat.sub_zero]
  cases ht : args[t]? with
  | none => simp; exact .un _
  | some v =>
    obtain ⟨c, hc, hv⟩ := h.get t v ht
    have hlt : t < cargs.length := (List.getElem?_eq_some_iff.1 hc).1
    have e : (cargs.toArray ++ Array.replicate (n - cargs.toArray.size) undef).getD t undef = c := by
      have e1 : cargs[t] = c := (List.getElem?_eq_some_iff.1 hc).2
      simp [Array.getD_eq_getD_getElem?, Array.getElem?_append, hlt, e1]
    rw [e]; simpa using hv

/-- The results, out of the slots. -/
def ares (P : Program) (H : AH) (ρ : Env) : List ResultVar → Option (List V)
  | [] => some []
  | .tmp t :: l => (ares P H ρ l).map (ρ.get t :: ·)
  | .cell a t :: l => match aload P H t (ρ.get a), ares P H ρ l with
    | some v, some r => some (v :: r)
    | _, _ => none
def ares1 (P : Program) (H : AH) (ρ : Env) (l : List ResultVar) : Option V :=
  match ares P H ρ l with
  | some [v] => some v
  | some r => some (.tup r)
  | none => none
/-- The post at a body's end. -/
def AEnd (P : Program) (fn : Func) (Q : V → AH → Prop) : Exit → Env → AH → Prop
  | .normal, ρ, H | .ret, ρ, H => ∃ r, ares1 P H ρ fn.results.toList = some r ∧ Q r H
  | _, _, _ => False

section
variable {P : Program} [Laid P] {ρ : Env} {H : AH}
theorem sim_results {C : Ctx} {S : Loc} {w : World} {a : Act} (hH : HR C S H w) (hE : ER S ρ a) {fn : Func} {r : V} (h : ares1 P H ρ fn.results.toList = some r) : ∃ cr, (results fn a.tmps).run P w = .ok cr w ∧ VR S r cr := by
  have key : ∀ (l : List ResultVar) (vs : List V), ares P H ρ l = some vs → ∃ cs : List Value, (l.mapM (fun
      | .tmp t => pure (a.tmps.getD t undef)
      | .cell p t => do loadVar t (← asAddr (a.tmps.getD p undef)) : ResultVar → Sem Value)).run P w = .ok cs w ∧ VRs S vs cs := by
    intro l
    induction l with
    | nil => intro vs h; simp [ares] at h; subst h; exact ⟨[], by simp, .nil⟩
    | cons x l ih =>
      intro vs h
      cases x with
      | tmp t =>
        simp only [ares, Option.map_eq_some_iff] at h
        obtain ⟨vs', h', rfl⟩ := h
        obtain ⟨cs, hr, hv⟩ := ih vs' h'
        refine ⟨a.tmps.getD t undef :: cs, ?_, .cons _ _ _ _ (hE.2 t) hv⟩
        rw [List.mapM_cons]
        simp only [Sem.run_bind, Sem.run_pure, Result.andThen_ok]
        rw [hr]; rfl
      | cell p t =>
        simp only [ares] at h
        split at h
        · rename_i v r h1 h2
          cases h
          obtain ⟨cs, hr, hv⟩ := ih r h2
          obtain ⟨cv, hc, hcv⟩ := sim_load (P := P) hH (hE.2 p) h1
          refine ⟨cv :: cs, ?_, .cons _ _ _ _ hcv hv⟩
          have hp := hE.2 p
          have hp2 : ∃ ad, a.tmps.getD p undef = .pointer (some ad) := by
            unfold aload at h1
            split at h1
            · rename_i id g off hq
              rw [hq] at hp
              generalize a.tmps.getD p undef = c at hp
              cases hp
              exact ⟨_, rfl⟩
            · cases h1
          obtain ⟨ad, had⟩ := hp2
          have hc' : (loadVar t ad).run P w = .ok cv w := by
            rw [had] at hc
            simpa [Instr.loadAt, Instr.sureAddr] using hc
          have ha : (asAddr (a.tmps.getD p undef)).run P w = .ok ad w := by rw [had]; rfl
          rw [List.mapM_cons]
          simp only [Sem.run_bind, ha, Result.andThen_ok, hc', Sem.run_pure]
          rw [hr]; rfl
        · cases h
  unfold ares1 at h
  have hm : ∀ (vs : List V), ares P H ρ fn.results.toList = some vs → ∃ cs : List Value, (results fn a.tmps).run P w = .ok (if h : cs.toArray.size = 1 then cs.toArray[0] else .tuple cs.toArray) w ∧ VRs S vs cs := by
    intro vs hvs
    obtain ⟨cs, hr, hv⟩ := key _ _ hvs
    refine ⟨cs, ?_, hv⟩
    unfold results
    rw [Array.mapM_eq_mapM_toList]
    simp only [Sem.run_bind, Sem.run_map]
    exact congrArg (fun r : Result (List Value) => (r.andThen fun a w' => Result.ok a.toArray w').andThen fun a w' => Sem.run P (pure (if h : a.size = 1 then a[0] else Value.tuple a)) w') hr
  split at h
  · rename_i v hv
    cases h
    obtain ⟨cs, hr, hvs⟩ := hm _ hv
    cases hvs with
    | cons _ c _ l' h1 ht =>
      cases ht
      exact ⟨c, by simpa using hr, h1⟩
  · rename_i r' hne hr'
    cases h
    obtain ⟨cs, hr, hvs⟩ := hm _ hr'
    have hl := hvs.length
    have hne1 : ¬ cs.toArray.size = 1 := by
      intro h1
      have : r'.length = 1 := by simpa [hl] using h1
      obtain ⟨v, rfl⟩ := List.length_eq_one_iff.1 this
      exact hne v rfl
    rw [dif_neg hne1] at hr
    exact ⟨_, hr, .tup _ _ hvs⟩
  · cases h

/-- What the marks leave behind. -/
theorem leaves_marks {C : Ctx} {S : Loc} {H : AH} {P : Program} {fn : Func} {tmps : Array Value} {R : Ending → World → Prop} (hR : ∀ w, HR C S H w → ∃ v, (results fn tmps).run P w = .ok v w ∧ R (.returned v) w) :
    ∀ (bs : List Nat) (w : World), HR C S H w → bs.Nodup → (∀ b ∈ bs, C.w0.heap.size ≤ b ∧ (∀ id, id < S.next → S.own id = true → S.blk id ≠ b) ∧ w.heap[b]? = some (.deferred (some []))) →
      LeavesInM (FF none) 0 P fn tmps R (bs.map fun b => { target := .collected b, args := #[] }) .returning w
  | [], w, hH, _, _ => hR w hH
  | b :: bs, w, hH, hn, hb => by
    obtain ⟨h1, h2, h3⟩ := hb b (List.mem_cons_self ..)
    refine ⟨by simp, .inl ⟨b, _, rfl, run_takeDeferred h3, ?_⟩⟩
    refine leaves_marks hR bs _ (hH.shut h1 h2 h3 _) (List.nodup_cons.1 hn).2 fun b' hb' => ?_
    obtain ⟨k1, k2, k3⟩ := hb b' (List.mem_cons_of_mem _ hb')
    refine ⟨k1, k2, ?_⟩
    rw [World.putObj_heap_other (fun e => (List.nodup_cons.1 hn).1 (by rw [← e]; exact hb'))]
    exact k3

/-- A call, from its body. -/
theorem ACalls_body {f : FuncId} {fn : Func} {c : Code} {args : List V} {Q : V → AH → Prop} (hf : P.funcs[f]? = some fn) (hb : fn.body = some c) (hn : (fn.name == "runtime.NumGoroutine") = false)
    (h : AW ⟨none, H.next⟩ P c (AEnd P fn Q) (Env.init fn.ntmps args) H) : ACalls P f args H Q := by
  refine .inl ⟨⟨fn, hf, hn, by simp [hb]⟩, fun C S cargs w hl hH hv => ?_⟩
  refine (callsIn_wide (n := 0)).1 (callsIn_of_wp_marks (F := FF none) (n := 0) hf hb trivial (wpIn_mono (h C S S _ w hl ⟨hH.next.symm, Loc.le.refl S⟩ hH (ER_init fn.ntmps hv) Dfr.nil) fun e a' w' hl => ?_))
  obtain ⟨S', ρ', H', hS, hH', hE', ⟨bs, hn1, hb1, hd1⟩, hq⟩ := hl
  have fin : (∃ r, ares1 P H' ρ' fn.results.toList = some r ∧ Q r H') → LeavesInM (FF none) 0 P fn a'.tmps (fun e w' => ∃ r cr S' H', e = .returned cr ∧ S.le S' ∧ VR S' r cr ∧ HR C S' H' w' ∧ Q r H') a'.defers .returning w' := by
    intro ⟨r, hr, hQ⟩
    rw [hd1]
    refine leaves_marks (fun w2 hH2 => ?_) bs w' hH' hn1 hb1
    obtain ⟨cr, hrun, hrv⟩ := sim_results hH2 hE' hr
    exact ⟨cr, hrun, r, cr, S', H', rfl, hS, hrv, hH2, hQ⟩
  cases e with
  | normal => exact fin hq
  | ret => exact fin hq
  | exit id => exact hq.elim
  | goto l => exact hq.elim
  | panic c => exact hq.elim
  | outgrown => exact hq.elim

/-- What a call leaves behind that nobody names is forgotten. -/
theorem ACalls.gcTo {f : FuncId} {args : List V} {Q : V → AH → Prop}
    (h : ACalls P f args H fun r H' => ∃ H'', H''.next ≤ H'.next ∧ H.next ≤ H''.next ∧ (∀ j, j < H''.next → H''.get j = H'.get j) ∧ H''.wf ∧ V.lt H''.next r = true ∧ Q r H'') : ACalls P f args H Q := by
  rcases h with h | h
  · refine .inl ⟨h.1, fun C S cargs w hl hH hv => (h.2 C S cargs w hl hH hv).mono fun e w' ⟨r, cr, S', H', h1, h2, h3, h4, H'', g1, g2, g3, g4, g5, g6⟩ => ?_⟩
    exact ⟨r, cr, S'.upto H''.next, H'', h1, h2.upto (by rw [← hH.next]; exact g2), h3.upto g5, h4.upto g1 g3 g4, g6⟩
  · refine .inr ⟨h.1, fun C S cargs w hl hH hv => ?_⟩
    obtain ⟨r, cr, S', H', w', h1, h2, h3, h4, H'', g1, g2, g3, g4, g5, g6⟩ := h.2 C S cargs w hl hH hv
    exact ⟨r, cr, S'.upto H''.next, H'', w', h1, h2.upto (by rw [← hH.next]; exact g2), h3.upto g5, h4.upto g1 g3 g4, g6⟩
theorem ACalls.wf {f : FuncId} {args : List V} {Q : V → AH → Prop} (h : H.wf → V.lts H.next args = true → ACalls P f args H Q) (hf : goFunc P f) : ACalls P f args H Q := by
  refine .inl ⟨hf, fun C S cargs w hl hH hv => ?_⟩
  rcases h hH.wf (by rw [hH.next]; exact hv.lt) with h | h
  · exact h.2 C S cargs w hl hH hv
  · obtain ⟨⟨f1, h1, _, h2⟩, _⟩ := h
    obtain ⟨f2, h3, _, h4⟩ := hf
    rw [h1] at h3; cases h3; rw [h2] at h4; cases h4
/-- A call that writes nothing, and yields nothing new, leaves the memory as it was. -/
theorem ACalls.pure {f : FuncId} {args : List V} {Q : V → Prop} (hf : goFunc P f) (h : ACalls P f args H fun r H' => Q r ∧ V.lt H.next r = true ∧ H.next ≤ H'.next ∧ ∀ j, j < H.next → H'.get j = H.get j) : ACalls P f args H fun r H' => Q r ∧ H' = H :=
  ACalls.wf (fun hw _ => ACalls.gcTo (h.mono fun r H' ⟨h1, h2, h3, h4⟩ => ⟨H, h3, Nat.le_refl _, fun j hj => (h4 j hj).symm, hw, h2, h1, rfl⟩)) hf
end
end Go.Abs

set_option linter.unusedVariables false
set_option linter.unusedSimpArgs false
set_option linter.unusedSectionVars false
namespace Go.Abs
open Go Go.RowKit
/-! Names of objects exchanged. -/
mutual
def V.ren (f : Nat → Nat) : V → V
  | .p (some (id, g, o)) => .p (some (f id, g, o))
  | .sl (some (id, g, o)) l c => .sl (some (f id, g, o)) l c
  | .m (some id) => .m (some (f id))
  | .fn g u v => .fn g (V.rens f u) (V.rens f v)
  | .ifc t v => .ifc t (V.ren f v)
  | .agg l => .agg (V.rens f l)
  | .tup l => .tup (V.rens f l)
  | .yl id => .yl (f id)
  | .b x => .b x
  | .i k n => .i k n
  | .s l => .s l
  | .p none => .p none
  | .sl none l c => .sl none l c
  | .m none => .m none
  | .nf => .nf
  | .nif => .nif
  | .un => .un
def V.rens (f : Nat → Nat) : List V → List V
  | [] => []
  | v :: l => V.ren f v :: V.rens f l
end
theorem V.rens_map (f : Nat → Nat) : ∀ l, V.rens f l = l.map (V.ren f)
  | [] => rfl
  | v :: l => by simp [V.rens, V.rens_map f l]
def Loc.ren (S : Loc) (f : Nat → Nat) : Loc := { next := S.next, blk := fun i => S.blk (f i), base := fun i => S.base (f i), gen := fun i => S.gen (f i), room := fun i => S.room (f i), own := fun i => S.own (f i), esz := fun i => S.esz (f i), loose := S.loose }
section
variable {S : Loc} {f : Nat → Nat} (hf : ∀ i, f (f i) = i) (hn : ∀ i, i < S.next → f i < S.next)
include hf hn
mutual
theorem VR.ren {v : V} {c : Value} (h : VR S v c) : VR (S.ren f) (v.ren f) c := by
  cases h with
  | un => exact .un _
  | b x => exact .b x
  | i k n => exact .i k n
  | s l c h => exact .s l c h
  | pnil => exact .pnil
  | p id g off a h1 h2 h3 =>
    refine .p (f id) g off a (hn id h1) ?_ ?_
    · simpa only [Loc.ren, hf] using h2
    · simpa only [Loc.ren, hf] using h3
  | slnil c => exact .slnil c
  | sl id g off len cap clip a h1 h2 hl h3 h4 h5 =>
    refine .sl (f id) g off len cap clip a (hn id h1) ?_ hl ?_ h4 ?_
    · simpa only [Loc.ren, hf] using h2
    · simpa only [Loc.ren, hf] using h3
    · simpa only [Loc.ren, hf] using h5
  | mnil => exact .mnil
  | m id r h1 h2 =>
    refine .m (f id) r (hn id h1) ?_
    simpa only [Loc.ren, hf] using h2
  | fn g a b a' b' h1 h2 => exact .fn g _ _ a' b' (VRs.ren h1) (VRs.ren h2)
  | nf => exact .nf
  | ifc t v c h => exact .ifc t _ c (VR.ren h)
  | nif => exact .nif
  | agg l l' h h2 => exact .agg _ l' (VRs.ren h) h2
  | tup l l' h => exact .tup _ l' (VRs.ren h)
  | yl id r h1 h2 =>
    refine .yl (f id) r (hn id h1) ?_
    simpa only [Loc.ren, hf] using h2
theorem VRs.ren {l : List V} {c : List Value} (h : VRs S l c) : VRs (S.ren f) (V.rens f l) c := by
  cases h with
  | nil => exact .nil
  | cons v c l l' h t => exact .cons _ c _ l' (VR.ren h) (VRs.ren t)
end
end
def Env.ren (f : Nat → Nat) (ρ : Env) : Env := ⟨ρ.n, ρ.l.map fun p => (p.1, p.2.ren f)⟩
theorem Env.get_ren (f : Nat → Nat) (ρ : Env) (t : Nat) : (ρ.ren f).get t = (ρ.get t).ren f := by
  obtain ⟨n, l⟩ := ρ
  show Env.look (l.map fun p => (p.1, p.2.ren f)) t = (Env.look l t).ren f
  induction l with
  | nil => rfl
  | cons p l ih =>
    obtain ⟨u, v⟩ := p
    simp only [List.map_cons, Env.look]
    split
    · rfl
    · exact ih
def O.ren (f : Nat → Nat) : O → O
  | .cells c g ro e => .cells (V.rens f c) g ro e
  | .map es c => .map (es.map fun e => (e.1.ren f, e.2.1.ren f, e.2.2)) c
  | .strIter s p => .strIter s p
  | .mapIter m a b c => .mapIter (m.map f) a b c
  | .loop tag st pe ρ ps asg body => .loop tag st pe (ρ.ren f) ps asg body
theorem OR.ren {S : Loc} {f : Nat → Nat} (hf : ∀ i, f (f i) = i) (hn : ∀ i, i < S.next → f i < S.next) {w : World} {id : Nat} {o : O} (h : OR S w id o) : OR (S.ren f) w (f id) (o.ren f) := by
  have e : ∀ (g : Nat → Nat), g (f (f id)) = g id := fun g => by rw [hf]
  cases o with
  | cells c g ro esz =>
    obtain ⟨h1, h2, h3, h4, h5⟩ := h
    refine ⟨by simpa only [Loc.ren, hf] using h1, by simpa only [Loc.ren, hf] using h2, fun j v hj => ?_, ?_, by simpa only [Loc.ren, hf] using h5⟩
    · rw [V.rens_map, List.getElem?_map] at hj
      obtain ⟨u, hu, rfl⟩ := Option.map_eq_some_iff.1 hj
      obtain ⟨cv, k1, k2, k3⟩ := h3 j u hu
      exact ⟨cv, by simpa only [Loc.ren, hf] using k1, k2.ren hf hn, k3⟩
    · simpa only [Loc.ren, hf, V.rens_map, List.length_map] using h4
  | map es clock =>
    obtain ⟨h1, h2, ces, h3, h4, h5, h6⟩ := h
    refine ⟨by simpa only [Loc.ren, hf] using h1, by simpa only [Loc.ren, hf] using h2, ces, by simpa only [Loc.ren, hf] using h3, ?_, ?_, ?_⟩
    · have := h4.ren hf hn
      rw [V.rens_map, List.map_map] at this
      simpa [List.map_map, Function.comp_def] using this
    · have := h5.ren hf hn
      rw [V.rens_map, List.map_map] at this
      simpa [List.map_map, Function.comp_def] using this
    · simpa [List.map_map, Function.comp_def] using h6
  | strIter s pos =>
    obtain ⟨h1, h2, h0, cs, h3, h4⟩ := h
    exact ⟨by simpa only [Loc.ren, hf] using h1, by simpa only [Loc.ren, hf] using h2, by simpa only [Loc.ren, hf] using h0, cs, h3, by simpa only [Loc.ren, hf] using h4⟩
  | mapIter m since seen stepped =>
    obtain ⟨h1, h2, h0, cm, h3, h4⟩ := h
    refine ⟨by simpa only [Loc.ren, hf] using h1, by simpa only [Loc.ren, hf] using h2, by simpa only [Loc.ren, hf] using h0, cm, ?_, by simpa only [Loc.ren, hf] using h4⟩
    have := h3.ren hf hn
    cases m <;> exact this
  | loop tag st pe ρ ps asg body =>
    obtain ⟨h1, h2, h0, r, h3, h4, h5, h6, h7, h8, h9, hr⟩ := h
    exact ⟨by simpa only [Loc.ren, hf] using h1, by simpa only [Loc.ren, hf] using h2, by simpa only [Loc.ren, hf] using h0, r, by simpa only [Loc.ren, hf] using h3, h4, h5, h6, h7, h8, h9, fun t => by rw [Env.get_ren]; exact (hr t).ren hf hn⟩
mutual
theorem V.ren_lt {n : Nat} {f : Nat → Nat} (hf : ∀ i, i < n → f i = i) : ∀ (v : V), V.lt n v = true → v.ren f = v
  | .p (some (id, g, o)), h => by simp only [V.ren]; rw [hf id (by simpa using h)]
  | .sl (some (id, g, o)) l c, h => by simp only [V.ren]; rw [hf id (by simpa using h)]
  | .m (some id), h => by simp only [V.ren]; rw [hf id (by simpa using h)]
  | .fn g u v, h => by
    simp only [V.lt_fn, Bool.and_eq_true] at h
    simp only [V.ren]; rw [V.rens_lt hf u h.1, V.rens_lt hf v h.2]
  | .ifc t v, h => by simp only [V.ren]; rw [V.ren_lt hf v (by simpa using h)]
  | .agg l, h => by simp only [V.ren]; rw [V.rens_lt hf l (by simpa using h)]
  | .tup l, h => by simp only [V.ren]; rw [V.rens_lt hf l (by simpa using h)]
  | .yl id, h => by simp only [V.ren]; rw [hf id (by simpa [V.lt] using h)]
  | .b x, _ => rfl
  | .i k n, _ => rfl
  | .s l, _ => rfl
  | .p none, _ => rfl
  | .sl none l c, _ => rfl
  | .m none, _ => rfl
  | .nf, _ => rfl
  | .nif, _ => rfl
  | .un, _ => rfl
theorem V.rens_lt {n : Nat} {f : Nat → Nat} (hf : ∀ i, i < n → f i = i) : ∀ (l : List V), V.lts n l = true → V.rens f l = l
  | [], _ => rfl
  | v :: l, h => by
    simp only [V.lts_cons, Bool.and_eq_true] at h
    simp only [V.rens]; rw [V.ren_lt hf v h.1, V.rens_lt hf l h.2]
end
theorem OR.renlow {S : Loc} {f : Nat → Nat} (hf : ∀ i, f (f i) = i) (hn : ∀ i, i < S.next → f i < S.next) {n : Nat} (hlow : ∀ i, i < n → f i = i) {w : World} {id : Nat} {o : O} (hid : id < n) (ho : O.lt n o) (h : OR S w id o) : OR (S.ren f) w id o := by
  have k := h.ren hf hn
  rw [hlow id hid] at k
  cases o with
  | cells c g ro esz =>
    simp only [O.ren, V.rens_lt hlow c ho] at k
    exact k
  | map es clock =>
    have e : (es.map fun e => (e.1.ren f, e.2.1.ren f, e.2.2)) = es := by
      have : es = es.map (fun e => e) := by simp
      conv => rhs; rw [this]
      apply List.map_congr_left
      intro e he
      rw [V.ren_lt hlow e.1 (V.lts_iff.1 ho.1 _ (List.mem_map.2 ⟨e, he, rfl⟩)), V.ren_lt hlow e.2.1 (V.lts_iff.1 ho.2 _ (List.mem_map.2 ⟨e, he, rfl⟩))]
    simp only [O.ren, e] at k
    exact k
  | strIter s pos => exact k
  | mapIter m a b c =>
    have e : m.map f = m := by
      cases m with
      | none => rfl
      | some i =>
        have : i < n := by simpa [O.lt] using ho
        simp [hlow i this]
    simp only [O.ren, e] at k
    exact k
  | loop tag st pe ρ ps asg body =>
    obtain ⟨h1, h2, h0, r, h3, h4, h5, h6, h7, h8, h9, hr⟩ := h
    have e := hlow id hid
    refine ⟨by simpa only [Loc.ren, e] using h1, by simpa only [Loc.ren, e] using h2, by simpa only [Loc.ren, e] using h0, r, by simpa only [Loc.ren, e] using h3, h4, h5, h6, h7, h8, h9, fun t => ?_⟩
    have := (hr t).ren (f := f) hf hn
    rw [V.ren_lt hlow _ (ho t)] at this
    exact this
/-- Two objects exchanged. -/
def swp (a b i : Nat) : Nat := match Nat.beq i a with
  | true => b
  | false => match Nat.beq i b with
    | true => a
    | false => i
theorem swp_eq (a b i : Nat) : swp a b i = if i = a then b else if i = b then a else i := by
  unfold swp
  cases h1 : Nat.beq i a with
  | true => rw [if_pos (Nat.eq_of_beq_eq_true h1)]
  | false =>
    rw [if_neg (Nat.ne_of_beq_eq_false h1)]
    cases h2 : Nat.beq i b with
    | true => rw [if_pos (Nat.eq_of_beq_eq_true h2)]
    | false => rw [if_neg (Nat.ne_of_beq_eq_false h2)]
theorem swp_swp (a b i : Nat) : swp a b (swp a b i) = i := by
  simp only [swp_eq]
  split
  · subst_vars
    split
    · assumption
    · simp
  · split
    · subst_vars; simp
    · rename_i h1 h2
      simp [h1, h2]
theorem Loc.le.ren {S S' : Loc} (h : S.le S') {f : Nat → Nat} (hlow : ∀ i, i < S.next → f i = i) : S.le (S'.ren f) where
  next := h.next
  gen id hi := by simp only [Loc.ren, hlow id hi]; exact h.gen id hi
  blk id hi := by simp only [Loc.ren, hlow id hi]; exact h.blk id hi
  base id hi := by simp only [Loc.ren, hlow id hi]; exact h.base id hi
  room id hi := by simp only [Loc.ren, hlow id hi]; exact h.room id hi
  own id hi := by simp only [Loc.ren, hlow id hi]; exact h.own id hi
  esz id hi := by simp only [Loc.ren, hlow id hi]; exact h.esz id hi
/-- New objects exchanged, what some hold forgotten. -/
theorem HR.renweak {C : Ctx} {S : Loc} {H H1 : AH} {w : World} {f : Nat → Nat} (hf : ∀ i, f (f i) = i) (hn : ∀ i, i < H.next → f i < H.next) {n : Nat} (hlow : ∀ i, i < n → f i = i) (h : HR C S H w) (h1 : H1.next = H.next)
    (hg : ∀ j, j < H.next → (j < n ∧ H1.get j = H.get j ∧ ∀ o, H.get j = Option.some o → O.lt n o) ∨ ∃ o, H.get (f j) = Option.some o ∧ (H1.get j = Option.some (o.ren f) ∨ ∃ c g ro e, o.ren f = .cells c g ro e ∧ H1.get j = Option.some (.cells [] g ro e))) : HR C (S.ren f) H1 w where
  next := h1.trans h.next
  obj id o ho := by
    have hlt : id < H.next := by rw [← h1]; exact AH.get_lt ho
    have hn' : ∀ i, i < S.next → f i < S.next := by rw [← h.next]; exact hn
    rcases hg id hlt with ⟨k1, k2, k3⟩ | ⟨u, hu, k⟩
    · rw [k2] at ho
      exact (h.obj id o ho).renlow hf hn' hlow k1 (k3 o ho)
    · have q := (h.obj (f id) u hu).ren (f := f) hf hn'
      rw [hf] at q
      rcases k with k | ⟨c, g, ro, esz, e1, e2⟩
      · rw [k] at ho; cases ho; exact q
      · rw [e2] at ho; cases ho
        rw [e1] at q
        obtain ⟨h1, h2, h3, h4, h5⟩ := q
        refine ⟨h1, h2, fun j v hj => by simp at hj, fun hr => ?_, h5⟩
        obtain ⟨cs, el, fr, q1, q2, q3, q4⟩ := h4 hr
        exact ⟨cs, el, fr, q1, q2, by simp; omega, q4⟩
  some id hi := by
    have hlt : id < H.next := by rw [h.next]; exact hi
    rcases hg id hlt with ⟨k1, k2, k3⟩ | ⟨u, hu, k⟩
    · rw [k2]; exact h.some id hi
    · rcases k with k | ⟨c, g, ro, esz, e1, e2⟩
      · rw [k]; rfl
      · rw [e2]; rfl
  lt id hi ho := h.lt (f id) (by rw [← h.next]; exact hn id (by rw [h.next]; exact hi)) ho
  foreign id hi ho := by
    have hlt : id < H.next := by rw [h.next]; exact hi
    have hfi := hn id hlt
    refine (h.foreign (f id) (by rw [← h.next]; exact hfi) ho).imp (fun k => ⟨k.1, fun id' hi' ho' => k.2 (f id') (by rw [← h.next]; exact hn id' (by rw [h.next]; exact hi')) ho'⟩) fun ⟨g, esz, k⟩ => ?_
    rcases hg id hlt with ⟨k1, k2, k3⟩ | ⟨u, hu, q⟩
    · rw [hlow id k1] at k
      exact ⟨g, esz, k2.trans k⟩
    · rw [k] at hu; cases hu
      rcases q with q | ⟨c, g', ro, esz', e1, e2⟩
      · exact ⟨g, esz, q⟩
      · simp only [O.ren, V.rens] at e1
        cases e1
        exact ⟨_, _, e2⟩
  sep id id' hi hi' ho ho' hb := by
    have := h.sep (f id) (f id') (by rw [← h.next]; exact hn id (by rw [h.next]; exact hi)) (by rw [← h.next]; exact hn id' (by rw [h.next]; exact hi')) ho ho' hb
    rw [← hf id, this, hf]
  below := h.below
  loose := h.loose
end Go.Abs

set_option linter.unusedVariables false
set_option linter.unusedSimpArgs false
namespace Go.Abs
open Go Go.RowKit

/-- Memory that has all that another one has. -/
structure AH.ext (H H' : AH) : Prop where
  next : H.next ≤ H'.next
  get : ∀ id o, H.get id = some o → H'.get id = some o
theorem AH.ext.refl (H : AH) : H.ext H := ⟨Nat.le_refl _, fun _ _ h => h⟩
theorem AH.ext.trans {H H' H'' : AH} (h : H.ext H') (k : H'.ext H'') : H.ext H'' := ⟨Nat.le_trans h.next k.next, fun id o ho => k.get id o (h.get id o ho)⟩
theorem AH.ext.new (H : AH) (o : O) : H.ext (H.new o) := ⟨Nat.le_succ _, fun id o' h => AH.get_new_old h⟩

/-- A value's cells are of a type, its slices' too. -/
def TV (P : Program) (H : AH) : Nat → TypeId → List V → Prop
  | 0, _, _ => False
  | n + 1, t, l => match P.underlying t with
    | some .bool => ∃ b, l = [.b b]
    | some (.int k) => ∃ x, l = [.i k x] ∧ k.min ≤ x ∧ x ≤ k.max
    | some .string => ∃ s, l = [.s s] ∧ s.length ≤ 140737488351232
    | some (.slice e) => l = [.sl none 0 false] ∨ ∃ id len c, l = [.sl (some (id, 0, 0)) len false] ∧ H.get id = some (.cells c 0 true (P.cellsOf e)) ∧ c.length = len * P.cellsOf e ∧ len * P.bytesOf e ≤ 140737488351232 ∧
        ∀ i, i < len → TV P H n e ((c.drop (i * P.cellsOf e)).take (P.cellsOf e))
    | some (.struct fs) => l.length = P.cellsOf t ∧ ∀ f ∈ fs.toList, TV P H n f.type ((l.drop f.offset).take (P.cellsOf f.type))
    | some (.array m e) => l.length = P.cellsOf t ∧ ∀ i, i < m → TV P H n e ((l.drop (i * P.cellsOf e)).take (P.cellsOf e))
    | _ => False
theorem TV.ext {P : Program} {H H' : AH} (hx : H.ext H') : ∀ {n : Nat} {t : TypeId} {l : List V}, TV P H n t l → TV P H' n t l
  | 0, _, _, h => h
  | n + 1, t, l, h => by
    unfold TV at h ⊢
    cases hu : P.underlying t with
    | none => simp [hu] at h
    | some d =>
      cases d <;> simp only [hu] at h ⊢
      case bool => exact h
      case int => exact h
      case string => exact h
      case slice e =>
        rcases h with h | ⟨id, len, c, h1, h2, h3, h4, h5⟩
        · exact .inl h
        · exact .inr ⟨id, len, c, h1, hx.get _ _ h2, h3, h4, fun i hi => TV.ext hx (h5 i hi)⟩
      case struct => exact ⟨h.1, fun f hf => TV.ext hx (h.2 f hf)⟩
      case array => exact ⟨h.1, fun i hi => TV.ext hx (h.2 i hi)⟩

def tileB (P : Program) : Nat → List Field → Option Nat
  | off, [] => some off
  | off, f :: fs => if f.offset = off then tileB P (off + P.cellsOf f.type) fs else none
/-- A type of plain data: its cells lie side by side. -/
def plainT (P : Program) : Nat → TypeId → Bool
  | 0, _ => false
  | n + 1, t => match P.underlying t with
    | some .bool | some (.int _) | some .string => true
    | some (.slice e) => decide (0 < P.cellsOf e) && plainT P n e
    | some (.struct fs) => tileB P 0 fs.toList == some (P.cellsOf t) && fs.toList.all fun f => plainT P n f.type
    | _ => false

section
variable {Hh : Type} {enc : TypeId × Value → Hh} {P : Program} {W : World}

abbrev Opened (P : Program) (W : World) (S : Loc) (H : AH) (cs : List Value) (G : AH → List V → Prop) : Prop :=
  ∃ S' H' l, S.le S' ∧ H.ext H' ∧ HR ⟨W, Loc.none⟩ S' H' W ∧ VRs S' l cs ∧ G H' l

/-- The locator with a foreign object more. -/
def Loc.addF (S : Loc) (blk base esz : Nat) : Loc :=
  { next := S.next + 1, gen := fun id => if id = S.next then 0 else S.gen id, blk := fun id => if id = S.next then blk else S.blk id, base := fun id => if id = S.next then base else S.base id,
    own := fun id => if id = S.next then false else S.own id, esz := fun id => if id = S.next then esz else S.esz id, room := fun id => if id = S.next then 0 else S.room id, loose := S.loose }
theorem Loc.le_addF (S : Loc) (blk base esz : Nat) : S.le (S.addF blk base esz) where
  next := Nat.le_succ _
  gen id h := by simp [Loc.addF, Nat.ne_of_lt h]
  blk id h _ := by simp [Loc.addF, Nat.ne_of_lt h]
  base id h _ := by simp [Loc.addF, Nat.ne_of_lt h]
  room id h _ := by simp [Loc.addF, Nat.ne_of_lt h]
  own id h := by simp [Loc.addF, Nat.ne_of_lt h]
  esz id h := by simp [Loc.addF, Nat.ne_of_lt h]

def AH.none : AH := ⟨0, .e⟩
theorem mine_none {W : World} {k : Nat} : ¬ (Ctx.mk W Loc.none).mine k := fun ⟨id, h, _⟩ => absurd h (Nat.not_lt_zero _)
/-- Where nothing was one's own, nothing of the beginning is. -/
theorem no_own {S : Loc} {H : AH} (h : HR ⟨W, Loc.none⟩ S H W) {id : Nat} (hi : id < S.next) (ho : S.own id = true) : False := by
  have h1 := (h.lt id hi ho).1
  rcases (h.lt id hi ho).2 with h2 | h2
  · have : W.heap.size ≤ S.blk id := h2
    omega
  · exact mine_none h2
theorem newF_HR {S : Loc} {H : AH} (h : HR ⟨W, Loc.none⟩ S H W) (c : List V) (blk base esz : Nat) (hb : blk < W.heap.size ∨ c = [])
    (hc : ∀ (j : Nat) (v : V), c[j]? = some v → ∃ cv, W.cell? ⟨blk, base + j, none⟩ = some cv ∧ VR S v cv ∧ cv.oneCell' = true) :
    HR ⟨W, Loc.none⟩ (S.addF blk base esz) (H.new (.cells c 0 true esz)) W where
  next := by simp [Loc.addF, h.next]
  obj id o' ho' := by
    rw [AH.get_new] at ho'
    split at ho'
    · rename_i e
      cases ho'
      rw [e, h.next]
      refine ⟨by simp [Loc.addF], by simp [Loc.addF], fun j v hj => ?_, fun h => by simp [Loc.addF] at h, fun h => by cases h⟩
      obtain ⟨cv, h1, h2, h3⟩ := hc j v hj
      exact ⟨cv, by simpa [Loc.addF] using h1, h2.mono (Loc.le_addF ..), h3⟩
    · rename_i e
      have hlt : id < S.next := by rw [← h.next]; exact AH.get_lt ho'
      exact (h.obj id o' ho').block (Loc.le_addF ..) hlt (by simp [Loc.addF, Nat.ne_of_lt hlt]) rfl
  some id hid := by
    rw [AH.get_new]
    split
    · rfl
    · rename_i e
      exact h.some id (by have : id < S.next + 1 := hid; rw [h.next] at e; omega)
  lt id hid hown := by
    have hid' : id < S.next + 1 := hid
    simp only [Loc.addF] at hown ⊢
    by_cases e : id = S.next
    · subst e; simp at hown
    · simp only [e, if_false] at hown ⊢
      exact h.lt id (by omega) hown
  foreign id hid hown := by
    have hid' : id < S.next + 1 := hid
    simp only [Loc.addF] at hown ⊢
    by_cases e : id = S.next
    · subst e
      simp only [if_true]
      refine hb.imp (fun hb => ⟨hb, fun id' hi' ho' => ?_⟩) fun hc => ⟨0, esz, ?_⟩
      · by_cases e' : id' = S.next
        · simp [e'] at ho'
        · simp only [e', if_false] at ho'
          have hi2 : id' < S.next + 1 := hi'
          exact (no_own h (by omega) ho').elim
      · rw [AH.get_new, if_pos (by rw [h.next]), hc]
    · simp only [e, if_false] at hown ⊢
      rw [AH.get_new, if_neg (by rw [h.next]; exact e)]
      refine (h.foreign id (by omega) hown).imp (fun hb => ⟨hb.1, fun id' hi' ho' => ?_⟩) fun h => h
      by_cases e' : id' = S.next
      · simp [e'] at ho'
      · simp only [e', if_false] at ho'
        have hi2 : id' < S.next + 1 := hi'
        exact (no_own h (by omega) ho').elim
  sep id id' hi hi' ho ho' hb := by
    have h1 : id < S.next + 1 := hi
    have h2 : id' < S.next + 1 := hi'
    simp only [Loc.addF] at ho ho' hb
    by_cases e : id = S.next
    · simp [e] at ho
    · by_cases e' : id' = S.next
      · simp [e'] at ho'
      · simp only [e, e', if_false] at ho ho' hb
        exact h.sep id id' (by omega) (by omega) ho ho' hb
  below := h.below
  loose := h.loose

theorem mapM_range {α : Type} (f : Nat → Option α) : ∀ (n k : Nat) (xs : List α), (List.range' k n).mapM f = some xs → xs.length = n ∧ ∀ i, i < n → ∃ x, xs[i]? = some x ∧ f (k + i) = some x
  | 0, k, xs, h => by simp at h; subst h; simp
  | n + 1, k, xs, h => by
    rw [List.range'_succ] at h
    simp only [List.mapM_cons, Option.bind_eq_bind, Option.bind_eq_some_iff, Option.pure_def, Option.some.injEq] at h
    obtain ⟨x, hx, r, hr, rfl⟩ := h
    obtain ⟨hl, hi⟩ := mapM_range f n (k + 1) r hr
    refine ⟨by simp [hl], fun i hin => ?_⟩
    cases i with
    | zero => exact ⟨x, rfl, hx⟩
    | succ i =>
      obtain ⟨y, hy, hfy⟩ := hi i (by omega)
      exact ⟨y, by simpa using hy, by rw [← hfy]; congr 1; omega⟩

/-- What an address's cells are. -/
theorem cells?_spec {a : Addr} {n : Nat} {cs : List Value} (h : W.cells? 0 a n = some cs) : cs.length = n ∧ ∀ i, i < n → ∃ c, cs[i]? = some c ∧ W.cell? (a.add i) = some c := by
  unfold World.cells? at h
  rw [if_pos (Nat.zero_le _), List.range_eq_range'] at h
  obtain ⟨hl, hi⟩ := mapM_range _ n 0 cs h
  exact ⟨hl, fun i hin => by simpa using hi i hin⟩
theorem cell?_spot {a : Addr} {c : Value} (h : W.cell? a = some c) : a.spot = none ∧ a.block < W.heap.size := by
  refine ⟨?_, World.block_lt_of_cell? W a h⟩
  unfold World.cell? at h
  split at h
  · split at h
    · cases h
    · rename_i hs; simpa using hs
  · cases h
theorem lit_wf {k : IntKind} {n : Int} (h : (Lit.int k n).wf = true) : k.min ≤ n ∧ n ≤ k.max := by
  simpa [Lit.wf] using h

abbrev OpenedG (P : Program) (W : World) (S : Loc) (H : AH) (cs : List Value) (G : AH → List V → Prop) : Prop :=
  ∃ S' H' l, S.le S' ∧ H.ext H' ∧ HR ⟨W, Loc.none⟩ S' H' W ∧ VRs S' l cs ∧ (∀ c ∈ cs, c.oneCell' = true) ∧ G H' l

theorem tileB_le : ∀ (fs : List Field) (o n : Nat), tileB P o fs = some n → o ≤ n
  | [], o, n, h => by simp [tileB] at h; omega
  | f :: fs, o, n, h => by
    simp only [tileB] at h
    split at h
    · have := tileB_le fs _ _ h; omega
    · cases h
/-- The fields of a struct, one behind the other. -/
theorem open_fields {n fuel : Nat} {sp : Nat → Bool} {held : Bool} (ih : ∀ t, plainT P n t = true → ∀ cs d ps, DataW.trod enc P W 0 sp held fuel t cs = some (d, ps) → (∀ x ∈ d.weights P t, x ≤ reachBytes) → (∀ b, sp b = true) → ∀ S H, HR ⟨W, Loc.none⟩ S H W → cs.length = P.cellsOf t → OpenedG P W S H cs fun H' l => TV P H' n t l) :
    ∀ (fs : List Field) (off : Nat) (cs : List Value) (xs : List (DataW Hh × List MemPlace)) (S : Loc) (H : AH), tileB P off fs = some cs.length → (∀ f ∈ fs, plainT P n f.type = true) → off ≤ cs.length →
      (fs.mapM fun f => DataW.trod enc P W 0 sp held fuel f.type ((cs.drop f.offset).take (P.cellsOf f.type))) = some xs → (∀ x ∈ DataW.weightsEach P (fs.map (·.type)) (xs.map (·.1)), x ≤ reachBytes) → (∀ b, sp b = true) → HR ⟨W, Loc.none⟩ S H W →
      OpenedG P W S H (cs.drop off) fun H' l => ∀ f ∈ fs, off ≤ f.offset ∧ TV P H' n f.type ((l.drop (f.offset - off)).take (P.cellsOf f.type))
  | [], off, cs, xs, S, H, ht, hp, ho, hm, hw, hsp, hH => by
    simp only [tileB, Option.some.injEq] at ht
    subst ht
    exact ⟨S, H, [], Loc.le.refl S, AH.ext.refl H, hH, by simpa using VRs.nil, by simp, by simp⟩
  | f :: fs, off, cs, xs, S, H, ht, hp, ho, hm, hw, hsp, hH => by
    simp only [tileB] at ht
    split at ht
    · rename_i hoff
      simp only [List.mapM_cons, Option.bind_eq_bind, Option.bind_eq_some_iff, Option.pure_def, Option.some.injEq] at hm
      obtain ⟨⟨d, ps⟩, hd, r, hr, rfl⟩ := hm
      have hle : off + P.cellsOf f.type ≤ cs.length := by
        exact tileB_le fs _ _ ht
      simp only [List.map_cons, DataW.weightsEach, List.mem_append] at hw
      obtain ⟨S1, H1, l1, hS1, hx1, hH1, hv1, ho1, hT1⟩ := ih f.type (hp f (List.mem_cons_self ..)) _ d ps hd (fun x hx => hw x (.inl hx)) hsp S H hH (by simp; omega)
      obtain ⟨S2, H2, l2, hS2, hx2, hH2, hv2, ho2, hT2⟩ := open_fields ih fs (off + P.cellsOf f.type) cs r S1 H1 ht (fun g hg => hp g (List.mem_cons_of_mem _ hg)) hle hr (fun x hx => hw x (.inr hx)) hsp hH1
      have hl1 : l1.length = P.cellsOf f.type := by
        rw [hv1.length]; simp; omega
      have hsplit : cs.drop off = (cs.drop f.offset).take (P.cellsOf f.type) ++ cs.drop (off + P.cellsOf f.type) := by
        rw [hoff, ← List.drop_drop, List.take_append_drop]
      refine ⟨S2, H2, l1 ++ l2, hS1.trans hS2, hx1.trans hx2, hH2, ?_, ?_, ?_⟩
      · rw [hsplit]; exact (hv1.mono hS2).append hv2
      · rw [hsplit]; intro c hc; rcases List.mem_append.1 hc with h | h
        · exact ho1 c h
        · exact ho2 c h
      · intro g hg
        rcases List.mem_cons.1 hg with rfl | hg
        · refine ⟨by omega, ?_⟩
          rw [hoff, Nat.sub_self, List.drop_zero, List.take_append_of_le_length (by omega), List.take_of_length_le (by omega)]
          exact hT1.ext hx2
        · obtain ⟨q1, q2⟩ := hT2 g hg
          refine ⟨by omega, ?_⟩
          rw [List.drop_append, List.drop_eq_nil_of_le (by omega), List.nil_append, hl1, Nat.sub_sub]
          exact q2
    · cases ht

/-- Elements, one behind the other. -/
theorem open_elems {n fuel e sz : Nat} {sp : Nat → Bool} {held : Bool} (hsz : P.cellsOf e = sz) (rd : Nat → Option (List Value)) (hrd : ∀ i cs, rd i = some cs → cs.length = sz)
    (ih : ∀ cs d ps, DataW.trod enc P W 0 sp held fuel e cs = some (d, ps) → (∀ x ∈ d.weights P e, x ≤ reachBytes) → ∀ S H, HR ⟨W, Loc.none⟩ S H W → cs.length = P.cellsOf e → OpenedG P W S H cs fun H' l => TV P H' n e l) :
    ∀ (m k : Nat) (xs : List (DataW Hh × List MemPlace)) (S : Loc) (H : AH), ((List.range' k m).mapM fun i => (rd i).bind (DataW.trod enc P W 0 sp held fuel e)) = some xs → (∀ x ∈ DataW.weightsAll P e (xs.map (·.1)), x ≤ reachBytes) → HR ⟨W, Loc.none⟩ S H W →
      ∃ css : List (List Value), css.length = m ∧ (∀ i, i < m → rd (k + i) = css[i]?) ∧ OpenedG P W S H css.flatten fun H' l => l.length = m * sz ∧ ∀ i, i < m → TV P H' n e ((l.drop (i * sz)).take sz)
  | 0, k, xs, S, H, hm, hw, hH => ⟨[], rfl, by simp, S, H, [], Loc.le.refl S, AH.ext.refl H, hH, .nil, by simp, by simp⟩
  | m + 1, k, xs, S, H, hm, hw, hH => by
    rw [List.range'_succ] at hm
    simp only [List.mapM_cons, Option.bind_eq_bind, Option.bind_eq_some_iff, Option.pure_def, Option.some.injEq] at hm
    obtain ⟨⟨d, ps⟩, ⟨cs, hcs, hd⟩, r, hr, rfl⟩ := hm
    simp only [List.map_cons, DataW.weightsAll, List.mem_append] at hw
    have hl := hrd k cs hcs
    obtain ⟨S1, H1, l1, hS1, hx1, hH1, hv1, ho1, hT1⟩ := ih cs d ps hd (fun x hx => hw x (.inl hx)) S H hH (by omega)
    obtain ⟨css, hcl, hci, S2, H2, l2, hS2, hx2, hH2, hv2, ho2, hl2, hT2⟩ := open_elems hsz rd hrd ih m (k + 1) r S1 H1 hr (fun x hx => hw x (.inr hx)) hH1
    have hl1 : l1.length = sz := by rw [hv1.length]; exact hl
    refine ⟨cs :: css, by simp [hcl], fun i hi => ?_, S2, H2, l1 ++ l2, hS1.trans hS2, hx1.trans hx2, hH2, ?_, ?_, ?_, ?_⟩
    · cases i with
      | zero => simpa using hcs
      | succ i =>
        have := hci i (by omega)
        rw [show k + (i + 1) = k + 1 + i by omega, this]; simp
    · simpa using (hv1.mono hS2).append hv2
    · intro c hc
      simp only [List.flatten_cons, List.mem_append] at hc
      rcases hc with h | h
      · exact ho1 c h
      · exact ho2 c h
    · rw [List.length_append, hl1, hl2, Nat.succ_mul, Nat.add_comm]
    · intro i hi
      cases i with
      | zero =>
        rw [Nat.zero_mul, List.drop_zero, List.take_append_of_le_length (by omega), List.take_of_length_le (by omega)]
        exact hT1.ext hx2
      | succ i =>
        rw [Nat.succ_mul, List.drop_append, List.drop_eq_nil_of_le (by omega), List.nil_append, hl1, Nat.add_sub_cancel]
        exact hT2 i (by omega)

section
variable {sp : Nat → Bool} {held : Bool} {fuel : Nat} {t : TypeId} {cs : List Value} {d : DataW Hh} {ps : List MemPlace}
theorem trod_bool (hu : P.underlying t = some .bool) (h : DataW.trod enc P W 0 sp held (fuel + 1) t cs = some (d, ps)) : ∃ b, cs = [.bool b] := by
  unfold DataW.trod at h
  simp only [hu] at h
  split at h <;> simp_all
theorem trod_int {k : IntKind} (hu : P.underlying t = some (.int k)) (h : DataW.trod enc P W 0 sp held (fuel + 1) t cs = some (d, ps)) : ∃ x, cs = [.int k x] ∧ k.min ≤ x ∧ x ≤ k.max := by
  unfold DataW.trod at h
  simp only [hu] at h
  split at h <;> simp_all
  rename_i k' n _ _
  exact lit_wf h.1.2
theorem trod_string (hu : P.underlying t = some .string) (h : DataW.trod enc P W 0 sp held (fuel + 1) t cs = some (d, ps)) : ∃ c, cs = [.string c] ∧ d = .lit (.string c.data.toList) := by
  unfold DataW.trod at h
  simp only [hu] at h
  split at h <;> simp_all
theorem trod_struct {fs : Array Field} (hu : P.underlying t = some (.struct fs)) (h : DataW.trod enc P W 0 sp held (fuel + 1) t cs = some (d, ps)) :
    cs.length = P.cellsOf t ∧ ∃ xs, (fs.toList.mapM fun f => DataW.trod enc P W 0 sp held fuel f.type ((cs.drop f.offset).take (P.cellsOf f.type))) = some xs ∧ d = .agg (xs.map (·.1)) := by
  unfold DataW.trod at h
  simp only [hu] at h
  split at h <;> simp_all
  obtain ⟨xs, h1, h2, h3⟩ := h
  exact ⟨xs, h1, h2.symm⟩
theorem trod_array {n : Nat} {e : TypeId} (hu : P.underlying t = some (.array n e)) (h : DataW.trod enc P W 0 sp held (fuel + 1) t cs = some (d, ps)) :
    cs.length = P.cellsOf t ∧ ∃ xs, ((List.range n).mapM fun i => DataW.trod enc P W 0 sp held fuel e ((cs.drop (i * P.cellsOf e)).take (P.cellsOf e))) = some xs ∧ d = .agg (xs.map (·.1)) := by
  unfold DataW.trod at h
  simp only [hu] at h
  split at h <;> simp_all
  obtain ⟨xs, h1, h2, h3⟩ := h
  exact ⟨xs, h1, h2.symm⟩
theorem trod_slice {e : TypeId} (hsp : ∀ b, sp b = true) (hu : P.underlying t = some (.slice e)) (h : DataW.trod enc P W 0 sp held (fuel + 1) t cs = some (d, ps)) :
    cs = [.slice none 0 0] ∨ ∃ a len cap, cs = [.slice (some a) len cap] ∧ len ≤ cap ∧ ∃ xs rest,
      ((List.range len).mapM fun i => (W.cells? 0 (a.add (i * P.cellsOf e)) (P.cellsOf e)).bind (DataW.trod enc P W 0 sp held fuel e)) = some xs ∧
      ((List.range (cap - len)).mapM fun j => (W.cells? 0 (a.add ((len + j) * P.cellsOf e)) (P.cellsOf e)).bind (DataW.trod enc P W 0 sp held fuel e)) = some rest ∧ d = .slice (xs.map (·.1)) (rest.map (·.1)) := by
  unfold DataW.trod at h
  simp only [hu] at h
  split at h <;> simp_all
  obtain ⟨hb, h⟩ := h
  simp only [Option.bind_eq_some_iff, Option.map_eq_some_iff, Prod.mk.injEq] at h
  obtain ⟨xs, h2, rest, h3, h4, h5⟩ := h
  exact ⟨_, _, _, ⟨rfl, rfl, rfl⟩, hb.1, xs, h2, rest, h3, h4.symm⟩
end

theorem open_trod {sp : Nat → Bool} {held : Bool} (hsp : ∀ b, sp b = true) : ∀ (n fuel : Nat) (t : TypeId), plainT P n t = true → ∀ cs (d : DataW Hh) ps, DataW.trod enc P W 0 sp held fuel t cs = some (d, ps) → (∀ x ∈ d.weights P t, x ≤ reachBytes) →
    ∀ S H, HR ⟨W, Loc.none⟩ S H W → cs.length = P.cellsOf t → OpenedG P W S H cs fun H' l => TV P H' n t l
  | 0, _, t, hp, _, _, _, _, _, _, _, _, _ => by simp [plainT] at hp
  | n + 1, 0, t, hp, cs, d, ps, h, _, _, _, _, _ => by simp [DataW.trod] at h
  | n + 1, fuel + 1, t, hp, cs, d, ps, h, hw, S, H, hH, hcl => by
    have hreach : reachBytes = 140737488351232 := by decide
    unfold plainT at hp
    split at hp
    · rename_i hu
      obtain ⟨b, rfl⟩ := trod_bool hu h
      exact ⟨S, H, [.b b], Loc.le.refl S, AH.ext.refl H, hH, .cons _ _ _ _ (.b b) .nil, by simp [Value.oneCell'], by simp [TV, hu]⟩
    · rename_i k hu
      obtain ⟨x, rfl, h1, h2⟩ := trod_int hu h
      exact ⟨S, H, [.i k x], Loc.le.refl S, AH.ext.refl H, hH, .cons _ _ _ _ (.i k x) .nil, by simp [Value.oneCell'], by simp [TV, hu, h1, h2]⟩
    · rename_i hu
      obtain ⟨c, rfl, rfl⟩ := trod_string hu h
      have := hw c.data.toList.length (by simp [DataW.weights])
      refine ⟨S, H, [.s c.data.toList], Loc.le.refl S, AH.ext.refl H, hH, .cons _ _ _ _ (.s _ c rfl) .nil, by simp [Value.oneCell'], ?_⟩
      simp only [TV, hu]
      exact ⟨_, rfl, by omega⟩
    · rename_i e hu
      simp only [Bool.and_eq_true, decide_eq_true_eq] at hp
      rcases trod_slice hsp hu h with rfl | ⟨a, len, cap, rfl, hlc, xs, rest, hxs, hrest, rfl⟩
      · exact ⟨S, H, [.sl none 0 false], Loc.le.refl S, AH.ext.refl H, hH, .cons _ _ _ _ (.slnil _) .nil, by simp [Value.oneCell'], by simp [TV, hu]⟩
      · simp only [DataW.weights, hu, List.mem_cons, List.mem_append] at hw
        rw [List.range_eq_range'] at hxs
        obtain ⟨css, hcl2, hci, S1, H1, l, hS1, hx1, hH1, hv1, ho1, hl1, hT1⟩ := open_elems (n := n) (fuel := fuel) rfl (fun i => W.cells? 0 (a.add (i * P.cellsOf e)) (P.cellsOf e)) (fun i cs h => (cells?_spec h).1)
          (fun cs d ps h hw S H hH hl => open_trod hsp n fuel e hp.2 cs d ps h hw S H hH hl) len 0 xs S H hxs (fun x hx => hw x (.inr (.inl hx))) hH
        have hlx : xs.length = len := by
          have := (mapM_range _ len 0 xs hxs).1; exact this
        have hlen : len * P.bytesOf e ≤ reachBytes := by
          refine Nat.le_trans (Nat.mul_le_mul_right _ ?_) (hw _ (.inl rfl))
          simp [hlx]
        -- where the first cell stands
        have hfirst : cap = 0 ∨ (a.spot = none ∧ a.block < W.heap.size) := by
          by_cases h0 : cap = 0
          · exact .inl h0
          · refine .inr ?_
            have hone : ∃ cs, W.cells? 0 a (P.cellsOf e) = some cs := by
              by_cases hl0 : len = 0
              · subst hl0
                rw [List.range_eq_range'] at hrest
                obtain ⟨y, _, hy⟩ := (mapM_range _ _ 0 rest hrest).2 0 (by omega)
                simp only [Nat.add_zero, Nat.zero_mul, Addr.add, if_true, Option.bind_eq_some_iff] at hy
                exact ⟨_, hy.choose_spec.1⟩
              · obtain ⟨y, _, hy⟩ := (mapM_range _ _ 0 xs hxs).2 0 (by omega)
                simp only [Nat.add_zero, Nat.zero_mul, Addr.add, if_true, Option.bind_eq_some_iff] at hy
                exact ⟨_, hy.choose_spec.1⟩
            obtain ⟨cs, hcs⟩ := hone
            obtain ⟨c, _, hc⟩ := (cells?_spec hcs).2 0 hp.1
            simp only [Addr.add, if_true] at hc
            exact cell?_spot hc
        have hfl : css.flatten.length = len * P.cellsOf e := by rw [← hv1.length]; exact hl1
        -- the cells of the whole row
        have hcells : ∀ (j : Nat) (c : Value), css.flatten[j]? = some c → W.cell? ⟨a.block, a.off + j, none⟩ = some c := by
          intro j c hj
          have hjl : j < len * P.cellsOf e := by
            have := (List.getElem?_eq_some_iff.1 hj).1; omega
          have hlen0 : 0 < len := by
            rcases Nat.eq_zero_or_pos len with h0 | h0
            · rw [h0, Nat.zero_mul] at hjl; omega
            · exact h0
          obtain ⟨hspot, _⟩ := hfirst.resolve_left (by omega)
          have hq : j / P.cellsOf e < len := Nat.div_lt_of_lt_mul (by rw [Nat.mul_comm]; exact hjl)
          have hr : j % P.cellsOf e < P.cellsOf e := Nat.mod_lt _ hp.1
          have hd : j = (j / P.cellsOf e) * P.cellsOf e + j % P.cellsOf e := by rw [Nat.mul_comm]; exact (Nat.div_add_mod ..).symm
          obtain ⟨cs, hcs⟩ : ∃ cs, css[j / P.cellsOf e]? = some cs := ⟨_, List.getElem?_eq_getElem (by omega)⟩
          have hrd := hci (j / P.cellsOf e) hq
          rw [hcs, Nat.zero_add] at hrd
          obtain ⟨hcsl, hcc⟩ := cells?_spec hrd
          obtain ⟨c', hc', hw'⟩ := hcc (j % P.cellsOf e) hr
          have hall : ∀ x ∈ css, x.length = P.cellsOf e := by
            intro x hx
            obtain ⟨i, hi⟩ := List.getElem?_of_mem hx
            have hil : i < css.length := (List.getElem?_eq_some_iff.1 hi).1
            have := hci i (by omega)
            rw [hi] at this
            exact (cells?_spec this).1
          have hflat : css.flatten[j]? = some c' := by
            have key : ∀ (css : List (List Value)) (q r : Nat) (cs : List Value), (∀ x ∈ css, x.length = P.cellsOf e) → css[q]? = some cs → r < P.cellsOf e → css.flatten[q * P.cellsOf e + r]? = cs[r]? := by
              intro css
              induction css with
              | nil => intro q r cs _ h; simp at h
              | cons x css ih =>
                intro q r cs hx h hr
                have hxl := hx x (List.mem_cons_self ..)
                cases q with
                | zero =>
                  simp at h; subst h
                  rw [List.flatten_cons, List.getElem?_append_left (by omega)]; simp
                | succ q =>
                  rw [List.flatten_cons, Nat.succ_mul, List.getElem?_append_right (by omega)]
                  rw [show q * P.cellsOf e + P.cellsOf e + r - x.length = q * P.cellsOf e + r by omega]
                  exact ih q r cs (fun y hy => hx y (List.mem_cons_of_mem _ hy)) (by simpa using h) hr
            rw [hd, key css _ _ cs hall hcs hr]; exact hc'
          rw [hflat] at hj
          cases hj
          have ea : (a.add (j / P.cellsOf e * P.cellsOf e)).add (j % P.cellsOf e) = ⟨a.block, a.off + j, none⟩ := by
            obtain ⟨ab, ao, asp⟩ := a
            simp only at hspot
            subst hspot
            rw [add_none, add_none, Nat.add_assoc, ← hd]
          rw [← ea]; exact hw'
        have hnew := newF_HR (W := W) hH1 l a.block a.off (P.cellsOf e) (by
          rcases hfirst with h0 | h0
          · right
            have : len = 0 := by omega
            apply List.eq_nil_of_length_eq_zero
            rw [hl1, this, Nat.zero_mul]
          · exact .inl h0.2) (fun j v hj => by
          obtain ⟨c, hc, hv⟩ := hv1.get j v hj
          exact ⟨c, hcells j c hc, hv, ho1 c (List.mem_of_getElem? hc)⟩)
        refine ⟨_, _, [.sl (some (H1.next, 0, 0)) len false], hS1.trans (Loc.le_addF ..), hx1.trans (AH.ext.new _ _), hnew, .cons _ _ _ _ ?_ .nil, by simp [Value.oneCell'], ?_⟩
        · rw [hH1.next]
          refine .sl _ _ _ _ _ _ _ (by simp [Loc.addF]) (by simp [Loc.addF]) hlc (fun _ hc => ?_) (fun h => by cases h) (fun _ h => by simp [Loc.addF] at h)
          obtain ⟨hspot, _⟩ := hfirst.resolve_left (by omega)
          obtain ⟨ab, ao, asp⟩ := a
          simp only at hspot
          subst hspot
          simp [Loc.addF]
        · simp only [TV, hu]
          refine .inr ⟨H1.next, len, l, rfl, AH.get_new_same _ _, hl1, by omega, fun i hi => (hT1 i hi).ext (AH.ext.new _ _)⟩
    · rename_i fs hu
      simp only [Bool.and_eq_true, beq_iff_eq, List.all_eq_true] at hp
      obtain ⟨_, xs, hxs, rfl⟩ := trod_struct hu h
      simp only [DataW.weights, hu] at hw
      obtain ⟨S1, H1, l, hS1, hx1, hH1, hv1, ho1, hT1⟩ := open_fields (n := n) (fuel := fuel) (fun t hp cs d ps h hw hsp S H hH hl => open_trod hsp n fuel t hp cs d ps h hw S H hH hl) fs.toList 0 cs xs S H (by rw [hp.1, hcl]) hp.2 (Nat.zero_le _) hxs hw hsp hH
      rw [List.drop_zero] at hv1 ho1
      refine ⟨S1, H1, l, hS1, hx1, hH1, hv1, ho1, ?_⟩
      simp only [TV, hu]
      exact ⟨by rw [hv1.length]; exact hcl, fun f hf => by simpa using (hT1 f hf).2⟩
    · cases hp
end
end Go.Abs

set_option linter.unusedVariables false
set_option linter.unusedSimpArgs false
namespace Go.Abs
open Go Go.RowKit Go.ChangeShapes

/-- A value is of a type. -/
def TVal (P : Program) (H : AH) (t : TypeId) (v : V) : Prop := ∃ l, v.cells = some l ∧ TV P H 12 t l ∧ (qagg P t = some true → ∃ l, v = .agg l) ∧ (qagg P t = some false → ∀ l, v ≠ .agg l)
def TVals (P : Program) (H : AH) : List TypeId → List V → Prop
  | [], [] => True
  | t :: ts, v :: vs => TVal P H t v ∧ TVals P H ts vs
  | _, _ => False
theorem TVal.ext {P : Program} {H H' : AH} (hx : H.ext H') {t : TypeId} {v : V} (h : TVal P H t v) : TVal P H' t v := by
  obtain ⟨l, h1, h2, h3⟩ := h
  exact ⟨l, h1, h2.ext hx, h3⟩
theorem TVals.ext {P : Program} {H H' : AH} (hx : H.ext H') : ∀ {ts : List TypeId} {vs : List V}, TVals P H ts vs → TVals P H' ts vs
  | [], [], _ => trivial
  | _ :: _, _ :: _, h => ⟨h.1.ext hx, TVals.ext hx h.2⟩
  | [], _ :: _, h => h.elim
  | _ :: _, [], h => h.elim

theorem TV.leaf {P : Program} {H : AH} {n : Nat} {t : TypeId} {l : List V} (h : TV P H (n + 1) t l) (ha : qagg P t = some false) : ∃ a, l = [a] ∧ a.cells = some [a] := by
  unfold TV at h
  unfold qagg at ha
  cases hu : P.underlying t with
  | none => simp [hu] at ha
  | some td =>
    cases td <;> simp only [hu] at h <;> try (exact h.elim)
    case bool => obtain ⟨_, h⟩ := h; subst h; exact ⟨_, rfl, rfl⟩
    case int => obtain ⟨_, h, _⟩ := h; subst h; exact ⟨_, rfl, rfl⟩
    case string => obtain ⟨_, h, _⟩ := h; subst h; exact ⟨_, rfl, rfl⟩
    case slice => rcases h with h | ⟨_, _, _, h, _⟩ <;> (subst h; exact ⟨_, rfl, rfl⟩)
    all_goals simp [hu, descAgg] at ha
theorem TVal.leaf {P : Program} {H : AH} {t : TypeId} {v : V} (h : TVal P H t v) (ha : qagg P t = some false) : TV P H 12 t [v] := by
  obtain ⟨l, h1, h2, h3, h4⟩ := h
  obtain ⟨a, rfl, hc⟩ := h2.leaf ha
  have : v = a := by
    cases v <;> simp [V.cells] at h1
    all_goals first | exact h1 | (rename_i l; exact absurd rfl (h4 ha l))
  rw [this]; exact h2
theorem TV.fld {P : Program} {H : AH} {n : Nat} {t : TypeId} {l : List V} (h : TV P H (n + 1) t l) {fs : Array Field} (hu : P.underlying t = some (.struct fs)) (i : Nat) {f : Field} (hf : fs[i]? = some f) {ty : TypeId} (ht : f.type = ty) {off : Nat} (ho : f.offset = off) {sz : Nat} (hc : P.cellsOf ty = sz) :
    TV P H n ty ((l.drop off).take sz) := by
  unfold TV at h
  rw [hu] at h
  have := h.2 f (Array.mem_toList_iff.2 (Array.mem_of_getElem? hf))
  rw [ht, ho, hc] at this
  exact this
theorem TV.size {P : Program} {H : AH} {n : Nat} {t : TypeId} {l : List V} (h : TV P H (n + 1) t l) {fs : Array Field} (hu : P.underlying t = some (.struct fs)) {sz : Nat} (hc : P.cellsOf t = sz) : l.length = sz := by
  unfold TV at h
  rw [hu] at h
  rw [← hc]; exact h.1
theorem TV.int {P : Program} {H : AH} {n : Nat} {t : TypeId} {l : List V} (h : TV P H (n + 1) t l) {k : IntKind} (hu : P.underlying t = some (.int k)) : ∃ x, l = [.i k x] ∧ k.min ≤ x ∧ x ≤ k.max := by
  unfold TV at h; rw [hu] at h; exact h
theorem TV.bool {P : Program} {H : AH} {n : Nat} {t : TypeId} {l : List V} (h : TV P H (n + 1) t l) (hu : P.underlying t = some .bool) : ∃ x, l = [.b x] := by
  unfold TV at h; rw [hu] at h; exact h
theorem TV.str {P : Program} {H : AH} {n : Nat} {t : TypeId} {l : List V} (h : TV P H (n + 1) t l) (hu : P.underlying t = some .string) : ∃ x, l = [.s x] ∧ x.length ≤ 140737488351232 := by
  unfold TV at h; rw [hu] at h; exact h
theorem TVal.i {P : Program} {H : AH} {t : TypeId} {v : V} (h : TVal P H t v) {k : IntKind} (hu : P.underlying t = some (.int k)) : ∃ x, v = .i k x ∧ k.min ≤ x ∧ x ≤ k.max := by
  obtain ⟨x, hx, h1⟩ := (h.leaf (by simp [qagg, hu, descAgg])).int hu
  exact ⟨x, by simpa using hx, h1⟩
theorem TVal.b {P : Program} {H : AH} {t : TypeId} {v : V} (h : TVal P H t v) (hu : P.underlying t = some .bool) : ∃ x, v = .b x := by
  obtain ⟨x, hx⟩ := (h.leaf (by simp [qagg, hu, descAgg])).bool hu
  exact ⟨x, by simpa using hx⟩
theorem TVal.s {P : Program} {H : AH} {t : TypeId} {v : V} (h : TVal P H t v) (hu : P.underlying t = some .string) : ∃ x, v = .s x ∧ x.length ≤ 140737488351232 := by
  obtain ⟨x, hx, h1⟩ := (h.leaf (by simp [qagg, hu, descAgg])).str hu
  exact ⟨x, by simpa using hx, h1⟩
theorem TVal.struct {P : Program} {H : AH} {t : TypeId} {v : V} (h : TVal P H t v) {fs : Array Field} (hu : P.underlying t = some (.struct fs)) {sz : Nat} (hc : P.cellsOf t = sz) : ∃ l, v = .agg l ∧ l.length = sz ∧ TV P H 12 t l := by
  obtain ⟨l, h1, h2, h3, h4⟩ := h
  obtain ⟨l', rfl⟩ := h3 (by simp [qagg, hu, descAgg])
  have e : l' = l := by simpa [V.cells] using h1
  subst e
  exact ⟨l', rfl, h2.size hu hc, h2⟩
theorem exists_map {α β : Type} {f : α → β} : ∀ {ls : List β}, (∀ l ∈ ls, ∃ a, l = f a) → ∃ xs : List α, ls = xs.map f
  | [], _ => ⟨[], rfl⟩
  | l :: ls, h => by
    obtain ⟨a, rfl⟩ := h l (by simp)
    obtain ⟨xs, rfl⟩ := exists_map (ls := ls) fun l hl => h l (by simp [hl])
    exact ⟨a :: xs, rfl⟩

section
variable {Hh : Type} {enc : TypeId × Value → Hh} {P : Program} {W : World} {base : Nat}

theorem HR_none : HR ⟨W, Loc.none⟩ Loc.none AH.none W where
  next := rfl
  obj id o h := by simp [AH.get, AH.none] at h
  some id h := absurd h (Nat.not_lt_zero _)
  lt id h := absurd h (Nat.not_lt_zero _)
  foreign id h := absurd h (Nat.not_lt_zero _)
  sep id id' h := absurd h (Nat.not_lt_zero _)
  below := ⟨rfl, rfl, rfl, Nat.le_refl _, fun _ _ _ => rfl, fun _ => Nat.le_refl _⟩
  loose := rfl
theorem HR_tight : HR ⟨W, Loc.tight⟩ Loc.tight AH.none W where
  next := rfl
  obj id o h := by simp [AH.get, AH.none] at h
  some id h := absurd h (Nat.not_lt_zero _)
  lt id h := absurd h (Nat.not_lt_zero _)
  foreign id h := absurd h (Nat.not_lt_zero _)
  sep id id' h := absurd h (Nat.not_lt_zero _)
  below := ⟨rfl, rfl, rfl, Nat.le_refl _, fun _ _ _ => rfl, fun _ => Nat.le_refl _⟩
  loose := rfl

/-- One argument. -/
theorem open_arg {t : TypeId} {v : Value} {d : DataW Hh} {p : List MemPlace} (hp : plainT P 12 t = true) (hok : Value.okWide P W .any base t v) (h : DataW.Trod enc P W 0 (fun _ => true) true t v d p) (hw : ∀ x ∈ d.weights P t, x ≤ reachBytes)
    (hsz : qagg P t = some false → P.cellsOf t = 1) {S : Loc} {H : AH} (hH : HR ⟨W, Loc.none⟩ S H W) : ∃ S' H' a, S.le S' ∧ H.ext H' ∧ HR ⟨W, Loc.none⟩ S' H' W ∧ VR S' a v ∧ TVal P H' t a := by
  obtain ⟨fuel, htr⟩ := h
  have hagg : ∃ b, qagg P t = some b := by
    unfold plainT at hp
    cases hu : P.underlying t with
    | none => simp [hu] at hp
    | some d => exact ⟨descAgg d, by simp [qagg, hu]⟩
  obtain ⟨b, hb⟩ := hagg
  obtain ⟨td, hu, htd⟩ := descAgg_some hb
  cases b with
  | true =>
    have hcs : ∃ cs, v = .agg cs ∧ cs.size = P.cellsOf t := by
      unfold Value.okWide at hok
      rw [hu] at hok
      cases td <;> simp [descAgg] at htd
      all_goals (obtain ⟨cs, h1, h2, _⟩ := hok; exact ⟨cs, h1, h2⟩)
    obtain ⟨cs, rfl, hcs⟩ := hcs
    obtain ⟨S', H', l, h1, h2, h3, h4, h5, h6⟩ := open_trod (fun _ => rfl) 12 fuel t hp cs.toList d p htr hw S H hH (by simpa using hcs)
    refine ⟨S', H', .agg l, h1, h2, h3, ?_, l, rfl, h6, fun _ => ⟨l, rfl⟩, fun h => by rw [hb] at h; cases h⟩
    have := VR.agg l cs.toList h4 h5
    simpa using this
  | false =>
    have hleaf : v.cells = #[v] := by
      cases v <;> try rfl
      exfalso
      unfold Value.okWide at hok
      rw [hu] at hok
      cases td <;> simp [descAgg] at htd <;> simp [Cell.okWide, hu, Cell.ok] at hok
    rw [hleaf] at htr
    obtain ⟨S', H', l, h1, h2, h3, h4, h5, h6⟩ := open_trod (fun _ => rfl) 12 fuel t hp [v] d p htr hw S H hH (by rw [hsz hb]; rfl)
    cases h4 with
    | cons a _ _ _ hv ht =>
      cases ht
      have key : V.cells a = some [a] ∧ ∀ l, a ≠ .agg l := by
        unfold TV at h6
        cases td <;> simp only [hu] at h6
        case bool => obtain ⟨_, h⟩ := h6; simp at h; subst h; exact ⟨rfl, fun _ h => by cases h⟩
        case int => obtain ⟨_, h, _⟩ := h6; simp at h; subst h; exact ⟨rfl, fun _ h => by cases h⟩
        case string => obtain ⟨_, h, _⟩ := h6; simp at h; subst h; exact ⟨rfl, fun _ h => by cases h⟩
        case slice => rcases h6 with h | ⟨_, _, _, h, _⟩ <;> (simp at h; subst h; exact ⟨rfl, fun _ h => by cases h⟩)
        all_goals first | exact h6.elim | (simp [descAgg] at htd)
      exact ⟨S', H', a, h1, h2, h3, hv, [a], key.1, h6, fun h => (by rw [hb] at h; cases h), fun _ => key.2⟩

/-- The arguments. -/
theorem open_args : ∀ (ts : List TypeId) (vs : List Value) (ds : List (DataW Hh)) (p : List MemPlace) (S : Loc) (H : AH), (∀ t ∈ ts, plainT P 12 t = true ∧ (qagg P t = some false → P.cellsOf t = 1)) → (∀ (j : Nat) t v, ts[j]? = some t → vs[j]? = some v → Value.okWide P W .any base t v) →
    DataW.TrodAll enc P W 0 (fun _ => true) true ts vs ds p → (∀ x ∈ DataW.weightsEach P ts ds, x ≤ reachBytes) → HR ⟨W, Loc.none⟩ S H W → ∃ S' H' as, S.le S' ∧ H.ext H' ∧ HR ⟨W, Loc.none⟩ S' H' W ∧ VRs S' as vs ∧ TVals P H' ts as
  | [], [], [], p, S, H, _, _, _, _, hH => ⟨S, H, [], Loc.le.refl S, AH.ext.refl H, hH, .nil, trivial⟩
  | t :: ts, v :: vs, d :: ds, p, S, H, hp, hok, h, hw, hH => by
    obtain ⟨p1, p2, h1, h2, _⟩ := h
    simp only [DataW.weightsEach, List.mem_append] at hw
    obtain ⟨S1, H1, a, q1, q2, q3, q4, q5⟩ := open_arg (hp t (List.mem_cons_self ..)).1 (hok 0 t v rfl rfl) h1 (fun x hx => hw x (.inl hx)) (hp t (List.mem_cons_self ..)).2 hH
    obtain ⟨S2, H2, as, r1, r2, r3, r4, r5⟩ := open_args ts vs ds p2 S1 H1 (fun t ht => hp t (List.mem_cons_of_mem _ ht)) (fun j t v ht hv => hok (j + 1) t v (by simpa using ht) (by simpa using hv)) h2 (fun x hx => hw x (.inr hx)) q3
    exact ⟨S2, H2, a :: as, q1.trans r1, q2.trans r2, r3, .cons _ _ _ _ (q4.mono r1) r4, q5.ext r2, r5⟩
  | [], [], _ :: _, _, _, _, _, _, h, _, _ => by simp [DataW.TrodAll] at h
  | [], _ :: _, _, _, _, _, _, _, h, _, _ => by cases ‹List (DataW Hh)› <;> simp [DataW.TrodAll] at h
  | _ :: _, [], _, _, _, _, _, _, h, _, _ => by cases ‹List (DataW Hh)› <;> simp [DataW.TrodAll] at h
  | _ :: _, _ :: _, [], _, _, _, _, _, h, _, _ => by simp [DataW.TrodAll] at h

theorem trodAll_stay (hl : laidOutB P = true) {W' : World} (hb : Below W.heap.size W W') : ∀ (ts : List TypeId) (vs : List Value) (ds : List (DataW Hh)) (p : List MemPlace), (∀ t ∈ ts, P.readableRec t = true ∧ t < P.types.size) → (∀ x ∈ p, x.block < W.heap.size) →
    DataW.TrodAll enc P W 0 (fun _ => true) true ts vs ds p → DataW.TrodAll enc P W' 0 (fun b => decide (b < W.heap.size)) true ts vs ds p
  | [], [], [], p, _, _, h => h
  | t :: ts, v :: vs, d :: ds, p, hr, hp, h => by
    obtain ⟨p1, p2, h1, h2, rfl⟩ := h
    exact ⟨p1, p2, Below.trod hl (hr t (List.mem_cons_self ..)).1 (hr t (List.mem_cons_self ..)).2 h1 hb (fun x hx => hp x (List.mem_append_left _ hx)),
      trodAll_stay hl hb ts vs ds p2 (fun t ht => hr t (List.mem_cons_of_mem _ ht)) (fun x hx => hp x (List.mem_append_right _ hx)) h2, rfl⟩
  | [], [], _ :: _, _, _, _, h => by simp [DataW.TrodAll] at h
  | [], _ :: _, ds, _, _, _, h => by cases ds <;> simp [DataW.TrodAll] at h
  | _ :: _, [], ds, _, _, _, h => by cases ds <;> simp [DataW.TrodAll] at h
  | _ :: _, _ :: _, [], _, _, _, h => by simp [DataW.TrodAll] at h

/-- WHAT A LAW'S ROW ASKS OF THE CALL. -/
theorem law_contract [Laid P] {f : FuncId} {fn : Func} {s : ChangeSpec} {tb : TypeId} (hfn : P.funcs[f]? = some fn) (hfb : fn.body.isNone = false) (hlaid : Laid.ok P ⟨W, Loc.none⟩) (hl : laidOutB P = true) (hts : ∀ t ∈ fn.params.toList, plainT P 12 t = true ∧ (qagg P t = some false → P.cellsOf t = 1)) (hrd : ∀ t ∈ fn.params.toList, P.readableRec t = true ∧ t < P.types.size)
    (hr : fn.resultTypes = #[tb]) (htb : P.underlying tb = some .bool) (hv : s.vars = []) (hs : ∀ ds : List (DataW Hh), ds.length = fn.params.toList.length → s.fn Hh ds = { results := [.lit (.bool true)], args := ds })
    (law : ∀ H vs, TVals P H fn.params.toList vs → ACalls P f vs H fun r _ => r = .b true)
    {args : Array Value} {ds gs : List (DataW Hh)} {before : List MemPlace} (hval : ∀ (j : Nat) t v, fn.params[j]? = some t → args[j]? = some v → Value.okWide P W .any base t v)
    (hW : DataW.Whole enc P fn.params.toList s.vars false W args.toList ds gs before) (hw : ∀ x ∈ DataW.weightsEach P fn.params.toList ds, x ≤ reachBytes) :
    Calls P f args W fun e W' => ∃ v, e = .returned v ∧ s.post enc P fn false true false false W args v W' := by
  have hlt := hW.lt
  obtain ⟨p, q, hA, hV, rfl, hfz, hnd⟩ := id hW
  rw [hv] at hV
  obtain ⟨rfl, rfl⟩ := trodVars_none hV
  obtain ⟨S, H, as, h1, h2, h3, h4, h5⟩ := open_args fn.params.toList args.toList ds p Loc.none AH.none hts (fun j t v ht hv => hval j t v (by simpa using ht) (by simpa using hv)) hA hw HR_none
  have hcall : Calls P f args.toList.toArray W fun e w' => ∃ r cr S' H', e = .returned cr ∧ S.le S' ∧ VR S' r cr ∧ HR ⟨W, Loc.none⟩ S' H' w' ∧ r = .b true := by
    rcases law H as h5 with h | ⟨⟨fn2, g1, _, g2⟩, _⟩
    · exact h.2 ⟨W, Loc.none⟩ S args.toList W hlaid h3 h4
    · rw [hfn] at g1; cases g1; rw [hfb] at g2; cases g2
  rw [Array.toArray_toList] at hcall
  refine Calls.mono hcall fun e W' ⟨r, cr, S', H', he, hS, hvr, hH', hr'⟩ => ?_
  subst hr'
  cases hvr
  refine ⟨_, he, ?_⟩
  have hb : Below W.heap.size W W' := ⟨hH'.below.os, hH'.below.tape, hH'.below.output, hH'.below.size, fun k hk => hH'.below.block k hk mine_none⟩
  have hlen : ds.length = fn.params.toList.length := by
    have key : ∀ (ts : List TypeId) (vs : List Value) (ds : List (DataW Hh)) (p : List MemPlace), DataW.TrodAll enc P W 0 (fun _ => true) true ts vs ds p → ds.length = ts.length := by
      intro ts
      induction ts with
      | nil => intro vs ds p h; cases vs <;> cases ds <;> simp_all [DataW.TrodAll]
      | cons t ts ih =>
        intro vs ds p h
        cases vs <;> cases ds <;> simp [DataW.TrodAll] at h
        obtain ⟨p1, p2, _, h2, _⟩ := h
        simp [ih _ _ _ h2]
    exact key _ _ _ _ hA
  have hfn := hs ds hlen
  refine ⟨ds, [], p ++ [], [], p, [], hW, ?_, ?_, ?_, ?_, fun h => by cases h⟩
  · simp only [List.append_nil, hfn, hr]
    exact trodAll_cons_mk (shut_bool htb true) trodAll_mk0
  · simp only [List.append_nil, hfn]
    exact trodAll_stay hl hb _ _ _ _ hrd (fun x hx => by simpa using hlt x (by simpa using hx)) hA
  · simp only [List.append_nil, hfn, hv]; rfl
  · exact hb.frame _

/-- THE LAW'S ROW. -/
theorem law_lifted {C : Checked} [Laid C.prog] (htabs : Laid.tabs C.prog = []) (hloose : Laid.loose C.prog = true) {os : Os} {f : FuncId} {fn : Func} {s : ChangeSpec} {conds : List PathCond} {tb : TypeId} (own : ownKnob C.prog.godebug = none) (started : os.Started) (noInit : C.prog.inits.idxOf? f = none) (hfn : C.prog.funcs[f]? = some fn) (hfb : fn.body.isNone = false)
    (witness : ∃ (w : World) (tape : Tape) (i : Input), w.os = os ∧ (w.forCall tape i).Shaped C.prog ∧ i.vars = [] ∧ Input.okWide C.prog (w.forCall tape i) .any w.heap.size f i ∧
      s.pre6 enc C.prog fn conds false (w.forCall tape i).memory i.args ∧ ({} : Assume).holds C.prog (lone (Frame.enter C.prog f i.args .normal) [] (w.forCall tape i)))
    (hl : laidOutB C.prog = true) (hts : ∀ t ∈ fn.params.toList, plainT C.prog 12 t = true ∧ (qagg C.prog t = some false → C.prog.cellsOf t = 1)) (hrd : ∀ t ∈ fn.params.toList, C.prog.readableRec t = true ∧ t < C.prog.types.size)
    (hr : fn.resultTypes = #[tb]) (htb : C.prog.underlying tb = some .bool) (hv : s.vars = []) (hs : ∀ ds : List (DataW Hh), ds.length = fn.params.toList.length → s.fn Hh ds = { results := [.lit (.bool true)], args := ds })
    (law : ∀ H vs, TVals C.prog H fn.params.toList vs → ACalls C.prog f vs H fun r _ => r = .b true) :
    ReturnsInHanded {} C os f .any (s.pre6 enc C.prog fn conds false) (s.post enc C.prog fn false true false false) := by
  refine returnsInHanded_of_change_sized own started noInit hfn witness ?_
  intro W base args ds gs before hval hW _ hsz _
  have hgs : gs = [] ∧ s.plain.varTypes C.prog = [] := by
    obtain ⟨p, q, hA, hV, rfl, hfz, hnd⟩ := id hW
    rw [hv] at hV
    exact ⟨(trodVars_none hV).1, by simp [ChangeSpec.plain, DataSpec.varTypes, hv]⟩
  obtain ⟨rfl, hvt⟩ := hgs
  rw [hvt, List.append_nil, List.append_nil] at hsz
  exact law_contract hfn hfb ⟨hloose.symm, fun x hx => by rw [htabs] at hx; cases hx⟩ hl hts hrd hr htb hv hs law hval hW (fun x hx => by simpa using List.all_eq_true.1 hsz x hx)
theorem laid_none {C : Checked} [Laid C.prog] (l : List (String × DataW Unit)) (h : Laid.tabs C.prog = []) (hb : Laid.loose C.prog = true := by rfl) : ∀ W : World, laidMetH C.prog l W → Laid.ok C.prog ⟨W, Loc.none⟩ := fun W _ => ⟨hb.symm, fun x hx => by rw [h] at hx; cases hx⟩
/-- THE LAW'S ROW, where the row lists tables. -/
theorem law_row {C : Checked} [Laid C.prog] {os : Os} {f : FuncId} {fn : Func} {s : ChangeSpec} {F : Stop.Interp} {conds : List PathCond} {laid : List (String × DataW Unit)} {tb : TypeId} (htabs : ∀ W : World, laidMetH C.prog laid W → Laid.ok C.prog ⟨W, Loc.none⟩) (own : ownKnob C.prog.godebug = none) (started : os.Started) (noInit : C.prog.inits.idxOf? f = none) (hfn : C.prog.funcs[f]? = some fn) (hfb : fn.body.isNone = false)
    (witness : ∃ (w : World) (tape : Tape) (i : Input), w.os = os ∧ (w.forCall tape i).Shaped C.prog ∧ i.vars = [] ∧ Input.okWide C.prog (w.forCall tape i) .any w.heap.size f i ∧
      (OpenSpec.ofChange s).preRow enc C.prog fn conds false laid (w.forCall tape i).memory i.args ∧ ({} : Assume).holds C.prog (lone (Frame.enter C.prog f i.args .normal) [] (w.forCall tape i)))
    (hl : laidOutB C.prog = true) (hts : ∀ t ∈ fn.params.toList, plainT C.prog 12 t = true ∧ (qagg C.prog t = some false → C.prog.cellsOf t = 1)) (hrd : ∀ t ∈ fn.params.toList, C.prog.readableRec t = true ∧ t < C.prog.types.size)
    (hr : fn.resultTypes = #[tb]) (htb : C.prog.underlying tb = some .bool) (hv : s.vars = []) (hs : ∀ ds : List (DataW Hh), ds.length = fn.params.toList.length → s.fn Hh ds = { results := [.lit (.bool true)], args := ds })
    (law : ∀ H vs, TVals C.prog H fn.params.toList vs → ACalls C.prog f vs H fun r _ => r = .b true) :
    ReturnsInHanded {} C os f .any ((OpenSpec.ofChange s).preRow enc C.prog fn conds false laid) (((OpenSpec.ofChange s).at F).post enc C.prog fn false true false false) := by
  refine returnsInHanded_of_row (s := OpenSpec.ofChange s) own started noInit hfn witness ?_
  intro W base args ds gs before hval hW _ _ hsz hL _ _
  have hgs : gs = [] ∧ s.plain.varTypes C.prog = [] := by
    obtain ⟨p, q, hA, hV, rfl, hfz, hnd⟩ := id hW
    have hv' : (OpenSpec.ofChange s).vars = [] := hv
    rw [hv'] at hV
    exact ⟨(trodVars_none hV).1, by simp [ChangeSpec.plain, DataSpec.varTypes, hv]⟩
  obtain ⟨rfl, hvt⟩ := hgs
  have hvt' : (OpenSpec.ofChange s).bare.plain.varTypes C.prog = [] := hvt
  rw [hvt', List.append_nil, List.append_nil] at hsz
  exact law_contract hfn hfb (htabs W hL) hl hts hrd hr htb hv hs law hval hW (fun x hx => by simpa using List.all_eq_true.1 hsz x hx)

/-- The cells that a listed table holds. -/
def flatD : Nat → DataW Unit → List Value
  | 0, _ => []
  | n + 1, d => match d with
    | .lit l => [l.value]
    | .agg l => l.flatMap (flatD n)
    | _ => []
/-- The listed tables put into their blocks. -/
def withTabs (P : Program) (l : List (String × DataW Unit)) (w : World) : World :=
  { w with heap := l.foldl (fun h x => h.modify ((P.globalNamed x.1).getD 0) fun
      | .cells _ t fr => .cells (flatD 9 x.2).toArray t fr
      | o => o) w.heap }
end
end Go.Abs

set_option linter.unusedVariables false
set_option linter.unusedSimpArgs false
set_option linter.unusedSectionVars false
namespace Go.Abs
open Go Go.RowKit

/-- The same environment, whatever the order of its entries. -/
def Env.eqv (ρ ρ' : Env) : Prop := ρ.n = ρ'.n ∧ ∀ t, ρ.get t = ρ'.get t
theorem Env.eqv.refl (ρ : Env) : ρ.eqv ρ := ⟨rfl, fun _ => rfl⟩
theorem Env.eqv.symm {ρ ρ' : Env} (h : ρ.eqv ρ') : ρ'.eqv ρ := ⟨h.1.symm, fun t => (h.2 t).symm⟩
theorem Env.eqv.trans {ρ ρ' ρ'' : Env} (h : ρ.eqv ρ') (k : ρ'.eqv ρ'') : ρ.eqv ρ'' := ⟨h.1.trans k.1, fun t => (h.2 t).trans (k.2 t)⟩
theorem Env.get_put (ρ : Env) (d : Nat) (v : V) (t : Nat) : (ρ.put (some d) v).get t = if d = t then (if d < ρ.n then v else .un) else ρ.get t := rfl
theorem Env.put_n (ρ : Env) (d : Option Tmp) (v : V) : (ρ.put d v).n = ρ.n := by cases d <;> rfl
theorem Env.eqv.put {ρ ρ' : Env} (h : ρ.eqv ρ') (d : Option Tmp) (v : V) : (ρ.put d v).eqv (ρ'.put d v) := by
  cases d with
  | none => exact h
  | some d => exact ⟨h.1, fun t => by rw [Env.get_put, Env.get_put, h.1, h.2]⟩
theorem Env.put_comm (ρ : Env) {x y : Option Tmp} (v u : V) (h : ∀ d, x = some d → y ≠ some d) : ((ρ.put x v).put y u).eqv ((ρ.put y u).put x v) := by
  cases x with
  | none => exact .refl _
  | some d =>
    cases y with
    | none => exact .refl _
    | some e =>
      have hne : d ≠ e := fun he => h d rfl (he ▸ rfl)
      refine ⟨rfl, fun t => ?_⟩
      simp only [Env.get_put, Env.put_n]
      by_cases h1 : e = t <;> by_cases h2 : d = t <;> simp [h1, h2]
      · exact absurd (h2.trans h1.symm) hne
theorem aev_eqv {ρ ρ' : Env} (h : ρ.eqv ρ') : aev ρ = aev ρ' := by
  funext x; cases x <;> simp [aev, h.2]
theorem ayielded_eqv {ops : Array Oper} {ρ ρ' : Env} (h : ρ.eqv ρ') (j : Nat) : ayielded ops ρ j = ayielded ops ρ' j := by
  unfold ayielded; simp only [h.1, h.2]
theorem ER_eqv {S : Loc} {ρ ρ' : Env} {a : Act} (h : ρ.eqv ρ') (e : ER S ρ a) : ER S ρ' a := ⟨e.1.trans h.1, fun t => by rw [← h.2]; exact e.2 t⟩

section
variable {P : Program} [Laid P] {ops : Array Oper} {md : Region.Mode}

theorem ANext_mono {H : AH} {it : V} {K K' : V → AH → Prop} (h : ANext H it K) (hk : ∀ v H, K v H → K' v H) : ANext H it K' := by
  unfold ANext at *
  split at h
  · split at h
    · exact hk _ _ h
    · split at h
      · exact ⟨h.1, fun e he hn => hk _ _ (h.2.1 e he hn), fun hn => hk _ _ (h.2.2 hn)⟩
      · exact h.elim
    · exact h.elim
  · exact h.elim
theorem ARoundEnd_mono {id : Nat} {H : AH} {K K' : V → AH → Prop} {j : Option Code} (h : ARoundEnd id K j H) (hk : ∀ v H, K v H → K' v H) : ARoundEnd id K' j H := by
  unfold ARoundEnd at *
  split at h
  · exact hk _ _ h
  · exact h.elim
theorem ARound_mono {id : Nat} {vs : List V} {H : AH} {K K' : V → AH → Prop} (h : ARound P id vs H K) (hk : ∀ v H, K v H → K' v H) : ARound P id vs H K' := by
  unfold ARound at *
  split at h
  · refine ⟨h.1, fun r => (h.2 r).mono fun e ρ' H' h => ?_⟩
    cases e with
    | normal =>
      simp only [AThen] at h ⊢
      split at h
      · refine h.mono fun e ρ'' H'' h => ?_
        cases e with
        | normal => exact ARoundEnd_mono h hk
        | ret => exact ARoundEnd_mono h hk
        | exit x => exact ARoundEnd_mono h hk
        | goto x => exact h
        | panic c => exact h
        | outgrown => exact h
      · exact h.elim
    | exit id => exact h
    | goto l => exact h
    | ret => exact h
    | panic c => exact h
    | outgrown => exact h
  · exact h.elim
theorem AOp_mono {o : Oper} {ρ : Env} {H : AH} {K K' : V → AH → Prop} (h : AOp P o ρ H K) (hk : ∀ v H, K v H → K' v H) : AOp P o ρ H K' := by
  unfold AOp at *
  split at h
  · split at h
    · exact h.mono hk
    · exact ARound_mono h hk
    · exact h.elim
  · exact ANext_mono h hk
  · obtain ⟨v, H', h1, h2⟩ := h
    exact ⟨v, H', h1, hk _ _ h2⟩
theorem AStep_mono {o : Oper} {ρ : Env} {H : AH} {K K' : Env → AH → Prop} (h : AStep P ops o ρ H K) (hk : ∀ ρ H, K ρ H → K' ρ H) : AStep P ops o ρ H K' := by
  unfold AStep at *
  split at h
  · exact AOp_mono h fun v H => hk _ _
  · split at h
    · split at h
      · rename_i hrw; simp only [hrw, if_true]; exact AOp_mono h fun v H => hk _ _
      · rename_i hrw; simp only [hrw, Bool.false_eq_true, if_false]; exact hk _ _ h
    · exact h.elim

theorem aop_congr {ev ev' : Operand → V} {H : AH} (op : Op) (h : ∀ x ∈ op.operands, ev x = ev' x) : aop P op ev H = aop P op ev' H := by
  have pairs : ∀ ps : Array (Nat × Operand), (∀ x ∈ (ps.toList.map (·.2)).toArray, ev x = ev' x) → ps.toList.map (fun (i, x) => (i, ev x)) = ps.toList.map (fun (i, x) => (i, ev' x)) := fun ps hp =>
    List.map_congr_left fun p hm => by
      obtain ⟨i, x⟩ := p
      simp only [hp x (by simp; exact ⟨i, by simpa using hm⟩)]
  cases op <;> simp only [Op.operands] at h <;> unfold aop <;> try dsimp only
  case build t ps => rw [pairs ps h]
  case buildSlice t n ps => rw [pairs ps h]
  case makeFunc fn first caps =>
    have e1 : evs ev first = evs ev' first := List.map_congr_left fun x hx => h x (by simp; exact .inl (by simpa using hx))
    have e2 : evs ev caps = evs ev' caps := List.map_congr_left fun x hx => h x (by simp; exact .inr (by simpa using hx))
    rw [e1, e2]
  case makeMap t r => cases r <;> rfl
  case next x b => cases b <;> simp_all
  case slice t x lo hi mx => cases lo <;> cases hi <;> cases mx <;> simp_all [evo]
  case call c =>
    obtain ⟨cal, args, ats⟩ := c
    cases cal with
    | builtin b =>
      have e : args.toList.map ev = args.toList.map ev' := List.map_congr_left fun x hx => h x (by simp [Call.operands]; simpa using hx)
      simp only [e]
    | value f => rfl
    | invoke r m => rfl
  all_goals first | rfl | (simp_all; done)

theorem AOp_congr {o : Oper} {ρ ρ' : Env} {H : AH} {K : V → AH → Prop} (he : ∀ x ∈ o.op.operands, aev ρ x = aev ρ' x) (h : AOp P o ρ H K) : AOp P o ρ' H K := by
  unfold AOp at *
  split at h
  · rename_i f args ats hop
    simp only [hop, Op.operands, Call.operands] at he
    have e1 : aev ρ' f = aev ρ f := (he f (by simp)).symm
    have e2 : evs (aev ρ') args = evs (aev ρ) args := List.map_congr_left fun x hx => (he x (by simp; exact .inr (by simpa using hx))).symm
    rw [e1, e2]
    exact h
  · rename_i it hop
    simp only [hop, Op.operands] at he
    rw [← he it (by simp)]; exact h
  · rw [← aop_congr _ he]; exact h

theorem AStep_eqv {o : Oper} {ρ ρ' : Env} {H : AH} {K : Env → AH → Prop} (e : ρ.eqv ρ') (hK : ∀ ρ ρ' H, ρ.eqv ρ' → K ρ H → K ρ' H) (h : AStep P ops o ρ H K) : AStep P ops o ρ' H K := by
  unfold AStep at *
  have hop : ∀ K' K'' : V → AH → Prop, (∀ v H, K' v H → K'' v H) → AOp P o ρ H K' → AOp P o ρ' H K'' := fun K' K'' hk h => AOp_congr (fun x _ => by rw [aev_eqv e]) (AOp_mono h hk)
  split at h
  · exact hop _ _ (fun v H => hK _ _ _ (e.put _ _)) h
  · rename_i j want hg
    rw [← ayielded_eqv e]
    split at h
    · split at h
      · rename_i hrw; simp only [hrw, if_true]; exact hop _ _ (fun v H => hK _ _ _ (e.put _ _)) h
      · rename_i hrw; simp only [hrw, Bool.false_eq_true, if_false]; exact hK _ _ _ (e.put _ _) h
    · exact h.elim

theorem aev_put_apart {ρ : Env} {dst : Option Tmp} {v : V} {o : Oper} (h : ∀ d, dst = some d → d ∉ o.looksAt ops) : ∀ x ∈ o.op.operands, aev (ρ.put dst v) x = aev ρ x := by
  intro x hx
  cases dst with
  | none => rfl
  | some d =>
    cases x with
    | tmp t =>
      simp only [aev, Env.get_put]
      rw [if_neg]
      intro e
      subst e
      exact h d rfl (List.mem_append_left _ (List.mem_filterMap.2 ⟨.tmp d, by simpa using hx, rfl⟩))
    | const _ => rfl
    | global _ => rfl
    | func _ => rfl
theorem ayielded_put_apart {ρ : Env} {dst : Option Tmp} {v : V} {o : Oper} {g : Nat} {want : Bool} (hg : o.guard = some (g, want)) (h : ∀ d, dst = some d → d ∉ o.looksAt ops) : ayielded ops (ρ.put dst v) g = ayielded ops ρ g := by
  cases dst with
  | none => rfl
  | some d =>
    unfold ayielded
    cases ht : (ops[g]?).bind (·.dst) with
    | none => rfl
    | some t =>
      have hne : d ≠ t := fun e => h d rfl (by subst e; simp [Oper.looksAt, hg, ht])
      simp only [Env.put_n, Env.get_put, hne, if_false]

/-- An operation whose temporaries a put does not touch. -/
theorem AStep_apart {o : Oper} {dst : Option Tmp} {v : V} {ρ : Env} {H : AH} {K : Env → AH → Prop} (h : ∀ d, dst = some d → d ∉ o.looksAt ops) (hs : AStep P ops o (ρ.put dst v) H K) :
    AStep P ops o ρ H fun ρ' H' => ∃ u, ρ' = ρ.put o.dst u ∧ K ((ρ.put dst v).put o.dst u) H' := by
  unfold AStep at *
  have he := aev_put_apart (ρ := ρ) (v := v) h
  split at hs
  · exact AOp_congr he (AOp_mono hs fun u H hk => ⟨u, rfl, hk⟩)
  · rename_i j want hg
    rw [ayielded_put_apart hg h] at hs
    split at hs
    · split at hs
      · rename_i hrw; simp only [hrw, if_true]; exact AOp_congr he (AOp_mono hs fun u H hk => ⟨u, rfl, hk⟩)
      · rename_i hrw; simp only [hrw, Bool.false_eq_true, if_false]; exact ⟨_, rfl, hs⟩
    · exact hs.elim

/-- In every memory that may come from this one the operation leaves 'v' and nothing else. -/
def AYield (P : Program) (ops : Array Oper) (R : AH → AH → Prop) (o : Oper) (v : V) (ρ : Env) (H : AH) : Prop :=
  match o.guard with
  | none => ∀ H', R H H' → aop P o.op (aev ρ) H' = some (v, H')
  | some (j, want) => match ayielded ops ρ j with
    | some r => if r == some want then ∀ H', R H H' → aop P o.op (aev ρ) H' = some (v, H') else v = .tup []
    | none => False
/-- It is a call of a Go function. -/
def isGoCall : Op → Bool
  | .call { callee := .value _, .. } => true
  | _ => false
theorem AOp_of_aop {o : Oper} {ρ : Env} {H : AH} {K : V → AH → Prop} {v : V} {H' : AH} (h : aop P o.op (aev ρ) H = some (v, H')) (hk : K v H') : AOp P o ρ H K := by
  unfold AOp
  split
  · rename_i f args ats hop
    rw [hop] at h; simp [aop] at h
  · rename_i it hop
    rw [hop] at h; simp [aop] at h
  · exact ⟨v, H', h, hk⟩
theorem AYield.step {R : AH → AH → Prop} (hr : ∀ H, R H H) {o : Oper} {v : V} {ρ : Env} {H : AH} (h : AYield P ops R o v ρ H) {K : Env → AH → Prop} (hk : K (ρ.put o.dst v) H) : AStep P ops o ρ H K := by
  unfold AYield at h
  unfold AStep
  have key : ∀ v', aop P o.op (aev ρ) H = some (v', H) → K (ρ.put o.dst v') H → AOp P o ρ H (fun v H' => K (ρ.put o.dst v) H') := fun v' h hk => AOp_of_aop (K := fun v H' => K (ρ.put o.dst v) H') h hk
  cases hg : o.guard with
  | none => simp only [hg] at h; exact key v (h H (hr H)) hk
  | some jw =>
    obtain ⟨j, want⟩ := jw
    simp only [hg] at h
    dsimp only
    cases hy : ayielded ops ρ j with
    | none => simp only [hy] at h
    | some r =>
      simp only [hy] at h
      dsimp only
      by_cases hrw : (r == some want) = true
      · simp only [hrw, if_true] at h ⊢; exact key v (h H (hr H)) hk
      · simp only [hrw, Bool.false_eq_true, if_false] at h ⊢; subst h; exact hk
theorem AYield.keep {R : AH → AH → Prop} (ht : ∀ H H' H'', R H H' → R H' H'' → R H H'') {o : Oper} {v u : V} {ρ : Env} {H H' : AH} {dst : Option Tmp} (h : AYield P ops R o v ρ H) (hd : ∀ d, dst = some d → d ∉ o.looksAt ops) (hR : R H H') :
    AYield P ops R o v (ρ.put dst u) H' := by
  unfold AYield at *
  have he : aop P o.op (aev (ρ.put dst u)) = aop P o.op (aev ρ) := by funext H; exact aop_congr _ (aev_put_apart hd)
  rw [he]
  split at h
  · exact fun H'' h2 => h H'' (ht _ _ _ hR h2)
  · rename_i j want hg
    rw [ayielded_put_apart hg hd]
    split at h
    · split at h
      · rename_i hrw; simp only [hrw, if_true]; exact fun H'' h2 => h H'' (ht _ _ _ hR h2)
      · rename_i hrw; simp only [hrw, Bool.false_eq_true, if_false]; exact h
    · exact h.elim

/-- It waits for the k-th one, at once or by one between them. -/
def waits1 (md : Region.Mode) (o : Oper) (k : Nat) : Bool := o.after.any fun e => Region.binds md e && e.on == k
def waits (md : Region.Mode) (ops : Array Oper) (o : Oper) (k : Nat) : Bool :=
  waits1 md o k || o.after.any fun e => Region.binds md e && match ops[e.on]? with | some o' => waits1 md o' k | none => false
/-- What is listed had all listed that it waits for. -/
def Closed (md : Region.Mode) (ops : Array Oper) (listed : Array Bool) : Prop :=
  ∀ k ok, ops[k]? = some ok → listed.getD k false = true → ∀ e ∈ ok.after, Region.binds md e = true → listed.getD e.on false = true
theorem Closed.none {md : Region.Mode} {ops : Array Oper} (n : Nat) : Closed md ops (Array.replicate n false) := fun k ok _ h => by
  simp [Array.getD, Array.getElem_replicate] at h
theorem Closed.set {md : Region.Mode} {ops : Array Oper} {listed : Array Bool} (h : Closed md ops listed) {i : Nat} (hi : i ∈ Region.ready md ops listed) : Closed md ops (listed.setIfInBounds i true) := fun k ok hk hl e he hb => by
  obtain ⟨h0, oi, hoi, hall⟩ := mem_ready.1 hi
  refine getD_set_true ?_
  by_cases hki : k = i
  · subst hki
    cases hoi.symm.trans hk
    exact hall e he hb
  · refine h k ok hk ?_ e he hb
    rw [← hl]
    simp only [Array.getD_eq_getD_getElem?, Array.getElem?_setIfInBounds, Ne.symm hki, if_false]
theorem Closed.waits {md : Region.Mode} {ops : Array Oper} {listed : Array Bool} (h : Closed md ops listed) {i j : Nat} {oj : Oper} (hoj : ops[j]? = some oj) (hj : j ∈ Region.ready md ops listed) (hw : waits md ops oj i = true) : listed.getD i false = true := by
  obtain ⟨_, oj', hoj', hall⟩ := mem_ready.1 hj
  cases hoj.symm.trans hoj'
  unfold Go.Abs.waits waits1 at hw
  simp only [Bool.or_eq_true, Array.any_eq_true', Bool.and_eq_true, beq_iff_eq] at hw
  rcases hw with ⟨e, he, hb, rfl⟩ | ⟨e, he, hb, hw⟩
  · exact hall e he hb
  · split at hw
    · rename_i o' ho'
      simp only [Array.any_eq_true', Bool.and_eq_true, beq_iff_eq] at hw
      obtain ⟨e', he', hb', rfl⟩ := hw
      exact h e.on o' ho' (hall e he hb) e' he' hb'
    · cases hw
/-- It waits for all the others that look at the memory. -/
def lastly (md : Region.Mode) (ops : Array Oper) (lk : Nat → Bool) (i : Nat) (o : Oper) : Bool := (List.range ops.size).all fun k => k == i || !(lk k) || waits md ops o k
/-- Whatever order is picked. -/
def AAny (P : Program) [Laid P] (md : Region.Mode) (ops : Array Oper) (lk : Nat → Bool) (R : AH → AH → Prop) (Q : Env → AH → Prop) : Nat → Array Bool → Env → AH → Prop
  | 0, listed, ρ, H => Region.ready md ops listed = [] ∧ Q ρ H
  | fuel + 1, listed, ρ, H => (Region.ready md ops listed = [] → Q ρ H) ∧ ∀ i ∈ Region.ready md ops listed, ∀ o, ops[i]? = some o →
      AStep P ops o ρ H fun ρ' H' => (lastly md ops lk i o = false → R H H') ∧ AAny P md ops lk R Q fuel (listed.setIfInBounds i true) ρ' H'

theorem AAny.sound {lk : Nat → Bool} {r : Fm} {C : Ctx} (hl : Laid.ok P C) {B : Loc} {R : AH → AH → Prop} {Q : Env → AH → Prop} {Q' : Exit → Act → World → Prop} : ∀ (fuel : Nat) (listed : Array Bool) {S : Loc} {ρ : Env} {H : AH} {a : Act} {w : World},
    (∀ a w, Lift C B Q a w → Q' .normal a w) → AAny P md ops lk R Q fuel listed ρ H → B.le S → HR C S H w → ER S ρ a → Dfr C S w a.defers → wpAnyIn (FF r.round) 0 P md ops Q' fuel listed a w
  | 0, listed, S, ρ, H, a, w, hQ, h, hB, hH, hE, hd => ⟨h.1, hQ _ _ ⟨S, ρ, H, hB, hH, hE, hd, h.2⟩⟩
  | fuel + 1, listed, S, ρ, H, a, w, hQ, h, hB, hH, hE, hd => by
    refine ⟨fun h0 => hQ _ _ ⟨S, ρ, H, hB, hH, hE, hd, h.1 h0⟩, fun i hi => ?_⟩
    obtain ⟨_, o, ho, _⟩ := mem_ready.1 hi
    refine wpOpIn_mono (fun a' w' ⟨S', ρ', H', hS, hH', hE', hd', hK⟩ => ?_) (AStep.sound (r := r) (Q := Q') ho (h.2 i hi o ho) hl hB hH hE hd)
    exact AAny.sound hl fuel _ hQ hK.2 hS hH' hE' hd'

theorem AAny.eqv {lk : Nat → Bool} {R : AH → AH → Prop} {Q : Env → AH → Prop} (hQ : ∀ ρ ρ' H, ρ.eqv ρ' → Q ρ H → Q ρ' H) : ∀ (fuel : Nat) (listed : Array Bool) (ρ ρ' : Env) (H : AH), ρ.eqv ρ' → AAny P md ops lk R Q fuel listed ρ H → AAny P md ops lk R Q fuel listed ρ' H
  | 0, listed, ρ, ρ', H, e, h => ⟨h.1, hQ _ _ _ e h.2⟩
  | fuel + 1, listed, ρ, ρ', H, e, h => ⟨fun h0 => hQ _ _ _ e (h.1 h0), fun i hi o ho => AStep_eqv e (fun ρ ρ' H e h => ⟨h.1, AAny.eqv hQ fuel _ _ _ _ e h.2⟩) (h.2 i hi o ho)⟩

/-- What yields may be taken first. -/
theorem AAny_first {lk : Nat → Bool} {R : AH → AH → Prop} {Q : Env → AH → Prop} (hr : ∀ H, R H H) (ht : ∀ H H' H'', R H H' → R H' H'' → R H H'') (hQ : ∀ ρ ρ' H, ρ.eqv ρ' → Q ρ H → Q ρ' H)
    {i : Nat} {oi : Oper} {v : V} (hi : ops[i]? = some oi) :
    ∀ (fuel : Nat) (listed : Array Bool) (ρ : Env) (H : AH),
      (∀ j oj, ops[j]? = some oj → j ≠ i → listed.getD j true = false → (∀ e ∈ oj.after, Region.binds md e = true → e.on ≠ i) → oi.apart ops oj = true) →
      Closed md ops listed → i ∈ Region.ready md ops listed → AYield P ops (fun H H' => lk i = true → R H H') oi v ρ H → AAny P md ops lk R Q fuel (listed.setIfInBounds i true) (ρ.put oi.dst v) H → AAny P md ops lk R Q (fuel + 1) listed ρ H := by
  intro fuel
  induction fuel with
  | zero =>
    intro listed ρ H _ hcl hrd hy hA
    refine ⟨fun h => (by rw [h] at hrd; cases hrd), fun j hj oj hoj => ?_⟩
    by_cases hji : j = i
    · subst hji
      cases hi.symm.trans hoj
      exact hy.step (fun H _ => hr H) ⟨fun _ => hr H, hA⟩
    · have := ready_mono hj hji
      rw [hA.1] at this
      cases this
  | succ fuel ih =>
    intro listed ρ H hfree hcl hrd hy hA
    refine ⟨fun h => (by rw [h] at hrd; cases hrd), fun j hj oj hoj => ?_⟩
    by_cases hji : j = i
    · subst hji
      cases hi.symm.trans hoj
      exact hy.step (fun H _ => hr H) ⟨fun _ => hr H, hA⟩
    · have h1 := hA.2 j (ready_mono hj hji) oj hoj
      obtain ⟨hjun, oj', hoj', hall⟩ := mem_ready.1 hj
      cases hoj.symm.trans hoj'
      have hnot : ∀ e ∈ oj.after, Region.binds md e = true → e.on ≠ i := fun e he hb heq => by
        have h1 := hall e he hb
        have h0 := (mem_ready.1 hrd).1
        rw [heq] at h1
        rcases Nat.lt_or_ge i listed.size with h' | h'
        · simp [h'] at h0 h1; rw [h0] at h1; cases h1
        · simp [Array.getElem?_eq_none h'] at h1
      obtain ⟨a1, a2, a3⟩ := Oper.apart_spec (hfree j oj hoj hji hjun hnot)
      refine AStep_mono (AStep_apart a1 h1) fun ρ' H' ⟨u, e, hR, hA'⟩ => ?_
      subst e
      rw [Array.setIfInBounds_comm _ _ (Ne.symm hji)] at hA'
      have hRR : lk i = true → R H H' := fun hlk => by
        cases hl : lastly md ops lk j oj with
        | false => exact hR hl
        | true =>
          exfalso
          have hlt : i < ops.size := (Array.getElem?_eq_some_iff.1 hi).1
          have := List.all_eq_true.1 hl i (List.mem_range.2 hlt)
          simp only [Bool.or_eq_true, beq_iff_eq, Ne.symm hji, false_or, hlk, Bool.not_true, Bool.false_eq_true] at this
          have h1 := hcl.waits hoj hj this
          have h0 := (mem_ready.1 hrd).1
          rcases Nat.lt_or_ge i listed.size with h' | h'
          · simp [h'] at h0 h1; rw [h0] at h1; cases h1
          · simp [Array.getElem?_eq_none h'] at h1
      refine ⟨fun hl => hR hl, ih _ _ _ ?_ (hcl.set hj) (ready_mono hrd (Ne.symm hji)) (hy.keep (fun H H' H'' a b hx => ht _ _ _ (a hx) (b hx)) a3 hRR) (AAny.eqv hQ _ _ _ _ _ (Env.put_comm ρ v u a2) hA')⟩
      intro k ok hk hki hun hno
      refine hfree k ok hk hki ?_ hno
      by_cases hjk : j = k
      · subst hjk; exact hjun
      · rw [getD_set_ne true hjk] at hun; exact hun
end
end Go.Abs

set_option linter.unusedVariables false
set_option linter.unusedSimpArgs false
set_option linter.unusedSectionVars false
namespace Go.Abs
open Go Go.RowKit

/-- Does it leave the memory alone, and (ext = false) not even look at it? -/
def lightConv (P : Program) (ext : Bool) (src dst : TypeId) : Bool :=
  match P.underlying dst with
  | some (.int _) => true
  | some .string => match P.underlying src with
    | some .string => true
    | _ => ext
  | _ => false
def nilC : Operand → Bool
  | .const (.pointer none) => true
  | _ => false
theorem nilC_eq {x : Operand} (h : nilC x = true) : x = .const (.pointer none) := by
  unfold nilC at h; split at h
  · rfl
  · cases h
def lightBin (P : Program) (t : TypeId) (x y : Operand) : Bool := match P.underlying t with
  | some (.pointer _) => nilC x || nilC y
  | _ => true
def light (P : Program) (ext : Bool) : Op → Bool
  | .binOp _ t x y _ => lightBin P t x y
  | .move _ | .assign _ | .pick .. | .build .. | .nilCheck _ | .unOp .. | .makeInterface .. | .makeFunc .. | .fieldAddr .. | .field .. | .indexAddr .. | .index .. | .extract .. => true
  | .load .. | .lookup .. | .slice .. => ext
  | .convert src dst _ => lightConv P ext src dst
  | .call { callee := .builtin b, .. } => match b with
    | .min | .max => true
    | .len => ext
    | _ => false
  | _ => false

/-- The object that a value names. -/
def rid : V → Option Nat
  | .p (some (id, _, _)) => some id
  | .sl (some (id, _, _)) _ _ => some id
  | .m (some id) => some id
  | _ => none
/-- What an operation that looks at the memory looks through. -/
def through (op : Op) (ev : Operand → V) : V :=
  match op with
  | .load _ a => ev a
  | .lookup _ x _ _ => ev x
  | .slice _ x _ _ _ => ev x
  | .convert _ _ x => ev x
  | .call { callee := .builtin b, args, .. } => match b, args.toList with
    | .len, a :: _ => ev a
    | _, _ => .un
  | _ => .un
/-- Nothing below 'lo' was written. -/
def Keep (lo : Nat) (H H' : AH) : Prop := H.next ≤ H'.next ∧ ∀ j, j < H.next → j < lo → H'.get j = H.get j
theorem Keep.refl (lo : Nat) (H : AH) : Keep lo H H := ⟨Nat.le_refl _, fun _ _ _ => rfl⟩
theorem Keep.trans {lo lo' : Nat} {H H' H'' : AH} (h : Keep lo H H') (k : Keep lo' H' H'') (hl : lo' ≤ lo) : Keep lo' H H'' :=
  ⟨Nat.le_trans h.1 k.1, fun j hj hjl => by rw [k.2 j (Nat.lt_of_lt_of_le hj h.1) hjl, h.2 j hj (Nat.lt_of_lt_of_le hjl hl)]⟩
theorem Keep.mono {lo lo' : Nat} {H H' : AH} (h : Keep lo H H') (hl : lo' ≤ lo) : Keep lo' H H' := ⟨h.1, fun j hj hjl => h.2 j hj (Nat.lt_of_lt_of_le hjl hl)⟩
theorem Keep.new (lo : Nat) (H : AH) (o : O) : Keep lo H (H.new o) := ⟨Nat.le_succ _, fun j hj _ => by rw [AH.get_new, if_neg (by omega)]⟩
theorem Keep.set {lo : Nat} (H : AH) {k : Nat} (o : O) (hk : lo ≤ k) : Keep lo H (H.set k o) := ⟨Nat.le_refl _, fun j hj hl => AH.get_set_ne (by omega)⟩
theorem Keep.ext {lo : Nat} {H H' : AH} (h : Keep lo H H') (hl : H.next ≤ lo) : H.ext H' :=
  ⟨h.1, fun id o hg => by have := AH.get_lt hg; rw [h.2 id this (by omega)]; exact hg⟩

/-- How the memory may turn while operations of a region are put off: nothing old is touched; nothing that was there when the region began; these objects are not. -/
inductive Md where
  | ext
  | base (n0 : Nat)
  | only (ids : List Nat)
def RM (md : Md) (H H' : AH) : Prop := match md with
  | .ext => H.ext H'
  | .base n0 => Keep n0 H H'
  | .only ids => H.next ≤ H'.next ∧ ∀ j ∈ ids, j < H.next → H'.get j = H.get j
theorem RM.refl (md : Md) (H : AH) : RM md H H := by
  cases md with
  | ext => exact AH.ext.refl H
  | base n0 => exact Keep.refl _ _
  | only ids => exact ⟨Nat.le_refl _, fun _ _ _ => rfl⟩
theorem RM.trans {md : Md} {H H' H'' : AH} (h : RM md H H') (k : RM md H' H'') : RM md H H'' := by
  cases md with
  | ext => exact AH.ext.trans h k
  | base n0 => exact Keep.trans h k (Nat.le_refl _)
  | only ids => exact ⟨Nat.le_trans h.1 k.1, fun j hj hn => (k.2 j hj (Nat.lt_of_lt_of_le hn h.1)).trans (h.2 j hj hn)⟩
/-- The object that it names is the same. -/
def Same (x : V) (H H'' : AH) : Prop := ∀ id o, rid x = some id → H.get id = some o → H''.get id = some o
theorem AH.ext.same {H H'' : AH} (h : H.ext H'') (x : V) : Same x H H'' := fun id o _ hg => h.get id o hg

/-- May it be put first? -/
def tkOk (md : Md) (x : V) : Bool := match md, rid x with
  | .base n0, some id => Nat.ble (id + 1) n0
  | .only ids, some id => ids.contains id
  | _, _ => true
theorem RM.same {md : Md} {H H'' : AH} (h : RM md H H'') {x : V} (hx : tkOk md x = true) : Same x H H'' := by
  cases md with
  | ext => exact AH.ext.same h x
  | base n0 =>
    intro id o hr hg
    simp only [tkOk, hr] at hx
    have := AH.get_lt hg
    have h2 := Nat.le_of_ble_eq_true hx
    rw [h.2 id this (by omega)]; exact hg
  | only ids =>
    intro id o hr hg
    simp only [tkOk, hr] at hx
    rw [h.2 id (by simpa using hx) (AH.get_lt hg)]; exact hg

section
variable {P : Program} {H H' H'' : AH}
theorem aload_ext {t : TypeId} {a v : V} (h : aload P H t a = some v) (hx : Same a H H'') : aload P H'' t a = some v := by
  unfold aload at *
  split at h
  · split at h
    · rename_i hg; rw [hx _ _ rfl hg]; exact h
    · cases h
  · cases h
theorem aslice_ext {t : TypeId} {x : V} {lo hi mx : Option V} {v : V} (h : aslice P H t x lo hi mx = some v) (hx : Same x H H'') : aslice P H'' t x lo hi mx = some v := by
  unfold aslice at *
  split at h
  · exact h
  · exact h
  · split at h
    · split at h
      · rename_i h1 h2; rw [h1, hx _ _ rfl h2]; exact h
      · cases h
    · cases h
  · split at h
    · split at h
      · rename_i h1 h2; rw [h1, hx _ _ rfl h2]; exact h
      · cases h
    · cases h
  · cases h
theorem alen_ext {t : TypeId} {x v : V} (h : alen P H t x = some v) (hx : Same x H H'') : alen P H'' t x = some v := by
  unfold alen at *
  split at h
  · exact h
  · exact h
  · exact h
  · split at h
    · rename_i h1 h2; rw [h1, hx _ _ rfl h2]; exact h
    · cases h
  · cases h
theorem alookup_ext {t : TypeId} {x k : V} {ok : Bool} {v : V} (h : alookup P H t x k ok = some v) (hx : Same x H H'') : alookup P H'' t x k ok = some v := by
  unfold alookup at *
  split at h
  · split at h
    · rename_i hk
      rw [if_pos hk]
      cases x with
      | m a => cases a with
        | none => exact h
        | some id =>
          dsimp only at h ⊢
          cases hg : H.get id with
          | none => simp [hg] at h
          | some o => rw [hx _ _ rfl hg]; rw [hg] at h; exact h
      | _ => simp at h
    · cases h
  · cases h
theorem aconvert_light {ext : Bool} {src dst : TypeId} {x v : V} (hl : lightConv P ext src dst = true) (h : aconvert P H src dst x = some (v, H')) :
    H' = H ∧ ∀ H'', (ext = true → Same x H H'') → aconvert P H'' src dst x = some (v, H'') := by
  unfold lightConv at hl
  unfold aconvert at *
  split at h
  · rename_i hs hd; simp [hd] at hl
  · rename_i hs hd; simp [hd] at hl
  · simp at h; obtain ⟨rfl, rfl⟩ := h; exact ⟨rfl, fun H'' _ => by simp [*]⟩
  · rename_i hs hd; simp at h; obtain ⟨rfl, rfl⟩ := h; exact ⟨rfl, fun H'' _ => by simp [*]⟩
  · rename_i hs hd; simp [hd] at hl
  · rename_i hs hd
    split at h
    · simp at h; obtain ⟨rfl, rfl⟩ := h; exact ⟨rfl, fun H'' _ => by simp [*]⟩
    · cases h
  · rename_i e id g off len hs hd
    simp [hd, hs] at hl
    split at h
    · rename_i h1 h2
      split at h
      · rename_i h0; simp at h; obtain ⟨rfl, rfl⟩ := h; exact ⟨rfl, fun H'' hx => by simp [hs, hd, h1, (hx hl) _ _ rfl h2, h0]⟩
      · rename_i h0
        split at h
        · rename_i h3
          simp at h
          obtain ⟨l, hl', rfl, rfl⟩ := h
          exact ⟨rfl, fun H'' hx => by
            simp only [hs, hd, h1, (hx hl) _ _ rfl h2, h0, if_false, h3]
            rw [if_pos ⟨trivial, trivial⟩] <;> simp [hl']⟩
        · cases h
    · cases h
  · cases h

theorem abin2_light {op : BinOp} {t : TypeId} {x y : Operand} {ev : Operand → V} (hev : ev (.const (.pointer none)) = .p none) (hl : lightBin P t x y = true) (H H'' : AH) : abin2 P H op t (ev x) (ev y) = abin2 P H'' op t (ev x) (ev y) := by
  unfold lightBin at hl
  split at hl
  · rcases (Bool.or_eq_true _ _).mp hl with h | h <;> rw [nilC_eq h, hev]
    · rfl
    · cases ev x with
      | p q => cases q <;> rfl
      | _ => rfl
  · rename_i hp
    unfold abin2
    split
    · unfold apeq
      split
      · rename_i h1 h2 h3; exact absurd h1 (hp _)
      · rfl
    · rfl
theorem aop_light {ext : Bool} {op : Op} {ev : Operand → V} (hev : ev (.const (.pointer none)) = .p none) {v : V} (hl : light P ext op = true) (h : aop P op ev H = some (v, H')) :
    H' = H ∧ ∀ H'', (ext = true → Same (through op ev) H H'') → aop P op ev H'' = some (v, H'') := by
  have mp : ∀ (x : V) (f : AH → Option V), (∀ H'', (ext = true → Same x H H'') → ∀ v, f H = some v → f H'' = some v) → (f H).map (·, H) = some (v, H') → H' = H ∧ ∀ H'', (ext = true → Same x H H'') → (f H'').map (·, H'') = some (v, H'') := by
    intro x f hf h
    cases hfh : f H with
    | none => rw [hfh] at h; cases h
    | some v' =>
      rw [hfh] at h
      cases h
      exact ⟨rfl, fun H'' hx => by simp [hf H'' hx v hfh]⟩
  cases op <;> simp only [light] at hl <;> try (exfalso; simp at hl; done)
  case move x => simp [aop] at h ⊢; obtain ⟨rfl, rfl⟩ := h; exact ⟨rfl, fun _ _ => rfl⟩
  case assign x => simp [aop] at h ⊢; obtain ⟨rfl, rfl⟩ := h; exact ⟨rfl, fun _ _ => rfl⟩
  case pick c a b =>
    unfold aop at *
    dsimp only at *
    split at h <;> simp at h <;> obtain ⟨rfl, rfl⟩ := h <;> simp [*]
  case build t ps => exact mp _ (fun _ => abuild P t _) (fun _ _ _ h => h) h
  case load t a => exact mp _ (fun H => aload P H t (ev a)) (fun _ hx _ h => aload_ext h (hx hl)) h
  case nilCheck x =>
    unfold aop at *
    dsimp only at *
    split at h <;> simp at h <;> obtain ⟨rfl, rfl⟩ := h <;> simp [*]
  case binOp op t x y _ => exact mp _ (fun H => abin2 P H op t (ev x) (ev y)) (fun H'' _ v h => by rw [abin2_light hev hl H'' H]; exact h) h
  case unOp op t x => exact mp _ (fun _ => aunary op (ev x)) (fun _ _ _ h => h) h
  case convert src dst x => exact aconvert_light hl h
  case makeInterface t x =>
    unfold aop at *
    dsimp only at *
    split at h <;> simp at h
    obtain ⟨rfl, rfl⟩ := h
    exact ⟨rfl, fun _ _ => by simp [*]⟩
  case makeFunc fn a b => simp [aop] at h ⊢; obtain ⟨rfl, rfl⟩ := h; exact ⟨rfl, fun _ _ => rfl⟩
  case slice t x lo hi mx => exact mp _ (fun H => aslice P H t (ev x) (evo ev lo) (evo ev hi) (evo ev mx)) (fun _ hx _ h => aslice_ext h (hx hl)) h
  case fieldAddr t x f => exact mp _ (fun _ => afieldAddr P t f (ev x)) (fun _ _ _ h => h) h
  case field t x f => exact mp _ (fun _ => afield P t f (ev x)) (fun _ _ _ h => h) h
  case indexAddr t x i => exact mp _ (fun _ => aindexAddr P t (ev x) (ev i)) (fun _ _ _ h => h) h
  case index t x i => exact mp _ (fun _ => aindex P t (ev x) (ev i)) (fun _ _ _ h => h) h
  case lookup t x k ok => exact mp _ (fun H => alookup P H t (ev x) (ev k) ok) (fun _ hx _ h => alookup_ext h (hx hl)) h
  case extract x i =>
    unfold aop at *
    dsimp only at *
    split at h
    · rename_i l hl
      exact mp _ (fun _ => l[i]?) (fun _ _ _ h => h) h
    · cases h
  case call c =>
    obtain ⟨cal, args, ats⟩ := c
    cases cal with
    | value f => simp at hl
    | invoke r m => simp at hl
    | builtin b =>
      unfold aop at *
      dsimp only at *
      split at h
      case h_1 x t ha _ =>
        cases hargs : args.toList with
        | nil => simp [hargs] at ha
        | cons a l =>
          simp only [hargs, List.map_cons, List.cons.injEq] at ha
          refine mp _ (fun H => alen P H _ _) (fun _ hx _ h => alen_ext h ?_) h
          have := hx hl
          simp only [through, hargs] at this
          rw [ha.1] at this; exact this
      case h_2 => exact absurd hl Bool.false_ne_true
      case h_3 => exact mp _ (fun _ => afold amin2 _ _) (fun _ _ _ h => h) h
      case h_4 => exact mp _ (fun _ => afold amax2 _ _) (fun _ _ _ h => h) h
      case h_5 => exact absurd hl Bool.false_ne_true
      case h_6 => exact absurd hl Bool.false_ne_true
      case h_7 => exact absurd hl Bool.false_ne_true
      case h_8 => cases h
end

/-- An order for a region that draws one; where several may come and it matters, each of them. -/
inductive Plan where
  | done
  | take (i : Nat) (p : Plan)
  | alt (i : Nat) (x : Bool) (p q : Plan)
  | stop
  deriving Repr, Inhabited
def Plan.alts : Plan → List Nat
  | .alt i _ _ q => i :: q.alts
  | _ => []
def Plan.depth : Plan → Nat
  | .take _ p => p.depth + 1
  | .alt _ _ p q => max (p.depth + 1) q.depth
  | _ => 0

def APlan (P : Program) [Laid P] (ops : Array Oper) (md : Md) : Plan → (Env → AH → Prop) → Env → AH → Prop
  | .done, K, ρ, H => K ρ H
  | .take i p, K, ρ, H => match ops[i]? with
    | some o => tkOk md (through o.op (aev ρ)) = true ∧ AStep P ops o ρ H (APlan P ops md p K)
    | none => False
  | .alt i x p q, K, ρ, H => (match ops[i]? with
    | some o => AStep P ops o ρ H (fun ρ' H' => (if x then RM md H H' else True) ∧ APlan P ops md p K ρ' H')
    | none => False) ∧ APlan P ops md q K ρ H
  | .stop, K, ρ, H => True

/-- Does the k-th operation look at the memory, and do no more? -/
def looks (P : Program) (ops : Array Oper) (k : Nat) : Bool := match ops[k]? with | some o => light P true o.op && !light P false o.op | none => false
def planOk (P : Program) (md : Region.Mode) (ops : Array Oper) (ext : Bool) : Plan → Bool → Array Bool → Bool
  | .done, _, l => (Region.ready md ops l).isEmpty
  | .take i p, _, l => (match ops[i]? with | some o => light P ext o.op | none => false) && (Region.ready md ops l).contains i && Region.free md ops l i && planOk P md ops ext p true (l.setIfInBounds i true)
  | .alt i x p q, first, l => (!first || (Region.ready md ops l == i :: q.alts)) && (x || !ext || (match ops[i]? with | some o => lastly md ops (looks P ops) i o | none => false)) && planOk P md ops ext p true (l.setIfInBounds i true) && planOk P md ops ext q false l
  | .stop, first, _ => !first

section
variable {P : Program} [Laid P] {ops : Array Oper} {md : Region.Mode}

theorem AStep_light {ext : Bool} {md : Md} {o : Oper} {ρ : Env} {H : AH} {K : Env → AH → Prop} (hl : light P ext o.op = true) (htk : tkOk md (through o.op (aev ρ)) = true) (h : AStep P ops o ρ H K) :
    ∃ v, AYield P ops (fun H H' => ext = true → RM md H H') o v ρ H ∧ K (ρ.put o.dst v) H := by
  have key : ∀ K' : V → AH → Prop, AOp P o ρ H K' → ∃ v, (∀ H', (ext = true → RM md H H') → aop P o.op (aev ρ) H' = some (v, H')) ∧ K' v H := by
    intro K' h
    unfold AOp at h
    split at h
    · rename_i f args ats hop
      rw [hop] at hl; simp [light] at hl
    · rename_i it hop
      rw [hop] at hl; simp [light] at hl
    · obtain ⟨v, H', h1, h2⟩ := h
      obtain ⟨rfl, h3⟩ := aop_light rfl hl h1
      exact ⟨v, fun H' hx => h3 H' fun he => (hx he).same htk, h2⟩
  unfold AStep at h
  unfold AYield
  cases hg : o.guard with
  | none =>
    simp only [hg] at h
    exact key _ h
  | some jw =>
    obtain ⟨j, want⟩ := jw
    simp only [hg] at h ⊢
    cases hy : ayielded ops ρ j with
    | none => simp only [hy] at h
    | some r =>
      simp only [hy] at h ⊢
      by_cases hrw : (r == some want) = true
      · simp only [hrw, if_true] at h ⊢; exact key _ h
      · simp only [hrw, Bool.false_eq_true, if_false] at h ⊢; exact ⟨_, rfl, h⟩

theorem APlan_mono {md' : Md} {K K' : Env → AH → Prop} (hk : ∀ ρ H, K ρ H → K' ρ H) : ∀ (p : Plan) (ρ : Env) (H : AH), APlan P ops md' p K ρ H → APlan P ops md' p K' ρ H
  | .done, ρ, H, h => hk _ _ h
  | .take i p, ρ, H, h => by
    unfold APlan at *
    split at h
    · exact ⟨h.1, AStep_mono h.2 (APlan_mono hk p)⟩
    · exact h.elim
  | .alt i x p q, ρ, H, h => by
    unfold APlan at *
    refine ⟨?_, APlan_mono hk q _ _ h.2⟩
    have h1 := h.1
    split at h1
    · exact AStep_mono h1 fun ρ H h => ⟨h.1, APlan_mono hk p _ _ h.2⟩
    · exact h1.elim
  | .stop, ρ, H, h => trivial

theorem plan_sound {ext : Bool} {mm : Md} {K : Env → AH → Prop} (hK : ∀ ρ ρ' H, ρ.eqv ρ' → K ρ H → K ρ' H) : ∀ (p : Plan),
    (∀ (l : Array Bool) (fuel : Nat) (ρ : Env) (H : AH), Closed md ops l → p.depth ≤ fuel → planOk P md ops ext p true l = true → APlan P ops mm p K ρ H → AAny P md ops (looks P ops) (fun H H' => ext = true → RM mm H H') K fuel l ρ H) ∧
    (∀ (l : Array Bool) (fuel : Nat) (ρ : Env) (H : AH), Closed md ops l → (∀ j ∈ p.alts, j ∈ Region.ready md ops l) → p.depth ≤ fuel + 1 → planOk P md ops ext p false l = true → APlan P ops mm p K ρ H → ∀ i ∈ p.alts, ∀ o, ops[i]? = some o →
      AStep P ops o ρ H fun ρ' H' => (lastly md ops (looks P ops) i o = false → ext = true → RM mm H H') ∧ AAny P md ops (looks P ops) (fun H H' => ext = true → RM mm H H') K fuel (l.setIfInBounds i true) ρ' H')
  | .done => by
    refine ⟨fun l fuel ρ H hcl _ hok h => ?_, fun l fuel ρ H hcl _ _ hok h i hi => by cases hi⟩
    simp [planOk] at hok
    cases fuel with
    | zero => exact ⟨hok, h⟩
    | succ fuel => exact ⟨fun _ => h, fun i hi => by rw [hok] at hi; cases hi⟩
  | .stop => ⟨fun l fuel ρ H hcl _ hok h => by simp [planOk] at hok, fun l fuel ρ H hcl _ _ hok h i hi => by cases hi⟩
  | .take i p => by
    have ih := plan_sound (ext := ext) (mm := mm) hK p
    refine ⟨fun l fuel ρ H hcl hd hok h => ?_, fun l fuel ρ H hcl _ _ hok h i hi => by cases hi⟩
    cases fuel with
    | zero => simp [Plan.depth] at hd
    | succ fuel =>
      simp only [planOk, Bool.and_eq_true] at hok
      obtain ⟨⟨⟨h1, h2⟩, h3⟩, h4⟩ := hok
      cases ho : ops[i]? with
      | none => simp [ho] at h1
      | some o =>
        simp only [ho] at h1
        simp only [APlan, ho] at h
        have hlk : ∃ v, AYield P ops (fun H H' => looks P ops i = true → ext = true → RM mm H H') o v ρ H ∧ APlan P ops mm p K (ρ.put o.dst v) H := by
          cases hlo : looks P ops i with
          | true =>
            obtain ⟨v, hy, hp⟩ := AStep_light h1 h.1 h.2
            exact ⟨v, by simpa using hy, hp⟩
          | false =>
            have h0 : light P false o.op = true := by
              simp only [looks, ho] at hlo
              cases ext with
              | false => exact h1
              | true => simpa [h1] using hlo
            obtain ⟨v, hy, hp⟩ := AStep_light (ext := false) (md := .ext) h0 rfl h.2
            exact ⟨v, by simpa using hy, hp⟩
        obtain ⟨v, hy, hp⟩ := hlk
        exact AAny_first (fun H _ => RM.refl mm H) (fun H H' H'' a b hx => (a hx).trans (b hx)) hK ho fuel l ρ H (Region.free_spec ho h3) hcl (by simpa using h2) hy
          (ih.1 _ fuel _ _ (hcl.set (by simpa using h2)) (by simp [Plan.depth] at hd; omega) h4 hp)
  | .alt i x p q => by
    have ihp := plan_sound (ext := ext) (mm := mm) hK p
    have ihq := plan_sound (ext := ext) (mm := mm) hK q
    have second : ∀ (l : Array Bool) (fuel : Nat) (ρ : Env) (H : AH) (first : Bool), Closed md ops l → (∀ j ∈ (Plan.alt i x p q).alts, j ∈ Region.ready md ops l) → (Plan.alt i x p q).depth ≤ fuel + 1 → planOk P md ops ext (.alt i x p q) first l = true → APlan P ops mm (.alt i x p q) K ρ H → ∀ j ∈ (Plan.alt i x p q).alts, ∀ o, ops[j]? = some o →
        AStep P ops o ρ H fun ρ' H' => (lastly md ops (looks P ops) j o = false → ext = true → RM mm H H') ∧ AAny P md ops (looks P ops) (fun H H' => ext = true → RM mm H H') K fuel (l.setIfInBounds j true) ρ' H' := by
      intro l fuel ρ H first hcl hal hd hok h j hj o ho
      simp only [planOk, Bool.and_eq_true] at hok
      obtain ⟨⟨⟨h1, h2⟩, h3⟩, h4⟩ := hok
      simp only [Plan.depth, Nat.max_le] at hd
      unfold APlan at h
      simp only [Plan.alts, List.mem_cons] at hj
      rcases hj with rfl | hj
      · have h5 := h.1
        simp only [ho] at h5 h2
        refine AStep_mono h5 fun ρ' H' ⟨hx, hp⟩ => ⟨fun hl he => ?_, ihp.1 _ fuel _ _ (hcl.set (hal j (by simp [Plan.alts]))) (by omega) h3 hp⟩
        simp [hl, he] at h2
        subst h2
        simpa using hx
      · exact ihq.2 l fuel ρ H hcl (fun j hj => hal j (by simp [Plan.alts, hj])) (by omega) h4 h.2 j hj o ho
    refine ⟨fun l fuel ρ H hcl hd hok h => ?_, fun l fuel ρ H hcl hal hd hok h => second l fuel ρ H false hcl hal hd hok h⟩
    cases fuel with
    | zero => simp [Plan.depth] at hd
    | succ fuel =>
      have hr : Region.ready md ops l = i :: q.alts := by
        simp only [planOk, Bool.and_eq_true] at hok
        simpa using hok.1.1.1
      refine ⟨fun h0 => absurd (h0.symm.trans hr) (by simp), fun j hj o ho => ?_⟩
      rw [hr] at hj
      exact second l fuel ρ H true hcl (fun j hj => by rw [hr]; exact hj) hd hok h j hj o ho

/-- A region that draws its order. -/
theorem AW_region_draw (mm : Md) {r : Fm} {Q : Exit → Env → AH → Prop} {ρ : Env} {H : AH} {id : Nat} (pl : Plan) (ext : Bool) (hm : P.follows .mixedOrders = true) (hok : planOk P .any ops ext pl true (Array.replicate ops.size false) = true) (hdep : pl.depth ≤ ops.size)
    (h : APlan P ops mm pl (Q .normal) ρ H) : AW r P (.region id ops true) Q ρ H := by
  intro C B S a w hl hB hH hE hd
  refine wpIn_region_any hm ?_
  have hA := (plan_sound (ext := ext) (mm := mm) (K := fun ρ H => ∃ ρ0, ρ0.eqv ρ ∧ Q .normal ρ0 H) (fun ρ ρ' H e ⟨ρ0, e0, hq⟩ => ⟨ρ0, e0.trans e, hq⟩) pl).1 _ ops.size ρ H (Closed.none _) hdep hok (APlan_mono (fun ρ H h => ⟨ρ, .refl ρ, h⟩) pl _ _ h)
  refine AAny.sound (r := r) (C := C) (B := B) hl _ _ (fun a w hl => ?_) hA hB.2 hH.drew hE hd.drew
  obtain ⟨S', ρ', H', h1, h2, h3, h4, ρ0, e0, h5⟩ := hl
  exact ⟨S', ρ0, H', h1, h2, ER_eqv e0.symm h3, h4, h5⟩
end
end Go.Abs

set_option linter.unusedVariables false
set_option linter.unusedSimpArgs false
namespace Go.Abs
open Go Go.RowKit

def extVal (P : Program) (g : FuncId) (args : List V) (H : AH) : Option (V × AH) :=
  match P.funcs[g]? with
  | none => none
  | some fn => match fn.body with
    | some _ => none
    | none => match (Extern.findNext fn).isNone with
      | false => none
      | true => match fn.name == "internal/abi.NoEscape" with
        | true => match args with
          | [x] => some (x, H)
          | _ => none
        | false => match fn.name == "maps.clone" with
          | false => none
          | true => match args with
            | [.ifc t (.m (some id))] => match H.get id with
              | some (.map es clock) => some (.ifc t (.m (some H.next)), H.new (.map es clock))
              | _ => none
            | _ => none
theorem find_noEscape {fn : Func} (h : fn.name = "internal/abi.NoEscape") : Extern.find fn = some Extern.AbiNoEscape.same := by
  have h1 : Extern.allGenericRows.lookup "internal/abi.NoEscape" = none := by kernel_rfl
  have h2 : Extern.allTypedRows.lookup "internal/abi.NoEscape" = none := by kernel_rfl
  have h3 : Extern.allRows.lookup "internal/abi.NoEscape" = some Extern.AbiNoEscape.same := by kernel_rfl
  simp [Extern.find, h, h1, h2, h3]
theorem find_clone {fn : Func} (h : fn.name = "maps.clone") : Extern.find fn = some Extern.MapsClone.clone := by
  have h1 : Extern.allGenericRows.lookup "maps.clone" = none := by kernel_rfl
  have h2 : Extern.allTypedRows.lookup "maps.clone" = none := by kernel_rfl
  have h3 : Extern.allRows.lookup "maps.clone" = some Extern.MapsClone.clone := by kernel_rfl
  simp [Extern.find, h, h1, h2, h3]
theorem extVal_keep {P : Program} {g : FuncId} {args : List V} {H : AH} {v : V} {H' : AH} (h : extVal P g args H = some (v, H')) (lo : Nat) : Keep lo H H' := by
  unfold extVal at h
  split at h
  · cases h
  · split at h
    · cases h
    · split at h
      · cases h
      · split at h
        · split at h
          · cases h; exact Keep.refl _ _
          · cases h
        · split at h
          · cases h
          · split at h
            · split at h
              · cases h; exact ⟨Nat.le_succ _, fun j hj _ => by rw [AH.get_new, if_neg (by omega)]⟩
              · cases h
            · cases h
theorem extVal_ok {P : Program} [Laid P] {g : FuncId} {args : List V} {H : AH} {v : V} {H' : AH} (h : extVal P g args H = some (v, H')) : ACalls P g args H (fun r X => r = v ∧ X = H') := by
  unfold extVal at h
  split at h
  · cases h
  · rename_i fn hf
    split at h
    · cases h
    · rename_i hb
      split at h
      · cases h
      · rename_i hn
        have hn : Extern.findNext fn = none := by simpa using hn
        have hb' : fn.body.isNone = true := by simp [hb]
        split at h
        · rename_i hname
          have hname : fn.name = "internal/abi.NoEscape" := by simpa using hname
          have hng : (fn.name == "runtime.NumGoroutine") = false := by rw [hname]; decide
          split at h
          · rename_i x
            cases h
            refine .inr ⟨⟨fn, hf, hng, hb'⟩, fun C S cargs w hl hH hv => ?_⟩
            cases hv with
            | cons _ c _ _ hc ht =>
              cases ht
              exact ⟨v, c, S, H, w, by rw [run_callFunc_extern hf hng hb' hn (find_noEscape hname)]; rfl, Loc.le.refl S, hc, hH, rfl, rfl⟩
          · cases h
        · split at h
          · cases h
          · rename_i hname
            have hname : fn.name = "maps.clone" := by simpa using hname
            have hng : (fn.name == "runtime.NumGoroutine") = false := by rw [hname]; decide
            split at h
            · rename_i t id
              split at h
              · rename_i es clock hg
                cases h
                refine .inr ⟨⟨fn, hf, hng, hb'⟩, fun C S cargs w hl hH hv => ?_⟩
                cases hv with
                | cons _ c _ _ hc ht =>
                  cases ht
                  cases hc with
                  | ifc _ _ c hc =>
                    cases hc with
                    | m _ r h1 h2 =>
                      obtain ⟨g0, ho, ces, hh, hk, hvv, hb3⟩ := hH.obj id _ hg
                      have := h2 g0
                      subst this
                      refine ⟨_, .iface t (.map (some w.heap.size)), S.add w.heap.size 0 0 0, _, { w with heap := w.heap.push (.map ces clock) }, ?_, Loc.le_add .., ?_, hH.new (.map es clock) (.map ces clock) 0 0 (g := 0) ⟨by simp [Loc.add], by simp [Loc.add], ces, by simp [Loc.add], hk.mono (Loc.le_add ..), hvv.mono (Loc.le_add ..), hb3⟩, rfl, rfl⟩
                      · rw [run_callFunc_extern hf hng hb' hn (find_clone hname)]
                        have hdef : Extern.MapsClone.clone #[.iface t (.map (some (S.blk id)))] = (do
                          let .map entries clock ← getObj (S.blk id) | stuck "maps.clone: a map expected"
                          pure (.iface t (.map (some (← newObj (.map entries clock)))))) := rfl
                        rw [show ([Value.iface t (.map (some (S.blk id)))] : List Value).toArray = #[.iface t (.map (some (S.blk id)))] from rfl, hdef]
                        have hget : (getObj (S.blk id)).run P w = .ok (.map ces clock) w := by simp [getObj, Sem.run, hh]
                        simp [hget]
                      · rw [hH.next]
                        exact .ifc _ _ _ (.m _ _ (by simp [Loc.add]) (fun _ => by simp [Loc.add]))
              · cases h
            · cases h
end Go.Abs

set_option linter.unusedVariables false
set_option linter.unusedSimpArgs false
set_option linter.unusedSectionVars false
namespace Go.Abs
open Go Go.RowKit

/-! Environments. -/
def Env.keep (ρ : Env) (idx : List Nat) : Env := ⟨ρ.n, idx.map fun t => (t, ρ.get t)⟩
theorem look_keep (f : Nat → V) : ∀ (idx : List Nat) (t : Nat), Env.look (idx.map fun t => (t, f t)) t = .un ∨ Env.look (idx.map fun t => (t, f t)) t = f t
  | [], t => .inl rfl
  | u :: idx, t => by
    simp only [List.map, Env.look]
    by_cases h : u = t
    · subst h; simp
    · simp only [h, if_false]; exact look_keep f idx t
theorem ER.keep {S : Loc} {ρ : Env} {a : Act} (h : ER S ρ a) (idx : List Nat) : ER S (ρ.keep idx) a := by
  refine ⟨h.1, fun t => ?_⟩
  rcases look_keep ρ.get idx t with e | e
  · have e2 : (ρ.keep idx).get t = .un := e
    rw [e2]; exact .un _
  · have e2 : (ρ.keep idx).get t = ρ.get t := e
    rw [e2]; exact h.2 t

/-- What an environment has to be for a shorter one to stand for it. -/
def Env.sub (ρ ρ0 : Env) : Prop := ρ0.n = ρ.n ∧ ∀ p ∈ ρ0.l, ρ.get p.1 = p.2
theorem look_sub (f : Nat → V) : ∀ (l : List (Nat × V)) (t : Nat), (∀ p ∈ l, f p.1 = p.2) → Env.look l t = .un ∨ Env.look l t = f t
  | [], t, h => .inl rfl
  | (u, v) :: l, t, h => by
    simp only [Env.look]
    by_cases e : u = t
    · subst e; simp only [if_true]; exact .inr (h (u, v) (by simp)).symm
    · simp only [e, if_false]; exact look_sub f l t fun p hp => h p (by simp [hp])
theorem ER.sub {S : Loc} {ρ ρ0 : Env} {a : Act} (h : ER S ρ a) (hs : ρ.sub ρ0) : ER S ρ0 a := by
  refine ⟨h.1.trans hs.1.symm, fun t => ?_⟩
  rcases look_sub ρ.get ρ0.l t hs.2 with e | e
  · have e2 : ρ0.get t = .un := e
    rw [e2]; exact .un _
  · have e2 : ρ0.get t = ρ.get t := e
    rw [e2]; exact h.2 t
@[simp] theorem sub_mk (ρ : Env) (n : Nat) (l : List (Nat × V)) : ρ.sub ⟨n, l⟩ ↔ n = ρ.n ∧ ∀ p ∈ l, ρ.get p.1 = p.2 := Iff.rfl

@[simp] theorem get_put (ρ : Env) (d : Nat) (v : V) (t : Nat) : (ρ.put (some d) v).get t = if d = t then (if d < ρ.n then v else .un) else ρ.get t := (rfl)
@[simp] theorem put_none (ρ : Env) (v : V) : ρ.put none v = ρ := (rfl)
@[simp] theorem put_n (ρ : Env) (d : Option Tmp) (v : V) : (ρ.put d v).n = ρ.n := by cases d <;> rfl
@[simp] theorem get_mk_cons (n t u : Nat) (v : V) (l : List (Nat × V)) : (Env.mk n ((u, v) :: l)).get t = if u = t then v else (Env.mk n l).get t := (rfl)
@[simp] theorem get_mk_nil (n t : Nat) : (Env.mk n []).get t = .un := (rfl)
@[simp] theorem mk_n (n : Nat) (l : List (Nat × V)) : (Env.mk n l).n = n := (rfl)
theorem init_eq (n : Nat) (args : List V) : Env.init n args = ⟨args.length + (n - args.length), Env.zip 0 args⟩ := rfl
@[simp] theorem zip_nil (i : Nat) : Env.zip i [] = [] := (rfl)
@[simp] theorem zip_cons (i : Nat) (v : V) (l : List V) : Env.zip i (v :: l) = (i, v) :: Env.zip (i + 1) l := (rfl)
@[simp] theorem keep_eq (ρ : Env) (idx : List Nat) : ρ.keep idx = ⟨ρ.n, idx.map fun t => (t, ρ.get t)⟩ := (rfl)
@[simp] theorem aev_tmp (ρ : Env) (t : Nat) : aev ρ (.tmp t) = ρ.get t := (rfl)
@[simp] theorem aev_func (ρ : Env) (f : Nat) : aev ρ (.func f) = .fn (.func f) [] [] := (rfl)
@[simp] theorem aev_bool (ρ : Env) (b : Bool) : aev ρ (.const (.bool b)) = .b b := (rfl)
@[simp] theorem aev_int (ρ : Env) (k : IntKind) (n : Int) : aev ρ (.const (.int k n)) = .i k n := (rfl)
@[simp] theorem aev_string (ρ : Env) (c : ByteArray) : aev ρ (.const (.string c)) = .s c.data.toList := (rfl)
@[simp] theorem aev_pnil (ρ : Env) : aev ρ (.const (.pointer none)) = .p none := (rfl)
@[simp] theorem aev_slnil (ρ : Env) : aev ρ (.const (.slice none 0 0)) = .sl none 0 false := (rfl)
@[simp] theorem aev_mnil (ρ : Env) : aev ρ (.const (.map none)) = .m none := (rfl)
@[simp] theorem aev_fnil (ρ : Env) : aev ρ (.const .nilFunc) = .nf := (rfl)
@[simp] theorem aev_inil (ρ : Env) : aev ρ (.const .nilIface) = .nif := (rfl)
@[simp] theorem aev_agg (ρ : Env) (cs : Array Value) : aev ρ (.const (.agg cs)) = absV (.agg cs) := (rfl)

section
variable {P : Program} [Laid P] {ops : Array Oper} {ρ : Env} {H : AH}

@[simp] theorem AOps_nil {K : Env → AH → Prop} : AOps P ops [] K ρ H = K ρ H := (rfl)
@[simp] theorem AOps_cons {o : Oper} {l : List Oper} {K : Env → AH → Prop} : AOps P ops (o :: l) K ρ H = AStep P ops o ρ H (AOps P ops l K) := (rfl)

section
variable {K : Env → AH → Prop} {d : Option Tmp} {op : Op} {ty : TypeId} {pos : String} {aft : Array Edge}
@[simp] theorem AStep_none : AStep P ops ⟨d, op, ty, pos, aft, none⟩ ρ H K = AOp P ⟨d, op, ty, pos, aft, none⟩ ρ H (fun v H' => K (ρ.put d v) H') := (rfl)
/-- What a guard's temporary says. -/
def guardSays (v : V) : Option (Option Bool) :=
  match v with
  | .b b => some (some b)
  | .tup [] => some none
  | _ => none
@[simp] theorem guardSays_b (b : Bool) : guardSays (.b b) = some (some b) := (rfl)
@[simp] theorem guardSays_tup : guardSays (.tup []) = some none := (rfl)
/-- A guarded operation: 'x' is what the guard yielded. -/
def AGuard (P : Program) [Laid P] (o : Oper) (want : Bool) (ρ : Env) (H : AH) (K : Env → AH → Prop) (x : Option (Option Bool)) : Prop :=
  match x with
  | some r => if r == some want then AOp P o ρ H (fun v H' => K (ρ.put o.dst v) H') else K (ρ.put o.dst (.tup [])) H
  | none => False
def yieldedAt (ρ : Env) (x : Option Tmp) : Option (Option Bool) :=
  match x with
  | none => some none
  | some t => if t < ρ.n then guardSays (ρ.get t) else none
@[simp] theorem yieldedAt_some (ρ : Env) (t : Nat) : yieldedAt ρ (some t) = if t < ρ.n then guardSays (ρ.get t) else none := (rfl)
@[simp] theorem AStep_some {j : Nat} {want : Bool} :
    AStep P ops ⟨d, op, ty, pos, aft, some (j, want)⟩ ρ H K = AGuard P ⟨d, op, ty, pos, aft, some (j, want)⟩ want ρ H K (yieldedAt ρ ((ops[j]?).bind fun o => o.dst)) := by
  have e : ayielded ops ρ j = yieldedAt ρ ((ops[j]?).bind fun o => o.dst) := by
    unfold ayielded yieldedAt guardSays
    cases (ops[j]?).bind fun o => o.dst <;> rfl
  unfold AStep AGuard
  rw [← e] <;> rfl
@[simp] theorem AGuard_yes {want : Bool} {g : Option (Nat × Bool)} : AGuard P ⟨d, op, ty, pos, aft, g⟩ want ρ H K (some (some want)) = AOp P ⟨d, op, ty, pos, aft, g⟩ ρ H (fun v H' => K (ρ.put d v) H') := by
  simp [AGuard]
@[simp] theorem AGuard_tf {g : Option (Nat × Bool)} : AGuard P ⟨d, op, ty, pos, aft, g⟩ true ρ H K (some (some false)) = K (ρ.put d (.tup [])) H := (rfl)
@[simp] theorem AGuard_ft {g : Option (Nat × Bool)} : AGuard P ⟨d, op, ty, pos, aft, g⟩ false ρ H K (some (some true)) = K (ρ.put d (.tup [])) H := (rfl)
@[simp] theorem AGuard_none {want : Bool} {g : Option (Nat × Bool)} : AGuard P ⟨d, op, ty, pos, aft, g⟩ want ρ H K (some none) = K (ρ.put d (.tup [])) H := (rfl)
end

section
variable {K : V → AH → Prop} {d : Option Tmp} {ty : TypeId} {pos : String} {aft : Array Edge} {g : Option (Nat × Bool)}
theorem ex_some {v : V} {H0 : AH} : (∃ v' H', some (v, H0) = some (v', H') ∧ K v' H') = K v H0 := by
  apply propext; constructor
  · rintro ⟨v', H', e, h⟩; cases e; exact h
  · exact fun h => ⟨v, H0, rfl, h⟩
theorem ex_map {x : Option V} : (∃ v H', x.map (·, H) = some (v, H') ∧ K v H') = (∃ v, x = some v ∧ K v H) := by
  apply propext; constructor
  · rintro ⟨v, H', e, h⟩
    cases x with
    | none => cases e
    | some y => cases e; exact ⟨_, rfl, h⟩
  · rintro ⟨v, e, h⟩; exact ⟨v, H, by rw [e]; rfl, h⟩
theorem ex_mapH {x : Option AH} : (∃ v H', x.map (V.un, ·) = some (v, H') ∧ K v H') = (∃ H', x = some H' ∧ K .un H') := by
  apply propext; constructor
  · rintro ⟨v, H', e, h⟩
    cases x with
    | none => cases e
    | some y => cases e; exact ⟨_, rfl, h⟩
  · rintro ⟨v, e, h⟩; exact ⟨_, _, by rw [e]; rfl, h⟩
@[simp] theorem AOp_move {x : Operand} : AOp P ⟨d, .move x, ty, pos, aft, g⟩ ρ H K = K (aev ρ x) H := ex_some
@[simp] theorem AOp_assign {x : Operand} : AOp P ⟨d, .assign x, ty, pos, aft, g⟩ ρ H K = K (aev ρ x) H := ex_some
def apick (c a b : V) : Option V := match c with | .b true => some a | .b false => some b | _ => none
@[simp] theorem apick_true (a b : V) : apick (.b true) a b = some a := (rfl)
@[simp] theorem apick_false (a b : V) : apick (.b false) a b = some b := (rfl)
@[simp] theorem AOp_pick {c a b : Operand} : AOp P ⟨d, .pick c a b, ty, pos, aft, g⟩ ρ H K = ∃ v, apick (aev ρ c) (aev ρ a) (aev ρ b) = some v ∧ K v H := by
  refine Eq.trans ?_ (ex_map (H := H))
  unfold AOp aop apick
  dsimp only
  generalize aev ρ c = x
  cases x <;> try rfl
  rename_i b; cases b <;> rfl
@[simp] theorem AOp_alloc {t : TypeId} : AOp P ⟨d, .alloc t, ty, pos, aft, g⟩ ρ H K = ∃ l, (qzero P t).bind V.cells = some l ∧ K (.p (some (H.next, qgen P t, 0))) (H.new (.cells l (qgen P t) false 0)) := by
  unfold AOp aop
  dsimp only
  cases qzero P t with
  | none => simp
  | some z =>
    dsimp only [Option.bind_some]
    cases hz : z.cells with
    | none => simp
    | some l => exact (ex_some).trans (by simp)
@[simp] theorem AOp_box {t : TypeId} {x : Operand} : AOp P ⟨d, .box t x, ty, pos, aft, g⟩ ρ H K = ∃ l, (aev ρ x).cells = some l ∧ K (.p (some (H.next, 0, 0))) (H.new (.cells l 0 false 0)) := by
  unfold AOp aop
  dsimp only
  cases hz : (aev ρ x).cells with
  | none => simp
  | some l => exact (ex_some).trans (by simp)
@[simp] theorem AOp_build {t : TypeId} {ps : Array (Nat × Operand)} : AOp P ⟨d, .build t ps, ty, pos, aft, g⟩ ρ H K = ∃ v, abuild P t (ps.toList.map fun (i, x) => (i, aev ρ x)) = some v ∧ K v H := ex_map (H := H)
@[simp] theorem AOp_buildSlice {t : TypeId} {n : Nat} {ps : Array (Nat × Operand)} : AOp P ⟨d, .buildSlice t n ps, ty, pos, aft, g⟩ ρ H K = ∃ v H', abuildSlice P H t n (ps.toList.map fun (i, x) => (i, aev ρ x)) = some (v, H') ∧ K v H' := (rfl)
@[simp] theorem AOp_load {t : TypeId} {a : Operand} : AOp P ⟨d, .load t a, ty, pos, aft, g⟩ ρ H K = ∃ v, aload P H t (aev ρ a) = some v ∧ K v H := ex_map (H := H)
@[simp] theorem AOp_store {t : TypeId} {a x : Operand} : AOp P ⟨d, .store t a x, ty, pos, aft, g⟩ ρ H K = ∃ H', astore P H t (aev ρ a) (aev ρ x) = some H' ∧ K .un H' := ex_mapH
def anil (v : V) : Option V := match v with | .p (some q) => some (.p (some q)) | .ifc t v => some (.ifc t v) | .fn (.func f) a b => some (.fn (.func f) a b) | _ => none
@[simp] theorem anil_p (q : Nat × Nat × Nat) : anil (.p (some q)) = some (.p (some q)) := (rfl)
@[simp] theorem AOp_nilCheck {x : Operand} : AOp P ⟨d, .nilCheck x, ty, pos, aft, g⟩ ρ H K = ∃ v, anil (aev ρ x) = some v ∧ K v H := by
  refine Eq.trans ?_ (ex_map (H := H))
  unfold AOp aop anil
  dsimp only
  generalize aev ρ x = v
  cases v <;> try rfl
  · rename_i x; cases x <;> rfl
  · rename_i f _ _; cases f <;> rfl
@[simp] theorem AOp_bin {op : BinOp} {t t2 : TypeId} {x y : Operand} : AOp P ⟨d, .binOp op t x y t2, ty, pos, aft, g⟩ ρ H K = ∃ v, abin2 P H op t (aev ρ x) (aev ρ y) = some v ∧ K v H := ex_map (H := H)
section
variable {op : BinOp} {t : TypeId} {y : V}
@[simp] theorem abin2_i (k : IntKind) (n : Int) : abin2 P H op t (.i k n) y = abin P op t (.i k n) y := (rfl)
@[simp] theorem abin2_b (b : Bool) : abin2 P H op t (.b b) y = abin P op t (.b b) y := (rfl)
@[simp] theorem abin2_s (l : List UInt8) : abin2 P H op t (.s l) y = abin P op t (.s l) y := (rfl)
@[simp] theorem abin2_pn : abin2 P H op t (.p none) y = abin P op t (.p none) y := (rfl)
@[simp] theorem abin2_ps (q : Nat × Nat × Nat) : abin2 P H op t (.p (some q)) (.p none) = abin P op t (.p (some q)) (.p none) := (rfl)
@[simp] theorem abin2_pp (q r : Nat × Nat × Nat) : abin2 P H op t (.p (some q)) (.p (some r)) = apeq P H op t (.p (some q)) (.p (some r)) := (rfl)
@[simp] theorem abin2_sl (q : Option (Nat × Nat × Nat)) (n : Nat) (c : Bool) : abin2 P H op t (.sl q n c) y = abin P op t (.sl q n c) y := (rfl)
@[simp] theorem abin2_m (q : Option Nat) : abin2 P H op t (.m q) y = abin P op t (.m q) y := (rfl)
@[simp] theorem abin2_fn (f : Fn) (a b : List V) : abin2 P H op t (.fn f a b) y = abin P op t (.fn f a b) y := (rfl)
@[simp] theorem abin2_nf : abin2 P H op t .nf y = abin P op t .nf y := (rfl)
@[simp] theorem abin2_ifc (u : TypeId) (v : V) : abin2 P H op t (.ifc u v) y = abin P op t (.ifc u v) y := (rfl)
@[simp] theorem abin2_nif : abin2 P H op t .nif y = abin P op t .nif y := (rfl)
@[simp] theorem abin2_agg (l : List V) : abin2 P H op t (.agg l) y = abin P op t (.agg l) y := (rfl)
@[simp] theorem abin2_tup (l : List V) : abin2 P H op t (.tup l) y = abin P op t (.tup l) y := (rfl)
end
@[simp] theorem AOp_un {op : UnOp} {t : TypeId} {x : Operand} : AOp P ⟨d, .unOp op t x, ty, pos, aft, g⟩ ρ H K = ∃ v, aunary op (aev ρ x) = some v ∧ K v H := ex_map (H := H)
@[simp] theorem AOp_convert {s t : TypeId} {x : Operand} : AOp P ⟨d, .convert s t x, ty, pos, aft, g⟩ ρ H K = ∃ v H', aconvert P H s t (aev ρ x) = some (v, H') ∧ K v H' := (rfl)
@[simp] theorem AOp_makeInterface {t : TypeId} {x : Operand} : AOp P ⟨d, .makeInterface t x, ty, pos, aft, g⟩ ρ H K = (qconcrete P t = true ∧ K (.ifc t (aev ρ x)) H) := by
  unfold AOp aop
  dsimp only
  cases qconcrete P t with
  | false => simp
  | true => simp only [if_true, true_and]; exact ex_some
@[simp] theorem AOp_makeFunc {f : Fn} {a b : Array Operand} : AOp P ⟨d, .makeFunc f a b, ty, pos, aft, g⟩ ρ H K = K (.fn f (evs (aev ρ) a) (evs (aev ρ) b)) H := ex_some
@[simp] theorem AOp_makeMap {t : TypeId} : AOp P ⟨d, .makeMap t none, ty, pos, aft, g⟩ ρ H K = K (.m (some H.next)) (H.new (.map [] 0)) := ex_some
@[simp] theorem AOp_slice {t : TypeId} {x : Operand} {lo hi mx : Option Operand} : AOp P ⟨d, .slice t x lo hi mx, ty, pos, aft, g⟩ ρ H K = ∃ v, aslice P H t (aev ρ x) (lo.map (aev ρ)) (hi.map (aev ρ)) (mx.map (aev ρ)) = some v ∧ K v H := ex_map (H := H)
@[simp] theorem AOp_fieldAddr {t : TypeId} {x : Operand} {f : Nat} : AOp P ⟨d, .fieldAddr t x f, ty, pos, aft, g⟩ ρ H K = ∃ v, afieldAddr P t f (aev ρ x) = some v ∧ K v H := ex_map (H := H)
@[simp] theorem AOp_field {t : TypeId} {x : Operand} {f : Nat} : AOp P ⟨d, .field t x f, ty, pos, aft, g⟩ ρ H K = ∃ v, afield P t f (aev ρ x) = some v ∧ K v H := ex_map (H := H)
@[simp] theorem AOp_indexAddr {t : TypeId} {x i : Operand} : AOp P ⟨d, .indexAddr t x i, ty, pos, aft, g⟩ ρ H K = ∃ v, aindexAddr P t (aev ρ x) (aev ρ i) = some v ∧ K v H := ex_map (H := H)
@[simp] theorem AOp_index {t : TypeId} {x i : Operand} : AOp P ⟨d, .index t x i, ty, pos, aft, g⟩ ρ H K = ∃ v, aindex P t (aev ρ x) (aev ρ i) = some v ∧ K v H := ex_map (H := H)
@[simp] theorem AOp_lookup {t : TypeId} {x i : Operand} {ok : Bool} : AOp P ⟨d, .lookup t x i ok, ty, pos, aft, g⟩ ρ H K = ∃ v, alookup P H t (aev ρ x) (aev ρ i) ok = some v ∧ K v H := ex_map (H := H)
@[simp] theorem AOp_mapUpdate {t : TypeId} {m k x : Operand} : AOp P ⟨d, .mapUpdate t m k x, ty, pos, aft, g⟩ ρ H K = ∃ H', amapUpdate P H t (aev ρ m) (aev ρ k) (aev ρ x) = some H' ∧ K .un H' := ex_mapH
@[simp] theorem AOp_insert {t : TypeId} {m k x : Operand} : AOp P ⟨d, .insert t m k x, ty, pos, aft, g⟩ ρ H K = ∃ H', amapUpdate P H t (aev ρ m) (aev ρ k) (aev ρ x) = some H' ∧ K .un H' := ex_mapH
def atup (v : V) (i : Nat) : Option V := match v with | .tup l => l[i]? | _ => none
@[simp] theorem atup_tup (l : List V) (i : Nat) : atup (.tup l) i = l[i]? := (rfl)
@[simp] theorem AOp_extract {x : Operand} {i : Nat} : AOp P ⟨d, .extract x i, ty, pos, aft, g⟩ ρ H K = ∃ v, atup (aev ρ x) i = some v ∧ K v H := by
  refine Eq.trans ?_ (ex_map (H := H))
  unfold AOp aop atup
  dsimp only
  generalize aev ρ x = v
  cases v <;> rfl
@[simp] theorem AOp_len {x : Operand} {t : TypeId} : AOp P ⟨d, .call { callee := .builtin .len, args := #[x], argTypes := #[t] }, ty, pos, aft, g⟩ ρ H K = ∃ v, alen P H t (aev ρ x) = some v ∧ K v H := ex_map (H := H)
@[simp] theorem AOp_append {s x : Operand} {t t2 : TypeId} : AOp P ⟨d, .call { callee := .builtin .append, args := #[s, x], argTypes := #[t, t2] }, ty, pos, aft, g⟩ ρ H K = ∃ v H', aappend P H t t2 (aev ρ s) (aev ρ x) = some (v, H') ∧ K v H' := (rfl)
@[simp] theorem AOp_delete {m k : Operand} {t t2 : TypeId} : AOp P ⟨d, .call { callee := .builtin .delete, args := #[m, k], argTypes := #[t, t2] }, ty, pos, aft, g⟩ ρ H K = ∃ H', adelete P H t (aev ρ m) (aev ρ k) = some H' ∧ K .un H' := ex_mapH
@[simp] theorem AOp_unsafeData {x : Operand} {ts : Array TypeId} : AOp P ⟨d, .call { callee := .builtin .unsafeSliceData, args := #[x], argTypes := ts }, ty, pos, aft, g⟩ ρ H K = ∃ v, aunsafeData (aev ρ x) = some v ∧ K v H := ex_map (H := H)
@[simp] theorem AOp_unsafeString {x y : Operand} {t t2 : TypeId} : AOp P ⟨d, .call { callee := .builtin .unsafeString, args := #[x, y], argTypes := #[t, t2] }, ty, pos, aft, g⟩ ρ H K = ∃ v H', aunsafeString P H t (aev ρ x) (aev ρ y) = some (v, H') ∧ K v H' := (rfl)
@[simp] theorem AOp_min {x y : Operand} {ts : Array TypeId} : AOp P ⟨d, .call { callee := .builtin .min, args := #[x, y], argTypes := ts }, ty, pos, aft, g⟩ ρ H K = ∃ v, amin2 (aev ρ x) (aev ρ y) = some v ∧ K v H := by
  refine Eq.trans ?_ (ex_map (H := H))
  have : afold amin2 (aev ρ x) [aev ρ y] = amin2 (aev ρ x) (aev ρ y) := by simp only [afold]; cases amin2 (aev ρ x) (aev ρ y) <;> rfl
  rw [← this]; rfl
@[simp] theorem AOp_max {x y : Operand} {ts : Array TypeId} : AOp P ⟨d, .call { callee := .builtin .max, args := #[x, y], argTypes := ts }, ty, pos, aft, g⟩ ρ H K = ∃ v, amax2 (aev ρ x) (aev ρ y) = some v ∧ K v H := by
  refine Eq.trans ?_ (ex_map (H := H))
  have : afold amax2 (aev ρ x) [aev ρ y] = amax2 (aev ρ x) (aev ρ y) := by simp only [afold]; cases amax2 (aev ρ x) (aev ρ y) <;> rfl
  rw [← this]; rfl
@[simp] theorem AOp_range {t : TypeId} {x : Operand} : AOp P ⟨d, .range t x, ty, pos, aft, g⟩ ρ H K = ∃ v H', arange P H t (aev ρ x) = some (v, H') ∧ K v H' := (rfl)
@[simp] theorem AOp_mapEntry {t : TypeId} {m k : Operand} : AOp P ⟨d, .mapEntry t m k, ty, pos, aft, g⟩ ρ H K = ∃ v H', amapEntry P H t (aev ρ m) (aev ρ k) = some (v, H') ∧ K v H' := (rfl)
@[simp] theorem AOp_entryStore {t : TypeId} {m b x : Operand} : AOp P ⟨d, .entryStore t m b x, ty, pos, aft, g⟩ ρ H K = ∃ H', aentryStore H (aev ρ m) (aev ρ b) (aev ρ x) = some H' ∧ K .un H' := ex_mapH
@[simp] theorem AOp_typeAssert {x : Operand} {t0 t : TypeId} {ok : Bool} : AOp P ⟨d, .typeAssert x t0 t ok, ty, pos, aft, g⟩ ρ H K = ∃ v, atypeAssert P t ok (aev ρ x) = some v ∧ K v H := ex_map (H := H)
@[simp] theorem AOp_entry {x : Operand} : AOp P ⟨d, .entry x, ty, pos, aft, g⟩ ρ H K = ∃ v, aentry H (aev ρ x) = some v ∧ K v H := ex_map (H := H)
@[simp] theorem AOp_nextS {x : Operand} : AOp P ⟨d, .next x true, ty, pos, aft, g⟩ ρ H K = ∃ v H', anextS H (aev ρ x) = some (v, H') ∧ K v H' := (rfl)
@[simp] theorem AOp_next {x : Operand} : AOp P ⟨d, .next x false, ty, pos, aft, g⟩ ρ H K = ANext H (aev ρ x) K := (rfl)
@[simp] theorem AOp_call {f : FuncId} {args : Array Operand} {ts : Array TypeId} : AOp P ⟨d, .call { callee := .value (.func f), args := args, argTypes := ts }, ty, pos, aft, g⟩ ρ H K = ACalls P f (args.toList.map (aev ρ)) H K := by
  unfold AOp
  simp [evs]
theorem AOp_callv {x : Operand} {args : Array Operand} {ts : Array TypeId} {f : FuncId} {first caps : List V} (hx : aev ρ x = .fn (.func f) first caps) : AOp P ⟨d, .call { callee := .value x, args := args, argTypes := ts }, ty, pos, aft, g⟩ ρ H K = ACalls P f (first ++ args.toList.map (aev ρ) ++ caps) H K := by
  unfold AOp
  simp only [hx, evs]
end

/-! Code. -/
variable {r : Fm} {Q : Exit → Env → AH → Prop}
/-- A region, in the text's order; what lives on is kept. -/
theorem AW_reg {id : Nat} (idx : List Nat) (h : ∀ K : Env → AH → Prop, (∀ ρ' H', Q .normal ρ' H' → K ρ' H') → AOps P ops ops.toList (fun ρ' H' => K (ρ'.keep idx) H') ρ H) : AW r P (.region id ops false) Q ρ H := by
  intro C B S a w hl hB hH hE hd
  refine wpIn_region ?_
  have := AOps.sound (r := r) (C := C) (S := S) (P := P) (B := B) (Q := fun e a' w' => Lift C B (Q e) a' w') hl ops.toList 0 (fun j o hj => by simpa using hj) (fun a w ⟨S', ρ', H', h1, h2, h3, h4, h5⟩ => ⟨S', ρ'.keep idx, H', h1, h2, h3.keep idx, h4, h5⟩) (h _ fun _ _ h => h) hB.2 hH hE hd
  rw [List.range_eq_range']
  simpa using this
/-- A region that ends in one known state, whatever way it takes. -/
theorem AW_regto {id : Nat} (idx : List Nat) (ρ1 : Env) (H1 : AH) (h : ∀ K : Env → AH → Prop, K ρ1 H1 → AOps P ops ops.toList (fun ρ' H' => K (ρ'.keep idx) H') ρ H) (hr : Q .normal ρ1 H1) : AW r P (.region id ops false) Q ρ H :=
  AW_reg idx fun K hK => h K (hK _ _ hr)
/-- A region that draws its order: 'mm' says what may turn while loads are put off. -/
theorem AW_regm (mm : Md) {id : Nat} (idx : List Nat) (pl : Plan) (ext : Bool) (hm : P.follows .mixedOrders = true) (hok : planOk P .any ops ext pl true (Array.replicate ops.size false) = true) (hdep : pl.depth ≤ ops.size)
    (h : ∀ K : Env → AH → Prop, (∀ ρ' H', Q .normal ρ' H' → K ρ' H') → APlan P ops mm pl (fun ρ' H' => K (ρ'.keep idx) H') ρ H) : AW r P (.region id ops true) Q ρ H := by
  have h1 : AW r P (.region id ops true) (fun e ρ H => match e with | .normal => Q .normal (ρ.keep idx) H | e => Q e ρ H) ρ H := AW_region_draw mm pl ext hm hok hdep (h _ fun _ _ h => h)
  intro C B S a w hl hB hH hE hd
  refine wpIn_mono (h1 C B S a w hl hB hH hE hd) fun e a w ⟨S', ρ', H', h1, h2, h3, h4, h5⟩ => ?_
  cases e with
  | normal => exact ⟨S', ρ'.keep idx, H', h1, h2, h3.keep idx, h4, h5⟩
  | exit id => exact ⟨S', ρ', H', h1, h2, h3, h4, h5⟩
  | goto id => exact ⟨S', ρ', H', h1, h2, h3, h4, h5⟩
  | ret => exact ⟨S', ρ', H', h1, h2, h3, h4, h5⟩
  | panic c => exact ⟨S', ρ', H', h1, h2, h3, h4, h5⟩
  | outgrown => exact ⟨S', ρ', H', h1, h2, h3, h4, h5⟩
/-- A region that draws its order. -/
theorem AW_regd {id : Nat} (idx : List Nat) (pl : Plan) (ext : Bool) (hm : P.follows .mixedOrders = true) (hok : planOk P .any ops ext pl true (Array.replicate ops.size false) = true) (hdep : pl.depth ≤ ops.size)
    (h : ∀ K : Env → AH → Prop, (∀ ρ' H', Q .normal ρ' H' → K ρ' H') → APlan P ops .ext pl (fun ρ' H' => K (ρ'.keep idx) H') ρ H) : AW r P (.region id ops true) Q ρ H :=
  AW_regm .ext idx pl ext hm hok hdep h
@[simp] theorem APlan_done {mm : Md} {K : Env → AH → Prop} : APlan P ops mm .done K ρ H = K ρ H := (rfl)
@[simp] theorem APlan_stop {mm : Md} {K : Env → AH → Prop} : APlan P ops mm .stop K ρ H = True := (rfl)
/-- The operation at a place of the region. -/
def AAt (P : Program) [Laid P] (ops : Array Oper) (x : Option Oper) (ρ : Env) (H : AH) (K : Env → AH → Prop) : Prop :=
  match x with
  | some o => AStep P ops o ρ H K
  | none => False
@[simp] theorem AAt_some {o : Oper} {K : Env → AH → Prop} : AAt P ops (some o) ρ H K = AStep P ops o ρ H K := (rfl)
/-- May it be put first? -/
def ATk (mm : Md) (x : Option Oper) (ρ : Env) : Prop :=
  match x with
  | some o => tkOk mm (through o.op (aev ρ)) = true
  | none => True
@[simp] theorem ATk_some {mm : Md} {o : Oper} : ATk mm (some o) ρ = (tkOk mm (through o.op (aev ρ)) = true) := (rfl)
theorem APlan_takem {mm : Md} {K : Env → AH → Prop} {i : Nat} {p : Plan} : APlan P ops mm (.take i p) K ρ H = (ATk mm (ops[i]?) ρ ∧ AAt P ops (ops[i]?) ρ H (APlan P ops mm p K)) := by
  unfold APlan ATk AAt
  cases ops[i]? <;> simp
@[simp] theorem APlan_take {K : Env → AH → Prop} {i : Nat} {p : Plan} : APlan P ops .ext (.take i p) K ρ H = AAt P ops (ops[i]?) ρ H (APlan P ops .ext p K) := by
  unfold APlan AAt
  cases ops[i]? <;> simp [tkOk]
@[simp] theorem APlan_alt {mm : Md} {K : Env → AH → Prop} {i : Nat} {p q : Plan} {x : Bool} : APlan P ops mm (.alt i x p q) K ρ H = (AAt P ops (ops[i]?) ρ H (fun ρ' H' => (if x then RM mm H H' else True) ∧ APlan P ops mm p K ρ' H') ∧ APlan P ops mm q K ρ H) := (rfl)
@[simp] theorem keep_new (lo : Nat) (H : AH) (o : O) : Keep lo H (H.new o) := Keep.new lo H o
@[simp] theorem keep_refl (lo : Nat) (H : AH) : Keep lo H H := Keep.refl lo H
@[simp] theorem keep_set {lo : Nat} (H : AH) {k : Nat} (o : O) (hk : lo ≤ k) : Keep lo H (H.set k o) := Keep.set H o hk
@[simp] theorem RM_some {n0 : Nat} {H H' : AH} : RM (.base n0) H H' = Keep n0 H H' := (rfl)
@[simp] theorem RM_none {H H' : AH} : RM .ext H H' = H.ext H' := (rfl)
@[simp] theorem RM_only {ids : List Nat} {H H' : AH} : RM (.only ids) H H' = (H.next ≤ H'.next ∧ ∀ j ∈ ids, j < H.next → H'.get j = H.get j) := (rfl)
@[simp] theorem ext_new (H : AH) (o : O) : H.ext (H.new o) := AH.ext.new H o
@[simp] theorem ext_refl (H : AH) : H.ext H := AH.ext.refl H
theorem AW_cond' {c : Operand} {x y : Code} {v : V} (hv : aev ρ c = v) {b : Bool} (hb : v = .b b) (h1 : b = true → AW r P x Q ρ H) (h2 : b = false → AW r P y Q ρ H) : AW r P (.cond c x y) Q ρ H := by
  refine AW_cond (hv.trans hb) ?_
  cases b
  · exact h2 rfl
  · exact h1 rfl
end

theorem AW_cut {r : Fm} {P : Program} [Laid P] {x y : Code} {Q : Exit → Env → AH → Prop} {ρ : Env} {H : AH} (M : Env → AH → Prop) (h1 : AW r P x (AThen (fun ρ H => ∃ ρ0, ρ.sub ρ0 ∧ M ρ0 H) Q) ρ H) (h2 : ∀ ρ H, M ρ H → AW r P y Q ρ H) : AW r P (.seq x y) Q ρ H := by
  refine AW_seq (h1.mono fun e ρ H h => ?_)
  cases e with
  | normal =>
    obtain ⟨ρ0, hs, hM⟩ := h
    exact fun C B S a w hl hB hH hE hd => h2 ρ0 H hM C B S a w hl hB hH (hE.sub hs) hd
  | exit id => exact h
  | goto l => exact h
  | ret => exact h
  | panic c => exact h
  | outgrown => exact h
/-- A part that ends in one known state. -/
theorem AW_cutto {r : Fm} {P : Program} [Laid P] {x y : Code} {Q : Exit → Env → AH → Prop} {ρ : Env} {H : AH} (ρ1 : Env) (H1 : AH) (h1 : AW r P x (AThen (fun ρ H => ρ = ρ1 ∧ H = H1) Q) ρ H) (h2 : AW r P y Q ρ1 H1) : AW r P (.seq x y) Q ρ H := by
  refine AW_seq (h1.mono fun e ρ H h => ?_)
  cases e with
  | normal => obtain ⟨rfl, rfl⟩ := h; exact h2
  | exit id => exact h
  | goto l => exact h
  | ret => exact h
  | panic c => exact h
  | outgrown => exact h
/-- A loop: what its head looks like ('x' tells the round), what holds of the memory, and a measure. -/
theorem AW_sub {r : Fm} {P : Program} [Laid P] {Q : Exit → Env → AH → Prop} {ρ ρ0 : Env} {H : AH} {c : Code} (hs : ρ.sub ρ0) (h : AW r P c Q ρ0 H) : AW r P c Q ρ H :=
  fun C B S a w hl hB hH hE hd => h C B S a w hl hB hH (hE.sub hs) hd
theorem AW_loopx {r : Fm} {P : Program} [Laid P] {Q : Exit → Env → AH → Prop} {ρ : Env} {H : AH} {c : Code} {α : Type} (E : α → Env) (M : α → AH → Prop) (μ : α → Nat) (x0 : α) (h0 : ρ.sub (E x0)) (hM : M x0 H)
    (round : ∀ x H, M x H → AW r P c (AThen (fun ρ' H' => ∃ y, ρ'.sub (E y) ∧ M y H' ∧ μ y < μ x) Q) (E x) H) : AW r P (.loop c) Q ρ H := by
  refine AW_sub h0 (AW_loopn (fun n ρ H => ∃ x, ρ = E x ∧ M x H ∧ μ x = n) (μ x0) ⟨x0, rfl, hM, rfl⟩ ?_)
  rintro n ρ H ⟨x, rfl, hx, rfl⟩
  refine (round x H hx).mono fun e ρ' H' h => ?_
  cases e with
  | normal =>
    obtain ⟨y, h1, h2, h3⟩ := h
    exact ⟨μ y, h3, E y, H', fun S a hE => hE.sub h1, .inl rfl, y, rfl, h2, rfl⟩
  | exit id => exact h
  | goto l => exact h
  | ret => exact h
  | panic c => exact h
  | outgrown => exact h

/-- An environment that names only what there was. -/
def Env.lt (n : Nat) (ρ : Env) : Prop := ∀ p ∈ ρ.l, V.lt n p.2 = true
theorem Env.lt.get {n : Nat} {ρ : Env} (h : ρ.lt n) (t : Nat) : V.lt n (ρ.get t) = true := by
  obtain ⟨m, l⟩ := ρ
  have h' : ∀ p ∈ l, V.lt n p.2 = true := h
  clear h
  show V.lt n (Env.look l t) = true
  induction l with
  | nil => rfl
  | cons p l ih =>
    obtain ⟨u, v⟩ := p
    simp only [Env.look]
    split
    · exact h' (u, v) (by simp)
    · exact ih fun p hp => h' p (by simp [hp])
@[simp] theorem lt_mk_nil (n m : Nat) : (Env.mk m []).lt n ↔ True := by simp [Env.lt]
@[simp] theorem lt_mk_cons (n m t : Nat) (v : V) (l : List (Nat × V)) : (Env.mk m ((t, v) :: l)).lt n ↔ V.lt n v = true ∧ (Env.mk m l).lt n := by simp [Env.lt]
/-- A loop that leaves the memory as it was: what each round made is forgotten at its end. -/
theorem AW_loop0 {r : Fm} {P : Program} [Laid P] {Q : Exit → Env → AH → Prop} {ρ : Env} {H : AH} {c : Code} {α : Type} (E : α → Env) (M : α → Prop) (μ : α → Nat) (x0 : α) (h0 : ρ.sub (E x0)) (hM : M x0) (hb : r.base ≤ H.next)
    (round : H.wf → ∀ x, M x → AW r P c (AThen (fun ρ' H' => ∃ y, ρ'.sub (E y) ∧ M y ∧ μ y < μ x ∧ (H' = H ∨ (H.next ≤ H'.next ∧ (∀ j, j < H.next → H'.get j = H.get j) ∧ (E y).lt H.next))) Q) (E x) H) : AW r P (.loop c) Q ρ H := by
  refine AW_wf fun hw _ => AW_sub h0 (AW_loopn (fun n ρ H' => ∃ x, ρ = E x ∧ M x ∧ μ x = n ∧ H' = H) (μ x0) ⟨x0, rfl, hM, rfl, rfl⟩ ?_)
  rintro n ρ H' ⟨x, rfl, hx, rfl, rfl⟩
  refine (round hw x hx).mono fun e ρ' H' h => ?_
  cases e with
  | normal =>
    obtain ⟨y, h1, h2, h3, h4⟩ := h
    rcases h4 with rfl | ⟨h4, h5, h6⟩
    · exact ⟨μ y, h3, E y, _, fun S a hE => hE.sub h1, .inl rfl, y, rfl, h2, rfl, rfl⟩
    · exact ⟨μ y, h3, E y, _, fun S a hE => hE.sub h1, .inr ⟨hw, h4, fun j hj => (h5 j hj).symm, hb, h6.get⟩, y, rfl, h2, rfl, rfl⟩
  | exit id => exact h
  | goto l => exact h
  | ret => exact h
  | panic c => exact h
  | outgrown => exact h

/-! Values. -/
section
variable {P : Program}
@[simp] theorem abin_int {op : BinOp} {t : TypeId} {k : IntKind} {a b : Int} (h : (match op with | .shl | .shr => false | _ => true) = true) : abin P op t (.i k a) (.i k b) = aint op k a b := by
  cases op <;> simp at h <;> simp [abin]
@[simp] theorem abin_str {op : BinOp} {t : TypeId} {a b : List UInt8} : abin P op t (.s a) (.s b) = astr op a b := (rfl)
@[simp] theorem aint_add {k : IntKind} {a b : Int} : aint .add k a b = some (.i k (k.wrap (a + b))) := (rfl)
@[simp] theorem aint_sub {k : IntKind} {a b : Int} : aint .sub k a b = some (.i k (k.wrap (a - b))) := (rfl)
@[simp] theorem aint_mul {k : IntKind} {a b : Int} : aint .mul k a b = some (.i k (k.wrap (a * b))) := (rfl)
theorem beq_dec {α : Type} [DecidableEq α] (a b : α) : (a == b) = decide (a = b) := by
  by_cases h : a = b
  · subst h; simp
  · simp [h]
@[simp] theorem aint_eql {k : IntKind} {a b : Int} : aint .eql k a b = some (.b (decide (a = b))) := by simp only [aint, beq_dec]
@[simp] theorem aint_neq {k : IntKind} {a b : Int} : aint .neq k a b = some (.b (!decide (a = b))) := by simp only [aint, bne, beq_dec]
@[simp] theorem aint_lss {k : IntKind} {a b : Int} : aint .lss k a b = some (.b (decide (a < b))) := (rfl)
@[simp] theorem aint_leq {k : IntKind} {a b : Int} : aint .leq k a b = some (.b (decide (a ≤ b))) := (rfl)
@[simp] theorem aint_gtr {k : IntKind} {a b : Int} : aint .gtr k a b = some (.b (decide (a > b))) := (rfl)
@[simp] theorem aint_geq {k : IntKind} {a b : Int} : aint .geq k a b = some (.b (decide (a ≥ b))) := (rfl)
@[simp] theorem astr_eql {a b : List UInt8} : astr .eql a b = some (.b (decide (a = b))) := by by_cases h : a = b <;> simp [astr, h]
@[simp] theorem astr_neq {a b : List UInt8} : astr .neq a b = some (.b (!decide (a = b))) := by by_cases h : a = b <;> simp [astr, h]
@[simp] theorem astr_lss {a b : List UInt8} : astr .lss a b = some (.b (Op.bytesLess a b)) := (rfl)
@[simp] theorem aunary_not {b : Bool} : aunary .not (.b b) = some (.b (!b)) := (rfl)
@[simp] theorem abin_p_eql {t : TypeId} {x y : Option (Nat × Nat × Nat)} : abin P .eql t (.p x) (.p y) = (aeq P t (.p x) (.p y)).map .b := (rfl)
@[simp] theorem abin_p_neq {t : TypeId} {x y : Option (Nat × Nat × Nat)} : abin P .neq t (.p x) (.p y) = (aeq P t (.p x) (.p y)).map fun r => .b (!r) := (rfl)
@[simp] theorem abin_b_eql {t : TypeId} {x y : Bool} : abin P .eql t (.b x) (.b y) = (aeq P t (.b x) (.b y)).map .b := (rfl)
@[simp] theorem abin_b_neq {t : TypeId} {x y : Bool} : abin P .neq t (.b x) (.b y) = (aeq P t (.b x) (.b y)).map fun r => .b (!r) := (rfl)
@[simp] theorem abin_agg_eql {t : TypeId} {x y : List V} : abin P .eql t (.agg x) (.agg y) = (aeq P t (.agg x) (.agg y)).map .b := (rfl)
@[simp] theorem abin_agg_neq {t : TypeId} {x y : List V} : abin P .neq t (.agg x) (.agg y) = (aeq P t (.agg x) (.agg y)).map fun r => .b (!r) := (rfl)
@[simp] theorem abin_m_eql {t : TypeId} {x y : Option Nat} : abin P .eql t (.m x) (.m y) = (aeq P t (.m x) (.m y)).map .b := (rfl)
@[simp] theorem abin_m_neq {t : TypeId} {x y : Option Nat} : abin P .neq t (.m x) (.m y) = (aeq P t (.m x) (.m y)).map fun r => .b (!r) := (rfl)
@[simp] theorem abin_sl_eql {t : TypeId} {x y : Option (Nat × Nat × Nat)} {n m : Nat} {c e : Bool} : abin P .eql t (.sl x n c) (.sl y m e) = (aeq P t (.sl x n c) (.sl y m e)).map .b := (rfl)
@[simp] theorem abin_sl_neq {t : TypeId} {x y : Option (Nat × Nat × Nat)} {n m : Nat} {c e : Bool} : abin P .neq t (.sl x n c) (.sl y m e) = (aeq P t (.sl x n c) (.sl y m e)).map fun r => .b (!r) := (rfl)
/-- Is it a type of pointers? -/
def qptr (P : Program) (t : TypeId) : Bool := match P.underlying t with | some (.pointer _) => true | _ => false
def qbool (P : Program) (t : TypeId) : Bool := match P.underlying t with | some .bool => true | _ => false
theorem aeq_pnn {t : TypeId} (h : qptr P t = true) : aeq P t (.p none) (.p none) = some true := by
  unfold qptr at h; unfold aeq; split at h <;> simp_all
theorem aeq_psn {t : TypeId} {q : Nat × Nat × Nat} (h : qptr P t = true) : aeq P t (.p (some q)) (.p none) = some false := by
  unfold qptr at h; unfold aeq; split at h <;> simp_all
theorem aeq_pns {t : TypeId} {q : Nat × Nat × Nat} (h : qptr P t = true) : aeq P t (.p none) (.p (some q)) = some false := by
  unfold qptr at h; unfold aeq; split at h <;> simp_all
theorem aeq_bb {t : TypeId} {x y : Bool} (h : qbool P t = true) : aeq P t (.b x) (.b y) = some (x == y) := by
  unfold qbool at h; unfold aeq; split at h <;> simp_all
end

/-! More queries, and what they give. -/
section
variable {P : Program} {H : AH}
/-- What may be appended. -/
def qsrc (P : Program) (t : TypeId) : Bool := match P.underlying t with | some d => descSrc d | none => false
/-- A key that is an int or a text. -/
def qplainKey (P : Program) (t : TypeId) : Bool := match P.underlying t with | some (.int _) | some .string => true | _ => false
/-- It is a slice of bytes. -/
def qbs (P : Program) (t : TypeId) : Bool := match P.underlying t with | some (.slice e) => (match P.underlying e with | some (.int .u8) => true | _ => false) | _ => false
def qthere (P : Program) (t : TypeId) : Bool := (P.underlying t).isSome
theorem keyFits_plain {t : TypeId} {k : V} (h : qplainKey P t = true) : keyFits P t k = true := by
  unfold qplainKey at h; unfold keyFits; split at h <;> simp_all
theorem keq_s {t : TypeId} {a c : List UInt8} (h : qstr P t = true) : keq P t (.s a) (.s c) = some (a == c) := by
  unfold qstr at h; unfold keq; split at h <;> simp_all
theorem keq_i {t : TypeId} {k : IntKind} {a c : Int} (h : qint P t = some k) : keq P t (.i k a) (.i k c) = some (a == c) := by
  unfold qint at h; unfold keq; split at h <;> simp_all
theorem conv_int {s t : TypeId} {k k' : IntKind} {n : Int} (h : qthere P s = true) (h2 : qint P t = some k) : aconvert P H s t (.i k' n) = some (.i k (k.wrap n), H) := by
  unfold qthere at h; unfold qint at h2; unfold aconvert
  cases hs : P.underlying s with
  | none => simp [hs] at h
  | some d =>
    split at h2 <;> simp_all
theorem conv_str {s t : TypeId} {l : List UInt8} (h : qthere P s = true) (h2 : qstr P t = true) : aconvert P H s t (.s l) = some (.s l, H) := by
  unfold qthere at h; unfold qstr at h2; unfold aconvert
  cases hs : P.underlying s with
  | none => simp [hs] at h
  | some d =>
    split at h2 <;> simp_all
theorem conv_bytes {s t : TypeId} {l : List UInt8} (h : qthere P s = true) (h2 : qbs P t = true) : aconvert P H s t (.s l) = some (.sl (some (H.next, 0, 0)) l.length false, H.new (.cells (bytesV l) 0 false 1)) := by
  unfold qthere at h; unfold qbs at h2; unfold aconvert
  cases hs : P.underlying s with
  | none => simp [hs] at h
  | some d =>
    split at h2
    · rename_i e he
      split at h2
      · rename_i h3; simp [he, h3]
      · cases h2
    · cases h2
theorem alookup_hit {t kt et : TypeId} {k v : V} {i : Nat} {ok : Bool} (h : qmap P t = some (kt, et)) (hk : qkey P kt = true) (hf : keyFits P kt k = true) {id : Nat} {es : List (V × V × Nat)} {clock : Nat} (hg : H.get id = some (.map es clock)) (hs : afind P kt k es 0 = some (some (i, v))) :
    alookup P H t (.m (some id)) k ok = some (if ok then .tup [v, .b true] else v) := by
  simp [alookup, h, hk, hf, hg, hs]
theorem alookup_miss {t kt et : TypeId} {k z : V} {ok : Bool} (h : qmap P t = some (kt, et)) (hk : qkey P kt = true) (hf : keyFits P kt k = true) (hz : qzero P et = some z) {id : Nat} {es : List (V × V × Nat)} {clock : Nat} (hg : H.get id = some (.map es clock)) (hs : afind P kt k es 0 = some none) :
    alookup P H t (.m (some id)) k ok = some (if ok then .tup [z, .b false] else z) := by
  simp [alookup, h, hk, hf, hg, hs, hz]
theorem alookup_nil {t kt et : TypeId} {k z : V} {ok : Bool} (h : qmap P t = some (kt, et)) (hk : qkey P kt = true) (hf : keyFits P kt k = true) (hz : qzero P et = some z) :
    alookup P H t (.m none) k ok = some (if ok then .tup [z, .b false] else z) := by
  simp [alookup, h, hk, hf, afind, hz]
theorem amapUpdate_hit {t kt et : TypeId} {k v v' : V} {i : Nat} (h : qmap P t = some (kt, et)) (hk : qkey P kt = true) (hf : keyFits P kt k = true) {id : Nat} {es : List (V × V × Nat)} {clock : Nat} (hg : H.get id = some (.map es clock)) (hs : afind P kt k es 0 = some (some (i, v'))) :
    amapUpdate P H t (.m (some id)) k v = some (H.set id (.map (setKV es i k v) clock)) := by
  simp [amapUpdate, h, hk, hf, hg, hs]
theorem amapUpdate_miss {t kt et : TypeId} {k v : V} (h : qmap P t = some (kt, et)) (hk : qkey P kt = true) (hf : keyFits P kt k = true) {id : Nat} {es : List (V × V × Nat)} {clock : Nat} (hg : H.get id = some (.map es clock)) (hs : afind P kt k es 0 = some none) :
    amapUpdate P H t (.m (some id)) k v = some (H.set id (.map (es ++ [(k, v, clock)]) (clock + 1))) := by
  simp [amapUpdate, h, hk, hf, hg, hs]
end

/-! What a function's end asks. -/
section
variable {P : Program} {H : AH} {ρ : Env}
@[simp] theorem ares1_tmp {t : Nat} : ares1 P H ρ [.tmp t] = some (ρ.get t) := (rfl)
@[simp] theorem ares1_tmp2 {t u : Nat} : ares1 P H ρ [.tmp t, .tmp u] = some (.tup [ρ.get t, ρ.get u]) := (rfl)
@[simp] theorem ares1_tmp3 {t u x : Nat} : ares1 P H ρ [.tmp t, .tmp u, .tmp x] = some (.tup [ρ.get t, ρ.get u, ρ.get x]) := (rfl)
@[simp] theorem ares1_tmp4 {t u x y : Nat} : ares1 P H ρ [.tmp t, .tmp u, .tmp x, .tmp y] = some (.tup [ρ.get t, ρ.get u, ρ.get x, ρ.get y]) := (rfl)
@[simp] theorem ares1_none : ares1 P H ρ [] = some (.tup []) := (rfl)
end

section
variable {P : Program} {H : AH} {ρ : Env} {Q : Exit → Env → AH → Prop}
theorem end_ret {fn : Func} {Q : V → AH → Prop} {r : V} (h : ares1 P H ρ fn.results.toList = some r) (hq : Q r H) : AEnd P fn Q .ret ρ H := ⟨r, h, hq⟩
theorem end_normal {fn : Func} {Q : V → AH → Prop} {r : V} (h : ares1 P H ρ fn.results.toList = some r) (hq : Q r H) : AEnd P fn Q .normal ρ H := ⟨r, h, hq⟩
theorem rend {K : Env → AH → Prop} (h : K ρ H) : AThen K Q .normal ρ H := h
theorem bend {id : Nat} (h : Q .normal ρ H) : ABlock id Q .normal ρ H := h
theorem then_exit {K : Env → AH → Prop} {id : Nat} (h : Q (.exit id) ρ H) : AThen K Q (.exit id) ρ H := h
theorem block_here {id : Nat} (h : Q .normal ρ H) : ABlock id Q (.exit id) ρ H := by simp [ABlock, h]
theorem block_pass {id id' : Nat} (hn : id' ≠ id) (h : Q (.exit id') ρ H) : ABlock id Q (.exit id') ρ H := by simp [ABlock, hn, h]
end

@[simp] theorem ex_pair {a : V} {b : AH} {K : V → AH → Prop} : (∃ v H', (a = v ∧ b = H') ∧ K v H') ↔ K a b :=
  ⟨fun ⟨v, H', ⟨h1, h2⟩, h3⟩ => by subst h1 h2; exact h3, fun h => ⟨a, b, ⟨rfl, rfl⟩, h⟩⟩

theorem wrap_id {x : Int} (h1 : -9223372036854775808 ≤ x) (h2 : x ≤ 9223372036854775807) : IntKind.i64.wrap x = x := by
  rw [IntKind.wrap_i64]; omega

/-! Memory. -/
@[simp] theorem new_next (H : AH) (o : O) : (H.new o).next = H.next + 1 := (rfl)
@[simp] theorem set_next (H : AH) (k : Nat) (o : O) : (H.set k o).next = H.next := (rfl)
end Go.Abs

set_option linter.unusedVariables false
set_option linter.unusedSimpArgs false
namespace Go.Abs
open Go Go.RowKit

/-- Of what stood before, only F was changed. -/
def Upd (H H' : AH) (F : List Nat) : Prop := H.next ≤ H'.next ∧ ∀ j, j < H.next → j ∉ F → H'.get j = H.get j
theorem Upd.refl (H : AH) (F : List Nat) : Upd H H F := ⟨Nat.le_refl _, fun _ _ _ => rfl⟩
theorem Upd.trans {H H' H'' : AH} {F G : List Nat} (h : Upd H H' F) (k : Upd H' H'' G) (hg : ∀ j ∈ G, j ∈ F ∨ H.next ≤ j) : Upd H H'' F :=
  ⟨Nat.le_trans h.1 k.1, fun j hj hn => by
    rw [k.2 j (Nat.lt_of_lt_of_le hj h.1) (fun hm => by rcases hg j hm with h1 | h1; exact hn h1; omega), h.2 j hj hn]⟩
theorem Upd.mono {H H' : AH} {F G : List Nat} (h : Upd H H' F) (hs : ∀ j ∈ F, j ∈ G) : Upd H H' G := ⟨h.1, fun j hj hn => h.2 j hj fun hm => hn (hs j hm)⟩
theorem Upd.new (H : AH) (o : O) (F : List Nat) : Upd H (H.new o) F := ⟨Nat.le_succ _, fun j hj _ => by rw [AH.get_new, if_neg (by omega)]⟩
theorem Upd.set (H : AH) (k : Nat) (o : O) {F : List Nat} (hk : k ∈ F) : Upd H (H.set k o) F := ⟨Nat.le_refl _, fun j hj hn => AH.get_set_ne fun e => hn (e ▸ hk)⟩
theorem Upd.keep {H H' : AH} {F : List Nat} (h : Upd H H' F) {j : Nat} {o : O} (hn : j ∉ F) (hg : H.get j = some o) : H'.get j = some o := by
  rw [h.2 j (AH.get_lt hg) hn, hg]
theorem Upd.ext {H H' : AH} (h : Upd H H' []) : H.ext H' := ⟨h.1, fun id o hg => h.keep (by simp) hg⟩
theorem ext_upd {H H' : AH} (h : H.ext H') (hn : ∀ j, j < H.next → ∃ o, H.get j = some o) (F : List Nat) : Upd H H' F := ⟨h.next, fun j hj _ => by
  obtain ⟨o, ho⟩ := hn j hj
  rw [ho, h.get _ _ ho]⟩

/-- A slice that is nobody else's: all of its block, nothing behind it. -/
def Own (H : AH) (v : V) (sz : Nat) (cs : List V) (F : List Nat) : Prop :=
  (∃ c, v = .sl none 0 c ∧ cs = [] ∧ F = []) ∨
  (∃ id g len, v = .sl (some (id, g, 0)) len false ∧ H.get id = some (.cells cs g false sz) ∧ cs.length = len * sz ∧ F = [id])
theorem Own.upd {H H' : AH} {v : V} {sz : Nat} {cs : List V} {F G : List Nat} (h : Own H v sz cs F) (hu : Upd H H' G) (hd : ∀ j ∈ F, j ∉ G) : Own H' v sz cs F := by
  rcases h with ⟨c, h1, h2, h3⟩ | ⟨id, g, len, h1, h2, h3, h4⟩
  · exact .inl ⟨c, h1, h2, h3⟩
  · subst h4
    exact .inr ⟨id, g, len, h1, hu.keep (hd id (by simp)) h2, h3, rfl⟩
theorem Own.lt {H : AH} {v : V} {sz : Nat} {cs : List V} {F : List Nat} (h : Own H v sz cs F) : ∀ j ∈ F, j < H.next := by
  rcases h with ⟨c, h1, h2, h3⟩ | ⟨id, g, len, h1, h2, h3, h4⟩
  · subst h3; simp
  · subst h4; intro j hj; simp at hj; subst hj; exact AH.get_lt h2
theorem Own.nil (H : AH) (sz : Nat) (c : Bool) : Own H (.sl none 0 c) sz [] [] := .inl ⟨c, rfl, rfl, rfl⟩

theorem Own.cells {H : AH} {v : V} {sz : Nat} {cs : List V} {F : List Nat} (h : Own H v sz cs F) : v.cells = some [v] := by
  rcases h with ⟨c, h1, h2, h3⟩ | ⟨id, g, len, h1, h2, h3, h4⟩ <;> subst h1 <;> rfl
theorem Own.len {P : Program} {t e : TypeId} {H H' : AH} {v : V} {sz : Nat} {cs : List V} {F : List Nat} (h : Own H v sz cs F) (hp : 0 < sz) (hq : qelem P t = some e) : alen P H' t v = some (.i .i64 (cs.length / sz : Nat)) := by
  rcases h with ⟨c, h1, h2, h3⟩ | ⟨id, g, len, h1, h2, h3, h4⟩
  · subst h1 h2; simp [alen, hq]
  · subst h1; simp only [alen, hq, h3, Nat.mul_div_cancel _ hp]

/-- A slice that can be read. -/
def Sl (H : AH) (v : V) (sz : Nat) (cs : List V) : Prop :=
  (∃ c, v = .sl none 0 c ∧ cs = []) ∨
  (∃ id g off len clip c ro esz, v = .sl (some (id, g, off)) len clip ∧ H.get id = some (.cells c g ro esz) ∧ off + len * sz ≤ c.length ∧ cs = (c.drop off).take (len * sz))
theorem Own.sl {H : AH} {v : V} {sz : Nat} {cs : List V} {F : List Nat} (h : Own H v sz cs F) : Sl H v sz cs := by
  rcases h with ⟨c, h1, h2, h3⟩ | ⟨id, g, len, h1, h2, h3, h4⟩
  · exact .inl ⟨c, h1, h2⟩
  · exact .inr ⟨id, g, 0, len, false, cs, false, sz, h1, h2, by omega, by simp [← h3]⟩
theorem Sl.asource {P : Program} {H : AH} {v : V} {sz : Nat} {cs : List V} (h : Sl H v sz cs) (hs : 0 < sz) : asource P H sz v = some (cs, cs.length / sz) := by
  rcases h with ⟨c, h1, h2⟩ | ⟨id, g, off, len, clip, c, ro, esz, h1, h2, h3, h4⟩
  · subst h1 h2; simp [Go.Abs.asource]
  · subst h1
    have hl : cs.length = len * sz := by rw [h4]; simp; omega
    have hd : cs.length / sz = len := by rw [hl]; exact Nat.mul_div_cancel _ hs
    simp only [Go.Abs.asource, h2]
    by_cases h0 : len = 0
    · subst h0; simp at hl; simp [hl]
    · simp only [h0, if_false]
      rw [if_pos ⟨trivial, h3⟩, hd, h4]

theorem Sl.len {P : Program} {t e : TypeId} {H H' : AH} {v : V} {sz : Nat} {cs : List V} (h : Sl H v sz cs) (hp : 0 < sz) (hq : qelem P t = some e) : alen P H' t v = some (.i .i64 (cs.length / sz : Nat)) := by
  rcases h with ⟨c, h1, h2⟩ | ⟨id, g, off, len, clip, c, ro, esz, h1, h2, h3, h4⟩
  · subst h1 h2; simp [alen, hq]
  · subst h1
    have hl : cs.length = len * sz := by rw [h4]; simp; omega
    simp only [alen, hq, hl, Nat.mul_div_cancel _ hp]
/-- One element of a slice: its place, and what lies there. -/
theorem Sl.at1 {P : Program} {t e : TypeId} {H : AH} {v : V} {cs : List V} (h : Sl H v 1 cs) (hq : qelem P t = some e) (hz : qsize P e = some 1) (ha : qagg P e = some false) {k : IntKind} {i : Int} (h0 : 0 ≤ i) (h1 : i < cs.length) :
    ∃ a, aindexAddr P t v (.i k i) = some a ∧ aload P H e a = cs[i.toNat]? := by
  rcases h with ⟨c, r1, r2⟩ | ⟨id, g, off, len, clip, c, ro, esz, r1, r2, r3, r4⟩
  · subst r2; simp at h1; omega
  · subst r1
    have hl : cs.length = len := by rw [r4]; simp; omega
    refine ⟨.p (some (id, g, off + i.toNat * 1)), by simp only [aindexAddr, hq, hz]; rw [if_pos ⟨h0, by omega⟩], ?_⟩
    simp only [aload, r2, if_true, ha, hz]
    rw [r4, List.getElem?_take, if_pos (by omega), List.getElem?_drop]
    simp
/-- What append asks of the types. -/
structure App (P : Program) (t t2 : TypeId) (sz bytes : Nat) : Prop where
  ok : ∃ e z d, qelem P t = some e ∧ qsize P e = some sz ∧ qbytes P e = some bytes ∧ qzero P e = some z ∧ P.underlying t2 = some d ∧ descSrc d = true ∧ z.cells.map List.length = some sz
  pos : 0 < sz
theorem App.mk' {P : Program} {t t2 : TypeId} {sz bytes : Nat} {e : TypeId} {z : V} (h1 : qelem P t = some e) (h2 : qsize P e = some sz) (h3 : qbytes P e = some bytes) (h4 : qzero P e = some z) (h5 : qsrc P t2 = true) (h6 : z.cells.map List.length = some sz) (h7 : 0 < sz) : App P t t2 sz bytes := by
  unfold qsrc at h5
  cases hu : P.underlying t2 with
  | none => simp [hu] at h5
  | some d => exact ⟨⟨e, z, d, h1, h2, h3, h4, hu, by simpa [hu] using h5, h6⟩, h7⟩

/-- Append to a slice that is owned. -/
theorem Own.append {P : Program} {H : AH} {t t2 : TypeId} {sz bytes : Nat} (ha : App P t t2 sz bytes) {v x : V} {cs new : List V} {F : List Nat} {n : Nat} (h : Own H v sz cs F) (hx : asource P H sz x = some (new, n)) (hn : new.length = n * sz) (hr : roomOk (cs.length / sz + n) bytes = true) :
    ∃ v' H' F', aappend P H t t2 v x = some (v', H') ∧ Own H' v' sz (cs ++ new) F' ∧ Upd H H' F ∧ ∀ j ∈ F', j ∈ F ∨ H.next ≤ j := by
  obtain ⟨⟨e, z, d, h1, h2, h3, h4, h5, h6, h7⟩, hp⟩ := ha
  have hc : 0 < sz ∧ descSrc d = true ∧ z.cells.map List.length = some sz := ⟨hp, h6, h7⟩
  by_cases h0 : n = 0
  · subst h0
    have : new = [] := List.eq_nil_of_length_eq_zero (by simpa using hn)
    subst this
    rw [List.append_nil]
    rcases h with ⟨c, r1, r2, r3⟩ | ⟨id, g, len, r1, r2, r3, r4⟩
    · subst r1
      exact ⟨_, H, F, by simp only [aappend, h1, h2, h3, h4, h5, hx, if_pos hc, if_true], .inl ⟨c, rfl, r2, r3⟩, Upd.refl H F, fun j hj => .inl hj⟩
    · subst r1
      exact ⟨_, H, F, by simp only [aappend, h1, h2, h3, h4, h5, hx, if_pos hc, if_true], .inr ⟨id, g, len, rfl, r2, r3, r4⟩, Upd.refl H F, fun j hj => .inl hj⟩
  · rcases h with ⟨c, r1, r2, r3⟩ | ⟨id, g, len, r1, r2, r3, r4⟩
    · subst r1 r2 r3
      simp only [List.length_nil, Nat.zero_div, Nat.zero_add] at hr
      exact ⟨.sl (some (H.next, qgenB P e, 0)) n false, H.new (.cells new (qgenB P e) false sz), [H.next], by simp only [aappend, h1, h2, h3, h4, h5, hx, if_pos hc, h0, if_false, hr, if_true],
        .inr ⟨H.next, qgenB P e, n, rfl, AH.get_new_same _ _, by simpa using hn, rfl⟩, Upd.new H _ _, fun j hj => .inr (by simp at hj; omega)⟩
    · subst r1 r4
      have hd : cs.length / sz = len := by rw [r3]; exact Nat.mul_div_cancel _ hp
      rw [hd] at hr
      have hnn : ¬ (0 + (len + n) * sz ≤ cs.length) := by
        rw [r3, Nat.add_mul]
        have : 0 < n * sz := Nat.mul_pos (by omega) hp
        omega
      have hcc : g = g ∧ 0 + len * sz ≤ cs.length ∧ roomOk (len + n) bytes = true := ⟨rfl, by omega, hr⟩
      refine ⟨.sl (some (id, anext P e g 0, 0)) (len + n) false, H.set id (.cells ((cs.drop 0).take (len * sz) ++ new) (anext P e g 0) false sz), [id], by
        simp only [aappend, h1, h2, h3, h4, h5, hx, if_pos hc, h0, if_false, r2, if_pos hcc, Bool.false_eq_true, and_self, if_true, hnn]
        rw [if_pos ⟨trivial, hcc.2⟩], .inr ⟨id, anext P e g 0, len + n, rfl, ?_, ?_, rfl⟩, Upd.set H _ _ (by simp), fun j hj => .inl hj⟩
      · rw [AH.get_set_same (AH.get_lt r2)]
        simp [← r3]
      · rw [List.length_append, r3, hn, Nat.add_mul]

/-! Records in slices. -/
theorem flatten_at {sz : Nat} : ∀ (ls : List (List V)) (i : Nat) (l : List V), (∀ l ∈ ls, l.length = sz) → ls[i]? = some l → (ls.flatten.drop (i * sz)).take sz = l
  | [], i, l, h, hi => by simp at hi
  | x :: ls, i, l, h, hi => by
    have hx := h x (by simp)
    cases i with
    | zero => simp at hi; subst hi; simp [← hx]
    | succ i =>
      simp at hi
      rw [List.flatten_cons, Nat.add_mul, Nat.one_mul, Nat.add_comm, ← List.drop_drop, ← hx, List.drop_left, hx]
      exact flatten_at ls i l (fun l hl => h l (by simp [hl])) hi
/-- 'a' points at cells 'l'. -/
def Rec (H : AH) (a : V) (l : List V) : Prop := ∃ id g off c ro esz, a = .p (some (id, g, off)) ∧ H.get id = some (.cells c g ro esz) ∧ (c.drop off).take l.length = l ∧ off + l.length ≤ c.length
theorem Rec.fld {P : Program} {H : AH} {a : V} {l : List V} (h : Rec H a l) {t ft : TypeId} {f o : Nat} {b : Bool} {x : V} (hq : qfield P t f = some (o, 1, b)) (ha : qagg P ft = some false) (hz : qsize P ft = some 1) (hx : l[o]? = some x) :
    ∃ a', afieldAddr P t f a = some a' ∧ aload P H ft a' = some x := by
  obtain ⟨id, g, off, c, ro, esz, rfl, h1, h2, h3⟩ := h
  refine ⟨.p (some (id, g, off + o)), by simp [afieldAddr, hq], ?_⟩
  simp only [aload, h1, if_true, ha, hz]
  have ho : o < l.length := (List.getElem?_eq_some_iff.1 hx).1
  rw [← h2, List.getElem?_take, if_pos ho, List.getElem?_drop] at hx
  exact hx
theorem Rec.load {P : Program} {H : AH} {a : V} {l : List V} (h : Rec H a l) {t : TypeId} (ha : qagg P t = some true) (hz : qsize P t = some l.length) : aload P H t a = some (.agg l) := by
  obtain ⟨id, g, off, c, ro, esz, rfl, h1, h2, h3⟩ := h
  simp only [aload, h1, if_true, ha, hz]
  rw [if_pos h3, h2]
/-- A slice of records. -/
def SlR (H : AH) (v : V) (sz : Nat) (ls : List (List V)) : Prop := Sl H v sz ls.flatten ∧ ∀ l ∈ ls, l.length = sz
theorem flatten_len {sz : Nat} : ∀ (ls : List (List V)), (∀ l ∈ ls, l.length = sz) → ls.flatten.length = ls.length * sz
  | [], h => by simp
  | x :: ls, h => by
    rw [List.flatten_cons, List.length_append, h x (by simp), flatten_len ls (fun l hl => h l (by simp [hl])), List.length_cons, Nat.add_mul]
    omega
theorem SlR.len {P : Program} {t e : TypeId} {H H' : AH} {v : V} {sz : Nat} {ls : List (List V)} (h : SlR H v sz ls) (hp : 0 < sz) (hq : qelem P t = some e) : alen P H' t v = some (.i .i64 ls.length) := by
  rw [h.1.len hp hq, flatten_len ls h.2, Nat.mul_div_cancel _ hp]
theorem SlR.at {P : Program} {t e : TypeId} {H : AH} {v : V} {sz : Nat} (hp : 0 < sz) {ls : List (List V)} (h : SlR H v sz ls) (hq : qelem P t = some e) (hz : qsize P e = some sz) {k : IntKind} {i : Int} (h0 : 0 ≤ i) {l : List V} (hl : ls[i.toNat]? = some l) :
    ∃ a, aindexAddr P t v (.i k i) = some a ∧ Rec H a l := by
  have hlt : i.toNat < ls.length := (List.getElem?_eq_some_iff.1 hl).1
  have hll : l.length = sz := h.2 l (List.mem_of_getElem? hl)
  have hfl := flatten_len ls h.2
  have hfa := flatten_at ls i.toNat l h.2 hl
  rcases h.1 with ⟨c, r1, r2⟩ | ⟨id, g, off, len, clip, c, ro, esz, r1, r2, r3, r4⟩
  · rw [r2] at hfl
    have h0 : ls.length * sz = 0 := hfl.symm
    rcases Nat.mul_eq_zero.1 h0 with h | h
    · omega
    · omega
  · subst r1
    have hlen : ls.length * sz = len * sz := by rw [← hfl, r4]; simp; omega
    have hle : ls.length = len := Nat.eq_of_mul_eq_mul_right hp hlen
    have hm : i.toNat * sz + sz ≤ len * sz := by
      have := Nat.mul_le_mul_right sz (show i.toNat + 1 ≤ len by omega)
      rw [Nat.add_mul] at this; omega
    refine ⟨.p (some (id, g, off + i.toNat * sz)), by simp only [aindexAddr, hq, hz]; rw [if_pos ⟨h0, by omega⟩], id, g, off + i.toNat * sz, c, ro, esz, rfl, r2, ?_, by omega⟩
    rw [hll, ← hfa, r4, List.drop_take, List.take_take, List.drop_drop]
    rw [Nat.min_eq_left (by omega)]
theorem SlR.upd {H H' : AH} {v : V} {sz : Nat} {ls : List (List V)} {F : List Nat} (h : SlR H v sz ls) (hu : Upd H H' F) (hd : ∀ id g off len c, v = .sl (some (id, g, off)) len c → id ∉ F) : SlR H' v sz ls := by
  refine ⟨?_, h.2⟩
  rcases h.1 with ⟨c, r1, r2⟩ | ⟨id, g, off, len, clip, c, ro, esz, r1, r2, r3, r4⟩
  · exact .inl ⟨c, r1, r2⟩
  · exact .inr ⟨id, g, off, len, clip, c, ro, esz, r1, hu.keep (hd _ _ _ _ _ r1) r2, r3, r4⟩
theorem Sl.ext {H H' : AH} {v : V} {sz : Nat} {cs : List V} (h : Sl H v sz cs) (hx : H.ext H') : Sl H' v sz cs := by
  rcases h with ⟨c, r1, r2⟩ | ⟨id, g, off, len, clip, c, ro, esz, r1, r2, r3, r4⟩
  · exact .inl ⟨c, r1, r2⟩
  · exact .inr ⟨id, g, off, len, clip, c, ro, esz, r1, hx.get _ _ r2, r3, r4⟩
theorem SlR.ext {H H' : AH} {v : V} {sz : Nat} {ls : List (List V)} (h : SlR H v sz ls) (hx : H.ext H') : SlR H' v sz ls := ⟨h.1.ext hx, h.2⟩

/-- An argument that is a slice. -/
theorem TV.slice {P : Program} {H : AH} {n : Nat} {t e : TypeId} {l : List V} (h : TV P H (n + 1) t l) (hu : P.underlying t = some (.slice e)) {sz : Nat} (hs : P.cellsOf e = sz) :
    ∃ v ls, l = [v] ∧ (∀ l, v ≠ .agg l) ∧ SlR H v sz ls ∧ (∀ l ∈ ls, TV P H n e l) ∧ ls.length * P.bytesOf e ≤ 140737488351232 := by
  unfold TV at h
  rw [hu] at h
  dsimp only at h
  rw [hs] at h
  rcases h with rfl | ⟨id, len, c, rfl, h1, h2, h3, h4⟩
  · exact ⟨_, [], rfl, (fun _ h => by cases h), ⟨.inl ⟨_, rfl, rfl⟩, by simp⟩, by simp, by simp⟩
  · have hl : ∀ i, i < len → ((c.drop (i * sz)).take sz).length = sz := fun i hi => by
      have := Nat.mul_le_mul_right sz (show i + 1 ≤ len by omega)
      rw [Nat.add_mul] at this
      simp; omega
    have hfl : ∀ k, k ≤ len → ((List.range k).map fun i => (c.drop (i * sz)).take sz).flatten = c.take (k * sz) := by
      intro k
      induction k with
      | zero => simp
      | succ k ih =>
        intro hk
        rw [List.range_succ, List.map_append, List.flatten_append, ih (by omega), Nat.add_mul, Nat.one_mul, List.take_add]
        simp
    refine ⟨_, (List.range len).map fun i => (c.drop (i * sz)).take sz, rfl, (fun _ h => by cases h), ⟨.inr ⟨id, 0, 0, len, false, c, true, sz, rfl, h1, by omega, ?_⟩, ?_⟩, ?_, by simpa using h3⟩
    · rw [hfl len (Nat.le_refl _)]; simp
    · intro l hm
      simp at hm
      obtain ⟨i, hi, rfl⟩ := hm
      exact hl i hi
    · intro l hm
      simp at hm
      obtain ⟨i, hi, rfl⟩ := hm
      exact h4 i hi

/-! Maps with text keys. -/
theorem afind_out {P : Program} {t : TypeId} (h : qstr P t = true) {s : List UInt8} : ∀ (es : List (V × V × Nat)) (ks : List (List UInt8)) (i : Nat), es.map (·.1) = ks.map .s → s ∉ ks → afind P t (.s s) es i = some none
  | [], ks, i, hk, hs => rfl
  | (k, v, c) :: es, ks, i, hk, hs => by
    cases ks with
    | nil => simp at hk
    | cons s' ks =>
      simp at hk hs
      obtain ⟨rfl, hk⟩ := hk
      have e1 : (s == s') = false := by simpa using hs.1
      simp only [afind, keq_s h, e1]
      exact afind_out h es ks (i + 1) hk hs.2
theorem afind_in {P : Program} {t : TypeId} (h : qstr P t = true) {s : List UInt8} : ∀ (es : List (V × V × Nat)) (ks : List (List UInt8)) (i : Nat), es.map (·.1) = ks.map .s → s ∈ ks → ∃ e, es[ks.idxOf s]? = some e ∧ afind P t (.s s) es i = some (some (i + ks.idxOf s, e.2.1))
  | [], ks, i, hk, hs => by cases ks with | nil => cases hs | cons _ _ => simp at hk
  | (k, v, c) :: es, ks, i, hk, hs => by
    cases ks with
    | nil => simp at hk
    | cons s' ks =>
      simp at hk
      obtain ⟨rfl, hk⟩ := hk
      by_cases e : s' = s
      · subst e
        exact ⟨(.s s', v, c), by simp, by simp [afind, keq_s h]⟩
      · have hs' : s ∈ ks := by
          rcases List.mem_cons.1 hs with e' | hs'
          · exact absurd e'.symm e
          · exact hs'
        have e1 : (s == s') = false := by simpa using fun h => e h.symm
        have e2 : (s' == s) = false := by simpa using e
        obtain ⟨x, hx, hf⟩ := afind_in h es ks (i + 1) hk hs'
        refine ⟨x, by simp [List.idxOf_cons, e2, hx], ?_⟩
        simp only [afind, keq_s h, e1, hf, List.idxOf_cons, e2]
        simp [Nat.add_comm, Nat.add_left_comm]
end Go.Abs
