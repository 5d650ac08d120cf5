/-
  ValidMeets, in plain words: what is valid stays valid; two that are valid meet.
-/
import Derived.Test.YtmhaimdpfelkpaaGreatDoorValid17
set_option linter.unusedVariables false
set_option linter.unusedSimpArgs false
namespace Go.Proofs.YtmhaimdpfelkpaaGreatDoor
open Go Go.Abs Go.Proofs
set_option maxRecDepth 100000

/-- Whom a view's coin elects. -/
def eff (f : Int) (co : Int → Tos) (v : Int) : Int := if (co v).chosen then (co v).who else leadN f v
theorem see_eff (f : Int) (bad : BitVec 32) (sh : List Shr) (co : Int → Tos) (view : Int) (set : BitVec 32) (v : Int) : eff f (seeR f bad sh co view set).2.2 v = eff f co v := by
  unfold seeR
  split
  · rfl
  · split
    · rfl
    · simp only [eff, coUpd]
      by_cases h : v = view
      · subst h; simp; intro h1 h2; rw [h1] at h2; cases h2
      · simp [h]
theorem end_eff (d : RegD) (c : Cert) (v : Int) : eff d.f (endR d c).2 v = eff d.f d.co v := by
  unfold endR; split
  · exact see_eff ..
  · rfl
theorem cert_eff (d : RegD) (c : Cert) (v : Int) : eff d.f (certR d c).2 v = eff d.f d.co v := by
  unfold certR
  split
  · rfl
  · split
    · rfl
    · split
      · rfl
      · split
        · rfl
        · exact end_eff ..
/-- Registers that know at least as much. -/
structure More (d e : RegD) : Prop where
  f : e.f = d.f
  bad : e.bad = d.bad
  bk : ∀ n : Int, 1 ≤ n → n ≤ d.bk.length → n ≤ e.bk.length ∧ e.bk[n.toNat - 1]? = d.bk[n.toNat - 1]?
  sh : ∀ x ∈ d.sh, x ∈ e.sh
  co : ∀ v, eff d.f e.co v = eff d.f d.co v
theorem More.cnts {d e : RegD} (h : More d e) {x : Shr} (hx : cntsE d.f d.bad d.sh x = 0) : cntsE e.f e.bad e.sh x = 0 := by
  rw [h.f, h.bad]
  unfold cntsE at hx ⊢
  split
  · rename_i h1; rw [if_pos h1] at hx; exact hx
  · rename_i h1
    rw [if_neg h1] at hx
    by_cases h3 : hasB d.bad x.signer = true
    · rw [if_pos h3]
    · rw [if_neg h3] at hx ⊢
      by_cases h2 : x ∈ d.sh
      · rw [if_pos (h.sh x h2)]
      · rw [if_neg h2] at hx; cases hx
theorem More.all {d e : RegD} (h : More d e) {st : Stm} {set : BitVec 32} (hx : allE d.f d.bad d.sh st set = 0) : allE e.f e.bad e.sh st set = 0 := by
  rw [allE_zero] at hx ⊢
  exact ⟨by rw [h.f]; exact hx.1, fun k hk => h.cnts (hx.2 k hk)⟩
theorem More.en {d e : RegD} (h : More d e) {st : Stm} {set : BitVec 32} {n : Int} (hx : enE d.f d.bad d.sh st set n = 0) : enE e.f e.bad e.sh st set n = 0 := by
  rw [enE_zero] at hx ⊢
  exact ⟨h.all hx.1, hx.2⟩
theorem More.cont {d e : RegD} (h : More d e) {n : Int} (hx : (lawCont d.bk n).2 = 0) : lawCont e.bk n = lawCont d.bk n := by
  by_cases h1 : 1 ≤ n ∧ n ≤ d.bk.length
  · obtain ⟨h2, h3⟩ := h.bk n h1.1 h1.2
    unfold lawCont
    rw [if_pos h1, if_pos ⟨h1.1, h2⟩, h3]
  · unfold lawCont at hx; rw [if_neg h1] at hx; cases hx
theorem see_zero {f : Int} {bad : BitVec 32} {sh : List Shr} {co : Int → Tos} {view : Int} {set : BitVec 32} : (seeR f bad sh co view set).2.1 = 0 ↔ mayE view = 0 ∧ enE f bad sh (coinStm view) set (qtimes 1 f) = 0 := by
  unfold seeR
  by_cases h1 : mayE view = 0
  · rw [if_neg (by simp [h1])]
    by_cases h2 : enE f bad sh (coinStm view) set (qtimes 1 f) = 0
    · rw [if_neg (by simp [h2])]; simp [h1, h2]
    · rw [if_pos h2]; simp [h2]
  · rw [if_pos h1]; simp [h1]
theorem see_who {f : Int} {bad : BitVec 32} {sh : List Shr} {co : Int → Tos} {view : Int} {set : BitVec 32} (h : (seeR f bad sh co view set).2.1 = 0) : (seeR f bad sh co view set).1 = eff f co view := by
  obtain ⟨h1, h2⟩ := see_zero.1 h
  rw [seeR, if_neg (by simp [h1]), if_neg (by simp [h2])]; rfl
theorem end_zero {d : RegD} {c : Cert} : (endR d c).1 = 0 ↔ (c.endorsed = true → (seeR d.f d.bad d.sh d.co c.view c.coin).2.1 = 0 ∧ eff d.f d.co c.view = c.author) := by
  unfold endR
  by_cases g : c.endorsed = true
  · rw [if_pos g]
    simp only [g, forall_const]
    by_cases hz : (seeR d.f d.bad d.sh d.co c.view c.coin).2.1 = 0
    · rw [see_who hz]
      by_cases hw : eff d.f d.co c.view = c.author
      · rw [if_neg (by simp [hw])]; simp [hz, hw]
      · rw [if_pos ⟨hz, hw⟩]; simp [hw]
    · rw [if_neg (by simp [hz])]; simp [hz]
  · rw [if_neg g]; simp [g]
theorem More.end_ {d e : RegD} (h : More d e) {c : Cert} (hx : (endR d c).1 = 0) : (endR e c).1 = 0 := by
  rw [end_zero] at hx ⊢
  intro g
  obtain ⟨h1, h2⟩ := hx g
  refine ⟨see_zero.2 ?_, ?_⟩
  · obtain ⟨k1, k2⟩ := see_zero.1 h1
    refine ⟨k1, ?_⟩
    have := h.en k2
    rw [h.f] at this ⊢; exact this
  · rw [h.f, h.co]; exact h2
/-- What is valid stays so. -/
theorem More.cert {d e : RegD} (h : More d e) {c : Cert} (hx : (certR d c).1 = 0) : (certR e c).1 = 0 := by
  by_cases hk : c.kind = 0
  · have h1 : c.check = 0 := by
      apply Classical.byContradiction; intro hn
      rw [certR, if_pos hn] at hx; exact hn hx
    rw [certR, if_neg (by simp [h1]), if_pos hk]
  · rw [certR_zero _ _ hk] at hx ⊢
    obtain ⟨h1, h2, h3, h4⟩ := hx
    refine ⟨h1, ?_, ?_, h.end_ h4⟩
    · have h5 : (lawCont d.bk c.block).2 = 0 := by
        unfold contE at h2
        split at h2
        · cases h2
        · exact h2
      unfold contE at h2 ⊢
      rw [h.cont h5]; exact h2
    · have := h.en h3
      unfold certE2
      rw [h.f] at this ⊢; exact this
theorem More.refl (d : RegD) : More d d := ⟨rfl, rfl, fun n _ h => ⟨h, rfl⟩, fun _ h => h, fun _ => rfl⟩
theorem More.trans {a b c : RegD} (h : More a b) (k : More b c) : More a c :=
  ⟨k.f.trans h.f, k.bad.trans h.bad, fun n h1 h2 => by
    obtain ⟨p1, p2⟩ := h.bk n h1 h2
    obtain ⟨q1, q2⟩ := k.bk n h1 p1
    exact ⟨q1, q2.trans p2⟩, fun x hx => k.sh x (h.sh x hx), fun v => by have := k.co v; rw [h.f] at this; exact this.trans (h.co v)⟩
theorem More.setCo (d : RegD) (c : Cert) : More d { d with co := (certR d c).2 } := ⟨rfl, rfl, fun n _ h => ⟨h, rfl⟩, fun _ h => h, fun v => cert_eff d c v⟩
theorem addN_mem {α : Type} [DecidableEq α] {l : List α} {s x : α} (h : x ∈ l) : x ∈ addN l s := by
  unfold addN; split
  · exact h
  · simp [h]
theorem More.issue (d : RegD) (x : Shr) : More d { d with sh := shIssue d.f d.sh x } :=
  ⟨rfl, rfl, fun n _ h => ⟨h, rfl⟩, fun y hy => by
    simp only [shIssue]; split
    · exact hy
    · exact addN_mem hy, fun _ => rfl⟩
theorem More.enter (d : RegD) (s : List UInt8) : More d { d with bk := bkEnter d.bk s } :=
  ⟨rfl, rfl, fun n h1 h2 => by
    simp only [bkEnter, addN]
    split
    · exact ⟨h2, rfl⟩
    · split
      · exact ⟨h2, rfl⟩
      · refine ⟨by simp; omega, ?_⟩
        rw [List.getElem?_append_left (by omega)], fun _ h => h, fun _ => rfl⟩
/-! How many. -/
theorem pop_le {s t : BitVec 32} (h : ∀ i, s.getLsbD i = true → t.getLsbD i = true) : pop s ≤ pop t := by
  rw [pop_bits, pop_bits]
  unfold bitsOf bitsTo
  rw [← List.countP_eq_length_filter, ← List.countP_eq_length_filter]
  exact List.countP_mono_left fun i _ hi => h i hi
theorem pop_split (s t : BitVec 32) : pop s = pop (s &&& t) + pop (s &&& ~~~t) := by
  rw [pop_bits, pop_bits, pop_bits]
  unfold bitsOf bitsTo
  simp only [← List.countP_eq_length_filter]
  suffices ∀ l : List Nat, (∀ i ∈ l, i < 32) → l.countP (fun i => s.getLsbD i) = l.countP (fun i => (s &&& t).getLsbD i) + l.countP (fun i => (s &&& ~~~t).getLsbD i) from this _ fun i hi => List.mem_range.1 hi
  intro l
  induction l with
  | nil => simp
  | cons i l ih =>
    intro h
    rw [List.countP_cons, List.countP_cons, List.countP_cons, ih fun j hj => h j (by simp [hj])]
    have hi := h i (by simp)
    rw [BitVec.getLsbD_and, BitVec.getLsbD_and, BitVec.getLsbD_not]
    cases s.getLsbD i <;> cases t.getLsbD i <;> simp [hi] <;> omega
theorem pop_below {s : BitVec 32} {N : Nat} (hN : N ≤ 32) (h : ∀ k ∈ bitsOf s, k < N) : pop s ≤ N := by
  rw [pop_bits]
  have h1 : bitsOf s = (List.range N).filter fun i => s.getLsbD i := by
    have h2 : List.range 32 = List.range N ++ (List.range (32 - N)).map (N + ·) := by
      have := List.range_add (n := N) (m := 32 - N)
      rwa [show N + (32 - N) = 32 by omega] at this
    unfold bitsOf bitsTo
    rw [h2, List.filter_append]
    have h3 : ((List.range (32 - N)).map (N + ·)).filter (fun i => s.getLsbD i) = [] := by
      rw [List.filter_eq_nil_iff]
      intro i hi hb
      obtain ⟨j, _, rfl⟩ := List.mem_map.1 hi
      have := h (N + j) (mem_bitsOf.2 hb)
      omega
    rw [h3, List.append_nil]
  rw [h1]
  exact Nat.le_trans (List.length_filter_le ..) (by simp)
theorem quorum_meets {f : Int} {a b bad : BitVec 32} (ha : qcheck f a = 0) (hb : qcheck f b = 0) (ka : qtimes 2 f ≤ pop a) (kb : qtimes 2 f ≤ pop b) (hbad : (pop bad : Int) ≤ f) :
    qtimes 1 f ≤ pop (a &&& ~~~bad) ∧ 1 ≤ pop (a &&& b &&& ~~~bad) := by
  obtain ⟨h0, h1⟩ := (qcheck_zero ..).1 ha
  obtain ⟨_, h2⟩ := (qcheck_zero ..).1 hb
  have hf : 1 ≤ f ∧ f ≤ 3 := by unfold qtimes at h0; split at h0 <;> simp_all <;> omega
  have e1 : qtimes 1 f = f + 1 := by unfold qtimes; rw [if_neg (by omega)]; omega
  have e2 : qtimes 2 f = 2 * f + 1 := by unfold qtimes; rw [if_neg (by omega)]
  have e3 : qtimes 3 f = 3 * f + 1 := by unfold qtimes; rw [if_neg (by omega)]
  rw [e2] at ka kb; rw [e3] at h1 h2; rw [e1]
  have s1 := pop_split a bad
  have s2 : pop (a &&& bad) ≤ pop bad := pop_le fun i hi => by rw [BitVec.getLsbD_and, Bool.and_eq_true] at hi; exact hi.2
  refine ⟨by omega, ?_⟩
  have s3 := pop_split a b
  have s4 := pop_split (a &&& b) bad
  have s5 : pop (a &&& b &&& bad) ≤ pop bad := pop_le fun i hi => by rw [BitVec.getLsbD_and, Bool.and_eq_true] at hi; exact hi.2
  have s6 := pop_split (a ||| b) b
  have s7 : pop (a &&& ~~~b) ≤ pop ((a ||| b) &&& ~~~b) := pop_le fun i hi => by
    rw [BitVec.getLsbD_and, Bool.and_eq_true] at hi ⊢
    rw [BitVec.getLsbD_or, hi.1]; exact ⟨rfl, hi.2⟩
  have s8 : pop b ≤ pop ((a ||| b) &&& b) := pop_le fun i hi => by rw [BitVec.getLsbD_and, BitVec.getLsbD_or]; simp [hi]
  have s9 : pop (a ||| b) ≤ (3 * f + 1).toNat := pop_below (by omega) fun k hk => by
    have hk' := mem_bitsOf.1 hk
    rw [BitVec.getLsbD_or] at hk'
    rcases Bool.or_eq_true _ _ ▸ hk' with e | e
    · have := h1 k (mem_bitsOf.2 e); omega
    · have := h2 k (mem_bitsOf.2 e); omega
  omega
/-- Behind two that are valid stand enough; whoever stands behind both and isn't bad said both. -/
theorem cert_parts {d : RegD} {c : Cert} (hk : c.kind ≠ 0) (h : (certR d c).1 = 0) : qcheck d.f c.signers = 0 ∧ qtimes 2 d.f ≤ pop c.signers ∧ ∀ k ∈ bitsOf c.signers, cntsE d.f d.bad d.sh ⟨(k : Nat), c.stm⟩ = 0 := by
  obtain ⟨_, _, h3, _⟩ := (certR_zero d c hk).1 h
  obtain ⟨h5, h6⟩ := (enE_zero ..).1 h3
  obtain ⟨h7, h8⟩ := (allE_zero ..).1 h5
  exact ⟨h7, h6, h8⟩
end Go.Proofs.YtmhaimdpfelkpaaGreatDoor
