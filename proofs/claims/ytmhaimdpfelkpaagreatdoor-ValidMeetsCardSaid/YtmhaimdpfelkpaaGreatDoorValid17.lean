/-
  ValidMore, in plain words: one signer more.
-/
import Derived.Test.YtmhaimdpfelkpaaGreatDoorTxtF
set_option linter.unusedVariables false
set_option linter.unusedSimpArgs false
namespace Go.Proofs.YtmhaimdpfelkpaaGreatDoor
open Go Go.Abs Go.Proofs
set_option maxRecDepth 100000

theorem firstOf_eq_zero {l : List Int} : firstOf l = 0 ↔ ∀ e ∈ l, e = 0 := by
  constructor
  · intro h
    induction l with
    | nil => simp
    | cons e l ih =>
      rw [firstOf] at h
      by_cases h0 : e = 0
      · rw [if_pos h0] at h
        intro x hx
        rcases List.mem_cons.1 hx with rfl | hx
        · exact h0
        · exact ih h x hx
      · rw [if_neg h0] at h; exact absurd h h0
  · exact firstOf_zero
theorem full_bit (f : Int) (h : qtimes 3 f ≠ 0) (i : Nat) (hi : i < 32) : (fullSet f).getLsbD i = decide ((i : Int) < qtimes 3 f) := by
  have h4 : ∀ i : Fin 32, (15#32).getLsbD i = decide (i.val < 4) := by decide
  have h7 : ∀ i : Fin 32, (127#32).getLsbD i = decide (i.val < 7) := by decide
  have h10 : ∀ i : Fin 32, (1023#32).getLsbD i = decide (i.val < 10) := by decide
  rcases qtimes3 f with e | e | e | e
  · exact absurd e h
  · have : fullSet f = 15#32 := by rw [fullSet, e]; rfl
    rw [this, e]
    exact (h4 ⟨i, hi⟩).trans (decide_eq_decide.2 (by simp; omega))
  · have : fullSet f = 127#32 := by rw [fullSet, e]; rfl
    rw [this, e]
    exact (h7 ⟨i, hi⟩).trans (decide_eq_decide.2 (by simp; omega))
  · have : fullSet f = 1023#32 := by rw [fullSet, e]; rfl
    rw [this, e]
    exact (h10 ⟨i, hi⟩).trans (decide_eq_decide.2 (by simp; omega))
theorem qcheck_zero (f : Int) (s : BitVec 32) : qcheck f s = 0 ↔ qtimes 3 f ≠ 0 ∧ ∀ k ∈ bitsOf s, (k : Int) < qtimes 3 f := by
  unfold qcheck
  by_cases h : qtimes 3 f = 0
  · simp [h]
  · rw [if_neg h]
    have key : (s &&& ~~~fullSet f = 0#32) ↔ ∀ k ∈ bitsOf s, (k : Int) < qtimes 3 f := by
      constructor
      · intro e k hk
        have hb := mem_bitsOf.1 hk
        have hlt := BitVec.lt_of_getLsbD hb
        have e2 : (s &&& ~~~fullSet f).getLsbD k = (0#32).getLsbD k := congrArg (fun b => BitVec.getLsbD b k) e
        rw [BitVec.getLsbD_and, BitVec.getLsbD_not, full_bit f h k hlt, hb] at e2
        cases hd : decide ((k : Int) < qtimes 3 f) with
        | true => exact of_decide_eq_true hd
        | false => rw [hd] at e2; simp [hlt] at e2
      · intro hk
        apply BitVec.eq_of_getLsbD_eq
        intro i hi
        rw [BitVec.getLsbD_and, BitVec.getLsbD_not, full_bit f h i hi]
        cases hb : s.getLsbD i with
        | false => simp
        | true =>
          have := hk i (mem_bitsOf.2 hb)
          simp [this]
    rw [← key]
    constructor
    · intro e
      refine ⟨h, ?_⟩
      apply Classical.byContradiction
      intro hn; rw [if_neg hn] at e; simp at e
    · intro e; rw [if_pos e.2]
/-- One more. -/
def addB (s : BitVec 32) (k : Nat) : BitVec 32 := s ||| 1#32 <<< k
theorem addB_bit (s : BitVec 32) {k : Nat} (hk : k < 32) (i : Nat) : (addB s k).getLsbD i = (s.getLsbD i || decide (i = k)) := by
  unfold addB
  by_cases hi : i < 32
  · rw [BitVec.getLsbD_or, BitVec.getLsbD_shiftLeft]
    by_cases h : i = k
    · subst h; simp [hi]
    · by_cases h2 : i < k
      · simp [h, h2, hi]
      · have : ¬ i - k = 0 := by omega
        simp [h, h2, hi, BitVec.getLsbD_one, this]
  · have h1 := BitVec.getLsbD_of_ge (s ||| 1#32 <<< k) i (by omega)
    have h2 := BitVec.getLsbD_of_ge s i (by omega)
    rw [h1, h2]; simp; omega
theorem mem_addB {s : BitVec 32} {k : Nat} (hk : k < 32) {i : Nat} : i ∈ bitsOf (addB s k) ↔ i ∈ bitsOf s ∨ i = k := by
  rw [mem_bitsOf, mem_bitsOf, addB_bit s hk]; simp
theorem pop_bits (s : BitVec 32) : pop s = (bitsOf s).length := rfl
theorem pop_addB (s : BitVec 32) {k : Nat} (hk : k < 32) : pop s ≤ pop (addB s k) := by
  rw [pop_bits, pop_bits]
  unfold bitsOf bitsTo
  rw [← List.countP_eq_length_filter, ← List.countP_eq_length_filter]
  apply List.countP_mono_left
  intro i _ h
  rw [addB_bit s hk]; simp [h]
theorem allE_zero (f : Int) (bad : BitVec 32) (sh : List Shr) (st : Stm) (set : BitVec 32) : allE f bad sh st set = 0 ↔ qcheck f set = 0 ∧ ∀ k ∈ bitsOf set, cntsE f bad sh ⟨(k : Nat), st⟩ = 0 := by
  unfold allE
  by_cases h : qcheck f set = 0
  · rw [if_neg (by simp [h]), firstOf_eq_zero]
    simp [h]
  · rw [if_pos h]; simp [h]
theorem enE_zero (f : Int) (bad : BitVec 32) (sh : List Shr) (st : Stm) (set : BitVec 32) (least : Int) : enE f bad sh st set least = 0 ↔ allE f bad sh st set = 0 ∧ least ≤ pop set := by
  unfold enE
  by_cases h : allE f bad sh st set = 0
  · rw [if_neg (by simp [h])]
    by_cases h2 : (pop set : Int) < least
    · rw [if_pos h2]; simp; omega
    · rw [if_neg h2]; simp [h]; omega
  · rw [if_pos h]; simp [h]
theorem certR_zero (d : RegD) (c : Cert) (hk : c.kind ≠ 0) : (certR d c).1 = 0 ↔ c.check = 0 ∧ contE d c = 0 ∧ certE2 d c = 0 ∧ (endR d c).1 = 0 := by
  unfold certR
  by_cases h1 : c.check = 0
  · rw [if_neg (by simp [h1]), if_neg hk]
    by_cases h2 : contE d c = 0
    · rw [if_neg (by simp [h2])]
      by_cases h3 : certE2 d c = 0
      · rw [if_neg (by simp [h3])]; simp [h1, h2, h3]
      · rw [if_pos h3]; simp [h3]
    · rw [if_pos h2]; simp [h2]
  · rw [if_pos h1]; simp [h1]
theorem certR_co (d : RegD) (c : Cert) (hk : c.kind ≠ 0) (h : (certR d c).1 = 0) : (certR d c).2 = (endR d c).2 := by
  obtain ⟨h1, h2, h3, h4⟩ := (certR_zero d c hk).1 h
  unfold certR
  rw [if_neg (by simp [h1]), if_neg hk, if_neg (by simp [h2]), if_neg (by simp [h3])]
theorem check_zero (c : Cert) : c.check = 0 ↔ c.ok = true := by
  unfold Cert.check; split <;> simp_all
/-- A certificate with one signer more. -/
def Cert.more (c : Cert) (k : Nat) : Cert := { c with signers := addB c.signers k }
theorem setOk_bits (s : BitVec 32) : setOk s = true ↔ ∀ k ∈ bitsOf s, k < 10 := by
  have h3 : qtimes 3 3 = 10 := rfl
  unfold setOk
  rw [decide_eq_true_iff, qcheck_zero, h3]
  constructor
  · intro h k hk; have := h.2 k hk; omega
  · intro h; exact ⟨by decide, fun k hk => by have := h k hk; omega⟩
theorem ok_more (c : Cert) (hc : c.ok = true) (hk0 : c.kind ≠ 0) {k : Nat} (hk : k < 32) : (c.more k).ok = decide (k < 10) := by
  have hs0 : setOk c.signers = true := by
    unfold Cert.ok at hc
    rw [if_neg hk0] at hc
    split at hc
    · simp [Cert.reg, Cert.base] at hc; exact hc.1.1.1.2
    · split at hc
      · simp [Cert.fall, Cert.base] at hc; exact hc.1.1.1.2
      · cases hc
  have hs : setOk (c.more k).signers = decide (k < 10) := by
    rw [Bool.eq_iff_iff, setOk_bits, decide_eq_true_iff]
    constructor
    · intro h; exact h k ((mem_addB hk).2 (.inr rfl))
    · intro h i hi
      rcases (mem_addB hk).1 hi with e | e
      · exact (setOk_bits _).1 hs0 i e
      · omega
  have hne : (c.more k).signers ≠ 0#32 := fun e => by
    have := addB_bit c.signers hk k
    have e' : addB c.signers k = 0#32 := e
    rw [e'] at this; simp at this
  have hne2 : decide ((c.more k).signers = 0#32) = false := decide_eq_false hne
  unfold Cert.ok at hc ⊢
  have ek : (c.more k).kind = c.kind := rfl
  rw [if_neg hk0] at hc
  rw [ek, if_neg hk0]
  split at hc
  · rename_i h1
    rw [if_pos h1]
    simp only [Cert.reg, Cert.base, Bool.and_eq_true] at hc ⊢
    obtain ⟨⟨⟨⟨⟨⟨⟨a1, a2⟩, a3⟩, a4⟩, a5⟩, a6⟩, a7⟩, a8⟩ := hc
    rw [hs, hne2]
    show (inR c.block 1 2147483647 && inR c.view 1 1048576 && inR c.round 1 1073741824 && !false && decide (k < 10) && decide (c.height = 0) && decide (c.author = 0) && decide (c.coin = 0#32)) = _
    rw [a1, a2, a3, a6, a7, a8]; simp
  · rename_i h1
    rw [if_neg h1]
    split at hc
    · rename_i h2
      rw [if_pos h2]
      simp only [Cert.fall, Cert.base, Bool.and_eq_true] at hc ⊢
      obtain ⟨⟨⟨⟨⟨⟨⟨a1, a2⟩, a3⟩, a4⟩, a5⟩, a6⟩, a7⟩, a8⟩ := hc
      rw [hs, hne2]
      show (inR c.block 1 2147483647 && inR c.view 1 1048576 && inR c.round 1 1073741824 && !false && decide (k < 10) && inR c.height 1 3 && inR c.author 0 9 && setOk c.coin) = _
      rw [a1, a2, a3, a6, a7, a8]; simp
    · cases hc
theorem see_again (f : Int) (bad : BitVec 32) (sh : List Shr) (co : Int → Tos) (view : Int) (set : BitVec 32) (h : (seeR f bad sh co view set).2.1 = 0) :
    (seeR f bad sh (seeR f bad sh co view set).2.2 view set).2.1 = 0 ∧ (seeR f bad sh (seeR f bad sh co view set).2.2 view set).1 = (seeR f bad sh co view set).1 := by
  have h1 : mayE view = 0 := by
    apply Classical.byContradiction; intro hn
    rw [seeR, if_pos hn] at h; exact hn h
  have h2 : enE f bad sh (coinStm view) set (qtimes 1 f) = 0 := by
    apply Classical.byContradiction; intro hn
    rw [seeR, if_neg (by simp [h1]), if_pos hn] at h; exact hn h
  have key : ∀ co, seeR f bad sh co view set = (if (co view).chosen then (co view).who else leadN f view, 0, coUpd co view ⟨if (co view).chosen then (co view).who else leadN f view, (co view).chosen, true⟩) := fun co => by
    rw [seeR, if_neg (by simp [h1]), if_neg (by simp [h2])]
  rw [key co]
  simp only
  rw [key]
  simp only [coUpd, if_true]
  refine ⟨trivial, ?_⟩
  split <;> simp_all
/-- The document's sentence: valid with one more if that one's share counts, and not otherwise. -/
theorem more_law (d : RegD) (c : Cert) {k : Nat} (hk : k < 32) (hk0 : c.kind ≠ 0) (h : (certR d c).1 = 0) :
    ((certR { d with co := (certR d c).2 } (c.more k)).1 = 0) ↔ cntsE d.f d.bad d.sh ⟨(k : Nat), c.stm⟩ = 0 := by
  obtain ⟨h1, h2, h3, h4⟩ := (certR_zero d c hk0).1 h
  have hco := certR_co d c hk0 h
  rw [hco, certR_zero _ (c.more k) hk0]
  have hok := (check_zero c).1 h1
  have e1 : contE { d with co := (endR d c).2 } (c.more k) = contE d c := rfl
  rw [e1, h2]
  have hm := ok_more c hok hk0 hk
  obtain ⟨p1, p2⟩ := (enE_zero ..).1 h3
  obtain ⟨q1, q2⟩ := (allE_zero ..).1 p1
  obtain ⟨t1, t2⟩ := (qcheck_zero ..).1 q1
  have hN := qtimes3 d.f
  have hcnt : cntsE d.f d.bad d.sh ⟨(k : Nat), c.stm⟩ = 0 → (k : Int) < qtimes 3 d.f := fun e => by
    apply Classical.byContradiction; intro hn
    unfold cntsE replE at e
    rw [if_pos (by rw [if_pos (by simp; omega)]; decide), if_pos (by simp; omega)] at e
    cases e
  constructor
  · rintro ⟨g1, _, g3, _⟩
    obtain ⟨r1, r2⟩ := (enE_zero ..).1 g3
    obtain ⟨s1, s2⟩ := (allE_zero ..).1 r1
    exact s2 k ((mem_addB hk).2 (.inr rfl))
  · intro e
    have hlt := hcnt e
    refine ⟨(check_zero _).2 (by rw [hm]; simp; omega), rfl, ?_, ?_⟩
    · refine (enE_zero ..).2 ⟨(allE_zero ..).2 ⟨(qcheck_zero ..).2 ⟨t1, fun i hi => ?_⟩, fun i hi => ?_⟩, ?_⟩
      · rcases (mem_addB hk).1 hi with e' | e'
        · exact t2 i e'
        · subst e'; exact hlt
      · rcases (mem_addB hk).1 hi with e' | e'
        · exact q2 i e'
        · subst e'; exact e
      · have := pop_addB c.signers hk
        exact Int.le_trans p2 (by exact_mod_cast this)
    · have ee : (c.more k).endorsed = c.endorsed := rfl
      unfold endR at h4 ⊢
      rw [ee]
      by_cases g : c.endorsed = true
      · rw [if_pos g] at h4 ⊢
        rw [if_pos g]
        simp only at h4 ⊢
        have hz : (seeR d.f d.bad d.sh d.co c.view c.coin).2.1 = 0 := by
          apply Classical.byContradiction; intro hn
          rw [if_neg (by simp [hn])] at h4; exact hn h4
        have hw : (seeR d.f d.bad d.sh d.co c.view c.coin).1 = c.author := by
          apply Classical.byContradiction; intro hn
          rw [if_pos ⟨hz, hn⟩] at h4; cases h4
        obtain ⟨y1, y2⟩ := see_again d.f d.bad d.sh d.co c.view c.coin hz
        have z1 : (seeR d.f d.bad d.sh (seeR d.f d.bad d.sh d.co c.view c.coin).2.2 (c.more k).view (c.more k).coin).2.1 = 0 := y1
        have z2 : (seeR d.f d.bad d.sh (seeR d.f d.bad d.sh d.co c.view c.coin).2.2 (c.more k).view (c.more k).coin).1 = c.author := y2.trans hw
        rw [z1, z2]
        rw [if_neg (fun h => h.2 rfl)]
      · rw [if_neg g]
end Go.Proofs.YtmhaimdpfelkpaaGreatDoor
