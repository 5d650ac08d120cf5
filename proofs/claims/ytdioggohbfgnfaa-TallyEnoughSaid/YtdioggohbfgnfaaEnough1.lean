/-
  TallyEnough: what votes give, in plain data.
-/
import Derived.Test.YtdioggohbfgnfaaTally6
set_option linter.unusedVariables false
set_option linter.unusedSimpArgs false
namespace Go.Proofs.Ytdioggohbfgnfaa
open Go Go.Abs Go.Proofs

/-- Is a vote taken (by a tally that isn't full)? -/
def acc (f : Int) (c : Cert) : Bool := !vbad f c && decide (keptE 1 c.view = 0)
theorem verr_acc {f : Int} {es : Votes} {c : Cert} (h : es.length < 256) : verr f 1 es c = 0 ↔ acc f c = true := by
  unfold verr acc
  have h1 : ¬ ((256 : Int) ≤ es.length) := by omega
  cases hb : vbad f c
  · by_cases hk : keptE 1 c.view = 0 <;> simp [hk, h1]
  · simp
theorem acc_spec {f : Int} {c : Cert} (h : acc f c = true) : c.kind ≠ 0 ∧ c.coin = 0#32 := by
  unfold acc at h
  simp only [Bool.and_eq_true, Bool.not_eq_true'] at h
  refine ⟨fun e => by have := h.1; simp [vbad, e] at this, ?_⟩
  have := h.1
  unfold vbad at this
  simp at this
  exact this.1.2
/-- What the signers of the votes of one kind make together. -/
def orOf (f : Int) (k : Cert) : List Cert → BitVec 32
  | [] => 0#32
  | c :: cs => (if acc f c = true ∧ c.plain = k then c.signers else 0#32) ||| orOf f k cs
theorem orOf_append (f : Int) (k : Cert) (a b : List Cert) : orOf f k (a ++ b) = orOf f k a ||| orOf f k b := by
  induction a with
  | nil => simp [orOf]
  | cons c a ih => simp only [List.cons_append, orOf, ih, BitVec.or_assoc]
theorem orOf_perm {f : Int} {k : Cert} {a b : List Cert} (h : a.Perm b) : orOf f k a = orOf f k b := by
  induction h with
  | nil => rfl
  | cons x _ ih => simp only [orOf, ih]
  | swap x y l => simp only [orOf, ← BitVec.or_assoc]; rw [BitVec.or_comm (if acc f y = true ∧ y.plain = k then y.signers else 0#32)]
  | trans _ _ h1 h2 => exact h1.trans h2
/-- The entries behind votes. -/
def run1 (f : Int) (st : Votes × Nat) (c : Cert) : Votes × Nat := (vput f 1 st.1 st.2 c, vclk f 1 st.1 st.2 c)
def runV (f : Int) (cs : List Cert) : Votes × Nat := cs.foldl (run1 f) ([], 0)
theorem runV_snoc (f : Int) (cs : List Cert) (c : Cert) : runV f (cs ++ [c]) = run1 f (runV f cs) c := by simp [runV, List.foldl_append]
theorem snoc_ind {α : Type} {p : List α → Prop} (h0 : p []) (h1 : ∀ l a, p l → p (l ++ [a])) (l : List α) : p l := by
  have : ∀ r : List α, p r.reverse := fun r => by
    induction r with
    | nil => exact h0
    | cons a r ih => rw [List.reverse_cons]; exact h1 _ _ ih
  have := this l.reverse
  rwa [List.reverse_reverse] at this
theorem runV_len (f : Int) (cs : List Cert) : (runV f cs).1.length ≤ cs.length := by
  induction cs using snoc_ind with
  | h0 => simp [runV]
  | h1 l a ih =>
    rw [runV_snoc]
    have := vput_len f 1 (runV f l).1 (runV f l).2 a
    simp only [run1, List.length_append, List.length_singleton]
    omega
theorem runV_get (f : Int) (k : Cert) (cs : List Cert) (h : cs.length < 256) : (mget (runV f cs).1 k).getD 0#32 = orOf f k cs := by
  revert h
  induction cs using snoc_ind with
  | h0 => intro _; rfl
  | h1 l a ih =>
    intro h
    simp only [List.length_append, List.length_singleton] at h
    have ih' := ih (by omega)
    have hl := runV_len f l
    rw [runV_snoc, orOf_append, ← ih']
    simp only [run1, orOf, vput_get]
    simp only [verr_acc (show (runV f l).1.length < 256 by omega)]
    by_cases ha : acc f a = true
    · by_cases hk : k = a.plain
      · subst hk; simp [ha, vset]
      · have hk' : ¬ a.plain = k := fun e => hk e.symm
        simp [ha, hk, hk']
    · simp [ha]
/-- What the last of some votes is told. -/
def tell (f : Int) (cs : List Cert) (c : Cert) : Cert := vres f 1 (runV f cs).1 c
theorem tell_eq (f : Int) (cs : List Cert) (c : Cert) (h : cs.length < 255) : tell f cs c = if acc f c = true ∧ qtimes 2 f ≤ pop (orOf f c.plain (cs ++ [c])) then { c with signers := orOf f c.plain (cs ++ [c]) } else Cert.zero := by
  have hl := runV_len f cs
  unfold tell vres
  have e := verr_acc (f := f) (es := (runV f cs).1) (c := c) (by omega)
  have hv : acc f c = true → vset (runV f cs).1 c = orOf f c.plain (cs ++ [c]) := fun ha => by
    rw [orOf_append]
    unfold vset
    rw [runV_get f c.plain cs (by omega)]
    simp [orOf, ha]
  by_cases ha : acc f c = true
  · have e0 := e.2 ha
    simp only [e0, ha, hv ha, true_and]
  · have e0 : ¬ verr f 1 (runV f cs).1 c = 0 := fun x => ha (e.1 x)
    simp [e0, ha]
theorem tell_perm {f : Int} {a b : List Cert} (c : Cert) (h : a.Perm b) (hl : a.length < 255) : tell f a c = tell f b c := by
  rw [tell_eq f a c hl, tell_eq f b c (by rw [← h.length_eq]; exact hl), orOf_perm (h.append (List.Perm.refl [c]))]
theorem same_key {f : Int} {x c : Cert} (hx : acc f x = true) (hc : acc f c = true) (s : BitVec 32) : ({ x with signers := s } : Cert) = { c with signers := s } ↔ x.plain = c.plain := by
  have h1 := (acc_spec hx).2
  have h2 := (acc_spec hc).2
  cases x; cases c
  simp_all [Cert.plain]
end Go.Proofs.Ytdioggohbfgnfaa
