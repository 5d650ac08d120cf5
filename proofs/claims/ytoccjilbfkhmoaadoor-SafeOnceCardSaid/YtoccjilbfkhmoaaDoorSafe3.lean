/-
  Package safe: the bytes of a record.
-/
import Derived.Test.YtoccjilbfkhmoaaDoorSafe2
import Derived.Test.YtoccjilbfkhmoaaDoorBytes3
set_option linter.unusedVariables false
set_option linter.unusedSimpArgs false
namespace Go.Proofs.YtoccjilbfkhmoaaDoor
open Go Go.Abs Go.Proofs
set_option maxRecDepth 100000
attribute [local irreducible] AEnd AW ACalls

/-- The bytes under way, and cells that stay. -/
def Ow (B G : AH) (box : Nat) (ps : List (Nat × O)) (l : List UInt8) : Prop := ∃ v F, Out B G box v F l ∧ ∀ p ∈ ps, G.get p.1 = some p.2 ∧ p.1 ≠ box ∧ p.1 ∉ F
theorem Ow.keep {B G G' : AH} {box : Nat} {ps : List (Nat × O)} {l : List UInt8} (h : Ow B G box ps l) (u : Upd G G' []) : Ow B G' box ps l := by
  obtain ⟨v, F, h1, h2⟩ := h
  exact ⟨v, F, h1.keep u, fun p hp => ⟨u.keep (by simp) (h2 p hp).1, (h2 p hp).2⟩⟩
theorem Ow.more {B G G' : AH} {box : Nat} {ps : List (Nat × O)} {l : List UInt8} (h : Ow B G box ps l) (u : Upd G G' []) {k : Nat} {o : O} (hk : G'.get k = some o) (hn : G.next ≤ k) : Ow B G' box ((k, o) :: ps) l := by
  obtain ⟨v, F, h1, h2⟩ := h
  refine ⟨v, F, h1.keep u, fun p hp => ?_⟩
  rcases List.mem_cons.1 hp with rfl | hp
  · refine ⟨hk, ?_, fun hj => ?_⟩
    · have := AH.get_lt h1.get; simp only; omega
    · have := h1.own.lt _ hj; simp only at this; omega
  · exact ⟨u.keep (by simp) (h2 p hp).1, (h2 p hp).2⟩
theorem Ow.old {B G : AH} {box : Nat} {ps : List (Nat × O)} {l : List UInt8} (h : Ow B G box ps l) : Upd B G [] := by obtain ⟨v, F, h1, h2⟩ := h; exact h1.upd
theorem Ow.at {B G : AH} {box : Nat} {ps : List (Nat × O)} {l : List UInt8} (h : Ow B G box ps l) {p : Nat × O} (hp : p ∈ ps) : G.get p.1 = some p.2 := by obtain ⟨v, F, h1, h2⟩ := h; exact (h2 p hp).1
theorem Ow.less {B G : AH} {box : Nat} {ps qs : List (Nat × O)} {l : List UInt8} (h : Ow B G box ps l) (hq : ∀ p ∈ qs, p ∈ ps) : Ow B G box qs l := by obtain ⟨v, F, h1, h2⟩ := h; exact ⟨v, F, h1, fun p hp => h2 p (hq p hp)⟩
/-- What a record that may be is made of. -/
structure SRec.Rng (r : SRec) : Prop where
  kind : 1 ≤ r.kind ∧ r.kind ≤ 10
  certs : kclass r.kind = .cc → r.cert.ok = true ∧ r.parent.ok = true
  cert : kclass r.kind = .c → r.cert.ok = true
  sa : kclass r.kind = .sa → 0 ≤ r.author ∧ r.author ≤ 9
  nb : kclass r.kind = .nb → (0 ≤ r.count ∧ r.count ≤ 2147483647) ∧ 0 ≤ r.block ∧ r.block ≤ 2147483647
theorem SRec.rng {r : SRec} (h : r.form = 0) : r.Rng := by
  obtain ⟨hb, ho⟩ := form_only h
  have hk : ¬ (r.kind < 1 ∨ 10 < r.kind) := fun k => hb (kclass_bad k)
  unfold SRec.form at h
  rw [if_neg (by simp [hb, ← ho])] at h
  refine ⟨by omega, fun hc => ?_, fun hc => ?_, fun hc => ?_, fun hc => ?_⟩
  · rw [hc] at h
    simp only at h
    have h1 : r.certified = true := by
      cases h1 : r.certified
      · simp [h1] at h
      · rfl
    have hkk : r.kind = 1 ∨ r.kind = 4 := by
      rcases kinds r.kind with k | k | k | k | k | k | k | k | k | k | k
      · exact .inl k
      · rw [k] at hc; cases hc
      · rw [k] at hc; cases hc
      · exact .inr k
      all_goals first | (rw [k] at hc; cases hc) | exact absurd k hk
    unfold SRec.certified at h1
    rcases hkk with k | k <;> rw [k] at h1 <;> simp at h1
    · exact ⟨h1.1, h1.2.2⟩
    · exact ⟨h1.1, h1.2.2⟩
  · rw [hc] at h
    simp only at h
    have h1 : r.certified = true := by
      cases h1 : r.certified
      · simp [h1] at h
      · rfl
    unfold SRec.certified at h1
    exact (Bool.and_eq_true _ _ ▸ h1).1
  · rw [hc] at h
    simp only at h
    have h1 : r.setBad = false := by
      cases h1 : r.setBad
      · rfl
      · simp [h1] at h
    simp [SRec.setBad] at h1
    omega
  · rw [hc] at h
    simp only at h
    have h1 : r.numBad = false := by
      cases h1 : r.numBad
      · rfl
      · simp [h1] at h
    simp [SRec.numBad] at h1
    omega
theorem Ow.fresh {H B G : AH} {box : Nat} {ps : List (Nat × O)} {l : List UInt8} (h : Ow B G box ps l) (hu : Upd H B []) : ∃ w, aload Tryd.prog G 82 (.p (some (box, 0, 0))) = some w ∧ Fresh H G w l := by
  obtain ⟨v, F, h1, h2⟩ := h
  refine ⟨v, by simp [aload, h1.get], F, h1.own, hu.trans h1.upd (by simp), fun j hj => ?_⟩
  have := h1.loF j hj
  have := hu.1
  omega
end Go.Proofs.YtoccjilbfkhmoaaDoor
