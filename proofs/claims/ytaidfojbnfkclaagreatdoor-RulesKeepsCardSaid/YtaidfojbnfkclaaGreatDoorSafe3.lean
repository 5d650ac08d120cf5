/-
  Package safe: the bytes of a record.
-/
import Derived.Test.YtaidfojbnfkclaaGreatDoorSafe2
import Derived.Test.YtaidfojbnfkclaaGreatDoorTxtC
set_option linter.unusedVariables false
set_option linter.unusedSimpArgs false
namespace Go.Proofs.YtaidfojbnfkclaaGreatDoor
open Go Go.Abs Go.Proofs
set_option maxRecDepth 100000
attribute [local irreducible] AEnd AW ACalls
/-- What a record that may be is made of. -/
structure SRec.Rng (r:SRec):Prop where
 kind:1 ≤ r.kind ∧ r.kind ≤ 10
 certs:kclass r.kind = .cc → r.cert.ok = true ∧ r.parent.ok = true
 cert:kclass r.kind = .c → r.cert.ok = true
 sa:kclass r.kind = .sa → 0 ≤ r.author ∧ r.author ≤ 9
 nb:kclass r.kind = .nb → (0 ≤ r.count ∧ r.count ≤ 2147483647) ∧ 0 ≤ r.block ∧ r.block ≤ 2147483647
theorem SRec.rng {r:SRec} (h:r.form = 0):r.Rng:=by
 obtain ⟨hb,ho⟩:=form_only h
 have hk:¬ (r.kind < 1 ∨ 10 < r.kind):=fun k=>hb (kclass_bad k)
 unfold SRec.form at h
 rw [if_neg (by simp [hb,← ho])] at h
 refine ⟨by omega,fun hc=>?_,fun hc=>?_,fun hc=>?_,fun hc=>?_⟩
 · rw [hc] at h
   simp only at h
   have h1:r.certified = true:=by
    cases h1:r.certified
    · simp [h1] at h
    · rfl
   have hkk:r.kind = 1 ∨ r.kind = 4:=by
    rcases kinds r.kind with k | k | k | k | k | k | k | k | k | k | k
    · exact .inl k
    · rw [k] at hc; cases hc
    · rw [k] at hc; cases hc
    · exact .inr k
    all_goals first | (rw [k] at hc; cases hc) | exact absurd k hk
   unfold SRec.certified at h1
   rcases hkk with k | k <;> rw [k] at h1 <;> simp at h1
   · exact ⟨h1.1,h1.2.2⟩
   · exact ⟨h1.1,h1.2.2⟩
 · rw [hc] at h
   simp only at h
   have h1:r.certified = true:=by
    cases h1:r.certified
    · simp [h1] at h
    · rfl
   unfold SRec.certified at h1
   exact (Bool.and_eq_true _ _ ▸ h1).1
 · rw [hc] at h
   simp only at h
   have h1:r.setBad = false:=by
    cases h1:r.setBad
    · rfl
    · simp [h1] at h
   simp [SRec.setBad] at h1
   omega
 · rw [hc] at h
   simp only at h
   have h1:r.numBad = false:=by
    cases h1:r.numBad
    · rfl
    · simp [h1] at h
   simp [SRec.numBad] at h1
   omega
end Go.Proofs.YtaidfojbnfkclaaGreatDoor
