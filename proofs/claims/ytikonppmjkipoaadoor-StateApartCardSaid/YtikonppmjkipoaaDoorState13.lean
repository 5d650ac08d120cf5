/-
  What New makes is within bounds; the steps of StateKeeps.
-/
import Derived.Test.YtikonppmjkipoaaDoorStateArg
import Derived.Test.YtikonppmjkipoaaDoorStateAlive
set_option linter.unusedVariables false
set_option linter.unusedSimpArgs false
namespace Go.Proofs.YtikonppmjkipoaaDoor
open Go Go.Abs Go.Proofs
set_option maxRecDepth 100000
attribute [local irreducible] AEnd AW ACalls
theorem newGo_good : ∀ (l : List Acct) (s : PSt) (all : Int) (n : Nat), s.Sm n → s.Pos all → all ≤ 4611686018427387904 → (∀ a ∈ l, a.name.length ≤ 1000) → (newGo l s all).2.2 = 0 →
    (newGo l s all).1.Sm (n + l.length) ∧ (newGo l s all).1.Pos (newGo l s all).2.1 ∧ (newGo l s all).2.1 ≤ 4611686018427387904
  | [], s, all, n, h1, h2, h3, _, _ => ⟨h1, h2, h3⟩
  | a :: l, s, all, n, h1, h2, h3, h4, h5 => by
    unfold newGo at h5 ⊢
    split at h5
    · cases h5
    rename_i k1
    rw [if_neg k1]
    split at h5
    · cases h5
    rename_i k2
    rw [if_neg k2]
    split at h5
    · rename_i k3; exact absurd h5 k3
    rename_i k3
    rw [if_neg k3]
    have ha : 0 ≤ a.amount := by
      apply Classical.byContradiction
      intro h; exact k1 (.inr (by omega))
    obtain ⟨e1, e2⟩ := addD_pos h2.all0 ha (by simpa using k3)
    have hz : s.acc a.name = (0, 0) := by
      unfold PSt.acc
      cases hm : mget s.A a.name with
      | none => rfl
      | some x => rw [hm] at k2; simp at k2
    have p := h2.put (k := a.name) (x := (a.amount, 0)) ha
    rw [hz] at p
    have ea : all - (0, 0).1 + (a.amount, 0).1 = (addD all a.amount).1 := by rw [e1]; simp
    have p' : (s.putA a.name (a.amount, 0)).Pos (addD all a.amount).1 := ⟨p.pos, p.sum.trans (by rw [e1]; simp)⟩
    have b0 := h2.all0
    have r := newGo_good l _ _ (n + 1) (h1.putA (k := a.name) (x := (a.amount, 0)) (h4 a (by simp)) ⟨⟨by dsimp only; omega, by dsimp only; omega⟩, by simp⟩) p' (by rw [e1]; omega) (fun x hx => h4 x (by simp [hx])) h5
    rw [show n + 1 + l.length = n + (a :: l).length by simp; omega] at r
    exact r
theorem newP_good (l : List Acct) (h4 : ∀ a ∈ l, a.name.length ≤ 1000) (h5 : (newP l).2.2 = 0) : (newP l).1.Sm l.length ∧ (newP l).1.Pos (newP l).2.1 ∧ (newP l).2.1 ≤ 4611686018427387904 := by
  have := newGo_good l .zero 0 0 ⟨by simp [PSt.zero], by simp [PSt.zero], by simp [PSt.zero], by simp [PSt.zero], by simp [PSt.zero], by simp [PSt.zero]⟩ ⟨by simp [PSt.zero], by simp [PSt.zero, sumA]⟩ (by decide) h4 h5
  rwa [Nat.zero_add] at this
theorem tx_new (M : AH) (z : List V) (hz : z.length = 7) (x : Tx) : ∃ N, astore Tryd.prog (M.new (.cells z 0 false 0)) 25 (.p (some (M.next, 0, 0))) (.agg x.cells) = some N ∧ N.get M.next = some (.cells x.cells 0 false 0) ∧ Upd M N [] ∧ N.next = M.next + 1 :=
  ⟨(M.new (.cells z 0 false 0)).set M.next (.cells x.cells 0 false 0), by simp [astore, AH.get_new, V.cells, hz, show splice z 0 x.cells = x.cells from splice_all (by rw [hz]; rfl)], AH.get_set_same (by simp), ⟨by simp, fun j hj _ => by rw [AH.get_set_ne (by omega), AH.get_new, if_neg (by omega)]⟩, by simp⟩
/-- Digest, as one text. -/
theorem digest_is (H : AH) {sid am vm : Nat} {s : PSt} {n : Nat} (h : StAt H sid am vm s) (sm : s.Sm n) (hn : n ≤ 100000) : ACalls Tryd.prog 13 [.p (some (sid, 0, 0))] H fun r H' => (∃ D, r = .s D ∧ IsDig s D) ∧ H' = H :=
  (digest_ok H h sm hn).mono fun r H' ⟨⟨ks, ps, h1, h2, h3, h4, h5⟩, e⟩ => ⟨⟨_, h5, ks, ps, h1, h2, h3, h4, rfl⟩, e⟩
end Go.Proofs.YtikonppmjkipoaaDoor
