/-
  Copy, Total.
-/
import Derived.Test.YtikonppmjkipoaaDoorState4
set_option linter.unusedVariables false
set_option linter.unusedSimpArgs false
namespace Go.Proofs.YtikonppmjkipoaaDoor
open Go Go.Abs Go.Proofs
set_option maxRecDepth 100000
attribute [local irreducible] AEnd AW ACalls

theorem cloneB_ok (H : AH) {id : Nat} {es : List (V × V × Nat)} {clk : Nat} (h : H.get id = some (.map es clk)) : ACalls Tryd.prog 26 [.m (some id)] H fun r H' => r = .m (some H.next) ∧ H' = H.new (.map es clk) := by
  refine ACalls_body Tryd.func26 rfl rfl ?_
  refine AW_seq ?_
  refine AW_reg [0] fun K hK => ?_ -- region 0
  simp [init_eq]
  refine hK _ _ ?_; clear hK K
  refine AW_seq ?_
  refine AW_seq ?_
  refine AW_reg [0, 4] fun K hK => ?_ -- region 1
  simp [init_eq, abin, Go.Abs.aeq]
  refine hK _ _ ?_; clear hK K
  refine AW_cond' rfl rfl (fun hc => ?_) (fun hc => ?_)
  · cases hc
  refine AW_skip ?_
  refine AW_seq ?_
  refine AW_reg [2] fun K hK => ?_ -- region 3
  simp [init_eq]
  refine ACalls.mono (extVal_ok (ext49 _ h)) fun r H' ⟨hr, e⟩ => ?_
  subst hr e
  simp [atypeAssert]
  refine hK _ _ ?_; clear hK K
  exact AW_ret (end_ret rfl ⟨rfl, rfl⟩)
theorem state_build (a b : Nat) : abuild Tryd.prog 55 [(0, .m (some a)), (1, .m (some b))] = some (.agg [.m (some a), .m (some b)]) := by
  first | (simp [abuild, afill, V.cells, splice]; done) | (simp [abuild, afill, V.cells, splice]; rfl)
theorem copy_ok (H : AH) {sid am vm : Nat} {s : PSt} (h : StAt H sid am vm s) : ACalls Tryd.prog 12 [.p (some (sid, 0, 0))] H fun r H' => ∃ sid' am' vm', r = .p (some (sid', 0, 0)) ∧ StAt H' sid' am' vm' s ∧ Upd H H' [] ∧ H.next ≤ sid' ∧ H.next ≤ am' ∧ H.next ≤ vm' := by
  refine ACalls_body Tryd.func12 rfl rfl ?_
  refine AW_seq ?_
  refine AW_reg [0] fun K hK => ?_ -- region 0
  simp [init_eq]
  refine hK _ _ ?_; clear hK K
  refine AW_seq ?_
  refine AW_seq ?_
  refine AW_reg [0, 4] fun K hK => ?_ -- region 1
  simp [init_eq, abin]
  refine hK _ _ ?_; clear hK K
  refine AW_cond' rfl rfl (fun hc => ?_) (fun hc => ?_)
  · cases hc
  refine AW_skip ?_
  refine AW_seq ?_
  refine AW_regd [2] pl_12_3 pe_12_3 (by kernel_rfl) (by kernel_rfl) (by decide) fun K hK => ?_
  simp [init_eq, pl_12_3, afieldAddr, h.la, h.lv]
  refine ACalls.mono (cloneA_ok H h.ga) fun r H1 ⟨hr, e⟩ => ?_
  subst hr
  have u1 : Upd H H1 [] := by rw [e]; exact Upd.new ..
  have g1 : H1.get H.next = some (.map (ents kS vA s.A) s.ca) := by rw [e]; exact AH.get_new_same ..
  have n1 : H1.next = H.next + 1 := by rw [e]; rfl
  clear e
  try simp
  refine ⟨u1.ext, ?_⟩
  refine ACalls.mono (cloneB_ok H1 (u1.keep (by simp) h.gv)) fun r H2 ⟨hr, e⟩ => ?_
  subst hr
  have u2 : Upd H1 H2 [] := by rw [e]; exact Upd.new ..
  have g2 : H2.get H1.next = some (.map (ents kP vT s.B) s.cb) := by rw [e]; exact AH.get_new_same ..
  have n2 : H2.next = H1.next + 1 := by rw [e]; rfl
  clear e
  simp [state_build, V.cells]
  obtain ⟨G, e1, gt, gn, go⟩ := H2.boxed [.m (some H.next), .m (some H1.next)]
  try rw [e1]
  have u3 : Upd H2 G [] := ⟨by omega, fun j hj _ => go j hj⟩
  refine hK _ _ ?_; clear hK K
  exact AW_ret (end_ret rfl ⟨H2.next, H.next, H1.next, rfl, ⟨gt, u3.keep (by simp) (u2.keep (by simp) g1), u3.keep (by simp) g2, h.ao, h.bo, by omega⟩, (u1.trans u2 (by simp)).trans u3 (by simp), by omega, by omega, by omega⟩)
/-- All amounts together. -/
def sumA (A : Accs) : Int := (A.map (·.2.1.1)).sum
/-- What was not seen yet adds up to what is missing. -/
def sumSeen (A : Accs) (seen : List Nat) : Int := sumA (A.filter fun e => decide (e.2.2 ∈ seen))
theorem sumSeen_nil (A : Accs) : sumSeen A [] = 0 := by
  unfold sumSeen
  rw [List.filter_eq_nil_iff.2 (by simp)]; rfl
theorem sumSeen_step : ∀ {A : Accs} {seen : List Nat} {e : List UInt8 × (Int × Int) × Nat}, (A.map (·.2.2)).Nodup → e ∈ A → e.2.2 ∉ seen → sumSeen A (seen ++ [e.2.2]) = sumSeen A seen + e.2.1.1
  | [], _, _, _, h, _ => by cases h
  | a :: l, seen, e, hn, he, hs => by
    rw [List.map_cons, List.nodup_cons] at hn
    by_cases h : e = a
    · subst h
      have h1 : ∀ x ∈ l, x.2.2 ≠ e.2.2 := fun x hx k => hn.1 (by rw [← k]; exact List.mem_map_of_mem hx)
      have h2 : (l.filter fun x => decide (x.2.2 ∈ seen ++ [e.2.2])) = l.filter fun x => decide (x.2.2 ∈ seen) := by
        apply List.filter_congr
        intro x hx
        simp [h1 x hx]
      unfold sumSeen sumA
      rw [List.filter_cons, List.filter_cons, h2]
      simp [hs]; omega
    · have he' : e ∈ l := by simpa [h] using he
      have ih := sumSeen_step hn.2 he' hs
      have hne : a.2.2 ≠ e.2.2 := fun k => hn.1 (by rw [k]; exact List.mem_map_of_mem he')
      unfold sumSeen sumA at ih ⊢
      rw [List.filter_cons, List.filter_cons]
      by_cases h3 : a.2.2 ∈ seen
      · simp [h3, hne] at ih ⊢; omega
      · simp [h3, hne] at ih ⊢; exact ih
theorem sumSeen_all {A : Accs} {seen : List Nat} (h : ∀ e ∈ A, e.2.2 ∈ seen) : sumSeen A seen = sumA A := by
  unfold sumSeen
  rw [List.filter_eq_self.2 (fun e he => by simpa using h e he)]
/-- No part of it is out of bounds. -/
theorem sum_le {A : Accs} (h : ∀ e ∈ A, 0 ≤ e.2.1.1) (p : List UInt8 × (Int × Int) × Nat → Bool) : 0 ≤ sumA (A.filter p) ∧ sumA (A.filter p) ≤ sumA A := by
  induction A with
  | nil => simp [sumA]
  | cons a l ih =>
    have := ih fun e he => h e (by simp [he])
    have h0 := h a (by simp)
    unfold sumA at this ⊢
    rw [List.filter_cons]
    split <;> simp <;> omega
set_option maxHeartbeats 400000 in
theorem total_ok (H : AH) {sid am vm : Nat} {s : PSt} (h : StAt H sid am vm s) (hp : ∀ e ∈ s.A, 0 ≤ e.2.1.1) (hs : sumA s.A ≤ 9223372036854775807) : ACalls Tryd.prog 14 [.p (some (sid, 0, 0))] H fun r H' => r = .i .i64 (sumA s.A) ∧ H' = H := by
  have l2 := AH.get_lt h.ga
  refine ACalls.pure (Q := fun r => r = .i .i64 (sumA s.A)) ⟨_, Tryd.func14, rfl, rfl⟩ ?_
  refine ACalls_body Tryd.func14 rfl rfl ?_
  refine AW_seq ?_
  refine AW_reg [0] fun K hK => ?_ -- region 0
  simp [init_eq]
  refine hK _ _ ?_; clear hK K
  refine AW_seq ?_
  refine AW_reg [0, 3] fun K hK => ?_ -- region 1
  simp [init_eq]
  refine hK _ _ ?_; clear hK K
  refine AW_seq ?_
  refine AW_seq ?_
  refine AW_reg [0, 3, 7] fun K hK => ?_ -- region 2
  simp [init_eq, abin]
  refine hK _ _ ?_; clear hK K
  refine AW_cond' rfl rfl (fun hc => ?_) (fun hc => by cases hc)
  have hrg : arange Tryd.prog H 52 (.m (some am)) = some (.p (some (H.next, 0, 0)), H.new (.mapIter (some am) s.ca [] s.ca)) := by
    simp [arange, h.ga]
  refine AW_seq ?_
  refine AW_reg [3, 12] fun K hK => ?_ -- region 3
  simp [init_eq, afieldAddr, h.la, hrg]
  refine hK _ _ ?_; clear hK K
  refine AW_block ?_
  refine AW_loopx (fun x : List Nat => ⟨22, [(3, .i .i64 (sumSeen s.A x)), (12, .p (some (H.next, 0, 0)))]⟩)
    (fun x M => Upd H M [] ∧ M.get H.next = some (.mapIter (some am) s.ca x s.ca)) (fun x => unseen s.A x) [] (by simp [sumSeen_nil]) ⟨Upd.new .., AH.get_new_same ..⟩ fun x M ⟨u, hit⟩ => ?_ -- loop
  have hm := u.keep (by simp) h.ga
  refine AW_seq ?_
  refine AW_reg [3, 12, 14] fun K hK => ?_ -- region 4
  simp [init_eq]
  unfold ANext
  simp only [hit, hm]
  refine ⟨?_, fun e he hns => ?_, fun hall => ?_⟩
  · rcases hl : s.A with _ | ⟨e, l⟩
    · exact .inr (.inl rfl)
    · exact .inr (.inr ⟨(kS e.1, vA e.2.1, e.2.2), by simp [ents], h.ao.past e (by rw [hl]; simp)⟩)
  · simp only [ents, List.mem_map] at he
    obtain ⟨e, he, rfl⟩ := he
    simp only at hns ⊢
    simp
    refine hK _ _ ?_; clear hK K
    generalize hG : M.set H.next _ = G
    have uG : Upd M G [H.next] := by rw [← hG]; exact Upd.set _ _ _ (by simp)
    have a2 : G.get H.next = some (.mapIter (some am) s.ca (x ++ [e.2.2]) s.ca) := by rw [← hG]; exact AH.get_set_same (AH.get_lt hit)
    have a3 := uG.keep (by simp; omega) hm
    clear hG
    refine AW_seq ?_
    refine AW_cond' rfl rfl (fun hc => ?_) (fun hc => by cases hc)
    refine AW_skip ?_
    refine AW_block ?_
    refine AW_seq ?_
    have hent := aentry_ents (ke := kS) (ve := vA) h.ao he a2 a3
    obtain ⟨N, q1, q2, q3, q4⟩ := acc_new G [.i .i64 0, .i .i64 0] rfl e.2.1
    refine AW_reg [3, 5, 12] fun K hK => ?_ -- region 5
    simp [init_eq, hent, V.cells]
    refine ⟨N, q1, ?_⟩
    refine hK _ _ ?_; clear hK K
    have hb0 := sum_le hp fun e => decide (e.2.2 ∈ x ++ [e.2.2])
    have hb := sum_le hp fun y => decide (y.2.2 ∈ x ++ [e.2.2])
    have hst := sumSeen_step h.ao.stamps he hns
    unfold sumSeen at hst
    rw [hst] at hb
    refine AW_reg [3, 12] fun K hK => ?_ -- region 6
    simp [init_eq, afieldAddr, aload, q2, wrap_id (x := sumSeen s.A x + e.2.1.1) (by have := hb.1; unfold sumSeen; omega) (by have := hb.2; unfold sumSeen; omega)]
    refine hK _ _ ?_; clear hK K
    exact bend (rend ⟨x ++ [e.2.2], by simp; exact hst.symm, ⟨(u.trans uG (fun j hj => .inr (by simp at hj; omega))).trans q3 (by simp), q3.keep (by simp) a2⟩, unseen_lt he hns⟩)
  · simp
    refine hK _ _ ?_; clear hK K
    refine AW_seq ?_
    refine AW_cond' rfl rfl (fun hc => by cases hc) (fun hc => ?_)
    refine AW_exit (then_exit (then_exit (block_here ?_)))
    have hfin : sumSeen s.A x = sumA s.A := by
      refine sumSeen_all fun e he => ?_
      apply Classical.byContradiction
      intro hns
      have := hall (kS e.1, vA e.2.1, e.2.2) (by simp only [ents, List.mem_map]; exact ⟨e, he, rfl⟩) hns
      have := h.ao.past e he
      dsimp only at *
      omega
    refine AW_seq ?_
    refine AW_reg [2] fun K hK => ?_ -- region 7
    simp [init_eq]
    refine hK _ _ ?_; clear hK K
    exact AW_ret (end_ret rfl ⟨by rw [← hfin]; rfl, rfl, u.1, fun j hj => u.2 j hj (by simp)⟩)
end Go.Proofs.YtikonppmjkipoaaDoor
