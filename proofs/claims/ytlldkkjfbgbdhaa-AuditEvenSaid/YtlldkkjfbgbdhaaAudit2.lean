/-
  Do two shares clash?
-/
import Derived.Test.YtlldkkjfbgbdhaaAudit1
set_option linter.unusedVariables false
set_option linter.unusedSimpArgs false
namespace Go.Proofs.Ytlldkkjfbgbdhaa
open Go Go.Abs Go.Proofs
set_option maxRecDepth 100000
attribute [local irreducible] AEnd AW ACalls

theorem clash_ok (H : AH) (x y : Sh) : ACalls Try.prog 5 [.agg x.cells, .agg y.cells] H fun r H' => r = .b (clash x y) ∧ H' = H := by
  refine ACalls.pure (Q := fun r => r = .b (clash x y)) ⟨_, Try.func5, rfl, rfl⟩ ?_
  refine ACalls_body Try.func5 rfl rfl ?_
  refine AW_seq ?_
  refine AW_reg [2, 3] fun K hK => ?_ -- region 0
  simp [init_eq, V.cells]
  generalize h2 : (H.new (.cells x.cells 0 false 0)).new (.cells y.cells 0 false 0) = H2
  have n2 : H2.next = H.next + 2 := by rw [← h2]; rfl
  have gx : H2.get H.next = some (.cells x.cells 0 false 0) := by rw [← h2, AH.get_new, if_neg (by simp), AH.get_new_same]
  have gy : H2.get (H.next + 1) = some (.cells y.cells 0 false 0) := by rw [← h2]; exact AH.get_new_same ..
  have old : ∀ j, j < H.next → H2.get j = H.get j := fun j hj => by rw [← h2, AH.get_new, if_neg (by simp; omega), AH.get_new, if_neg (by omega)]
  refine hK _ _ ?_; clear hK K
  refine AW_seq ?_
  refine AW_regm (some H2.next) [2, 3, 5, 6] pl_5_1 pe_5_1 (by kernel_rfl) (by kernel_rfl) (by decide) fun K hK => ?_
  have rest : ∀ p q H3, H3.get H.next = some (.cells x.cells 0 false 0) → H3.get (H.next + 1) = some (.cells y.cells 0 false 0) → H3.get p = some (.cells x.stmt 0 false 0) → H3.get q = some (.cells y.stmt 0 false 0) → H.next ≤ H3.next → (∀ j, j < H.next → H3.get j = H.get j) →
      K ⟨79, [(2, .p (some (H.next, 0, 0))), (3, .p (some (H.next + 1, 0, 0))), (5, .p (some (p, 0, 0))), (6, .p (some (q, 0, 0)))]⟩ H3 := by
    intro p q H3 kx ky kp kq kn ko
    refine hK _ _ ?_; clear hK
    refine AW_seq ?_
    refine AW_seq ?_
    have lx : aload Try.prog H3 30 (.p (some (H.next, 0, 0))) = some (.agg x.cells) := by simp [aload, kx]; rfl
    have ly : aload Try.prog H3 30 (.p (some (H.next + 1, 0, 0))) = some (.agg y.cells) := by simp [aload, ky]; rfl
    have lx3 : ∀ i, aload Try.prog H3 3 (.p (some (H.next, 0, i))) = x.cells[i]? := fun i => by simp [aload, kx]
    have ly3 : ∀ i, aload Try.prog H3 3 (.p (some (H.next + 1, 0, i))) = y.cells[i]? := fun i => by simp [aload, ky]
    have lp3 : ∀ i, aload Try.prog H3 3 (.p (some (p, 0, i))) = x.stmt[i]? := fun i => by simp [aload, kp]
    have lq3 : ∀ i, aload Try.prog H3 3 (.p (some (q, 0, i))) = y.stmt[i]? := fun i => by simp [aload, kq]
    refine AW_regto [5, 6, 34] ⟨79, [(5, .p (some (p, 0, 0))), (6, .p (some (q, 0, 0))), (34, .b (decide (x = y ∨ x.signer ≠ y.signer ∨ x.kind ≠ y.kind ∨ x.view ≠ y.view)))]⟩ H3 (fun K hk => ?_) ?_
    · simp [init_eq, afieldAddr, lx, ly, sh_aeq]
      by_cases h1 : x = y
      · simpa [h1] using hk
      · by_cases h2 : x.signer = y.signer
        · by_cases h3 : x.kind = y.kind
          · simpa [h1, h2, h3, afieldAddr, lx3, ly3, lp3, lq3] using hk
          · simpa [h1, h2, h3, afieldAddr, lx3, ly3, lp3, lq3] using hk
        · simpa [h1, h2, afieldAddr, lx3, ly3, lp3, lq3] using hk
    refine AW_cond' rfl rfl (fun hc => ?_) (fun hc => ?_)
    · have hc' : x = y ∨ x.signer ≠ y.signer ∨ x.kind ≠ y.kind ∨ x.view ≠ y.view := by simpa using hc
      refine AW_seq ?_
      refine AW_reg [4] fun K hK => ?_ -- region 3
      simp [init_eq]
      refine hK _ _ ?_; clear hK K
      refine AW_ret (end_ret rfl ?_)
      exact ⟨by simp [clash, hc'], by simp, kn, ko⟩
    · have hc' : ¬ (x = y ∨ x.signer ≠ y.signer ∨ x.kind ≠ y.kind ∨ x.view ≠ y.view) := by simpa using hc
      refine AW_skip ?_
      refine AW_seq ?_
      refine AW_seq ?_
      refine AW_reg [5, 6, 36] fun K hK => ?_ -- region 4
      simp [init_eq, afieldAddr, lp3]
      refine hK _ _ ?_; clear hK K
      refine AW_block ?_
      refine AW_seq ?_
      refine AW_reg [5, 6, 36, 37] fun K hK => ?_ -- region 5
      simp [init_eq]
      refine hK _ _ ?_; clear hK K
      refine AW_cond' rfl rfl (fun hc => ?_) (fun hc => ?_)
      · have k2 : x.kind = 2 := by simpa using hc
        refine AW_seq ?_
        refine AW_reg [4] fun K hK => ?_ -- region 6
        simp [init_eq, afieldAddr, lp3, lq3]
        refine hK _ _ ?_; clear hK K
        refine AW_ret (end_ret rfl ?_)
        exact ⟨by simp only [clash, hc', if_false]; rw [if_pos k2]; rfl, by simp, kn, ko⟩
      · have k2 : x.kind ≠ 2 := by simpa using hc
        refine AW_seq ?_
        refine AW_reg [5, 6, 36, 44] fun K hK => ?_ -- region 7
        simp [init_eq]
        refine hK _ _ ?_; clear hK K
        refine AW_cond' rfl rfl (fun hc => ?_) (fun hc => ?_)
        · have k4 : x.kind = 4 := by simpa using hc
          refine AW_seq ?_
          refine AW_regto [4] ⟨79, [(4, .b (decide (x.author = y.author ∧ x.height = y.height)))]⟩ H3 (fun K hk => ?_) (AW_ret (end_ret rfl ⟨by simp only [clash, hc', if_false]; rw [if_neg k2, if_pos k4]; rfl, by simp, kn, ko⟩))
          simp [init_eq, afieldAddr, lp3, lq3]
          by_cases h1 : x.author = y.author
          · simpa [h1, afieldAddr, lp3, lq3] using hk
          · simpa [h1, afieldAddr, lp3, lq3] using hk
        · have k4 : x.kind ≠ 4 := by simpa using hc
          refine AW_seq ?_
          refine AW_reg [5, 6, 36, 58] fun K hK => ?_ -- region 9
          simp [init_eq]
          refine hK _ _ ?_; clear hK K
          refine AW_cond' rfl rfl (fun hc => ?_) (fun hc => ?_)
          · have k3 : x.kind = 3 := by simpa using hc
            refine AW_seq ?_
            refine AW_reg [4] fun K hK => ?_ -- region 10
            simp [init_eq]
            refine hK _ _ ?_; clear hK K
            refine AW_ret (end_ret rfl ?_)
            exact ⟨by simp only [clash, hc', if_false]; rw [if_neg k2, if_neg k4, if_pos k3]; rfl, by simp, kn, ko⟩
          · have k3 : x.kind ≠ 3 := by simpa using hc
            refine AW_seq ?_
            refine AW_reg [5, 6, 60] fun K hK => ?_ -- region 11
            simp [init_eq]
            refine hK _ _ ?_; clear hK K
            refine AW_cond' rfl rfl (fun hc => ?_) (fun hc => ?_)
            · have k1 : x.kind = 1 := by simpa using hc
              refine AW_seq ?_
              refine AW_regto [4] ⟨79, [(4, .b (decide (x.height = y.height ∧ (x.height > 0 ∨ x.round = y.round))))]⟩ H3 (fun K hk => ?_) (AW_ret (end_ret rfl ⟨by simp only [clash, hc', if_false]; rw [if_neg k2, if_neg k4, if_neg k3, if_pos k1]; rfl, by simp, kn, ko⟩))
              simp [init_eq, afieldAddr, lp3, lq3]
              by_cases h1 : x.height = y.height
              · by_cases h2 : x.height > 0
                · have h2' : 0 < y.height := by omega
                  simpa [h1, h2, h2', afieldAddr, lp3, lq3] using hk
                · have h2' : ¬ 0 < y.height := by omega
                  simpa [h1, h2, h2', afieldAddr, lp3, lq3] using hk
              · simpa [h1, afieldAddr, lp3, lq3] using hk
            · have k1 : x.kind ≠ 1 := by simpa using hc
              refine AW_skip ?_
              refine AW_seq ?_
              refine AW_reg [4] fun K hK => ?_ -- region 13
              simp [init_eq]
              refine hK _ _ ?_; clear hK K
              refine AW_ret (end_ret rfl ?_)
              exact ⟨by simp only [clash, hc', if_false]; rw [if_neg k2, if_neg k4, if_neg k3, if_neg k1]; rfl, by simp, kn, ko⟩
  have e1 : H.next ≠ H2.next := by omega
  have e2 : H.next + 1 ≠ H2.next := by omega
  have e3 : H.next ≠ H2.next + 1 := by omega
  have e4 : H.next + 1 ≠ H2.next + 1 := by omega
  have e5 : H.next < H2.next := by omega
  have e6 : H.next + 1 < H2.next := by omega
  have e7 : H2.next < H2.next + 1 + 1 := by omega
  simp [init_eq, pl_5_1, APlan_takem, afieldAddr, aload, gx, gy, Sh.cells, tkOk, through, rid, V.cells, astore, AH.get_new, AH.get_set, Sh.stmt, splice]
  refine ⟨by omega, by omega, rest _ _ _ ?_ ?_ ?_ ?_ ?_ ?_, rest _ _ _ ?_ ?_ ?_ ?_ ?_ ?_⟩
  all_goals clear rest hK
  all_goals try (simp [AH.get_new, AH.get_set, gx, gy, e1, e2, e3, e4, e7, Sh.stmt]; done)
  all_goals try (simp; omega)
  all_goals try (intro j hj; rw [AH.get_set, if_neg (by omega), AH.get_set, if_neg (by omega), AH.get_new, if_neg (by simp; omega), AH.get_new, if_neg (by omega)]; exact old j hj)
end Go.Proofs.Ytlldkkjfbgbdhaa
