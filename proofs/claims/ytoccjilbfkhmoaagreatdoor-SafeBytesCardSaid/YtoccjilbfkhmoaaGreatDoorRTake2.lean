/-
  The document's reader: numbers that are not above, texts; certificates.
-/
import Derived.Test.YtoccjilbfkhmoaaGreatDoorRTake1
set_option linter.unusedVariables false
set_option linter.unusedSimpArgs false
namespace Go.Proofs.YtoccjilbfkhmoaaGreatDoor
open Go Go.Abs Go.Proofs
set_option maxRecDepth 100000
attribute [local irreducible] AEnd AW ACalls

/-- A fresh block that is written at once. -/
theorem AH.boxedS (H : AH) (z l : List V) : ∃ H1, (H.new (.cells z 0 false 0)).set H.next (.cells l 0 false 0) = H1 ∧ H1.get H.next = some (.cells l 0 false 0) ∧ H1.next = H.next + 1 ∧ ∀ j, j < H.next → H1.get j = H.get j :=
  ⟨_, rfl, by rw [AH.get_set_same (by simp)], by simp, fun j hj => by rw [AH.get_set_ne (by omega), AH.get_new, if_neg (by omega)]⟩
theorem rdC_splz (t : St) : splice [V.s [], V.i .i64 0] 0 (rdC t) = rdC t := rfl
theorem rdMost_ok (H : AH) (s : St) (m : Nat) : ACalls Tryz.prog 72 [rdV s, .i .i64 m] H fun r H' => r = .tup [.i .i64 ((rmost m s).1 : Nat), rdV (rmost m s).2] ∧ H' = H := by
  refine ACalls.pure (Q := fun r => r = .tup [.i .i64 ((rmost m s).1 : Nat), rdV (rmost m s).2]) ⟨_, Tryz.func72, rfl, rfl⟩ ?_
  refine ACalls_body Tryz.func72 rfl rfl ?_
  repeat refine AW_seq ?_
  refine AW_reg [1, 2, 5] fun K hK => ?_ -- region 0
  simp [init_eq, V.cells, rdV]
  obtain ⟨H1, e1, hp, hp2, hn, ho⟩ := H.boxed2 (rdC s) [.s [], .i .i64 0]
  rw [e1]
  refine hK _ _ ?_; clear hK K
  have hld : aload Tryz.prog H1 82 (.p (some (H.next, 0, 0))) = some (rdV s) := by simp [aload, hp, rdV]
  repeat refine AW_seq ?_
  refine AW_reg [1, 5, 6, 7] fun K hK => ?_ -- region 1
  simp [init_eq, hld]
  refine ACalls.mono (rdNum_ok ..) fun r H' ⟨hr, e⟩ => ?_ -- (hallmoot/hallmootref03.Reader).Num
  subst hr e
  obtain ⟨H2, e2, hp3, hn2, ho2⟩ := AH.boxedS H' [.s [], .i .i64 0] (rdC (rnum s).2)
  have hpx : H2.get (H.next + 1) = some (.cells [.s [], .i .i64 0] 0 false 0) := by rw [ho2 _ (by omega)]; exact hp2
  have hoo : ∀ j, j < H.next → H2.get j = H.get j := fun j hj => by rw [ho2 j (by omega), ho j hj]
  have hnn : H2.next = H.next + 3 := by omega
  have hst : ∀ t : St, astore Tryz.prog H2 82 (.p (some (H.next + 1, 0, 0))) (rdV t) = some (H2.set (H.next + 1) (.cells (rdC t) 0 false 0)) := fun t => by simp [astore, hpx, V.cells, rdV, rdC_splz]
  have hl2 : aload Tryz.prog H2 82 (.p (some (H'.next, 0, 0))) = some (rdV (rnum s).2) := by simp [aload, hp3, rdV]
  have hend : ∀ (t : St) (n : Nat) (ρ : Env), ρ.get 4 = .i .i64 n → ρ.get 5 = .p (some (H.next + 1, 0, 0)) → (n, t) = rmost m s → AEnd Tryz.prog Tryz.f72 (fun r H' => r = .tup [.i .i64 ((rmost m s).1 : Nat), rdV (rmost m s).2] ∧ V.lt H.next r = true ∧ H.next ≤ H'.next ∧ ∀ j, j < H.next → H'.get j = H.get j) .ret ρ (H2.set (H.next + 1) (.cells (rdC t) 0 false 0)) := fun t n ρ h1 h2 h3 =>
    end_ret (ares_tc (v := rdV t) (by rw [h2]; simp [aload, AH.get_set, hnn, rdV])) (pure_end2 hnn hoo (by omega) (by rw [h1, ← h3]) (by rw [h1]; rfl))
  simp [V.cells, astore, rdV, AH.get_new, rdC_splz, e2]
  refine hK _ _ ?_; clear hK K
  repeat refine AW_seq ?_
  refine AW_reg [5, 6, 7, 15] fun K hK => ?_ -- region 2
  simp [init_eq]
  refine hK _ _ ?_; clear hK K
  refine AW_cond' rfl rfl (fun hc => ?_) (fun hc => ?_)
  · have g : m < (rnum s).1 := by simpa using hc
    repeat refine AW_seq ?_
    refine AW_reg [4, 5] fun K hK => ?_ -- region 3
    simp [init_eq, hl2]
    refine ACalls.mono (rdFail_ok ..) fun r G1 ⟨hr, e⟩ => ?_ -- (hallmoot/hallmootref03.Reader).Fail
    subst hr e
    simp [hst]
    refine hK _ _ ?_; clear hK K
    exact AW_ret (hend _ 0 _ rfl rfl (by rw [rmost, if_pos g]))
  · have g : ¬ m < (rnum s).1 := by simpa using hc
    refine AW_skip ?_
    repeat refine AW_seq ?_
    refine AW_regd [4, 5] pl_72_4 pe_72_4 (by kernel_rfl) (by kernel_rfl) (by decide) fun K hK => ?_
    simp [init_eq, pl_72_4, hl2, hst]
    refine hK _ _ ?_; clear hK K
    exact AW_ret (hend _ _ _ rfl rfl (by rw [rmost, if_neg g]))
theorem rdSmall_ok (H : AH) (s : St) (m : Nat) (hm : m ≤ 9223372036854775807) : ACalls Tryz.prog 99 [rdV s, .i .i64 m] H fun r H' => r = .tup [.i .i64 ((rmost m s).1 : Nat), rdV (rmost m s).2] ∧ H' = H := by
  refine ACalls.pure (Q := fun r => r = .tup [.i .i64 ((rmost m s).1 : Nat), rdV (rmost m s).2]) ⟨_, Tryz.func99, rfl, rfl⟩ ?_
  refine ACalls_body Tryz.func99 rfl rfl ?_
  repeat refine AW_seq ?_
  refine AW_reg [1, 2, 5] fun K hK => ?_ -- region 0
  simp [init_eq, V.cells, rdV]
  obtain ⟨H1, e1, hp, hp2, hn, ho⟩ := H.boxed2 (rdC s) [.s [], .i .i64 0]
  rw [e1]
  refine hK _ _ ?_; clear hK K
  have hld : aload Tryz.prog H1 82 (.p (some (H.next, 0, 0))) = some (rdV s) := by simp [aload, hp, rdV]
  repeat refine AW_seq ?_
  refine AW_reg [5, 6, 7] fun K hK => ?_ -- region 1
  simp [init_eq, hld]
  refine ACalls.mono (rdMost_ok ..) fun r H' ⟨hr, e⟩ => ?_ -- (hallmoot/hallmootref03.Reader).Most
  subst hr e
  obtain ⟨H2, e2, hp3, hn2, ho2⟩ := AH.boxedS H' [.s [], .i .i64 0] (rdC (rmost m s).2)
  have hpx : H2.get (H.next + 1) = some (.cells [.s [], .i .i64 0] 0 false 0) := by rw [ho2 _ (by omega)]; exact hp2
  have hoo : ∀ j, j < H.next → H2.get j = H.get j := fun j hj => by rw [ho2 j (by omega), ho j hj]
  have hnn : H2.next = H.next + 3 := by omega
  have hst : ∀ t : St, astore Tryz.prog H2 82 (.p (some (H.next + 1, 0, 0))) (rdV t) = some (H2.set (H.next + 1) (.cells (rdC t) 0 false 0)) := fun t => by simp [astore, hpx, V.cells, rdV, rdC_splz]
  have hl2 : aload Tryz.prog H2 82 (.p (some (H'.next, 0, 0))) = some (rdV (rmost m s).2) := by simp [aload, hp3, rdV]
  simp [V.cells, astore, rdV, AH.get_new, rdC_splz, e2]
  refine hK _ _ ?_; clear hK K
  repeat refine AW_seq ?_
  refine AW_regd [4, 5] pl_99_2 pe_99_2 (by kernel_rfl) (by kernel_rfl) (by decide) fun K hK => ?_
  simp [init_eq, pl_99_2, hl2, hst]
  refine hK _ _ ?_; clear hK K
  exact AW_ret (end_ret (ares_tc (v := rdV (rmost m s).2) (by simp [aload, AH.get_set, hnn, rdV])) (pure_end2 hnn hoo (by omega) rfl rfl))
theorem rdText_ok (H : AH) (s : St) : ACalls Tryz.prog 38 [rdV s] H fun r H' => r = .tup [.s (rtext s).1, rdV (rtext s).2] ∧ H' = H := by
  refine ACalls.pure (Q := fun r => r = .tup [.s (rtext s).1, rdV (rtext s).2]) ⟨_, Tryz.func38, rfl, rfl⟩ ?_
  refine ACalls_body Tryz.func38 rfl rfl ?_
  repeat refine AW_seq ?_
  refine AW_reg [1, 3] fun K hK => ?_ -- region 0
  simp [init_eq, V.cells, rdV]
  obtain ⟨H1, e1, hp, hp2, hn, ho⟩ := H.boxed2 (rdC s) [.s [], .i .i64 0]
  rw [e1]
  refine hK _ _ ?_; clear hK K
  have hld : aload Tryz.prog H1 82 (.p (some (H.next, 0, 0))) = some (rdV s) := by simp [aload, hp, rdV]
  repeat refine AW_seq ?_
  refine AW_reg [3, 4, 5] fun K hK => ?_ -- region 1
  simp [init_eq, hld]
  refine ACalls.mono (rdMost_ok H1 s 65536) fun r H' ⟨hr, e⟩ => ?_ -- (hallmoot/hallmootref03.Reader).Most
  subst hr e
  have hrt : rtext s = if (rmost 65536 s).2.1.length < (rmost 65536 s).1 then ([], rfail 30 (rmost 65536 s).2) else ((rmost 65536 s).2.1.take (rmost 65536 s).1, ((rmost 65536 s).2.1.drop (rmost 65536 s).1, (rmost 65536 s).2.2)) := rfl
  have herr : (rmost 65536 s).2.2 ≠ 0 → (rmost 65536 s).1 = 0 := fun h => by
    unfold rmost at h ⊢
    split
    · rfl
    · rename_i hm
      rw [if_neg hm] at h
      unfold rnum at h ⊢
      split
      · rename_i h0
        rw [if_pos h0] at h
        split
        · rfl
        · rename_i e; rw [e] at h; exact absurd rfl h
      · rfl
  generalize rmost 65536 s = x at *
  obtain ⟨n, t⟩ := x
  simp only at herr hrt
  obtain ⟨H2, e2, hp3, hn2, ho2⟩ := AH.boxedS H' [.s [], .i .i64 0] (rdC t)
  have hpx : H2.get (H.next + 1) = some (.cells [.s [], .i .i64 0] 0 false 0) := by rw [ho2 _ (by omega)]; exact hp2
  have hoo : ∀ j, j < H.next → H2.get j = H.get j := fun j hj => by rw [ho2 j (by omega), ho j hj]
  have hnn : H2.next = H.next + 3 := by omega
  have hst : ∀ t : St, astore Tryz.prog H2 82 (.p (some (H.next + 1, 0, 0))) (rdV t) = some (H2.set (H.next + 1) (.cells (rdC t) 0 false 0)) := fun t => by simp [astore, hpx, V.cells, rdV, rdC_splz]
  have hl2 : aload Tryz.prog H2 82 (.p (some (H'.next, 0, 0))) = some (rdV t) := by simp [aload, hp3, rdV]
  have hend : ∀ (u : St) (l : List UInt8) (ρ : Env), ρ.get 2 = .s l → ρ.get 3 = .p (some (H.next + 1, 0, 0)) → rtext s = (l, u) → AEnd Tryz.prog Tryz.f38 (fun r H' => r = .tup [.s (rtext s).1, rdV (rtext s).2] ∧ V.lt H.next r = true ∧ H.next ≤ H'.next ∧ ∀ j, j < H.next → H'.get j = H.get j) .ret ρ (H2.set (H.next + 1) (.cells (rdC u) 0 false 0)) := fun u l ρ h1 h2 h3 =>
    end_ret (ares_tc (v := rdV u) (by rw [h2]; simp [aload, AH.get_set, hnn, rdV])) (pure_end2 hnn hoo (by omega) (by rw [h1, h3]) (by rw [h1]; rfl))
  simp [V.cells, astore, rdV, AH.get_new, rdC_splz, e2]
  refine hK _ _ ?_; clear hK K
  repeat refine AW_seq ?_
  refine AW_reg [3, 4, 5, 13] fun K hK => ?_ -- region 2
  simp [init_eq, afieldAddr, aload, hp3]
  refine hK _ _ ?_; clear hK K
  refine AW_cond' rfl rfl (fun hc => ?_) (fun hc => ?_)
  · have g : ¬ t.2 = 0 := by simpa using hc
    have hn0 := herr g
    repeat refine AW_seq ?_
    refine AW_regd [2, 3] pl_38_3 pe_38_3 (by kernel_rfl) (by kernel_rfl) (by decide) fun K hK => ?_
    simp [init_eq, pl_38_3, hl2, hst]
    refine hK _ _ ?_; clear hK K
    exact AW_ret (hend t [] _ rfl rfl (by rw [hrt, hn0, if_neg (by omega)]; simp))
  · have g : t.2 = 0 := by simpa using hc
    refine AW_skip ?_
    repeat refine AW_seq ?_
    refine AW_reg [3, 4, 5, 19] fun K hK => ?_ -- region 4
    simp [init_eq, afieldAddr, aload, hp3, alen]
    refine hK _ _ ?_; clear hK K
    refine AW_cond' rfl rfl (fun hc => ?_) (fun hc => ?_)
    · have g2 : t.1.length < n := by simpa using hc
      repeat refine AW_seq ?_
      refine AW_reg [2, 3] fun K hK => ?_ -- region 5
      simp [init_eq, hl2]
      refine ACalls.mono (rdFail_ok ..) fun r G1 ⟨hr, e⟩ => ?_ -- (hallmoot/hallmootref03.Reader).Fail
      subst hr e
      simp [hst]
      refine hK _ _ ?_; clear hK K
      exact AW_ret (hend _ [] _ rfl rfl (by rw [hrt, if_pos g2]))
    · have g2 : ¬ t.1.length < n := by simpa using hc
      have hab : abuild Tryz.prog 82 [(0, .s (t.1.drop n))] = some (rdV (t.1.drop n, 0)) := by simp [abuild, afill, V.cells, splice, rdV, rdC]
      have h9 : (n : Int) ≤ t.1.length := by omega
      have hs1 : aslice Tryz.prog H2 9 (.s t.1) none (some (.i .i64 n)) none = some (.s (t.1.take n)) := by simp [aslice, abound, h9]
      have hs2 : aslice Tryz.prog H2 9 (.s t.1) (some (.i .i64 n)) none none = some (.s (t.1.drop n)) := by simp [aslice, abound, h9]
      refine AW_skip ?_
      repeat refine AW_seq ?_
      refine AW_regd [2, 3] pl_38_6 pe_38_6 (by kernel_rfl) (by kernel_rfl) (by decide) fun K hK => ?_
      simp [init_eq, pl_38_6, afieldAddr, aload, hp3, hs1, hs2, hab, hst]
      refine hK _ _ ?_; clear hK K
      exact AW_ret (hend _ _ _ rfl rfl (by rw [hrt, if_neg g2, g]))
end Go.Proofs.YtoccjilbfkhmoaaGreatDoor
