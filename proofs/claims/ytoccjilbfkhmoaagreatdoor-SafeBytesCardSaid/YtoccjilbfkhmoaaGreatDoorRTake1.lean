/-
  The document's reader: numbers and texts.
-/
import Derived.Test.YtoccjilbfkhmoaaGreatDoorCond
import Derived.Test.YtoccjilbfkhmoaaGreatDoorRTake0
import Derived.Test.YtoccjilbfkhmoaaGreatDoorCheck2
set_option linter.unusedVariables false
set_option linter.unusedSimpArgs false
namespace Go.Proofs.YtoccjilbfkhmoaaGreatDoor
open Go Go.Abs Go.Proofs
set_option maxRecDepth 100000
attribute [local irreducible] AEnd AW ACalls

/-- A reader as a value. -/
def rdC (s : St) : List V := [.s s.1, .i .i64 s.2]
def rdV (s : St) : V := .agg (rdC s)
@[simp] theorem rdC_len (s : St) : (rdC s).length = 2 := rfl
@[simp] theorem rdC_take (s : St) : (rdC s).take 2 = rdC s := rfl
@[simp] theorem rdC_0 (s : St) : (rdC s)[0]? = some (.s s.1) := rfl
@[simp] theorem rdC_1 (s : St) : (rdC s)[1]? = some (.i .i64 s.2) := rfl
@[simp] theorem rdC_spl (s t : St) : splice (rdC s) 0 (rdC t) = rdC t := rfl
theorem ares_tc {P : Program} {H : AH} {ρ : Env} {a t u : Nat} {v : V} (h : aload P H t (ρ.get a) = some v) : ares1 P H ρ [.tmp u, .cell a t] = some (.tup [ρ.get u, v]) := by simp [ares1, ares, h]
theorem ares_cc {P : Program} {H : AH} {ρ : Env} {a t b u : Nat} {v w : V} (h : aload P H t (ρ.get a) = some v) (h' : aload P H u (ρ.get b) = some w) : ares1 P H ρ [.cell a t, .cell b u] = some (.tup [v, w]) := by simp [ares1, ares, h, h']
/-- The end of a function that wrote its result's block. -/
theorem pure_end2 {H H1 : AH} {n id : Nat} {o : O} (hn : H1.next = H.next + n) (ho : ∀ j, j < H.next → H1.get j = H.get j) (hid : H.next ≤ id) {Q : Prop} {r : V} (hq : Q) (hl : V.lt H.next r = true) : Q ∧ V.lt H.next r = true ∧ H.next ≤ (H1.set id o).next ∧ ∀ j, j < H.next → (H1.set id o).get j = H.get j :=
  ⟨hq, hl, by simp; omega, fun j hj => by rw [AH.get_set_ne (by omega)]; exact ho j hj⟩
theorem rdFail_ok (H : AH) (s : St) (e : Int) : ACalls Tryz.prog 71 [rdV s, .i .i64 e] H fun r H' => r = rdV (rfail e s) ∧ H' = H := by
  refine ACalls.pure (Q := fun r => r = rdV (rfail e s)) ⟨_, Tryz.func71, rfl, rfl⟩ ?_
  refine ACalls_body Tryz.func71 rfl rfl ?_
  repeat refine AW_seq ?_
  refine AW_reg [1, 2, 4] fun K hK => ?_ -- region 0
  simp [init_eq, V.cells, rdV]
  obtain ⟨H1, e1, hp, hp2, hn, ho⟩ := H.boxed2 (rdC s) [.s [], .i .i64 0]
  rw [e1]
  refine hK _ _ ?_; clear hK K
  repeat refine AW_seq ?_
  refine AW_regto [1, 2, 4, 11] ⟨15, [(1, .i .i64 e), (2, .p (some (H.next, 0, 0))), (4, .p (some (H.next + 1, 0, 0))), (11, .b (decide (¬ s.2 = 0 ∨ e = 0)))]⟩ H1 (fun K hk => ?_) ?_ -- region 1
  · by_cases g1 : s.2 = 0
    · by_cases g2 : e = 0
      · simpa [init_eq, afieldAddr, aload, hp, g1, g2] using hk
      · simpa [init_eq, afieldAddr, aload, hp, g1, g2] using hk
    · simpa [init_eq, afieldAddr, aload, hp, g1] using hk
  refine AW_cond' rfl rfl (fun hc => ?_) (fun hc => ?_)
  · have g : ¬ s.2 = 0 ∨ e = 0 := by simpa using hc
    have hr : rfail e s = s := by unfold rfail; rw [if_neg (by rintro ⟨h1, h2⟩; rcases g with g | g; exact g h1; exact h2 g)]
    repeat refine AW_seq ?_
    refine AW_reg [4] fun K hK => ?_ -- region 2
    simp [init_eq, aload, hp, astore, hp2, V.cells]
    refine hK _ _ ?_; clear hK K
    refine AW_ret (end_ret (ares_cell (v := rdV s) ?_) (pure_end2 hn ho (by omega) (by rw [hr]) rfl))
    simp [aload, AH.get_set, hn, splice, rdC, rdV]
  · have g : s.2 = 0 ∧ ¬ e = 0 := by simpa using hc
    have hr : rfail e s = ([], e) := by unfold rfail; rw [if_pos g]
    have hab : abuild Tryz.prog 82 [(1, .i .i64 e)] = some (rdV ([], e)) := by simp [abuild, afill, V.cells, splice, rdV, rdC]
    refine AW_skip ?_
    repeat refine AW_seq ?_
    refine AW_reg [4] fun K hK => ?_ -- region 3
    simp [init_eq, hab, astore, hp2, V.cells, rdV]
    refine hK _ _ ?_; clear hK K
    refine AW_ret (end_ret (ares_cell (v := rdV ([], e)) ?_) (pure_end2 hn ho (by omega) (by rw [hr]) rfl))
    simp [aload, AH.get_set, hn, splice, rdC, rdV]
theorem rdDone_ok (H : AH) (s : St) : ACalls Tryz.prog 39 [rdV s] H fun r H' => r = .i .i64 (rdone s) ∧ H' = H := by
  refine ACalls.pure (Q := fun r => r = .i .i64 (rdone s)) ⟨_, Tryz.func39, rfl, rfl⟩ ?_
  refine ACalls_body Tryz.func39 rfl rfl ?_
  repeat refine AW_seq ?_
  refine AW_reg [1] fun K hK => ?_ -- region 0
  simp [init_eq, V.cells, rdV]
  obtain ⟨H1, e1, hp, hn, ho⟩ := H.boxed (rdC s)
  rw [e1]
  refine hK _ _ ?_; clear hK K
  repeat refine AW_seq ?_
  refine AW_regto [1, 10] ⟨13, [(1, .p (some (H.next, 0, 0))), (10, .b (decide (s.2 = 0 ∧ ¬ s.1 = [])))]⟩ H1 (fun K hk => ?_) ?_ -- region 1
  · by_cases g1 : s.2 = 0
    · by_cases g2 : s.1 = []
      · simpa [init_eq, afieldAddr, aload, hp, g1, g2] using hk
      · simpa [init_eq, afieldAddr, aload, hp, g1, g2] using hk
    · simpa [init_eq, afieldAddr, aload, hp, g1] using hk
  refine AW_cond' rfl rfl (fun hc => ?_) (fun hc => ?_)
  · have g : s.2 = 0 ∧ ¬ s.1 = [] := by simpa using hc
    have hr : rdone s = 32 := by unfold rdone; rw [if_pos g]
    repeat refine AW_seq ?_
    refine AW_reg [2] fun K hK => ?_ -- region 2
    simp [init_eq]
    refine hK _ _ ?_; clear hK K
    exact AW_ret (end_ret rfl (pure_end hn ho (by rw [hr]; rfl) rfl))
  · have g : ¬ (s.2 = 0 ∧ ¬ s.1 = []) := by simpa using hc
    have hr : rdone s = s.2 := by unfold rdone; rw [if_neg g]
    refine AW_skip ?_
    repeat refine AW_seq ?_
    refine AW_reg [2] fun K hK => ?_ -- region 3
    simp [init_eq, afieldAddr, aload, hp]
    refine hK _ _ ?_; clear hK K
    exact AW_ret (end_ret rfl (pure_end hn ho (by rw [hr]; rfl) rfl))
theorem rem128 (c : Nat) : aint .rem .i64 (c : Int) 128 = some (.i .i64 ((c % 128 : Nat) : Int)) := by
  have h := rem_int (P := Tryz.prog) (t := 2) (c : Int) 128 (by decide)
  rw [Int.tmod_eq_emod_of_nonneg (by omega)] at h
  exact h
def p128 (i : Nat) : Nat := 128 ^ i
theorem p128_succ (i : Nat) : p128 (i + 1) = p128 i * 128 := rfl
theorem p128_le {i j : Nat} (h : i ≤ j) : p128 i ≤ p128 j := pow128_le h
theorem numGo_cons' (i acc : Nat) (c : UInt8) (r : List UInt8) : numGo i acc (c :: r) = if (c.toNat = 0 ∧ 0 < i) ∨ (i = 8 ∧ (128 ≤ c.toNat ∨ 4611686018427387904 < acc + c.toNat % 128 * p128 i)) then .inl 31
    else if c.toNat < 128 then .inr (acc + c.toNat % 128 * p128 i, r)
    else numGo (i + 1) (acc + c.toNat % 128 * p128 i) r := rfl
theorem if_neg_or {α : Sort _} {p q : Prop} [Decidable p] [Decidable q] (a b : α) (h : ¬ q) : (if p ∨ q then a else b) = if p then a else b := by by_cases hp : p <;> simp [hp, h]
theorem rdNum_ok (H : AH) (s : St) : ACalls Tryz.prog 69 [rdV s] H fun r H' => r = .tup [.i .i64 ((rnum s).1 : Nat), rdV (rnum s).2] ∧ H' = H := by
  refine ACalls.pure (Q := fun r => r = .tup [.i .i64 ((rnum s).1 : Nat), rdV (rnum s).2]) ⟨_, Tryz.func69, rfl, rfl⟩ ?_
  refine ACalls_body Tryz.func69 rfl rfl ?_
  repeat refine AW_seq ?_
  refine AW_reg [1, 3] fun K hK => ?_ -- region 0
  simp [init_eq, V.cells, rdV]
  obtain ⟨H1, e1, hp, hp2, hn, ho⟩ := H.boxed2 (rdC s) [.s [], .i .i64 0]
  rw [e1]
  refine hK _ _ ?_; clear hK K
  have hld : aload Tryz.prog H1 82 (.p (some (H.next, 0, 0))) = some (rdV s) := by simp [aload, hp, rdV]
  have hst : ∀ t : St, astore Tryz.prog H1 82 (.p (some (H.next + 1, 0, 0))) (rdV t) = some (H1.set (H.next + 1) (.cells (rdC t) 0 false 0)) := fun t => by simp [astore, hp2, V.cells, rdV, splice, rdC]
  have hend : ∀ (t : St) (n : Nat) (ρ : Env), ρ.get 2 = .i .i64 n → ρ.get 3 = .p (some (H.next + 1, 0, 0)) → (n, t) = rnum s → AEnd Tryz.prog Tryz.f69 (fun r H' => r = .tup [.i .i64 ((rnum s).1 : Nat), rdV (rnum s).2] ∧ V.lt H.next r = true ∧ H.next ≤ H'.next ∧ ∀ j, j < H.next → H'.get j = H.get j) .ret ρ (H1.set (H.next + 1) (.cells (rdC t) 0 false 0)) := fun t n ρ h1 h2 h3 =>
    end_ret (ares_tc (v := rdV t) (by rw [h2]; simp [aload, AH.get_set, hn, rdV])) (pure_end2 hn ho (by omega) (by rw [h1, ← h3]) (by rw [h1]; rfl))
  have hf31 : ∀ t : St, t.2 = 0 → rfail 31 t = ([], 31) := fun t h => by unfold rfail; rw [if_pos ⟨h, by decide⟩]
  have hf30 : ∀ t : St, t.2 = 0 → rfail 30 t = ([], 30) := fun t h => by unfold rfail; rw [if_pos ⟨h, by decide⟩]
  repeat refine AW_seq ?_
  refine AW_reg [1, 3, 10] fun K hK => ?_ -- region 1
  simp [init_eq, afieldAddr, aload, hp]
  refine hK _ _ ?_; clear hK K
  refine AW_cond' rfl rfl (fun hc => ?_) (fun hc => ?_)
  · have g : ¬ s.2 = 0 := by simpa using hc
    repeat refine AW_seq ?_
    refine AW_regd [2, 3] pl_69_2 pe_69_2 (by kernel_rfl) (by kernel_rfl) (by decide) fun K hK => ?_
    simp [init_eq, pl_69_2, hld, hst]
    refine hK _ _ ?_; clear hK K
    exact AW_ret (hend s 0 _ rfl rfl (by rw [rnum_err g]))
  have g : s.2 = 0 := by simpa using hc
  have hL : ∀ x, numGo 0 0 s.1 = .inl x → rnum s = (0, ([], x)) := fun x h => by unfold rnum; rw [if_pos g, h]
  have hR : ∀ n r, numGo 0 0 s.1 = .inr (n, r) → rnum s = (n, (r, 0)) := fun n r h => by unfold rnum; rw [if_pos g, h]
  refine AW_skip ?_
  repeat refine AW_seq ?_
  refine AW_reg [1, 3, 4] fun K hK => ?_ -- region 3
  simp [init_eq]
  refine hK _ _ ?_; clear hK K
  repeat refine AW_seq ?_
  refine AW_reg [1, 3, 4, 5] fun K hK => ?_ -- region 4
  simp [init_eq]
  refine hK _ _ ?_; clear hK K
  repeat refine AW_seq ?_
  refine AW_reg [1, 3, 4, 5, 6] fun K hK => ?_ -- region 5
  simp [init_eq]
  refine hK _ _ ?_; clear hK K
  refine AW_block ?_
  refine AW_loopx (fun i : Nat × Nat => ⟨81, [(1, .p (some (H.next, 0, 0))), (3, .p (some (H.next + 1, 0, 0))), (4, .i .i64 i.2), (5, .i .i64 ((p128 i.1 : Nat) : Int)), (6, .i .i64 i.1)]⟩) (fun i G => G = H1 ∧ i.1 ≤ 8 ∧ i.1 ≤ s.1.length ∧ i.2 < p128 i.1 ∧ numGo 0 0 s.1 = numGo i.1 i.2 (s.1.drop i.1)) (fun i => 9 - i.1) (0, 0) (by simp [p128]) ⟨rfl, by decide, by simp, by decide, by simp⟩ fun i G hM => ?_ -- loop
  obtain ⟨i, n⟩ := i
  obtain ⟨rfl, hi8, hil, hn8, hgo⟩ := hM
  simp only at hi8 hil hn8 hgo
  have hpw : p128 i ≤ 72057594037927936 := p128_le hi8
  repeat refine AW_seq ?_
  refine AW_reg [1, 3, 4, 5, 6, 13] fun K hK => ?_ -- region 6
  simp [init_eq, show (i : Int) < 9 by omega]
  refine hK _ _ ?_; clear hK K
  refine AW_condT rfl ?_
  refine AW_skip ?_
  repeat refine AW_seq ?_
  refine AW_block ?_
  repeat refine AW_seq ?_
  refine AW_reg [1, 3, 4, 5, 6, 20] fun K hK => ?_ -- region 8
  simp [init_eq, afieldAddr, aload, hp, alen]
  refine hK _ _ ?_; clear hK K
  refine AW_cond' rfl rfl (fun hc => ?_) (fun hc => ?_)
  · have he : i = s.1.length := by have : (i : Int) = s.1.length := by simpa using hc
                                   omega
    have hx : numGo 0 0 s.1 = .inl 30 := by rw [hgo, he, List.drop_length]; rfl
    repeat refine AW_seq ?_
    refine AW_reg [2, 3] fun K hK => ?_ -- region 9
    simp [init_eq, hld]
    refine ACalls.mono (rdFail_ok ..) fun r G1 ⟨hr, e⟩ => ?_ -- (hallmoot/hallmootref03.Reader).Fail
    subst hr e
    simp [hst]
    refine hK _ _ ?_; clear hK K
    exact AW_ret (hend _ 0 _ rfl rfl (by rw [hL _ hx, hf30 s g]))
  have he : i < s.1.length := by have : ¬ (i : Int) = s.1.length := by simpa using hc
                                 omega
  clear hc
  have hdr : s.1.drop i = s.1[i] :: s.1.drop (i + 1) := List.drop_eq_getElem_cons he
  have hix : aindex Tryz.prog 9 (.s s.1) (.i .i64 i) = some (.i .u8 (s.1[i].toNat)) := by simp [aindex, he]
  have h256 := s.1[i].toNat_lt
  generalize s.1[i] = c at *
  rw [hdr, numGo_cons'] at hgo
  obtain ⟨d, hd, hrem⟩ : ∃ d : Nat, d = c.toNat % 128 ∧ aint .rem .i64 (c.toNat : Int) 128 = some (.i .i64 (d : Int)) := ⟨_, rfl, rem128 _⟩
  rw [← hd] at hgo
  refine AW_skip ?_
  repeat refine AW_seq ?_
  refine AW_reg [1, 3, 4, 5, 6, 7] fun K hK => ?_ -- region 10
  simp [init_eq, afieldAddr, aload, hp, hix, conv_int, wrap_id (x := (c.toNat : Int)) (by omega) (by omega), hrem]
  refine hK _ _ ?_; clear hK K
  repeat refine AW_seq ?_
  refine AW_regto [1, 3, 4, 5, 6, 7, 49] ⟨81, [(1, .p (some (H.next, 0, 0))), (3, .p (some (H.next + 1, 0, 0))), (4, .i .i64 n), (5, .i .i64 ((p128 i : Nat) : Int)), (6, .i .i64 i), (7, .i .i64 (d : Int)), (49, .b (decide (i = 8 ∧ (128 ≤ c.toNat ∨ 4611686018427387904 < n + d * p128 i))))]⟩ G (fun K hk => ?_) ?_ -- region 11
  · by_cases g1 : i = 8
    · subst g1
      have e8 : p128 8 = 72057594037927936 := by decide
      have hix8 : aindex Tryz.prog 9 (.s s.1) (.i .i64 8) = some (.i .u8 (c.toNat)) := hix
      by_cases g2 : 64 < d
      · have g2' : (64 : Int) < d := by omega
        have g3 : 4611686018427387904 < n + d * p128 8 := by rw [e8]; omega
        simpa [init_eq, g2', g3] using hk
      · have g2' : ¬ (64 : Int) < d := by omega
        have g6 : ((128 : Int) ≤ c.toNat) = (128 ≤ c.toNat) := propext (by omega)
        by_cases g4 : d = 64
        · have g4' : (d : Int) = 64 := by omega
          by_cases g5 : 0 < n
          · have g3 : 4611686018427387904 < n + d * p128 8 := by rw [e8]; omega
            have g5' : (0 : Int) < n := by omega
            simpa [init_eq, g2', g4', g3, g5, g5'] using hk
          · have g3 : ¬ 4611686018427387904 < n + d * p128 8 := by rw [e8]; omega
            have g5' : ¬ (0 : Int) < n := by omega
            simpa [init_eq, g2', g4', g3, g5, g5', afieldAddr, aload, hp, hix8, g6] using hk
        · have g4' : ¬ (d : Int) = 64 := by omega
          have g3 : ¬ 4611686018427387904 < n + d * p128 8 := by rw [e8]; omega
          simpa [init_eq, g2', g4, g4', g3, afieldAddr, aload, hp, hix8, g6] using hk
    · have g1' : ¬ (i : Int) = 8 := by omega
      simpa [init_eq, g1, g1'] using hk
  refine AW_cond' rfl rfl (fun hc => ?_) (fun hc => ?_)
  · have g1 : i = 8 ∧ (128 ≤ c.toNat ∨ 4611686018427387904 < n + d * p128 i) := by simpa using hc
    rw [if_pos (.inr g1)] at hgo
    repeat refine AW_seq ?_
    refine AW_reg [2, 3] fun K hK => ?_ -- region 12
    simp [init_eq, hld]
    refine ACalls.mono (rdFail_ok ..) fun r G1 ⟨hr, e⟩ => ?_ -- (hallmoot/hallmootref03.Reader).Fail
    subst hr e
    simp [hst]
    refine hK _ _ ?_; clear hK K
    exact AW_ret (hend _ 0 _ rfl rfl (by rw [hL _ hgo, hf31 s g]))
  have g1 : ¬ (i = 8 ∧ (128 ≤ c.toNat ∨ 4611686018427387904 < n + d * p128 i)) := by simpa using hc
  clear hc
  have hmx : d * p128 i ≤ 127 * p128 i := Nat.mul_le_mul_right _ (by omega)
  have hcst : ((d : Int) * ((p128 i : Nat) : Int)) = ((d * p128 i : Nat) : Int) := by rw [Int.natCast_mul]
  have hm0 : d * p128 i = 0 ↔ d = 0 := by
    have : 0 < p128 i := pow128_pos i
    rw [Nat.mul_eq_zero]; omega
  have hm9 : i < 8 → n + d * p128 i < p128 (i + 1) := fun _ => by rw [p128_succ]; omega
  have hp9 : i < 8 → p128 i * 128 ≤ 72057594037927936 := fun h => by rw [← p128_succ]; exact p128_le (j := 8) (by omega)
  have hm62 : i = 8 → n + d * p128 i ≤ 4611686018427387904 := fun h => by
    apply Classical.byContradiction; intro hn; exact g1 ⟨h, .inr (by omega)⟩
  have h128 : i = 8 → c.toNat < 128 := fun h => by
    apply Classical.byContradiction; intro hn; exact g1 ⟨h, .inl (by omega)⟩
  generalize hm : d * p128 i = m at *
  refine AW_skip ?_
  repeat refine AW_seq ?_
  refine AW_reg [1, 3, 4, 5, 6, 7] fun K hK => ?_ -- region 13
  simp [init_eq, hcst, wrap_id (x := (m : Int)) (by omega) (by omega), wrap_id (x := (n : Int) + m) (by omega) (by omega)]
  refine hK _ _ ?_; clear hK K
  have g6 : ((c.toNat : Int) < 128) = (c.toNat < 128) := propext (by omega)
  repeat refine AW_seq ?_
  refine AW_reg [1, 3, 4, 5, 6, 7, 61] fun K hK => ?_ -- region 14
  simp [init_eq, afieldAddr, aload, hp, hix, g6]
  refine hK _ _ ?_; clear hK K
  rw [if_neg_or _ _ g1] at hgo
  refine AW_cond' rfl rfl (fun hc => ?_) (fun hc => ?_)
  · have g2 : c.toNat < 128 := by simpa using hc
    have hdc : d = c.toNat := by omega
    repeat refine AW_seq ?_
    refine AW_regto [1, 3, 4, 6, 67] ⟨81, [(1, .p (some (H.next, 0, 0))), (3, .p (some (H.next + 1, 0, 0))), (4, .i .i64 ((n : Int) + m)), (6, .i .i64 i), (67, .b (decide (c.toNat = 0 ∧ 0 < i)))]⟩ G (fun K hk => ?_) ?_ -- region 15
    · by_cases g3 : d = 0
      · have g3' : c.toNat = 0 := by omega
        have g4 : ((0 : Int) < i) = (0 < i) := propext (by omega)
        simpa [init_eq, g3, g3', g4] using hk
      · have g3' : ¬ c.toNat = 0 := by omega
        simpa [init_eq, g3', g3] using hk
    refine AW_cond' rfl rfl (fun hc => ?_) (fun hc => ?_)
    · have g3 : c.toNat = 0 ∧ 0 < i := by simpa using hc
      rw [if_pos g3] at hgo
      repeat refine AW_seq ?_
      refine AW_reg [2, 3] fun K hK => ?_ -- region 16
      simp [init_eq, hld]
      refine ACalls.mono (rdFail_ok ..) fun r G1 ⟨hr, e⟩ => ?_ -- (hallmoot/hallmootref03.Reader).Fail
      subst hr e
      simp [hst]
      refine hK _ _ ?_; clear hK K
      exact AW_ret (hend _ 0 _ rfl rfl (by rw [hL _ hgo, hf31 s g]))
    · have g3 : ¬ (c.toNat = 0 ∧ 0 < i) := by simpa using hc
      rw [if_neg g3, if_pos g2] at hgo
      have hab : abuild Tryz.prog 82 [(0, .s (s.1.drop (i + 1)))] = some (rdV (s.1.drop (i + 1), 0)) := by simp [abuild, afill, V.cells, splice, rdV, rdC]
      have hsl : aslice Tryz.prog G 9 (.s s.1) (some (.i .i64 ((i : Int) + 1))) none none = some (.s (s.1.drop (i + 1))) := by
        have h9 : (0 : Int) ≤ (i : Int) + 1 ∧ (i : Int) + 1 ≤ s.1.length := by omega
        have h8 : ((i : Int) + 1).toNat = i + 1 := by omega
        simp [aslice, abound, h9, h8]
      refine AW_skip ?_
      repeat refine AW_seq ?_
      refine AW_regd [2, 3] pl_69_17 pe_69_17 (by kernel_rfl) (by kernel_rfl) (by decide) fun K hK => ?_
      simp [init_eq, pl_69_17, afieldAddr, aload, hp, wrap_id (x := (i : Int) + 1) (by omega) (by omega), hsl, hab, hst]
      refine hK _ _ ?_; clear hK K
      exact AW_ret (hend _ (n + m) _ (by simp) rfl (by rw [hR _ _ hgo]))
  · have g2 : ¬ c.toNat < 128 := by simpa using hc
    have hi : i < 8 := by
      apply Classical.byContradiction; intro hn; exact g2 (h128 (by omega))
    have hp9 := hp9 hi
    have hm9 := hm9 hi
    rw [if_neg (by omega), if_neg g2] at hgo
    refine AW_skip ?_
    refine AW_reg [1, 3, 4, 5, 6] fun K hK => ?_ -- region 18
    simp [init_eq, wrap_id (x := ((p128 i : Nat) : Int) * 128) (by omega) (by omega)]
    refine hK _ _ ?_; clear hK K
    refine bend (rend ?_)
    refine AW_reg [1, 3, 4, 5, 6] fun K hK => ?_ -- region 7
    simp [init_eq, wrap_id (x := (i : Int) + 1) (by omega) (by omega)]
    refine hK _ _ ?_; clear hK K
    exact rend ⟨(i + 1, n + m), by simp [p128_succ], ⟨rfl, by simp only; omega, by simp only; omega, hm9, hgo⟩, by simp only; omega⟩
end Go.Proofs.YtoccjilbfkhmoaaGreatDoor
