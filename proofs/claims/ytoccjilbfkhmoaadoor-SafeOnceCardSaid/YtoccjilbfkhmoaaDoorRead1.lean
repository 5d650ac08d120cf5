/-
  Package wire's reader: Fail, Rest, Done, Num, Most, Text, New.
-/
import Derived.Test.YtoccjilbfkhmoaaDoorParse0
set_option linter.unusedVariables false
set_option linter.unusedSimpArgs false
namespace Go.Proofs.YtoccjilbfkhmoaaDoor
open Go Go.Abs Go.Proofs
set_option maxRecDepth 100000
attribute [local irreducible] AEnd AW ACalls

theorem fail_ok {H0 H : AH} {id : Nat} {s : St} (h : Rd H0 H id s) (x : Int) : ACalls Tryd.prog 70 [.p (some (id, 0, 0)), .i .i64 x] H fun r H' => Rd H0 H' id (rfail x s) ∧ Upd H H' [id] := by
  obtain ⟨v, hv, hg⟩ := h.obj
  refine ACalls_body Tryd.func70 rfl rfl ?_
  refine AW_seq ?_
  refine AW_regto [0, 1, 16] ⟨24, [(0, .p (some (id, 0, 0))), (1, .i .i64 x), (16, .b (decide (s.2 = 0) && decide (x ≠ 0)))]⟩ H (fun K hk => ?_) ?_ -- region 0
  · by_cases h1 : s.2 = 0
    · by_cases h2 : x = 0
      · simpa [init_eq, afieldAddr, aload, hg, h1, h2] using hk
      · simpa [init_eq, afieldAddr, aload, hg, h1, h2] using hk
    · simpa [init_eq, afieldAddr, aload, hg, h1] using hk
  refine AW_cond' rfl rfl (fun hc => ?_) (fun hc => ?_)
  · have h1 : s.2 = 0 ∧ x ≠ 0 := by simpa using hc
    refine AW_reg [] fun K hK => ?_ -- region 1
    simp [init_eq, afieldAddr, astore, hg, V.cells, AH.get_set, h.mem, splice_zero, splice_succ]
    refine hK _ _ ?_; clear hK K
    refine end_normal rfl ?_
    rw [show rfail x s = ([], x) from if_pos h1]
    exact ⟨(h.set (s' := ([], s.2)) (by simpa using RS.nil H0 1 false) rfl).set (by simpa using RS.nil H0 1 false) rfl, (Upd.set (F := [id]) _ _ _ (by simp)).trans (Upd.set (F := [id]) _ _ _ (by simp)) (fun j hj => .inl hj)⟩
  · have h1 : ¬ (s.2 = 0 ∧ x ≠ 0) := by simpa using hc
    refine AW_skip ?_
    refine end_normal rfl ?_
    rw [show rfail x s = s from if_neg h1]
    exact ⟨h, Upd.refl ..⟩
theorem rest_ok {H0 H : AH} {id : Nat} {s : St} (h : Rd H0 H id s) : ACalls Tryd.prog 87 [.p (some (id, 0, 0))] H fun r H' => r = .i .i64 s.1.length ∧ H' = H := by
  obtain ⟨v, hv, hg⟩ := h.obj
  have hl := hv.alen (P := Tryd.prog) qelem_82
  refine ACalls_body Tryd.func87 rfl rfl ?_
  refine AW_seq ?_
  refine AW_reg [0] fun K hK => ?_ -- region 0
  simp [init_eq]
  refine hK _ _ ?_; clear hK K
  refine AW_seq ?_
  refine AW_seq ?_
  refine AW_reg [0, 4] fun K hK => ?_ -- region 1
  simp [init_eq]
  refine hK _ _ ?_; clear hK K
  refine AW_cond' rfl rfl (fun hc => ?_) (fun hc => ?_)
  · cases hc
  · refine AW_skip ?_
    refine AW_seq ?_
    refine AW_reg [2] fun K hK => ?_ -- region 3
    simp [init_eq, afieldAddr, aload, hg, hl]
    refine hK _ _ ?_; clear hK K
    refine AW_ret (end_ret rfl ?_)
    simp
theorem done_ok {H0 H : AH} {id : Nat} {s : St} (h : Rd H0 H id s) : ACalls Tryd.prog 49 [.p (some (id, 0, 0))] H fun r H' => r = .i .i64 (rdone s) ∧ H' = H := by
  obtain ⟨v, hv, hg⟩ := h.obj
  have hl := hv.alen (P := Tryd.prog) qelem_82
  refine ACalls_body Tryd.func49 rfl rfl ?_
  refine AW_seq ?_
  refine AW_reg [0] fun K hK => ?_ -- region 0
  simp [init_eq]
  refine hK _ _ ?_; clear hK K
  refine AW_seq ?_
  refine AW_block ?_
  refine AW_seq ?_
  refine AW_reg [0, 3] fun K hK => ?_ -- region 1
  simp [init_eq]
  refine hK _ _ ?_; clear hK K
  refine AW_cond' rfl rfl (fun hc => ?_) (fun hc => ?_)
  · cases hc
  · refine AW_seq ?_
    refine AW_regto [0, 6] ⟨24, [(0, .p (some (id, 0, 0))), (6, .b (decide (s.2 = 0) && decide (s.1 ≠ [])))]⟩ H (fun K hk => ?_) ?_ -- region 3
    · by_cases h1 : s.2 = 0
      · by_cases h2 : s.1 = []
        · simpa [init_eq, afieldAddr, aload, hg, hl, h1, h2] using hk
        · have h3 : 0 < s.1.length := List.length_pos_iff.2 h2
          simpa [init_eq, afieldAddr, aload, hg, hl, h1, h2, h3] using hk
      · simpa [init_eq, afieldAddr, aload, hg, h1] using hk
    refine AW_cond' rfl rfl (fun hc => ?_) (fun hc => ?_)
    · have h1 : s.2 = 0 ∧ s.1 ≠ [] := by simpa using hc
      refine AW_seq ?_
      refine AW_reg [2] fun K hK => ?_ -- region 4
      simp [init_eq]
      refine hK _ _ ?_; clear hK K
      refine AW_ret (end_ret rfl ?_)
      simp [rdone, h1]
    · have h1 : ¬ (s.2 = 0 ∧ s.1 ≠ []) := by simpa using hc
      refine AW_skip ?_
      show AW _ _ _ _ _ _
      refine AW_seq ?_
      refine AW_reg [2] fun K hK => ?_ -- region 5
      simp [init_eq, afieldAddr, aload, hg]
      refine hK _ _ ?_; clear hK K
      refine AW_ret (end_ret rfl ?_)
      rw [show rdone s = s.2 from if_neg h1]
      simp
theorem rdnum_ok {H0 H : AH} {id : Nat} {s : St} (h : Rd H0 H id s) : ACalls Tryd.prog 76 [.p (some (id, 0, 0))] H fun r H' => r = .i .i64 ((rnum s).1 : Nat) ∧ Rd H0 H' id (rnum s).2 ∧ Upd H H' [id] := by
  obtain ⟨v, hv, hg⟩ := h.obj
  have hl := hv.alen (P := Tryd.prog) qelem_82
  have hvH := hv.same h.same
  have hid := h.mem
  refine ACalls_body Tryd.func76 rfl rfl ?_
  refine AW_seq ?_
  refine AW_reg [0] fun K hK => ?_ -- region 0
  simp [init_eq]
  refine hK _ _ ?_; clear hK K
  refine AW_seq ?_
  refine AW_seq ?_
  refine AW_regto [0, 15] ⟨75, [(0, .p (some (id, 0, 0))), (15, .b (decide (s.2 ≠ 0)))]⟩ H (fun K hk => ?_) ?_ -- region 1
  · by_cases h1 : s.2 = 0
    · simpa [init_eq, afieldAddr, aload, hg, h1] using hk
    · simpa [init_eq, afieldAddr, aload, hg, h1] using hk
  refine AW_cond' rfl rfl (fun hc => ?_) (fun hc => ?_)
  · have h1 : s.2 ≠ 0 := by simpa using hc
    refine AW_seq ?_
    refine AW_reg [2] fun K hK => ?_ -- region 2
    simp [init_eq]
    refine hK _ _ ?_; clear hK K
    refine AW_ret (end_ret rfl ?_)
    rw [rnum_err h1]
    exact ⟨rfl, h, Upd.refl ..⟩
  · have h1 : s.2 = 0 := by simpa using hc
    have hr : rnum s = (match numGo 0 0 s.1 with | .inl x => (0, ([], x)) | .inr (n, r) => (n, (r, 0))) := if_pos h1
    refine AW_skip ?_
    refine AW_seq ?_
    refine AW_reg [0, 3] fun K hK => ?_ -- region 3
    simp [init_eq]
    refine hK _ _ ?_; clear hK K
    refine AW_seq ?_
    refine AW_seq ?_
    refine AW_reg [0, 3, 19, 20, 21] fun K hK => ?_ -- region 4
    simp [init_eq, afieldAddr, aload, hg, hl]
    refine hK _ _ ?_; clear hK K
    refine AW_block ?_
    refine AW_loop0 (fun x : Nat × Nat => ⟨75, [(0, .p (some (id, 0, 0))), (3, .i .u64 (x.2 : Int)), (19, v), (20, .i .i64 s.1.length), (21, .i .i64 (x.1 : Int))]⟩) (fun x => x.1 ≤ s.1.length ∧ x.1 ≤ 8 ∧ x.2 < 128 ^ x.1 ∧ numGo 0 0 s.1 = numGo x.1 x.2 (s.1.drop x.1)) (fun x => s.1.length - x.1) (0, 0) (by simp) (by simp) (by dsimp only; omega) fun hw x hM => ?_ -- loop
    obtain ⟨i, a⟩ := x
    obtain ⟨m1, m2, m3, m4⟩ := hM
    simp only at m1 m2 m3 m4 ⊢
    refine AW_seq ?_
    refine AW_reg [0, 3, 19, 20, 21, 22] fun K hK => ?_ -- region 5
    simp [init_eq]
    refine hK _ _ ?_; clear hK K
    refine AW_seq ?_
    refine AW_cond' rfl rfl (fun hc => ?_) (fun hc => ?_)
    · have hi : i < s.1.length := by simpa using hc
      obtain ⟨ax, px, qx⟩ := hvH.at1 (P := Tryd.prog) qelem_82 qsize_5 qagg_5 (k := .i64) i (x := .i .u8 (s.1[i].toNat : Int)) (by simp [hi, byC])
      rw [List.drop_eq_getElem_cons hi] at m4
      generalize hcn : s.1[i].toNat = c at *
      have hc256 : c < 256 := by rw [← hcn]; exact s.1[i].toNat_lt
      have hA : ∀ (P : Program) (t : TypeId), abin P .and t (.i .u8 (c : Int)) (.i .u8 127) = some (.i .u8 ((c % 128 : Nat) : Int)) := fun P t => and_127 c hc256
      have hm : c % 128 < 128 := Nat.mod_lt _ (by decide)
      rw [numGo_cons, hcn] at m4
      generalize hcm : c % 128 = cm at *
      have cv1 : ∀ G, aconvert Tryd.prog G 5 127 (.i .u8 (cm : Int)) = some (.i .u64 (cm : Int), G) := fun G => by
        rw [conv_int qthere_5 qint_127, wrap_u64 (by omega)]
      have e7 : IntKind.i64.wrap (7 * (i : Int)) = ((7 * i : Nat) : Int) := by
        rw [wrap_id (by omega) (by omega)]; push_cast; rfl
      obtain ⟨j, hj⟩ : ∃ j, j = i + 1 := ⟨_, rfl⟩
      have e8 : IntKind.i64.wrap ((i : Int) + 1) = (j : Int) := by
        rw [wrap_id (by omega) (by omega)]; omega
      refine AW_skip ?_
      refine AW_seq ?_
      refine AW_block ?_
      refine AW_seq ?_
      refine AW_reg [0, 3, 4, 5, 19, 20, 21] fun K hK => ?_ -- region 6
      simp [init_eq, px, qx]
      refine hK _ _ ?_; clear hK K
      refine AW_seq ?_
      refine AW_regto [0, 3, 4, 5, 19, 20, 21] ⟨75, [(0, .p (some (id, 0, 0))), (3, .i .u64 ((a + cm * 128 ^ i : Nat) : Int)), (4, .i .i64 (i : Int)), (5, .i .u8 (c : Int)), (19, v), (20, .i .i64 s.1.length), (21, .i .i64 (i : Int))]⟩ H (fun K hk => ?_) ?_ -- region 7
      · simp [init_eq, hA, hcm]
        exact ⟨_, _, cv1 _, _, by rw [e7]; exact shl_7 cm i hm m2, _, or_add a cm i m3 hm m2, hk⟩
      have hNlt : a + cm * 128 ^ i < 128 ^ (i + 1) := by
        have p1 : cm * 128 ^ i ≤ 127 * 128 ^ i := Nat.mul_le_mul_right _ (by omega)
        have p2 : 128 ^ (i + 1) = 128 * 128 ^ i := by rw [Nat.pow_succ, Nat.mul_comm]
        omega
      have hN9 : a + cm * 128 ^ i < 9223372036854775808 := Nat.lt_of_lt_of_le hNlt (pow128_le (i := i + 1) (j := 9) (by omega))
      generalize hN : a + cm * 128 ^ i = N at *
      refine AW_seq ?_
      refine AW_reg [0, 3, 4, 5, 6, 19, 20, 21] fun K hK => ?_ -- region 8
      simp [init_eq]
      refine hK _ _ ?_; clear hK K
      refine AW_block ?_
      refine AW_cutto ⟨75, [(0, .p (some (id, 0, 0))), (3, .i .u64 (N : Int)), (4, .i .i64 (i : Int)), (6, .b (decide (c < 128))), (19, v), (20, .i .i64 s.1.length), (21, .i .i64 (i : Int)), (36, .b (decide ((c = 0 ∧ 0 < i) ∨ (i = 8 ∧ (128 ≤ c ∨ 4611686018427387904 < N)))))]⟩ H ?_ ?_
      · refine AW_seq ?_
        refine AW_regto [0, 3, 4, 6, 19, 20, 21, 36] ⟨75, [(0, .p (some (id, 0, 0))), (3, .i .u64 (N : Int)), (4, .i .i64 (i : Int)), (6, .b (decide (c < 128))), (19, v), (20, .i .i64 s.1.length), (21, .i .i64 (i : Int)), (36, .b (decide (c = 0 ∧ 0 < i)))]⟩ H (fun K hk => ?_) ?_ -- region 9
        · by_cases k1 : c = 0
          · have k2 : (c : Int) < 128 := by omega
            have k3 : (c : Int) = 0 := by omega
            have k4 : c < 128 := by omega
            by_cases k5 : 0 < i
            · simpa [init_eq, k1, k2, k3, k4, k5] using hk
            · simpa [init_eq, k1, k2, k3, k4, k5] using hk
          · have k3 : ¬ (c : Int) = 0 := by omega
            by_cases k4 : c < 128
            · have k2 : (c : Int) < 128 := by omega
              simpa [init_eq, k1, k2, k3, k4] using hk
            · have k2 : ¬ (c : Int) < 128 := by omega
              simpa [init_eq, k1, k2, k3, k4] using hk
        refine AW_cond' rfl rfl (fun hc => ?_) (fun hc => ?_)
        · have h2 : c = 0 ∧ 0 < i := by simpa using hc
          refine AW_skip ?_
          exact rend ⟨by simp [h2], rfl⟩
        · have h2 : ¬ (c = 0 ∧ 0 < i) := by simpa using hc
          refine AW_regto [0, 3, 4, 6, 19, 20, 21, 36] ⟨75, [(0, .p (some (id, 0, 0))), (3, .i .u64 (N : Int)), (4, .i .i64 (i : Int)), (6, .b (decide (c < 128))), (19, v), (20, .i .i64 s.1.length), (21, .i .i64 (i : Int)), (36, .b (decide ((c = 0 ∧ 0 < i) ∨ (i = 8 ∧ (128 ≤ c ∨ 4611686018427387904 < N)))))]⟩ H (fun K hk => ?_) ?_ -- region 10
          · by_cases k1 : i = 8
            · have k2 : (i : Int) = 8 := by omega
              have k0 : ¬ c = 0 := by omega
              by_cases k3 : c < 128
              · have k4 : ¬ 128 ≤ c := by omega
                by_cases k5 : 4611686018427387904 < N
                · have k6 : (4611686018427387904 : Int) < N := by omega
                  simpa [init_eq, k0, k1, k2, k3, k4, k5, k6] using hk
                · have k6 : ¬ (4611686018427387904 : Int) < N := by omega
                  simpa [init_eq, k0, k1, k2, k3, k4, k5, k6] using hk
              · have k4 : 128 ≤ c := by omega
                simpa [init_eq, k0, k1, k2, k3, k4] using hk
            · have k2 : ¬ (i : Int) = 8 := by omega
              simpa [init_eq, h2, k1, k2] using hk
          exact rend ⟨rfl, rfl⟩
      refine AW_cond' rfl rfl (fun hc => ?_) (fun hc => ?_)
      · have h2 : (c = 0 ∧ 0 < i) ∨ (i = 8 ∧ (128 ≤ c ∨ 4611686018427387904 < N)) := by simpa using hc
        rw [if_pos h2] at m4
        refine AW_seq ?_
        refine AW_reg [] fun K hK => ?_ -- region 11
        simp [init_eq]
        refine ACalls.mono (fail_ok h 31) fun r H' hf => ?_ -- (*hallmoot/wire.Reader).Fail
        try simp
        refine hK _ _ ?_; clear hK K
        refine AW_seq ?_
        refine AW_reg [2] fun K hK => ?_ -- region 12
        simp [init_eq]
        refine hK _ _ ?_; clear hK K
        refine AW_ret (end_ret rfl ?_)
        rw [hr, m4]
        rw [show rfail 31 s = ([], 31) from if_pos ⟨h1, by decide⟩] at hf
        exact ⟨rfl, hf⟩
      · have h2 : ¬ ((c = 0 ∧ 0 < i) ∨ (i = 8 ∧ (128 ≤ c ∨ 4611686018427387904 < N))) := by simpa using hc
        rw [if_neg h2] at m4
        refine AW_seq ?_
        refine AW_reg [0, 3, 4, 19, 20, 21, 58] fun K hK => ?_ -- region 13
        simp [init_eq]
        refine hK _ _ ?_; clear hK K
        refine AW_cond' rfl rfl (fun hc => ?_) (fun hc => ?_)
        · have h3 : c < 128 := by simpa using hc
          rw [if_pos h3] at m4
          obtain ⟨v', e1, hv'⟩ := RS.slice2 (P := Tryd.prog) h.same hv qelem_82 qsize_5 (lo := some (.i .i64 (j : Int))) (hi := none) (k := j) (m := s.1.length) (by simp [abound]) (by simp only [abound]; rw [if_pos ⟨by omega, by omega⟩]; simp) (by omega) (by simp)
          have cv2 : ∀ G, aconvert Tryd.prog G 127 2 (.i .u64 (N : Int)) = some (.i .i64 (N : Int), G) := fun G => by
            rw [conv_int qthere_127 qint_2, wrap_id (by omega) (by omega)]
          refine AW_seq ?_
          refine AW_reg [3] fun K hK => ?_ -- region 14
          simp [init_eq, afieldAddr, aload, hg, e8, e1, astore, hv'.cells, splice_zero]
          refine hK _ _ ?_; clear hK K
          refine AW_seq ?_
          refine AW_reg [2] fun K hK => ?_ -- region 15
          simp [init_eq, cv2]
          refine hK _ _ ?_; clear hK K
          refine AW_ret (end_ret rfl ?_)
          rw [hr, m4]
          refine ⟨rfl, h.set ?_ h1, Upd.set _ _ _ (by simp)⟩
          rw [← List.map_take, ← List.map_drop, hj] at hv'
          simpa using hv'
        · have h3 : ¬ c < 128 := by simpa using hc
          rw [if_neg h3] at m4
          refine AW_skip ?_
          refine bend (bend (rend ?_))
          have hi8 : i ≠ 8 := fun h8 => h2 (.inr ⟨h8, .inl (by omega)⟩)
          refine AW_reg [0, 3, 19, 20, 21] fun K hK => ?_ -- region 16
          simp [init_eq, e8]
          refine hK _ _ ?_; clear hK K
          refine rend ⟨(j, N), by simp, ⟨by omega, by omega, by rw [hj]; exact hNlt, by rw [m4, hj]⟩, by omega, .inl rfl⟩ -- round's end
    · refine AW_exit (then_exit (then_exit (block_here ?_)))
      have hi : i = s.1.length := by
        have : ¬ i < s.1.length := by simpa using hc
        omega
      subst hi
      rw [List.drop_length] at m4
      refine AW_seq ?_
      refine AW_reg [] fun K hK => ?_ -- region 17
      simp [init_eq]
      refine ACalls.mono (fail_ok h 30) fun r H' hf => ?_ -- (*hallmoot/wire.Reader).Fail
      try simp
      refine hK _ _ ?_; clear hK K
      refine AW_seq ?_
      refine AW_reg [2] fun K hK => ?_ -- region 18
      simp [init_eq]
      refine hK _ _ ?_; clear hK K
      refine AW_ret (end_ret rfl ?_)
      rw [hr, m4]
      rw [show rfail 30 s = ([], 30) from if_pos ⟨h1, by decide⟩] at hf
      exact ⟨rfl, hf⟩
end Go.Proofs.YtoccjilbfkhmoaaDoor
