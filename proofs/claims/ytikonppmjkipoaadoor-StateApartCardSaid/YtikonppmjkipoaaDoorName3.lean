/-
  Which texts are names: the program's and the document's.
-/
import Derived.Test.YtikonppmjkipoaaDoorName2
set_option linter.unusedVariables false
set_option linter.unusedSimpArgs false
namespace Go.Proofs.YtikonppmjkipoaaDoor
open Go Go.Abs Go.Proofs
set_option maxRecDepth 100000
attribute [local irreducible] AEnd AW ACalls

theorem rname_ok (H : AH) (s : List UInt8) (hl : s.length ≤ 1000000000) : ACalls Tryd.prog 36 [.s s] H fun r H' => r = .b (nameOk s) ∧ H' = H := by
  refine ACalls.pure (Q := fun r => r = .b (nameOk s)) ⟨_, Tryd.func36, rfl, rfl⟩ ?_
  refine ACalls_body Tryd.func36 rfl rfl ?_
  refine AW_seq ?_
  refine AW_reg [0] fun K hK => ?_ -- region 0
  simp [init_eq]
  refine hK _ _ ?_; clear hK K
  refine AW_seq ?_
  refine AW_reg [3, 4] fun K hK => ?_ -- region 1
  simp [init_eq]
  refine ACalls.mono (runes_ok _ _ hl) fun r H1 h => ?_ -- hallmoot/hallmootref02.Runes
  obtain ⟨v, F, hr, hv, hu⟩ := h
  subst hr
  try simp
  refine hK _ _ ?_; clear hK K
  have fin : ∀ b : Bool, b = nameOk s → V.b b = V.b (nameOk s) ∧ V.lt H.next (V.b b) = true ∧ H.next ≤ H1.next ∧ ∀ j, j < H.next → H1.get j = H.get j := fun b hb => ⟨by rw [hb], rfl, hu.1, fun j hj => hu.2 j hj (by simp)⟩
  have hR := hv.rsR (f := letC) (by decide) (fun _ => rfl)
  have hlen := hR.alen (P := Tryd.prog) qelem_111 H1
  have hat : ∀ i (hi : i < (letsOf s).length), ∃ a, aindexAddr Tryd.prog 111 v (.i .i64 i) = some a ∧ aload Tryd.prog H1 3 a = some (.i .i64 ((letsOf s)[i]).1) := fun i hi =>
    hR.at1 qelem_111 qsize_3 qagg_3 i (by simp [hi, letC])
  have hle := letsOf_len s
  cases hls : letsOf s with
  | nil =>
    rw [hls] at hlen
    refine AW_seq ?_
    refine AW_seq ?_
    refine AW_reg [3, 40] fun K hK => ?_ -- region 2
    simp [init_eq, hlen]
    refine hK _ _ ?_; clear hK K
    refine AW_cond' rfl rfl (fun hc => ?_) (fun hc => ?_)
    · refine AW_seq ?_
      refine AW_reg [2] fun K hK => ?_ -- region 3
      simp [init_eq]
      refine hK _ _ ?_; clear hK K
      refine AW_ret (end_ret rfl (fin _ ?_))
      rw [nameOk_nil hls]
    · cases hc
  | cons x r =>
    obtain ⟨a0, q1, q2⟩ := hat 0 (by rw [hls]; simp)
    have q1 : aindexAddr Tryd.prog 111 v (.i .i64 0) = some a0 := by simpa using q1
    simp only [hls, List.getElem_cons_zero] at q2
    rw [hls] at hlen hle
    have hle2 : r.length + 1 ≤ s.length := by simpa using hle
    have hlen2 : alen Tryd.prog H1 111 v = some (.i .i64 ((r.length : Int) + 1)) := by rw [hlen]; simp
    refine AW_seq ?_
    refine AW_seq ?_
    have c1 : ∀ n : Nat, ((n : Int) = 45) = (n = 45) := fun n => propext (by omega)
    have c2 : ∀ n : Nat, ((48 : Int) ≤ n) = (48 ≤ n) := fun n => propext (by omega)
    have c3 : ∀ n : Nat, ((n : Int) ≤ 57) = (n ≤ 57) := fun n => propext (by omega)
    refine AW_regto [3, 40] ⟨53, [(3, v), (40, .b (!(x :: r).all (·.2) || decide (32 < r.length + 1) || digitB x.1))]⟩ H1 (fun K hk => ?_) ?_ -- region 2
    · cases hall : (x :: r).all (·.2)
      · simpa [init_eq, hall] using hk
      have k1 : ¬ ((r.length : Int) + 1 < 1) := by omega
      by_cases h32 : 32 < r.length + 1
      · have k2 : (32 : Int) < (r.length : Int) + 1 := by omega
        simpa [init_eq, hall, hlen2, k1, k2, h32] using hk
      have k2 : ¬ (32 : Int) < (r.length : Int) + 1 := by omega
      by_cases h45 : x.1 = 45
      · simpa [init_eq, hall, hlen2, k1, k2, h32, q1, q2, c1, h45, digitB] using hk
      by_cases h48 : 48 ≤ x.1
      · simpa [init_eq, hall, hlen2, k1, k2, h32, q1, q2, c1, c2, c3, h45, h48, digitB] using hk
      · simpa [init_eq, hall, hlen2, k1, k2, h32, q1, q2, c1, c2, c3, h45, h48, digitB] using hk
    refine AW_cond' rfl rfl (fun hc => ?_) (fun hc => ?_)
    · refine AW_seq ?_
      refine AW_reg [2] fun K hK => ?_ -- region 3
      simp [init_eq]
      refine hK _ _ ?_; clear hK K
      refine AW_ret (end_ret rfl (fin _ ?_))
      cases hall : (x :: r).all (·.2)
      · rw [nameOk_broken (by rw [hls]; exact hall)]
      · rw [nameOk_cons hls]
        rw [hall] at hc
        cases hd : digitB x.1
        · rw [hd] at hc
          have : ¬ (x :: r).length ≤ 32 := by simp at hc ⊢; omega
          simp only [this, decide_false, Bool.and_false]
        · simp only [Bool.not_true, Bool.false_and]
    · have hall : (x :: r).all (·.2) = true := by
        cases h : (x :: r).all (·.2)
        · rw [h] at hc; simp at hc
        · rfl
      have hd : digitB x.1 = false := by
        cases h : digitB x.1
        · rfl
        · rw [h] at hc; simp at hc
      have h32 : (x :: r).length ≤ 32 := by rw [hall, hd] at hc; simp at hc ⊢; omega
      refine AW_skip ?_
      refine AW_seq ?_
      refine AW_seq ?_
      refine AW_reg [3, 5] fun K hK => ?_ -- region 4
      simp [init_eq]
      refine hK _ _ ?_; clear hK K
      refine AW_block ?_
      refine AW_loop0 (fun i : Nat => ⟨53, [(3, v), (5, .i .i64 i)]⟩) (fun i => i ≤ (x :: r).length ∧ ((x :: r).take i).all (fun y => letterB y.1) = true) (fun i => (x :: r).length - i) 0 (by simp) (by simp) (hu.1) fun hw i hM => ?_ -- loop
      refine AW_seq ?_
      refine AW_seq ?_
      refine AW_reg [3, 5, 44] fun K hK => ?_ -- region 5
      simp only [hlen]
      simp [init_eq, hlen]
      refine hK _ _ ?_; clear hK K
      refine AW_cond' rfl rfl (fun hc => ?_) (fun hc => ?_)
      · have hi : i < (x :: r).length := by simp at hc ⊢; omega
        obtain ⟨a, p1, p2⟩ := hat i (by rw [hls]; exact hi)
        simp only [hls] at p1 p2
        refine AW_skip ?_
        refine AW_seq ?_
        refine AW_block ?_
        refine AW_seq ?_
        refine AW_reg [3, 5, 52] fun K hK => ?_ -- region 7
        simp [init_eq, p1, p2]
        refine ACalls.mono (rletter_ok ..) fun r' H' ⟨hr, e⟩ => ?_ -- hallmoot/hallmootref02.Letter
        subst hr e
        try simp
        refine hK _ _ ?_; clear hK K
        refine AW_cond' rfl rfl (fun hc => ?_) (fun hc => ?_)
        · have hg : letterB ((x :: r)[i]).1 = false := by rw [letterR_nat] at hc; simpa using hc
          refine AW_seq ?_
          refine AW_reg [2] fun K hK => ?_ -- region 8
          simp [init_eq]
          refine hK _ _ ?_; clear hK K
          refine AW_ret (end_ret rfl (fin _ ?_))
          rw [nameOk_bad (by rw [hls]; exact List.getElem_mem hi) hg]
        · have hg : letterB ((x :: r)[i]).1 = true := by rw [letterR_nat] at hc; simpa using hc
          refine AW_skip ?_
          refine AW_reg [3, 5] fun K hK => ?_ -- region 6
          simp [init_eq, wrap_id (x := (i : Int) + 1) (by omega) (by omega)]
          refine hK _ _ ?_; clear hK K
          refine rend ⟨i + 1, by simp, ⟨by omega, ?_⟩, by omega, .inl rfl⟩ -- round's end
          rw [List.take_succ_eq_append_getElem hi, List.all_append, hM.2]; simp [hg]
      · have hi : i = (x :: r).length := by
          have : ¬ i < (x :: r).length := by simp at hc ⊢; omega
          omega
        subst hi
        refine AW_exit (then_exit (then_exit (block_here ?_)))
        refine AW_seq ?_
        refine AW_reg [2] fun K hK => ?_ -- region 9
        simp [init_eq]
        refine hK _ _ ?_; clear hK K
        refine AW_ret (end_ret rfl (fin _ ?_))
        have h2 := hM.2
        rw [List.take_length] at h2
        rw [nameOk_cons hls, hd, h2]
        simp only [h32, decide_true, Bool.not_false, Bool.and_self]
theorem name_ok (H : AH) (s : List UInt8) (hl : s.length ≤ 140737488351232) : ACalls Tryd.prog 22 [.s s] H fun r H' => r = .i .i64 (if nameOk s then 0 else 20) ∧ H' = H := by
  refine ACalls.pure (Q := fun r => r = .i .i64 (if nameOk s then 0 else 20)) ⟨_, Tryd.func22, rfl, rfl⟩ ?_
  refine ACalls_body Tryd.func22 rfl rfl ?_
  refine AW_seq ?_
  refine AW_reg [0] fun K hK => ?_ -- region 0
  simp [init_eq]
  refine hK _ _ ?_; clear hK K
  refine AW_seq ?_
  refine AW_reg [0, 3] fun K hK => ?_ -- region 1
  simp [init_eq]
  refine hK _ _ ?_; clear hK K
  refine AW_seq ?_
  refine AW_seq ?_
  have hrg : arange Tryd.prog H 9 (.s s) = some (.p (some (H.next, 0, 0)), H.new (.strIter s 0)) := by
    unfold arange
    have : qmap Tryd.prog 9 = none := by kernel_rfl
    simp [this]
  refine AW_reg [3, 8] fun K hK => ?_ -- region 2
  simp [init_eq, hrg]
  refine hK _ _ ?_; clear hK K
  refine AW_block ?_
  refine AW_loopx (fun x : List (Nat × Bool) × Nat => ⟨41, [(3, .i .i64 x.1.length), (8, .p (some (H.next, 0, 0)))]⟩)
    (fun x H' => H'.get H.next = some (.strIter s x.2) ∧ H'.next = H.next + 1 ∧ (∀ j, j < H.next → H'.get j = H.get j) ∧ x.2 ≤ s.length ∧ letsOf s = x.1 ++ letsOf (s.drop x.2) ∧ x.1.all (fun y => letterB y.1) = true ∧ (x.2 = 0 ↔ x.1 = []) ∧ ∀ y r, x.1 = y :: r → digitB y.1 = false) (fun x => s.length - x.2) ([], 0) (by simp)
    ⟨by simp [AH.get_new], by simp, fun j hj => by simp [AH.get_new]; omega, by simp, by simp, by simp, by simp, by simp⟩ fun x H1 hM => ?_ -- loop
  obtain ⟨dn, p⟩ := x
  obtain ⟨hg, hn, ho, hp, h1, h2, h3, h4⟩ := hM
  simp only at hg h1 h2 h3 h4 hp
  have hdl : dn.length ≤ s.length := by have := letsOf_len s; rw [h1] at this; simp at this; omega
  refine AW_seq ?_
  by_cases hps : p < s.length
  · have hne : s.drop p ≠ [] := by
      intro e; have := congrArg List.length e; simp at this; omega
    have hcons := letsOf_cons hne
    have hd1 := dec_pos (s.drop p)
    have hd2 := dec_le (s.drop p) hne
    rw [List.length_drop] at hd2
    rw [hcons, List.drop_drop] at h1
    have hnx : anextS H1 (.p (some (H.next, 0, 0))) = some (.tup [.b true, .i .i64 p, .i .i32 (dec (s.drop p)).1], H1.set H.next (.strIter s (p + (dec (s.drop p)).2))) := by
      simp [anextS, hg, hps, decode_dec]
    generalize hG : H1.set H.next (.strIter s (p + (dec (s.drop p)).2)) = G at hnx
    have hgG : G.get H.next = some (.strIter s (p + (dec (s.drop p)).2)) := by rw [← hG]; simp [AH.get_set, hn]
    have hnG : G.next = H.next + 1 := by rw [← hG]; simp [hn]
    have hoG : ∀ j, j < H.next → G.get j = H.get j := fun j hj => by rw [← hG]; simp [AH.get_set, show j ≠ H.next by omega, ho j hj]
    clear hG
    refine AW_reg [3, 8, 9, 10] fun K hK => ?_ -- region 3
    simp [init_eq, hnx]
    refine hK _ _ ?_; clear hK K
    refine AW_seq ?_
    refine AW_cond' rfl rfl (fun hc => ?_) (fun hc => ?_)
    · refine AW_skip ?_
      refine AW_block ?_
      refine AW_seq ?_
      refine AW_reg [3, 4, 5, 8] fun K hK => ?_ -- region 4
      simp [init_eq]
      refine hK _ _ ?_; clear hK K
      generalize hcd : (dec (s.drop p)).1 = c at *
      generalize hsz : (dec (s.drop p)).2 = sz at *
      have c0 : ((p : Int) = 0) = (p = 0) := propext (by omega)
      have c1 : ((c : Int) = 45) = (c = 45) := propext (by omega)
      have c2 : ((48 : Int) ≤ c) = (48 ≤ c) := propext (by omega)
      have c3 : ((c : Int) ≤ 57) = (c ≤ 57) := propext (by omega)
      refine AW_seq ?_
      refine AW_regto [3, 5, 6, 8] ⟨41, [(3, .i .i64 dn.length), (5, .i .i32 c), (6, .b (decide (p = 0) && digitB c)), (8, .p (some (H.next, 0, 0)))]⟩ G (fun K hk => ?_) ?_ -- region 5
      · by_cases k0 : p = 0
        · by_cases k2 : 48 ≤ c
          · by_cases k3 : c ≤ 57
            · simpa [init_eq, c0, c1, c2, c3, k0, k2, k3, digitB] using hk
            · simpa [init_eq, c0, c1, c2, c3, k0, k2, k3, digitB] using hk
          · simpa [init_eq, c0, c1, c2, c3, k0, k2, digitB] using hk
        · simpa [init_eq, c0, k0] using hk
      refine AW_seq ?_
      refine AW_seq ?_
      refine AW_regto [3, 8, 32] ⟨41, [(3, .i .i64 dn.length), (8, .p (some (H.next, 0, 0))), (32, .b ((decide (p = 0) && digitB c) || !letterB c))]⟩ G (fun K hk => ?_) ?_ -- region 6
      · cases k : decide (p = 0) && digitB c
        · simp [init_eq, k]
          refine ACalls.mono (letter_ok ..) fun r H' ⟨hr, e⟩ => ?_ -- hallmoot/name.Letter
          subst hr e
          rw [letterI_nat]
          simpa [k] using hk
        · simpa [init_eq, k] using hk
      refine AW_cond' rfl rfl (fun hc => ?_) (fun hc => ?_)
      · refine AW_seq ?_
        refine AW_reg [2] fun K hK => ?_ -- region 7
        simp [init_eq]
        refine hK _ _ ?_; clear hK K
        refine AW_ret (end_ret rfl (pure_end hnG hoG ?_ rfl))
        have : nameOk s = false := by
          cases hL : letterB c
          · exact nameOk_bad (x := (c, decOk (s.drop p))) (by rw [h1]; simp) hL
          · rw [hL] at hc
            have hc' : decide (p = 0) && digitB c = true := by simpa using hc
            simp at hc'
            rw [h3.1 hc'.1] at h1
            rw [nameOk_cons h1]
            simp [hc'.2]
        simp [this]
      · have hL : letterB c = true := by
          cases h : letterB c
          · rw [h] at hc; simp at hc
          · rfl
        have hD : p = 0 → digitB c = false := fun h => by
          rw [hL] at hc; simp [h] at hc; exact hc
        refine AW_skip ?_
        refine AW_reg [3, 8] fun K hK => ?_ -- region 8
        simp [init_eq, wrap_id (x := (dn.length : Int) + 1) (by omega) (by omega)]
        refine hK _ _ ?_; clear hK K
        refine bend (rend ⟨(dn ++ [(c, decOk (s.drop p))], p + sz), by simp, ⟨hgG, hnG, hoG, by (show p + sz ≤ s.length); omega, by simp [h1], by simp [h2, hL], ?_, ?_⟩, by (show s.length - (p + sz) < s.length - p); omega⟩) -- round's end
        · simp; omega
        · intro y r e
          cases dn with
          | nil =>
            simp at e
            rw [← e.1]
            exact hD (h3.2 rfl)
          | cons z dn =>
            simp at e
            rw [← e.1]
            exact h4 z dn rfl
    · cases hc
  · have hpe : p = s.length := by omega
    subst hpe
    rw [List.drop_length, letsOf_nil, List.append_nil] at h1
    have hnx : anextS H1 (.p (some (H.next, 0, 0))) = some (.tup [.b false], H1) := by
      simp [anextS, hg]
    refine AW_reg [3, 8, 9, 10] fun K hK => ?_ -- region 3
    simp [init_eq, hnx]
    refine hK _ _ ?_; clear hK K
    refine AW_seq ?_
    refine AW_cond' rfl rfl (fun hc => ?_) (fun hc => ?_)
    · cases hc
    refine AW_exit (then_exit (then_exit (block_here ?_)))
    refine AW_seq ?_
    refine AW_seq ?_
    have d1 : ((dn.length : Int) < 1) = (dn.length < 1) := propext (by omega)
    have d2 : ((32 : Int) < dn.length) = (32 < dn.length) := propext (by omega)
    refine AW_regto [40] ⟨41, [(40, .b (!nameOk s))]⟩ H1 (fun K hk => ?_) ?_ -- region 9
    · cases dn with
      | nil =>
        rw [nameOk_nil h1] at hk
        simpa [init_eq] using hk
      | cons y r =>
        rw [nameOk_cons h1, h4 y r rfl, h2] at hk
        have d1 : ¬ ((r.length : Int) + 1 < 1) := by omega
        by_cases h32 : r.length + 1 ≤ 32
        · have d2 : ¬ ((32 : Int) < (r.length : Int) + 1) := by omega
          simpa [init_eq, d1, d2, h32] using hk
        · have d2 : ((32 : Int) < (r.length : Int) + 1) := by omega
          simpa [init_eq, d1, d2, h32] using hk
    refine AW_cond' rfl rfl (fun hc => ?_) (fun hc => ?_)
    · have hk : nameOk s = false := by simpa using hc
      refine AW_seq ?_
      refine AW_reg [2] fun K hK => ?_ -- region 10
      simp [init_eq]
      refine hK _ _ ?_; clear hK K
      refine AW_ret (end_ret rfl (pure_end hn ho ?_ rfl))
      simp [hk]
    · have hk : nameOk s = true := by simpa using hc
      refine AW_skip ?_
      refine AW_seq ?_
      refine AW_reg [2] fun K hK => ?_ -- region 11
      simp [init_eq]
      refine hK _ _ ?_; clear hK K
      refine AW_ret (end_ret rfl (pure_end hn ho ?_ rfl))
      simp [hk]
end Go.Proofs.YtikonppmjkipoaaDoor
