/-
  Package wire's reader: Most, Text, New; block's small.
-/
import Derived.Test.YtoccjilbfkhmoaaDoorRead1
set_option linter.unusedVariables false
set_option linter.unusedSimpArgs false
namespace Go.Proofs.YtoccjilbfkhmoaaDoor
open Go Go.Abs Go.Proofs
set_option maxRecDepth 100000
attribute [local irreducible] AEnd AW ACalls

theorem rnum_le (s : St) : (rnum s).1 ≤ 4611686018427387904 := by
  by_cases h : (rnum s).2.2 = 0
  · exact (rnum_inv h).2.2
  · have : (rnum s).1 = 0 := by
      unfold rnum at h ⊢
      split
      · rename_i h0
        rw [if_pos h0] at h
        cases e : numGo 0 0 s.1 with
        | inl x => rfl
        | inr p => obtain ⟨n, r⟩ := p; rw [e] at h; exact absurd rfl h
      · rfl
    omega
theorem most_ok {H0 H : AH} {id : Nat} {s : St} (h : Rd H0 H id s) (m : Nat) : ACalls Tryd.prog 78 [.p (some (id, 0, 0)), .i .i64 (m : Int)] H fun r H' => r = .i .i64 ((rmost m s).1 : Nat) ∧ Rd H0 H' id (rmost m s).2 ∧ Upd H H' [id] := by
  refine ACalls_body Tryd.func78 rfl rfl ?_
  refine AW_seq ?_
  refine AW_reg [0, 1] fun K hK => ?_ -- region 0
  simp [init_eq]
  refine hK _ _ ?_; clear hK K
  refine AW_seq ?_
  refine AW_reg [0, 1, 5] fun K hK => ?_ -- region 1
  simp [init_eq]
  refine ACalls.mono (rdnum_ok h) fun r H1 ⟨hr, h1, u1⟩ => ?_ -- (*hallmoot/wire.Reader).Num
  subst hr
  try simp
  refine hK _ _ ?_; clear hK K
  have hle := rnum_le s
  generalize hn : rnum s = q at *
  obtain ⟨n, t⟩ := q
  simp only at h1 hle ⊢
  refine AW_seq ?_
  refine AW_seq ?_
  refine AW_regto [0, 5, 10] ⟨14, [(0, .p (some (id, 0, 0))), (5, .i .i64 (n : Int)), (10, .b (decide (m < n)))]⟩ H1 (fun K hk => ?_) ?_ -- region 2
  · by_cases k1 : m < n
    · have k2 : (m : Int) < n := by omega
      simpa [init_eq, k1, k2] using hk
    · have k2 : ¬ (m : Int) < n := by omega
      simpa [init_eq, k1, k2] using hk
  refine AW_cond' rfl rfl (fun hc => ?_) (fun hc => ?_)
  · have k1 : m < n := by simpa using hc
    refine AW_seq ?_
    refine AW_reg [] fun K hK => ?_ -- region 3
    simp [init_eq]
    refine ACalls.mono (fail_ok h1 33) fun r H2 ⟨h2, u2⟩ => ?_ -- (*hallmoot/wire.Reader).Fail
    try simp
    refine hK _ _ ?_; clear hK K
    refine AW_seq ?_
    refine AW_reg [4] fun K hK => ?_ -- region 4
    simp [init_eq]
    refine hK _ _ ?_; clear hK K
    refine AW_ret (end_ret rfl ?_)
    have e : rmost m s = (0, rfail 33 t) := by simp [rmost, hn, k1]
    rw [e]
    exact ⟨rfl, h2, u1.trans u2 (fun j hj => .inl hj)⟩
  · have k1 : ¬ m < n := by simpa using hc
    refine AW_skip ?_
    refine AW_seq ?_
    refine AW_reg [4] fun K hK => ?_ -- region 5
    simp [init_eq]
    refine hK _ _ ?_; clear hK K
    refine AW_ret (end_ret rfl ?_)
    have e : rmost m s = (n, t) := by simp [rmost, hn, k1]
    rw [e]
    exact ⟨rfl, h1, u1⟩
theorem text_ok' {H0 H : AH} {id : Nat} {s : St} (h : Rd H0 H id s) : ACalls Tryd.prog 79 [.p (some (id, 0, 0))] H fun r H' => r = .s (rtext s).1 ∧ Rd H0 H' id (rtext s).2 ∧ Upd H H' [id] := by
  refine ACalls_body Tryd.func79 rfl rfl ?_
  refine AW_seq ?_
  refine AW_reg [0] fun K hK => ?_ -- region 0
  simp [init_eq]
  refine hK _ _ ?_; clear hK K
  refine AW_seq ?_
  refine AW_reg [0, 3] fun K hK => ?_ -- region 1
  simp [init_eq]
  refine ACalls.mono (most_ok h 65536) fun r H1 ⟨hr, h1, u1⟩ => ?_ -- (*hallmoot/wire.Reader).Most
  subst hr
  try simp
  refine hK _ _ ?_; clear hK K
  generalize hn : rmost 65536 s = q at *
  obtain ⟨n, t⟩ := q
  have e : rtext s = if t.1.length < n then ([], rfail 30 t) else (t.1.take n, (t.1.drop n, t.2)) := by simp [rtext, hn]
  rw [e]
  clear e
  simp only at h1 ⊢
  refine AW_seq ?_
  refine AW_seq ?_
  refine AW_regto [0, 3, 10] ⟨32, [(0, .p (some (id, 0, 0))), (3, .i .i64 (n : Int)), (10, .b (decide (t.1.length < n)))]⟩ H1 (fun K hk => ?_) ?_ -- region 2
  · simp [init_eq]
    refine ACalls.mono (rest_ok h1) fun r H2 ⟨hr, e⟩ => ?_ -- (*hallmoot/wire.Reader).Rest
    subst hr e
    by_cases k1 : t.1.length < n
    · have k2 : (t.1.length : Int) < n := by omega
      simpa [k1, k2] using hk
    · have k2 : ¬ (t.1.length : Int) < n := by omega
      simpa [k1, k2] using hk
  refine AW_cond' rfl rfl (fun hc => ?_) (fun hc => ?_)
  · have k1 : t.1.length < n := by simpa using hc
    rw [if_pos k1]
    refine AW_seq ?_
    refine AW_reg [] fun K hK => ?_ -- region 3
    simp [init_eq]
    refine ACalls.mono (fail_ok h1 30) fun r H2 ⟨h2, u2⟩ => ?_ -- (*hallmoot/wire.Reader).Fail
    try simp
    refine hK _ _ ?_; clear hK K
    refine AW_seq ?_
    refine AW_reg [2] fun K hK => ?_ -- region 4
    simp [init_eq]
    refine hK _ _ ?_; clear hK K
    refine AW_ret (end_ret rfl ?_)
    exact ⟨rfl, h2, u1.trans u2 (fun j hj => .inl hj)⟩
  · have k1 : ¬ t.1.length < n := by simpa using hc
    rw [if_neg k1]
    refine AW_skip ?_
    refine AW_seq ?_
    refine AW_seq ?_
    refine AW_regto [0, 3, 14] ⟨32, [(0, .p (some (id, 0, 0))), (3, .i .i64 (n : Int)), (14, .b (decide (n = 0)))]⟩ H1 (fun K hk => ?_) ?_ -- region 5
    · by_cases k2 : n = 0
      · have k3 : (n : Int) = 0 := by omega
        simpa [init_eq, k2, k3] using hk
      · have k3 : ¬ (n : Int) = 0 := by omega
        simpa [init_eq, k2, k3] using hk
    refine AW_cond' rfl rfl (fun hc => ?_) (fun hc => ?_)
    · have k2 : n = 0 := by simpa using hc
      subst k2
      refine AW_seq ?_
      refine AW_reg [2] fun K hK => ?_ -- region 6
      simp [init_eq]
      refine hK _ _ ?_; clear hK K
      refine AW_ret (end_ret rfl ?_)
      exact ⟨by simp, by simpa using h1, u1⟩
    · obtain ⟨v, hv, hg⟩ := h1.obj
      obtain ⟨v1, e1, hv1⟩ := RS.slice2 (P := Tryd.prog) h1.same hv qelem_82 qsize_5 (lo := none) (hi := some (.i .i64 (n : Int))) (k := 0) (m := n) (by simp only [abound]; rw [if_pos ⟨by omega, by simp; omega⟩]; simp) (by simp [abound]) (by omega) (by simp; omega)
      obtain ⟨v2, e2, hv2⟩ := RS.slice2 (P := Tryd.prog) h1.same hv qelem_82 qsize_5 (lo := some (.i .i64 (n : Int))) (hi := none) (k := n) (m := t.1.length) (by simp [abound]) (by simp only [abound]; rw [if_pos ⟨by omega, by omega⟩]; simp) (by omega) (by simp)
      have hv1H := hv1.same h1.same
      rw [List.drop_zero, ← List.map_take] at hv1H
      have hcv : ∀ G, G = H1 → aconvert Tryd.prog G 82 9 v1 = some (.s (t.1.take n), G) := fun G hG => by
        subst hG
        refine conv_text qbs_82 qstr_9 ?_
        rw [← bytesV_flat]
        exact hv1H.slr.1
      refine AW_skip ?_
      refine AW_seq ?_
      refine AW_reg [0, 3, 4] fun K hK => ?_ -- region 7
      simp [init_eq, afieldAddr, aload, hg, e1, hcv]
      refine hK _ _ ?_; clear hK K
      refine AW_seq ?_
      refine AW_reg [4] fun K hK => ?_ -- region 8
      simp [init_eq, afieldAddr, aload, hg, e2, astore, hv2.cells, splice_zero]
      refine hK _ _ ?_; clear hK K
      refine AW_seq ?_
      refine AW_reg [2] fun K hK => ?_ -- region 9
      simp [init_eq]
      refine hK _ _ ?_; clear hK K
      refine AW_ret (end_ret rfl ?_)
      refine ⟨rfl, h1.set ?_ rfl, u1.trans (Upd.set (F := [id]) _ _ _ (by simp)) (fun j hj => .inl hj)⟩
      rw [← List.map_take, ← List.map_drop] at hv2
      simpa using hv2
/-- A new reader. -/
theorem rdnew_ok (H : AH) {v : V} {l : List UInt8} (hv : Sl H v 1 (bytesV l)) (hl : l.length ≤ 100000000000) : ACalls Tryd.prog 47 [v] H fun r H' => ∃ H0 id, r = .p (some (id, 0, 0)) ∧ Rd H0 H' id (l, 0) ∧ Upd H H' [] ∧ H.next ≤ id := by
  refine ACalls_body Tryd.func47 rfl rfl ?_
  refine AW_seq ?_
  refine AW_reg [0] fun K hK => ?_ -- region 0
  simp [init_eq]
  refine hK _ _ ?_; clear hK K
  refine AW_seq ?_
  refine AW_reg [2] fun K hK => ?_ -- region 1
  simp [init_eq]
  refine ACalls.mono (clone_ok H hv hl) fun r H1 hf => ?_ -- slices.Clone[[]byte,byte]
  obtain ⟨F, o1, u1, l1⟩ := hf
  have hrs : RS H1 r 1 (l.map byC) := Own.rsR (f := byC) (xs := l) (by rw [bytesV_flat]; exact o1) (by decide) (fun _ => rfl)
  rcases hrs.2 with ⟨c, e, _⟩ | ⟨i2, g, off, c, ro, esz, e, _⟩
  all_goals
    simp [e, abuild, afill, V.cells, splice_zero, splice_succ]
    first
    | rw [← e]
    | (rw [List.length_map] at e; rw [← e])
    refine hK _ _ ?_; clear hK K
    refine AW_ret (end_ret rfl ?_)
    refine ⟨H1, H1.next, rfl, ⟨Nat.le_refl _, fun j hj => by rw [AH.get_new, if_neg (by omega)], r, hrs, by simp [AH.get_new]⟩, u1.trans (Upd.new H1 _ []) (by simp), u1.1⟩
theorem small_ok {H0 H : AH} {id : Nat} {s : St} (h : Rd H0 H id s) : ACalls Tryd.prog 62 [.p (some (id, 0, 0))] H fun r H' => r = .i .i64 ((rsmall s).1 : Nat) ∧ Rd H0 H' id (rsmall s).2 ∧ Upd H H' [id] := by
  refine ACalls_body Tryd.func62 rfl rfl ?_
  refine AW_seq ?_
  refine AW_reg [0] fun K hK => ?_ -- region 0
  simp [init_eq]
  refine hK _ _ ?_; clear hK K
  refine AW_seq ?_
  refine AW_reg [2] fun K hK => ?_ -- region 1
  simp [init_eq]
  refine ACalls.mono (rdnum_ok h) fun r H1 ⟨hr, h1, u1⟩ => ?_ -- (*hallmoot/wire.Reader).Num
  subst hr
  by_cases k1 : (rnum s).1 ≤ 1099511627776
  · have e : (rsmall s).1 = (rnum s).1 := Nat.min_eq_left k1
    have k2 : ¬ (1099511627776 : Int) < ((rnum s).1 : Int) := by omega
    simp [amin2, k2]
    refine hK _ _ ?_; clear hK K
    refine AW_ret (end_ret rfl ?_)
    rw [e]
    exact ⟨rfl, h1, u1⟩
  · have e : (rsmall s).1 = 1099511627776 := Nat.min_eq_right (by omega)
    have k2 : (1099511627776 : Int) < ((rnum s).1 : Int) := by omega
    simp [amin2, k2]
    refine hK _ _ ?_; clear hK K
    refine AW_ret (end_ret rfl ?_)
    rw [e]
    exact ⟨rfl, h1, u1⟩
end Go.Proofs.YtoccjilbfkhmoaaDoor
