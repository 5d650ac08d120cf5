/-
  Lists of a block are read.
-/
import Derived.Test.YtoccjilbfkhmoaaDoorRead5
set_option linter.unusedVariables false
set_option linter.unusedSimpArgs false
namespace Go.Proofs.YtoccjilbfkhmoaaDoor
open Go Go.Abs Go.Proofs
set_option maxRecDepth 100000
attribute [local irreducible] AEnd AW ACalls

theorem app_txs : App Tryd.prog 59 59 7 88 := App.mk' qelem_59 qsize_108 qbytes_108 qzero_108 qsrc_59 rfl (by decide)
theorem app_tmos : App Tryd.prog 58 58 10 72 := App.mk' qelem_58 qsize_104 qbytes_104 qzero_104 qsrc_58 rfl (by decide)
/-- A list of transactions is read. -/
theorem listTx_ok {H0 H : AH} {id bx : Nat} {s : St} (h : Rd H0 H id s) (hb : H.get bx = some (.cells [.p (some (id, 0, 0))] 0 false 0)) (hne : bx ≠ id) (h32 : s.2 ≠ 32) (m : Nat) (hm : m ≤ 1000) :
    ACalls Tryd.prog 66 [.p (some (id, 0, 0)), .i .i64 (m : Int), .fn (.func 67) [] [.p (some (bx, 0, 0))]] H fun r H' =>
      ∃ F, Own H' r 7 ((takeL takeTx (rmost m s).1 (rmost m s).2).1.map Tx.cells).flatten F ∧ (∀ j ∈ F, H.next ≤ j) ∧ Rd H0 H' id (takeL takeTx (rmost m s).1 (rmost m s).2).2 ∧ Upd H H' [id] := by
  have hid := h.mem
  refine ACalls_body Tryd.func66 rfl rfl ?_
  refine AW_seq ?_
  refine AW_reg [0, 1, 2] fun K hK => ?_ -- region 0
  simp [init_eq]
  refine hK _ _ ?_; clear hK K
  refine AW_seq ?_
  refine AW_reg [0, 1, 2, 7] fun K hK => ?_ -- region 1
  simp [init_eq]
  refine hK _ _ ?_; clear hK K
  refine AW_seq ?_
  refine AW_seq ?_
  refine AW_reg [2, 7, 8] fun K hK => ?_ -- region 2
  simp [init_eq]
  refine ACalls.mono (most_ok h m) fun r H1 ⟨hr, h1, u1⟩ => ?_ -- (*hallmoot/wire.Reader).Most
  subst hr
  try simp
  refine hK _ _ ?_; clear hK K
  have hle := rmost_le m s
  have h33 := rmost_32 (m := m) h32
  generalize rmost m s = q at *
  obtain ⟨n, s1⟩ := q
  simp only at h1 hle h33 ⊢
  refine AW_block ?_
  refine AW_loopx (fun x : List Tx × V × Nat × St => ⟨22, [(2, .fn (.func 67) [] [.p (some (bx, 0, 0))]), (7, x.2.1), (8, .i .i64 (x.2.2.1 : Int))]⟩)
    (fun x G => x.1.length + x.2.2.1 = n ∧ takeL takeTx n s1 = (x.1 ++ (takeL takeTx x.2.2.1 x.2.2.2).1, (takeL takeTx x.2.2.1 x.2.2.2).2) ∧ x.2.2.2.2 ≠ 32 ∧ Rd H0 G id x.2.2.2 ∧ Upd H G [id] ∧ ∃ F, Own G x.2.1 7 (x.1.map Tx.cells).flatten F ∧ ∀ j ∈ F, H.next ≤ j)
    (fun x => x.2.2.1) ([], .sl none 0 false, n, s1) (by simp) ⟨by simp, by simp, h33, h1, u1, [], Own.nil .., by simp⟩ fun x G hM => ?_ -- loop
  obtain ⟨xs, v, k, st⟩ := x
  obtain ⟨m1, m2, m3, m4, m5, F, o, l⟩ := hM
  simp only at m1 m2 m3 m4 m5 o ⊢
  refine AW_seq ?_
  refine AW_seq ?_
  refine AW_regto [2, 7, 8, 13] ⟨22, [(2, .fn (.func 67) [] [.p (some (bx, 0, 0))]), (7, v), (8, .i .i64 (k : Int)), (13, .b (decide (0 < k)))]⟩ G (fun K hk => ?_) ?_ -- region 3
  · by_cases k1 : 0 < k
    · have k2 : (0 : Int) < k := by omega
      simpa [init_eq, k1, k2] using hk
    · have k2 : ¬ (0 : Int) < k := by omega
      simpa [init_eq, k1, k2] using hk
  refine AW_cond' rfl rfl (fun hc => ?_) (fun hc => ?_)
  · have k1 : 0 < k := by simpa using hc
    obtain ⟨k', rfl⟩ : ∃ k', k = k' + 1 := ⟨k - 1, by omega⟩
    have hw : IntKind.i64.wrap (((k' + 1 : Nat) : Int) - 1) = (k' : Int) := by
      rw [wrap_id (by omega) (by omega)]; omega
    refine AW_skip ?_
    refine AW_seq ?_
    refine AW_block ?_
    refine AW_reg [2, 7, 8] fun K hK => ?_ -- region 5
    simp [init_eq, AOp_callv (f := 67) (first := []) (caps := [.p (some (bx, 0, 0))])]
    have lb := AH.get_lt hb
    have hbG := m5.keep (by simp; omega) hb
    refine ACalls.mono (take2_ok m4 hbG hne m3) fun r G1 ⟨hr, h2, u2⟩ => ?_
    subst hr
    have hidF : ∀ j ∈ F, j ∉ [id] := fun j hj => by have := l j hj; simp; omega
    have o2 := o.upd u2 hidF
    obtain ⟨G2, v', G3, F', b1, b2, b3, b4, b5⟩ := o2.pushR (f := Tx.cells) app_txs qelem_59 qsize_108 qzero_108 rfl rfl (by decide) (fun _ => rfl) (takeTx st).1 (x := .agg (takeTx st).1.cells) rfl (by simp [roomOk]; omega)
    have hn1 : H.next ≤ G1.next := Nat.le_trans m5.1 u2.1
    have r3 := h2.upd b4 (fun j hj => by have := l j hj; omega)
    have u3 : Upd H G3 [id] := (m5.trans u2 (fun j hj => .inl hj)).trans b4 (fun j hj => .inr (l j hj))
    have e3 : takeL takeTx (k' + 1) st = ((takeTx st).1 :: (takeL takeTx k' (takeTx st).2).1, (takeL takeTx k' (takeTx st).2).2) := rfl
    rw [e3] at m2
    have m32 := takeTx_32 m3
    generalize takeTx st = y at *
    obtain ⟨a, st'⟩ := y
    simp only at b1 b2 b3 r3 m2 m32 ⊢
    simp [b1, b2]
    refine hK _ _ ?_; clear hK K
    refine bend (rend ?_)
    refine AW_reg [2, 7, 8] fun K hK => ?_ -- region 4
    simp [init_eq, hw]
    refine hK _ _ ?_; clear hK K
    refine rend ⟨(xs ++ [a], v', k', st'), by simp [show IntKind.i64.wrap ((k' : Nat) : Int) = k' from wrap_id (by omega) (by omega)], ⟨by simp; omega, by simpa using m2, m32, r3, u3, F', b3, fun j hj => ?_⟩, by simp⟩ -- round's end
    rcases b5 j hj with hx | hx
    · exact l j hx
    · omega
  · have k1 : k = 0 := by
      have : ¬ 0 < k := by simpa using hc
      omega
    subst k1
    refine AW_exit (then_exit (then_exit (block_here ?_)))
    refine AW_seq ?_
    refine AW_reg [6] fun K hK => ?_ -- region 6
    simp [init_eq]
    refine hK _ _ ?_; clear hK K
    refine AW_ret (end_ret rfl ?_)
    have e : takeL takeTx n s1 = (xs, st) := by rw [m2]; simp [takeL]
    rw [e]
    exact ⟨F, o, l, m4, m5⟩
/-- A list of timeouts is read. -/
theorem listTmo_ok {H0 H : AH} {id bx bb : Nat} {s : St} {b : Blk} {pv tv : V} (hbb : H.get bb = some (.cells (b.cells pv tv) 0 false 0)) (hne2 : bb ≠ id) (h : Rd H0 H id s) (hb : H.get bx = some (.cells [.p (some (id, 0, 0))] 0 false 0)) (hne : bx ≠ id) (h32 : s.2 ≠ 32) (m : Nat) (hm : m ≤ 1000) :
    ACalls Tryd.prog 64 [.p (some (id, 0, 0)), .i .i64 (m : Int), .fn (.func 65) [] [.p (some (bx, 0, 0)), .p (some (bb, 0, 0))]] H fun r H' =>
      ∃ F, Own H' r 10 ((takeL (takeTmo b.view) (rmost m s).1 (rmost m s).2).1.map Tmo.cells).flatten F ∧ (∀ j ∈ F, H.next ≤ j) ∧ Rd H0 H' id (takeL (takeTmo b.view) (rmost m s).1 (rmost m s).2).2 ∧ Upd H H' [id] := by
  have hid := h.mem
  refine ACalls_body Tryd.func64 rfl rfl ?_
  refine AW_seq ?_
  refine AW_reg [0, 1, 2] fun K hK => ?_ -- region 0
  simp [init_eq]
  refine hK _ _ ?_; clear hK K
  refine AW_seq ?_
  refine AW_reg [0, 1, 2, 7] fun K hK => ?_ -- region 1
  simp [init_eq]
  refine hK _ _ ?_; clear hK K
  refine AW_seq ?_
  refine AW_seq ?_
  refine AW_reg [2, 7, 8] fun K hK => ?_ -- region 2
  simp [init_eq]
  refine ACalls.mono (most_ok h m) fun r H1 ⟨hr, h1, u1⟩ => ?_ -- (*hallmoot/wire.Reader).Most
  subst hr
  try simp
  refine hK _ _ ?_; clear hK K
  have hle := rmost_le m s
  have h33 := rmost_32 (m := m) h32
  generalize rmost m s = q at *
  obtain ⟨n, s1⟩ := q
  simp only at h1 hle h33 ⊢
  refine AW_block ?_
  refine AW_loopx (fun x : List Tmo × V × Nat × St => ⟨22, [(2, .fn (.func 65) [] [.p (some (bx, 0, 0)), .p (some (bb, 0, 0))]), (7, x.2.1), (8, .i .i64 (x.2.2.1 : Int))]⟩)
    (fun x G => x.1.length + x.2.2.1 = n ∧ takeL (takeTmo b.view) n s1 = (x.1 ++ (takeL (takeTmo b.view) x.2.2.1 x.2.2.2).1, (takeL (takeTmo b.view) x.2.2.1 x.2.2.2).2) ∧ x.2.2.2.2 ≠ 32 ∧ Rd H0 G id x.2.2.2 ∧ Upd H G [id] ∧ ∃ F, Own G x.2.1 10 (x.1.map Tmo.cells).flatten F ∧ ∀ j ∈ F, H.next ≤ j)
    (fun x => x.2.2.1) ([], .sl none 0 false, n, s1) (by simp) ⟨by simp, by simp, h33, h1, u1, [], Own.nil .., by simp⟩ fun x G hM => ?_ -- loop
  obtain ⟨xs, v, k, st⟩ := x
  obtain ⟨m1, m2, m3, m4, m5, F, o, l⟩ := hM
  simp only at m1 m2 m3 m4 m5 o ⊢
  refine AW_seq ?_
  refine AW_seq ?_
  refine AW_regto [2, 7, 8, 13] ⟨22, [(2, .fn (.func 65) [] [.p (some (bx, 0, 0)), .p (some (bb, 0, 0))]), (7, v), (8, .i .i64 (k : Int)), (13, .b (decide (0 < k)))]⟩ G (fun K hk => ?_) ?_ -- region 3
  · by_cases k1 : 0 < k
    · have k2 : (0 : Int) < k := by omega
      simpa [init_eq, k1, k2] using hk
    · have k2 : ¬ (0 : Int) < k := by omega
      simpa [init_eq, k1, k2] using hk
  refine AW_cond' rfl rfl (fun hc => ?_) (fun hc => ?_)
  · have k1 : 0 < k := by simpa using hc
    obtain ⟨k', rfl⟩ : ∃ k', k = k' + 1 := ⟨k - 1, by omega⟩
    have hw : IntKind.i64.wrap (((k' + 1 : Nat) : Int) - 1) = (k' : Int) := by
      rw [wrap_id (by omega) (by omega)]; omega
    refine AW_skip ?_
    refine AW_seq ?_
    refine AW_block ?_
    refine AW_reg [2, 7, 8] fun K hK => ?_ -- region 5
    simp [init_eq, AOp_callv (f := 65) (first := []) (caps := [.p (some (bx, 0, 0)), .p (some (bb, 0, 0))])]
    have lb := AH.get_lt hb
    have lbb := AH.get_lt hbb
    have hbG := m5.keep (by simp; omega) hb
    have hbbG := m5.keep (by simp; omega) hbb
    refine ACalls.mono (take1_ok m4 hbG hne m3 hbbG hne2) fun r G1 ⟨hr, h2, u2⟩ => ?_
    subst hr
    have hidF : ∀ j ∈ F, j ∉ [id] := fun j hj => by have := l j hj; simp; omega
    have o2 := o.upd u2 hidF
    obtain ⟨G2, v', G3, F', b1, b2, b3, b4, b5⟩ := o2.pushR (f := Tmo.cells) app_tmos qelem_58 qsize_104 qzero_104 rfl rfl (by decide) (fun _ => rfl) ((takeTmo b.view) st).1 (x := .agg ((takeTmo b.view) st).1.cells) rfl (by simp [roomOk]; omega)
    have hn1 : H.next ≤ G1.next := Nat.le_trans m5.1 u2.1
    have r3 := h2.upd b4 (fun j hj => by have := l j hj; omega)
    have u3 : Upd H G3 [id] := (m5.trans u2 (fun j hj => .inl hj)).trans b4 (fun j hj => .inr (l j hj))
    have e3 : takeL (takeTmo b.view) (k' + 1) st = (((takeTmo b.view) st).1 :: (takeL (takeTmo b.view) k' ((takeTmo b.view) st).2).1, (takeL (takeTmo b.view) k' ((takeTmo b.view) st).2).2) := rfl
    rw [e3] at m2
    have m32 : (takeTmo b.view st).2.2 ≠ 32 := takeCert_32 (s := (rsmall st).2) (rnum_32 m3)
    generalize takeTmo b.view st = y at *
    obtain ⟨a, st'⟩ := y
    simp only at b1 b2 b3 r3 m2 m32 ⊢
    simp [b1, b2]
    refine hK _ _ ?_; clear hK K
    refine bend (rend ?_)
    refine AW_reg [2, 7, 8] fun K hK => ?_ -- region 4
    simp [init_eq, hw]
    refine hK _ _ ?_; clear hK K
    refine rend ⟨(xs ++ [a], v', k', st'), by simp [show IntKind.i64.wrap ((k' : Nat) : Int) = k' from wrap_id (by omega) (by omega)], ⟨by simp; omega, by simpa using m2, m32, r3, u3, F', b3, fun j hj => ?_⟩, by simp⟩ -- round's end
    rcases b5 j hj with hx | hx
    · exact l j hx
    · omega
  · have k1 : k = 0 := by
      have : ¬ 0 < k := by simpa using hc
      omega
    subst k1
    refine AW_exit (then_exit (then_exit (block_here ?_)))
    refine AW_seq ?_
    refine AW_reg [6] fun K hK => ?_ -- region 6
    simp [init_eq]
    refine hK _ _ ?_; clear hK K
    refine AW_ret (end_ret rfl ?_)
    have e : takeL (takeTmo b.view) n s1 = (xs, st) := by rw [m2]; simp [takeL]
    rw [e]
    exact ⟨F, o, l, m4, m5⟩
end Go.Proofs.YtoccjilbfkhmoaaDoor
