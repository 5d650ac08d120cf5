/-
  The document reads certificates.
-/
import Derived.Test.YtoccjilbfkhmoaaGreatDoorRTake2
set_option linter.unusedVariables false
set_option linter.unusedSimpArgs false
namespace Go.Proofs.YtoccjilbfkhmoaaGreatDoor
open Go Go.Abs Go.Proofs
set_option maxRecDepth 100000
attribute [local irreducible] AEnd AW ACalls

theorem rdNext_ok (H : AH) (s : St) (m : Nat) : ACalls Tryz.prog 70 [rdV s, .i .i64 m] H fun r H' => r = .tup [.i .i64 ((rnext m s).1 : Nat), rdV (rnext m s).2] ∧ H' = H := by
  refine ACalls.pure (Q := fun r => r = .tup [.i .i64 ((rnext m s).1 : Nat), rdV (rnext m s).2]) ⟨_, Tryz.func70, rfl, rfl⟩ ?_
  refine ACalls_body Tryz.func70 rfl rfl ?_
  repeat refine AW_seq ?_
  refine AW_reg [1, 2, 5] fun K hK => ?_ -- region 0
  simp [init_eq, V.cells, rdV]
  obtain ⟨H1, e1, hp, hp2, hn, ho⟩ := H.boxed2 (rdC s) [.s [], .i .i64 0]
  rw [e1]
  refine hK _ _ ?_; clear hK K
  have hld : aload Tryz.prog H1 82 (.p (some (H.next, 0, 0))) = some (rdV s) := by simp [aload, hp, rdV]
  repeat refine AW_seq ?_
  refine AW_reg [1, 5, 6, 7] fun K hK => ?_ -- region 1
  simp [init_eq, hld]
  refine ACalls.mono (rdNum_ok ..) fun r H' ⟨hr, e⟩ => ?_ -- (hallmoot/hallmootref03.Reader).Num
  subst hr e
  obtain ⟨H2, e2, hp3, hn2, ho2⟩ := AH.boxedS H' [.s [], .i .i64 0] (rdC (rnum s).2)
  have hpx : H2.get (H.next + 1) = some (.cells [.s [], .i .i64 0] 0 false 0) := by rw [ho2 _ (by omega)]; exact hp2
  have hoo : ∀ j, j < H.next → H2.get j = H.get j := fun j hj => by rw [ho2 j (by omega), ho j hj]
  have hnn : H2.next = H.next + 3 := by omega
  have hst : ∀ t : St, astore Tryz.prog H2 82 (.p (some (H.next + 1, 0, 0))) (rdV t) = some (H2.set (H.next + 1) (.cells (rdC t) 0 false 0)) := fun t => by simp [astore, hpx, V.cells, rdV, rdC_splz]
  have hl2 : aload Tryz.prog H2 82 (.p (some (H'.next, 0, 0))) = some (rdV (rnum s).2) := by simp [aload, hp3, rdV]
  have hend : ∀ (t : St) (n : Nat) (ρ : Env), ρ.get 4 = .i .i64 n → ρ.get 5 = .p (some (H.next + 1, 0, 0)) → (n, t) = rnext m s → AEnd Tryz.prog Tryz.f70 (fun r H' => r = .tup [.i .i64 ((rnext m s).1 : Nat), rdV (rnext m s).2] ∧ V.lt H.next r = true ∧ H.next ≤ H'.next ∧ ∀ j, j < H.next → H'.get j = H.get j) .ret ρ (H2.set (H.next + 1) (.cells (rdC t) 0 false 0)) := fun t n ρ h1 h2 h3 =>
    end_ret (ares_tc (v := rdV t) (by rw [h2]; simp [aload, AH.get_set, hnn, rdV])) (pure_end2 hnn hoo (by omega) (by rw [h1, ← h3]) (by rw [h1]; rfl))
  simp [V.cells, astore, rdV, AH.get_new, rdC_splz, e2]
  refine hK _ _ ?_; clear hK K
  repeat refine AW_seq ?_
  refine AW_reg [5, 6, 7, 15] fun K hK => ?_ -- region 2
  simp [init_eq]
  refine hK _ _ ?_; clear hK K
  refine AW_cond' rfl rfl (fun hc => ?_) (fun hc => ?_)
  · have g : m < (rnum s).1 := by simpa using hc
    repeat refine AW_seq ?_
    refine AW_reg [4, 5] fun K hK => ?_ -- region 3
    simp [init_eq, hl2]
    refine ACalls.mono (rdFail_ok ..) fun r G1 ⟨hr, e⟩ => ?_ -- (hallmoot/hallmootref03.Reader).Fail
    subst hr e
    simp [hst]
    refine hK _ _ ?_; clear hK K
    exact AW_ret (hend _ 0 _ rfl rfl (by rw [rnext, if_pos g]))
  · have g : ¬ m < (rnum s).1 := by simpa using hc
    refine AW_skip ?_
    repeat refine AW_seq ?_
    refine AW_regd [4, 5] pl_70_4 pe_70_4 (by kernel_rfl) (by kernel_rfl) (by decide) fun K hK => ?_
    simp [init_eq, pl_70_4, hl2, hst]
    refine hK _ _ ?_; clear hK K
    exact AW_ret (hend _ _ _ rfl rfl (by rw [rnext, if_neg g]))
theorem rnext_le (m : Nat) (s : St) : (rnext m s).1 ≤ m := by
  unfold rnext; split
  · simp
  · rename_i h; omega
theorem u32_nat {n : Nat} (h : n < 4294967296) : V.i .u32 (n : Int) = u32 (BitVec.ofNat 32 n) := by
  simp only [u32, BitVec.toNat_ofNat]
  rw [Nat.mod_eq_of_lt (by omega)]
theorem spl_c0 (k b v r h a : Int) (s c : BitVec 32) (x : Int) : splice (Cert.cells ⟨k, b, v, r, h, a, s, c⟩) 0 [.i .i64 x] = Cert.cells ⟨x, b, v, r, h, a, s, c⟩ := rfl
theorem spl_c1 (k b v r h a : Int) (s c : BitVec 32) (x : Int) : splice (Cert.cells ⟨k, b, v, r, h, a, s, c⟩) 1 [.i .i64 x] = Cert.cells ⟨k, x, v, r, h, a, s, c⟩ := rfl
theorem spl_c2 (k b v r h a : Int) (s c : BitVec 32) (x : Int) : splice (Cert.cells ⟨k, b, v, r, h, a, s, c⟩) 2 [.i .i64 x] = Cert.cells ⟨k, b, x, r, h, a, s, c⟩ := rfl
theorem spl_c3 (k b v r h a : Int) (s c : BitVec 32) (x : Int) : splice (Cert.cells ⟨k, b, v, r, h, a, s, c⟩) 3 [.i .i64 x] = Cert.cells ⟨k, b, v, x, h, a, s, c⟩ := rfl
theorem spl_c4 (k b v r h a : Int) (s c : BitVec 32) (x : Int) : splice (Cert.cells ⟨k, b, v, r, h, a, s, c⟩) 4 [.i .i64 x] = Cert.cells ⟨k, b, v, r, x, a, s, c⟩ := rfl
theorem spl_c5 (k b v r h a : Int) (s c : BitVec 32) (x : Int) : splice (Cert.cells ⟨k, b, v, r, h, a, s, c⟩) 5 [.i .i64 x] = Cert.cells ⟨k, b, v, r, h, x, s, c⟩ := rfl
theorem spl_c6 (k b v r h a : Int) (s c : BitVec 32) (x : BitVec 32) : splice (Cert.cells ⟨k, b, v, r, h, a, s, c⟩) 6 [u32 x] = Cert.cells ⟨k, b, v, r, h, a, x, c⟩ := rfl
theorem spl_c7 (k b v r h a : Int) (s c : BitVec 32) (x : BitVec 32) : splice (Cert.cells ⟨k, b, v, r, h, a, s, c⟩) 7 [u32 x] = Cert.cells ⟨k, b, v, r, h, a, s, x⟩ := rfl
/-- The blocks while a certificate is read. -/
structure RTC (H G : AH) (t : St) (c : Cert) : Prop where
  nx : G.next = H.next + 4
  old : ∀ j, j < H.next → G.get j = H.get j
  rd : G.get H.next = some (.cells (rdC t) 0 false 0)
  r1 : G.get (H.next + 1) = some (.cells Cert.zero.cells 0 false 0)
  r2 : G.get (H.next + 2) = some (.cells (rdC ([], 0)) 0 false 0)
  c : G.get (H.next + 3) = some (.cells c.cells 0 false 0)
theorem RTC.put {H G : AH} {t : St} {c : Cert} (h : RTC H G t c) (t' : St) (c' : Cert) : RTC H ((G.set (H.next + 3) (.cells c'.cells 0 false 0)).set H.next (.cells (rdC t') 0 false 0)) t' c' := by
  have hn := h.nx
  exact ⟨by simp; exact h.nx, fun j hj => by rw [AH.get_set_ne (by omega), AH.get_set_ne (by omega)]; exact h.old j hj, by rw [AH.get_set_same (by simp only [AH.next_set]; omega)],
    by rw [AH.get_set_ne (by omega), AH.get_set_ne (by omega)]; exact h.r1, by rw [AH.get_set_ne (by omega), AH.get_set_ne (by omega)]; exact h.r2, by rw [AH.get_set_ne (by omega), AH.get_set_same (by omega)]⟩
theorem RTC.putR {H G : AH} {t : St} {c : Cert} (h : RTC H G t c) (t' : St) : RTC H (G.set H.next (.cells (rdC t') 0 false 0)) t' c := by
  have hn := h.nx
  exact ⟨by simp; exact h.nx, fun j hj => by rw [AH.get_set_ne (by omega)]; exact h.old j hj, by rw [AH.get_set_same (by omega)],
    by rw [AH.get_set_ne (by omega)]; exact h.r1, by rw [AH.get_set_ne (by omega)]; exact h.r2, by rw [AH.get_set_ne (by omega)]; exact h.c⟩
theorem RTC.putC {H G : AH} {t : St} {c : Cert} (h : RTC H G t c) (c' : Cert) : RTC H (G.set (H.next + 3) (.cells c'.cells 0 false 0)) t c' := by
  have hn := h.nx
  exact ⟨by simp; exact h.nx, fun j hj => by rw [AH.get_set_ne (by omega)]; exact h.old j hj, by rw [AH.get_set_ne (by omega)]; exact h.rd,
    by rw [AH.get_set_ne (by omega)]; exact h.r1, by rw [AH.get_set_ne (by omega)]; exact h.r2, by rw [AH.get_set_same (by omega)]⟩
theorem rdC_spl2 (t u : St) : splice (rdC t) 0 (rdC u) = rdC u := rfl
theorem rdCert_ok (H : AH) (s : St) : ACalls Tryz.prog 37 [rdV s] H fun r H' => r = .tup [.agg (rtakeCert s).1.cells, rdV (rtakeCert s).2] ∧ H' = H := by
  refine ACalls.pure (Q := fun r => r = .tup [.agg (rtakeCert s).1.cells, rdV (rtakeCert s).2]) ⟨_, Tryz.func37, rfl, rfl⟩ ?_
  refine ACalls_body Tryz.func37 rfl rfl ?_
  have hz : abuild Tryz.prog 24 [] = some (.agg Cert.zero.cells) := by first | (simp [abuild, afill]; done) | (simp [abuild, afill]; rfl)
  repeat refine AW_seq ?_
  refine AW_reg [1, 2, 3] fun K hK => ?_ -- region 0
  simp [init_eq, V.cells, rdV]
  refine hK _ _ ?_; clear hK K
  obtain ⟨H1, e1, hp, hp2, hp3, hn, ho⟩ := H.boxed3 (rdC s) Cert.zero.cells (rdC ([], 0))
  show AThen _ _ _ _ (((H.new (O.cells (rdC s) 0 false 0)).new (O.cells Cert.zero.cells 0 false 0)).new (O.cells (rdC ([], 0)) 0 false 0))
  rw [e1]
  clear e1
  repeat refine AW_seq ?_
  refine AW_reg [1, 2, 3, 4] fun K hK => ?_ -- region 1
  obtain ⟨H2, e2, hp4, hn2, ho2⟩ := AH.boxedS H1 Cert.zero.cells Cert.zero.cells
  have hzs : splice Cert.zero.cells 0 Cert.zero.cells = Cert.zero.cells := rfl
  simp [init_eq, hz, V.cells, astore, AH.get_new]
  refine hK _ _ ?_; clear hK K
  show AThen _ _ _ _ ((H1.new (O.cells Cert.zero.cells 0 false 0)).set H1.next (O.cells Cert.zero.cells 0 false 0))
  rw [e2]
  have T : RTC H H2 s ⟨0, 0, 0, 0, 0, 0, 0#32, 0#32⟩ := ⟨by omega, fun j hj => by rw [ho2 j (by omega), ho j hj], by rw [ho2 _ (by omega)]; exact hp, by rw [ho2 _ (by omega)]; exact hp2, by rw [ho2 _ (by omega)]; exact hp3, by rw [show H.next + 3 = H1.next by omega]; exact hp4⟩
  have hn3 : H1.next = H.next + 3 := hn
  rw [hn3]
  clear e2 hp hp2 hp3 hp4 hn2 ho2 ho hn3
  refine AW_seq ?_
  refine AW_reg [1, 2, 3, 4] fun K hK => ?_ -- region 2
  simp [init_eq]
  refine hK _ _ ?_; clear hK K
  refine AW_seq ?_
  refine AW_reg [1, 2, 3, 4] fun K hK => ?_ -- region 3
  have hld : aload Tryz.prog H2 82 (.p (some (H.next, 0, 0))) = some (rdV s) := by simp [aload, T.rd, rdV]
  simp [init_eq, hld]
  refine ACalls.mono (rdNext_ok H2 s 2) fun r G' ⟨hr, e⟩ => ?_ -- hallmoot/hallmootref11.next
  subst hr e
  simp [afieldAddr, astore, T.c, T.rd, T.nx, V.cells, rdV, AH.get_set, spl_c0, rdC_spl2]
  refine hK _ _ ?_; clear hK K hld
  have T0 := T.put (rnext 2 s).2 ⟨((rnext 2 s).1 : Nat), 0, 0, 0, 0, 0, 0#32, 0#32⟩
  generalize (AH.set _ H.next _ : AH) = G0 at T0 ⊢
  clear T
  have g6 : ∀ n : Nat, ((0 : Int) < n) = (0 < n) := fun n => propext (by omega)
  generalize hk : rnext 2 s = k at *
  refine AW_cut (fun ρ G => ρ = ⟨78, [(1, .p (some (H.next, 0, 0))), (2, .p (some (H.next + 1, 0, 0))), (3, .p (some (H.next + 2, 0, 0))), (4, .p (some (H.next + 3, 0, 0)))]⟩ ∧ RTC H G (rraw1 s).2 (mkC k.1 (rraw1 s).1 (0, 0, 0))) ?_ fun ρ G ⟨e1, T1⟩ => ?_
  · refine AW_seq ?_
    refine AW_reg [1, 2, 3, 4, 15] fun K hK => ?_ -- region 4
    simp [init_eq, afieldAddr, aload, T0.c, Cert.cells, g6]
    refine hK _ _ ?_; clear hK K
    refine AW_cond' rfl rfl (fun hc => ?_) (fun hc => ?_)
    · have g : 0 < k.1 := by simpa using hc
      have hr1 : rraw1 s = rC1 k.2 := by unfold rraw1; rw [hk, if_pos g]
      rw [hr1]
      clear hc hr1
      refine AW_seq ?_
      refine AW_reg [1, 2, 3, 4] fun K hK => ?_ -- region 5
      have hld : aload Tryz.prog G0 82 (.p (some (H.next, 0, 0))) = some (rdV k.2) := by simp [aload, T0.rd, rdV]
      simp [init_eq, hld]
      refine ACalls.mono (rdNext_ok G0 k.2 2147483647) fun r G' ⟨hr, e⟩ => ?_ -- hallmoot/hallmootref11.next
      subst hr e
      simp [afieldAddr, astore, T0.c, T0.rd, T0.nx, V.cells, rdV, AH.get_set, spl_c1, rdC_spl2]
      refine hK _ _ ?_; clear hK K hld
      have T1 := T0.put (rnext 2147483647 k.2).2 ⟨(k.1 : Nat), ((rnext 2147483647 k.2).1 : Nat), 0, 0, 0, 0, 0#32, 0#32⟩
      generalize (AH.set _ H.next _ : AH) = G1 at T1 ⊢
      clear T0
      refine AW_seq ?_
      refine AW_reg [1, 2, 3, 4] fun K hK => ?_ -- region 6
      have hld : aload Tryz.prog G1 82 (.p (some (H.next, 0, 0))) = some (rdV ((rnext 2147483647 k.2).2)) := by simp [aload, T1.rd, rdV]
      simp [init_eq, hld]
      refine ACalls.mono (rdNext_ok G1 ((rnext 2147483647 k.2).2) 1048576) fun r G' ⟨hr, e⟩ => ?_ -- hallmoot/hallmootref11.next
      subst hr e
      simp [afieldAddr, astore, T1.c, T1.rd, T1.nx, V.cells, rdV, AH.get_set, spl_c2, rdC_spl2]
      refine hK _ _ ?_; clear hK K hld
      have T2 := T1.put (rnext 1048576 ((rnext 2147483647 k.2).2)).2 ⟨(k.1 : Nat), ((rnext 2147483647 k.2).1 : Nat), ((rnext 1048576 (rnext 2147483647 k.2).2).1 : Nat), 0, 0, 0, 0#32, 0#32⟩
      generalize (AH.set _ H.next _ : AH) = G2 at T2 ⊢
      clear T1
      refine AW_seq ?_
      refine AW_reg [1, 2, 3, 4] fun K hK => ?_ -- region 7
      have hld : aload Tryz.prog G2 82 (.p (some (H.next, 0, 0))) = some (rdV ((rnext 1048576 (rnext 2147483647 k.2).2).2)) := by simp [aload, T2.rd, rdV]
      simp [init_eq, hld]
      refine ACalls.mono (rdNext_ok G2 ((rnext 1048576 (rnext 2147483647 k.2).2).2) 1073741824) fun r G' ⟨hr, e⟩ => ?_ -- hallmoot/hallmootref11.next
      subst hr e
      simp [afieldAddr, astore, T2.c, T2.rd, T2.nx, V.cells, rdV, AH.get_set, spl_c3, rdC_spl2]
      refine hK _ _ ?_; clear hK K hld
      have T3 := T2.put (rnext 1073741824 ((rnext 1048576 (rnext 2147483647 k.2).2).2)).2 ⟨(k.1 : Nat), ((rnext 2147483647 k.2).1 : Nat), ((rnext 1048576 (rnext 2147483647 k.2).2).1 : Nat), ((rnext 1073741824 (rnext 1048576 (rnext 2147483647 k.2).2).2).1 : Nat), 0, 0, 0#32, 0#32⟩
      generalize (AH.set _ H.next _ : AH) = G3 at T3 ⊢
      clear T2
      refine AW_seq ?_
      refine AW_reg [1, 2, 3, 4, 5] fun K hK => ?_ -- region 8
      have hld : aload Tryz.prog G3 82 (.p (some (H.next, 0, 0))) = some (rdV ((rnext 1073741824 (rnext 1048576 (rnext 2147483647 k.2).2).2).2)) := by simp [aload, T3.rd, rdV]
      simp [init_eq, hld]
      refine ACalls.mono (rdNext_ok G3 ((rnext 1073741824 (rnext 1048576 (rnext 2147483647 k.2).2).2).2) 1023) fun r G' ⟨hr, e⟩ => ?_ -- hallmoot/hallmootref11.next
      subst hr e
      simp [astore, T3.rd, V.cells, rdV, rdC_spl2]
      refine hK _ _ ?_; clear hK K hld
      have T4 := T3.putR (rnext 1023 ((rnext 1073741824 (rnext 1048576 (rnext 2147483647 k.2).2).2).2)).2
      generalize (AH.set _ H.next _ : AH) = G4 at T4 ⊢
      clear T3
      have hb := rnext_le 1023 ((rnext 1073741824 (rnext 1048576 (rnext 2147483647 k.2).2).2).2)
      refine AW_reg [1, 2, 3, 4] fun K hK => ?_ -- region 9
      simp [init_eq, conv_int, wrap_u32 (n := (rnext 1023 ((rnext 1073741824 (rnext 1048576 (rnext 2147483647 k.2).2).2).2)).1) (by omega)]
      rw [u32_nat (n := (rnext 1023 ((rnext 1073741824 (rnext 1048576 (rnext 2147483647 k.2).2).2).2)).1) (by omega)]
      simp [afieldAddr, astore, T4.c, spl_c6, u32_cells]
      refine hK _ _ ?_; clear hK K
      have T5 := T4.putC ⟨(k.1 : Nat), ((rnext 2147483647 k.2).1 : Nat), ((rnext 1048576 (rnext 2147483647 k.2).2).1 : Nat), ((rnext 1073741824 (rnext 1048576 (rnext 2147483647 k.2).2).2).1 : Nat), 0, 0, BitVec.ofNat 32 (rnext 1023 (rnext 1073741824 (rnext 1048576 (rnext 2147483647 k.2).2).2).2).1, 0#32⟩
      exact rend ⟨_, by simp, rfl, T5⟩
    · have g : ¬ 0 < k.1 := by simpa using hc
      have hr1 : rraw1 s = ((0, 0, 0, 0), k.2) := by unfold rraw1; rw [hk, if_neg g]
      rw [hr1]
      exact AW_skip (rend ⟨_, by simp, rfl, T0⟩)
  subst e1
  clear T0
  refine AW_cut (fun ρ G => ρ = ⟨78, [(1, .p (some (H.next, 0, 0))), (2, .p (some (H.next + 1, 0, 0))), (3, .p (some (H.next + 2, 0, 0))), (4, .p (some (H.next + 3, 0, 0)))]⟩ ∧ RTC H G (rraw2 s).2 (mkC k.1 (rraw1 s).1 (rraw2 s).1)) ?_ fun ρ G ⟨e1, T2⟩ => ?_
  · obtain ⟨a, b, c, d, hx⟩ : ∃ a b c d, (rraw1 s).1 = (a, b, c, d) := ⟨_, _, _, _, rfl⟩
    have T1' : RTC H G (rraw1 s).2 ⟨(k.1 : Nat), (a : Nat), (b : Nat), (c : Nat), 0, 0, BitVec.ofNat 32 d, 0#32⟩ := by rw [hx] at T1; exact T1
    clear T1
    rw [hx]
    refine AW_seq ?_
    refine AW_reg [1, 2, 3, 4, 44] fun K hK => ?_ -- region 10
    simp [init_eq, afieldAddr, aload, T1'.c, Cert.cells]
    refine hK _ _ ?_; clear hK K
    refine AW_cond' rfl rfl (fun hc => ?_) (fun hc => ?_)
    · have g : k.1 = 2 := by have : (k.1 : Int) = 2 := by simpa using hc
                             omega
      have hr2 : rraw2 s = rC2 (rraw1 s).2 := by unfold rraw2; rw [hk, if_pos g]
      rw [hr2]
      clear hc hr2
      generalize (rraw1 s).2 = t at *
      refine AW_seq ?_
      refine AW_reg [1, 2, 3, 4] fun K hK => ?_ -- region 11
      have hld : aload Tryz.prog G 82 (.p (some (H.next, 0, 0))) = some (rdV t) := by simp [aload, T1'.rd, rdV]
      simp [init_eq, hld]
      refine ACalls.mono (rdNext_ok G t 3) fun r G' ⟨hr, e⟩ => ?_ -- hallmoot/hallmootref11.next
      subst hr e
      simp [afieldAddr, astore, T1'.c, T1'.rd, T1'.nx, V.cells, rdV, AH.get_set, spl_c4, rdC_spl2]
      refine hK _ _ ?_; clear hK K hld
      have T2 := T1'.put (rnext 3 t).2 ⟨(k.1 : Nat), (a : Nat), (b : Nat), (c : Nat), ((rnext 3 t).1 : Nat), 0, BitVec.ofNat 32 d, 0#32⟩
      generalize (AH.set _ H.next _ : AH) = G1 at T2 ⊢
      clear T1'
      refine AW_seq ?_
      refine AW_reg [1, 2, 3, 4] fun K hK => ?_ -- region 12
      have hld : aload Tryz.prog G1 82 (.p (some (H.next, 0, 0))) = some (rdV ((rnext 3 t).2)) := by simp [aload, T2.rd, rdV]
      simp [init_eq, hld]
      refine ACalls.mono (rdNext_ok G1 ((rnext 3 t).2) 9) fun r G' ⟨hr, e⟩ => ?_ -- hallmoot/hallmootref11.next
      subst hr e
      simp [afieldAddr, astore, T2.c, T2.rd, T2.nx, V.cells, rdV, AH.get_set, spl_c5, rdC_spl2]
      refine hK _ _ ?_; clear hK K hld
      have T3 := T2.put (rnext 9 ((rnext 3 t).2)).2 ⟨(k.1 : Nat), (a : Nat), (b : Nat), (c : Nat), ((rnext 3 t).1 : Nat), ((rnext 9 (rnext 3 t).2).1 : Nat), BitVec.ofNat 32 d, 0#32⟩
      generalize (AH.set _ H.next _ : AH) = G2 at T3 ⊢
      clear T2
      refine AW_seq ?_
      refine AW_reg [1, 2, 3, 4, 5] fun K hK => ?_ -- region 13
      have hld : aload Tryz.prog G2 82 (.p (some (H.next, 0, 0))) = some (rdV ((rnext 9 (rnext 3 t).2).2)) := by simp [aload, T3.rd, rdV]
      simp [init_eq, hld]
      refine ACalls.mono (rdNext_ok G2 ((rnext 9 (rnext 3 t).2).2) 1023) fun r G' ⟨hr, e⟩ => ?_ -- hallmoot/hallmootref11.next
      subst hr e
      simp [astore, T3.rd, V.cells, rdV, rdC_spl2]
      refine hK _ _ ?_; clear hK K hld
      have T4 := T3.putR (rnext 1023 ((rnext 9 (rnext 3 t).2).2)).2
      generalize (AH.set _ H.next _ : AH) = G3 at T4 ⊢
      clear T3
      have hb := rnext_le 1023 ((rnext 9 (rnext 3 t).2).2)
      refine AW_reg [1, 2, 3, 4] fun K hK => ?_ -- region 14
      simp [init_eq, conv_int, wrap_u32 (n := (rnext 1023 ((rnext 9 (rnext 3 t).2).2)).1) (by omega)]
      rw [u32_nat (n := (rnext 1023 ((rnext 9 (rnext 3 t).2).2)).1) (by omega)]
      simp [afieldAddr, astore, T4.c, spl_c7, u32_cells]
      refine hK _ _ ?_; clear hK K
      have T5 := T4.putC ⟨(k.1 : Nat), (a : Nat), (b : Nat), (c : Nat), ((rnext 3 t).1 : Nat), ((rnext 9 (rnext 3 t).2).1 : Nat), BitVec.ofNat 32 d, BitVec.ofNat 32 (rnext 1023 (rnext 9 (rnext 3 t).2).2).1⟩
      exact rend ⟨_, by simp, rfl, T5⟩
    · have g : ¬ k.1 = 2 := fun h => by
        have : ¬ (k.1 : Int) = 2 := by simpa using hc
        omega
      have hr2 : rraw2 s = ((0, 0, 0), (rraw1 s).2) := by unfold rraw2; rw [hk, if_neg g]
      rw [hr2]
      exact AW_skip (rend ⟨_, by simp, rfl, T1'⟩)
  subst e1
  have hrt : rtakeCert s = if (rraw2 s).2.2 ≠ 0 then (Cert.zero, (rraw2 s).2) else if (mkC k.1 (rraw1 s).1 (rraw2 s).1).ok then (mkC k.1 (rraw1 s).1 (rraw2 s).1, (rraw2 s).2) else (Cert.zero, rfail 110 (rraw2 s).2) := by unfold rtakeCert; rw [hk]
  clear T1
  generalize mkC k.1 (rraw1 s).1 (rraw2 s).1 = c at *
  generalize (rraw2 s).2 = t at *
  have hnx := T2.nx
  have hld : aload Tryz.prog G 82 (.p (some (H.next, 0, 0))) = some (rdV t) := by simp [aload, T2.rd, rdV]
  have hlc : aload Tryz.prog G 24 (.p (some (H.next + 3, 0, 0))) = some (.agg c.cells) := by simp [aload, T2.c, take_cells]
  have hs1 : ∀ x : Cert, astore Tryz.prog G 24 (.p (some (H.next + 1, 0, 0))) (.agg x.cells) = some (G.set (H.next + 1) (.cells x.cells 0 false 0)) := fun x => by simp [astore, T2.r1, V.cells, show splice Cert.zero.cells 0 x.cells = x.cells from rfl]
  have hs2 : ∀ (x : Cert) (u : St), astore Tryz.prog (G.set (H.next + 1) (.cells x.cells 0 false 0)) 82 (.p (some (H.next + 2, 0, 0))) (rdV u) = some ((G.set (H.next + 1) (.cells x.cells 0 false 0)).set (H.next + 2) (.cells (rdC u) 0 false 0)) := fun x u => by simp [astore, AH.get_set, T2.r2, V.cells, rdV, rdC_spl2]
  have hend : ∀ (x : Cert) (u : St) (ρ : Env), ρ.get 2 = .p (some (H.next + 1, 0, 0)) → ρ.get 3 = .p (some (H.next + 2, 0, 0)) → (x, u) = rtakeCert s → AEnd Tryz.prog Tryz.f37 (fun r H' => r = .tup [.agg (rtakeCert s).1.cells, rdV (rtakeCert s).2] ∧ V.lt H.next r = true ∧ H.next ≤ H'.next ∧ ∀ j, j < H.next → H'.get j = H.get j) .ret ρ ((G.set (H.next + 1) (.cells x.cells 0 false 0)).set (H.next + 2) (.cells (rdC u) 0 false 0)) := fun x u ρ h1 h2 h3 =>
    end_ret (ares_cc (v := .agg x.cells) (w := rdV u) (by rw [h1]; simp [aload, AH.get_set, hnx, take_cells]) (by rw [h2]; simp [aload, AH.get_set, hnx, rdV])) ⟨by rw [← h3], by rfl, by simp; omega, fun j hj => by rw [AH.get_set_ne (by omega), AH.get_set_ne (by omega)]; exact T2.old j hj⟩
  repeat refine AW_seq ?_
  refine AW_reg [1, 2, 3, 4, 67] fun K hK => ?_ -- region 15
  simp [init_eq, afieldAddr, aload, T2.rd]
  refine hK _ _ ?_; clear hK K
  refine AW_cond' rfl rfl (fun hc => ?_) (fun hc => ?_)
  · have g : ¬ t.2 = 0 := by simpa using hc
    repeat refine AW_seq ?_
    refine AW_regm (.only [H.next]) [2, 3] pl_37_16 pe_37_16 (by kernel_rfl) (by kernel_rfl) (by decide) fun K hK => ?_
    simp [init_eq, pl_37_16, APlan_takem, through, tkOk, rid, hz, hld, hs1, hs2]
    refine ⟨fun _ => by rw [AH.get_set_ne (by omega)], ?_⟩
    refine hK _ _ ?_; clear hK K
    exact AW_ret (hend _ _ _ rfl rfl (by rw [hrt, if_pos g]))
  · have g : t.2 = 0 := by simpa using hc
    refine AW_skip ?_
    repeat refine AW_seq ?_
    refine AW_reg [1, 2, 3, 4, 72] fun K hK => ?_ -- region 17
    simp [init_eq, hlc]
    refine ACalls.mono (rcheck_ok G c) fun r G' ⟨hr, e⟩ => ?_ -- hallmoot/hallmootref11.Check
    subst hr e
    try simp
    refine hK _ _ ?_; clear hK K
    refine AW_cond' rfl rfl (fun hc => ?_) (fun hc => ?_)
    · have g2 : c.ok = false := by simpa using hc
      repeat refine AW_seq ?_
      refine AW_reg [2, 3] fun K hK => ?_ -- region 18
      simp [init_eq, hz, hld]
      refine ACalls.mono (rdFail_ok ..) fun r G' ⟨hr, e⟩ => ?_ -- (hallmoot/hallmootref03.Reader).Fail
      subst hr e
      simp [hs1, hs2]
      refine hK _ _ ?_; clear hK K
      exact AW_ret (hend _ _ _ rfl rfl (by rw [hrt, if_neg (by simp [g]), if_neg (by simp [g2])]))
    · have g2 : c.ok = true := by simpa using hc
      refine AW_skip ?_
      repeat refine AW_seq ?_
      refine AW_regm (.only [H.next, H.next + 3]) [2, 3] pl_37_19 pe_37_19 (by kernel_rfl) (by kernel_rfl) (by decide) fun K hK => ?_
      simp [init_eq, pl_37_19, APlan_takem, through, tkOk, rid, hlc, hld, hs1, hs2]
      refine ⟨⟨fun _ => by rw [AH.get_set_ne (by omega)], fun _ => by rw [AH.get_set_ne (by omega)]⟩, ?_⟩
      refine hK _ _ ?_; clear hK K
      exact AW_ret (hend _ _ _ rfl rfl (by rw [hrt, if_neg (by simp [g]), if_pos g2]))
end Go.Proofs.YtoccjilbfkhmoaaGreatDoor
