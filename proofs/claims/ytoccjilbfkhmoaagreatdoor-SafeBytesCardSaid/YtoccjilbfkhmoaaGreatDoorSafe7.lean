/-
  The document's record of bytes (Parse).
-/
import Derived.Test.YtoccjilbfkhmoaaGreatDoorSafe6
set_option linter.unusedVariables false
set_option linter.unusedSimpArgs false
namespace Go.Proofs.YtoccjilbfkhmoaaGreatDoor
open Go Go.Abs Go.Proofs
set_option maxRecDepth 100000
attribute [local irreducible] AEnd AW ACalls

/-- Under way in hallmootref19.Parse: the result, the reader, the record. -/
structure SD (H G : AH) (s : St) (x : SRec) : Prop where
  zz : G.get H.next = some (.cells SRec.zero.cells 0 false 0)
  rr : G.get (H.next + 1) = some (.cells (rdC s) 0 false 0)
  xx : G.get (H.next + 2) = some (.cells x.cells 0 false 0)
  nx : H.next + 3 ≤ G.next
  old : ∀ j, j < H.next → G.get j = H.get j
theorem SD.set {H G : AH} {s : St} {x : SRec} (h : SD H G s x) (y : SRec) : SD H (G.set (H.next + 2) (.cells y.cells 0 false 0)) s y := by
  have hn := h.nx
  refine ⟨?_, ?_, ?_, hn, fun j hj => ?_⟩
  · rw [AH.get_set_ne (by omega)]; exact h.zz
  · rw [AH.get_set_ne (by omega)]; exact h.rr
  · simp [AH.get_set]; omega
  · rw [AH.get_set_ne (by omega)]; exact h.old j hj
theorem SD.rd {H G : AH} {s : St} {x : SRec} (h : SD H G s x) (t : St) : SD H (G.set (H.next + 1) (.cells (rdC t) 0 false 0)) t x := by
  have hn := h.nx
  refine ⟨?_, ?_, ?_, hn, fun j hj => ?_⟩
  · rw [AH.get_set_ne (by omega)]; exact h.zz
  · simp [AH.get_set]; omega
  · rw [AH.get_set_ne (by omega)]; exact h.xx
  · rw [AH.get_set_ne (by omega)]; exact h.old j hj
theorem SD.upd {H G G' : AH} {s : St} {x : SRec} (h : SD H G s x) (u : Upd G G' []) : SD H G' s x := by
  refine ⟨u.keep (by simp) h.zz, u.keep (by simp) h.rr, u.keep (by simp) h.xx, Nat.le_trans h.nx u.1, fun j hj => ?_⟩
  rw [u.2 j (by have := h.nx; omega) (by simp), h.old j hj]
set_option maxHeartbeats 16000000 in
theorem rsparse_ok (H : AH) (l : List UInt8) : ACalls Tryz.prog 11 [.s l] H fun v H' => v = .tup [.agg (dparseRec l).1.cells, .i .i64 (dparseRec l).2] ∧ H' = H := by
  refine ACalls.pure (Q := fun v => v = .tup [.agg (dparseRec l).1.cells, .i .i64 (dparseRec l).2]) ⟨_, Tryz.func11, rfl, rfl⟩ ?_
  refine ACalls_body Tryz.func11 rfl rfl ?_
  have hbr : abuild Tryz.prog 82 [(0, .s l)] = some (rdV (l, 0)) := by simp [abuild, afill, V.cells, splice, rdV, rdC]
  refine AW_seq ?_
  refine AW_reg [0, 2] fun K hK => ?_ -- region 0
  simp [init_eq, V.cells]
  refine hK _ _ ?_; clear hK K
  refine AW_seq ?_
  refine AW_reg [2, 4] fun K hK => ?_ -- region 1
  simp [init_eq, hbr, rdV, V.cells, astore, AH.get_new]
  refine hK _ _ ?_; clear hK K
  generalize hGa : AH.set _ _ _ = Ga
  have a1 : Ga.get H.next = some (.cells SRec.zero.cells 0 false 0) := by rw [← hGa]; simp [AH.get_set, AH.get_new]; rfl
  have a2 : Ga.get (H.next + 1) = some (.cells (rdC (l, 0)) 0 false 0) := by rw [← hGa]; simp [AH.get_set]; exact splice_all rfl
  have an : Ga.next = H.next + 2 := by rw [← hGa]; rfl
  have ao : ∀ j, j < H.next → Ga.get j = H.get j := fun j hj => by rw [← hGa, AH.get_set_ne (by simp; omega), AH.get_new, if_neg (by simp; omega), AH.get_new, if_neg (by omega)]
  clear hGa
  refine AW_seq ?_
  refine AW_reg [2, 4, 5] fun K hK => ?_ -- region 2
  simp [init_eq, bzero, V.cells, astore, AH.get_new]
  refine hK _ _ ?_; clear hK K
  generalize hG0 : AH.set _ _ _ = G0
  have T0 : SD H G0 (l, 0) SRec.zero := by
    refine ⟨?_, ?_, ?_, ?_, fun j hj => ?_⟩
    · rw [← hG0, AH.get_set_ne (by omega), AH.get_new, if_neg (by omega)]; exact a1
    · rw [← hG0, AH.get_set_ne (by omega), AH.get_new, if_neg (by omega)]; exact a2
    · rw [← hG0, ← an]; simp [AH.get_set]; exact splice_all rfl
    · rw [← hG0]; simp; omega
    · rw [← hG0, AH.get_set_ne (by omega), AH.get_new, if_neg (by omega)]; exact ao j hj
  rw [an]
  clear hG0 a1 a2 an ao Ga
  have fr : ∀ k o n b, qfield Tryz.prog 26 k = some (o, n + 1, b) → afieldAddr Tryz.prog 26 k (.p (some (H.next + 2, 0, 0))) = some (.p (some (H.next + 2, 0, o))) := fun k o n b hq => by simp [afieldAddr, hq]
  have f0 := fr 0 0 0 false (by simp)
  have f1 := fr 1 1 7 true (by simp)
  have f2 := fr 2 9 7 true (by simp)
  have f3 := fr 3 17 0 false (by simp)
  have f4 := fr 4 18 0 false (by simp)
  have f5 := fr 5 19 0 false (by simp)
  have f6 := fr 6 20 0 false (by simp)
  have f7 := fr 7 21 0 false (by simp)
  clear fr
  have ldr : ∀ {X : AH} {s : St} {x : SRec}, SD H X s x → aload Tryz.prog X 82 (.p (some (H.next + 1, 0, 0))) = some (rdV s) := fun h => by simp [aload, h.rr, rdV]
  have str : ∀ {X : AH} {s : St} {x : SRec} (t : St), SD H X s x → astore Tryz.prog X 82 (.p (some (H.next + 1, 0, 0))) (rdV t) = some (X.set (H.next + 1) (.cells (rdC t) 0 false 0)) := fun t h => by
    simp [astore, h.rr, rdV]
    first | done | exact congrArg (fun x => AH.set _ (H.next + 1) (.cells x 0 false 0)) (splice_all rfl)
  have st0 : ∀ {X : AH} {s : St} {x : SRec} (c : Int), SD H X s x → astore Tryz.prog X 3 (.p (some (H.next + 2, 0, 0))) (.i .i64 c) = some (X.set (H.next + 2) (.cells ({ x with kind := c } : SRec).cells 0 false 0)) := fun c h => by simp [astore, h.xx, vc_i, SRec.w0]
  have stC : ∀ {X : AH} {s : St} {x : SRec} (c : Cert), SD H X s x → astore Tryz.prog X 24 (.p (some (H.next + 2, 0, 1))) (.agg c.cells) = some (X.set (H.next + 2) (.cells ({ x with cert := c } : SRec).cells 0 false 0)) := fun c h => by simp [astore, h.xx, SRec.w1]
  have stP : ∀ {X : AH} {s : St} {x : SRec} (c : Cert), SD H X s x → astore Tryz.prog X 24 (.p (some (H.next + 2, 0, 9))) (.agg c.cells) = some (X.set (H.next + 2) (.cells ({ x with parent := c } : SRec).cells 0 false 0)) := fun c h => by simp [astore, h.xx, SRec.w9]
  have st17 : ∀ {X : AH} {s : St} {x : SRec} (c : BitVec 32), SD H X s x → astore Tryz.prog X 22 (.p (some (H.next + 2, 0, 17))) (u32 c) = some (X.set (H.next + 2) (.cells ({ x with set := c } : SRec).cells 0 false 0)) := fun c h => by simp [astore, h.xx, SRec.w17]
  have st18 : ∀ {X : AH} {s : St} {x : SRec} (c : Int), SD H X s x → astore Tryz.prog X 3 (.p (some (H.next + 2, 0, 18))) (.i .i64 c) = some (X.set (H.next + 2) (.cells ({ x with author := c } : SRec).cells 0 false 0)) := fun c h => by simp [astore, h.xx, vc_i, SRec.w18]
  have st19 : ∀ {X : AH} {s : St} {x : SRec} (c : Int), SD H X s x → astore Tryz.prog X 3 (.p (some (H.next + 2, 0, 19))) (.i .i64 c) = some (X.set (H.next + 2) (.cells ({ x with count := c } : SRec).cells 0 false 0)) := fun c h => by simp [astore, h.xx, vc_i, SRec.w19]
  have st20 : ∀ {X : AH} {s : St} {x : SRec} (c : Int), SD H X s x → astore Tryz.prog X 3 (.p (some (H.next + 2, 0, 20))) (.i .i64 c) = some (X.set (H.next + 2) (.cells ({ x with block := c } : SRec).cells 0 false 0)) := fun c h => by simp [astore, h.xx, vc_i, SRec.w20]
  have st21 : ∀ {X : AH} {s : St} {x : SRec} (c : List UInt8), SD H X s x → astore Tryz.prog X 9 (.p (some (H.next + 2, 0, 21))) (.s c) = some (X.set (H.next + 2) (.cells ({ x with text := c } : SRec).cells 0 false 0)) := fun c h => by simp [astore, h.xx, vc_s, SRec.w21]
  refine AW_seq ?_
  refine AW_reg [2, 4, 5] fun K hK => ?_ -- region 3
  simp [init_eq]
  refine hK _ _ ?_; clear hK K
  have hps : dparseRec l = pfin (dbody (rnum (l, 0)).1 (rnum (l, 0)).2) := rfl
  rw [hps]
  refine AW_seq ?_
  refine AW_reg [2, 4, 5] fun K hK => ?_ -- region 4
  simp [init_eq, ldr T0]
  refine ACalls.mono (rrnum_ok G0 (l, 0)) fun v G ⟨hr, e⟩ => ?_ -- hallmootref19.num
  subst hr e
  have T1 := T0.set { SRec.zero with kind := ((rnum (l, 0)).1 : Nat) }
  simp [f0, st0 _ T0, str _ T1]
  refine hK _ _ ?_; clear hK K
  have T2 := T1.rd (rnum (l, 0)).2
  generalize AH.set (AH.set G _ _) _ _ = G2 at T2 ⊢
  clear T0 T1 hps hbr
  generalize ((rnum (l, 0)).1 : Int) = k at *
  generalize (rnum (l, 0)).2 = s at *
  -- the end, behind the body
  refine AW_cut (fun ρ X => ρ = ⟨93, [(2, .p (some (H.next, 0, 0))), (4, .p (some (H.next + 1, 0, 0))), (5, .p (some (H.next + 2, 0, 0)))]⟩ ∧ SD H X (dbody k s).2 (dbody k s).1) ?_ ?_
  rotate_left
  · rintro ρ X ⟨rfl, T⟩
    generalize dbody k s = q at T ⊢
    obtain ⟨x, w⟩ := q
    simp only at T
    have hn := T.nx
    have stZ : ∀ (y : SRec), astore Tryz.prog X 26 (.p (some (H.next, 0, 0))) (.agg y.cells) = some (X.set H.next (.cells y.cells 0 false 0)) := fun y => by
      simp [astore, T.zz, SRec.wall]
    have fin : ∀ (y : SRec) (e : Int), pfin (x, w) = (y, e) → AEnd Tryz.prog Tryz.f11 (fun r H' => r = .tup [.agg (pfin (x, w)).1.cells, .i .i64 (pfin (x, w)).2] ∧ V.lt H.next r = true ∧ H.next ≤ H'.next ∧ ∀ j, j < H.next → H'.get j = H.get j) .ret ⟨93, [(2, .p (some (H.next, 0, 0))), (3, .i .i64 e)]⟩ (X.set H.next (.cells y.cells 0 false 0)) := fun y e he => by
      have hlt : H.next < X.next := AH.get_lt T.zz
      refine end_ret (ares_cell_tmp (v := .agg y.cells) ?_) ⟨by rw [he]; rfl, by simp, by simp; omega, fun j hj => by rw [AH.get_set_ne (by omega)]; exact T.old j hj⟩
      show aload _ _ _ (.p (some (H.next, 0, 0))) = _
      simp [aload, AH.get_set, hlt, SRec.take]
    repeat refine AW_seq ?_
    refine AW_reg [2, 5, 7] fun K hK => ?_ -- region 22
    simp [init_eq, ldr T]
    refine ACalls.mono (rdDone_ok X w) fun r Y ⟨hr, e⟩ => ?_ -- Reader.Done
    subst hr e
    try simp
    refine hK _ _ ?_; clear hK K
    repeat refine AW_seq ?_
    refine AW_reg [2, 5, 7, 85] fun K hK => ?_ -- region 23
    simp [init_eq]
    refine hK _ _ ?_; clear hK K
    refine AW_cond' rfl rfl (fun hc => ?_) (fun hc => ?_)
    · have k1 : ¬ rdone w = 0 := by simpa using hc
      repeat refine AW_seq ?_
      refine AW_reg [2, 3] fun K hK => ?_ -- region 24
      simp [init_eq, bzero, stZ SRec.zero]
      refine hK _ _ ?_; clear hK K
      exact AW_ret (fin _ _ (by unfold pfin; simp only [if_neg k1]))
    have k1 : rdone w = 0 := by simpa using hc
    have ldx : aload Tryz.prog Y 26 (.p (some (H.next + 2, 0, 0))) = some (.agg x.cells) := by simp [aload, T.xx, SRec.take]
    refine AW_skip ?_
    repeat refine AW_seq ?_
    refine AW_reg [2, 5, 90] fun K hK => ?_ -- region 25
    simp [init_eq, ldx]
    refine ACalls.mono (rform_ok Y x) fun r Z ⟨hr, e⟩ => ?_ -- hallmootref19.Form
    subst hr e
    try simp
    refine hK _ _ ?_; clear hK K
    refine AW_cond' rfl rfl (fun hc => ?_) (fun hc => ?_)
    · have k2 : ¬ x.form = 0 := by simpa using hc
      repeat refine AW_seq ?_
      refine AW_reg [2, 3] fun K hK => ?_ -- region 26
      simp [init_eq, bzero, stZ SRec.zero]
      refine hK _ _ ?_; clear hK K
      exact AW_ret (fin _ _ (by unfold pfin; simp only [if_pos k1, if_neg k2]))
    · have k2 : x.form = 0 := by simpa using hc
      refine AW_skip ?_
      repeat refine AW_seq ?_
      refine AW_reg [2, 3] fun K hK => ?_ -- region 27
      simp [init_eq, ldx, stZ x]
      refine hK _ _ ?_; clear hK K
      exact AW_ret (fin _ _ (by unfold pfin; simp only [if_pos k1, if_pos k2]))
  refine AW_seq ?_
  refine AW_reg [2, 4, 5, 18] fun K hK => ?_ -- region 5
  simp [init_eq, f0, rec_at T2.xx]
  refine hK _ _ ?_; clear hK K
  rcases kinds k with hk | hk | hk | hk | hk | hk | hk | hk | hk | hk | hk
  case inl | inr.inr.inr.inl =>
    all_goals
      have hkc : kclass k = .cc := by rw [hk]; rfl
      have hb : dbody k s = ({ SRec.zero with kind := k, cert := (rtakeCert s).1, parent := (rtakeCert (rtakeCert s).2).1 }, (rtakeCert (rtakeCert s).2).2) := by unfold dbody; rw [hkc]
      rw [hb]
      repeat (first
        | refine AW_seq ?_
        | refine AW_block ?_
        | refine AW_skip ?_
        | refine AW_condT rfl ?_
        | refine AW_condF rfl ?_
        | (refine AW_reg [2, 4, 5, 18, 19, 34, 42, 59, 73] fun K hK => ?_
           simp [init_eq, hk]
           refine hK _ _ ?_; clear hK K))
      refine AW_reg [2, 4, 5] fun K hK => ?_ -- region 8
      simp [init_eq, ldr T2]
      refine ACalls.mono (rdCert_ok G2 s) fun v G3 ⟨hr, e⟩ => ?_ -- hallmootref11.Take
      subst hr e
      have T3 := T2.set { SRec.zero with kind := k, cert := (rtakeCert s).1 }
      simp [f1, stC _ T2, str _ T3]
      refine hK _ _ ?_; clear hK K
      have T4 := T3.rd (rtakeCert s).2
      generalize AH.set (AH.set G3 _ _) _ _ = G4 at T4 ⊢
      refine AW_reg [2, 4, 5] fun K hK => ?_ -- region 9
      simp [init_eq, ldr T4]
      refine ACalls.mono (rdCert_ok G4 (rtakeCert s).2) fun v G5 ⟨hr, e⟩ => ?_ -- hallmootref11.Take
      subst hr e
      have T5 := T4.set { SRec.zero with kind := k, cert := (rtakeCert s).1, parent := (rtakeCert (rtakeCert s).2).1 }
      simp [f2, stP _ T4, str _ T5]
      refine hK _ _ ?_; clear hK K
      exact bend (rend ⟨_, by simp, rfl, T5.rd _⟩)
  case inr.inr.inr.inr.inl =>
    have hkc : kclass k = .c := by rw [hk]; rfl
    have hb : dbody k s = ({ SRec.zero with kind := k, cert := (rtakeCert s).1 }, (rtakeCert s).2) := by unfold dbody; rw [hkc]
    rw [hb]
    repeat (first
      | refine AW_seq ?_
      | refine AW_block ?_
      | refine AW_skip ?_
      | refine AW_condT rfl ?_
      | refine AW_condF rfl ?_
      | (refine AW_reg [2, 4, 5, 18, 19, 34, 42, 59, 73] fun K hK => ?_
         simp [init_eq, hk]
         refine hK _ _ ?_; clear hK K))
    refine AW_reg [2, 4, 5] fun K hK => ?_ -- region 11
    simp [init_eq, ldr T2]
    refine ACalls.mono (rdCert_ok G2 s) fun v G3 ⟨hr, e⟩ => ?_ -- hallmootref11.Take
    subst hr e
    have T3 := T2.set { SRec.zero with kind := k, cert := (rtakeCert s).1 }
    simp [f1, stC _ T2, str _ T3]
    refine hK _ _ ?_; clear hK K
    exact bend (rend ⟨_, by simp, rfl, T3.rd _⟩)
  case inr.inr.inr.inr.inr.inr.inl =>
    have hkc : kclass k = .sa := by rw [hk]; rfl
    have hb : dbody k s = ({ SRec.zero with kind := k, set := BitVec.ofNat 32 (min (rnum s).1 1024), author := (rnum (rnum s).2).1 }, (rnum (rnum s).2).2) := by unfold dbody; rw [hkc]
    rw [hb]
    repeat (first
      | refine AW_seq ?_
      | refine AW_block ?_
      | refine AW_skip ?_
      | refine AW_condT rfl ?_
      | refine AW_condF rfl ?_
      | (refine AW_reg [2, 4, 5, 18, 19, 34, 42, 59, 73] fun K hK => ?_
         simp [init_eq, hk]
         refine hK _ _ ?_; clear hK K))
    refine AW_reg [2, 4, 5, 6] fun K hK => ?_ -- region 13
    simp [init_eq, ldr T2]
    refine ACalls.mono (rrnum_ok G2 s) fun v G3 ⟨hr, e⟩ => ?_ -- hallmootref19.num
    subst hr e
    simp [str _ T2]
    refine hK _ _ ?_; clear hK K
    have T3 := T2.rd (rnum s).2
    generalize AH.set G3 _ _ = G4 at T3 ⊢
    have hmin : amin2 (.i .i64 ((rnum s).1 : Int)) (.i .i64 1024) = some (.i .i64 ((min (rnum s).1 1024 : Nat) : Int)) := by
      by_cases c : (rnum s).1 ≤ 1024
      · rw [Nat.min_eq_left c]
        have : ¬ (1024 : Int) < ((rnum s).1 : Int) := by omega
        simp [amin2, this]
      · rw [Nat.min_eq_right (by omega)]
        have : (1024 : Int) < ((rnum s).1 : Int) := by omega
        simp [amin2, this]
    have hcv : aconvert Tryz.prog G4 3 22 (.i .i64 ((min (rnum s).1 1024 : Nat) : Int)) = some (u32 (BitVec.ofNat 32 (min (rnum s).1 1024)), G4) := by
      rw [conv_int qthere_3 qint_22, wrap_u32 (by omega)]
      unfold u32
      rw [BitVec.toNat_ofNat, Nat.mod_eq_of_lt (by omega)]
    refine AW_seq ?_
    refine AW_reg [2, 4, 5] fun K hK => ?_ -- region 14
    simp [init_eq, hmin, hcv, f3, st17 _ T3]
    refine hK _ _ ?_; clear hK K
    have T4 := T3.set { SRec.zero with kind := k, set := BitVec.ofNat 32 (min (rnum s).1 1024) }
    generalize AH.set G4 _ _ = G5 at T4 ⊢
    refine AW_reg [2, 4, 5] fun K hK => ?_ -- region 15
    simp [init_eq, ldr T4]
    refine ACalls.mono (rrnum_ok G5 (rnum s).2) fun v G6 ⟨hr, e⟩ => ?_ -- hallmootref19.num
    subst hr e
    have T5 := T4.set { SRec.zero with kind := k, set := BitVec.ofNat 32 (min (rnum s).1 1024), author := (rnum (rnum s).2).1 }
    simp [f4, st18 _ T4, str _ T5]
    refine hK _ _ ?_; clear hK K
    exact bend (rend ⟨_, by simp, rfl, T5.rd _⟩)
  case inr.inr.inr.inr.inr.inr.inr.inl =>
    have hkc : kclass k = .nb := by rw [hk]; rfl
    have hb : dbody k s = ({ SRec.zero with kind := k, count := (rnum s).1, block := (rnum (rnum s).2).1 }, (rnum (rnum s).2).2) := by unfold dbody; rw [hkc]
    rw [hb]
    repeat (first
      | refine AW_seq ?_
      | refine AW_block ?_
      | refine AW_skip ?_
      | refine AW_condT rfl ?_
      | refine AW_condF rfl ?_
      | (refine AW_reg [2, 4, 5, 18, 19, 34, 42, 59, 73] fun K hK => ?_
         simp [init_eq, hk]
         refine hK _ _ ?_; clear hK K))
    refine AW_reg [2, 4, 5] fun K hK => ?_ -- region 17
    simp [init_eq, ldr T2]
    refine ACalls.mono (rrnum_ok G2 s) fun v G3 ⟨hr, e⟩ => ?_ -- hallmootref19.num
    subst hr e
    have T3 := T2.set { SRec.zero with kind := k, count := (rnum s).1 }
    simp [f5, st19 _ T2, str _ T3]
    refine hK _ _ ?_; clear hK K
    have T4 := T3.rd (rnum s).2
    generalize AH.set (AH.set G3 _ _) _ _ = G4 at T4 ⊢
    refine AW_reg [2, 4, 5] fun K hK => ?_ -- region 18
    simp [init_eq, ldr T4]
    refine ACalls.mono (rrnum_ok G4 (rnum s).2) fun v G5 ⟨hr, e⟩ => ?_ -- hallmootref19.num
    subst hr e
    have T5 := T4.set { SRec.zero with kind := k, count := (rnum s).1, block := (rnum (rnum s).2).1 }
    simp [f6, st20 _ T4, str _ T5]
    refine hK _ _ ?_; clear hK K
    exact bend (rend ⟨_, by simp, rfl, T5.rd _⟩)
  case inr.inr.inr.inr.inr.inr.inr.inr.inl | inr.inr.inr.inr.inr.inr.inr.inr.inr.inl =>
    all_goals
      have hkc : kclass k = .tx := by rw [hk]; rfl
      have hb : dbody k s = ({ SRec.zero with kind := k, text := (rtext s).1 }, (rtext s).2) := by unfold dbody; rw [hkc]
      rw [hb]
      repeat (first
        | refine AW_seq ?_
        | refine AW_block ?_
        | refine AW_skip ?_
        | refine AW_condT rfl ?_
        | refine AW_condF rfl ?_
        | (refine AW_reg [2, 4, 5, 18, 19, 34, 42, 59, 73] fun K hK => ?_
           simp [init_eq, hk]
           refine hK _ _ ?_; clear hK K))
      refine AW_reg [2, 4, 5] fun K hK => ?_ -- region 21
      simp [init_eq, ldr T2]
      refine ACalls.mono (rdText_ok G2 s) fun v G3 ⟨hr, e⟩ => ?_ -- Reader.Text
      subst hr e
      have T3 := T2.set { SRec.zero with kind := k, text := (rtext s).1 }
      simp [f7, st21 _ T2, str _ T3]
      refine hK _ _ ?_; clear hK K
      exact bend (rend ⟨_, by simp, rfl, T3.rd _⟩)
  all_goals
    have hb : dbody k s = ({ SRec.zero with kind := k }, s) := by
      unfold dbody
      first
        | (rw [hk]; rfl)
        | (rw [kclass_bad hk])
    rw [hb]
    have h1 : ¬ k = 1 := by omega
    have h4 : ¬ k = 4 := by omega
    have h5 : ¬ k = 5 := by omega
    have h7 : ¬ k = 7 := by omega
    have h8 : ¬ k = 8 := by omega
    have h9 : ¬ k = 9 := by omega
    have h10 : ¬ k = 10 := by omega
    clear hk
    repeat (first
      | refine AW_seq ?_
      | refine AW_block ?_
      | refine AW_skip ?_
      | refine AW_condT rfl ?_
      | refine AW_condF rfl ?_
      | (refine AW_reg [2, 4, 5, 18, 19, 34, 42, 59, 73] fun K hK => ?_
         simp [init_eq, h1, h4, h5, h7, h8, h9, h10]
         refine hK _ _ ?_; clear hK K))
    exact bend (rend ⟨_, by simp, rfl, T2⟩)
end Go.Proofs.YtoccjilbfkhmoaaGreatDoor
