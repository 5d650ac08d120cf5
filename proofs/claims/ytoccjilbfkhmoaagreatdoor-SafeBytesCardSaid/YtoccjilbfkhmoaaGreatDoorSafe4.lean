/-
  Package safe: the record of bytes (Parse).
-/
import Derived.Test.YtoccjilbfkhmoaaGreatDoorSafe3
set_option linter.unusedVariables false
set_option linter.unusedSimpArgs false
namespace Go.Proofs.YtoccjilbfkhmoaaGreatDoor
open Go Go.Abs Go.Proofs
set_option maxRecDepth 100000
attribute [local irreducible] AEnd AW ACalls

theorem conv_u32 (G : AH) (n : Nat) (h : n < 4294967296) : aconvert Tryz.prog G 3 22 (.i .i64 (n : Int)) = some (u32 (BitVec.ofNat 32 n), G) := by
  rw [conv_int qthere_3 qint_22, wrap_u32 h]
  unfold u32
  rw [BitVec.toNat_ofNat, Nat.mod_eq_of_lt h]
theorem psmall_ok {H0 H : AH} {id pc : Nat} {s : St} (h : Rd H0 H id s) (hp : H.get pc = some (.cells [.p (some (id, 0, 0))] 0 false 0)) :
    ACalls Tryz.prog 31 [.p (some (pc, 0, 0))] H fun r H' => r = .i .i64 ((rsmall s).1 : Nat) ∧ Rd H0 H' id (rsmall s).2 ∧ Upd H H' [id] := by
  refine ACalls_body Tryz.func31 rfl rfl ?_
  refine AW_seq ?_
  refine AW_reg [0] fun K hK => ?_ -- region 0
  simp [init_eq]
  refine hK _ _ ?_; clear hK K
  refine AW_seq ?_
  refine AW_reg [1] fun K hK => ?_ -- region 1
  simp [init_eq, aload, hp]
  refine ACalls.mono (rdnum_ok h) fun r H1 ⟨hr, h1, u1⟩ => ?_ -- (*hallmoot/wire.Reader).Num
  subst hr
  by_cases k1 : (rnum s).1 ≤ 1099511627776
  · have e : (rsmall s).1 = (rnum s).1 := Nat.min_eq_left k1
    have k2 : ¬ (1099511627776 : Int) < ((rnum s).1 : Int) := by omega
    simp [amin2, k2]
    refine hK _ _ ?_; clear hK K
    refine AW_ret (end_ret rfl ?_)
    rw [e]
    exact ⟨rfl, h1, u1⟩
  · have e : (rsmall s).1 = 1099511627776 := Nat.min_eq_right (by omega)
    have k2 : (1099511627776 : Int) < ((rnum s).1 : Int) := by omega
    simp [amin2, k2]
    refine hK _ _ ?_; clear hK K
    refine AW_ret (end_ret rfl ?_)
    rw [e]
    exact ⟨rfl, h1, u1⟩
/-- Under way in safe.Parse. -/
structure SP (H0 H G : AH) (id pc xid : Nat) (s : St) (x : SRec) : Prop where
  rd : Rd H0 G id s
  pp : G.get pc = some (.cells [.p (some (id, 0, 0))] 0 false 0)
  xx : G.get xid = some (.cells x.cells 0 false 0)
  zz : G.get H.next = some (.cells SRec.zero.cells 0 false 0)
  upd : Upd H G []
  o1 : H.next < id
  o2 : id < pc
  o3 : pc < xid
theorem SP.rest {H0 H G G' : AH} {id pc xid : Nat} {s s' : St} {x : SRec} (h : SP H0 H G id pc xid s x) (hr : Rd H0 G' id s') (u : Upd G G' [id]) : SP H0 H G' id pc xid s' x := by
  have a := h.o1; have b := h.o2; have c := h.o3
  exact ⟨hr, u.keep (by simp; omega) h.pp, u.keep (by simp; omega) h.xx, u.keep (by simp; omega) h.zz, h.upd.trans u (fun j hj => .inr (by simp at hj; omega)), a, b, c⟩
theorem SP.set {H0 H G : AH} {id pc xid : Nat} {s : St} {x : SRec} (h : SP H0 H G id pc xid s x) (y : SRec) : SP H0 H (G.set xid (.cells y.cells 0 false 0)) id pc xid s y := by
  have a := h.o1; have b := h.o2; have c := h.o3
  have hn := AH.get_lt h.xx
  have u : Upd G (G.set xid (.cells y.cells 0 false 0)) [xid] := Upd.set _ _ _ (by simp)
  refine ⟨h.rd.upd u (fun j hj => by simp at hj; omega), u.keep (by simp; omega) h.pp, ?_, u.keep (by simp; omega) h.zz, h.upd.trans u (fun j hj => .inr (by simp at hj; omega)), a, b, c⟩
  simp [AH.get_set]; omega
set_option maxHeartbeats 8000000 in
theorem sparse_ok (H : AH) {v : V} {l : List UInt8} (hv : Sl H v 1 (bytesV l)) (hl : l.length ≤ 100000000000) :
    ACalls Tryz.prog 10 [v] H fun r H' => r = .tup [.agg (parseRec l).1.cells, .i .i64 (parseRec l).2] ∧ Upd H H' [] := by
  refine ACalls_body Tryz.func10 rfl rfl ?_
  refine AW_seq ?_
  refine AW_reg [0, 2] fun K hK => ?_ -- region 0
  simp [init_eq, V.cells]
  refine hK _ _ ?_; clear hK K
  obtain ⟨G, e1, g1, gn, go⟩ := H.boxed SRec.zero.cells
  show AThen _ _ _ _ (H.new (O.cells SRec.zero.cells 0 false 0))
  rw [e1]
  have u0 : Upd H G [] := ⟨by omega, fun j hj _ => go j hj⟩
  refine AW_seq ?_
  refine AW_reg [2, 4] fun K hK => ?_ -- region 1
  simp [init_eq]
  refine ACalls.mono (rdnew_ok G (hv.ext u0.ext) hl) fun r G1 hr => ?_ -- hallmoot/wire.New
  obtain ⟨H0, id, rfl, h1, u1, lid⟩ := hr
  have g2 := u1.keep (by simp) g1
  simp [V.cells, astore, AH.get_new]
  refine hK _ _ ?_; clear hK K
  generalize hG2 : AH.set _ G1.next _ = G2
  have u2 : Upd G1 G2 [] := by
    rw [← hG2]
    exact ⟨by simp, fun j hj _ => by rw [AH.get_set_ne (by omega), AH.get_new, if_neg (by omega)]⟩
  have pp2 : G2.get G1.next = some (.cells [.p (some (id, 0, 0))] 0 false 0) := by rw [← hG2]; simp [AH.get_set, splice]
  clear hG2
  have h2 := h1.upd u2 (by simp)
  have z2 := u2.keep (by simp) g2
  have hid := h1.mem
  have uH2 : Upd H G2 [] := (u0.trans u1 (by simp)).trans u2 (by simp)
  generalize hpc : G1.next = pc at *
  refine AW_seq ?_
  refine AW_reg [2, 4, 5] fun K hK => ?_ -- region 2
  simp [init_eq, evs]
  refine hK _ _ ?_; clear hK K
  refine AW_seq ?_
  refine AW_reg [2, 4, 5, 6] fun K hK => ?_ -- region 3
  simp [init_eq, AOp_callv (f := 31) (first := []) (caps := [.p (some (pc, 0, 0))])]
  refine ACalls.mono (psmall_ok h2 pp2) fun r G3 ⟨hr, h3, u3⟩ => ?_ -- safe.Parse$1
  subst hr
  have hz : ∀ n : Int, abuild Tryz.prog 33 [(0, .i .i64 n)] = some (.agg ({ SRec.zero with kind := n } : SRec).cells) := fun n => by simp [abuild, afill, V.cells, splice]; rfl
  have p3 := u3.keep (by simp; omega) pp2
  have z3 := u3.keep (by simp; omega) z2
  simp [hz, V.cells, astore, AH.get_new]
  refine hK _ _ ?_; clear hK K
  generalize hG4 : AH.set _ G3.next _ = G4
  have u4 : Upd G3 G4 [] := by
    rw [← hG4]
    exact ⟨by simp, fun j hj _ => by rw [AH.get_set_ne (by omega), AH.get_new, if_neg (by omega)]⟩
  have x4 : G4.get G3.next = some (.cells ({ SRec.zero with kind := ((rsmall (l, 0)).1 : Nat) } : SRec).cells 0 false 0) := by rw [← hG4]; simp [AH.get_set]; exact splice_all rfl
  clear hG4
  have hpc3 := AH.get_lt p3
  have T0 : SP H0 H G4 id pc G3.next (rsmall (l, 0)).2 { SRec.zero with kind := ((rsmall (l, 0)).1 : Nat) } :=
    ⟨h3.upd u4 (by simp), u4.keep (by simp) p3, x4, u4.keep (by simp) z3, (uH2.trans u3 (fun j hj => .inr (by simp at hj; omega))).trans u4 (by simp), by omega, by omega, hpc3⟩
  have hps : parseRec l = pfin (pbody (rsmall (l, 0)).1 (rsmall (l, 0)).2) := rfl
  rw [hps]
  have hs32 : (rsmall (l, 0)).2.2 ≠ 32 := rnum_32 (s := (l, 0)) (show (0 : Int) ≠ 32 by decide)
  generalize hxid : G3.next = xid at *
  generalize ((rsmall (l, 0)).1 : Int) = k at *
  generalize (rsmall (l, 0)).2 = s at *
  clear hps hid h3 u3 p3 z3 u4 x4 hpc3 uH2 h2 z2 pp2 u2 g2 h1 u1 lid u0 e1 g1 gn go hxid hpc
  have f0 : afieldAddr Tryz.prog 33 0 (.p (some (xid, 0, 0))) = some (.p (some (xid, 0, 0))) ∧ afieldAddr Tryz.prog 33 1 (.p (some (xid, 0, 0))) = some (.p (some (xid, 0, 1))) ∧ afieldAddr Tryz.prog 33 2 (.p (some (xid, 0, 0))) = some (.p (some (xid, 0, 9))) ∧
      afieldAddr Tryz.prog 33 3 (.p (some (xid, 0, 0))) = some (.p (some (xid, 0, 17))) ∧ afieldAddr Tryz.prog 33 4 (.p (some (xid, 0, 0))) = some (.p (some (xid, 0, 18))) ∧ afieldAddr Tryz.prog 33 5 (.p (some (xid, 0, 0))) = some (.p (some (xid, 0, 19))) ∧
      afieldAddr Tryz.prog 33 6 (.p (some (xid, 0, 0))) = some (.p (some (xid, 0, 20))) ∧ afieldAddr Tryz.prog 33 7 (.p (some (xid, 0, 0))) = some (.p (some (xid, 0, 21))) := by simp [afieldAddr]
  have ldp : ∀ {X : AH} {s' : St} {x : SRec}, SP H0 H X id pc xid s' x → aload Tryz.prog X 74 (.p (some (pc, 0, 0))) = some (.p (some (id, 0, 0))) := fun h => by simp [aload, h.pp]
  have stC : ∀ {X : AH} {s' : St} {x : SRec} (c : Cert), SP H0 H X id pc xid s' x → astore Tryz.prog X 24 (.p (some (xid, 0, 1))) (.agg c.cells) = some (X.set xid (.cells ({ x with cert := c } : SRec).cells 0 false 0)) := fun c h => by simp [astore, h.xx, SRec.w1]
  have stP : ∀ {X : AH} {s' : St} {x : SRec} (c : Cert), SP H0 H X id pc xid s' x → astore Tryz.prog X 24 (.p (some (xid, 0, 9))) (.agg c.cells) = some (X.set xid (.cells ({ x with parent := c } : SRec).cells 0 false 0)) := fun c h => by simp [astore, h.xx, SRec.w9]
  have st17 : ∀ {X : AH} {s' : St} {x : SRec} (c : BitVec 32), SP H0 H X id pc xid s' x → astore Tryz.prog X 22 (.p (some (xid, 0, 17))) (u32 c) = some (X.set xid (.cells ({ x with set := c } : SRec).cells 0 false 0)) := fun c h => by simp [astore, h.xx, SRec.w17]
  have st18 : ∀ {X : AH} {s' : St} {x : SRec} (c : Int), SP H0 H X id pc xid s' x → astore Tryz.prog X 3 (.p (some (xid, 0, 18))) (.i .i64 c) = some (X.set xid (.cells ({ x with author := c } : SRec).cells 0 false 0)) := fun c h => by simp [astore, h.xx, V.cells, SRec.w18]
  have st19 : ∀ {X : AH} {s' : St} {x : SRec} (c : Int), SP H0 H X id pc xid s' x → astore Tryz.prog X 3 (.p (some (xid, 0, 19))) (.i .i64 c) = some (X.set xid (.cells ({ x with count := c } : SRec).cells 0 false 0)) := fun c h => by simp [astore, h.xx, V.cells, SRec.w19]
  have st20 : ∀ {X : AH} {s' : St} {x : SRec} (c : Int), SP H0 H X id pc xid s' x → astore Tryz.prog X 3 (.p (some (xid, 0, 20))) (.i .i64 c) = some (X.set xid (.cells ({ x with block := c } : SRec).cells 0 false 0)) := fun c h => by simp [astore, h.xx, V.cells, SRec.w20]
  have st21 : ∀ {X : AH} {s' : St} {x : SRec} (c : List UInt8), SP H0 H X id pc xid s' x → astore Tryz.prog X 9 (.p (some (xid, 0, 21))) (.s c) = some (X.set xid (.cells ({ x with text := c } : SRec).cells 0 false 0)) := fun c h => by simp [astore, h.xx, V.cells, SRec.w21]
  -- the end, behind the body
  refine AW_cut (fun ρ X => ρ = ⟨71, [(2, .p (some (H.next, 0, 0))), (4, .p (some (pc, 0, 0))), (6, .p (some (xid, 0, 0)))]⟩ ∧ SP H0 H X id pc xid (pbody k s).2 (pbody k s).1 ∧ ((pbody k s).2.2 = 0 → (pbody k s).1.text.length ≤ 65536)) ?_ ?_
  rotate_left
  · rintro ρ X ⟨rfl, T, htl⟩
    generalize pbody k s = q at T htl ⊢
    obtain ⟨x, w⟩ := q
    simp only at T htl
    have hzz : abuild Tryz.prog 33 [] = some (.agg SRec.zero.cells) := by simp [abuild, afill]; rfl
    have stZ : ∀ (Y : AH) (y : SRec), Upd X Y [] → astore Tryz.prog Y 33 (.p (some (H.next, 0, 0))) (.agg y.cells) = some (Y.set H.next (.cells y.cells 0 false 0)) := fun Y y hu => by
      simp [astore, hu.keep (by simp) T.zz, SRec.wall]
    have fin : ∀ (Y : AH) (y : SRec) (e : Int), Upd X Y [] → pfin (x, w) = (y, e) → AEnd Tryz.prog Tryz.f10 (fun r H' => r = .tup [.agg (pfin (x, w)).1.cells, .i .i64 (pfin (x, w)).2] ∧ Upd H H' []) .ret ⟨71, [(2, .p (some (H.next, 0, 0))), (3, .i .i64 e)]⟩ (Y.set H.next (.cells y.cells 0 false 0)) := fun Y y e hu he => by
      have hlt : H.next < Y.next := AH.get_lt (hu.keep (by simp) T.zz)
      refine end_ret (ares_cell_tmp (v := .agg y.cells) ?_) ⟨by rw [he]; rfl, (T.upd.trans hu (by simp)).trans (Upd.set (F := [H.next]) _ _ _ (by simp)) (fun j hj => .inr (by simp at hj; omega))⟩
      show aload _ _ _ (.p (some (H.next, 0, 0))) = _
      simp [aload, AH.get_set, hlt, SRec.take]
    repeat refine AW_seq ?_
    refine AW_reg [2, 6, 7] fun K hK => ?_ -- region 20
    simp [init_eq, ldp T]
    refine ACalls.mono (done_ok T.rd) fun r Y ⟨hr, e⟩ => ?_ -- (*hallmoot/wire.Reader).Done
    subst hr e
    try simp
    refine hK _ _ ?_; clear hK K
    repeat refine AW_seq ?_
    refine AW_reg [2, 6, 7, 59] fun K hK => ?_ -- region 21
    simp [init_eq]
    refine hK _ _ ?_; clear hK K
    refine AW_cond' rfl rfl (fun hc => ?_) (fun hc => ?_)
    · have k1 : ¬ rdone w = 0 := by simpa using hc
      repeat refine AW_seq ?_
      refine AW_reg [2, 3] fun K hK => ?_ -- region 22
      simp [init_eq, hzz, stZ Y SRec.zero (Upd.refl ..)]
      refine hK _ _ ?_; clear hK K
      exact AW_ret (fin _ _ _ (Upd.refl ..) (by unfold pfin; simp only [if_neg k1]))
    have k1 : rdone w = 0 := by simpa using hc
    have htl := htl (rdone_zero k1).1
    refine AW_skip ?_
    repeat refine AW_seq ?_
    have ldx : aload Tryz.prog Y 33 (.p (some (xid, 0, 0))) = some (.agg x.cells) := by simp [aload, T.xx, SRec.take]
    refine AW_reg [2, 6, 9] fun K hK => ?_ -- region 23
    simp [init_eq, ldx]
    refine ACalls.mono (sbytes_ok Y x htl) fun r Z ⟨w', hr, hu, _⟩ => ?_ -- safe.Bytes
    subst hr
    try simp
    refine hK _ _ ?_; clear hK K
    repeat refine AW_seq ?_
    refine AW_reg [2, 6, 68] fun K hK => ?_ -- region 24
    simp [init_eq]
    refine hK _ _ ?_; clear hK K
    refine AW_cond' rfl rfl (fun hc => ?_) (fun hc => ?_)
    · have k2 : ¬ x.form = 0 := by simpa using hc
      repeat refine AW_seq ?_
      refine AW_reg [2, 3] fun K hK => ?_ -- region 25
      simp [init_eq, hzz, stZ Z SRec.zero hu]
      refine hK _ _ ?_; clear hK K
      exact AW_ret (fin _ _ _ hu (by unfold pfin; simp only [if_pos k1, if_neg k2]))
    · have k2 : x.form = 0 := by simpa using hc
      have ldz : aload Tryz.prog Z 33 (.p (some (xid, 0, 0))) = some (.agg x.cells) := by simp [aload, hu.keep (by simp) T.xx, SRec.take]
      refine AW_skip ?_
      repeat refine AW_seq ?_
      refine AW_reg [2, 3] fun K hK => ?_ -- region 26
      simp [init_eq, ldz, stZ Z x hu]
      refine hK _ _ ?_; clear hK K
      exact AW_ret (fin _ _ _ hu (by unfold pfin; simp only [if_pos k1, if_pos k2]))
  refine AW_seq ?_
  refine AW_reg [2, 4, 5, 6, 17] fun K hK => ?_ -- region 4
  simp [init_eq, f0, rec_at T0.xx]
  refine hK _ _ ?_; clear hK K
  rcases kinds k with hk | hk | hk | hk | hk | hk | hk | hk | hk | hk | hk
  case inl | inr.inr.inr.inl =>
    all_goals
      have hkc : kclass k = .cc := by rw [hk]; rfl
      have hb : pbody k s = ({ SRec.zero with kind := k, cert := (takeCert s).1, parent := (takeCert (takeCert s).2).1 }, (takeCert (takeCert s).2).2) := by unfold pbody; rw [hkc]
      rw [hb]
      repeat (first
        | refine AW_seq ?_
        | refine AW_block ?_
        | refine AW_skip ?_
        | refine AW_condT rfl ?_
        | refine AW_condF rfl ?_
        | (refine AW_reg [2, 4, 5, 6, 17, 18, 27, 32, 42, 50] fun K hK => ?_
           simp [init_eq, hk]
           refine hK _ _ ?_; clear hK K))
      refine AW_reg [2, 4, 5, 6] fun K hK => ?_ -- region 7
      simp [init_eq, ldp T0]
      refine ACalls.mono (certTake_ok T0.rd hs32) fun r G5 ⟨hr, h5, u5⟩ => ?_ -- cert.Take
      subst hr
      have T1 := T0.rest h5 u5
      simp [f0, stC _ T1]
      refine hK _ _ ?_; clear hK K
      have T2 := T1.set { SRec.zero with kind := k, cert := (takeCert s).1 }
      generalize G5.set xid _ = G6 at T2 ⊢
      refine AW_reg [2, 4, 6] fun K hK => ?_ -- region 8
      simp [init_eq, ldp T2]
      refine ACalls.mono (certTake_ok T2.rd (takeCert_32 hs32)) fun r G7 ⟨hr, h7, u7⟩ => ?_ -- cert.Take
      subst hr
      have T3 := T2.rest h7 u7
      simp [f0, stP _ T3]
      refine hK _ _ ?_; clear hK K
      exact bend (rend ⟨_, by simp, rfl, T3.set _, fun _ => by simp [SRec.zero]⟩)
  case inr.inr.inr.inr.inl =>
    have hkc : kclass k = .c := by rw [hk]; rfl
    have hb : pbody k s = ({ SRec.zero with kind := k, cert := (takeCert s).1 }, (takeCert s).2) := by unfold pbody; rw [hkc]
    rw [hb]
    repeat (first
      | refine AW_seq ?_
      | refine AW_block ?_
      | refine AW_skip ?_
      | refine AW_condT rfl ?_
      | refine AW_condF rfl ?_
      | (refine AW_reg [2, 4, 5, 6, 17, 18, 27, 32, 42, 50] fun K hK => ?_
         simp [init_eq, hk]
         refine hK _ _ ?_; clear hK K))
    refine AW_reg [2, 4, 6] fun K hK => ?_ -- region 10
    simp [init_eq, ldp T0]
    refine ACalls.mono (certTake_ok T0.rd hs32) fun r G5 ⟨hr, h5, u5⟩ => ?_ -- cert.Take
    subst hr
    have T1 := T0.rest h5 u5
    simp [f0, stC _ T1]
    refine hK _ _ ?_; clear hK K
    exact bend (rend ⟨_, by simp, rfl, T1.set _, fun _ => by simp [SRec.zero]⟩)
  case inr.inr.inr.inr.inr.inr.inl =>
    have hkc : kclass k = .sa := by rw [hk]; rfl
    have hb : pbody k s = ({ SRec.zero with kind := k, set := BitVec.ofNat 32 (min (rsmall s).1 2147483648), author := (rsmall (rsmall s).2).1 }, (rsmall (rsmall s).2).2) := by unfold pbody; rw [hkc]
    rw [hb]
    repeat (first
      | refine AW_seq ?_
      | refine AW_block ?_
      | refine AW_skip ?_
      | refine AW_condT rfl ?_
      | refine AW_condF rfl ?_
      | (refine AW_reg [2, 4, 5, 6, 17, 18, 27, 32, 42, 50] fun K hK => ?_
         simp [init_eq, hk]
         refine hK _ _ ?_; clear hK K))
    refine AW_reg [2, 4, 5, 6] fun K hK => ?_ -- region 12
    simp [init_eq, AOp_callv (f := 31) (first := []) (caps := [.p (some (pc, 0, 0))])]
    refine ACalls.mono (psmall_ok T0.rd T0.pp) fun r G5 ⟨hr, h5, u5⟩ => ?_ -- safe.Parse$1
    subst hr
    have T1 := T0.rest h5 u5
    have hmin : amin2 (.i .i64 ((rsmall s).1 : Int)) (.i .i64 2147483648) = some (.i .i64 ((min (rsmall s).1 2147483648 : Nat) : Int)) := by
      by_cases c : (rsmall s).1 ≤ 2147483648
      · rw [Nat.min_eq_left c]
        have : ¬ (2147483648 : Int) < ((rsmall s).1 : Int) := by omega
        simp [amin2, this]
      · rw [Nat.min_eq_right (by omega)]
        have : (2147483648 : Int) < ((rsmall s).1 : Int) := by omega
        simp [amin2, this]
    have hcv := conv_u32 G5 (min (rsmall s).1 2147483648) (by omega)
    simp [hmin, hcv, f0, st17 _ T1]
    refine hK _ _ ?_; clear hK K
    have T2 := T1.set { SRec.zero with kind := k, set := BitVec.ofNat 32 (min (rsmall s).1 2147483648) }
    generalize G5.set xid _ = G6 at T2 ⊢
    refine AW_reg [2, 4, 6] fun K hK => ?_ -- region 13
    simp [init_eq, AOp_callv (f := 31) (first := []) (caps := [.p (some (pc, 0, 0))])]
    refine ACalls.mono (psmall_ok T2.rd T2.pp) fun r G7 ⟨hr, h7, u7⟩ => ?_ -- safe.Parse$1
    subst hr
    have T3 := T2.rest h7 u7
    simp [f0, st18 _ T3]
    refine hK _ _ ?_; clear hK K
    exact bend (rend ⟨_, by simp, rfl, T3.set _, fun _ => by simp [SRec.zero]⟩)
  case inr.inr.inr.inr.inr.inr.inr.inl =>
    have hkc : kclass k = .nb := by rw [hk]; rfl
    have hb : pbody k s = ({ SRec.zero with kind := k, count := (rsmall s).1, block := (rsmall (rsmall s).2).1 }, (rsmall (rsmall s).2).2) := by unfold pbody; rw [hkc]
    rw [hb]
    repeat (first
      | refine AW_seq ?_
      | refine AW_block ?_
      | refine AW_skip ?_
      | refine AW_condT rfl ?_
      | refine AW_condF rfl ?_
      | (refine AW_reg [2, 4, 5, 6, 17, 18, 27, 32, 42, 50] fun K hK => ?_
         simp [init_eq, hk]
         refine hK _ _ ?_; clear hK K))
    refine AW_reg [2, 4, 5, 6] fun K hK => ?_ -- region 15
    simp [init_eq, AOp_callv (f := 31) (first := []) (caps := [.p (some (pc, 0, 0))])]
    refine ACalls.mono (psmall_ok T0.rd T0.pp) fun r G5 ⟨hr, h5, u5⟩ => ?_ -- safe.Parse$1
    subst hr
    have T1 := T0.rest h5 u5
    simp [f0, st19 _ T1]
    refine hK _ _ ?_; clear hK K
    have T2 := T1.set { SRec.zero with kind := k, count := (rsmall s).1 }
    generalize G5.set xid _ = G6 at T2 ⊢
    refine AW_reg [2, 4, 6] fun K hK => ?_ -- region 16
    simp [init_eq, AOp_callv (f := 31) (first := []) (caps := [.p (some (pc, 0, 0))])]
    refine ACalls.mono (psmall_ok T2.rd T2.pp) fun r G7 ⟨hr, h7, u7⟩ => ?_ -- safe.Parse$1
    subst hr
    have T3 := T2.rest h7 u7
    simp [f0, st20 _ T3]
    refine hK _ _ ?_; clear hK K
    exact bend (rend ⟨_, by simp, rfl, T3.set _, fun _ => by simp [SRec.zero]⟩)
  case inr.inr.inr.inr.inr.inr.inr.inr.inl | inr.inr.inr.inr.inr.inr.inr.inr.inr.inl =>
    all_goals
      have hkc : kclass k = .tx := by rw [hk]; rfl
      have hb : pbody k s = ({ SRec.zero with kind := k, text := (rtext s).1 }, (rtext s).2) := by unfold pbody; rw [hkc]
      rw [hb]
      repeat (first
        | refine AW_seq ?_
        | refine AW_block ?_
        | refine AW_skip ?_
        | refine AW_condT rfl ?_
        | refine AW_condF rfl ?_
        | (refine AW_reg [2, 4, 5, 6, 17, 18, 27, 32, 42, 50] fun K hK => ?_
           simp [init_eq, hk]
           refine hK _ _ ?_; clear hK K))
      refine AW_reg [2, 4, 6] fun K hK => ?_ -- region 19
      simp [init_eq, ldp T0]
      refine ACalls.mono (text_ok' T0.rd) fun r G5 ⟨hr, h5, u5⟩ => ?_ -- (*hallmoot/wire.Reader).Text
      subst hr
      have T1 := T0.rest h5 u5
      simp [f0, st21 _ T1]
      refine hK _ _ ?_; clear hK K
      exact bend (rend ⟨_, by simp, rfl, T1.set _, fun h => (rtext_inv h).2.2⟩)
  all_goals
    have hb : pbody k s = ({ SRec.zero with kind := k }, s) := by
      unfold pbody
      first
        | (rw [hk]; rfl)
        | (rw [kclass_bad hk])
    rw [hb]
    have h1 : ¬ k = 1 := by omega
    have h4 : ¬ k = 4 := by omega
    have h5 : ¬ k = 5 := by omega
    have h7 : ¬ k = 7 := by omega
    have h8 : ¬ k = 8 := by omega
    have h9 : ¬ k = 9 := by omega
    have h10 : ¬ k = 10 := by omega
    clear hk
    repeat (first
      | refine AW_seq ?_
      | refine AW_block ?_
      | refine AW_skip ?_
      | refine AW_condT rfl ?_
      | refine AW_condF rfl ?_
      | (refine AW_reg [2, 4, 5, 6, 17, 18, 27, 32, 42, 50] fun K hK => ?_
         simp [init_eq, h1, h4, h5, h7, h8, h9, h10]
         refine hK _ _ ?_; clear hK K))
    exact bend (rend ⟨_, by simp, rfl, T0, fun _ => by simp [SRec.zero]⟩)
end Go.Proofs.YtoccjilbfkhmoaaGreatDoor
