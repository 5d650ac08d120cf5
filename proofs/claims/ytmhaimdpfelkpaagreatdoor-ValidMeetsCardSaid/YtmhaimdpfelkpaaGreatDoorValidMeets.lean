/-
  ValidMeets: the law says true.
-/
import Derived.Test.YtmhaimdpfelkpaaGreatDoorValid19
import Derived.Test.YtmhaimdpfelkpaaGreatDoorTxtG
import Derived.Test.YtmhaimdpfelkpaaGreatDoorValidAlive
set_option linter.unusedVariables false
set_option linter.unusedSimpArgs false
namespace Go.Proofs.YtmhaimdpfelkpaaGreatDoor
open Go Go.Abs Go.Proofs
set_option maxRecDepth 100000
attribute [local irreducible] AEnd AW ACalls

theorem tellS_same (d : RegD) (l : List Shr) : (tellS d l).bk = d.bk ∧ (tellS d l).sh.length ≤ d.sh.length + l.length := by
  unfold tellS
  induction l generalizing d with
  | nil => simp
  | cons x l ih =>
    obtain ⟨h1, h2⟩ := ih { d with sh := shIssue d.f d.sh x }
    have := shIssue_len d.f d.sh x
    simp only [List.foldl_cons, List.length_cons] at h1 h2 ⊢
    exact ⟨h1, by omega⟩
theorem tellC_len (d : RegD) (l : List (List UInt8)) : (tellC d l).bk.length ≤ d.bk.length + l.length := by
  unfold tellC
  induction l generalizing d with
  | nil => simp
  | cons x l ih =>
    have h2 := ih { d with bk := bkEnter d.bk x }
    have := bkEnter_len d.bk x
    simp only [List.foldl_cons, List.length_cons] at h2 ⊢
    omega
set_option maxHeartbeats 4000000 in
theorem validmeets_law (H : AH) {i m : InD} {li lm : List V} (hi : InAt H i li) (hm : InAt H m lm) (p q : Cert) : ACalls Tryz.prog 4 [.agg li, .agg lm, .agg p.cells, .agg q.cells] H fun r H' => r = .b true := by
  refine ACalls_body Tryz.func4 rfl rfl ?_
  repeat refine AW_seq ?_
  refine AW_reg [4, 5, 6, 7] fun K hK => ?_ -- region 0
  simp [init_eq, V.cells]
  obtain ⟨H1, e1, hp1, hp2, hp3, hp4, hn, ho⟩ := AH.boxed4 H li lm p.cells q.cells
  rw [e1]
  refine hK _ _ ?_; clear hK K
  have hi1 := hi.same ho
  have hm1 := hm.same ho
  have hl6 : li.length = 6 := by obtain ⟨vb, vc, vs, vk, e, _⟩ := hi.ex; rw [e]; rfl
  have hlt6 : li.take 6 = li := List.take_of_length_le (by omega)
  have ml6 : lm.length = 6 := by obtain ⟨vb, vc, vs, vk, e, _⟩ := hm.ex; rw [e]; rfl
  have mlt6 : lm.take 6 = lm := List.take_of_length_le (by omega)
  clear e1
  generalize ha : H.next = a at *
  repeat refine AW_seq ?_
  refine AW_reg [4, 5, 6, 7, 20] fun K hK => ?_ -- region 1
  simp [init_eq]
  refine ACalls.mono (alive_ok ..) fun r H' ⟨hr, e⟩ => ?_ -- hallmoot/hallmootlaw13.alive
  subst hr e
  try simp
  refine hK _ _ ?_; clear hK K
  refine AW_condF rfl ?_
  refine AW_skip ?_
  repeat refine AW_seq ?_
  refine AW_regto [4, 5, 6, 7, 26] ⟨154, [(4, .p (some (a, 0, 0))), (5, .p (some (a + 1, 0, 0))), (6, .p (some (a + 2, 0, 0))), (7, .p (some (a + 3, 0, 0))), (26, .b (farB i || farB m))]⟩ H' (fun K hk => ?_) ?_ -- region 3
  · simp [init_eq, aload, hp1, hl6, hlt6]
    refine ACalls.mono (far_ok H' hi1) fun r H2 ⟨hr, e⟩ => ?_ -- hallmoot/hallmootlaw13.Far
    subst hr e
    cases g1 : farB i
    · simp [g1, aload, hp2, ml6, mlt6]
      refine ACalls.mono (far_ok H2 hm1) fun r H3 ⟨hr, e⟩ => ?_ -- hallmoot/hallmootlaw13.Far
      subst hr e
      simpa [g1] using hk
    · simpa [g1] using hk
  refine AW_cond' rfl rfl (fun hc => ?_) (fun hc => ?_)
  · repeat refine AW_seq ?_
    refine AW_reg [8] fun K hK => ?_ -- region 4
    simp [init_eq]
    refine hK _ _ ?_; clear hK K
    exact AW_ret (end_ret rfl rfl)
  have hfar : farB i = false := by simp at hc; exact hc.1
  have hfar2 : farB m = false := by simp at hc; exact hc.2
  obtain ⟨m1, m2, m3, m4, m5⟩ := far_facts hfar
  obtain ⟨n1, n2, n3, n4, n5⟩ := far_facts hfar2
  clear hc
  refine AW_skip ?_
  repeat refine AW_seq ?_
  refine AW_reg [4, 5, 6, 7, 9, 11] fun K hK => ?_ -- region 5
  simp [init_eq, aload, hp1, hl6, hlt6]
  refine ACalls.mono (laws_ok H' hi1 hfar) fun r H2 hr => ?_ -- hallmoot/hallmootlaw13.Laws
  rcases hr with ⟨rfl, u2⟩ | ⟨ib, is, ic, jb, js, jc, FB, FS, FC, GB, GS, GC, rfl, L⟩
  · simp [V.cells, astore, AH.get_new, AH.get_set]
    refine hK _ _ ?_; clear hK K
    repeat refine AW_seq ?_
    refine AW_reg [4, 5, 6, 7, 9, 34] fun K hK => ?_ -- region 6
    simp [init_eq]
    refine hK _ _ ?_; clear hK K
    refine AW_condT rfl ?_
    repeat refine AW_seq ?_
    refine AW_reg [8] fun K hK => ?_ -- region 7
    simp [init_eq]
    refine hK _ _ ?_; clear hK K
    exact AW_ret (end_ret rfl rfl)
  simp [V.cells, astore, AH.get_new, AH.get_set]
  refine hK _ _ ?_; clear hK K
  generalize hG : AH.set _ (H2.next + 1) _ = G
  have x1 : G.get H2.next = some (.cells (lawV ib is ic) 0 false 0) := by
    rw [← hG, AH.get_set_ne (by omega), AH.get_set_same (by simp; omega)]; rfl
  have ko : ∀ j, j < H2.next → G.get j = H2.get j := fun j hj => by rw [← hG]; simp [AH.get_set, AH.get_new, show j ≠ H2.next by omega, show j ≠ H2.next + 1 by omega]
  have kn : G.next = H2.next + 2 := by rw [← hG]; simp
  clear hG
  have u3 : Upd H2 G [] := ⟨by omega, fun j hj _ => ko j hj⟩
  have u4 := L.upd.trans u3 (by simp)
  have hL := L.law.upd u3
  have g4 : G.get a = some (.cells li 0 false 0) := u4.keep (by simp) hp1
  have g5 : G.get (a + 1) = some (.cells lm 0 false 0) := u4.keep (by simp) hp2
  have g6 : G.get (a + 2) = some (.cells p.cells 0 false 0) := u4.keep (by simp) hp3
  have g7 : G.get (a + 3) = some (.cells q.cells 0 false 0) := u4.keep (by simp) hp4
  have hmG : ∀ j, j < H'.next → G.get j = H'.get j := fun j hj => u4.2 j hj (by simp)
  obtain ⟨vb, vc, vs, vk, el, _, h2, h3, _⟩ := hm1.ex
  obtain ⟨wb, wc, ws, wk, eli, _⟩ := hi1.ex
  have nS : shI i i.sh.length = (regOf i).sh := rfl
  have lS := shI_len i i.sh.length
  have nB : bkC i i.ct.length = (regOf i).bk := rfl
  have lB := bkC_len i i.ct.length
  rw [nS] at lS; rw [nB] at lB
  have hbad : (pop i.bad : Int) ≤ i.f := L.few
  have hdf : (regOf i).f = i.f := rfl
  have hdb : (regOf i).bad = i.bad := rfl
  have k0 : Kept (a + 4) H2.next G G ib is ic FB FS FC (regOf i) := ⟨hL, fun A hA j hj => by
    have h1 := L.new A (by simp only [List.mem_cons, List.not_mem_nil, or_false] at hA ⊢; rcases hA with rfl | rfl | rfl <;> simp) j hj
    have h2 : j < H2.next := by
      simp only [List.mem_cons, List.not_mem_nil, or_false] at hA
      rcases hA with rfl | rfl | rfl
      · exact L.law.book.lt j hj
      · exact L.law.sign.lt j hj
      · exact L.law.coin.lt j hj
    omega, fun _ _ => rfl, by have := u4.1; omega⟩
  have hyy : a + 4 ≤ H2.next := by have := L.upd.1; omega
  generalize regOf i = d at *
  generalize hy : H2.next = y at *
  clear u3 hL L nS nB ko
  repeat refine AW_seq ?_
  refine AW_reg [4, 5, 6, 7, 9, 34] fun K hK => ?_ -- region 6
  simp [init_eq]
  refine hK _ _ ?_; clear hK K
  refine AW_condF rfl ?_
  refine AW_skip ?_
  repeat refine AW_seq ?_
  refine AW_regm (.only [y, a + 2, a + 3]) [4, 5, 6, 7, 9, 12, 13] pl_4_8 pe_4_8 (by kernel_rfl) (by kernel_rfl) (by decide) fun K hK => ?_
  simp [init_eq, pl_4_8, APlan_takem, through, tkOk, rid, aload, x1, g6, g7, take_cells]
  refine ACalls.mono (kept_cert k0 p) fun r G1 ⟨hr, hnx, k1⟩ => ?_ -- (hallmoot/valid.Law).Cert
  subst hr
  refine ⟨⟨hnx, fun _ => by rw [k1.same y (.inr rfl)]; exact x1, fun _ => by rw [k1.same (a + 2) (.inl (by omega))]; exact g6, fun _ => by rw [k1.same (a + 3) (.inl (by omega))]; exact g7⟩, ?_⟩
  refine ACalls.mono (kept_cert k1 q) fun r G2 ⟨hr, hnx2, k2⟩ => ?_ -- (hallmoot/valid.Law).Cert
  subst hr
  have M1 := More.setCo d p
  have M2 := M1.trans (More.setCo { d with co := (certR d p).2 } q)
  have hE : (certR d p).1 = 0 → ∀ e, More d e → (certR e p).1 = 0 := fun h e he => he.cert h
  have hF : (certR { d with co := (certR d p).2 } q).1 = 0 → ∀ e, More { d with co := (certR d p).2 } e → (certR e q).1 = 0 := fun h e he => he.cert h
  have hP : (certR d p).1 = 0 → p.kind ≠ 0 → qcheck d.f p.signers = 0 ∧ qtimes 2 d.f ≤ pop p.signers ∧ ∀ k ∈ bitsOf p.signers, cntsE d.f d.bad d.sh ⟨(k : Nat), p.stm⟩ = 0 := fun h hk => cert_parts hk h
  have hQ : (certR { d with co := (certR d p).2 } q).1 = 0 → q.kind ≠ 0 → qcheck d.f q.signers = 0 ∧ qtimes 2 d.f ≤ pop q.signers ∧ ∀ k ∈ bitsOf q.signers, cntsE d.f d.bad d.sh ⟨(k : Nat), q.stm⟩ = 0 := fun h hk => cert_parts (d := { d with co := (certR d p).2 }) hk h
  refine hK _ _ ?_; clear hK K
  have M12 := More.setCo { d with co := (certR d p).2 } q
  have hsh2 : ({ ({ d with co := (certR d p).2 } : RegD) with co := (certR { d with co := (certR d p).2 } q).2 } : RegD).sh = d.sh := rfl
  have hbk2 : ({ ({ d with co := (certR d p).2 } : RegD) with co := (certR { d with co := (certR d p).2 } q).2 } : RegD).bk = d.bk := rfl
  generalize hd2 : ({ ({ d with co := (certR d p).2 } : RegD) with co := (certR { d with co := (certR d p).2 } q).2 } : RegD) = d2 at *
  clear hd2
  generalize hd1 : ({ d with co := (certR d p).2 } : RegD) = d1 at *
  clear hd1 k1 hnx hnx2
  generalize (certR d p).1 = E at *
  generalize (certR d1 q).1 = F at *
  have hin : ∀ G' : AH, (∀ j, (j < a + 4 ∨ j = y) → G'.get j = G.get j) → G'.get y = some (.cells (lawV ib is ic) 0 false 0) ∧ G'.get a = some (.cells li 0 false 0) ∧ G'.get (a + 1) = some (.cells lm 0 false 0) ∧ G'.get (a + 2) = some (.cells p.cells 0 false 0) ∧ G'.get (a + 3) = some (.cells q.cells 0 false 0) ∧ RS G' vc 1 (m.ct.map txtC) ∧ RS G' vs 11 (m.sh.map Shr.cells) := fun G' hG => by
    have hg : ∀ j, j < H'.next → G'.get j = H'.get j := fun j hj => by rw [hG j (.inl (by omega)), hmG j hj]
    exact ⟨by rw [hG y (.inr rfl)]; exact x1, by rw [hG a (.inl (by omega))]; exact g4, by rw [hG _ (.inl (by omega))]; exact g5, by rw [hG _ (.inl (by omega))]; exact g6, by rw [hG _ (.inl (by omega))]; exact g7, h2.same hg, h3.same hg⟩
  subst el
  have hsl2 : d2.sh.length ≤ 120 := by rw [hsh2]; omega
  have hbl2 : d2.bk.length ≤ 100 := by rw [hbk2]; omega
  -- the shares
  repeat refine AW_seq ?_
  refine AW_reg [4, 5, 6, 7, 9, 12, 13, 14] fun K hK => ?_ -- region 9
  simp [init_eq]
  refine hK _ _ ?_; clear hK K
  refine AW_block ?_
  refine AW_loopx (fun k : Nat => ⟨154, [(4, .p (some (a, 0, 0))), (5, .p (some (a + 1, 0, 0))), (6, .p (some (a + 2, 0, 0))), (7, .p (some (a + 3, 0, 0))), (9, .p (some (y, 0, 0))), (12, .i .i64 E), (13, .i .i64 F), (14, .i .i64 k)]⟩)
    (fun k G' => k ≤ m.sh.length ∧ ∃ FS', Kept (a + 4) y G G' ib is ic FB FS' FC (tellS d2 (m.sh.take k))) (fun k => m.sh.length - k) 0 (by simp) ⟨by simp, FS, by simpa [tellS] using k2⟩ fun k G' hM => ?_ -- loop
  clear k2
  obtain ⟨hk0, FS', kk⟩ := hM
  obtain ⟨y1, y2, y3, y4, y5, r1, r2⟩ := hin G' kk.same
  have lx := r2.alen (P := Tryz.prog) qelem_25 G'
  have hlb : aload Tryz.prog G' 25 (.p (some (a + 1, 0, 4))) = some vs := by simp [aload, y3]
  repeat refine AW_seq ?_
  refine AW_reg [4, 5, 6, 7, 9, 12, 13, 14, 45] fun K hK => ?_ -- region 10
  simp [init_eq, afieldAddr, hlb, lx]
  refine hK _ _ ?_; clear hK K
  refine AW_cond' rfl rfl (fun hc => ?_) (fun hc => ?_)
  · have hk : k < m.sh.length := by simpa using hc
    obtain ⟨ax, px, hrec⟩ := r2.at (P := Tryz.prog) (t := 25) (by decide) qelem_25 qsize_60 (k := .i64) k (l := m.sh[k].cells) (by simp [hk])
    obtain ⟨idc, gc, oc, cc, roc, eszc, rfl, w1, w2, w3⟩ := hrec
    have hlen := (tellS_same d2 (m.sh.take k)).2
    have hlt := List.length_take (l := m.sh) (i := k)
    have hstep : tellS d2 (m.sh.take (k + 1)) = { tellS d2 (m.sh.take k) with sh := shIssue (tellS d2 (m.sh.take k)).f (tellS d2 (m.sh.take k)).sh m.sh[k] } := foldl_take_succ _ d2 m.sh hk
    have hidc : idc < a + 4 := by
      have h9 := h3.at (P := Tryz.prog) (t := 25) (by decide) qelem_25 qsize_60 (k := .i64) k (l := m.sh[k].cells) (by simp [hk])
      obtain ⟨ax', px', hrec'⟩ := h9
      obtain ⟨idd, gd, od, cd, rod, eszd, rfl, z1, z2, z3⟩ := hrec'
      have := AH.get_lt z1
      rw [px] at px'
      simp at px'
      omega
    refine AW_skip ?_
    repeat refine AW_seq ?_
    refine AW_block ?_
    refine AW_regm (.only [y, a + 1, idc]) [4, 5, 6, 7, 9, 12, 13, 14] pl_4_12 pe_4_12 (by kernel_rfl) (by kernel_rfl) (by decide) fun K hK => ?_
    simp [init_eq, pl_4_12, APlan_takem, through, tkOk, rid, afieldAddr, aload, y1, y3, px, w1, w2]
    refine ⟨_, ⟨by simpa using w3, rfl⟩, ?_⟩
    rw [show List.take 11 (List.drop oc cc) = m.sh[k].cells from w2]
    refine ACalls.mono (kept_issue kk (by omega) m.sh[k]) fun r G3 ⟨_, hnx, FS2, k3⟩ => ?_ -- (*hallmoot/sign.Sign).Issue
    refine ⟨⟨hnx, fun _ => by rw [k3.same y (.inr rfl)]; exact x1, fun _ => by rw [k3.same (a + 1) (.inl (by omega))]; exact g5, fun _ => by rw [k3.same idc (.inl hidc), ← kk.same idc (.inl hidc)]; exact w1⟩, hK _ _ ?_⟩
    clear hK K
    refine bend (rend ?_)
    refine AW_reg [4, 5, 6, 7, 9, 12, 13, 14] fun K hK => ?_ -- region 11
    simp [init_eq, wrap_id (x := (k : Int) + 1) (by omega) (by omega)]
    refine hK _ _ ?_; clear hK K
    exact rend ⟨k + 1, by simp, ⟨by omega, FS2, by rw [hstep]; exact k3⟩, by omega⟩
  have hk : k = m.sh.length := by have : ¬ k < m.sh.length := by simpa using hc
                                  omega
  subst hk
  rw [List.take_length] at kk
  have M3 := M2.trans (tellS_more d2 m.sh)
  have M13 := M12.trans (tellS_more d2 m.sh)
  have hl3 := tellS_same d2 m.sh
  generalize tellS d2 m.sh = d3 at *
  have hbl3 : d3.bk.length ≤ 100 := by rw [hl3.1]; exact hbl2
  clear hc hk0 lx hlb r1 r2 y1 y2 y3 y4 y5
  refine AW_exit (then_exit (then_exit (block_here ?_)))
  -- the contents
  repeat refine AW_seq ?_
  refine AW_reg [4, 5, 6, 7, 9, 12, 13, 15] fun K hK => ?_ -- region 13
  simp [init_eq]
  refine hK _ _ ?_; clear hK K
  refine AW_block ?_
  refine AW_loopx (fun k : Nat => ⟨154, [(4, .p (some (a, 0, 0))), (5, .p (some (a + 1, 0, 0))), (6, .p (some (a + 2, 0, 0))), (7, .p (some (a + 3, 0, 0))), (9, .p (some (y, 0, 0))), (12, .i .i64 E), (13, .i .i64 F), (15, .i .i64 k)]⟩)
    (fun k G' => k ≤ m.ct.length ∧ ∃ FB', Kept (a + 4) y G G' ib is ic FB' FS' FC (tellC d3 (m.ct.take k))) (fun k => m.ct.length - k) 0 (by simp) ⟨by simp, FB, by simpa [tellC] using kk⟩ fun k G' hM => ?_ -- loop
  clear kk
  obtain ⟨hk0, FB', kk⟩ := hM
  obtain ⟨y1, y2, y3, y4, y5, r1, r2⟩ := hin G' kk.same
  have lx := r1.alen (P := Tryz.prog) qelem_24 G'
  have hlb : aload Tryz.prog G' 24 (.p (some (a + 1, 0, 3))) = some vc := by simp [aload, y3]
  repeat refine AW_seq ?_
  refine AW_reg [4, 5, 6, 7, 9, 12, 13, 15, 60] fun K hK => ?_ -- region 14
  simp [init_eq, afieldAddr, hlb, lx]
  refine hK _ _ ?_; clear hK K
  refine AW_cond' rfl rfl (fun hc => ?_) (fun hc => ?_)
  · have hk : k < m.ct.length := by simpa using hc
    obtain ⟨ax, px, hrec⟩ := r1.at (P := Tryz.prog) (t := 24) (by decide) qelem_24 qsize_9 (k := .i64) k (l := txtC m.ct[k]) (by simp [hk])
    obtain ⟨idc, gc, oc, cc, roc, eszc, rfl, w1, w2, w3⟩ := hrec
    have wv : cc[oc]? = some (.s m.ct[k]) := by
      have := congrArg (fun l => l[0]?) w2
      simpa [txtC, List.getElem?_take, List.getElem?_drop] using this
    have hlen := tellC_len d3 (m.ct.take k)
    have hlt := List.length_take (l := m.ct) (i := k)
    have hstep : tellC d3 (m.ct.take (k + 1)) = { tellC d3 (m.ct.take k) with bk := bkEnter (tellC d3 (m.ct.take k)).bk m.ct[k] } := foldl_take_succ _ d3 m.ct hk
    have hidc : idc < a + 4 := by
      have h9 := h2.at (P := Tryz.prog) (t := 24) (by decide) qelem_24 qsize_9 (k := .i64) k (l := txtC m.ct[k]) (by simp [hk])
      obtain ⟨ax', px', hrec'⟩ := h9
      obtain ⟨idd, gd, od, cd, rod, eszd, rfl, z1, z2, z3⟩ := hrec'
      have := AH.get_lt z1
      rw [px] at px'
      simp at px'
      omega
    refine AW_skip ?_
    repeat refine AW_seq ?_
    refine AW_block ?_
    refine AW_regm (.only [y, a + 1, idc]) [4, 5, 6, 7, 9, 12, 13, 15] pl_4_16 pe_4_16 (by kernel_rfl) (by kernel_rfl) (by decide) fun K hK => ?_
    simp [init_eq, pl_4_16, APlan_takem, through, tkOk, rid, afieldAddr, aload, y1, y3, px, w1, wv]
    refine ACalls.mono (kept_enter kk (by omega) m.ct[k]) fun r G3 ⟨_, hnx, FB2, k3⟩ => ?_ -- (*hallmoot/book.Book).Enter
    refine ⟨⟨hnx, fun _ => by rw [k3.same y (.inr rfl)]; exact x1, fun _ => by rw [k3.same (a + 1) (.inl (by omega))]; exact g5, fun _ => by rw [k3.same idc (.inl hidc), ← kk.same idc (.inl hidc)]; exact w1⟩, hK _ _ ?_⟩
    clear hK K
    refine bend (rend ?_)
    refine AW_reg [4, 5, 6, 7, 9, 12, 13, 15] fun K hK => ?_ -- region 15
    simp [init_eq, wrap_id (x := (k : Int) + 1) (by omega) (by omega)]
    refine hK _ _ ?_; clear hK K
    exact rend ⟨k + 1, by simp, ⟨by omega, FB2, by rw [hstep]; exact k3⟩, by omega⟩
  have hk : k = m.ct.length := by have : ¬ k < m.ct.length := by simpa using hc
                                  omega
  subst hk
  rw [List.take_length] at kk
  have M4 := M3.trans (tellC_more d3 m.ct)
  have M14 := M13.trans (tellC_more d3 m.ct)
  generalize tellC d3 m.ct = d4 at *
  clear hc hk0 lx hlb r1 r2 M2 M3 M12 M13 hl3 hbl3 hsl2 hbl2 hsh2 hbk2 hmG
  refine AW_exit (then_exit (then_exit (block_here ?_)))
  -- both again
  refine AW_cut (fun ρ G' => ρ = ⟨154, [(4, .p (some (a, 0, 0))), (6, .p (some (a + 2, 0, 0))), (7, .p (some (a + 3, 0, 0))), (9, .p (some (y, 0, 0))), (12, .i .i64 E), (13, .i .i64 F)]⟩ ∧ ∃ d5, More d d5 ∧ Kept (a + 4) y G G' ib is ic FB' FS' FC d5) ?_ fun ρ G3 ⟨e1, d5, M5, k5⟩ => ?_
  · have ly := fun G' (h : G'.get y = some (.cells (lawV ib is ic) 0 false 0)) => (show aload Tryz.prog G' 41 (.p (some (y, 0, 0))) = some (.agg (lawV ib is ic)) by simp [aload, h])
    have lp := fun G' (h : G'.get (a + 2) = some (.cells p.cells 0 false 0)) => (show aload Tryz.prog G' 29 (.p (some (a + 2, 0, 0))) = some (.agg p.cells) by simp [aload, h, take_cells])
    have lq := fun G' (h : G'.get (a + 3) = some (.cells q.cells 0 false 0)) => (show aload Tryz.prog G' 29 (.p (some (a + 3, 0, 0))) = some (.agg q.cells) by simp [aload, h, take_cells])
    repeat refine AW_seq ?_
    refine AW_reg [4, 6, 7, 9, 12, 13, 88] fun K hK => ?_ -- region 17
    by_cases c1 : E = 0
    · simp [init_eq, c1, ly G' y1, lp G' y4]
      refine ACalls.mono (kept_cert kk p) fun r G5 ⟨hr, hnx, k5⟩ => ?_ -- (hallmoot/valid.Law).Cert
      have e5 := hE c1 d4 M4
      rw [e5] at hr
      subst hr
      have M5 := M4.trans (More.setCo d4 p)
      have M15 := M14.trans (More.setCo d4 p)
      obtain ⟨z1, z2, z3, z4, z5, _⟩ := hin G5 k5.same
      by_cases c2 : F = 0
      · simp [c2, ly G5 z1, lq G5 z5]
        refine ACalls.mono (kept_cert k5 q) fun r G6 ⟨hr, hnx, k6⟩ => ?_ -- (hallmoot/valid.Law).Cert
        have e6 := hF c2 _ M15
        rw [e6] at hr
        subst hr
        simp
        refine hK _ _ ?_; clear hK K
        exact AW_condF rfl (AW_skip (rend ⟨_, by simp [c1, c2], rfl, _, M5.trans (More.setCo _ q), k6⟩))
      · simp [c2]
        refine hK _ _ ?_; clear hK K
        exact AW_condF rfl (AW_skip (rend ⟨_, by simp [c1], rfl, _, M5, k5⟩))
    · by_cases c2 : F = 0
      · simp [init_eq, c1, c2, ly G' y1, lq G' y5]
        refine ACalls.mono (kept_cert kk q) fun r G6 ⟨hr, hnx, k6⟩ => ?_ -- (hallmoot/valid.Law).Cert
        have e6 := hF c2 _ M14
        rw [e6] at hr
        subst hr
        simp
        refine hK _ _ ?_; clear hK K
        exact AW_condF rfl (AW_skip (rend ⟨_, by simp [c2], rfl, _, M4.trans (More.setCo _ q), k6⟩))
      · simp [init_eq, c1, c2]
        refine hK _ _ ?_; clear hK K
        exact AW_condF rfl (AW_skip (rend ⟨_, by simp, rfl, _, M4, kk⟩))
  subst e1
  clear y1 y2 y3 y4 y5 kk M4 M14 hE hF
  obtain ⟨y1, y2, y3, y4, y5, _⟩ := hin G3 k5.same
  repeat refine AW_seq ?_
  refine AW_regto [4, 6, 7, 9, 104] ⟨154, [(4, .p (some (a, 0, 0))), (6, .p (some (a + 2, 0, 0))), (7, .p (some (a + 3, 0, 0))), (9, .p (some (y, 0, 0))), (104, .b (decide (¬ E = 0 ∨ ¬ F = 0 ∨ p.kind = 0 ∨ q.kind = 0)))]⟩ G3 (fun K hk => ?_) ?_ -- region 19
  · by_cases c1 : E = 0
    · by_cases c2 : F = 0
      · by_cases c3 : p.kind = 0
        · simpa [init_eq, c1, c2, c3, afieldAddr, aload, y4] using hk
        · simpa [init_eq, c1, c2, c3, afieldAddr, aload, y4, y5] using hk
      · simpa [init_eq, c1, c2] using hk
    · simpa [init_eq, c1] using hk
  refine AW_cond' rfl rfl (fun hc => ?_) (fun hc => ?_)
  · repeat refine AW_seq ?_
    refine AW_reg [8] fun K hK => ?_ -- region 20
    simp [init_eq]
    refine hK _ _ ?_; clear hK K
    exact AW_ret (end_ret rfl rfl)
  have hc' : E = 0 ∧ F = 0 ∧ ¬ p.kind = 0 ∧ ¬ q.kind = 0 := by simpa using hc
  obtain ⟨c1, c2, c3, c4⟩ := hc'
  obtain ⟨P1, P2, P3⟩ := hP c1 c3
  obtain ⟨Q1, Q2, Q3⟩ := hQ c2 c4
  clear hP hQ hc
  have hbad' : (pop d.bad : Int) ≤ d.f := by rw [hdf, hdb]; exact hbad
  obtain ⟨R1, R2⟩ := quorum_meets P1 Q1 P2 Q2 hbad'
  rw [hdf] at R1; rw [hdb] at R1 R2
  have hin0 : G3.get a = some (.cells [.i .i64 i.f, u32 i.bad, wb, wc, ws, wk] 0 false 0) := by rw [y2, eli]
  refine AW_skip ?_
  repeat refine AW_seq ?_
  refine AW_reg [4, 6, 7, 9, 16] fun K hK => ?_ -- region 21
  simp [init_eq, afieldAddr, aload, y4, y5, hin0]
  refine hK _ _ ?_; clear hK K
  generalize hboth : p.signers &&& q.signers &&& ~~~i.bad = both at *
  repeat refine AW_seq ?_
  refine AW_regd [6, 7, 9, 16, 127] pl_4_22 pe_4_22 (by kernel_rfl) (by kernel_rfl) (by decide) fun K hK => ?_
  simp [init_eq, pl_4_22, afieldAddr, aload, y4, hin0]
  refine ACalls.mono (count_ok ..) fun r G4 ⟨hr, e⟩ => ⟨e ▸ AH.ext.refl _, ?_⟩ -- hallmoot/quorum.Count
  subst hr e
  refine ACalls.mono (some_ok ..) fun r G5 ⟨hr, e⟩ => ⟨e ▸ AH.ext.refl _, ?_⟩ -- hallmoot/quorum.Some
  subst hr e
  have R1' : ¬ (pop (p.signers &&& ~~~i.bad) : Int) < qtimes 1 i.f := by omega
  have R2' : ¬ (pop both : Int) < 1 := by omega
  simp [R1']
  refine ACalls.mono (count_ok ..) fun r G6 ⟨hr, e⟩ => ?_ -- hallmoot/quorum.Count
  subst hr e
  simp [R2']
  refine hK _ _ ?_; clear hK K
  refine AW_condF rfl ?_
  refine AW_skip ?_
  repeat refine AW_seq ?_
  refine AW_reg [6, 7, 9, 129, 130, 131] fun K hK => ?_ -- region 24
  simp [init_eq]
  refine ACalls.mono (list_ok G6 both) fun v G7 hr => ?_ -- hallmoot/quorum.List
  obtain ⟨FL, ol, u7, lF⟩ := hr
  have hrs : RS G7 v 1 ((bitsOf both).map cntC) := ol.rsR (by decide) cntC_len
  have lx := hrs.alen (P := Tryz.prog) qelem_64 G7
  have hle := bitsOf_len both
  have k7 := k5.upd0 u7
  obtain ⟨z1, z2, z3, z4, z5, _⟩ := hin G7 k7.same
  simp [lx]
  refine hK _ _ ?_; clear hK K
  refine AW_block ?_
  refine AW_loop0 (fun k : Nat => ⟨154, [(6, .p (some (a + 2, 0, 0))), (7, .p (some (a + 3, 0, 0))), (9, .p (some (y, 0, 0))), (129, v), (130, .i .i64 (bitsOf both).length), (131, .i .i64 k)]⟩) (fun k => k ≤ (bitsOf both).length) (fun k => (bitsOf both).length - k) 0 (by simp) (by simp) (by dsimp only; have := k7.lt; omega) fun hw k hM => ?_ -- loop
  repeat refine AW_seq ?_
  refine AW_reg [6, 7, 9, 129, 130, 131, 132] fun K hK => ?_ -- region 25
  simp [init_eq]
  refine hK _ _ ?_; clear hK K
  repeat refine AW_seq ?_
  refine AW_cond' rfl rfl (fun hc => ?_) (fun hc => ?_)
  · have hk : k < (bitsOf both).length := by simpa using hc
    obtain ⟨ax, px, qx⟩ := hrs.at1 (P := Tryz.prog) (t := 64) (e := 3) qelem_64 qsize_3 qagg_3 (k := .i64) k (x := cnt (bitsOf both)[k]) (by simp [hk, cntC])
    have hbp : ∀ n, n ∈ bitsOf both → n ∈ bitsOf p.signers ∧ n ∈ bitsOf q.signers := fun n hn => by
      have := mem_bitsOf.1 hn
      rw [← hboth] at this
      simp only [BitVec.getLsbD_and, Bool.and_eq_true] at this
      exact ⟨mem_bitsOf.2 this.1.1, mem_bitsOf.2 this.1.2⟩
    obtain ⟨hmp, hmq⟩ := hbp _ (List.getElem_mem hk)
    have cp := M5.cnts (P3 _ hmp)
    have cq := M5.cnts (Q3 _ hmq)
    generalize (bitsOf both)[k] = n at *
    refine AW_skip ?_
    repeat refine AW_seq ?_
    refine AW_block ?_
    repeat refine AW_seq ?_
    refine AW_reg [6, 7, 9, 18, 129, 130, 131] fun K hK => ?_ -- region 26
    simp [init_eq, px, qx]
    refine hK _ _ ?_; clear hK K
    repeat refine AW_seq ?_
    have hls : aload Tryz.prog G7 38 (.p (some (y, 0, 1))) = some (.p (some (is, 0, 0))) := by simp [aload, z1]
    have hlp : aload Tryz.prog G7 29 (.p (some (a + 2, 0, 0))) = some (.agg p.cells) := by simp [aload, z4, take_cells]
    have hlq : aload Tryz.prog G7 29 (.p (some (a + 3, 0, 0))) = some (.agg q.cells) := by simp [aload, z5, take_cells]
    have hab : ∀ c : Cert, abuild Tryz.prog 60 [(0, cnt n), (1, .agg c.stm.cells)] = some (.agg (Shr.cells ⟨(n : Nat), c.stm⟩)) := fun c => by
      simp [abuild, afill, V.cells, splice_zero, splice_succ, cnt, Stm.cells, Shr.cells, splice]
    refine AW_regd [6, 7, 9, 129, 130, 131, 152] pl_4_27 pe_4_27 (by kernel_rfl) (by kernel_rfl) (by decide) fun K hK => ?_
    simp [init_eq, pl_4_27, afieldAddr, hls, hlp]
    refine ACalls.mono (certStmt_ok ..) fun r G8 ⟨hr, e⟩ => ⟨e ▸ AH.ext.refl _, ?_⟩ -- hallmoot/cert.Stmt
    subst hr e
    simp [hab]
    refine ACalls.mono (counts_ok G8 k7.law.sign _) fun r G9 ⟨hr, e⟩ => ⟨e ▸ AH.ext.refl _, ?_⟩ -- (*hallmoot/sign.Sign).Counts
    subst hr e
    simp [cp, afieldAddr, hls, hlq]
    refine ACalls.mono (certStmt_ok ..) fun r G10 ⟨hr, e⟩ => ⟨e ▸ AH.ext.refl _, ?_⟩ -- hallmoot/cert.Stmt
    subst hr e
    simp [hab]
    refine ACalls.mono (counts_ok G10 k7.law.sign _) fun r G11 ⟨hr, e⟩ => ?_ -- (*hallmoot/sign.Sign).Counts
    subst hr e
    simp [cq]
    refine hK _ _ ?_; clear hK K
    refine AW_condF rfl ?_
    refine AW_skip ?_
    refine AW_reg [6, 7, 9, 129, 130, 131] fun K hK => ?_ -- region 29
    simp [init_eq, wrap_id (x := (k : Int) + 1) (by omega) (by omega)]
    refine hK _ _ ?_; clear hK K
    exact rend ⟨k + 1, by simp, by omega, by omega, .inl rfl⟩
  · refine AW_exit (then_exit (then_exit (block_here ?_)))
    repeat refine AW_seq ?_
    refine AW_reg [8] fun K hK => ?_ -- region 30
    simp [init_eq]
    refine hK _ _ ?_; clear hK K
    exact AW_ret (end_ret rfl rfl)
theorem validMeets_law (H : AH) (vs : List V) (hv : TVals Tryz.prog H Tryz.f4.params.toList vs) : ACalls Tryz.prog 4 vs H fun r _ => r = .b true := by
  have hv' : TVals Tryz.prog H [27, 27, 29, 29] vs := hv
  clear hv
  rcases vs with _ | ⟨a, _ | ⟨b, _ | ⟨c, _ | ⟨d, _ | ⟨z, r⟩⟩⟩⟩⟩
  · exact hv'.elim
  · exact hv'.2.elim
  · exact hv'.2.2.elim
  · exact hv'.2.2.2.elim
  · obtain ⟨l, rfl, _, h⟩ := hv'.1.struct Tryz.underlying27 cellsOf_27
    obtain ⟨i, hi⟩ := tv_in h
    obtain ⟨l2, rfl, _, h⟩ := hv'.2.1.struct Tryz.underlying27 cellsOf_27
    obtain ⟨m, hm⟩ := tv_in h
    obtain ⟨l, rfl, _, h⟩ := hv'.2.2.1.struct Tryz.underlying29 cellsOf_29
    obtain ⟨p, rfl⟩ := tv_cert h
    obtain ⟨l, rfl, _, h⟩ := hv'.2.2.2.1.struct Tryz.underlying29 cellsOf_29
    obtain ⟨q, rfl⟩ := tv_cert h
    exact validmeets_law H hi hm p q
  · exact hv'.2.2.2.2.elim
end Go.Proofs.YtmhaimdpfelkpaaGreatDoor
