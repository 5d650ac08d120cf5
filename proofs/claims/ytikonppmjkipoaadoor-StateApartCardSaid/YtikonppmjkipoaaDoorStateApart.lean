/-
  StateApart: the walk and the law.
-/
import Derived.Test.YtikonppmjkipoaaDoorState14
set_option linter.unusedVariables false
set_option linter.unusedSimpArgs false
namespace Go.Proofs.YtikonppmjkipoaaDoor
open Go Go.Abs Go.Proofs
set_option maxRecDepth 100000
attribute [local irreducible] AEnd AW ACalls
theorem two_txs (G : AH) (a b : Tx) : ∃ X, abuildSlice Tryd.prog G 23 2 [(0, .agg a.cells), (1, .agg b.cells)] = some (.sl (some (G.next, 0, 0)) 2 false, X) ∧ RS X (.sl (some (G.next, 0, 0)) 2 false) 7 ([a, b].map Tx.cells) ∧ Upd G X [] := by
  refine ⟨G.new (.cells (a.cells ++ b.cells) 0 false 7), ?_, ?_, Upd.new ..⟩
  · simp only [abuildSlice, qelem_23, qsize_25, qzero_25, V.cells, afill]
    rfl
  · refine ⟨by simp, .inr ⟨G.next, 0, 0, a.cells ++ b.cells, false, 7, by simp, AH.get_new_same .., .inr rfl, by simp, by simp; rfl⟩⟩
set_option maxHeartbeats 4000000 in
theorem stateApart_walk (H : AH) {va vt : V} (l : List Acct) (hva : RS H va 2 (l.map Acct.cells)) (hl : l.length ≤ 140737488351232) (hn : ∀ a ∈ l, a.name.length ≤ 140737488351232) (ts : List Tx) (hvt : RS H vt 7 (ts.map Tx.cells)) (hf : ∀ t ∈ ts, t.fits) (a b : Tx) (haf : a.fits) (hbf : b.fits) :
    ACalls Tryd.prog 3 [va, vt, .agg a.cells, .agg b.cells] H fun r _ => r = .b true := by
  refine ACalls_body Tryd.func3 rfl rfl ?_
  refine AW_seq ?_
  refine AW_reg [0, 1, 6, 7] fun K hK => ?_ -- region 0
  simp [init_eq, V.cells]
  obtain ⟨B, e1, ga, gb, gn, go⟩ := H.boxed2 a.cells b.cells
  try change K _ ((H.new (.cells a.cells 0 false 0)).new (.cells b.cells 0 false 0))
  rw [e1]
  refine hK _ _ ?_; clear hK K
  have uB : Upd H B [] := ⟨by omega, fun j hj _ => go j hj⟩
  refine AW_seq ?_
  refine AW_seq ?_
  refine AW_reg [0, 1, 6, 7, 18] fun K hK => ?_ -- region 1
  simp [init_eq]
  refine ACalls.mono (alive_ok B) fun r H' ⟨hr, e⟩ => ?_ -- hallmoot/hallmootlaw09.alive
  have e := e.symm
  subst hr e
  simp
  refine hK _ _ ?_; clear hK K
  refine AW_cond' rfl rfl (fun hc => by cases hc) (fun hc => ?_)
  refine AW_skip ?_
  refine rend ?_
  have hvaB := hva.upd uB
  have hvtB := hvt.upd uB
  have lta : ∀ {X : AH}, Upd B X [] → aload Tryd.prog X 25 (.p (some (H.next, 0, 0))) = some (.agg a.cells) := fun u => by simp [aload, u.keep (by simp) ga]; rfl
  have ltb : ∀ {X : AH}, Upd B X [] → aload Tryd.prog X 25 (.p (some (H.next + 1, 0, 0))) = some (.agg b.cells) := fun u => by simp [aload, u.keep (by simp) gb]; rfl
  refine AW_cut (fun ρ' X => ρ' = ⟨100, [(0, va), (1, vt), (6, .p (some (H.next, 0, 0))), (7, .p (some (H.next + 1, 0, 0)))]⟩ ∧ Upd B X [] ∧ gAccs l = false ∧ gTxs ts = false ∧ gTxs [a, b] = false) ?_ ?_
  · refine AW_seq ?_
    refine AW_reg [0, 1, 6, 7, 30] fun K hK => ?_ -- region 3
    simp [init_eq]
    refine ACalls.mono (gAccs_ok B l hvaB) fun r H' ⟨hr, e⟩ => ?_ -- hallmoot/hallmootref09.Great
    have e := e.symm
    subst hr e
    cases hg1 : gAccs l
    · simp
      refine ACalls.mono (gTxs_ok B ts hvtB) fun r H' ⟨hr, e⟩ => ?_ -- hallmoot/hallmootlaw09.Great
      have e := e.symm
      subst hr e
      cases hg2 : gTxs ts
      · obtain ⟨X, b1, b2, b3⟩ := two_txs B a b
        simp [lta (Upd.refl B []), ltb (Upd.refl B []), b1]
        refine ACalls.mono (gTxs_ok X [a, b] b2) fun r H' ⟨hr, e⟩ => ?_ -- hallmoot/hallmootlaw09.Great
        have e := e.symm
        subst hr e
        try simp
        refine hK _ _ ?_; clear hK K
        refine AW_cond' rfl rfl (fun hc => ?_) (fun hc => ?_)
        · refine AW_seq ?_
          refine AW_reg [8] fun K hK => ?_ -- region 4
          simp [init_eq]
          refine hK _ _ ?_; clear hK K
          exact AW_ret (end_ret rfl rfl)
        · have hg3 : gTxs [a, b] = false := hc
          exact AW_skip (rend ⟨_, by simp, rfl, b3, hg1, hg2, hg3⟩)
      · simp
        refine hK _ _ ?_; clear hK K
        refine AW_cond' rfl rfl (fun hc => ?_) (fun hc => by cases hc)
        refine AW_seq ?_
        refine AW_reg [8] fun K hK => ?_ -- region 4
        simp [init_eq]
        refine hK _ _ ?_; clear hK K
        exact AW_ret (end_ret rfl rfl)
    · simp
      refine hK _ _ ?_; clear hK K
      refine AW_cond' rfl rfl (fun hc => ?_) (fun hc => by cases hc)
      refine AW_seq ?_
      refine AW_reg [8] fun K hK => ?_ -- region 4
      simp [init_eq]
      refine hK _ _ ?_; clear hK K
      exact AW_ret (end_ret rfl rfl)
  rintro _ X ⟨rfl, uX, hga, hgt, hgab⟩
  have hal : l.length ≤ 60 ∧ ∀ a ∈ l, a.name.length ≤ 1000 := by
    simp [gAccs, Acct.big] at hga
    exact hga
  have htl : ts.length ≤ 60 ∧ ∀ t ∈ ts, t.great = false := by
    simp [gTxs] at hgt
    exact hgt
  have hag : a.great = false ∧ b.great = false := by
    simp [gTxs] at hgab
    exact hgab
  have uHX : Upd H X [] := uB.trans uX (by simp)
  refine AW_seq ?_
  refine AW_reg [1, 6, 7, 9, 10] fun K hK => ?_ -- region 5
  simp [init_eq]
  refine ACalls.mono (new_ok X l (hvaB.upd uX) hl hn) fun r Y ⟨p, hr, uY, hbad, hgood⟩ => ?_ -- hallmoot/state.New
  subst hr
  simp
  refine hK _ _ ?_; clear hK K
  have uBY := uX.trans uY (by simp)
  have fa : ∀ {Z : AH}, Upd B Z [] → aload Tryd.prog Z 9 (.p (some (H.next, 0, 1))) = some (.s a.src) ∧ aload Tryd.prog Z 9 (.p (some (H.next, 0, 2))) = some (.s a.dst) := fun u => by
    have := u.keep (by simp) ga
    exact ⟨by simp [aload, this, txc1], by simp [aload, this, txc2]⟩
  have fb : ∀ {Z : AH}, Upd B Z [] → aload Tryd.prog Z 9 (.p (some (H.next + 1, 0, 1))) = some (.s b.src) ∧ aload Tryd.prog Z 9 (.p (some (H.next + 1, 0, 2))) = some (.s b.dst) := fun u => by
    have := u.keep (by simp) gb
    exact ⟨by simp [aload, this, txc1], by simp [aload, this, txc2]⟩
  refine AW_seq ?_
  refine AW_seq ?_
  refine AW_regto [1, 6, 7, 9, 58] ⟨100, [(1, vt), (6, .p (some (H.next, 0, 0))), (7, .p (some (H.next + 1, 0, 0))), (9, p), (58, .b (!decide ((newP l).2.2 = 0) || (decide (a.src = b.src) || (decide (a.src = b.dst) || decide (a.dst = b.src)))))]⟩ Y (fun K hk => ?_) ?_ -- region 6
  · obtain ⟨fa1, fa2⟩ := fa uBY
    obtain ⟨fb1, fb2⟩ := fb uBY
    have q1 : ∀ x y : List UInt8, (x == y) = decide (x = y) := fun x y => Bool.eq_iff_iff.2 (by simp)
    by_cases h1 : (newP l).2.2 = 0
    · rw [h1] at hk
      simp only [decide_true, Bool.not_true, Bool.false_or] at hk
      simp [init_eq, abin, astr, afieldAddr, fa1, fa2, fb1, fb2, h1, q1]
      cases h2 : decide (a.src = b.src)
      · simp only [h2, Bool.false_or] at hk
        simp [init_eq, abin, astr, afieldAddr, fa1, fa2, fb1, fb2, q1]
        cases h3 : decide (a.src = b.dst)
        · simp only [h3, Bool.false_or] at hk
          simpa [init_eq, abin, astr, afieldAddr, fa1, fa2, fb1, fb2, q1] using hk
        · simp only [h3, Bool.true_or] at hk
          simpa [init_eq, abin, astr, afieldAddr, fa1, fa2, fb1, fb2, q1] using hk
      · simp only [h2, Bool.true_or] at hk
        simpa [init_eq, abin, astr, afieldAddr, fa1, fa2, fb1, fb2, q1] using hk
    · simpa [init_eq, abin, astr, afieldAddr, h1] using hk
  refine AW_cond' rfl rfl (fun hc => ?_) (fun hc => ?_)
  · refine AW_seq ?_
    refine AW_reg [8] fun K hK => ?_ -- region 7
    simp [init_eq]
    refine hK _ _ ?_; clear hK K
    exact AW_ret (end_ret rfl rfl)
  have hc : (!decide ((newP l).2.2 = 0) || (decide (a.src = b.src) || (decide (a.src = b.dst) || decide (a.dst = b.src)))) = false := hc
  simp only [Bool.or_eq_false_iff, Bool.not_eq_false', decide_eq_true_eq, decide_eq_false_iff_not] at hc
  obtain ⟨hz, h1, h2, h3⟩ := hc
  obtain ⟨sid, am, vm, rfl, hst, m1, m2, m3⟩ := hgood hz
  have hXn : H.next + 2 ≤ X.next := by have := uX.1; omega
  obtain ⟨g1, g2, g3⟩ := newP_good l hal.2 hz
  refine AW_skip ?_
  refine rend ?_
  refine AW_seq ?_
  refine AW_seq ?_
  refine AW_reg [1, 6, 7, 9, 11] fun K hK => ?_ -- region 8
  simp [init_eq]
  refine hK _ _ ?_; clear hK K
  refine AW_block ?_
  refine AW_loopx (fun i : Nat => ⟨100, [(1, vt), (6, .p (some (H.next, 0, 0))), (7, .p (some (H.next + 1, 0, 0))), (9, .p (some (sid, 0, 0))), (11, .i .i64 i)]⟩)
    (fun i M => i ≤ ts.length ∧ Upd B M [] ∧ ∃ s : PSt, StAt M sid am vm s ∧ s.Sm (60 + 2 * i)) (fun i => ts.length - i) 0 (by simp) ⟨by omega, uBY, _, hst, g1.mono (by omega)⟩ fun i M ⟨hi, u, s, sM, sm⟩ => ?_ -- loop
  have hvM := hvtB.upd u
  have hlen := hvM.alen (P := Tryd.prog) (f := Tx.cells) qelem_23
  refine AW_seq ?_
  refine AW_seq ?_
  refine AW_reg [1, 6, 7, 9, 11, 62] fun K hK => ?_ -- region 9
  simp [init_eq, hlen, abin]
  refine hK _ _ ?_; clear hK K
  refine AW_cond' rfl rfl (fun hc => ?_) (fun hc => ?_)
  · have hlt : i < ts.length := by simpa using hc
    obtain ⟨ax, q1, q2⟩ := hvM.rec (f := Tx.cells) (sz := 7) Tx.len (by decide) (P := Tryd.prog) qelem_23 qsize_25 qagg_25 hlt
    have htf := hf ts[i] (List.getElem_mem hlt)
    have htg := htl.2 ts[i] (List.getElem_mem hlt)
    generalize ts[i] = t at *
    refine AW_skip ?_
    refine rend ?_
    refine AW_seq ?_
    refine AW_block ?_
    refine AW_reg [1, 6, 7, 9, 11] fun K hK => ?_ -- region 11
    simp [init_eq, q1, q2]
    refine ACalls.mono (sdo_ok M sM t htf) fun r N ⟨hr, sN, uN⟩ => ?_ -- (*hallmoot/state.State).Do
    try simp
    refine hK _ _ ?_; clear hK K
    refine bend (rend ?_)
    refine AW_reg [1, 6, 7, 9, 11] fun K hK => ?_ -- region 10
    simp [init_eq, abin, wrap_id (x := (i : Int) + 1) (by omega) (by omega)]
    refine hK _ _ ?_; clear hK K
    exact rend ⟨i + 1, by simp, ⟨hlt, u.trans uN (fun j hj => .inr (by simp at hj; omega)), _, sN, (sm.doP htg).mono (by omega)⟩, by omega⟩ -- round's end
  · have sm : s.Sm 200 := sm.mono (by omega)
    have lsid := AH.get_lt sM.gs
    have lam := AH.get_lt sM.ga
    have lvm := AH.get_lt sM.gv
    refine AW_exit (then_exit (then_exit (block_here (rend ?_))))
    refine AW_seq ?_
    refine AW_reg [6, 7, 9, 12] fun K hK => ?_ -- region 12
    simp [init_eq]
    refine ACalls.mono (copy_ok M sM) fun r N ⟨sid', am', vm', hr, tN, uN, k1, k2, k3⟩ => ?_ -- (*hallmoot/state.State).Copy
    subst hr
    try simp
    refine hK _ _ ?_; clear hK K
    have sN := sM.same uN
    have uBN := u.trans uN (by simp)
    have oa : ∀ {Z : AH} {F : List Nat}, Upd N Z F → (∀ j ∈ F, B.next ≤ j) → aload Tryd.prog Z 25 (.p (some (H.next, 0, 0))) = some (.agg a.cells) ∧ aload Tryd.prog Z 25 (.p (some (H.next + 1, 0, 0))) = some (.agg b.cells) := fun uz hF =>
      have uu := uBN.trans uz (fun j hj => .inr (hF j hj))
      ⟨lta uu, ltb uu⟩
    have hx : B.next ≤ X.next := uX.1
    have og : ∀ {Z : AH} {F : List Nat} {j : Nat}, Upd N Z F → (∀ j ∈ F, B.next ≤ j) → j < B.next → Z.get j = N.get j := fun uz hF hj => uz.2 _ (by have := uBN.1; omega) (fun hm => by have := hF _ hm; omega)
    obtain ⟨p1, p2⟩ := oa (Upd.refl N []) (by simp)
    refine AW_seq ?_
    refine AW_regm (.only [H.next, H.next + 1]) [6, 7, 9, 12, 13, 14] pl_3_13 pe_3_13 (by kernel_rfl) (by kernel_rfl) (by decide) fun K hK => ?_
    simp [init_eq, pl_3_13, APlan_takem, through, tkOk, rid, p1, p2]
    refine ACalls.mono (sdo_ok N sN a haf) fun r N1 ⟨hr, s1, u1⟩ => ?_ -- (*hallmoot/state.State).Do
    subst hr
    have big1 : ∀ j ∈ [am, vm], B.next ≤ j := fun j hj => by simp at hj; omega
    have big2 : ∀ j ∈ [am', vm'], B.next ≤ j := fun j hj => by simp at hj; omega
    refine ⟨⟨u1.1, fun _ => og u1 big1 (by omega), fun _ => og u1 big1 (by omega)⟩, ?_⟩
    refine ACalls.mono (sdo_ok N1 s1 b hbf) fun r N2 ⟨hr, s2, u2⟩ => ?_ -- (*hallmoot/state.State).Do
    subst hr
    refine hK _ _ ?_; clear hK K
    have u12 : Upd N N2 [am, vm] := u1.trans u2 (fun j hj => .inl hj)
    have t2 : StAt N2 sid' am' vm' s := tN.upd u12 (by simp; omega) (by simp; omega) (by simp; omega)
    obtain ⟨p1, p2⟩ := oa u12 big1
    have ln' := tN.nes
    have lsid' := AH.get_lt tN.gs
    have lam' := AH.get_lt tN.ga
    have lvm' := AH.get_lt tN.gv
    refine AW_seq ?_
    refine AW_regm (.only [H.next, H.next + 1]) [9, 12, 13, 14, 15, 16] pl_3_14 pe_3_14 (by kernel_rfl) (by kernel_rfl) (by decide) fun K hK => ?_
    simp [init_eq, pl_3_14, APlan_takem, through, tkOk, rid, p1, p2]
    refine ACalls.mono (sdo_ok N2 t2 b hbf) fun r N3 ⟨hr, t3, u3⟩ => ?_ -- (*hallmoot/state.State).Do
    subst hr
    have u13 : Upd N N3 [am, vm, am', vm'] := (u12.mono (by simp)).trans u3 (fun j hj => .inl (by simp at hj ⊢; omega))
    have big3 : ∀ j ∈ [am, vm, am', vm'], B.next ≤ j := fun j hj => by simp at hj; omega
    refine ⟨⟨u3.1, fun _ => (og u13 big3 (by omega)).trans (og u12 big1 (by omega)).symm, fun _ => (og u13 big3 (by omega)).trans (og u12 big1 (by omega)).symm⟩, ?_⟩
    refine ACalls.mono (sdo_ok N3 t3 a haf) fun r N4 ⟨hr, t4, u4⟩ => ?_ -- (*hallmoot/state.State).Do
    subst hr
    refine hK _ _ ?_; clear hK K
    have s4 : StAt N4 sid am vm ((s.doP a).1.doP b).1 := (s2.upd u3 (by simp; omega) (by simp; omega) (by simp; omega)).upd u4 (by simp; omega) (by simp; omega) (by simp; omega)
    obtain ⟨c1, c2, c3, c4⟩ := apart (s := s) (a := a) (b := b) h1 h2 h3
    have sm4 : ((s.doP a).1.doP b).1.Sm 204 := (sm.doP hag.1).doP hag.2
    have tm4 : ((s.doP b).1.doP a).1.Sm 204 := (sm.doP hag.2).doP hag.1
    refine AW_seq ?_
    refine AW_reg [8] fun K hK => ?_ -- region 15
    simp [init_eq, abin, ← c1, c2]
    refine ACalls.mono (digest_is N4 s4 sm4 (by omega)) fun r H' ⟨⟨D, hr, hD⟩, e⟩ => ?_ -- (*hallmoot/state.State).Digest
    have e := e.symm
    subst hr e
    try simp
    refine ACalls.mono (digest_is N4 t4 tm4 (by omega)) fun r H' ⟨⟨D', hr, hD'⟩, e⟩ => ?_ -- (*hallmoot/state.State).Digest
    have e := e.symm
    subst hr e
    have hDD : D = D' := hD.content hD' s4.ao s4.bo t4.ao t4.bo c3 c4
    subst hDD
    simp [abin, astr]
    refine hK _ _ ?_; clear hK K
    exact AW_ret (end_ret rfl rfl)
theorem stateApart_law (H : AH) (vs : List V) (hv : TVals Tryd.prog H Tryd.f3.params.toList vs) : ACalls Tryd.prog 3 vs H fun r _ => r = .b true := by
  have hv' : TVals Tryd.prog H [22, 23, 25, 25] vs := hv
  clear hv
  rcases vs with _ | ⟨a, _ | ⟨b, _ | ⟨c, _ | ⟨d, _ | ⟨z, r⟩⟩⟩⟩⟩
  · exact hv'.elim
  · exact hv'.2.elim
  · exact hv'.2.2.elim
  · exact hv'.2.2.2.elim
  · obtain ⟨l, h1, h2, h3⟩ := val_accts hv'.1
    obtain ⟨ts, k1, k2, k3⟩ := val_txs hv'.2.1
    obtain ⟨m1, rfl, _, c1⟩ := hv'.2.2.1.struct Tryd.underlying25 cellsOf_25
    obtain ⟨m2, rfl, _, c2⟩ := hv'.2.2.2.1.struct Tryd.underlying25 cellsOf_25
    obtain ⟨a, rfl, haf⟩ := tv_txF c1
    obtain ⟨b, rfl, hbf⟩ := tv_txF c2
    exact stateApart_walk H l h1 h3 h2 ts k1 k2 a b haf hbf
  · exact hv'.2.2.2.2.elim
end Go.Proofs.YtikonppmjkipoaaDoor
