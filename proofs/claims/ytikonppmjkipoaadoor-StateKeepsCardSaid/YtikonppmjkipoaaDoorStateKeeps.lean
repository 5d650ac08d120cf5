/-
  StateKeeps: the walk and the law.
-/
import Derived.Test.YtikonppmjkipoaaDoorState13
set_option linter.unusedVariables false
set_option linter.unusedSimpArgs false
namespace Go.Proofs.YtikonppmjkipoaaDoor
open Go Go.Abs Go.Proofs
set_option maxRecDepth 100000
attribute [local irreducible] AEnd AW ACalls
set_option maxHeartbeats 4000000 in
theorem stateKeeps_walk (H : AH) {va vt : V} (l : List Acct) (hva : RS H va 2 (l.map Acct.cells)) (hl : l.length ≤ 140737488351232) (hn : ∀ a ∈ l, a.name.length ≤ 140737488351232) (ts : List Tx) (hvt : RS H vt 7 (ts.map Tx.cells)) (hf : ∀ t ∈ ts, t.fits) :
    ACalls Tryd.prog 4 [va, vt] H fun r _ => r = .b true := by
  refine ACalls_body Tryd.func4 rfl rfl ?_
  refine AW_seq ?_
  refine AW_reg [0, 1] fun K hK => ?_ -- region 0
  simp [init_eq]
  refine hK _ _ ?_; clear hK K
  refine AW_seq ?_
  refine AW_seq ?_
  refine AW_reg [0, 1, 14] fun K hK => ?_ -- region 1
  simp [init_eq]
  refine ACalls.mono (alive_ok H) fun r H' ⟨hr, e⟩ => ?_ -- hallmoot/hallmootlaw09.alive
  have e := e.symm
  subst hr e
  simp
  refine hK _ _ ?_; clear hK K
  refine AW_cond' rfl rfl (fun hc => by cases hc) (fun hc => ?_)
  refine AW_skip ?_
  refine AW_seq ?_
  refine AW_reg [0, 1, 5, 6] fun K hK => ?_ -- region 3
  simp [init_eq]
  refine ACalls.mono (new_ok H l hva hl hn) fun r G ⟨p, hr, u0, hbad, hgood⟩ => ?_ -- hallmoot/state.New
  subst hr
  simp
  refine hK _ _ ?_; clear hK K
  have hvaG := hva.upd u0
  have hvtG := hvt.upd u0
  refine AW_seq ?_
  refine AW_seq ?_
  refine AW_regto [1, 5, 29] ⟨101, [(1, vt), (5, p), (29, .b (!decide ((newP l).2.2 = 0) || gAccs l || gTxs ts))]⟩ G (fun K hk => ?_) ?_ -- region 4
  · by_cases h1 : (newP l).2.2 = 0
    · simp [init_eq, abin, h1]
      refine ACalls.mono (gAccs_ok G l hvaG) fun r H' ⟨hr, e⟩ => ?_
      have e := e.symm
      subst hr e
      cases h2 : gAccs l
      · simp
        refine ACalls.mono (gTxs_ok G ts hvtG) fun r H' ⟨hr, e⟩ => ?_
        have e := e.symm
        subst hr e
        simpa [h1, h2] using hk
      · simpa [h1, h2] using hk
    · simpa [init_eq, abin, h1] using hk
  refine AW_cond' rfl rfl (fun hc => ?_) (fun hc => ?_)
  · refine AW_seq ?_
    refine AW_reg [4] fun K hK => ?_ -- region 5
    simp [init_eq]
    refine hK _ _ ?_; clear hK K
    exact AW_ret (end_ret rfl rfl)
  have hc : (!decide ((newP l).2.2 = 0) || gAccs l || gTxs ts) = false := hc
  simp only [Bool.or_eq_false_iff, Bool.not_eq_false', decide_eq_true_eq] at hc
  obtain ⟨⟨hz, hga⟩, hgt⟩ := hc
  obtain ⟨sid, am, vm, rfl, hst, m1, m2, m3⟩ := hgood hz
  have hal : l.length ≤ 60 ∧ ∀ a ∈ l, a.name.length ≤ 1000 := by
    simp [gAccs, Acct.big] at hga
    exact hga
  have htl : ts.length ≤ 60 ∧ ∀ t ∈ ts, t.great = false := by
    simp [gTxs] at hgt
    exact hgt
  obtain ⟨g1, g2, g3⟩ := newP_good l hal.2 hz
  have gmax : ∀ s : PSt, s.Pos (newP l).2.1 → sumA s.A ≤ 9223372036854775807 := fun s h => by rw [h.sum]; omega
  refine AW_skip ?_
  refine AW_seq ?_
  refine AW_reg [1, 5, 7] fun K hK => ?_ -- region 6
  simp [init_eq]
  refine ACalls.mono (total_ok G hst g2.pos (gmax _ g2)) fun r H' ⟨hr, e⟩ => ?_ -- (*hallmoot/state.State).Total
  have e := e.symm
  subst hr e
  rw [g2.sum]
  try simp
  refine hK _ _ ?_; clear hK K
  refine AW_seq ?_
  refine AW_seq ?_
  refine AW_reg [1, 5, 7, 8] fun K hK => ?_ -- region 7
  simp [init_eq]
  refine hK _ _ ?_; clear hK K
  refine AW_block ?_
  refine AW_loopx (fun i : Nat => ⟨101, [(1, vt), (5, .p (some (sid, 0, 0))), (7, .i .i64 (newP l).2.1), (8, .i .i64 i)]⟩)
    (fun i M => i ≤ ts.length ∧ Upd H M [] ∧ ∃ s : PSt, StAt M sid am vm s ∧ s.Sm (60 + 2 * i) ∧ s.Pos (newP l).2.1) (fun i => ts.length - i) 0 (by simp) ⟨by omega, u0, _, hst, g1.mono (by omega), g2⟩ fun i M ⟨hi, u, s, sM, sm, sp⟩ => ?_ -- loop
  have hvM := hvt.upd u
  have hlen := hvM.alen (P := Tryd.prog) (f := Tx.cells) qelem_23
  refine AW_seq ?_
  refine AW_seq ?_
  refine AW_reg [1, 5, 7, 8, 35] fun K hK => ?_ -- region 8
  simp [init_eq, hlen, abin]
  refine hK _ _ ?_; clear hK K
  refine AW_cond' rfl rfl (fun hc => ?_) (fun hc => ?_)
  · have hlt : i < ts.length := by simpa using hc
    obtain ⟨ax, q1, q2⟩ := hvM.rec (f := Tx.cells) (sz := 7) Tx.len (by decide) (P := Tryd.prog) qelem_23 qsize_25 qagg_25 hlt
    have htf := hf ts[i] (List.getElem_mem hlt)
    have htg := htl.2 ts[i] (List.getElem_mem hlt)
    generalize ts[i] = t at *
    obtain ⟨A, r1, r2, r3, r4⟩ := tx_new M [.i .i64 0, .s [], .s [], .s [], .s [], .i .i64 0, .i .i64 0] rfl t
    refine AW_skip ?_
    refine AW_seq ?_
    refine AW_block ?_
    refine AW_seq ?_
    refine AW_reg [1, 5, 7, 8, 9] fun K hK => ?_ -- region 10
    simp [init_eq, q1, q2, V.cells]
    refine ⟨A, r1, ?_⟩
    refine hK _ _ ?_; clear hK K
    have sA := sM.same r3
    have uA := u.trans r3 (by simp)
    have ltx : ∀ {X : AH} {F : List Nat}, Upd A X F → M.next ∉ F → X.get M.next = some (.cells t.cells 0 false 0) := fun u h => u.keep h r2
    have lsid := AH.get_lt sM.gs
    have lam := AH.get_lt sM.ga
    have lvm := AH.get_lt sM.gv
    refine AW_seq ?_
    refine AW_reg [1, 5, 7, 8, 9, 10] fun K hK => ?_ -- region 11
    simp [init_eq]
    refine ACalls.mono (digest_is A sA sm (by omega)) fun r H' ⟨⟨D, hr, hD⟩, e⟩ => ?_ -- (*hallmoot/state.State).Digest
    have e := e.symm
    subst hr e
    try simp
    refine hK _ _ ?_; clear hK K
    refine AW_seq ?_
    refine AW_reg [1, 5, 7, 8, 9, 10, 11] fun K hK => ?_ -- region 12
    simp [init_eq, afieldAddr, aload, r2, txc1]
    refine ACalls.mono (nonce_ok A sA t.src) fun r H' ⟨hr, e⟩ => ?_ -- (*hallmoot/state.State).Nonce
    have e := e.symm
    subst hr e
    try simp
    refine hK _ _ ?_; clear hK K
    refine AW_seq ?_
    refine AW_reg [1, 5, 7, 8, 9, 10, 11, 12] fun K hK => ?_ -- region 13
    simp [init_eq, aload, r2]
    refine ACalls.mono (sdo_ok A sA t htf) fun r B ⟨hr, sB, uB⟩ => ?_ -- (*hallmoot/state.State).Do
    subst hr
    try simp
    refine hK _ _ ?_; clear hK K
    have sm1 := sm.doP htg
    have sp1 := sp.doP g3 t
    have tB : B.get M.next = some (.cells t.cells 0 false 0) := uB.keep (by simp; omega) r2
    have uHB : Upd H B [] := uA.trans uB (fun j hj => .inr (by simp at hj; omega))
    have all0 := g2.all0
    refine AW_seq ?_
    refine AW_seq ?_
    refine AW_regto [1, 5, 7, 8, 9, 11, 12, 58] ⟨101, [(1, vt), (5, .p (some (sid, 0, 0))), (7, .i .i64 (newP l).2.1), (8, .i .i64 i), (9, .p (some (M.next, 0, 0))), (11, .i .i64 (s.acc t.src).2), (12, .i .i64 (s.doP t).2), (58, .b false)]⟩ B (fun K hk => ?_) ?_ -- region 14
    · by_cases he : (s.doP t).2 = 0
      · simpa [init_eq, abin, he] using hk
      · simp [init_eq, abin, he]
        refine ACalls.mono (digest_is B sB sm1 (by omega)) fun r H' ⟨⟨D', hr, hD'⟩, e⟩ => ?_
        have e := e.symm
        subst hr e
        rw [doP_err he] at hD'
        obtain rfl := hD.uniq hD'
        simpa [abin, astr, he] using hk
    refine AW_cond' rfl rfl (fun hc => by cases hc) (fun hc => ?_)
    refine AW_skip ?_
    refine rend ?_
    refine AW_cut (fun ρ' X => ρ' = ⟨101, [(1, vt), (5, .p (some (sid, 0, 0))), (7, .i .i64 (newP l).2.1), (8, .i .i64 i), (9, .p (some (M.next, 0, 0)))]⟩ ∧ Upd H X [] ∧ StAt X sid am vm (s.doP t).1 ∧ X.get M.next = some (.cells t.cells 0 false 0)) ?_ ?_
    · refine AW_seq ?_
      by_cases he : (s.doP t).2 = 0
      · obtain ⟨n1, n2, n3⟩ := doP_nonce he
        refine AW_reg [1, 5, 7, 8, 9, 82] fun K hK => ?_ -- region 16
        simp [init_eq, abin, he, afieldAddr, aload, tB, txc1, txc6]
        refine ACalls.mono (nonce_ok B sB t.src) fun r H' ⟨hr, e⟩ => ?_
        have e := e.symm
        subst hr e
        simp [abin, n1, ← n2, afieldAddr, aload, tB, txc6]
        refine ACalls.mono (sdo_ok B sB t htf) fun r X ⟨hr, sX, uX⟩ => ?_
        rw [n3] at hr sX
        subst hr
        simp [abin]
        refine hK _ _ ?_; clear hK K
        refine AW_cond' rfl rfl (fun hc => by cases hc) (fun hc => ?_)
        exact AW_skip (rend ⟨_, by simp, rfl, uHB.trans uX (fun j hj => .inr (by simp at hj; omega)), sX, uX.keep (by simp; omega) tB⟩)
      · refine AW_reg [1, 5, 7, 8, 9, 82] fun K hK => ?_ -- region 16
        simp [init_eq, abin, he]
        refine hK _ _ ?_; clear hK K
        refine AW_cond' rfl rfl (fun hc => by cases hc) (fun hc => ?_)
        exact AW_skip (rend ⟨_, by simp, rfl, uHB, sB, tB⟩)
    rintro _ X ⟨rfl, uHX, sX, tX⟩
    have a1 := sp1.acc all0 t.src
    have a2 := sp1.acc all0 t.dst
    have a1' : ¬ ((s.doP t).1.acc t.src).1 < 0 := by omega
    have a2' : ¬ ((s.doP t).1.acc t.dst).1 < 0 := by omega
    refine AW_seq ?_
    refine AW_reg [1, 5, 7, 8, 100] fun K hK => ?_ -- region 18
    simp [init_eq, abin, afieldAddr, aload, tX, txc1, txc2]
    refine ACalls.mono (total_ok X sX sp1.pos (gmax _ sp1)) fun r H' ⟨hr, e⟩ => ?_ -- (*hallmoot/state.State).Total
    have e := e.symm
    subst hr e
    rw [sp1.sum]
    simp [abin, afieldAddr, aload, tX, txc1, txc2]
    refine ACalls.mono (amount_ok X sX t.src) fun r H' ⟨hr, e⟩ => ?_ -- (*hallmoot/state.State).Amount
    have e := e.symm
    subst hr e
    simp [abin, a1', afieldAddr, aload, tX, txc1, txc2]
    refine ACalls.mono (amount_ok X sX t.dst) fun r H' ⟨hr, e⟩ => ?_ -- (*hallmoot/state.State).Amount
    have e := e.symm
    subst hr e
    simp [abin, a2']
    refine hK _ _ ?_; clear hK K
    refine AW_cond' rfl rfl (fun hc => by cases hc) (fun hc => ?_)
    refine AW_skip (bend (rend ?_))
    refine AW_reg [1, 5, 7, 8] fun K hK => ?_ -- region 9
    simp [init_eq, abin, wrap_id (x := (i : Int) + 1) (by omega) (by omega)]
    refine hK _ _ ?_; clear hK K
    exact rend ⟨i + 1, by simp, ⟨hlt, uHX, _, sX, sm1.mono (by omega), sp1⟩, by omega⟩ -- round's end
  · refine AW_exit (then_exit (then_exit (block_here (rend ?_))))
    refine AW_seq ?_
    refine AW_reg [4] fun K hK => ?_ -- region 20
    simp [init_eq]
    refine hK _ _ ?_; clear hK K
    exact AW_ret (end_ret rfl rfl)
theorem stateKeeps_law (H : AH) (vs : List V) (hv : TVals Tryd.prog H Tryd.f4.params.toList vs) : ACalls Tryd.prog 4 vs H fun r _ => r = .b true := by
  have hv' : TVals Tryd.prog H [22, 23] vs := hv
  clear hv
  rcases vs with _ | ⟨a, _ | ⟨b, _ | ⟨z, r⟩⟩⟩
  · exact hv'.elim
  · exact hv'.2.elim
  · obtain ⟨l, h1, h2, h3⟩ := val_accts hv'.1
    obtain ⟨ts, k1, k2, k3⟩ := val_txs hv'.2.1
    exact stateKeeps_walk H l h1 h3 h2 ts k1 k2
  · exact hv'.2.2.elim
end Go.Proofs.YtikonppmjkipoaaDoor
