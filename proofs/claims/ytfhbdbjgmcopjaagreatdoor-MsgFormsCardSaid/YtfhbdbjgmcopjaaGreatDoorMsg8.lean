/-
  msg.Bytes, whole.
-/
import Derived.Test.YtfhbdbjgmcopjaaGreatDoorMsg7
set_option linter.unusedVariables false
set_option linter.unusedSimpArgs false
namespace Go.Proofs.YtfhbdbjgmcopjaaGreatDoor
open Go Go.Abs Go.Proofs
set_option maxRecDepth 100000
attribute [local irreducible] AEnd AW ACalls

theorem blk_len {b : Blk} (h : b.err = 0) : b.bytes.length ≤ 10000 := by
  have hR := Blk.rng h
  have i1 := hR.view; have i2 := hR.round; have i3 := hR.height; have i4 := hR.author; have i5 := hR.proof; have i6 := hR.txs
  have ln1 := numB_len9 (n := b.view.toNat) (by omega)
  have ln2 := numB_len9 (n := b.round.toNat) (by omega)
  have ln3 := numB_len9 (n := b.height.toNat) (by omega)
  have ln4 := numB_len9 (n := b.author.toNat) (by omega)
  have ln5 := numB_len9 (n := b.proof.length) (by omega)
  have ln6 := numB_len9 (n := b.txs.length) (by omega)
  have lc := Cert.bytes_len (Cert.rng hR.parent)
  have lp := flat_len (f := Tmo.bytes) (k := 81) b.proof fun t ht => by
    have := hR.tmos t ht; exact Tmo.bytes_len this.1 this.2
  have lt := flat_len (f := Tx.bytes) (k := 500) b.txs fun t ht => Tx.bytes_len (Tx.rng (hR.each t ht))
  unfold Blk.bytes
  simp only [List.length_append]
  omega
theorem Msg.high_cells (m : Msg) (lv pv tv : V) : ((m.cells lv pv tv).drop 15).take 8 = m.tmo.high.cells := rfl
theorem pair_bytes {m : Msg} (h : mclass m.kind = .nums) : m.bodyBytes = [m.pair.1, m.pair.2].flatMap fun x => numB x.toNat := by
  unfold Msg.bodyBytes Msg.pair
  rw [h]
  simp only []
  by_cases k7 : m.kind = 7
  · simp [k7]
  · by_cases k8 : m.kind = 8
    · simp [k8]
    · simp [k7, k8]
theorem pair_rng {m : Msg} (h : m.numsOk = true) : ∀ x ∈ [m.pair.1, m.pair.2], 0 ≤ x ∧ x ≤ 4294967296 := by
  unfold Msg.numsOk at h
  unfold Msg.pair
  intro x hx
  by_cases k7 : m.kind = 7
  · simp only [if_pos k7, inR, Bool.and_eq_true, decide_eq_true_eq, List.mem_cons, List.not_mem_nil, or_false] at h hx
    have := m.set.isLt
    rcases hx with rfl | rfl <;> omega
  · by_cases k8 : m.kind = 8
    · simp only [if_neg k7, if_pos k8, inR, Bool.and_eq_true, decide_eq_true_eq, List.mem_cons, List.not_mem_nil, or_false] at h hx
      rcases hx with rfl | rfl <;> omega
    · simp only [if_neg k7, if_neg k8, inR, Bool.and_eq_true, decide_eq_true_eq, List.mem_cons, List.not_mem_nil, or_false] at h hx
      rcases hx with rfl | rfl <;> omega
/-- What is written, and the error. -/
def Msg.wr (m : Msg) : List UInt8 × Int := if m.ok = true then (if m.bytes.length ≤ 65536 then (m.bytes, 0) else ([], 2)) else ([], 140)
theorem Blk.err_small {b : Blk} (h : b.err = 0) : b.small := by
  have hR := Blk.rng h
  exact ⟨by have := hR.proof; omega, by have := hR.txs; omega, fun t ht => (Tx.rng (hR.each t ht)).small⟩
set_option maxHeartbeats 8000000 in
theorem mbytes_ok (H : AH) {m : Msg} {lv pv tv : V} (hm : MsgAt H m lv pv tv) (hf : m.fit) : ACalls Tryz.prog 7 [.agg (m.cells lv pv tv)] H fun r H' => r = .tup [.s m.wr.1, .i .i64 m.wr.2] ∧ H' = H := by
  refine ACalls.pure (Q := fun r => r = .tup [.s m.wr.1, .i .i64 m.wr.2]) ⟨_, Tryz.func7, rfl, rfl⟩ ?_
  refine ACalls_body Tryz.func7 rfl rfl ?_
  refine AW_seq ?_
  refine AW_reg [1] fun K hK => ?_ -- region 0
  simp [init_eq, V.cells]
  obtain ⟨B, e1, hp, hn, ho⟩ := H.boxed (m.cells lv pv tv)
  rw [e1]
  refine hK _ _ ?_; clear hK K
  have uB : Upd H B [] := ⟨by omega, fun j hj _ => ho j hj⟩
  have hmB := hm.same ho
  clear e1 ho
  refine AW_seq ?_
  refine AW_seq ?_
  refine AW_reg [1, 4] fun K hK => ?_ -- region 1
  simp [init_eq, aload, hp, msg_take]
  refine ACalls.mono (mcheck_ok _ hmB hf) fun r H' ⟨hr, e⟩ => ?_ -- hallmoot/msg.Check
  subst hr e
  try simp
  refine hK _ _ ?_; clear hK K
  refine AW_seq ?_
  refine AW_reg [1, 4, 22] fun K hK => ?_ -- region 2
  simp [init_eq]
  refine hK _ _ ?_; clear hK K
  refine AW_cond' rfl rfl (fun hc => ?_) (fun hc => ?_)
  · have hno : m.ok = false := by cases h : m.ok <;> simp [h] at hc ⊢
    refine AW_seq ?_
    refine AW_reg [2, 3] fun K hK => ?_ -- region 3
    simp [init_eq, hno]
    refine hK _ _ ?_; clear hK K
    refine AW_ret (end_ret rfl ⟨?_, by simp, uB.1, fun j hj => uB.2 j hj (by simp)⟩)
    simp [Msg.wr, hno]
  have hok : m.ok = true := by cases h : m.ok <;> simp [h] at hc ⊢
  have hbo : m.body = true := by unfold Msg.ok at hok; simp at hok; exact hok.1
  have hk := Msg.kind_rng hbo
  have lk := numB_len9 (n := m.kind.toNat) (by omega)
  refine AW_skip ?_
  refine AW_seq ?_
  obtain ⟨q1, q2, q3⟩ := one_num H' m.kind.toNat
  rw [Int.toNat_of_nonneg (by omega)] at q1 q2 q3
  generalize hG2 : H'.new (.cells [.i .i64 m.kind] 0 false 1) = H2 at q1 q2 q3
  clear hG2
  refine AW_reg [1, 5] fun K hK => ?_ -- region 4
  simp [init_eq, afieldAddr, aload, hp, q1]
  refine ACalls.mono (nums_ok H2 q2 (by intro n hn; simp at hn; omega) (by simp)) fun r H3 h => ?_ -- hallmoot/wire.Nums
  obtain ⟨v3, rfl, F3, o3, u3, l3⟩ := h
  have hz : V.cells (.sl none 0 false) = some [.sl none 0 false] := rfl
  simp [astore, AH.get_new, hz, o3.cells, splice_zero]
  refine hK _ _ ?_; clear hK K
  have O4 : Ow H' ((H3.new (.cells [.sl none 0 false] 0 false 0)).set H3.next (.cells [v3] 0 false 0)) H3.next [] (numB m.kind.toNat) := by
    have hu : Upd H3 ((H3.new (.cells [.sl none 0 false] 0 false 0)).set H3.next (.cells [v3] 0 false 0)) [] := ⟨by simp, fun j hj _ => by simp [AH.get_set, AH.get_new, show j ≠ H3.next by omega]⟩
    refine ⟨v3, F3, ⟨by simp [AH.get_set], by simpa using o3.upd hu (by simp), fun hj => ?_, by have := u3.1; have := q3.1; omega, fun j hj => by have := l3 j hj; have := q3.1; omega, (q3.trans u3 (by simp)).trans hu (by simp)⟩, by simp⟩
    have := o3.lt _ hj; omega
  generalize (H3.new (.cells [.sl none 0 false] 0 false 0)).set H3.next (.cells [v3] 0 false 0) = G4 at O4 ⊢
  generalize H3.next = box at O4 ⊢
  clear o3 u3 l3 H3 q1 q2 q3 H2 v3 F3
  refine AW_seq ?_
  refine AW_reg [1, 5, 7] fun K hK => ?_ -- region 5
  have hznf : V.cells .nf = some [.nf] := rfl
  simp [init_eq, evs, astore, AH.get_new, hznf, i_cells, V.cells, splice_zero]
  refine hK _ _ ?_; clear hK K
  have O5 : Ow H' ((G4.new (.cells [.nf] 0 false 0)).set G4.next (clO box)) box [(G4.next, clO box)] (numB m.kind.toNat) :=
    O4.more ⟨by simp, fun j hj _ => by simp [AH.get_set, AH.get_new, show j ≠ G4.next by omega]⟩ (by simp [AH.get_set]) (Nat.le_refl _)
  generalize hG5 : (G4.new (O.cells [V.nf] 0 false 0)).set G4.next (O.cells [V.fn (Fn.func 23) [] [V.p (some (box, 0, 0))]] 0 false 0) = G5
  have O5 : Ow H' G5 box [(G4.next, clO box)] (numB m.kind.toNat) := by rw [← hG5]; exact O5
  clear hG5 O4
  generalize G4.next = cl at O5 ⊢
  have hcl : ∀ {G : AH} {ps : List (Nat × O)} {l : List UInt8}, Ow H' G box ((cl, clO box) :: ps) l → G.get cl = some (.cells [cfn box] 0 false 0) := fun h => h.at (p := (cl, clO box)) (by simp)
  have hpo : ∀ {G : AH} {ps : List (Nat × O)} {l : List UInt8}, Ow H' G box ps l → G.get H.next = some (.cells (m.cells lv pv tv) 0 false 0) := fun h => h.old.keep (by simp) hp
  refine AW_seq ?_
  refine AW_reg [1, 5, 7, 8] fun K hK => ?_ -- region 6
  simp [init_eq, evs]
  refine hK _ _ ?_; clear hK K
  have hme : m.bytes = numB m.kind.toNat ++ m.bodyBytes := rfl
  refine AW_cut (fun ρ G => ρ = ⟨143, [(5, .p (some (box, 0, 0)))]⟩ ∧ ∃ ps, Ow H' G box ps m.bytes) ?_ ?_
  · refine AW_seq ?_
    refine AW_reg [1, 5, 7, 8, 33] fun K hK => ?_ -- region 7
    simp [init_eq]
    refine ACalls.mono (what_ok _ (hpo O5)) fun r G6 ⟨hr, hu⟩ => ?_ -- hallmoot/msg.what
    try simp
    refine hK _ _ ?_; clear hK K
    have O6 := O5.keep hu
    have c6 := hcl O6
    have p6 := hpo O6
    have m6 := hmB.upd O6.old
    unfold Msg.body at hbo
    unfold Msg.bodyBytes at hme
    refine AW_block ?_
    rcases mclass_cases m.kind with ⟨e, h1⟩ | ⟨e, h1⟩ | ⟨e, h1⟩ | ⟨e, h1⟩ | ⟨e, h1⟩ | ⟨e, h1⟩ | ⟨e, h1⟩ <;> simp only [whatR, e] at hr hbo hme
    case inl =>
      subst hr
      have hb0 : m.blk.err = 0 := by simpa using hbo
      have lb := blk_len hb0
      refine AW_seq ?_
      refine AW_reg [1, 5, 7, 8, 33, 35, 36] fun K hK => ?_
      simp [init_eq, atypeAssert]
      refine hK _ _ ?_; clear hK K
      refine AW_condT rfl ?_
      refine AW_seq ?_
      refine AW_reg [5, 7, 9] fun K hK => ?_
      simp [init_eq]
      refine hK _ _ ?_; clear hK K
      refine AW_regm (.only [cl, H.next]) [5] pl_7_10 pe_7_10 (by kernel_rfl) (by kernel_rfl) (by decide) fun K hK => ?_
      simp [init_eq, pl_7_10, APlan_takem, through, tkOk, rid, afieldAddr, aload, c6, p6, Msg.blk_cells]
      refine ACalls.mono (bbytes_ok _ m6.bk (Blk.err_small hb0)) fun r G7 h => ?_ -- hallmoot/block.Bytes
      obtain ⟨h, _⟩ | ⟨_, w7, rfl, F7, o7, u7, l7⟩ := h
      · exact absurd hb0 h
      have O7 := O6.keep u7
      refine ⟨⟨u7.1, fun hn => (u7.2 _ hn (by simp)).trans c6, fun hn => (u7.2 _ hn (by simp)).trans p6⟩, ?_⟩
      simp [cfn, AOp_callv (f := 23) (first := []) (caps := [.p (some (box, 0, 0))])]
      refine ACalls.mono (madd_ok O7 o7.sl (by omega)) fun r G8 ⟨hr, O8, n8, k8⟩ => ?_ -- hallmoot/msg.Bytes$1
      subst hr
      refine hK _ _ ?_; clear hK K
      exact bend (rend ⟨_, by simp, rfl, _, by rw [hme]; exact O8⟩)
    case inr.inl =>
      subst hr
      have hco := certified_ok hbo
      have lc := Cert.bytes_len (Cert.rng hco)
      refine AW_seq ?_
      refine AW_reg [1, 5, 7, 8, 33, 35, 36] fun K hK => ?_
      simp [init_eq, atypeAssert]
      refine hK _ _ ?_; clear hK K
      refine AW_condF rfl ?_
      refine AW_seq ?_
      refine AW_reg [1, 5, 7, 8, 33, 46, 47] fun K hK => ?_
      simp [init_eq, atypeAssert]
      refine hK _ _ ?_; clear hK K
      refine AW_condT rfl ?_
      refine AW_seq ?_
      refine AW_reg [5, 7, 10] fun K hK => ?_
      simp [init_eq]
      refine hK _ _ ?_; clear hK K
      refine AW_regm (.only [cl, H.next]) [5] pl_7_13 pe_7_13 (by kernel_rfl) (by kernel_rfl) (by decide) fun K hK => ?_
      simp [init_eq, pl_7_13, APlan_takem, through, tkOk, rid, afieldAddr, aload, c6, p6, Msg.cert_cells]
      refine ACalls.mono (certBytes_ok _ _ hco) fun r G7 h => ?_ -- hallmoot/cert.Bytes
      obtain ⟨w7, rfl, F7, o7, u7, l7⟩ := h
      have O7 := O6.keep u7
      refine ⟨⟨u7.1, fun hn => (u7.2 _ hn (by simp)).trans c6, fun hn => (u7.2 _ hn (by simp)).trans p6⟩, ?_⟩
      simp [cfn, AOp_callv (f := 23) (first := []) (caps := [.p (some (box, 0, 0))])]
      refine ACalls.mono (madd_ok O7 o7.sl (by omega)) fun r G8 ⟨hr, O8, n8, k8⟩ => ?_ -- hallmoot/msg.Bytes$1
      subst hr
      refine hK _ _ ?_; clear hK K
      exact bend (rend ⟨_, by simp, rfl, _, by rw [hme]; exact O8⟩)
    case inr.inr.inl =>
      subst hr
      have hT := tmo_rng hbo
      have lc := Cert.bytes_len (Cert.rng hT.2.2)
      have ln1 := numB_len9 (n := m.tmo.signer.toNat) (by omega)
      have ln2 := numB_len9 (n := m.tmo.view.toNat) (by omega)
      refine AW_seq ?_
      refine AW_reg [1, 5, 7, 8, 33, 35, 36] fun K hK => ?_
      simp [init_eq, atypeAssert]
      refine hK _ _ ?_; clear hK K
      refine AW_condF rfl ?_
      refine AW_seq ?_
      refine AW_reg [1, 5, 7, 8, 33, 46, 47] fun K hK => ?_
      simp [init_eq, atypeAssert]
      refine hK _ _ ?_; clear hK K
      refine AW_condF rfl ?_
      refine AW_seq ?_
      refine AW_reg [1, 5, 7, 8, 33, 57, 58] fun K hK => ?_
      simp [init_eq, atypeAssert]
      refine hK _ _ ?_; clear hK K
      refine AW_condT rfl ?_
      refine AW_seq ?_
      refine AW_reg [5, 7, 11] fun K hK => ?_
      simp [init_eq]
      refine hK _ _ ?_; clear hK K
      refine AW_seq ?_
      obtain ⟨q1, q2, q3⟩ := two_nums G6 m.tmo.signer.toNat m.tmo.view.toNat
      rw [Int.toNat_of_nonneg hT.1.1, Int.toNat_of_nonneg (show 0 ≤ m.tmo.view by omega)] at q1 q2 q3
      generalize G6.new (.cells [.i .i64 m.tmo.signer, .i .i64 m.tmo.view] 0 false 1) = G2 at q1 q2 q3
      have s6 : ((m.cells lv pv tv)[13]? = some (.i .i64 m.tmo.signer)) := rfl
      have v6 : ((m.cells lv pv tv)[14]? = some (.i .i64 m.tmo.view)) := rfl
      refine AW_regm (.only [cl, H.next]) [5, 7, 11] pl_7_16 pe_7_16 (by kernel_rfl) (by kernel_rfl) (by decide) fun K hK => ?_
      simp [init_eq, pl_7_16, APlan_takem, through, tkOk, rid, afieldAddr, aload, c6, p6, s6, v6, q1]
      refine ⟨⟨q3.1, fun hn => (q3.2 _ hn (by simp)).trans c6, fun hn => (q3.2 _ hn (by simp)).trans p6⟩, ?_⟩
      refine ACalls.mono (nums_ok G2 q2 (by intro n hn; simp at hn; omega) (by simp)) fun r G7 h => ?_ -- hallmoot/wire.Nums
      obtain ⟨w7, rfl, F7, o7, u7, l7⟩ := h
      have O7 := (O6.keep q3).keep u7
      refine ⟨⟨u7.1, fun hn => u7.2 _ hn (by simp), fun hn => u7.2 _ hn (by simp)⟩, ?_⟩
      simp [cfn, AOp_callv (f := 23) (first := []) (caps := [.p (some (box, 0, 0))])]
      refine ACalls.mono (madd_ok O7 (m := numB m.tmo.signer.toNat ++ numB m.tmo.view.toNat) (by simpa using o7.sl) (by simp only [List.length_append]; omega)) fun r G8 ⟨hr, O8, n8, k8⟩ => ?_ -- hallmoot/msg.Bytes$1
      subst hr
      refine ⟨⟨n8, fun hn => (hcl O8).trans (hcl O7).symm, fun hn => (hpo O8).trans (hpo O7).symm⟩, ?_⟩
      refine hK _ _ ?_; clear hK K
      have c8 := hcl O8
      have p8 := hpo O8
      refine AW_regm (.only [cl, H.next]) [5] pl_7_17 pe_7_17 (by kernel_rfl) (by kernel_rfl) (by decide) fun K hK => ?_
      simp [init_eq, pl_7_17, APlan_takem, through, tkOk, rid, afieldAddr, aload, c8, p8, Msg.high_cells]
      refine ACalls.mono (certBytes_ok _ _ hT.2.2) fun r G9 h => ?_ -- hallmoot/cert.Bytes
      obtain ⟨w9, rfl, F9, o9, u9, l9⟩ := h
      have O9 := O8.keep u9
      refine ⟨⟨u9.1, fun hn => (u9.2 _ hn (by simp)).trans c8, fun hn => (u9.2 _ hn (by simp)).trans p8⟩, ?_⟩
      simp [cfn, AOp_callv (f := 23) (first := []) (caps := [.p (some (box, 0, 0))])]
      refine ACalls.mono (madd_ok O9 o9.sl (by simp only [List.length_append]; omega)) fun r G10 ⟨hr, O10, n10, k10⟩ => ?_ -- hallmoot/msg.Bytes$1
      subst hr
      refine hK _ _ ?_; clear hK K
      exact bend (rend ⟨_, by simp, rfl, _, by rw [hme]; simpa using O10⟩)
    case inr.inr.inr.inr.inl =>
      subst hr
      have lt := Tx.bytes_len (Tx.rng hbo)
      refine AW_seq ?_
      refine AW_reg [1, 5, 7, 8, 33, 35, 36] fun K hK => ?_
      simp [init_eq, atypeAssert]
      refine hK _ _ ?_; clear hK K
      refine AW_condF rfl ?_
      refine AW_seq ?_
      refine AW_reg [1, 5, 7, 8, 33, 46, 47] fun K hK => ?_
      simp [init_eq, atypeAssert]
      refine hK _ _ ?_; clear hK K
      refine AW_condF rfl ?_
      refine AW_seq ?_
      refine AW_reg [1, 5, 7, 8, 33, 57, 58] fun K hK => ?_
      simp [init_eq, atypeAssert]
      refine hK _ _ ?_; clear hK K
      refine AW_condF rfl ?_
      refine AW_seq ?_
      refine AW_reg [1, 5, 7, 8, 33, 83, 84] fun K hK => ?_
      simp [init_eq, atypeAssert]
      refine hK _ _ ?_; clear hK K
      refine AW_condF rfl ?_
      refine AW_seq ?_
      refine AW_reg [5, 7, 33, 111, 112] fun K hK => ?_
      simp [init_eq, atypeAssert]
      refine hK _ _ ?_; clear hK K
      refine AW_condT rfl ?_
      refine AW_seq ?_
      refine AW_reg [5, 7, 15] fun K hK => ?_
      simp [init_eq]
      refine hK _ _ ?_; clear hK K
      refine AW_regm (.only [cl, H.next]) [5] pl_7_28 pe_7_28 (by kernel_rfl) (by kernel_rfl) (by decide) fun K hK => ?_
      simp [init_eq, pl_7_28, APlan_takem, through, tkOk, rid, afieldAddr, aload, c6, p6, Msg.tx_cells]
      refine ACalls.mono (txBytes_ok _ _ hbo) fun r G7 h => ?_ -- hallmoot/tx.Bytes
      obtain ⟨w7, rfl, F7, o7, u7, l7⟩ := h
      have O7 := O6.keep u7
      refine ⟨⟨u7.1, fun hn => (u7.2 _ hn (by simp)).trans c6, fun hn => (u7.2 _ hn (by simp)).trans p6⟩, ?_⟩
      simp [cfn, AOp_callv (f := 23) (first := []) (caps := [.p (some (box, 0, 0))])]
      refine ACalls.mono (madd_ok O7 o7.sl (by omega)) fun r G8 ⟨hr, O8, n8, k8⟩ => ?_ -- hallmoot/msg.Bytes$1
      subst hr
      refine hK _ _ ?_; clear hK K
      exact bend (rend ⟨_, by simp, rfl, _, by rw [hme]; exact O8⟩)
    case inr.inr.inr.inr.inr.inr => cases hbo
    case inr.inr.inr.inl =>
      subst hr
      have ht := proofsOk_at hbo
      rcases hmB.pf with ⟨_, ⟨c0, _, h0⟩ | ⟨idl, gl, offl, cc, ro, esz, elv, hgl, _⟩⟩
      · simp at h0; exact absurd h0 ht.1
      have hidl : ∀ {G : AH} {ps : List (Nat × O)} {l : List UInt8}, Ow H' G box ps l → G.get idl = some (.cells cc gl ro esz) := fun h => h.old.keep (by simp) hgl
      have hT := fun t ht' => tmo_rng (ht.2.2 t ht').1
      have hv0 : 1 ≤ (m.proof.headD Tmo.zero).view ∧ (m.proof.headD Tmo.zero).view ≤ 1048576 := by
        cases hp : m.proof with
        | nil => exact absurd hp ht.1
        | cons t r => exact (hT t (by simp [hp])).2.1
      have l0 : 0 < m.proof.length := List.length_pos_iff.2 ht.1
      have hw0 := head_view l0
      generalize (m.proof.headD Tmo.zero).view = w0 at hv0 hw0 hme
      have ln1 := numB_len9 (n := w0.toNat) (by omega)
      have ln2 := numB_len9 (n := m.proof.length) (by omega)
      have lpf : ∀ i, ((m.proof.take i).flatMap Tmo.bytes).length ≤ 81 * m.proof.length := fun i => by
        have := flat_len (f := Tmo.bytes) (k := 81) (m.proof.take i) fun t ht => by
          have := hT t (List.mem_of_mem_take ht); exact Tmo.bytes_len this.1 this.2.2
        have h2 : (m.proof.take i).length ≤ m.proof.length := by rw [List.length_take]; exact Nat.min_le_right ..
        omega
      refine AW_seq ?_
      refine AW_reg [1, 5, 7, 8, 33, 35, 36] fun K hK => ?_
      simp [init_eq, atypeAssert]
      refine hK _ _ ?_; clear hK K
      refine AW_condF rfl ?_
      refine AW_seq ?_
      refine AW_reg [1, 5, 7, 8, 33, 46, 47] fun K hK => ?_
      simp [init_eq, atypeAssert]
      refine hK _ _ ?_; clear hK K
      refine AW_condF rfl ?_
      refine AW_seq ?_
      refine AW_reg [1, 5, 7, 8, 33, 57, 58] fun K hK => ?_
      simp [init_eq, atypeAssert]
      refine hK _ _ ?_; clear hK K
      refine AW_condF rfl ?_
      refine AW_seq ?_
      refine AW_reg [1, 5, 7, 8, 33, 83, 84] fun K hK => ?_
      simp [init_eq, atypeAssert]
      refine hK _ _ ?_; clear hK K
      refine AW_condT rfl ?_
      refine AW_seq ?_
      refine AW_reg [1, 5, 7, 8] fun K hK => ?_ -- region 19
      simp [init_eq]
      refine hK _ _ ?_; clear hK K
      refine AW_seq ?_
      obtain ⟨az, az', pz, qz, rz⟩ := m6.pf.fld Tmo.len (by decide) (P := Tryz.prog) qelem_27 qsize_26 (i := 0) l0 qfield_26_1 qagg_3 qsize_3 (Tmo.c1 _)
      rw [hw0] at rz
      have pz' : aindexAddr Tryz.prog 27 lv (.i .i64 0) = some az := pz
      have lp6 := m6.pf.alen (P := Tryz.prog) qelem_27 G6
      have ll : aload Tryz.prog G6 27 (.p (some (H.next, 0, 23))) = some lv := by simp [aload, p6]
      have lc : aload Tryz.prog G6 67 (.p (some (cl, 0, 0))) = some (cfn box) := by simp [aload, c6]
      have f7 : ∀ x, afieldAddr Tryz.prog 39 7 (.p (some (x, 0, 0))) = some (.p (some (x, 0, 23))) := fun x => by simp [afieldAddr]
      obtain ⟨q1, q2, q3⟩ := two_nums G6 w0.toNat m.proof.length
      rw [Int.toNat_of_nonneg (show 0 ≤ w0 by omega)] at q1 q2 q3
      generalize G6.new (.cells [.i .i64 w0, .i .i64 (m.proof.length : Int)] 0 false 1) = G2 at q1 q2 q3
      have lz : ∃ o, az' = .p (some (idl, gl, o)) := by
        rw [elv] at pz
        simp [aindexAddr, l0] at pz
        rw [← pz] at qz
        simp [afieldAddr] at qz
        exact ⟨_, qz.symm⟩
      obtain ⟨oz, rfl⟩ := lz
      refine AW_regm (.only [cl, H.next, idl]) [1, 5, 8] pl_7_20 pe_7_20 (by kernel_rfl) (by kernel_rfl) (by decide) fun K hK => ?_ -- region 20
      simp [init_eq, pl_7_20, APlan_takem, through, tkOk, rid, f7, ll, lc, pz', qz, rz, lp6, q1]
      refine ⟨by rw [elv]; simp, ?_⟩
      refine ⟨⟨q3.1, fun hn => q3.2 _ hn (by simp), fun hn => q3.2 _ hn (by simp), fun hn => q3.2 _ hn (by simp)⟩, ?_⟩
      refine ACalls.mono (nums_ok G2 q2 (by intro n hn; simp at hn; omega) (by simp)) fun r G7 h => ?_ -- hallmoot/wire.Nums
      obtain ⟨w7, rfl, F7, o7, u7, l7⟩ := h
      have O7 := (O6.keep q3).keep u7
      refine ⟨⟨u7.1, fun hn => u7.2 _ hn (by simp), fun hn => u7.2 _ hn (by simp), fun hn => u7.2 _ hn (by simp)⟩, ?_⟩
      simp [cfn, AOp_callv (f := 23) (first := []) (caps := [.p (some (box, 0, 0))])]
      refine ACalls.mono (madd_ok O7 (m := numB w0.toNat ++ numB m.proof.length) (by simpa using o7.sl) (by simp only [List.length_append]; omega)) fun r G8 ⟨hr, O8, n8, k8⟩ => ?_ -- hallmoot/msg.Bytes$1
      subst hr
      refine ⟨⟨n8, fun hn => (hcl O8).trans (hcl O7).symm, fun hn => (hpo O8).trans (hpo O7).symm, fun hn => (hidl O8).trans (hidl O7).symm⟩, ?_⟩
      refine hK _ _ ?_; clear hK K
      generalize hbase : numB m.kind.toNat ++ (numB w0.toNat ++ numB m.proof.length) = B1 at O8
      have lB1 : B1.length ≤ 100 := by rw [← hbase]; simp only [List.length_append]; omega
      have hfin : m.bytes = B1 ++ m.proof.flatMap Tmo.bytes := by rw [hme, ← hbase]; simp
      have p8 := hpo O8
      have lp8 := (hmB.upd O8.old).pf.alen (P := Tryz.prog) qelem_27 G8
      have ll8 : aload Tryz.prog G8 27 (.p (some (H.next, 0, 23))) = some lv := by simp [aload, p8]
      refine AW_seq ?_
      refine AW_reg [5, 8, 100, 101, 102] fun K hK => ?_ -- region 21
      simp [init_eq, f7, ll8, lp8]
      refine hK _ _ ?_; clear hK K
      clear o7 u7 l7 q1 q2 q3 O7 lp6 ll lc pz' pz qz rz
      refine AW_block ?_
      refine AW_loopx (fun i : Nat => ⟨143, [(5, .p (some (box, 0, 0))), (8, .fn (.func 24) [] [.p (some (cl, 0, 0))]), (100, lv), (101, .i .i64 m.proof.length), (102, .i .i64 i)]⟩)
        (fun i G => i ≤ m.proof.length ∧ Ow H' G box [(cl, clO box)] (B1 ++ (m.proof.take i).flatMap Tmo.bytes)) (fun i => m.proof.length - i) 0 (by simp) ⟨by simp, by simpa using O8⟩ fun i G hM => ?_ -- loop
      obtain ⟨hi0, O⟩ := hM
      refine AW_seq ?_
      refine AW_reg [5, 8, 100, 101, 102, 103] fun K hK => ?_ -- region 22
      simp [init_eq]
      refine hK _ _ ?_; clear hK K
      refine AW_seq ?_
      refine AW_cond' rfl rfl (fun hc => ?_) (fun hc => ?_)
      · have hi : i < m.proof.length := by simpa using hc
        have hTi := hT _ (List.getElem_mem hi)
        have lpi := lpf i
        obtain ⟨ax, px, qx⟩ := (hmB.upd O.old).pf.rec Tmo.len (by decide) (P := Tryz.prog) qelem_27 qsize_26 qagg_26 hi
        refine AW_skip ?_
        refine AW_seq ?_
        refine AW_block ?_
        refine AW_seq ?_
        refine AW_reg [5, 8, 14, 100, 101, 102] fun K hK => ?_ -- region 23
        simp [init_eq, px, qx, astore, AH.get_new, V.cells]
        refine hK _ _ ?_; clear hK K
        generalize hG1 : (G.new _).set G.next _ = G1
        have hq : G1.get G.next = some (.cells m.proof[i].cells 0 false 0) := by rw [← hG1]; simp [AH.get_set]; exact splice_all rfl
        have hu : Upd G G1 [] := by rw [← hG1]; exact ⟨by simp, fun j hj _ => by simp [AH.get_set, AH.get_new, show j ≠ G.next by omega]⟩
        have O1 := O.keep hu
        clear hG1
        refine AW_reg [5, 8, 100, 101, 102] fun K hK => ?_ -- region 24
        simp [init_eq, aload, hq, tmo_take, AOp_callv (f := 24) (first := []) (caps := [.p (some (cl, 0, 0))])]
        refine ACalls.mono (mtimeout_ok O1 hTi.1 hTi.2.2 (by simp only [List.length_append]; have := ht.2.1; omega)) fun r G6 ⟨hr, O6⟩ => ?_ -- hallmoot/msg.Bytes$2
        subst hr
        try simp
        refine hK _ _ ?_; clear hK K
        refine bend ?_
        refine AW_reg [5, 8, 100, 101, 102] fun K hK => ?_ -- region 25
        simp [init_eq, wrap_id (x := (i : Int) + 1) (by have := ht.2.1; omega) (by have := ht.2.1; omega)]
        refine hK _ _ ?_; clear hK K
        refine rend ⟨i + 1, by simp, ⟨by omega, ?_⟩, by omega⟩ -- round's end
        rw [flat_succ hi]
        simpa using O6
      · have hi : i = m.proof.length := by
          have : ¬ i < m.proof.length := by simpa using hc
          omega
        subst hi
        rw [List.take_length] at O
        refine AW_exit (then_exit (then_exit (block_here ?_)))
        exact bend (rend ⟨_, by simp, rfl, _, by rw [hfin]; exact O⟩)
    case inr.inr.inr.inr.inr.inl =>
      obtain ⟨rfl, hk6⟩ := hr
      have hL := pair_rng hbo
      have hfin : m.bytes = numB m.kind.toNat ++ [m.pair.1, m.pair.2].flatMap (fun x => numB x.toNat) := by
        rw [← pair_bytes e]; rfl
      have O6 : Ow H' G6 box ((G5.next, .cells [.i .i64 m.pair.1, .i .i64 m.pair.2] 0 false 1) :: [(cl, clO box)]) (numB m.kind.toNat) := O5.more hu hk6 (Nat.le_refl _)
      clear hme hk6 p6 c6 m6
      generalize G5.next = k6 at O6
      have hR : ∀ {G : AH} {l : List UInt8}, Ow H' G box ((k6, .cells [.i .i64 m.pair.1, .i .i64 m.pair.2] 0 false 1) :: [(cl, clO box)]) l → RS G (.sl (some (k6, 0, 0)) 2 false) 1 ([m.pair.1, m.pair.2].map fun x => [.i .i64 x]) := fun h =>
        ⟨by simp, .inr ⟨k6, 0, 0, _, false, 1, rfl, h.at (p := (k6, .cells [.i .i64 m.pair.1, .i .i64 m.pair.2] 0 false 1)) (by simp), .inr rfl, by simp, by simp⟩⟩
      have hC : ∀ {G : AH} {l : List UInt8}, Ow H' G box ((k6, .cells [.i .i64 m.pair.1, .i .i64 m.pair.2] 0 false 1) :: [(cl, clO box)]) l → G.get cl = some (.cells [cfn box] 0 false 0) := fun h => h.at (p := (cl, clO box)) (by simp)
      have hlen : ∀ i, i ≤ 2 → (([m.pair.1, m.pair.2].take i).flatMap fun x => numB x.toNat).length ≤ 18 := by
        intro i hi
        have := flat_len (f := fun x : Int => numB x.toNat) (k := 9) ([m.pair.1, m.pair.2].take i) fun x hx => by
          have := hL x (List.mem_of_mem_take hx)
          exact numB_len9 (by omega)
        have h2 : ([m.pair.1, m.pair.2].take i).length ≤ 2 := by rw [List.length_take]; exact Nat.min_le_right ..
        omega
      have hL2 : [m.pair.1, m.pair.2].length = 2 := rfl
      generalize hO2 : O.cells [.i .i64 m.pair.1, .i .i64 m.pair.2] 0 false 1 = o2 at O6 hR hC ⊢
      generalize hl2 : [m.pair.1, m.pair.2] = l2 at hL hfin hR hlen hL2
      refine AW_seq ?_
      refine AW_reg [1, 5, 7, 8, 33, 35, 36] fun K hK => ?_
      simp [init_eq, atypeAssert]
      refine hK _ _ ?_; clear hK K
      refine AW_condF rfl ?_
      refine AW_seq ?_
      refine AW_reg [1, 5, 7, 8, 33, 46, 47] fun K hK => ?_
      simp [init_eq, atypeAssert]
      refine hK _ _ ?_; clear hK K
      refine AW_condF rfl ?_
      refine AW_seq ?_
      refine AW_reg [1, 5, 7, 8, 33, 57, 58] fun K hK => ?_
      simp [init_eq, atypeAssert]
      refine hK _ _ ?_; clear hK K
      refine AW_condF rfl ?_
      refine AW_seq ?_
      refine AW_reg [1, 5, 7, 8, 33, 83, 84] fun K hK => ?_
      simp [init_eq, atypeAssert]
      refine hK _ _ ?_; clear hK K
      refine AW_condF rfl ?_
      refine AW_seq ?_
      refine AW_reg [5, 7, 33, 111, 112] fun K hK => ?_
      simp [init_eq, atypeAssert]
      refine hK _ _ ?_; clear hK K
      refine AW_condF rfl ?_
      refine AW_seq ?_
      refine AW_reg [5, 7, 122, 123] fun K hK => ?_
      simp [init_eq, atypeAssert]
      refine hK _ _ ?_; clear hK K
      refine AW_condT rfl ?_
      refine AW_seq ?_
      refine AW_reg [5, 7, 16] fun K hK => ?_ -- region 30
      simp [init_eq]
      refine hK _ _ ?_; clear hK K
      refine AW_seq ?_
      have la6 := (hR O6).alen (P := Tryz.prog) (f := fun x : Int => [.i .i64 x]) qelem_60 G6
      rw [hL2] at la6
      refine AW_reg [5, 7, 124, 125, 126] fun K hK => ?_ -- region 31
      simp [init_eq, la6]
      refine hK _ _ ?_; clear hK K
      refine AW_block ?_
      refine AW_loopx (fun i : Nat => ⟨143, [(5, .p (some (box, 0, 0))), (7, .p (some (cl, 0, 0))), (124, .sl (some (k6, 0, 0)) 2 false), (125, .i .i64 2), (126, .i .i64 i)]⟩)
        (fun i G => i ≤ 2 ∧ Ow H' G box ((k6, o2) :: [(cl, clO box)]) (numB m.kind.toNat ++ (l2.take i).flatMap fun x => numB x.toNat)) (fun i => 2 - i) 0 (by simp) ⟨by simp, by simpa using O6⟩ fun i G hM => ?_ -- loop
      obtain ⟨hi0, O⟩ := hM
      refine AW_seq ?_
      refine AW_reg [5, 7, 124, 125, 126, 127] fun K hK => ?_ -- region 32
      simp [init_eq]
      refine hK _ _ ?_; clear hK K
      refine AW_seq ?_
      refine AW_cond' rfl rfl (fun hc => ?_) (fun hc => ?_)
      · have hi : i < 2 := by simp at hc; omega
        have hi' : i < l2.length := by omega
        have hx := hL _ (List.getElem_mem hi')
        have lpi := hlen i hi0
        have lnx := numB_len9 (n := l2[i].toNat) (by omega)
        obtain ⟨ax, px, qx⟩ := (hR O).at1 (P := Tryz.prog) (k := .i64) qelem_60 qsize_3 qagg_3 i (x := .i .i64 l2[i]) (by simp [hi'])
        have cO := hC O
        refine AW_skip ?_
        refine AW_seq ?_
        refine AW_block ?_
        refine AW_seq ?_
        refine AW_reg [5, 7, 18, 124, 125, 126] fun K hK => ?_ -- region 33
        simp [init_eq, px, qx]
        refine hK _ _ ?_; clear hK K
        obtain ⟨q1, q2, q3⟩ := one_num G l2[i].toNat
        rw [Int.toNat_of_nonneg hx.1] at q1 q2 q3
        generalize G.new (.cells [.i .i64 l2[i]] 0 false 1) = G2 at q1 q2 q3
        refine AW_regm (.only [cl]) [5, 7, 124, 125, 126] pl_7_34 pe_7_34 (by kernel_rfl) (by kernel_rfl) (by decide) fun K hK => ?_ -- region 34
        simp [init_eq, pl_7_34, APlan_takem, through, tkOk, rid, aload, cO, q1]
        refine ⟨⟨q3.1, fun hn => (q3.2 _ hn (by simp)).trans cO⟩, ?_⟩
        refine ACalls.mono (nums_ok G2 q2 (by intro n hn; simp at hn; omega) (by simp)) fun r G7 h => ?_ -- hallmoot/wire.Nums
        obtain ⟨w7, rfl, F7, o7, u7, l7⟩ := h
        have O7 := (O.keep q3).keep u7
        refine ⟨⟨u7.1, fun hn => u7.2 _ hn (by simp)⟩, ?_⟩
        simp [cfn, AOp_callv (f := 23) (first := []) (caps := [.p (some (box, 0, 0))])]
        refine ACalls.mono (madd_ok O7 (m := numB l2[i].toNat) (by simpa using o7.sl) (by simp only [List.length_append]; omega)) fun r G8 ⟨hr, O8, n8, k8⟩ => ?_ -- hallmoot/msg.Bytes$1
        subst hr
        try refine ⟨⟨n8, fun hn => (hC O8).trans (hC O7).symm⟩, ?_⟩
        refine hK _ _ ?_; clear hK K
        refine bend ?_
        refine AW_reg [5, 7, 124, 125, 126] fun K hK => ?_ -- region 35
        simp [init_eq, wrap_id (x := (i : Int) + 1) (by omega) (by omega)]
        refine hK _ _ ?_; clear hK K
        refine rend ⟨i + 1, by simp, ⟨by omega, ?_⟩, by omega⟩ -- round's end
        rw [List.take_succ_eq_append_getElem hi', List.flatMap_append]
        simpa using O8
      · have hi : i = 2 := by
          have : ¬ i < 2 := by simp at hc; omega
          omega
        subst hi
        rw [show l2.take 2 = l2 from by rw [← hL2]; exact List.take_length] at O
        refine AW_exit (then_exit (then_exit (block_here ?_)))
        exact bend (rend ⟨_, by simp, rfl, _, by rw [hfin]; exact O⟩)
  · rintro ρ G ⟨rfl, ps, v, F, O, -⟩
    have hal : alen Tryz.prog G 64 v = some (.i .i64 m.bytes.length) := by
      have := O.own.len (P := Tryz.prog) (H' := G) (by decide) qelem_64
      simpa using this
    have hlv : aload Tryz.prog G 64 (.p (some (box, 0, 0))) = some v := by simp [aload, O.get]
    have hcv : aconvert Tryz.prog G 64 9 v = some (.s m.bytes, G) := conv_text qbs_64 qstr_9 O.own.sl
    have uG := uB.trans O.upd (by simp)
    refine AW_seq ?_
    refine AW_seq ?_
    refine AW_reg [5, 140] fun K hK => ?_ -- region 36
    simp [init_eq, hlv, hal]
    refine hK _ _ ?_; clear hK K
    refine AW_cond' rfl rfl (fun hc => ?_) (fun hc => ?_)
    · have hl : ¬ m.bytes.length ≤ 65536 := by simp at hc; omega
      refine AW_seq ?_
      refine AW_reg [2, 3] fun K hK => ?_ -- region 37
      simp [init_eq]
      refine hK _ _ ?_; clear hK K
      refine AW_ret (end_ret rfl ⟨?_, by simp, uG.1, fun j hj => uG.2 j hj (by simp)⟩)
      simp [Msg.wr, hok, hl]
    · have hl : m.bytes.length ≤ 65536 := by simp at hc; omega
      refine AW_skip ?_
      refine AW_seq ?_
      refine AW_reg [2, 3] fun K hK => ?_ -- region 38
      simp [init_eq, hlv, hcv]
      refine hK _ _ ?_; clear hK K
      refine AW_ret (end_ret rfl ⟨?_, by simp, uG.1, fun j hj => uG.2 j hj (by simp)⟩)
      simp [Msg.wr, hok, hl]
end Go.Proofs.YtfhbdbjgmcopjaaGreatDoor
