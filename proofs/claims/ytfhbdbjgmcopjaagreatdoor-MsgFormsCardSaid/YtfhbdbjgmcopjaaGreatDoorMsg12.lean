/-
  The document's bytes of a message (hallmootref14.Bytes).
-/
import Derived.Test.YtfhbdbjgmcopjaaGreatDoorMsg8
import Derived.Test.YtfhbdbjgmcopjaaGreatDoorBytes4
set_option linter.unusedVariables false
set_option linter.unusedSimpArgs false
namespace Go.Proofs.YtfhbdbjgmcopjaaGreatDoor
open Go Go.Abs Go.Proofs
set_option maxRecDepth 100000
attribute [local irreducible] AEnd AW ACalls

theorem cat' {a b : List UInt8} (h1 : a.length ≤ 100000) (h2 : b.length ≤ 100000) : astr .add a b = some (.s (a ++ b)) := cat_ok (by omega)
theorem msg_len {m : Msg} (h : m.ok = true) : m.bytes.length ≤ 65536 := by
  unfold Msg.ok at h
  simp only [Bool.and_eq_true] at h
  have hb := h.1
  have hk := Msg.kind_rng hb
  have lk := numB_len9 (n := m.kind.toNat) (by omega)
  suffices hh : m.bodyBytes.length ≤ 20000 by unfold Msg.bytes; simp only [List.length_append]; omega
  rcases mclass_cases m.kind with ⟨e, h1⟩ | ⟨e, h1⟩ | ⟨e, h1⟩ | ⟨e, h1⟩ | ⟨e, h1⟩ | ⟨e, h1⟩ | ⟨e, h1⟩
  case inr.inr.inr.inr.inr.inl =>
    unfold Msg.body at hb
    simp only [e] at hb
    have hL := pair_rng hb
    rw [pair_bytes e]
    have := flat_len (f := fun x : Int => numB x.toNat) (k := 9) [m.pair.1, m.pair.2] fun x hx => by
      have := hL x hx
      exact numB_len9 (by omega)
    have h2 : [m.pair.1, m.pair.2].length = 2 := rfl
    omega
  all_goals
    unfold Msg.body at hb
    unfold Msg.bodyBytes
    simp only [e] at hb ⊢
  · have := blk_len (b := m.blk) (by simpa using hb); omega
  · have := Cert.bytes_len (Cert.rng (certified_ok hb)); omega
  · have hT := tmo_rng hb
    have lc := Cert.bytes_len (Cert.rng hT.2.2)
    have ln1 := numB_len9 (n := m.tmo.signer.toNat) (by omega)
    have ln2 := numB_len9 (n := m.tmo.view.toNat) (by omega)
    simp only [List.length_append]; omega
  · have ht := proofsOk_at hb
    have hv0 : 1 ≤ (m.proof.headD Tmo.zero).view ∧ (m.proof.headD Tmo.zero).view ≤ 1048576 := by
      cases hp : m.proof with
      | nil => exact absurd hp ht.1
      | cons t r => exact (tmo_rng (ht.2.2 t (by simp [hp])).1).2.1
    have ln1 := numB_len9 (n := (m.proof.headD Tmo.zero).view.toNat) (by omega)
    have ln2 := numB_len9 (n := m.proof.length) (by omega)
    have := flat_len (f := Tmo.bytes) (k := 81) m.proof fun t hm => by
      have := tmo_rng (ht.2.2 t hm).1; exact Tmo.bytes_len this.1 this.2.2
    simp only [List.length_append]; omega
  · have := Tx.bytes_len (Tx.rng hb); omega
  · cases hb
set_option maxHeartbeats 8000000 in
theorem rmbytes_ok (H : AH) {m : Msg} {lv pv tv : V} (hm : MsgAt H m lv pv tv) (hok : m.ok = true) : ACalls Tryz.prog 9 [.agg (m.cells lv pv tv)] H fun r H' => r = .s m.bytes ∧ H' = H := by
  have hbo : m.body = true := by unfold Msg.ok at hok; simp at hok; exact hok.1
  have hkr := Msg.kind_rng hbo
  have lk := numB_len9 (n := m.kind.toNat) (by omega)
  refine ACalls.pure (Q := fun r => r = .s m.bytes) ⟨_, Tryz.func9, rfl, rfl⟩ ?_
  refine ACalls_body Tryz.func9 rfl rfl ?_
  refine AW_seq ?_
  refine AW_reg [1] fun K hK => ?_ -- region 0
  simp [init_eq, V.cells]
  obtain ⟨H1, e1, hp, hn, ho⟩ := H.boxed (m.cells lv pv tv)
  rw [e1]
  refine hK _ _ ?_; clear hK K
  have hm1 := hm.same ho
  clear e1
  refine AW_seq ?_
  refine AW_reg [1, 3] fun K hK => ?_ -- region 1
  simp [init_eq, afieldAddr, aload, hp]
  refine ACalls.mono (rN_int _ (by omega) (by omega)) fun r H' ⟨hr, e⟩ => ?_ -- hallmoot/hallmootref03.N
  subst hr e
  try simp
  refine hK _ _ ?_; clear hK K
  refine AW_seq ?_
  refine AW_seq ?_
  refine AW_reg [1, 3, 9] fun K hK => ?_ -- region 2
  simp [init_eq, afieldAddr, aload, hp]
  refine hK _ _ ?_; clear hK K
  have hme : m.bytes = numB m.kind.toNat ++ m.bodyBytes := rfl
  unfold Msg.body at hbo
  unfold Msg.bodyBytes at hme
  have s6 : ((m.cells lv pv tv)[13]? = some (.i .i64 m.tmo.signer)) := rfl
  have v6 : ((m.cells lv pv tv)[14]? = some (.i .i64 m.tmo.view)) := rfl
  generalize hB : numB m.kind.toNat = B0 at *
  rcases mclass_cases m.kind with ⟨e, h1⟩ | ⟨e, h1⟩ | ⟨e, h1⟩ | ⟨e, h1⟩ | ⟨e, h1⟩ | ⟨e, h1⟩ | ⟨e, h1⟩ <;> simp only [e] at hbo hme
  case inl =>
    have hb0 : m.blk.err = 0 := by simpa using hbo
    have lb := blk_len hb0
    rcases h1 with hk | hk
    all_goals
      repeat (first
        | refine AW_seq ?_
        | refine AW_block ?_
        | refine AW_skip ?_
        | refine AW_condT rfl ?_
        | refine AW_condF rfl ?_
        | (refine AW_reg [1, 3, 9, 10, 18, 27, 45, 85, 97, 108] fun K hK => ?_
           simp [init_eq, hk]
           refine hK _ _ ?_; clear hK K))
      refine AW_reg [2] fun K hK => ?_ -- region 5
      simp [init_eq, afieldAddr, aload, hp, Msg.blk_cells]
      refine ACalls.mono (rbytes_ok _ hm1.bk hb0) fun r H' ⟨hr, e'⟩ => ?_ -- hallmoot/hallmootref12.Bytes
      subst hr e'
      simp [abin, cat' (a := B0) (b := m.blk.bytes) (by omega) (by omega)]
      refine hK _ _ ?_; clear hK K
      refine AW_ret (end_ret rfl (pure_end hn ho ?_ rfl))
      simp [hme]
  case inr.inl =>
    have hco := certified_ok hbo
    have lc := Cert.bytes_len (Cert.rng hco)
    rcases h1 with hk | hk | hk
    all_goals
      repeat (first
        | refine AW_seq ?_
        | refine AW_block ?_
        | refine AW_skip ?_
        | refine AW_condT rfl ?_
        | refine AW_condF rfl ?_
        | (refine AW_reg [1, 3, 9, 10, 18, 27, 45, 85, 97, 108] fun K hK => ?_
           simp [init_eq, hk]
           refine hK _ _ ?_; clear hK K))
      refine AW_reg [2] fun K hK => ?_ -- region 9
      simp [init_eq, afieldAddr, aload, hp, Msg.cert_cells]
      refine ACalls.mono (rcertBytes_ok _ _ (Cert.rng hco)) fun r H' ⟨hr, e'⟩ => ?_ -- hallmoot/hallmootref11.Bytes
      subst hr e'
      simp [abin, cat' (a := B0) (b := m.cert.bytes) (by omega) (by omega)]
      refine hK _ _ ?_; clear hK K
      refine AW_ret (end_ret rfl (pure_end hn ho ?_ rfl))
      simp [hme]
  case inr.inr.inl =>
      have hk := h1
      have hT := tmo_rng hbo
      have lc := Cert.bytes_len (Cert.rng hT.2.2)
      have ln1 := numB_len9 (n := m.tmo.signer.toNat) (by omega)
      have ln2 := numB_len9 (n := m.tmo.view.toNat) (by omega)
      repeat (first
        | refine AW_seq ?_
        | refine AW_block ?_
        | refine AW_skip ?_
        | refine AW_condT rfl ?_
        | refine AW_condF rfl ?_
        | (refine AW_reg [1, 3, 9, 10, 18, 27, 45, 85, 97, 108] fun K hK => ?_
           simp [init_eq, hk]
           refine hK _ _ ?_; clear hK K))
      refine AW_regd [2] pl_9_11 pe_9_11 (by kernel_rfl) (by kernel_rfl) (by decide) fun K hK => ?_ -- region 11
      simp [init_eq, pl_9_11, afieldAddr, aload, hp, s6, v6, Msg.high_cells]
      refine ACalls.mono (rN_int _ hT.1.1 (by omega)) fun r H' ⟨hr, e'⟩ => ?_ -- hallmoot/hallmootref03.N
      subst hr e'
      simp [abin, cat' (a := B0) (b := numB m.tmo.signer.toNat) (by omega) (by omega)]
      refine ACalls.mono (rN_int _ (by omega) (by omega)) fun r H' ⟨hr, e'⟩ => ?_ -- hallmoot/hallmootref03.N
      subst hr e'
      simp [abin, cat' (a := B0 ++ numB m.tmo.signer.toNat) (b := numB m.tmo.view.toNat) (by simp only [List.length_append]; omega) (by omega)]
      refine ACalls.mono (rcertBytes_ok _ _ (Cert.rng hT.2.2)) fun r H' ⟨hr, e'⟩ => ?_ -- hallmoot/hallmootref11.Bytes
      subst hr e'
      simp [abin, cat' (a := B0 ++ (numB m.tmo.signer.toNat ++ numB m.tmo.view.toNat)) (b := m.tmo.high.bytes) (by simp only [List.length_append]; omega) (by omega)]
      refine hK _ _ ?_; clear hK K
      refine AW_ret (end_ret rfl (pure_end hn ho ?_ rfl))
      simp [hme]
  case inr.inr.inr.inr.inl =>
      have hk := h1
      have lt := Tx.bytes_len (Tx.rng hbo)
      repeat (first
        | refine AW_seq ?_
        | refine AW_block ?_
        | refine AW_skip ?_
        | refine AW_condT rfl ?_
        | refine AW_condF rfl ?_
        | (refine AW_reg [1, 3, 9, 10, 18, 27, 45, 85, 97, 108] fun K hK => ?_
           simp [init_eq, hk]
           refine hK _ _ ?_; clear hK K))
      refine AW_reg [2] fun K hK => ?_ -- region 24
      simp [init_eq, afieldAddr, aload, hp, Msg.tx_cells]
      refine ACalls.mono (rtxBytes_ok _ _ hbo) fun r H' ⟨hr, e'⟩ => ?_ -- hallmoot/hallmootref08.Bytes
      subst hr e'
      simp [abin, cat' (a := B0) (b := m.tx.bytes) (by omega) (by omega)]
      refine hK _ _ ?_; clear hK K
      refine AW_ret (end_ret rfl (pure_end hn ho ?_ rfl))
      simp [hme]
  case inr.inr.inr.inr.inr.inr => cases hbo
  case inr.inr.inr.inr.inr.inl =>
    have hst := m.set.isLt
    unfold Msg.numsOk at hbo
    rcases h1 with hk | hk | hk | hk
    · simp [hk, inR] at hbo hme
      have ln1 := numB_len9 (n := m.signer.toNat) (by omega)
      have ln2 := numB_len9 (n := m.view.toNat) (by omega)
      repeat (first
        | refine AW_seq ?_
        | refine AW_block ?_
        | refine AW_skip ?_
        | refine AW_condT rfl ?_
        | refine AW_condF rfl ?_
        | (refine AW_reg [1, 3, 9, 10, 18, 27, 45, 85, 97, 108] fun K hK => ?_
           simp [init_eq, hk]
           refine hK _ _ ?_; clear hK K))
      refine AW_regd [2] pl_9_25 pe_9_25 (by kernel_rfl) (by kernel_rfl) (by decide) fun K hK => ?_ -- region 25
      simp [init_eq, pl_9_25, afieldAddr, aload, hp]
      refine ACalls.mono (rN_int _ (by omega) (by omega)) fun r H' ⟨hr, e'⟩ => ?_ -- hallmoot/hallmootref03.N
      subst hr e'
      simp [abin, cat' (a := B0) (b := numB m.signer.toNat) (by omega) (by omega)]
      refine ACalls.mono (rN_int _ (by omega) (by omega)) fun r H' ⟨hr, e'⟩ => ?_ -- hallmoot/hallmootref03.N
      subst hr e'
      simp [abin, cat' (a := B0 ++ numB m.signer.toNat) (b := numB m.view.toNat) (by simp only [List.length_append]; omega) (by omega)]
      refine hK _ _ ?_; clear hK K
      refine AW_ret (end_ret rfl (pure_end hn ho ?_ rfl))
      simp [hme]
    · simp [hk, inR] at hbo hme
      have ln1 := numB_len9 (n := m.signer.toNat) (by omega)
      have ln2 := numB_len9 (n := m.view.toNat) (by omega)
      repeat (first
        | refine AW_seq ?_
        | refine AW_block ?_
        | refine AW_skip ?_
        | refine AW_condT rfl ?_
        | refine AW_condF rfl ?_
        | (refine AW_reg [1, 3, 9, 10, 18, 27, 45, 85, 97, 108] fun K hK => ?_
           simp [init_eq, hk]
           refine hK _ _ ?_; clear hK K))
      refine AW_regd [2] pl_9_25 pe_9_25 (by kernel_rfl) (by kernel_rfl) (by decide) fun K hK => ?_ -- region 25
      simp [init_eq, pl_9_25, afieldAddr, aload, hp]
      refine ACalls.mono (rN_int _ (by omega) (by omega)) fun r H' ⟨hr, e'⟩ => ?_ -- hallmoot/hallmootref03.N
      subst hr e'
      simp [abin, cat' (a := B0) (b := numB m.signer.toNat) (by omega) (by omega)]
      refine ACalls.mono (rN_int _ (by omega) (by omega)) fun r H' ⟨hr, e'⟩ => ?_ -- hallmoot/hallmootref03.N
      subst hr e'
      simp [abin, cat' (a := B0 ++ numB m.signer.toNat) (b := numB m.view.toNat) (by simp only [List.length_append]; omega) (by omega)]
      refine hK _ _ ?_; clear hK K
      refine AW_ret (end_ret rfl (pure_end hn ho ?_ rfl))
      simp [hme]
    · simp [hk, inR] at hbo hme
      have hcv : aconvert Tryz.prog H' 22 3 (u32 m.set) = some (.i .i64 (m.set.toNat : Int), H') := by
        simp [aconvert, u32, Tryz.underlying22, Tryz.underlying3, wrap_id (x := ((m.set.toNat : Nat) : Int)) (by omega) (by omega)]
      have ln1 := numB_len9 (n := m.view.toNat) (by omega)
      have ln2 := numB_len9 (n := m.set.toNat) (by omega)
      repeat (first
        | refine AW_seq ?_
        | refine AW_block ?_
        | refine AW_skip ?_
        | refine AW_condT rfl ?_
        | refine AW_condF rfl ?_
        | (refine AW_reg [1, 3, 9, 10, 18, 27, 45, 85, 97, 108] fun K hK => ?_
           simp [init_eq, hk]
           refine hK _ _ ?_; clear hK K))
      refine AW_regd [2] pl_9_20 pe_9_20 (by kernel_rfl) (by kernel_rfl) (by decide) fun K hK => ?_ -- region 20
      simp [init_eq, pl_9_20, afieldAddr, aload, hp, hcv]
      refine ACalls.mono (rN_int _ (by omega) (by omega)) fun r H' ⟨hr, e'⟩ => ?_ -- hallmoot/hallmootref03.N
      subst hr e'
      simp [abin, cat' (a := B0) (b := numB m.view.toNat) (by omega) (by omega)]
      refine ACalls.mono (rN_ok _ _ (by omega)) fun r H' ⟨hr, e'⟩ => ?_ -- hallmoot/hallmootref03.N
      subst hr e'
      simp [abin, cat' (a := B0 ++ numB m.view.toNat) (b := numB m.set.toNat) (by simp only [List.length_append]; omega) (by omega)]
      refine hK _ _ ?_; clear hK K
      refine AW_ret (end_ret rfl (pure_end hn ho ?_ rfl))
      simp [hme]
    · simp [hk, inR] at hbo hme
      have ln1 := numB_len9 (n := m.signer.toNat) (by omega)
      have ln2 := numB_len9 (n := m.n.toNat) (by omega)
      repeat (first
        | refine AW_seq ?_
        | refine AW_block ?_
        | refine AW_skip ?_
        | refine AW_condT rfl ?_
        | refine AW_condF rfl ?_
        | (refine AW_reg [1, 3, 9, 10, 18, 27, 45, 85, 97, 108] fun K hK => ?_
           simp [init_eq, hk]
           refine hK _ _ ?_; clear hK K))
      refine AW_regd [2] pl_9_22 pe_9_22 (by kernel_rfl) (by kernel_rfl) (by decide) fun K hK => ?_ -- region 22
      simp [init_eq, pl_9_22, afieldAddr, aload, hp]
      refine ACalls.mono (rN_int _ (by omega) (by omega)) fun r H' ⟨hr, e'⟩ => ?_ -- hallmoot/hallmootref03.N
      subst hr e'
      simp [abin, cat' (a := B0) (b := numB m.signer.toNat) (by omega) (by omega)]
      refine ACalls.mono (rN_int _ (by omega) (by omega)) fun r H' ⟨hr, e'⟩ => ?_ -- hallmoot/hallmootref03.N
      subst hr e'
      simp [abin, cat' (a := B0 ++ numB m.signer.toNat) (b := numB m.n.toNat) (by simp only [List.length_append]; omega) (by omega)]
      refine hK _ _ ?_; clear hK K
      refine AW_ret (end_ret rfl (pure_end hn ho ?_ rfl))
      simp [hme]
  case inr.inr.inr.inl =>
      have hk := h1
      have ht := proofsOk_at hbo
      have hT := fun t ht' => tmo_rng (ht.2.2 t ht').1
      have hv0 : 1 ≤ (m.proof.headD Tmo.zero).view ∧ (m.proof.headD Tmo.zero).view ≤ 1048576 := by
        cases hp : m.proof with
        | nil => exact absurd hp ht.1
        | cons t r => exact (hT t (by simp [hp])).2.1
      have l0 : 0 < m.proof.length := List.length_pos_iff.2 ht.1
      have hw0 := head_view l0
      generalize (m.proof.headD Tmo.zero).view = w0 at hv0 hw0 hme
      have ln1 := numB_len9 (n := w0.toNat) (by omega)
      have ln2 := numB_len9 (n := m.proof.length) (by omega)
      have lpf : ∀ i, ((m.proof.take i).flatMap Tmo.bytes).length ≤ 81 * m.proof.length := fun i => by
        have := flat_len (f := Tmo.bytes) (k := 81) (m.proof.take i) fun t ht => by
          have := hT t (List.mem_of_mem_take ht); exact Tmo.bytes_len this.1 this.2.2
        have h2 : (m.proof.take i).length ≤ m.proof.length := by rw [List.length_take]; exact Nat.min_le_right ..
        omega
      obtain ⟨az, az', pz, qz, rz⟩ := hm1.pf.fld Tmo.len (by decide) (P := Tryz.prog) qelem_27 qsize_26 (i := 0) l0 qfield_26_1 qagg_3 qsize_3 (Tmo.c1 _)
      rw [hw0] at rz
      have pz' : aindexAddr Tryz.prog 27 lv (.i .i64 0) = some az := pz
      have lp := hm1.pf.alen (P := Tryz.prog) qelem_27 H'
      have ll : aload Tryz.prog H' 27 (.p (some (H.next, 0, 23))) = some lv := by simp [aload, hp]
      have f7 : ∀ x, afieldAddr Tryz.prog 34 7 (.p (some (x, 0, 0))) = some (.p (some (x, 0, 23))) := fun x => by simp [afieldAddr]
      repeat (first
        | refine AW_seq ?_
        | refine AW_block ?_
        | refine AW_skip ?_
        | refine AW_condT rfl ?_
        | refine AW_condF rfl ?_
        | (refine AW_reg [1, 3, 9, 10, 18, 27, 45, 85, 97, 108] fun K hK => ?_
           simp [init_eq, hk]
           refine hK _ _ ?_; clear hK K))
      refine AW_regd [1, 3] pl_9_13 pe_9_13 (by kernel_rfl) (by kernel_rfl) (by decide) fun K hK => ?_ -- region 13
      simp [init_eq, pl_9_13, f7, ll, pz', qz, rz, lp]
      refine ACalls.mono (rN_int _ (by omega) (by omega)) fun r H2 ⟨hr, e'⟩ => ?_ -- hallmoot/hallmootref03.N
      subst hr e'
      simp [abin, cat' (a := B0) (b := numB w0.toNat) (by omega) (by omega)]
      refine ACalls.mono (rN_ok _ _ (by omega)) fun r H2 ⟨hr, e'⟩ => ?_ -- hallmoot/hallmootref03.N
      subst hr e'
      simp [abin, cat' (a := B0 ++ numB w0.toNat) (b := numB m.proof.length) (by simp only [List.length_append]; omega) (by omega)]
      refine hK _ _ ?_; clear hK K
      generalize hB1 : B0 ++ (numB w0.toNat ++ numB m.proof.length) = B1
      have lB1 : B1.length ≤ 100 := by rw [← hB1]; simp only [List.length_append]; omega
      have hfin : m.bytes = B1 ++ m.proof.flatMap Tmo.bytes := by rw [hme, ← hB1]; simp
      refine AW_seq ?_
      refine AW_seq ?_
      refine AW_reg [1, 3, 4] fun K hK => ?_ -- region 14
      simp [init_eq]
      refine hK _ _ ?_; clear hK K
      refine AW_block ?_
      refine AW_loopx (fun i : Nat => ⟨124, [(1, .p (some (H.next, 0, 0))), (3, .s (B1 ++ (m.proof.take i).flatMap Tmo.bytes)), (4, .i .i64 (i : Int))]⟩) (fun i G => i ≤ m.proof.length ∧ G = H2) (fun i => m.proof.length - i) 0 (by simp) ⟨by simp, rfl⟩ fun i G hM => ?_ -- loop
      obtain ⟨hi0, rfl⟩ := hM
      refine AW_seq ?_
      refine AW_seq ?_
      refine AW_reg [1, 3, 4, 64] fun K hK => ?_ -- region 15
      simp [init_eq, f7, ll, lp]
      refine hK _ _ ?_; clear hK K
      have lpi := lpf i
      have hl10 := ht.2.1
      refine AW_cond' rfl rfl (fun hc => ?_) (fun hc => ?_)
      · have hi : i < m.proof.length := by simpa using hc
        have hTi := hT _ (List.getElem_mem hi)
        have lc2 := Cert.bytes_len (Cert.rng hTi.2.2)
        have lnS := numB_len9 (n := m.proof[i].signer.toNat) (by omega)
        obtain ⟨cx, cx', cp, cq, cr⟩ := hm1.pf.fld Tmo.len (by decide) (P := Tryz.prog) qelem_27 qsize_26 hi qfield_26_0 qagg_3 qsize_3 (Tmo.c0 _)
        obtain ⟨dx, dp, dq⟩ := hm1.pf.at (P := Tryz.prog) (by decide) qelem_27 qsize_26 (k := .i64) i (l := m.proof[i].cells) (by simp [hi])
        have ed : dx = cx := Option.some.inj (dp.symm.trans cp)
        subst ed
        obtain ⟨dx', dq1, dq2⟩ := dq.sub (P := Tryz.prog) qfield_26_2 (by decide) (by simp)
        have dq3 : aload Tryz.prog G 24 dx' = some (.agg m.proof[i].high.cells) := dq2.load (P := Tryz.prog) qagg_24 qsize_24
        refine AW_skip ?_
        refine AW_seq ?_
        refine AW_block ?_
        refine AW_regd [1, 3, 4] pl_9_17 pe_9_17 (by kernel_rfl) (by kernel_rfl) (by decide) fun K hK => ?_ -- region 17
        simp [init_eq, pl_9_17, f7, ll, cp, cq, cr, dq1, dq3]
        refine ACalls.mono (rN_int _ hTi.1.1 (by omega)) fun r H2 ⟨hr, e'⟩ => ?_ -- hallmoot/hallmootref03.N
        subst hr e'
        simp [abin, cat' (a := B1 ++ (m.proof.take i).flatMap Tmo.bytes) (b := numB m.proof[i].signer.toNat) (by simp only [List.length_append]; omega) (by omega)]
        refine ACalls.mono (rcertBytes_ok _ _ (Cert.rng hTi.2.2)) fun r H2 ⟨hr, e'⟩ => ?_ -- hallmoot/hallmootref11.Bytes
        subst hr e'
        simp [abin, cat' (a := B1 ++ ((m.proof.take i).flatMap Tmo.bytes ++ numB m.proof[i].signer.toNat)) (b := m.proof[i].high.bytes) (by simp only [List.length_append]; omega) (by omega)]
        refine hK _ _ ?_; clear hK K
        refine bend (rend ?_)
        refine AW_reg [1, 3, 4] fun K hK => ?_ -- region 16
        simp [init_eq, wrap_id (x := (i : Int) + 1) (by omega) (by omega)]
        refine hK _ _ ?_; clear hK K
        refine rend ⟨i + 1, ?_, ⟨by omega, rfl⟩, by omega⟩ -- round's end
        simp [Env.sub, flat_succ hi, Tmo.bytes]
      · have hi : i = m.proof.length := by
          have : ¬ i < m.proof.length := by simpa using hc
          omega
        subst hi
        rw [List.take_length]
        refine AW_exit (then_exit (then_exit (block_here ?_)))
        refine AW_seq ?_
        refine AW_reg [2] fun K hK => ?_ -- region 18
        simp [init_eq]
        refine hK _ _ ?_; clear hK K
        refine AW_ret (end_ret rfl (pure_end hn ho ?_ rfl))
        simp [hfin]
end Go.Proofs.YtfhbdbjgmcopjaaGreatDoor
