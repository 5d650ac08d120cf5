/-
  The document's bytes of blocks; what an author signs.
-/
import Derived.Test.YtfhbdbjgmcopjaaGreatDoorBytes3
set_option linter.unusedVariables false
set_option linter.unusedSimpArgs false
namespace Go.Proofs.YtfhbdbjgmcopjaaGreatDoor
open Go Go.Abs Go.Proofs
set_option maxRecDepth 100000
attribute [local irreducible] AEnd AW ACalls

set_option maxHeartbeats 4000000 in
theorem rbytes_ok (H : AH) {b : Blk} {pv tv : V} (hb : BlkAt H b pv tv) (he : b.err = 0) : ACalls Tryz.prog 37 [.agg (b.cells pv tv)] H fun r H' => r = .s b.bytes ∧ H' = H := by
  have hR := Blk.rng he
  have i1 := hR.view; have i2 := hR.round; have i3 := hR.height; have i4 := hR.author; have i5 := hR.proof; have i6 := hR.txs
  have ln1 := numB_len9 (n := b.view.toNat) (by omega)
  have ln2 := numB_len9 (n := b.round.toNat) (by omega)
  have ln3 := numB_len9 (n := b.height.toNat) (by omega)
  have ln4 := numB_len9 (n := b.author.toNat) (by omega)
  have ln5 := numB_len9 (n := b.proof.length) (by omega)
  have ln6 := numB_len9 (n := b.txs.length) (by omega)
  have lc := Cert.bytes_len (Cert.rng hR.parent)
  have lpf : ∀ i, ((b.proof.take i).flatMap Tmo.bytes).length ≤ 81 * b.proof.length := fun i => by
    have := flat_len (f := Tmo.bytes) (k := 81) (b.proof.take i) fun t ht => by
      have := hR.tmos t (List.mem_of_mem_take ht); exact Tmo.bytes_len this.1 this.2
    have h2 : (b.proof.take i).length ≤ b.proof.length := by rw [List.length_take]; exact Nat.min_le_right ..
    omega
  have ltf : ∀ i, ((b.txs.take i).flatMap Tx.bytes).length ≤ 500 * b.txs.length := fun i => by
    have := flat_len (f := Tx.bytes) (k := 500) (b.txs.take i) fun t ht => Tx.bytes_len (Tx.rng (hR.each t (List.mem_of_mem_take ht)))
    have h2 : (b.txs.take i).length ≤ b.txs.length := by rw [List.length_take]; exact Nat.min_le_right ..
    omega
  refine ACalls.pure (Q := fun r => r = .s b.bytes) ⟨_, Tryz.func37, rfl, rfl⟩ ?_
  refine ACalls_body Tryz.func37 rfl rfl ?_
  refine AW_seq ?_
  refine AW_reg [1] fun K hK => ?_ -- region 0
  simp [init_eq, V.cells]
  obtain ⟨H1, e1, hp, hn, ho⟩ := H.boxed (b.cells pv tv)
  rw [e1]
  refine hK _ _ ?_; clear hK K
  have hb1 := hb.same ho
  have lp := hb1.pf.alen (P := Tryz.prog) qelem_27 H1
  have lt := hb1.tx.alen (P := Tryz.prog) qelem_28 H1
  have a0 : aload Tryz.prog H1 3 (.p (some (H.next, 0, 0))) = some (.i .i64 b.view) := by simp [aload, hp]
  have a1 : aload Tryz.prog H1 3 (.p (some (H.next, 0, 1))) = some (.i .i64 b.round) := by simp [aload, hp]
  have a2 : aload Tryz.prog H1 3 (.p (some (H.next, 0, 2))) = some (.i .i64 b.height) := by simp [aload, hp]
  have a3 : aload Tryz.prog H1 3 (.p (some (H.next, 0, 3))) = some (.i .i64 b.author) := by simp [aload, hp]
  have a4 : aload Tryz.prog H1 24 (.p (some (H.next, 0, 4))) = some (.agg b.parent.cells) := by simp [aload, hp, Blk.parent_cells]
  have a5 : aload Tryz.prog H1 27 (.p (some (H.next, 0, 12))) = some pv := by simp [aload, hp]
  have a6 : aload Tryz.prog H1 28 (.p (some (H.next, 0, 13))) = some tv := by simp [aload, hp]
  have f : ∀ n o, qfield Tryz.prog 30 n = some (o, 1, false) → ∀ x, afieldAddr Tryz.prog 30 n (.p (some (x, 0, 0))) = some (.p (some (x, 0, o))) := fun n o h x => by simp [afieldAddr, h]
  generalize hB1 : numB b.view.toNat ++ (numB b.round.toNat ++ (numB b.height.toNat ++ (numB b.author.toNat ++ (b.parent.bytes ++ numB b.proof.length)))) = B1
  have lB1 : B1.length ≤ 200 := by rw [← hB1]; simp only [List.length_append]; omega
  refine AW_seq ?_
  refine AW_regdto [1, 3] pl_37_1 pe_37_1 ⟨76, [(1, .p (some (H.next, 0, 0))), (3, .s B1)]⟩ H1 (by kernel_rfl) (by kernel_rfl) (by decide) (fun K hk => ?_) ?_
  · simp [init_eq, pl_37_1, afieldAddr, a0, a1, a2, a3, a4, a5, lp]
    refine ACalls.mono (rN_int _ i1.1 (by omega)) fun r H' ⟨hr, e⟩ => ?_ -- hallmoot/hallmootref03.N
    subst hr e
    try simp
    refine ACalls.mono (rN_int _ i2.1 (by omega)) fun r H' ⟨hr, e⟩ => ?_ -- hallmoot/hallmootref03.N
    subst hr e
    simp [cat_ok (a := numB b.view.toNat) (b := numB b.round.toNat) (by omega)]
    refine ACalls.mono (rN_int _ i3.1 (by omega)) fun r H' ⟨hr, e⟩ => ?_ -- hallmoot/hallmootref03.N
    subst hr e
    simp [cat_ok (a := numB b.view.toNat ++ numB b.round.toNat) (b := numB b.height.toNat) (by simp only [List.length_append]; omega)]
    refine ACalls.mono (rN_int _ i4.1 (by omega)) fun r H' ⟨hr, e⟩ => ?_ -- hallmoot/hallmootref03.N
    subst hr e
    simp [cat_ok (a := numB b.view.toNat ++ (numB b.round.toNat ++ numB b.height.toNat)) (b := numB b.author.toNat) (by simp only [List.length_append]; omega)]
    refine ACalls.mono (rcertBytes_ok _ _ (Cert.rng hR.parent)) fun r H' ⟨hr, e⟩ => ?_ -- hallmoot/hallmootref11.Bytes
    subst hr e
    simp [cat_ok (a := numB b.view.toNat ++ (numB b.round.toNat ++ (numB b.height.toNat ++ numB b.author.toNat))) (b := b.parent.bytes) (by simp only [List.length_append]; omega)]
    refine ACalls.mono (rN_ok _ _ (by omega)) fun r H' ⟨hr, e⟩ => ?_ -- hallmoot/hallmootref03.N
    subst hr e
    simpa [cat_ok (a := numB b.view.toNat ++ (numB b.round.toNat ++ (numB b.height.toNat ++ (numB b.author.toNat ++ b.parent.bytes)))) (b := numB b.proof.length) (by simp only [List.length_append]; omega), hB1] using hk
  refine AW_seq ?_
  refine AW_seq ?_
  refine AW_reg [1, 3, 4] fun K hK => ?_ -- region 2
  simp [init_eq]
  refine hK _ _ ?_; clear hK K
  refine AW_block ?_
  refine AW_loop0 (fun i : Nat => ⟨76, [(1, .p (some (H.next, 0, 0))), (3, .s (B1 ++ (b.proof.take i).flatMap Tmo.bytes)), (4, .i .i64 i)]⟩) (fun i => i ≤ b.proof.length) (fun i => b.proof.length - i) 0 (by simp) (by simp) (by dsimp only; omega) fun hw i hM => ?_ -- loop
  have lpi := lpf i
  refine AW_seq ?_
  refine AW_seq ?_
  refine AW_reg [1, 3, 4, 34] fun K hK => ?_ -- region 3
  simp [init_eq, afieldAddr, a5, lp]
  refine hK _ _ ?_; clear hK K
  refine AW_cond' rfl rfl (fun hc => ?_) (fun hc => ?_)
  · have hi : i < b.proof.length := by simpa using hc
    have hT := hR.tmos _ (List.getElem_mem hi)
    have lc2 := Cert.bytes_len (Cert.rng hT.2)
    have lnS := numB_len9 (n := b.proof[i].signer.toNat) (by omega)
    obtain ⟨ax, px, qx⟩ := hb1.pf.rec Tmo.len (by decide) (P := Tryz.prog) qelem_27 qsize_26 qagg_26 hi
    obtain ⟨az, az', pz, qz, rz⟩ := hb1.pf.fld Tmo.len (by decide) (P := Tryz.prog) qelem_27 qsize_26 hi qfield_26_0 qagg_3 qsize_3 (Tmo.c0 _)
    obtain ⟨ac, pc, hrec⟩ := hb1.pf.at (P := Tryz.prog) (by decide) qelem_27 qsize_26 (k := .i64) i (l := b.proof[i].cells) (by simp [hi])
    obtain ⟨ad, qd, hrd⟩ := hrec.sub qfield_26_2 (by decide) (by simp)
    have ld : aload Tryz.prog H1 24 ad = some (.agg b.proof[i].high.cells) := by
      rw [Tmo.high_cells] at hrd
      exact hrd.load qagg_24 (by simp)
    obtain rfl : az = ax := Option.some.inj (pz.symm.trans px)
    obtain rfl : ac = az := Option.some.inj (pc.symm.trans px)
    clear pz pc
    refine AW_skip ?_
    refine AW_seq ?_
    refine AW_block ?_
    refine AW_regdto [1, 3, 4] pl_37_5 pe_37_5 ⟨76, [(1, .p (some (H.next, 0, 0))), (3, .s (B1 ++ (b.proof.take (i + 1)).flatMap Tmo.bytes)), (4, .i .i64 i)]⟩ H1 (by kernel_rfl) (by kernel_rfl) (by decide) (fun K hk => ?_) ?_
    · simp [init_eq, pl_37_5, f 5 12 qfield_30_5, a5, px, qz, rz, qd, ld]
      refine ACalls.mono (rN_int _ hT.1.1 (by omega)) fun r H' ⟨hr, e⟩ => ?_ -- hallmoot/hallmootref03.N
      subst hr e
      simp [cat_ok (a := B1 ++ (b.proof.take i).flatMap Tmo.bytes) (b := numB b.proof[i].signer.toNat) (by simp only [List.length_append]; omega)]
      refine ACalls.mono (rcertBytes_ok _ _ (Cert.rng hT.2)) fun r H' ⟨hr, e⟩ => ?_ -- hallmoot/hallmootref11.Bytes
      subst hr e
      rw [flat_succ hi] at hk
      simpa [cat_ok (a := B1 ++ ((b.proof.take i).flatMap Tmo.bytes ++ numB b.proof[i].signer.toNat)) (b := b.proof[i].high.bytes) (by simp only [List.length_append]; omega), Tmo.bytes] using hk
    refine bend ?_
    refine AW_reg [1, 3, 4] fun K hK => ?_ -- region 4
    simp [init_eq, wrap_id (x := (i : Int) + 1) (by omega) (by omega)]
    refine hK _ _ ?_; clear hK K
    exact rend ⟨i + 1, by simp, by omega, by omega, .inl rfl⟩ -- round's end
  have hi : i = b.proof.length := by
    have : ¬ i < b.proof.length := by simpa using hc
    omega
  subst hi
  rw [List.take_length]
  rw [List.take_length] at lpi
  generalize hB2 : B1 ++ b.proof.flatMap Tmo.bytes ++ numB b.txs.length = B2
  have lB2 : B2.length ≤ 2000 := by rw [← hB2]; simp only [List.length_append]; omega
  refine AW_exit (then_exit (then_exit (block_here ?_)))
  refine AW_seq ?_
  refine AW_regto [1, 3] ⟨76, [(1, .p (some (H.next, 0, 0))), (3, .s B2)]⟩ H1 (fun K hk => ?_) ?_ -- region 6
  · simp [init_eq, afieldAddr, a6, lt]
    refine ACalls.mono (rN_ok _ _ (by omega)) fun r H' ⟨hr, e⟩ => ?_ -- hallmoot/hallmootref03.N
    subst hr e
    simpa [cat_ok (a := B1 ++ b.proof.flatMap Tmo.bytes) (b := numB b.txs.length) (by simp only [List.length_append]; omega), ← hB2] using hk
  refine AW_seq ?_
  refine AW_seq ?_
  refine AW_reg [1, 3, 5] fun K hK => ?_ -- region 7
  simp [init_eq]
  refine hK _ _ ?_; clear hK K
  refine AW_block ?_
  refine AW_loop0 (fun i : Nat => ⟨76, [(1, .p (some (H.next, 0, 0))), (3, .s (B2 ++ (b.txs.take i).flatMap Tx.bytes)), (5, .i .i64 i)]⟩) (fun i => i ≤ b.txs.length) (fun i => b.txs.length - i) 0 (by simp) (by simp) (by dsimp only; omega) fun hw i hM => ?_ -- loop
  have lti := ltf i
  refine AW_seq ?_
  refine AW_seq ?_
  refine AW_reg [1, 3, 5, 64] fun K hK => ?_ -- region 8
  simp [init_eq, afieldAddr, a6, lt]
  refine hK _ _ ?_; clear hK K
  refine AW_cond' rfl rfl (fun hc => ?_) (fun hc => ?_)
  · have hi : i < b.txs.length := by simpa using hc
    have hT := hR.each _ (List.getElem_mem hi)
    have lT := Tx.bytes_len (Tx.rng hT)
    obtain ⟨ax, px, qx⟩ := hb1.tx.rec Tx.len (by decide) (P := Tryz.prog) qelem_28 qsize_32 qagg_32 hi
    refine AW_skip ?_
    refine AW_seq ?_
    refine AW_block ?_
    refine AW_regto [1, 3, 5] ⟨76, [(1, .p (some (H.next, 0, 0))), (3, .s (B2 ++ (b.txs.take (i + 1)).flatMap Tx.bytes)), (5, .i .i64 i)]⟩ H1 (fun K hk => ?_) ?_ -- region 10
    · simp [init_eq, f 6 13 qfield_30_6, a6, px, qx]
      refine ACalls.mono (rtxBytes_ok _ _ hT) fun r H' ⟨hr, e⟩ => ?_ -- hallmoot/hallmootref08.Bytes
      subst hr e
      rw [flat_succ hi] at hk
      simpa [cat_ok (a := B2 ++ (b.txs.take i).flatMap Tx.bytes) (b := b.txs[i].bytes) (by simp only [List.length_append]; omega)] using hk
    refine bend ?_
    refine AW_reg [1, 3, 5] fun K hK => ?_ -- region 9
    simp [init_eq, wrap_id (x := (i : Int) + 1) (by omega) (by omega)]
    refine hK _ _ ?_; clear hK K
    exact rend ⟨i + 1, by simp, by omega, by omega, .inl rfl⟩ -- round's end
  have hi : i = b.txs.length := by
    have : ¬ i < b.txs.length := by simpa using hc
    omega
  subst hi
  rw [List.take_length]
  refine AW_exit (then_exit (then_exit (block_here ?_)))
  refine AW_seq ?_
  refine AW_reg [2] fun K hK => ?_ -- region 11
  simp [init_eq]
  refine hK _ _ ?_; clear hK K
  refine AW_ret (end_ret rfl (pure_end hn ho ?_ rfl))
  rw [← hB2, ← hB1]
  simp [Blk.bytes]
/-- What an author signs. -/
def Blk.proposal (b : Blk) (n : Int) : List V := [.i .i64 1, .i .i64 n, .i .i64 b.view, .i .i64 b.round, .i .i64 b.height, .i .i64 b.author, .i .i64 0, .i .i64 0, .i .i64 0, .i .i64 0]
end Go.Proofs.YtfhbdbjgmcopjaaGreatDoor
