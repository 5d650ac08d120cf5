/-
  The document's records: their bytes and back.
-/
import Derived.Test.YtoccjilbfkhmoaaGreatDoorSafe3
import Derived.Test.YtoccjilbfkhmoaaGreatDoorSafe5
set_option linter.unusedVariables false
set_option linter.unusedSimpArgs false
namespace Go.Proofs.YtoccjilbfkhmoaaGreatDoor
open Go Go.Abs Go.Proofs
set_option maxRecDepth 100000
attribute [local irreducible] AEnd AW ACalls

theorem str_add (a b : List UInt8) (h : a.length + b.length ≤ 9223372036854775807) : astr .add a b = some (.s (a ++ b)) := by
  unfold astr
  simp only []
  rw [if_pos h]
set_option maxHeartbeats 8000000 in
theorem rsbytes_ok (H : AH) (r : SRec) (h0 : r.form = 0) (hl : r.text.length ≤ 100000000) : ACalls Tryz.prog 9 [.agg r.cells] H fun v H' => v = .s r.bytes ∧ H' = H := by
  refine ACalls.pure (Q := fun v => v = .s r.bytes) ⟨_, Tryz.func9, rfl, rfl⟩ ?_
  refine ACalls_body Tryz.func9 rfl rfl ?_
  have hR := SRec.rng h0
  have hkr := hR.kind
  have lk := numB_len9 (n := r.kind.toNat) (by omega)
  refine AW_seq ?_
  refine AW_reg [1] fun K hK => ?_ -- region 0
  simp [init_eq, V.cells]
  refine hK _ _ ?_; clear hK K
  obtain ⟨G, e1, g1, gn, go⟩ := H.boxed r.cells
  rw [e1]
  have fr : ∀ k o n b, qfield Tryz.prog 26 k = some (o, n + 1, b) → afieldAddr Tryz.prog 26 k (.p (some (H.next, 0, 0))) = some (.p (some (H.next, 0, o))) := fun k o n b hq => by simp [afieldAddr, hq]
  have f0 := fr 0 0 0 false (by simp)
  have f1 := fr 1 1 7 true (by simp)
  have f2 := fr 2 9 7 true (by simp)
  have f3 := fr 3 17 0 false (by simp)
  have f4 := fr 4 18 0 false (by simp)
  have f5 := fr 5 19 0 false (by simp)
  have f6 := fr 6 20 0 false (by simp)
  have f7 := fr 7 21 0 false (by simp)
  clear fr
  have fin : ∀ l : List UInt8, l = r.bytes → V.s l = .s r.bytes ∧ V.lt H.next (.s l) = true ∧ H.next ≤ G.next ∧ ∀ j, j < H.next → G.get j = H.get j := fun l hl => ⟨by rw [hl], rfl, by omega, go⟩
  refine AW_seq ?_
  refine AW_reg [1, 3] fun K hK => ?_ -- region 1
  simp [init_eq, f0, rec_at g1]
  refine ACalls.mono (rN_int G (x := r.kind) (by omega) (by omega)) fun v G' ⟨hr, e⟩ => ?_ -- hallmootref03.N
  subst hr e
  try simp
  refine hK _ _ ?_; clear hK K
  generalize hnk : numB r.kind.toNat = nk at *
  refine AW_cut (fun ρ X => ρ = ⟨60, [(3, .s (nk))]⟩ ∧ X = G' ∧ r.bytes = nk) ?_ ?_
  rotate_left
  · rintro ρ X ⟨rfl, rfl, hb⟩
    refine AW_seq ?_
    refine AW_reg [2] fun K hK => ?_ -- region 15
    simp [init_eq]
    refine hK _ _ ?_; clear hK K
    exact AW_ret (end_ret rfl (fin _ hb.symm))
  refine AW_seq ?_
  refine AW_reg [1, 3, 8] fun K hK => ?_ -- region 2
  simp [init_eq, f0, rec_at g1]
  refine hK _ _ ?_; clear hK K
  rcases kinds r.kind with hk | hk | hk | hk | hk | hk | hk | hk | hk | hk | hk
  case inl | inr.inr.inr.inl =>
    all_goals
      have hkc : kclass r.kind = .cc := by rw [hk]; rfl
      have hby : r.bytes = nk ++ r.cert.bytes ++ r.parent.bytes := by simp [SRec.bytes, hkc, natB, hnk]
      obtain ⟨c1, c2⟩ := hR.certs hkc
      have lc1 := Cert.bytes_len (Cert.rng c1)
      have lc2 := Cert.bytes_len (Cert.rng c2)
      repeat (first
        | refine AW_seq ?_
        | refine AW_block ?_
        | refine AW_skip ?_
        | refine AW_condT rfl ?_
        | refine AW_condF rfl ?_
        | (refine AW_reg [1, 3, 8, 9, 21, 28, 40, 51] fun K hK => ?_
           simp [init_eq, hk]
           refine hK _ _ ?_; clear hK K))
      refine AW_regd [2] pl_9_5 pe_9_5 (by kernel_rfl) (by kernel_rfl) (by decide) fun K hK => ?_ -- region 5
      simp [init_eq, pl_9_5, f1, f2, rec_at g1]
      refine ACalls.mono (rcertBytes_ok G' r.cert (Cert.rng c1)) fun v G2 ⟨hr, e⟩ => ?_ -- hallmootref11.Bytes
      subst hr e
      refine ⟨AH.ext.refl _, ?_⟩
      have s1 := str_add nk r.cert.bytes (by omega)
      simp [s1]
      try refine ⟨AH.ext.refl _, ?_⟩
      refine ACalls.mono (rcertBytes_ok G2 r.parent (Cert.rng c2)) fun v G3 ⟨hr, e⟩ => ?_ -- hallmootref11.Bytes
      subst hr e
      try refine ⟨AH.ext.refl _, ?_⟩
      have s1 := str_add (nk) r.cert.bytes (by omega)
      have s2 := str_add (nk ++ r.cert.bytes) r.parent.bytes (by simp only [List.length_append]; omega)
      simp [s2]
      refine hK _ _ ?_; clear hK K
      exact AW_ret (end_ret rfl (fin _ (by rw [hby]; simp)))
  case inr.inr.inr.inr.inl =>
    have hkc : kclass r.kind = .c := by rw [hk]; rfl
    have hby : r.bytes = nk ++ r.cert.bytes := by simp [SRec.bytes, hkc, natB, hnk]
    have c1 := hR.cert hkc
    have lc1 := Cert.bytes_len (Cert.rng c1)
    repeat (first
      | refine AW_seq ?_
      | refine AW_block ?_
      | refine AW_skip ?_
      | refine AW_condT rfl ?_
      | refine AW_condF rfl ?_
      | (refine AW_reg [1, 3, 8, 9, 21, 28, 40, 51] fun K hK => ?_
         simp [init_eq, hk]
         refine hK _ _ ?_; clear hK K))
    refine AW_reg [2] fun K hK => ?_ -- region 7
    simp [init_eq, f1, rec_at g1]
    refine ACalls.mono (rcertBytes_ok G' r.cert (Cert.rng c1)) fun v G2 ⟨hr, e⟩ => ?_ -- hallmootref11.Bytes
    subst hr e
    have s1 := str_add (nk) r.cert.bytes (by omega)
    simp [s1]
    refine hK _ _ ?_; clear hK K
    exact AW_ret (end_ret rfl (fin _ hby.symm))
  case inr.inr.inr.inr.inr.inr.inl =>
    have hkc : kclass r.kind = .sa := by rw [hk]; rfl
    have hby : r.bytes = nk ++ numB r.set.toNat ++ numB r.author.toNat := by simp [SRec.bytes, hkc, natB, hnk]
    have c1 := hR.sa hkc
    have hsl := r.set.isLt
    have l1 := numB_len9 (n := r.set.toNat) (by omega)
    have l2 := numB_len9 (n := r.author.toNat) (by omega)
    have cv : ∀ G, aconvert Tryz.prog G 22 3 (u32 r.set) = some (.i .i64 r.set.toNat, G) := fun G => by
      unfold u32
      rw [conv_int qthere_22 qint_3, wrap_id (by omega) (by omega)]
    repeat (first
      | refine AW_seq ?_
      | refine AW_block ?_
      | refine AW_skip ?_
      | refine AW_condT rfl ?_
      | refine AW_condF rfl ?_
      | (refine AW_reg [1, 3, 8, 9, 21, 28, 40, 51] fun K hK => ?_
         simp [init_eq, hk]
         refine hK _ _ ?_; clear hK K))
    refine AW_regd [2] pl_9_9 pe_9_9 (by kernel_rfl) (by kernel_rfl) (by decide) fun K hK => ?_ -- region 9
    simp [init_eq, pl_9_9, f3, f4, rec_at g1, cv]
    refine ACalls.mono (rN_ok G' r.set.toNat (by omega)) fun v G2 ⟨hr, e⟩ => ?_ -- hallmootref03.N
    subst hr e
    refine ⟨AH.ext.refl _, ?_⟩
    have s1 := str_add nk (numB r.set.toNat) (by omega)
    simp [s1]
    refine ACalls.mono (rN_int G2 (x := r.author) (by omega) (by omega)) fun v G3 ⟨hr, e⟩ => ?_ -- hallmootref03.N
    subst hr e
    try refine ⟨AH.ext.refl _, ?_⟩
    have s1 := str_add (nk) (numB r.set.toNat) (by omega)
    have s2 := str_add (nk ++ numB r.set.toNat) (numB r.author.toNat) (by simp only [List.length_append]; omega)
    simp [s2]
    refine hK _ _ ?_; clear hK K
    exact AW_ret (end_ret rfl (fin _ (by rw [hby]; simp)))
  case inr.inr.inr.inr.inr.inr.inr.inl =>
    have hkc : kclass r.kind = .nb := by rw [hk]; rfl
    have hby : r.bytes = nk ++ numB r.count.toNat ++ numB r.block.toNat := by simp [SRec.bytes, hkc, natB, hnk]
    obtain ⟨c1, c2⟩ := hR.nb hkc
    have l1 := numB_len9 (n := r.count.toNat) (by omega)
    have l2 := numB_len9 (n := r.block.toNat) (by omega)
    repeat (first
      | refine AW_seq ?_
      | refine AW_block ?_
      | refine AW_skip ?_
      | refine AW_condT rfl ?_
      | refine AW_condF rfl ?_
      | (refine AW_reg [1, 3, 8, 9, 21, 28, 40, 51] fun K hK => ?_
         simp [init_eq, hk]
         refine hK _ _ ?_; clear hK K))
    refine AW_regd [2] pl_9_11 pe_9_11 (by kernel_rfl) (by kernel_rfl) (by decide) fun K hK => ?_ -- region 11
    simp [init_eq, pl_9_11, f5, f6, rec_at g1]
    refine ACalls.mono (rN_int G' (x := r.count) (by omega) (by omega)) fun v G2 ⟨hr, e⟩ => ?_ -- hallmootref03.N
    subst hr e
    refine ⟨AH.ext.refl _, ?_⟩
    have s1 := str_add nk (numB r.count.toNat) (by omega)
    simp [s1]
    refine ACalls.mono (rN_int G2 (x := r.block) (by omega) (by omega)) fun v G3 ⟨hr, e⟩ => ?_ -- hallmootref03.N
    subst hr e
    try refine ⟨AH.ext.refl _, ?_⟩
    have s1 := str_add (nk) (numB r.count.toNat) (by omega)
    have s2 := str_add (nk ++ numB r.count.toNat) (numB r.block.toNat) (by simp only [List.length_append]; omega)
    simp [s2]
    refine hK _ _ ?_; clear hK K
    exact AW_ret (end_ret rfl (fin _ (by rw [hby]; simp)))
  case inr.inr.inr.inr.inr.inr.inr.inr.inl | inr.inr.inr.inr.inr.inr.inr.inr.inr.inl =>
    all_goals
      have hkc : kclass r.kind = .tx := by rw [hk]; rfl
      have hby : r.bytes = nk ++ textB r.text := by simp [SRec.bytes, hkc, natB, hnk]
      have ln := numB_len9 (n := r.text.length) (by omega)
      repeat (first
        | refine AW_seq ?_
        | refine AW_block ?_
        | refine AW_skip ?_
        | refine AW_condT rfl ?_
        | refine AW_condF rfl ?_
        | (refine AW_reg [1, 3, 8, 9, 21, 28, 40, 51] fun K hK => ?_
           simp [init_eq, hk]
           refine hK _ _ ?_; clear hK K))
      refine AW_reg [2] fun K hK => ?_ -- region 14
      simp [init_eq, f7, rec_at g1]
      refine ACalls.mono (rT_ok G' r.text (by omega)) fun v G2 ⟨hr, e⟩ => ?_ -- hallmootref03.T
      subst hr e
      have s1 := str_add (nk) (textB r.text) (by simp only [textB, List.length_append]; omega)
      simp [s1]
      refine hK _ _ ?_; clear hK K
      exact AW_ret (end_ret rfl (fin _ hby.symm))
  all_goals
    first
      | exact absurd hkr (by omega)
      | (have hkc : kclass r.kind = .no := by rw [hk]; rfl
         have hby : r.bytes = nk := by simp [SRec.bytes, hkc, natB, hnk]
         repeat (first
           | refine AW_seq ?_
           | refine AW_block ?_
           | refine AW_skip ?_
           | refine AW_condT rfl ?_
           | refine AW_condF rfl ?_
           | (refine AW_reg [1, 3, 8, 9, 21, 28, 40, 51] fun K hK => ?_
              simp [init_eq, hk]
              refine hK _ _ ?_; clear hK K))
         refine bend (rend ⟨_, by simp [hk], rfl, rfl, hby⟩))
theorem rrnum_ok (H : AH) (s : St) : ACalls Tryz.prog 36 [rdV s] H fun v H' => v = .tup [.i .i64 ((rnum s).1 : Nat), rdV (rnum s).2] ∧ H' = H := by
  refine ACalls.pure (Q := fun v => v = .tup [.i .i64 ((rnum s).1 : Nat), rdV (rnum s).2]) ⟨_, Tryz.func36, rfl, rfl⟩ ?_
  refine ACalls_body Tryz.func36 rfl rfl ?_
  refine AW_seq ?_
  refine AW_reg [1, 3] fun K hK => ?_ -- region 0
  simp [init_eq, V.cells, rdV]
  obtain ⟨H1, e1, hp, hp2, hn, ho⟩ := H.boxed2 (rdC s) [.s [], .i .i64 0]
  rw [e1]
  refine hK _ _ ?_; clear hK K
  have lv : ∀ (X : AH) (z : Nat) (t : St), X.get z = some (.cells (rdC t) 0 false 0) → aload Tryz.prog X 82 (.p (some (z, 0, 0))) = some (rdV t) := fun X z t h => by simp [aload, h, rdV]
  refine AW_seq ?_
  refine AW_reg [3, 4, 5] fun K hK => ?_ -- region 1
  simp [init_eq, lv _ _ _ hp]
  refine ACalls.mono (rdNum_ok H1 s) fun v G ⟨hr, e⟩ => ?_ -- Reader.Num
  subst hr e
  simp [V.cells, rdV, astore, AH.get_new]
  refine hK _ _ ?_; clear hK K
  generalize hG1 : AH.set _ G.next _ = G1
  have u1 : Upd G G1 [] := by
    rw [← hG1]
    exact ⟨by simp, fun j hj _ => by rw [AH.get_set_ne (by omega), AH.get_new, if_neg (by omega)]⟩
  have c1 : G1.get G.next = some (.cells (rdC (rnum s).2) 0 false 0) := by
    rw [← hG1]; simp [AH.get_set]; first | done | exact splice_all rfl
  clear hG1
  have k1 := u1.keep (by simp) hp2
  have hlt := AH.get_lt k1
  have hlt2 := AH.get_lt c1
  have ne : ¬ G.next = H.next + 1 := by omega
  have st : astore Tryz.prog G1 82 (.p (some (H.next + 1, 0, 0))) (rdV (rnum s).2) = some (G1.set (H.next + 1) (.cells (rdC (rnum s).2) 0 false 0)) := by
    simp [astore, k1, rdV]
    first | done | exact congrArg (fun x => G1.set (H.next + 1) (.cells x 0 false 0)) (splice_all rfl)
  refine AW_seq ?_
  refine AW_regm (.only [G.next]) [2, 3] pl_36_2 pe_36_2 (by kernel_rfl) (by kernel_rfl) (by decide) fun K hK => ?_ -- region 2
  simp [init_eq, pl_36_2, APlan_takem, through, tkOk, rid, lv _ _ _ c1, st, RM, AH.get_set, ne]
  refine hK _ _ ?_; clear hK K
  have hu1 := u1.1
  refine AW_ret (end_ret (ares_tc (v := rdV (rnum s).2) ?_) ⟨rfl, rfl, by simp; omega, fun j hj => ?_⟩)
  · exact lv _ _ _ (by simp [AH.get_set, hlt])
  · rw [AH.get_set_ne (by omega), u1.2 j (by omega) (by simp)]; exact ho j hj
end Go.Proofs.YtoccjilbfkhmoaaGreatDoor
