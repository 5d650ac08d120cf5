/-
  MsgBack: the law says true of every message and every text.
-/
import Derived.Test.YtfhbdbjgmcopjaaDoorMsg10
import Derived.Test.YtfhbdbjgmcopjaaDoorMsgAlive
set_option linter.unusedVariables false
set_option linter.unusedSimpArgs false
namespace Go.Proofs.YtfhbdbjgmcopjaaDoor
open Go Go.Abs Go.Proofs
set_option maxRecDepth 100000
attribute [local irreducible] AEnd AW ACalls

theorem ok_fit {m : Msg} (h : m.ok = true) : m.fit := by
  unfold Msg.ok at h
  simp only [Bool.and_eq_true, decide_eq_true_eq] at h
  obtain ⟨hb, ho⟩ := h
  have zb : Blk.zero.fits := ⟨by decide, by decide, by simp [Blk.zero]⟩
  have zt : Tx.zero.fits := ⟨by decide, by decide, by decide, by decide⟩
  have z : m.proof.length ≤ 1000000000 → (m.blk = Blk.zero ∨ m.blk.err = 0) → (m.tx = Tx.zero ∨ m.tx.ok = true) → m.fit := fun h1 h2 h3 => by
    have hb : m.blk.proof.length ≤ 1000000000 ∧ m.blk.txs.length ≤ 1000000000 ∧ m.blk.fits := by
      rcases h2 with h2 | h2
      · rw [h2]; exact ⟨by decide, by decide, zb⟩
      · have := Blk.err_small h2
        exact ⟨by have := this.pf; omega, by have := this.tx; omega, this.fits⟩
    have ht : m.tx.fits := by
      rcases h3 with h3 | h3
      · rw [h3]; exact zt
      · exact (Tx.rng h3).small.fits
    exact ⟨h1, hb.1, hb.2.1, hb.2.2, ht⟩
  have o1 := congrArg Msg.proof ho
  have o2 := congrArg Msg.blk ho
  have o3 := congrArg Msg.tx ho
  unfold Msg.only at o1 o2 o3
  unfold Msg.body at hb
  have l0 : ([] : List Tmo).length ≤ 1000000000 := by decide
  rcases mclass_cases m.kind with ⟨e, h1⟩ | ⟨e, h1⟩ | ⟨e, h1⟩ | ⟨e, h1⟩ | ⟨e, h1⟩ | ⟨e, h1⟩ | ⟨e, h1⟩ <;> simp only [e] at hb o1 o2 o3
  · exact z (by rw [o1]; exact l0) (.inr (by simpa using hb)) (.inl o3)
  · exact z (by rw [o1]; exact l0) (.inl o2) (.inl o3)
  · exact z (by rw [o1]; exact l0) (.inl o2) (.inl o3)
  · exact z (by have := (proofsOk_at hb).2.1; omega) (.inl o2) (.inl o3)
  · exact z (by rw [o1]; exact l0) (.inl o2) (.inr hb)
  · have e1 : m.proof = [] := by rw [o1]; split <;> first | rfl | (split <;> rfl)
    have e2 : m.blk = Blk.zero := by rw [o2]; split <;> first | rfl | (split <;> rfl)
    have e3 : m.tx = Tx.zero := by rw [o3]; split <;> first | rfl | (split <;> rfl)
    exact z (by rw [e1]; exact l0) (.inl e2) (.inl e3)
  · cases hb
theorem wr_ok {m : Msg} (h : m.wr.2 = 0) : m.ok = true ∧ m.bytes.length ≤ 65536 ∧ m.wr.1 = m.bytes := by
  unfold Msg.wr at h ⊢
  split at h
  · rename_i h1
    split at h
    · rename_i h2
      rw [if_pos h1, if_pos h2]
      exact ⟨h1, h2, rfl⟩
    · cases h
  · cases h
theorem wr_of {m : Msg} (h : m.ok = true) (hl : m.bytes.length ≤ 65536) : m.wr = (m.bytes, 0) := by
  unfold Msg.wr; rw [if_pos h, if_pos hl]
set_option maxHeartbeats 4000000 in
theorem back_law (H : AH) {m : Msg} {lv pv tv : V} (hm : MsgAt H m lv pv tv) (s : List UInt8) : ACalls Tryd.prog 3 [.agg (m.cells lv pv tv), .s s] H fun r H' => r = .b true := by
  have hab : abuild Tryd.prog 40 [] = some (.agg (Msg.zero.cells nilSl nilSl nilSl)) := by simp [abuild, afill]; rfl
  refine ACalls_body Tryd.func3 rfl rfl ?_
  refine AW_seq ?_
  refine AW_reg [1, 2] fun K hK => ?_ -- region 0
  simp [init_eq, V.cells]
  obtain ⟨H1, e1, hp, hn, ho⟩ := H.boxed (m.cells lv pv tv)
  rw [e1]
  refine hK _ _ ?_; clear hK K
  have hm1 := hm.same ho
  refine AW_seq ?_
  refine AW_seq ?_
  refine AW_reg [1, 2, 14] fun K hK => ?_ -- region 1
  simp [init_eq]
  refine ACalls.mono (alive_ok ..) fun r H' ⟨hr, e⟩ => ?_ -- hallmoot/hallmootlaw14.alive
  subst hr e
  simp
  refine hK _ _ ?_; clear hK K
  refine AW_cond' rfl rfl (fun hc => ?_) (fun hc => ?_)
  · cases hc
  refine AW_skip ?_
  refine AW_seq ?_
  refine AW_seq ?_
  refine AW_regto [1, 2, 21] ⟨64, [(1, .s s), (2, .p (some (H.next, 0, 0))), (21, .b (m.great || decide (6000 < s.length)))]⟩ H' (fun K hk => ?_) ?_ -- region 3
  · simp [init_eq, aload, hp, msg_take]
    refine ACalls.mono (greatMsg_ok H' hm1) fun r H2 ⟨hr, e⟩ => ?_
    subst hr e
    cases h1 : m.great
    · by_cases k : 6000 < s.length
      · have k2 : (6000 : Int) < s.length := by omega
        simpa [h1, k, k2, alen] using hk
      · have k2 : ¬ (6000 : Int) < s.length := by omega
        simpa [h1, k, k2, alen] using hk
    · simpa [h1] using hk
  refine AW_cond' rfl rfl (fun hc => ?_) (fun hc => ?_)
  · refine AW_seq ?_
    refine AW_reg [4] fun K hK => ?_ -- region 4
    simp [init_eq]
    refine hK _ _ ?_; clear hK K
    refine AW_ret (end_ret rfl ?_)
    simp
  have hg : m.great = false ∧ s.length ≤ 6000 := by simpa using hc
  have hf := great_fit hg.1
  refine AW_skip ?_
  refine AW_seq ?_
  refine AW_reg [1, 2, 5, 6] fun K hK => ?_ -- region 5
  simp [init_eq, aload, hp, msg_take]
  refine ACalls.mono (mbytes_ok H' hm1 hf) fun r H2 ⟨hr, e⟩ => ?_ -- hallmoot/msg.Bytes
  subst hr e
  try simp
  refine hK _ _ ?_; clear hK K
  refine AW_cut (fun ρ G => ρ = ⟨64, [(1, .s s)]⟩) ?_ ?_
  · refine AW_seq ?_
    refine AW_reg [1, 2, 5, 28] fun K hK => ?_ -- region 6
    simp [init_eq]
    refine hK _ _ ?_; clear hK K
    refine AW_cond' rfl rfl (fun hc => ?_) (fun hc => ?_)
    · have h0 := wr_ok (m := m) (by simpa using hc)
      refine AW_seq ?_
      refine AW_reg [1, 2, 7, 8] fun K hK => ?_ -- region 7
      simp [init_eq]
      refine ACalls.mono (mparse_ok H2 m.wr.1) fun r H3 hr => ?_ -- hallmoot/msg.Parse
      rw [h0.2.2, parseMsg_ok h0.1 h0.2.1] at hr
      obtain ⟨lv', pv', tv', rfl, hm3, u3⟩ := hr
      have hp3 := u3.keep (by simp) hp
      have hmm : MsgAt H3 m lv pv tv := hm1.upd u3
      simp [astore, AH.get_new, V.cells]
      refine hK _ _ ?_; clear hK K
      generalize hG : AH.set _ H3.next _ = G
      have k5 : G.get H3.next = some (.cells (m.cells lv' pv' tv') 0 false 0) := by
        rw [← hG]; simp [AH.get_set]; first | exact splice_all rfl | done
      have ug : Upd H3 G [] := ⟨by rw [← hG]; simp, fun j hj _ => by rw [← hG, AH.get_set_ne (by omega), AH.get_new, if_neg (by omega)]⟩
      have hp4 := ug.keep (by simp) hp3
      have hmG := hmm.upd ug
      have hmG' := hm3.upd ug
      refine AW_seq ?_
      refine AW_regto [1, 41] ⟨64, [(1, .s s), (41, .b false)]⟩ G (fun K hk => ?_) ?_ -- region 8
      · simp [init_eq, aload, hp4, k5, msg_take]
        refine ACalls.mono (sameMsg_ok G hmG' hmG hf.pf hf.b1 hf.b2) fun r H4 ⟨hr, e⟩ => ?_
        subst hr e
        simpa using hk
      refine AW_cond' rfl rfl (fun hc => ?_) (fun hc => ?_)
      · cases hc
      · refine AW_skip ?_
        exact rend ⟨_, by simp, rfl⟩
    · refine AW_skip ?_
      exact rend ⟨_, by simp, rfl⟩
  · rintro ρ G rfl
    refine AW_seq ?_
    refine AW_reg [1, 9, 10] fun K hK => ?_ -- region 10
    simp [init_eq]
    refine ACalls.mono (mparse_ok G s) fun r H3 hr => ?_ -- hallmoot/msg.Parse
    obtain ⟨lv', pv', tv', rfl, hm3, u3⟩ := hr
    have hbad := parseMsg_bad (l := s)
    have hinv := parseMsg_inv (l := s)
    generalize parseMsg s = q at *
    obtain ⟨B, x⟩ := q
    simp only at hm3 hbad hinv ⊢
    simp [astore, AH.get_new, V.cells]
    refine hK _ _ ?_; clear hK K
    generalize hG : AH.set _ H3.next _ = G2
    have k5 : G2.get H3.next = some (.cells (B.cells lv' pv' tv') 0 false 0) := by
      rw [← hG]; simp [AH.get_set]; first | exact splice_all rfl | done
    have ug : Upd H3 G2 [] := ⟨by rw [← hG]; simp, fun j hj _ => by rw [← hG, AH.get_set_ne (by omega), AH.get_new, if_neg (by omega)]⟩
    have hmG := hm3.upd ug
    refine AW_seq ?_
    refine AW_seq ?_
    refine AW_reg [1, 9, 48] fun K hK => ?_ -- region 11
    simp [init_eq]
    refine hK _ _ ?_; clear hK K
    refine AW_cond' rfl rfl (fun hc => ?_) (fun hc => ?_)
    · have k1 : x ≠ 0 := by simpa using hc
      rw [hbad k1] at k5 hmG
      refine AW_seq ?_
      refine AW_reg [4] fun K hK => ?_ -- region 12
      simp [init_eq, aload, k5, msg_take, hab]
      refine ACalls.mono (sameMsg_ok G2 hmG (nils_at G2 rfl rfl rfl : MsgAt G2 Msg.zero nilSl nilSl nilSl) (by decide) (by decide) (by decide)) fun r H4 ⟨hr, e⟩ => ?_
      subst hr e
      try simp
      refine hK _ _ ?_; clear hK K
      refine AW_ret (end_ret rfl ?_)
      simp
    · have k1 : x = 0 := by simpa using hc
      have hi := hinv k1
      refine AW_skip ?_
      refine AW_seq ?_
      refine AW_reg [1, 11, 12] fun K hK => ?_ -- region 13
      simp [init_eq, aload, k5, msg_take]
      refine ACalls.mono (mbytes_ok G2 hmG (ok_fit hi.1)) fun r H4 ⟨hr, e⟩ => ?_ -- hallmoot/msg.Bytes
      rw [wr_of hi.1 (by rw [hi.2.1]; omega), hi.2.1] at hr
      subst hr e
      try simp
      refine hK _ _ ?_; clear hK K
      refine AW_seq ?_
      refine AW_reg [4] fun K hK => ?_ -- region 14
      simp [init_eq]
      refine hK _ _ ?_; clear hK K
      refine AW_ret (end_ret rfl ?_)
      simp
theorem msgBack_law (H : AH) (vs : List V) (hv : TVals Tryd.prog H Tryd.f3.params.toList vs) : ACalls Tryd.prog 3 vs H fun r _ => r = .b true := by
  have hv' : TVals Tryd.prog H [34, 9] vs := hv
  clear hv
  rcases vs with _ | ⟨a, _ | ⟨b, _ | ⟨z, r⟩⟩⟩
  · exact hv'.elim
  · exact hv'.2.elim
  · obtain ⟨l, rfl, _, h⟩ := hv'.1.struct Tryd.underlying34 cellsOf_34
    obtain ⟨x, la, pa, ta, rfl, ha⟩ := tv_msg h
    obtain ⟨s, rfl, _⟩ := hv'.2.1.s Tryd.underlying9
    exact back_law H ha s
  · exact hv'.2.2.elim
end Go.Proofs.YtfhbdbjgmcopjaaDoor
