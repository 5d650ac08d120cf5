/-
  msg.Parse: the message of all bytes.
-/
import Derived.Test.YtfhbdbjgmcopjaaDoorMsg9
set_option linter.unusedVariables false
set_option linter.unusedSimpArgs false
namespace Go.Proofs.YtfhbdbjgmcopjaaDoor
open Go Go.Abs Go.Proofs
set_option maxRecDepth 100000
attribute [local irreducible] AEnd AW ACalls

theorem takeBlk_fits (s : St) : (takeBlk s).1.proof.length ≤ 10 ∧ (takeBlk s).1.txs.length ≤ 8 ∧ (takeBlk s).1.fits := by
  have hr : (rawBlk s).1.proof.length ≤ 10 ∧ (rawBlk s).1.txs.length ≤ 8 ∧ ∀ t ∈ (rawBlk s).1.txs, t.fits := by
    unfold rawBlk
    refine ⟨?_, ?_, ?_⟩
    · simp only [takeL_len]; exact rmost_le _ _
    · simp only [takeL_len]; exact rmost_le _ _
    · exact takeL_all (p := Tx.fits) takeTx_fits _ _
  have hz : Blk.zero.proof.length ≤ 10 ∧ Blk.zero.txs.length ≤ 8 ∧ Blk.zero.fits := ⟨by decide, by decide, by decide, by decide, by simp [Blk.zero]⟩
  unfold takeBlk
  split
  · split
    · exact ⟨hr.1, hr.2.1, Nat.le_trans hr.1 (by decide), Nat.le_trans hr.2.1 (by decide), hr.2.2⟩
    · exact hz
  · exact hz
theorem fillMsg_fit (k : Int) (s : St) : (fillMsg k s).1.fit := by
  have zb : Blk.zero.fits := ⟨by decide, by decide, by simp [Blk.zero]⟩
  have zt : Tx.zero.fits := ⟨by decide, by decide, by decide, by decide⟩
  have z : ∀ m : Msg, m.proof = [] → m.blk = Blk.zero → m.tx = Tx.zero → m.fit := fun m h1 h2 h3 => by
    refine ⟨by rw [h1]; decide, by rw [h2]; decide, by rw [h2]; decide, by rw [h2]; exact zb, by rw [h3]; exact zt⟩
  unfold fillMsg
  rcases mclass_cases k with ⟨e, h1⟩ | ⟨e, h1⟩ | ⟨e, h1⟩ | ⟨e, h1⟩ | ⟨e, h1⟩ | ⟨e, h1⟩ | ⟨e, h1⟩ <;> simp only [e]
  · have := takeBlk_fits s
    exact ⟨(show (0 : Nat) ≤ 1000000000 from by decide), Nat.le_trans this.1 (by decide), Nat.le_trans this.2.1 (by decide), this.2.2, zt⟩
  · exact z _ rfl rfl rfl
  · exact z _ rfl rfl rfl
  · refine ⟨?_, (show (0 : Nat) ≤ 1000000000 from by decide), (show (0 : Nat) ≤ 1000000000 from by decide), zb, zt⟩
    simp only [takeL_len]
    exact Nat.le_trans (rmost_le _ _) (by decide)
  · exact ⟨(show (0 : Nat) ≤ 1000000000 from by decide), (show (0 : Nat) ≤ 1000000000 from by decide), (show (0 : Nat) ≤ 1000000000 from by decide), zb, takeTx_fits s⟩
  · repeat' split
    all_goals exact z _ rfl rfl rfl
  · exact z _ rfl rfl rfl
set_option maxHeartbeats 4000000 in
theorem mparse_ok (H : AH) (l : List UInt8) : ACalls Tryd.prog 9 [.s l] H fun r H' => ∃ lv pv tv, r = .tup [.agg ((parseMsg l).1.cells lv pv tv), .i .i64 (parseMsg l).2] ∧ MsgAt H' (parseMsg l).1 lv pv tv ∧ Upd H H' [] := by
  have hab : abuild Tryd.prog 40 [] = some (.agg (Msg.zero.cells nilSl nilSl nilSl)) := by simp [abuild, afill]; rfl
  refine ACalls_body Tryd.func9 rfl rfl ?_
  refine AW_seq ?_
  refine AW_reg [0, 2] fun K hK => ?_ -- region 0
  simp [init_eq, V.cells]
  refine hK _ _ ?_; clear hK K
  obtain ⟨G, e1, g1, gn, go⟩ := H.boxed (Msg.zero.cells nilSl nilSl nilSl)
  show AThen _ _ _ _ (H.new (O.cells (Msg.zero.cells nilSl nilSl nilSl) 0 false 0))
  rw [e1]
  have u0 : Upd H G [] := ⟨by omega, fun j hj _ => go j hj⟩
  have zat : ∀ G', MsgAt G' Msg.zero nilSl nilSl nilSl := fun G' => nils_at G' rfl rfl rfl
  refine AW_seq ?_
  refine AW_seq ?_
  refine AW_reg [0, 2, 11] fun K hK => ?_ -- region 1
  simp [init_eq, alen]
  refine hK _ _ ?_; clear hK K
  refine AW_cond' rfl rfl (fun hc => ?_) (fun hc => ?_)
  · have hl : 65536 < l.length := by simp at hc; omega
    have hltn : H.next < G.next := by omega
    refine AW_seq ?_
    refine AW_reg [2, 3] fun K hK => ?_ -- region 2
    simp [init_eq, hab, astore, g1, V.cells]
    refine hK _ _ ?_; clear hK K
    have e : parseMsg l = (Msg.zero, 2) := by unfold parseMsg; rw [if_pos hl]
    rw [e]
    refine AW_ret (end_ret (ares_cell_tmp (v := .agg (Msg.zero.cells nilSl nilSl nilSl)) ?_) ⟨nilSl, nilSl, nilSl, rfl, zat _, u0.trans (Upd.set (F := [H.next]) _ _ _ (by simp)) (fun j hj => .inr (by simp at hj; omega))⟩)
    simp [aload, AH.get_set, hltn]
    rw [splice_all (c := Msg.zero.cells nilSl nilSl nilSl) (l := Msg.zero.cells nilSl nilSl nilSl) rfl]; simp [msg_take]
  have hl : ¬ 65536 < l.length := by simp at hc; omega
  refine AW_skip ?_
  refine AW_seq ?_
  refine AW_reg [2, 4] fun K hK => ?_ -- region 3
  have hsl : Sl (G.new (.cells (bytesV l) 0 false 1)) (.sl (some (G.next, 0, 0)) l.length false) 1 (bytesV l) :=
    .inr ⟨G.next, 0, 0, l.length, false, bytesV l, false, 1, rfl, by simp [AH.get_new], by simp, by simp [List.take_of_length_le]⟩
  simp [init_eq, conv_bytes qthere_9 qbs_51]
  refine ACalls.mono (rdnew_ok _ hsl (by omega)) fun r G1 hr => ?_ -- hallmoot/wire.New
  obtain ⟨H0, id, rfl, h1, u1, lid⟩ := hr
  have u01 : Upd H G1 [] := (u0.trans (Upd.new G _ []) (by simp)).trans u1 (by simp)
  have lid' : H.next < id := by simp at lid; omega
  have g2 : G1.get H.next = some (.cells (Msg.zero.cells nilSl nilSl nilSl) 0 false 0) := u1.keep (by simp) ((Upd.new G _ []).keep (by simp) g1)
  try simp
  refine hK _ _ ?_; clear hK K
  refine AW_seq ?_
  refine AW_reg [2, 4, 5] fun K hK => ?_ -- region 4
  simp [init_eq]
  refine ACalls.mono (msmall_ok h1) fun r G2 ⟨hr, h2, u2⟩ => ?_ -- hallmoot/msg.small
  subst hr
  have g3 := u2.keep (by simp; omega) g2
  have hlt := AH.get_lt g3
  have hid2 := h2.mem
  have hps : parseMsg l = (if 65536 < l.length then (Msg.zero, 2) else if rdone (takeMsg (l, 0)).2 ≠ 0 ∧ rdone (takeMsg (l, 0)).2 ≠ 32 then (Msg.zero, rdone (takeMsg (l, 0)).2) else if (takeMsg (l, 0)).1.ok = false then (Msg.zero, 140) else if rdone (takeMsg (l, 0)).2 ≠ 0 then (Msg.zero, rdone (takeMsg (l, 0)).2) else ((takeMsg (l, 0)).1, 0)) := rfl
  rw [if_neg hl] at hps
  have s32 : (rsmall ((l, 0) : St)).2.2 ≠ 32 := rnum_32 (show (0 : Int) ≠ 32 by decide)
  unfold takeMsg at hps
  have hfit := fillMsg_fit (rsmall ((l, 0) : St)).1 (rsmall ((l, 0) : St)).2
  generalize (rsmall ((l, 0) : St)).1 = k at *
  generalize (rsmall ((l, 0) : St)).2 = s at *
  have hz : abuild Tryd.prog 40 [(0, .i .i64 (k : Int))] = some (.agg (({ Msg.zero with kind := (k : Int) } : Msg).cells nilSl nilSl nilSl)) := by simp [abuild, afill]; rfl
  simp [hz, V.cells, astore, AH.get_new]
  refine hK _ _ ?_; clear hK K
  generalize hG3 : AH.set _ G2.next _ = G3
  have k5 : G3.get G2.next = some (.cells (({ Msg.zero with kind := (k : Int) } : Msg).cells nilSl nilSl nilSl) 0 false 0) := by
    rw [← hG3]; simp [AH.get_set]; first | exact splice_all rfl | rfl | done
  have ko : ∀ j, j < G2.next → G3.get j = G2.get j := fun j hj => by rw [← hG3, AH.get_set_ne (by omega), AH.get_new, if_neg (by omega)]
  have kn : G3.next = G2.next + 1 := by rw [← hG3]; simp
  have u3 : Upd G2 G3 [] := ⟨by omega, fun j hj _ => ko j hj⟩
  have h3 := h2.upd u3 (by simp)
  have g4 := u3.keep (by simp) g3
  have uH : Upd H G3 [] := (u01.trans u2 (fun j hj => .inr (by simp at hj; omega))).trans u3 (by simp)
  clear hG3 hz
  refine AW_seq ?_
  refine AW_reg [2, 4, 5] fun K hK => ?_ -- region 5
  simp [init_eq]
  refine ACalls.mono (fill_ok h3 s32 hid2 k5) fun r G4 ⟨hr, lv, pv, tv, hat, T⟩ => ?_ -- hallmoot/msg.fill
  subst hr
  try simp
  refine hK _ _ ?_; clear hK K
  generalize fillMsg (k : Int) s = q at *
  obtain ⟨m, w⟩ := q
  simp only at hat T hps hfit
  have h4 := T.rd
  have m4 := T.mm
  have g5 := T.upd.keep (by simp; omega) g4
  have hlt5 := AH.get_lt g5
  have uH4 : Upd H G4 [] := uH.trans T.upd (fun j hj => .inr (by simp at hj; omega))
  have fin : ∀ o, Upd H (G4.set H.next o) [] := fun o => uH4.trans (Upd.set (F := [H.next]) _ _ _ (by simp)) (fun j hj => .inr (by simp at hj; omega))
  have mat : MsgAt G4 m lv pv tv := hat G4 (fun j _ _ => rfl) (Nat.le_refl _)
  have mat2 : ∀ o, MsgAt (G4.set H.next o) m lv pv tv := fun o => hat _ (fun j h1 h2 => AH.get_set_ne (by omega)) (by simp)
  refine AW_seq ?_
  refine AW_seq ?_
  refine AW_reg [2, 4, 5, 6] fun K hK => ?_ -- region 6
  simp [init_eq]
  refine ACalls.mono (done_ok h4) fun r' H' ⟨hr, e⟩ => ?_ -- (*hallmoot/wire.Reader).Done
  subst hr e
  try simp
  refine hK _ _ ?_; clear hK K
  refine AW_seq ?_
  refine AW_regto [2, 4, 5, 6, 28] ⟨44, [(2, .p (some (H.next, 0, 0))), (4, .p (some (id, 0, 0))), (5, .p (some (G2.next, 0, 0))), (6, .i .i64 (rdone w)), (28, .b (decide (rdone w ≠ 0 ∧ rdone w ≠ 32)))]⟩ H' (fun K hk => ?_) ?_ -- region 7
  · by_cases k1 : rdone w = 0
    · simpa [init_eq, k1] using hk
    · by_cases k2 : rdone w = 32
      · simpa [init_eq, k1, k2] using hk
      · simpa [init_eq, k1, k2] using hk
  refine AW_cond' rfl rfl (fun hc => ?_) (fun hc => ?_)
  · have k1 : rdone w ≠ 0 ∧ rdone w ≠ 32 := by simpa using hc
    rw [if_pos k1] at hps
    rw [hps]
    refine AW_seq ?_
    refine AW_reg [2, 3] fun K hK => ?_ -- region 8
    simp [init_eq, hab, astore, g5, V.cells]
    refine hK _ _ ?_; clear hK K
    refine AW_ret (end_ret (ares_cell_tmp (v := .agg (Msg.zero.cells nilSl nilSl nilSl)) ?_) ⟨nilSl, nilSl, nilSl, rfl, zat _, fin _⟩)
    simp [aload, AH.get_set, hlt5]
    rw [splice_all (c := Msg.zero.cells nilSl nilSl nilSl) (l := Msg.zero.cells nilSl nilSl nilSl) rfl]; simp [msg_take]
  have k1 : ¬ (rdone w ≠ 0 ∧ rdone w ≠ 32) := by simpa using hc
  rw [if_neg k1] at hps
  refine AW_skip ?_
  refine AW_seq ?_
  refine AW_seq ?_
  refine AW_reg [2, 4, 5, 7] fun K hK => ?_ -- region 9
  simp [init_eq, aload, m4, msg_take]
  refine ACalls.mono (mcheck_ok _ mat hfit) fun r G5 ⟨hr, e⟩ => ?_ -- hallmoot/msg.Check
  subst hr e
  try simp
  refine hK _ _ ?_; clear hK K
  refine AW_seq ?_
  refine AW_reg [2, 4, 5, 7, 34] fun K hK => ?_ -- region 10
  simp [init_eq]
  refine hK _ _ ?_; clear hK K
  refine AW_cond' rfl rfl (fun hc => ?_) (fun hc => ?_)
  · have k2 : m.ok = false := by cases h : m.ok <;> simp [h] at hc ⊢
    rw [if_pos k2] at hps
    rw [hps]
    refine AW_seq ?_
    refine AW_reg [2, 3] fun K hK => ?_ -- region 11
    simp [init_eq, hab, astore, g5, V.cells, k2]
    refine hK _ _ ?_; clear hK K
    refine AW_ret (end_ret (ares_cell_tmp (v := .agg (Msg.zero.cells nilSl nilSl nilSl)) ?_) ⟨nilSl, nilSl, nilSl, rfl, zat _, fin _⟩)
    simp [aload, AH.get_set, hlt5]
    rw [splice_all (c := Msg.zero.cells nilSl nilSl nilSl) (l := Msg.zero.cells nilSl nilSl nilSl) rfl]; simp [msg_take]
  have k2 : ¬ m.ok = false := by cases h : m.ok <;> simp [h] at hc ⊢
  rw [if_neg k2] at hps
  refine AW_skip ?_
  refine AW_seq ?_
  refine AW_seq ?_
  refine AW_reg [2, 5, 8] fun K hK => ?_ -- region 12
  simp [init_eq]
  refine ACalls.mono (done_ok h4) fun r' G6 ⟨hr, e⟩ => ?_ -- (*hallmoot/wire.Reader).Done
  subst hr e
  try simp
  refine hK _ _ ?_; clear hK K
  refine AW_seq ?_
  refine AW_reg [2, 5, 8, 40] fun K hK => ?_ -- region 13
  simp [init_eq]
  refine hK _ _ ?_; clear hK K
  refine AW_cond' rfl rfl (fun hc => ?_) (fun hc => ?_)
  · have k3 : rdone w ≠ 0 := by simpa using hc
    rw [if_pos k3] at hps
    rw [hps]
    refine AW_seq ?_
    refine AW_reg [2, 3] fun K hK => ?_ -- region 14
    simp [init_eq, hab, astore, g5, V.cells]
    refine hK _ _ ?_; clear hK K
    refine AW_ret (end_ret (ares_cell_tmp (v := .agg (Msg.zero.cells nilSl nilSl nilSl)) ?_) ⟨nilSl, nilSl, nilSl, rfl, zat _, fin _⟩)
    simp [aload, AH.get_set, hlt5]
    rw [splice_all (c := Msg.zero.cells nilSl nilSl nilSl) (l := Msg.zero.cells nilSl nilSl nilSl) rfl]; simp [msg_take]
  · have k3 : ¬ rdone w ≠ 0 := by simpa using hc
    rw [if_neg k3] at hps
    rw [hps]
    refine AW_skip ?_
    refine AW_seq ?_
    refine AW_reg [2, 3] fun K hK => ?_ -- region 15
    simp [init_eq, aload, m4, msg_take, astore, g5, V.cells]
    refine hK _ _ ?_; clear hK K
    refine AW_ret (end_ret (ares_cell_tmp (v := .agg (m.cells lv pv tv)) ?_) ⟨lv, pv, tv, rfl, mat2 _, fin _⟩)
    simp [aload, AH.get_set, hlt5]
    rw [splice_all (c := Msg.zero.cells nilSl nilSl nilSl) (l := m.cells lv pv tv) rfl]; simp [msg_take]
end Go.Proofs.YtfhbdbjgmcopjaaDoor
