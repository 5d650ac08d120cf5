/-
  msg.only and msg.Check.
-/
import Derived.Test.YtfhbdbjgmcopjaaGreatDoorMsg4
set_option linter.unusedVariables false
set_option linter.unusedSimpArgs false
namespace Go.Proofs.YtfhbdbjgmcopjaaGreatDoor
open Go Go.Abs Go.Proofs
set_option maxRecDepth 100000
attribute [local irreducible] AEnd AW ACalls

section
variable (m : Msg) (lv pv tv : V)
theorem Msg.w1 (x : Int) : splice (m.cells lv pv tv) 1 [.i .i64 x] = ({ m with signer := x } : Msg).cells lv pv tv := rfl
theorem Msg.w2 (x : Int) : splice (m.cells lv pv tv) 2 [.i .i64 x] = ({ m with view := x } : Msg).cells lv pv tv := rfl
theorem Msg.w3 (x : Int) : splice (m.cells lv pv tv) 3 [.i .i64 x] = ({ m with n := x } : Msg).cells lv pv tv := rfl
theorem Msg.w4 (x : BitVec 32) : splice (m.cells lv pv tv) 4 [u32 x] = ({ m with set := x } : Msg).cells lv pv tv := rfl
theorem Msg.w4u (x : BitVec 32) : splice (m.cells lv pv tv) 4 [.i .u32 x.toNat] = ({ m with set := x } : Msg).cells lv pv tv := rfl
theorem Msg.w4' : splice (m.cells lv pv tv) 4 [.i .u32 0] = ({ m with set := 0#32 } : Msg).cells lv pv tv := rfl
theorem Msg.w5 (x : Cert) : splice (m.cells lv pv tv) 5 x.cells = ({ m with cert := x } : Msg).cells lv pv tv := rfl
theorem Msg.w13 (x : Tmo) : splice (m.cells lv pv tv) 13 x.cells = ({ m with tmo := x } : Msg).cells lv pv tv := rfl
theorem Msg.w23 (x : V) : splice (m.cells lv pv tv) 23 [x] = m.cells x pv tv := rfl
theorem Msg.w24 (x : Blk) (pv' tv' : V) : splice (m.cells lv pv tv) 24 (x.cells pv' tv') = ({ m with blk := x } : Msg).cells lv pv' tv' := rfl
theorem Msg.w38 (x : Tx) : splice (m.cells lv pv tv) 38 x.cells = ({ m with tx := x } : Msg).cells lv pv tv := rfl
end
theorem i_cells (k : IntKind) (n : Int) : (V.i k n).cells = some [.i k n] := rfl
theorem u32_cells (x : BitVec 32) : (u32 x).cells = some [u32 x] := rfl
/-- Where the lists of what a kind has lie. -/
def onlyL (m : Msg) (lv : V) : V := if mclass m.kind = .proof then lv else nilSl
def onlyB (m : Msg) (v : V) : V := if mclass m.kind = .blk then v else nilSl
def onlyC (m : Msg) (lv pv tv : V) : List V := m.only.cells (onlyL m lv) (onlyB m pv) (onlyB m tv)
theorem RS.nils (H : AH) (sz : Nat) : RS H nilSl sz [] := RS.nil H sz false
theorem MsgAt.only {H : AH} {m : Msg} {lv pv tv : V} (h : MsgAt H m lv pv tv) : MsgAt H m.only (onlyL m lv) (onlyB m pv) (onlyB m tv) := by
  unfold Msg.only onlyL onlyB
  rcases mclass_cases m.kind with ⟨e, h1⟩ | ⟨e, h1⟩ | ⟨e, h1⟩ | ⟨e, h1⟩ | ⟨e, h1⟩ | ⟨e, h1⟩ | ⟨e, h1⟩ <;> simp only [e, reduceCtorEq, if_false, if_true]
  · exact ⟨RS.nils .., h.bk⟩
  · exact ⟨RS.nils .., RS.nils .., RS.nils ..⟩
  · exact ⟨RS.nils .., RS.nils .., RS.nils ..⟩
  · exact ⟨h.pf, RS.nils .., RS.nils ..⟩
  · exact ⟨RS.nils .., RS.nils .., RS.nils ..⟩
  · repeat' split
    all_goals exact ⟨RS.nils .., RS.nils .., RS.nils ..⟩
  · exact ⟨RS.nils .., RS.nils .., RS.nils ..⟩
theorem Blk.lts (n : Nat) (b : Blk) {pv tv : V} (h1 : V.lt n pv = true) (h2 : V.lt n tv = true) : V.lts n (b.cells pv tv) = true := by
  simp [Blk.cells, Cert.cells, u32, h1, h2]
theorem Msg.lts (n : Nat) (m : Msg) {lv pv tv : V} (h0 : V.lt n lv = true) (h1 : V.lt n pv = true) (h2 : V.lt n tv = true) : V.lts n (m.cells lv pv tv) = true := by
  simp [Msg.cells, Tmo.cells, Blk.cells, Cert.cells, Tx.cells, u32, h0, h1, h2]
theorem MsgAt.lts {H : AH} {m : Msg} {lv pv tv : V} (h : MsgAt H m lv pv tv) {n : Nat} (hn : H.next ≤ n) : V.lts n (m.cells lv pv tv) = true := Msg.lts n m (h.pf.lt hn) (h.bk.pf.lt hn) (h.bk.tx.lt hn)
/-- Under way in msg.only: the message, the result's cells, what is kept. -/
structure TO (H G : AH) (m : Msg) (lv pv tv : V) (X : List V) : Prop where
  mm : G.get H.next = some (.cells (m.cells lv pv tv) 0 false 0)
  rs : G.get (H.next + 1) = some (.cells (Msg.zero.cells nilSl nilSl nilSl) 0 false 0)
  xx : G.get (H.next + 2) = some (.cells X 0 false 0)
  nx : H.next + 3 ≤ G.next
  old : ∀ j, j < H.next → G.get j = H.get j
theorem TO.upd {H G G' : AH} {m : Msg} {lv pv tv : V} {X : List V} (h : TO H G m lv pv tv X) (u : Upd G G' []) : TO H G' m lv pv tv X := by
  refine ⟨u.keep (by simp) h.mm, u.keep (by simp) h.rs, u.keep (by simp) h.xx, Nat.le_trans h.nx u.1, fun j hj => ?_⟩
  rw [u.2 j (by have := h.nx; omega) (by simp), h.old j hj]
theorem TO.set {H G : AH} {m : Msg} {lv pv tv : V} {X Y : List V} (h : TO H G m lv pv tv X) : TO H (G.set (H.next + 2) (.cells Y 0 false 0)) m lv pv tv Y := by
  have hn := h.nx
  refine ⟨?_, ?_, ?_, hn, fun j hj => ?_⟩
  · rw [AH.get_set_ne (by omega)]; exact h.mm
  · rw [AH.get_set_ne (by omega)]; exact h.rs
  · simp [AH.get_set]; omega
  · rw [AH.get_set_ne (by omega)]; exact h.old j hj
set_option maxHeartbeats 4000000 in
theorem only_ok (H : AH) {m : Msg} {lv pv tv : V} (hm : MsgAt H m lv pv tv) : ACalls Tryz.prog 21 [.agg (m.cells lv pv tv)] H fun r H' => r = .agg (onlyC m lv pv tv) ∧ H' = H := by
  refine ACalls.pure (Q := fun r => r = .agg (onlyC m lv pv tv)) ⟨_, Tryz.func21, rfl, rfl⟩ ?_
  refine ACalls_body Tryz.func21 rfl rfl ?_
  have hz : abuild Tryz.prog 39 [(0, .i .i64 m.kind)] = some (.agg (({ Msg.zero with kind := m.kind } : Msg).cells nilSl nilSl nilSl)) := by simp [abuild, afill]; rfl
  refine AW_seq ?_
  refine AW_reg [1, 2] fun K hK => ?_ -- region 0
  simp [init_eq, V.cells]
  refine hK _ _ ?_; clear hK K
  obtain ⟨G, e1, g1, g2, g3, gn, go⟩ := H.boxed3 (m.cells lv pv tv) (Msg.zero.cells nilSl nilSl nilSl) (Msg.zero.cells nilSl nilSl nilSl)
  have T0 : TO H G m lv pv tv (Msg.zero.cells nilSl nilSl nilSl) := ⟨g1, g2, g3, by omega, go⟩
  refine AW_seq ?_
  refine AW_reg [1, 2, 3] fun K hK => ?_ -- region 1
  simp [init_eq, afieldAddr, aload, AH.get_new, hz, V.cells, astore]
  refine hK _ _ ?_; clear hK K
  have T1 := T0.set (Y := splice (Msg.zero.cells nilSl nilSl nilSl) 0 (({ Msg.zero with kind := m.kind } : Msg).cells nilSl nilSl nilSl))
  rw [show splice (Msg.zero.cells nilSl nilSl nilSl) 0 (({ Msg.zero with kind := m.kind } : Msg).cells nilSl nilSl nilSl) = ({ Msg.zero with kind := m.kind } : Msg).cells nilSl nilSl nilSl from splice_all rfl] at T1
  rw [← e1] at T1
  generalize hG1 : AH.set _ _ _ = G1
  have T1 : TO H G1 m lv pv tv (({ Msg.zero with kind := m.kind } : Msg).cells nilSl nilSl nilSl) := by rw [← hG1]; exact T1
  clear hG1 e1 g1 g2 g3 gn go T0
  have lt := hm.lts (Nat.le_refl H.next)
  refine AW_cut (fun ρ G => ρ = ⟨66, [(2, .p (some (H.next + 1, 0, 0))), (3, .p (some (H.next + 2, 0, 0)))]⟩ ∧ TO H G m lv pv tv (onlyC m lv pv tv)) ?_ ?_
  · refine AW_seq ?_
    refine AW_reg [1, 2, 3, 7] fun K hK => ?_ -- region 2
    simp [init_eq]
    refine ACalls.mono (what_ok _ T1.mm) fun r G2 ⟨hr, hu⟩ => ?_ -- hallmoot/msg.what
    try simp
    refine hK _ _ ?_; clear hK K
    have T2 := T1.upd hu
    clear T1 hu
    have hn := T2.nx
    rcases mclass_cases m.kind with ⟨e, h1⟩ | ⟨e, h1⟩ | ⟨e, h1⟩ | ⟨e, h1⟩ | ⟨e, h1⟩ | ⟨e, h1⟩ | ⟨e, h1⟩
    case inl =>
      simp only [whatR, e] at hr
      subst hr
      repeat (first
        | refine AW_seq ?_
        | refine AW_block ?_
        | refine AW_condT rfl ?_
        | refine AW_condF rfl ?_
        | (refine AW_reg [1, 2, 3, 7, 9, 15, 21, 27, 33, 39] fun K hK => ?_
           simp [init_eq, atypeAssert, afieldAddr, aload, astore, T2.mm, T2.xx, V.cells, Msg.blk_cells, Msg.w24]
           refine hK _ _ ?_; clear hK K))
      refine bend (rend ⟨_, by simp, rfl, ?_⟩)
      simpa only [onlyC, Msg.only, onlyL, onlyB, e, reduceCtorEq, if_false, if_true] using T2.set
    case inr.inl =>
      simp only [whatR, e] at hr
      subst hr
      repeat (first
        | refine AW_seq ?_
        | refine AW_block ?_
        | refine AW_condT rfl ?_
        | refine AW_condF rfl ?_
        | (refine AW_reg [1, 2, 3, 7, 9, 15, 21, 27, 33, 39] fun K hK => ?_
           simp [init_eq, atypeAssert, afieldAddr, aload, astore, T2.mm, T2.xx, V.cells, Msg.cert_cells, Msg.w5]
           refine hK _ _ ?_; clear hK K))
      refine bend (rend ⟨_, by simp, rfl, ?_⟩)
      simpa only [onlyC, Msg.only, onlyL, onlyB, e, reduceCtorEq, if_false, if_true] using T2.set
    case inr.inr.inl =>
      simp only [whatR, e] at hr
      subst hr
      repeat (first
        | refine AW_seq ?_
        | refine AW_block ?_
        | refine AW_condT rfl ?_
        | refine AW_condF rfl ?_
        | (refine AW_reg [1, 2, 3, 7, 9, 15, 21, 27, 33, 39] fun K hK => ?_
           simp [init_eq, atypeAssert, afieldAddr, aload, astore, T2.mm, T2.xx, V.cells, Msg.tmo_cells, Msg.w13]
           refine hK _ _ ?_; clear hK K))
      refine bend (rend ⟨_, by simp, rfl, ?_⟩)
      simpa only [onlyC, Msg.only, onlyL, onlyB, e, reduceCtorEq, if_false, if_true] using T2.set
    case inr.inr.inr.inl =>
      simp only [whatR, e] at hr
      subst hr
      repeat (first
        | refine AW_seq ?_
        | refine AW_block ?_
        | refine AW_condT rfl ?_
        | refine AW_condF rfl ?_
        | (refine AW_reg [1, 2, 3, 7, 9, 15, 21, 27, 33, 39] fun K hK => ?_
           simp [init_eq, atypeAssert, afieldAddr, aload, astore, T2.mm, T2.xx, hm.pf.cells, Msg.w23]
           refine hK _ _ ?_; clear hK K))
      refine bend (rend ⟨_, by simp, rfl, ?_⟩)
      simp only [onlyC, Msg.only, onlyL, onlyB, e, reduceCtorEq, if_false, if_true]
      exact T2.set (Y := (({ Msg.zero with kind := m.kind, proof := m.proof } : Msg).cells lv nilSl nilSl))
    case inr.inr.inr.inr.inl =>
      simp only [whatR, e] at hr
      subst hr
      repeat (first
        | refine AW_seq ?_
        | refine AW_block ?_
        | refine AW_condT rfl ?_
        | refine AW_condF rfl ?_
        | (refine AW_reg [1, 2, 3, 7, 9, 15, 21, 27, 33, 39] fun K hK => ?_
           simp [init_eq, atypeAssert, afieldAddr, aload, astore, T2.mm, T2.xx, V.cells, Msg.tx_cells, Msg.w38]
           refine hK _ _ ?_; clear hK K))
      refine bend (rend ⟨_, by simp, rfl, ?_⟩)
      simpa only [onlyC, Msg.only, onlyL, onlyB, e, reduceCtorEq, if_false, if_true] using T2.set
    case inr.inr.inr.inr.inr.inr =>
      simp only [whatR, e] at hr
      subst hr
      repeat (first
        | refine AW_seq ?_
        | refine AW_block ?_
        | refine AW_condT rfl ?_
        | refine AW_condF rfl ?_
        | (refine AW_reg [1, 2, 3, 7, 9, 15, 21, 27, 33, 39] fun K hK => ?_
           simp [init_eq, atypeAssert]
           refine hK _ _ ?_; clear hK K))
      refine AW_skip ?_
      refine bend (rend ⟨_, by simp, rfl, ?_⟩)
      simpa only [onlyC, Msg.only, onlyL, onlyB, e, reduceCtorEq, if_false, if_true] using T2
    case inr.inr.inr.inr.inr.inl =>
      simp only [whatR, e] at hr
      obtain ⟨rfl, -⟩ := hr
      refine AW_block ?_
      refine AW_seq ?_
      refine AW_reg [1, 2, 3, 7, 9] fun K hK => ?_ -- region 3
      simp [init_eq, atypeAssert]
      refine hK _ _ ?_; clear hK K
      refine AW_condF rfl ?_
      refine AW_seq ?_
      refine AW_reg [1, 2, 3, 7, 15] fun K hK => ?_
      simp [init_eq, atypeAssert]
      refine hK _ _ ?_; clear hK K
      refine AW_condF rfl ?_
      refine AW_seq ?_
      refine AW_reg [1, 2, 3, 7, 21] fun K hK => ?_
      simp [init_eq, atypeAssert]
      refine hK _ _ ?_; clear hK K
      refine AW_condF rfl ?_
      refine AW_seq ?_
      refine AW_reg [1, 2, 3, 7, 27] fun K hK => ?_
      simp [init_eq, atypeAssert]
      refine hK _ _ ?_; clear hK K
      refine AW_condF rfl ?_
      refine AW_seq ?_
      refine AW_reg [1, 2, 3, 7, 33] fun K hK => ?_
      simp [init_eq, atypeAssert]
      refine hK _ _ ?_; clear hK K
      refine AW_condF rfl ?_
      refine AW_seq ?_
      refine AW_reg [1, 2, 3, 39] fun K hK => ?_
      simp [init_eq, atypeAssert]
      refine hK _ _ ?_; clear hK K
      refine AW_condT rfl ?_
      refine AW_seq ?_
      have hlt : H.next + 2 < G2.next := by omega
      have ne : ¬ H.next = H.next + 2 := by omega
      refine AW_regm (.only [H.next]) [1, 2, 3] pl_21_14 pe_21_14 (by kernel_rfl) (by kernel_rfl) (by decide) fun K hK => ?_ -- region 14
      simp [init_eq, pl_21_14, APlan_takem, through, tkOk, rid, afieldAddr, aload, astore, T2.mm, T2.xx, V.cells, AH.get_set, hlt, ne, u32, Msg.w1, Msg.w2, Msg.w3, Msg.w4u, RM]
      refine hK _ _ ?_; clear hK K
      have T3 := (((T2.set (Y := (({ Msg.zero with kind := m.kind, signer := m.signer } : Msg).cells nilSl nilSl nilSl))).set (Y := (({ Msg.zero with kind := m.kind, signer := m.signer, view := m.view } : Msg).cells nilSl nilSl nilSl))).set (Y := (({ Msg.zero with kind := m.kind, signer := m.signer, view := m.view, n := m.n } : Msg).cells nilSl nilSl nilSl))).set (Y := (({ Msg.zero with kind := m.kind, signer := m.signer, view := m.view, n := m.n, set := m.set } : Msg).cells nilSl nilSl nilSl))
      generalize hG3 : AH.set _ _ _ = G3
      have T3 : TO H G3 m lv pv tv (({ Msg.zero with kind := m.kind, signer := m.signer, view := m.view, n := m.n, set := m.set } : Msg).cells nilSl nilSl nilSl) := by rw [← hG3]; exact T3
      clear hG3 T2
      have hlt : H.next + 2 < G3.next := by have := T3.nx; omega
      refine AW_seq ?_
      refine AW_reg [2, 3, 54] fun K hK => ?_ -- region 15
      simp [init_eq, afieldAddr, aload, T3.mm]
      refine hK _ _ ?_; clear hK K
      refine AW_block ?_
      refine AW_seq ?_
      refine AW_reg [2, 3, 54, 57] fun K hK => ?_ -- region 17
      simp [init_eq]
      refine hK _ _ ?_; clear hK K
      refine AW_cond' rfl rfl (fun hc => ?_) (fun hc => ?_)
      · have k7 : m.kind = 7 := by simpa using hc
        refine AW_reg [2, 3] fun K hK => ?_ -- region 18
        simp [init_eq, afieldAddr, astore, T3.xx, V.cells, AH.get_set, hlt, Msg.w1, Msg.w3]
        refine hK _ _ ?_; clear hK K
        refine bend (bend (rend ⟨_, by simp, rfl, ?_⟩))
        simp only [onlyC, Msg.only, onlyL, onlyB, e, reduceCtorEq, if_false, if_true, k7]
        exact (T3.set (Y := _)).set (Y := _)
      · have k7 : ¬ m.kind = 7 := by simpa using hc
        refine AW_seq ?_
        refine AW_reg [2, 3, 61] fun K hK => ?_ -- region 19
        simp [init_eq]
        refine hK _ _ ?_; clear hK K
        refine AW_cond' rfl rfl (fun hc => ?_) (fun hc => ?_)
        · have k8 : m.kind = 8 := by simpa using hc
          refine AW_reg [2, 3] fun K hK => ?_ -- region 20
          simp [init_eq, afieldAddr, astore, T3.xx, i_cells, u32_cells, AH.get_set, hlt, Msg.w2, Msg.w4]
          refine hK _ _ ?_; clear hK K
          refine bend (bend (rend ⟨_, by simp, rfl, ?_⟩))
          simp only [onlyC, Msg.only, onlyL, onlyB, e, reduceCtorEq, if_false, if_true, if_neg k7, if_pos k8]
          exact (T3.set (Y := _)).set (Y := _)
        · have k8 : ¬ m.kind = 8 := by simpa using hc
          refine AW_reg [2, 3] fun K hK => ?_ -- region 16
          simp [init_eq, afieldAddr, astore, T3.xx, i_cells, u32_cells, AH.get_set, hlt, Msg.w3, Msg.w4]
          refine hK _ _ ?_; clear hK K
          refine bend (bend (rend ⟨_, by simp, rfl, ?_⟩))
          simp only [onlyC, Msg.only, onlyL, onlyB, e, reduceCtorEq, if_false, if_true, if_neg k7, if_neg k8]
          exact (T3.set (Y := _)).set (Y := _)
  · rintro ρ G ⟨rfl, T⟩
    refine AW_seq ?_
    refine AW_reg [2] fun K hK => ?_ -- region 21
    have len : (onlyC m lv pv tv).length = 45 := rfl
    simp [init_eq, aload, T.xx, astore, T.rs, V.cells, len, List.take_of_length_le]
    refine hK _ _ ?_; clear hK K
    refine AW_ret (end_ret (ares_cell (v := .agg (onlyC m lv pv tv)) ?_) ?_)
    · have hlt : H.next + 1 < G.next := by have := T.nx; omega
      rw [show splice (Msg.zero.cells nilSl nilSl nilSl) 0 (onlyC m lv pv tv) = onlyC m lv pv tv from splice_all rfl]
      simp [aload, AH.get_set, hlt, len, List.take_of_length_le]
    · refine ⟨rfl, ?_, by have := T.nx; simp; omega, fun j hj => ?_⟩
      · have hl : V.lt H.next (onlyL m lv) = true := by unfold onlyL; split <;> simp [hm.pf.lt (Nat.le_refl _), nilSl]
        have h1 : V.lt H.next (onlyB m pv) = true := by unfold onlyB; split <;> simp [hm.bk.pf.lt (Nat.le_refl _), nilSl]
        have h2 : V.lt H.next (onlyB m tv) = true := by unfold onlyB; split <;> simp [hm.bk.tx.lt (Nat.le_refl _), nilSl]
        exact Msg.lts H.next m.only hl h1 h2
      · rw [AH.get_set_ne (by omega)]; exact T.old j hj
end Go.Proofs.YtfhbdbjgmcopjaaGreatDoor
