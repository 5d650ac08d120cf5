/-
  The document's: which messages may be (hallmootref14.Check).
-/
import Derived.Test.YtfhbdbjgmcopjaaGreatDoorMsg8
import Derived.Test.YtfhbdbjgmcopjaaGreatDoorRList
set_option linter.unusedVariables false
set_option linter.unusedSimpArgs false
namespace Go.Proofs.YtfhbdbjgmcopjaaGreatDoor
open Go Go.Abs Go.Proofs
set_option maxRecDepth 100000
attribute [local irreducible] AEnd AW ACalls

theorem rsigner_ok (H : AH) (n : Int) : ACalls Tryz.prog 32 [.i .i64 n] H fun r H' => r = .b (inR n 0 9) ∧ H' = H := by
  refine ACalls_body Tryz.func32 rfl rfl ?_
  refine AW_seq ?_
  refine AW_reg [0] fun K hK => ?_ -- region 0
  simp [init_eq]
  refine hK _ _ ?_; clear hK K
  refine AW_seq ?_
  refine AW_regto [2] ⟨9, [(2, .b (inR n 0 9))]⟩ H (fun K hk => ?_) (AW_ret (end_ret rfl ⟨rfl, rfl⟩))
  by_cases h1 : 0 ≤ n
  · simpa [init_eq, h1, inR] using hk
  · simpa [init_eq, h1, inR] using hk
theorem rview_ok (H : AH) (n : Int) : ACalls Tryz.prog 33 [.i .i64 n] H fun r H' => r = .b (inR n 1 1048576) ∧ H' = H := by
  refine ACalls_body Tryz.func33 rfl rfl ?_
  refine AW_seq ?_
  refine AW_reg [0] fun K hK => ?_ -- region 0
  simp [init_eq]
  refine hK _ _ ?_; clear hK K
  refine AW_seq ?_
  refine AW_regto [2] ⟨9, [(2, .b (inR n 1 1048576))]⟩ H (fun K hk => ?_) (AW_ret (end_ret rfl ⟨rfl, rfl⟩))
  by_cases h1 : 1 ≤ n
  · simpa [init_eq, h1, inR] using hk
  · simpa [init_eq, h1, inR] using hk
theorem agg_cells (l : List V) : (V.agg l).cells = some l := rfl
/-- Under way in hallmootref14.Check. -/
structure TR (H G : AH) (m : Msg) (lv pv tv : V) (X : List V) : Prop where
  mm : G.get H.next = some (.cells (m.cells lv pv tv) 0 false 0)
  xx : G.get (H.next + 1) = some (.cells X 0 false 0)
  cc : G.get (H.next + 2) = some (.cells m.cert.cells 0 false 0)
  nx : H.next + 3 ≤ G.next
  old : ∀ j, j < H.next → G.get j = H.get j
theorem TR.set {H G : AH} {m : Msg} {lv pv tv : V} {X Y : List V} (h : TR H G m lv pv tv X) : TR H (G.set (H.next + 1) (.cells Y 0 false 0)) m lv pv tv Y := by
  have hn := h.nx
  refine ⟨?_, ?_, ?_, hn, fun j hj => ?_⟩
  · rw [AH.get_set_ne (by omega)]; exact h.mm
  · simp [AH.get_set]; omega
  · rw [AH.get_set_ne (by omega)]; exact h.cc
  · rw [AH.get_set_ne (by omega)]; exact h.old j hj
theorem TR.upd {H G G' : AH} {m : Msg} {lv pv tv : V} {X : List V} (h : TR H G m lv pv tv X) (u : Upd G G' []) : TR H G' m lv pv tv X := by
  refine ⟨u.keep (by simp) h.mm, u.keep (by simp) h.xx, u.keep (by simp) h.cc, Nat.le_trans h.nx u.1, fun j hj => ?_⟩
  rw [u.2 j (by have := h.nx; omega) (by simp), h.old j hj]
set_option maxHeartbeats 16000000 in
theorem rmcheck_ok (H : AH) {m : Msg} {lv pv tv : V} (hm : MsgAt H m lv pv tv) (hf : m.fit) (hbs : m.blk.small) (hts : m.tx.small) : ACalls Tryz.prog 8 [.agg (m.cells lv pv tv)] H fun r H' => r = .b m.ok ∧ H' = H := by
  refine ACalls.pure (Q := fun r => r = .b m.ok) ⟨_, Tryz.func8, rfl, rfl⟩ ?_
  refine ACalls_body Tryz.func8 rfl rfl ?_
  have hz : abuild Tryz.prog 34 [(0, .i .i64 m.kind)] = some (.agg (({ Msg.zero with kind := m.kind } : Msg).cells nilSl nilSl nilSl)) := by simp [abuild, afill]; rfl
  refine AW_seq ?_
  refine AW_reg [1] fun K hK => ?_ -- region 0
  simp [init_eq, V.cells]
  refine hK _ _ ?_; clear hK K
  obtain ⟨G, e1, g1, g2, g3, gn, go⟩ := H.boxed3 (m.cells lv pv tv) (Msg.zero.cells nilSl nilSl nilSl) Cert.zero.cells
  refine AW_seq ?_
  refine AW_reg [1, 3] fun K hK => ?_ -- region 1
  simp [init_eq, afieldAddr, aload, AH.get_new, hz, V.cells, astore]
  refine hK _ _ ?_; clear hK K
  generalize hGa : AH.set _ _ _ = Ga
  have a1 : Ga.get H.next = some (.cells (m.cells lv pv tv) 0 false 0) := by rw [← hGa]; simp [AH.get_set, AH.get_new]
  have a2 : Ga.get (H.next + 1) = some (.cells (({ Msg.zero with kind := m.kind } : Msg).cells nilSl nilSl nilSl) 0 false 0) := by rw [← hGa]; simp [AH.get_set]; exact splice_all rfl
  have an : Ga.next = H.next + 2 := by rw [← hGa]; rfl
  have ao : ∀ j, j < H.next → Ga.get j = H.get j := fun j hj => by rw [← hGa, AH.get_set_ne (by simp; omega), AH.get_new, if_neg (by simp; omega), AH.get_new, if_neg (by omega)]
  clear hGa e1 g1 g2 g3 gn go
  refine AW_seq ?_
  refine AW_reg [1, 3, 4] fun K hK => ?_ -- region 2
  simp [init_eq]
  refine hK _ _ ?_; clear hK K
  refine AW_seq ?_
  refine AW_reg [1, 3, 4, 5] fun K hK => ?_ -- region 3
  simp [init_eq, afieldAddr, aload, a1, Msg.cert_cells, astore, AH.get_new, V.cells]
  refine hK _ _ ?_; clear hK K
  generalize hG0 : AH.set _ _ _ = G0
  have T0 : TR H G0 m lv pv tv (({ Msg.zero with kind := m.kind } : Msg).cells nilSl nilSl nilSl) := by
    refine ⟨?_, ?_, ?_, ?_, fun j hj => ?_⟩
    · rw [← hG0, AH.get_set_ne (by omega), AH.get_new, if_neg (by omega)]; exact a1
    · rw [← hG0, AH.get_set_ne (by omega), AH.get_new, if_neg (by omega)]; exact a2
    · rw [← hG0, ← an]; simp [AH.get_set]; exact splice_all rfl
    · rw [← hG0]; simp; omega
    · rw [← hG0, AH.get_set_ne (by omega), AH.get_new, if_neg (by omega)]; exact ao j hj
  rw [an]
  clear hG0 a1 a2 an ao Ga
  have hm0 := hm.same T0.old
  have nxt := T0.nx
  refine AW_cut (fun ρ G => ρ = ⟨235, [(1, .p (some (H.next, 0, 0))), (3, .p (some (H.next + 1, 0, 0))), (4, .b m.body)]⟩ ∧ TR H G m lv pv tv (onlyC m lv pv tv)) ?_ ?_
  · refine AW_seq ?_
    refine AW_reg [1, 3, 4, 5, 13] fun K hK => ?_ -- region 4
    simp [init_eq, afieldAddr, aload, T0.mm]
    refine hK _ _ ?_; clear hK K
    have hpo := proofsOk_eq m.proof
    have hw0 : ∀ h : 0 < m.proof.length, m.proof[0].view = (m.proof.headD Tmo.zero).view := fun h => head_view h
    generalize (m.proof.headD Tmo.zero).view = w0 at hpo hw0
    rcases mclass_cases m.kind with ⟨e, h1⟩ | ⟨e, h1⟩ | ⟨e, h1⟩ | ⟨e, h1⟩ | ⟨e, h1⟩ | ⟨e, h1⟩ | ⟨e, h1⟩
    case inl =>
      rcases h1 with hk | hk
      all_goals
        repeat (first
          | refine AW_seq ?_
          | refine AW_block ?_
          | refine AW_skip ?_
          | refine AW_condT rfl ?_
          | refine AW_condF rfl ?_
          | (refine AW_reg [1, 3, 4, 5, 13, 14, 24, 47, 55, 120, 141, 158, 179, 200, 221] fun K hK => ?_
             simp [init_eq, hk]
             refine hK _ _ ?_; clear hK K))
        refine AW_reg [1, 3] fun K hK => ?_
        simp [init_eq, afieldAddr, aload, astore, T0.mm, T0.xx, T0.cc, agg_cells, Msg.blk_cells, Msg.w24]
        refine hK _ _ ?_; clear hK K
        have T1 := T0.set (Y := ({ Msg.zero with kind := m.kind, blk := m.blk } : Msg).cells nilSl pv tv)
        generalize hG : AH.set _ _ _ = G1
        have T1 : TR H G1 m lv pv tv (({ Msg.zero with kind := m.kind, blk := m.blk } : Msg).cells nilSl pv tv) := by rw [← hG]; exact T1
        clear hG
        have hmT := hm.same T1.old
        refine AW_reg [1, 3, 4] fun K hK => ?_ -- region 8
        simp [init_eq, afieldAddr, aload, T1.mm, Msg.blk_cells]
        refine ACalls.mono (rcheckBlk_ok _ hmT.bk hbs) fun r H' ⟨hr, e'⟩ => ?_ -- hallmoot/hallmootref12.Check
        subst hr e'
        try simp
        refine hK _ _ ?_; clear hK K
        refine bend (rend ⟨⟨235, [(1, .p (some (H.next, 0, 0))), (3, .p (some (H.next + 1, 0, 0))), (4, .b m.body)]⟩, ?_, rfl, ?_⟩)
        · simp [Env.sub, Msg.body, e]
        · simp only [onlyC, Msg.only, onlyL, onlyB, e, reduceCtorEq, if_false, if_true]
          exact T1
    case inr.inl =>
      have hcell : ∀ (c : Cert), c.cells.take 8 = c.cells := fun c => rfl
      rcases h1 with hk | hk | hk
      · skip
        repeat (first
          | refine AW_seq ?_
          | refine AW_block ?_
          | refine AW_skip ?_
          | refine AW_condT rfl ?_
          | refine AW_condF rfl ?_
          | (refine AW_reg [1, 3, 4, 5, 13, 14, 24, 47, 55, 120, 141, 158, 179, 200, 221] fun K hK => ?_
             simp [init_eq, hk]
             refine hK _ _ ?_; clear hK K))
        refine AW_reg [1, 3, 5] fun K hK => ?_
        simp [init_eq, afieldAddr, aload, astore, T0.mm, T0.xx, T0.cc, agg_cells, take_cells, Msg.w5]
        refine hK _ _ ?_; clear hK K
        have T1 := T0.set (Y := ({ Msg.zero with kind := m.kind, cert := m.cert } : Msg).cells nilSl nilSl nilSl)
        generalize hG : AH.set _ _ _ = G1
        have T1 : TR H G1 m lv pv tv (({ Msg.zero with kind := m.kind, cert := m.cert } : Msg).cells nilSl nilSl nilSl) := by rw [← hG]; exact T1
        clear hG
        refine AW_reg [1, 3, 4] fun K hK => ?_ -- region 11
        have hbe : m.body = certified m.kind m.cert := by simp [Msg.body, e]
        simp [init_eq, aload, T1.cc, take_cells]
        refine ACalls.mono (rcheck_ok ..) fun r H' ⟨hr, e'⟩ => ?_ -- hallmoot/hallmootref11.Check
        subst hr e'
        cases c1 : m.cert.ok
        · simp
          refine hK _ _ ?_; clear hK K
          refine bend (rend ⟨⟨235, [(1, .p (some (H.next, 0, 0))), (3, .p (some (H.next + 1, 0, 0))), (4, .b m.body)]⟩, ?_, rfl, ?_⟩)
          · simp [Env.sub, hbe, certified, c1]
          · simp only [onlyC, Msg.only, onlyL, onlyB, e, reduceCtorEq, if_false, if_true]
            exact T1
        by_cases c2 : m.cert.kind = 0
        · simp [afieldAddr, aload, T1.cc, c2]
          refine hK _ _ ?_; clear hK K
          refine bend (rend ⟨⟨235, [(1, .p (some (H.next, 0, 0))), (3, .p (some (H.next + 1, 0, 0))), (4, .b m.body)]⟩, ?_, rfl, ?_⟩)
          · simp [Env.sub, hbe, certified, c1, c2]
          · simp only [onlyC, Msg.only, onlyL, onlyB, e, reduceCtorEq, if_false, if_true]
            exact T1
        by_cases c3 : m.cert.coin = 0#32
        case neg =>
          simp [afieldAddr, aload, T1.cc, c2, c3]
          refine hK _ _ ?_; clear hK K
          refine bend (rend ⟨⟨235, [(1, .p (some (H.next, 0, 0))), (3, .p (some (H.next + 1, 0, 0))), (4, .b m.body)]⟩, ?_, rfl, ?_⟩)
          · simp [Env.sub, hbe, certified, hk, c1, c2, c3]
          · simp only [onlyC, Msg.only, onlyL, onlyB, e, reduceCtorEq, if_false, if_true]
            exact T1
        simp [afieldAddr, aload, T1.cc, c2, c3]
        refine ACalls.mono (rlist_ok ..) fun r G2 ⟨l, F, ol, hl, u2, _⟩ => ?_ -- hallmoot/hallmootref04.List
        have T2 := T1.upd u2
        have hal : alen Tryz.prog G2 59 r = some (.i .i64 (pop m.cert.signers)) := by
          have := (Own.rsR (f := intC) ol (by decide) (fun _ => rfl)).alen (P := Tryz.prog) qelem_59 G2
          rw [this, hl]
        have hpc : ((pop m.cert.signers : Int) = 1) = (pop m.cert.signers = 1) := propext (by omega)
        simp [hal, hpc]
        refine hK _ _ ?_; clear hK K
        refine bend (rend ⟨⟨235, [(1, .p (some (H.next, 0, 0))), (3, .p (some (H.next + 1, 0, 0))), (4, .b m.body)]⟩, ?_, rfl, ?_⟩)
        · simp [Env.sub, hbe, certified, hk, c1, c2, c3]
        · simp only [onlyC, Msg.only, onlyL, onlyB, e, reduceCtorEq, if_false, if_true]
          exact T2
      · skip
        repeat (first
          | refine AW_seq ?_
          | refine AW_block ?_
          | refine AW_skip ?_
          | refine AW_condT rfl ?_
          | refine AW_condF rfl ?_
          | (refine AW_reg [1, 3, 4, 5, 13, 14, 24, 47, 55, 120, 141, 158, 179, 200, 221] fun K hK => ?_
             simp [init_eq, hk]
             refine hK _ _ ?_; clear hK K))
        refine AW_reg [1, 3, 5] fun K hK => ?_
        simp [init_eq, afieldAddr, aload, astore, T0.mm, T0.xx, T0.cc, agg_cells, take_cells, Msg.w5]
        refine hK _ _ ?_; clear hK K
        have T1 := T0.set (Y := ({ Msg.zero with kind := m.kind, cert := m.cert } : Msg).cells nilSl nilSl nilSl)
        generalize hG : AH.set _ _ _ = G1
        have T1 : TR H G1 m lv pv tv (({ Msg.zero with kind := m.kind, cert := m.cert } : Msg).cells nilSl nilSl nilSl) := by rw [← hG]; exact T1
        clear hG
        refine AW_reg [1, 3, 4] fun K hK => ?_ -- region 24
        have hbe : m.body = certified m.kind m.cert := by simp [Msg.body, e]
        simp [init_eq, aload, T1.cc, take_cells]
        refine ACalls.mono (rcheck_ok ..) fun r H' ⟨hr, e'⟩ => ?_ -- hallmoot/hallmootref11.Check
        subst hr e'
        cases c1 : m.cert.ok
        · simp
          refine hK _ _ ?_; clear hK K
          refine bend (rend ⟨⟨235, [(1, .p (some (H.next, 0, 0))), (3, .p (some (H.next + 1, 0, 0))), (4, .b m.body)]⟩, ?_, rfl, ?_⟩)
          · simp [Env.sub, hbe, certified, c1]
          · simp only [onlyC, Msg.only, onlyL, onlyB, e, reduceCtorEq, if_false, if_true]
            exact T1
        by_cases c2 : m.cert.kind = 2
        case neg =>
          simp [afieldAddr, aload, T1.cc, c2]
          refine hK _ _ ?_; clear hK K
          refine bend (rend ⟨⟨235, [(1, .p (some (H.next, 0, 0))), (3, .p (some (H.next + 1, 0, 0))), (4, .b m.body)]⟩, ?_, rfl, ?_⟩)
          · simp [Env.sub, hbe, certified, hk, c1, c2]
          · simp only [onlyC, Msg.only, onlyL, onlyB, e, reduceCtorEq, if_false, if_true]
            exact T1
        by_cases c3 : m.cert.height = 3
        case neg =>
          simp [afieldAddr, aload, T1.cc, c2, c3]
          refine hK _ _ ?_; clear hK K
          refine bend (rend ⟨⟨235, [(1, .p (some (H.next, 0, 0))), (3, .p (some (H.next + 1, 0, 0))), (4, .b m.body)]⟩, ?_, rfl, ?_⟩)
          · simp [Env.sub, hbe, certified, hk, c1, c2, c3]
          · simp only [onlyC, Msg.only, onlyL, onlyB, e, reduceCtorEq, if_false, if_true]
            exact T1
        simp [afieldAddr, aload, T1.cc, c2, c3]
        refine hK _ _ ?_; clear hK K
        refine bend (rend ⟨⟨235, [(1, .p (some (H.next, 0, 0))), (3, .p (some (H.next + 1, 0, 0))), (4, .b m.body)]⟩, ?_, rfl, ?_⟩)
        · simp [Env.sub, hbe, certified, hk, c1, c2, c3]
        · simp only [onlyC, Msg.only, onlyL, onlyB, e, reduceCtorEq, if_false, if_true]
          exact T1
      · skip
        repeat (first
          | refine AW_seq ?_
          | refine AW_block ?_
          | refine AW_skip ?_
          | refine AW_condT rfl ?_
          | refine AW_condF rfl ?_
          | (refine AW_reg [1, 3, 4, 5, 13, 14, 24, 47, 55, 120, 141, 158, 179, 200, 221] fun K hK => ?_
             simp [init_eq, hk]
             refine hK _ _ ?_; clear hK K))
        refine AW_reg [1, 3, 5] fun K hK => ?_
        simp [init_eq, afieldAddr, aload, astore, T0.mm, T0.xx, T0.cc, agg_cells, take_cells, Msg.w5]
        refine hK _ _ ?_; clear hK K
        have T1 := T0.set (Y := ({ Msg.zero with kind := m.kind, cert := m.cert } : Msg).cells nilSl nilSl nilSl)
        generalize hG : AH.set _ _ _ = G1
        have T1 : TR H G1 m lv pv tv (({ Msg.zero with kind := m.kind, cert := m.cert } : Msg).cells nilSl nilSl nilSl) := by rw [← hG]; exact T1
        clear hG
        refine AW_reg [1, 3, 4] fun K hK => ?_ -- region 40
        have hbe : m.body = certified m.kind m.cert := by simp [Msg.body, e]
        simp [init_eq, aload, T1.cc, take_cells]
        refine ACalls.mono (rcheck_ok ..) fun r H' ⟨hr, e'⟩ => ?_ -- hallmoot/hallmootref11.Check
        subst hr e'
        cases c1 : m.cert.ok
        · simp
          refine hK _ _ ?_; clear hK K
          refine bend (rend ⟨⟨235, [(1, .p (some (H.next, 0, 0))), (3, .p (some (H.next + 1, 0, 0))), (4, .b m.body)]⟩, ?_, rfl, ?_⟩)
          · simp [Env.sub, hbe, certified, c1]
          · simp only [onlyC, Msg.only, onlyL, onlyB, e, reduceCtorEq, if_false, if_true]
            exact T1
        by_cases c2 : m.cert.kind = 1
        · simp [afieldAddr, aload, T1.cc, c2]
          refine hK _ _ ?_; clear hK K
          refine bend (rend ⟨⟨235, [(1, .p (some (H.next, 0, 0))), (3, .p (some (H.next + 1, 0, 0))), (4, .b m.body)]⟩, ?_, rfl, ?_⟩)
          · simp [Env.sub, hbe, certified, hk, c1, c2]
          · simp only [onlyC, Msg.only, onlyL, onlyB, e, reduceCtorEq, if_false, if_true]
            exact T1
        by_cases c3 : m.cert.kind = 2
        case neg =>
          simp [afieldAddr, aload, T1.cc, c2, c3]
          refine hK _ _ ?_; clear hK K
          refine bend (rend ⟨⟨235, [(1, .p (some (H.next, 0, 0))), (3, .p (some (H.next + 1, 0, 0))), (4, .b m.body)]⟩, ?_, rfl, ?_⟩)
          · simp [Env.sub, hbe, certified, hk, c1, c2, c3, Cert.endorsed]
          · simp only [onlyC, Msg.only, onlyL, onlyB, e, reduceCtorEq, if_false, if_true]
            exact T1
        simp [afieldAddr, aload, T1.cc, c2, c3]
        refine hK _ _ ?_; clear hK K
        refine bend (rend ⟨⟨235, [(1, .p (some (H.next, 0, 0))), (3, .p (some (H.next + 1, 0, 0))), (4, .b m.body)]⟩, ?_, rfl, ?_⟩)
        · simp [Env.sub, hbe, certified, hk, c1, c2, c3, Cert.endorsed]
        · simp only [onlyC, Msg.only, onlyL, onlyB, e, reduceCtorEq, if_false, if_true]
          exact T1
    case inr.inr.inl =>
      have hk := h1
      repeat (first
        | refine AW_seq ?_
        | refine AW_block ?_
        | refine AW_skip ?_
        | refine AW_condT rfl ?_
        | refine AW_condF rfl ?_
        | (refine AW_reg [1, 3, 4, 5, 13, 14, 24, 47, 55, 120, 141, 158, 179, 200, 221] fun K hK => ?_
           simp [init_eq, hk]
           refine hK _ _ ?_; clear hK K))
      refine AW_reg [1, 3] fun K hK => ?_
      simp [init_eq, afieldAddr, aload, astore, T0.mm, T0.xx, T0.cc, agg_cells, Msg.tmo_cells, Msg.w13]
      refine hK _ _ ?_; clear hK K
      have T1 := T0.set (Y := ({ Msg.zero with kind := m.kind, tmo := m.tmo } : Msg).cells nilSl nilSl nilSl)
      generalize hG : AH.set _ _ _ = G1
      have T1 : TR H G1 m lv pv tv (({ Msg.zero with kind := m.kind, tmo := m.tmo } : Msg).cells nilSl nilSl nilSl) := by rw [← hG]; exact T1
      clear hG
      refine AW_reg [1, 3, 4] fun K hK => ?_ -- region 14
      simp [init_eq, afieldAddr, aload, T1.mm, Msg.tmo_cells]
      refine ACalls.mono (rtimeout_ok ..) fun r H' ⟨hr, e'⟩ => ?_ -- hallmoot/hallmootref12.Timeout
      subst hr e'
      try simp
      refine hK _ _ ?_; clear hK K
      refine bend (rend ⟨⟨235, [(1, .p (some (H.next, 0, 0))), (3, .p (some (H.next + 1, 0, 0))), (4, .b m.body)]⟩, ?_, rfl, ?_⟩)
      · simp [Env.sub, Msg.body, e]
      · simp only [onlyC, Msg.only, onlyL, onlyB, e, reduceCtorEq, if_false, if_true]
        exact T1
    case inr.inr.inr.inr.inl =>
      have hk := h1
      repeat (first
        | refine AW_seq ?_
        | refine AW_block ?_
        | refine AW_skip ?_
        | refine AW_condT rfl ?_
        | refine AW_condF rfl ?_
        | (refine AW_reg [1, 3, 4, 5, 13, 14, 24, 47, 55, 120, 141, 158, 179, 200, 221] fun K hK => ?_
           simp [init_eq, hk]
           refine hK _ _ ?_; clear hK K))
      refine AW_reg [1, 3] fun K hK => ?_
      simp [init_eq, afieldAddr, aload, astore, T0.mm, T0.xx, T0.cc, agg_cells, Msg.tx_cells, Msg.w38]
      refine hK _ _ ?_; clear hK K
      have T1 := T0.set (Y := ({ Msg.zero with kind := m.kind, tx := m.tx } : Msg).cells nilSl nilSl nilSl)
      generalize hG : AH.set _ _ _ = G1
      have T1 : TR H G1 m lv pv tv (({ Msg.zero with kind := m.kind, tx := m.tx } : Msg).cells nilSl nilSl nilSl) := by rw [← hG]; exact T1
      clear hG
      refine AW_reg [1, 3, 4] fun K hK => ?_ -- region 43
      simp [init_eq, afieldAddr, aload, T1.mm, Msg.tx_cells]
      refine ACalls.mono (rtxCheck_ok _ _ hts) fun r H' ⟨hr, e'⟩ => ?_ -- hallmoot/hallmootref08.Check
      subst hr e'
      try simp
      refine hK _ _ ?_; clear hK K
      refine bend (rend ⟨⟨235, [(1, .p (some (H.next, 0, 0))), (3, .p (some (H.next + 1, 0, 0))), (4, .b m.body)]⟩, ?_, rfl, ?_⟩)
      · simp [Env.sub, Msg.body, e]
      · simp only [onlyC, Msg.only, onlyL, onlyB, e, reduceCtorEq, if_false, if_true]
        exact T1
    case inr.inr.inr.inr.inr.inr =>
      have n1 : ¬ m.kind = 1 := by omega
      have n2 : ¬ m.kind = 2 := by omega
      have n3 : ¬ m.kind = 3 := by omega
      have n4 : ¬ m.kind = 4 := by omega
      have n5 : ¬ m.kind = 5 := by omega
      have n6 : ¬ m.kind = 6 := by omega
      have n7 : ¬ m.kind = 7 := by omega
      have n8 : ¬ m.kind = 8 := by omega
      have n9 : ¬ m.kind = 9 := by omega
      have n10 : ¬ m.kind = 10 := by omega
      have n11 : ¬ m.kind = 11 := by omega
      have n12 : ¬ m.kind = 12 := by omega
      repeat (first
        | refine AW_seq ?_
        | refine AW_block ?_
        | refine AW_condT rfl ?_
        | refine AW_condF rfl ?_
        | (refine AW_reg [1, 3, 4, 5, 13, 14, 24, 47, 55, 120, 141, 158, 179, 200, 221] fun K hK => ?_
           simp [init_eq, n1, n2, n3, n4, n5, n6, n7, n8, n9, n10, n11, n12]
           refine hK _ _ ?_; clear hK K))
      all_goals repeat (first
        | refine AW_skip ?_
        | refine AW_condF rfl ?_
        | refine AW_seq ?_
        | (refine AW_reg [1, 3, 4, 5, 13, 14, 24, 47, 55, 120, 141, 158, 179, 200, 221] fun K hK => ?_
           simp [init_eq, n1, n2, n3, n4, n5, n6, n7, n8, n9, n10, n11, n12]
           refine hK _ _ ?_; clear hK K))
      refine bend (rend ⟨⟨235, [(1, .p (some (H.next, 0, 0))), (3, .p (some (H.next + 1, 0, 0))), (4, .b m.body)]⟩, ?_, rfl, ?_⟩)
      · simp [Env.sub, Msg.body, e]
      · simp only [onlyC, Msg.only, onlyL, onlyB, e, reduceCtorEq, if_false, if_true]
        exact T0
    case inr.inr.inr.inr.inr.inl =>
      have hbe : m.body = m.numsOk := by simp [Msg.body, e]
      rcases h1 with hk | hk | hk | hk
      · skip
        repeat (first
          | refine AW_seq ?_
          | refine AW_block ?_
          | refine AW_skip ?_
          | refine AW_condT rfl ?_
          | refine AW_condF rfl ?_
          | (refine AW_reg [1, 3, 4, 5, 13, 14, 24, 47, 55, 120, 141, 158, 179, 200, 221] fun K hK => ?_
             simp [init_eq, hk]
             refine hK _ _ ?_; clear hK K))
        refine AW_reg [1, 3] fun K hK => ?_
        simp [init_eq, afieldAddr, aload, astore, T0.mm, T0.xx, T0.cc, agg_cells, i_cells, Msg.w1]
        refine hK _ _ ?_; clear hK K
        have T1 := T0.set (Y := ({ Msg.zero with kind := m.kind, signer := m.signer } : Msg).cells nilSl nilSl nilSl)
        generalize hG : AH.set _ _ _ = G1
        have T1 : TR H G1 m lv pv tv (({ Msg.zero with kind := m.kind, signer := m.signer } : Msg).cells nilSl nilSl nilSl) := by rw [← hG]; exact T1
        clear hG
        refine AW_seq ?_
        refine AW_reg [1, 3] fun K hK => ?_
        simp [init_eq, afieldAddr, aload, astore, T1.mm, T1.xx, T1.cc, agg_cells, i_cells, Msg.w2]
        refine hK _ _ ?_; clear hK K
        have T2 := T1.set (Y := ({ Msg.zero with kind := m.kind, signer := m.signer, view := m.view } : Msg).cells nilSl nilSl nilSl)
        generalize hG : AH.set _ _ _ = G2
        have T2 : TR H G2 m lv pv tv (({ Msg.zero with kind := m.kind, signer := m.signer, view := m.view } : Msg).cells nilSl nilSl nilSl) := by rw [← hG]; exact T2
        clear hG
        refine AW_reg [1, 3, 4] fun K hK => ?_ -- region 29
        simp [init_eq, afieldAddr, aload, T2.mm]
        refine ACalls.mono (rsigner_ok ..) fun r H' ⟨hr, e'⟩ => ?_ -- hallmoot/hallmootref14.signer
        subst hr e'
        cases c1 : inR m.signer 0 9
        · simp
          refine hK _ _ ?_; clear hK K
          refine bend (rend ⟨⟨235, [(1, .p (some (H.next, 0, 0))), (3, .p (some (H.next + 1, 0, 0))), (4, .b m.body)]⟩, ?_, rfl, ?_⟩)
          · simp [Env.sub, hbe, Msg.numsOk, hk, c1]
          · simp only [onlyC, Msg.only, onlyL, onlyB, e, reduceCtorEq, if_false, if_true]
            simpa [hk] using T2
        simp [afieldAddr, aload, T2.mm]
        refine ACalls.mono (rview_ok ..) fun r H' ⟨hr, e'⟩ => ?_ -- hallmoot/hallmootref14.view
        subst hr e'
        try simp
        refine hK _ _ ?_; clear hK K
        refine bend (rend ⟨⟨235, [(1, .p (some (H.next, 0, 0))), (3, .p (some (H.next + 1, 0, 0))), (4, .b m.body)]⟩, ?_, rfl, ?_⟩)
        · simp [Env.sub, hbe, Msg.numsOk, hk, c1]
        · simp only [onlyC, Msg.only, onlyL, onlyB, e, reduceCtorEq, if_false, if_true]
          simpa [hk] using T2
      · skip
        repeat (first
          | refine AW_seq ?_
          | refine AW_block ?_
          | refine AW_skip ?_
          | refine AW_condT rfl ?_
          | refine AW_condF rfl ?_
          | (refine AW_reg [1, 3, 4, 5, 13, 14, 24, 47, 55, 120, 141, 158, 179, 200, 221] fun K hK => ?_
             simp [init_eq, hk]
             refine hK _ _ ?_; clear hK K))
        refine AW_reg [1, 3] fun K hK => ?_
        simp [init_eq, afieldAddr, aload, astore, T0.mm, T0.xx, T0.cc, agg_cells, i_cells, Msg.w1]
        refine hK _ _ ?_; clear hK K
        have T1 := T0.set (Y := ({ Msg.zero with kind := m.kind, signer := m.signer } : Msg).cells nilSl nilSl nilSl)
        generalize hG : AH.set _ _ _ = G1
        have T1 : TR H G1 m lv pv tv (({ Msg.zero with kind := m.kind, signer := m.signer } : Msg).cells nilSl nilSl nilSl) := by rw [← hG]; exact T1
        clear hG
        refine AW_seq ?_
        refine AW_reg [1, 3] fun K hK => ?_
        simp [init_eq, afieldAddr, aload, astore, T1.mm, T1.xx, T1.cc, agg_cells, i_cells, Msg.w2]
        refine hK _ _ ?_; clear hK K
        have T2 := T1.set (Y := ({ Msg.zero with kind := m.kind, signer := m.signer, view := m.view } : Msg).cells nilSl nilSl nilSl)
        generalize hG : AH.set _ _ _ = G2
        have T2 : TR H G2 m lv pv tv (({ Msg.zero with kind := m.kind, signer := m.signer, view := m.view } : Msg).cells nilSl nilSl nilSl) := by rw [← hG]; exact T2
        clear hG
        refine AW_reg [1, 3, 4] fun K hK => ?_ -- region 29
        simp [init_eq, afieldAddr, aload, T2.mm]
        refine ACalls.mono (rsigner_ok ..) fun r H' ⟨hr, e'⟩ => ?_ -- hallmoot/hallmootref14.signer
        subst hr e'
        cases c1 : inR m.signer 0 9
        · simp
          refine hK _ _ ?_; clear hK K
          refine bend (rend ⟨⟨235, [(1, .p (some (H.next, 0, 0))), (3, .p (some (H.next + 1, 0, 0))), (4, .b m.body)]⟩, ?_, rfl, ?_⟩)
          · simp [Env.sub, hbe, Msg.numsOk, hk, c1]
          · simp only [onlyC, Msg.only, onlyL, onlyB, e, reduceCtorEq, if_false, if_true]
            simpa [hk] using T2
        simp [afieldAddr, aload, T2.mm]
        refine ACalls.mono (rview_ok ..) fun r H' ⟨hr, e'⟩ => ?_ -- hallmoot/hallmootref14.view
        subst hr e'
        try simp
        refine hK _ _ ?_; clear hK K
        refine bend (rend ⟨⟨235, [(1, .p (some (H.next, 0, 0))), (3, .p (some (H.next + 1, 0, 0))), (4, .b m.body)]⟩, ?_, rfl, ?_⟩)
        · simp [Env.sub, hbe, Msg.numsOk, hk, c1]
        · simp only [onlyC, Msg.only, onlyL, onlyB, e, reduceCtorEq, if_false, if_true]
          simpa [hk] using T2
      · skip
        repeat (first
          | refine AW_seq ?_
          | refine AW_block ?_
          | refine AW_skip ?_
          | refine AW_condT rfl ?_
          | refine AW_condF rfl ?_
          | (refine AW_reg [1, 3, 4, 5, 13, 14, 24, 47, 55, 120, 141, 158, 179, 200, 221] fun K hK => ?_
             simp [init_eq, hk]
             refine hK _ _ ?_; clear hK K))
        refine AW_reg [1, 3] fun K hK => ?_
        simp [init_eq, afieldAddr, aload, astore, T0.mm, T0.xx, T0.cc, agg_cells, i_cells, Msg.w2]
        refine hK _ _ ?_; clear hK K
        have T1 := T0.set (Y := ({ Msg.zero with kind := m.kind, view := m.view } : Msg).cells nilSl nilSl nilSl)
        generalize hG : AH.set _ _ _ = G1
        have T1 : TR H G1 m lv pv tv (({ Msg.zero with kind := m.kind, view := m.view } : Msg).cells nilSl nilSl nilSl) := by rw [← hG]; exact T1
        clear hG
        refine AW_seq ?_
        refine AW_reg [1, 3] fun K hK => ?_
        simp [init_eq, afieldAddr, aload, astore, T1.mm, T1.xx, T1.cc, agg_cells, u32_cells, Msg.w4]
        refine hK _ _ ?_; clear hK K
        have T2 := T1.set (Y := ({ Msg.zero with kind := m.kind, view := m.view, set := m.set } : Msg).cells nilSl nilSl nilSl)
        generalize hG : AH.set _ _ _ = G2
        have T2 : TR H G2 m lv pv tv (({ Msg.zero with kind := m.kind, view := m.view, set := m.set } : Msg).cells nilSl nilSl nilSl) := by rw [← hG]; exact T2
        clear hG
        refine AW_reg [1, 3, 4] fun K hK => ?_ -- region 33
        simp [init_eq, afieldAddr, aload, T2.mm]
        refine ACalls.mono (rview_ok ..) fun r H' ⟨hr, e'⟩ => ?_ -- hallmoot/hallmootref14.view
        subst hr e'
        have hs0 : (m.set = 0#32) ↔ m.set.toNat = 0 := ⟨fun h => by rw [h]; rfl, fun h => BitVec.eq_of_toNat_eq (by rw [h]; rfl)⟩
        have hsO := setOk_num m.set
        cases c1 : inR m.view 1 1048576
        · simp
          refine hK _ _ ?_; clear hK K
          refine bend (rend ⟨⟨235, [(1, .p (some (H.next, 0, 0))), (3, .p (some (H.next + 1, 0, 0))), (4, .b m.body)]⟩, ?_, rfl, ?_⟩)
          · simp [Env.sub, hbe, Msg.numsOk, hk, c1]
          · simp only [onlyC, Msg.only, onlyL, onlyB, e, reduceCtorEq, if_false, if_true]
            simpa [hk] using T2
        by_cases c2 : m.set.toNat = 0
        · have c3 : ¬ 1 ≤ m.set.toNat := by omega
          simp [afieldAddr, aload, T2.mm, c3]
          refine hK _ _ ?_; clear hK K
          refine bend (rend ⟨⟨235, [(1, .p (some (H.next, 0, 0))), (3, .p (some (H.next + 1, 0, 0))), (4, .b m.body)]⟩, ?_, rfl, ?_⟩)
          · simp [Env.sub, hbe, Msg.numsOk, hk, c1, hs0.2 c2]
          · simp only [onlyC, Msg.only, onlyL, onlyB, e, reduceCtorEq, if_false, if_true]
            simpa [hk] using T2
        have c3 : 1 ≤ m.set.toNat := by omega
        have c4 : ¬ m.set = 0#32 := fun h => c2 (hs0.1 h)
        simp [afieldAddr, aload, T2.mm, c3]
        refine hK _ _ ?_; clear hK K
        refine bend (rend ⟨⟨235, [(1, .p (some (H.next, 0, 0))), (3, .p (some (H.next + 1, 0, 0))), (4, .b m.body)]⟩, ?_, rfl, ?_⟩)
        · simp [Env.sub, hbe, Msg.numsOk, hk, c1, c4, hsO]
        · simp only [onlyC, Msg.only, onlyL, onlyB, e, reduceCtorEq, if_false, if_true]
          simpa [hk] using T2
      · skip
        repeat (first
          | refine AW_seq ?_
          | refine AW_block ?_
          | refine AW_skip ?_
          | refine AW_condT rfl ?_
          | refine AW_condF rfl ?_
          | (refine AW_reg [1, 3, 4, 5, 13, 14, 24, 47, 55, 120, 141, 158, 179, 200, 221] fun K hK => ?_
             simp [init_eq, hk]
             refine hK _ _ ?_; clear hK K))
        refine AW_reg [1, 3] fun K hK => ?_
        simp [init_eq, afieldAddr, aload, astore, T0.mm, T0.xx, T0.cc, agg_cells, i_cells, Msg.w1]
        refine hK _ _ ?_; clear hK K
        have T1 := T0.set (Y := ({ Msg.zero with kind := m.kind, signer := m.signer } : Msg).cells nilSl nilSl nilSl)
        generalize hG : AH.set _ _ _ = G1
        have T1 : TR H G1 m lv pv tv (({ Msg.zero with kind := m.kind, signer := m.signer } : Msg).cells nilSl nilSl nilSl) := by rw [← hG]; exact T1
        clear hG
        refine AW_seq ?_
        refine AW_reg [1, 3] fun K hK => ?_
        simp [init_eq, afieldAddr, aload, astore, T1.mm, T1.xx, T1.cc, agg_cells, i_cells, Msg.w3]
        refine hK _ _ ?_; clear hK K
        have T2 := T1.set (Y := ({ Msg.zero with kind := m.kind, signer := m.signer, n := m.n } : Msg).cells nilSl nilSl nilSl)
        generalize hG : AH.set _ _ _ = G2
        have T2 : TR H G2 m lv pv tv (({ Msg.zero with kind := m.kind, signer := m.signer, n := m.n } : Msg).cells nilSl nilSl nilSl) := by rw [← hG]; exact T2
        clear hG
        refine AW_reg [1, 3, 4] fun K hK => ?_ -- region 37
        simp [init_eq, afieldAddr, aload, T2.mm]
        refine ACalls.mono (rsigner_ok ..) fun r H' ⟨hr, e'⟩ => ?_ -- hallmoot/hallmootref14.signer
        subst hr e'
        cases c1 : inR m.signer 0 9
        · simp
          refine hK _ _ ?_; clear hK K
          refine bend (rend ⟨⟨235, [(1, .p (some (H.next, 0, 0))), (3, .p (some (H.next + 1, 0, 0))), (4, .b m.body)]⟩, ?_, rfl, ?_⟩)
          · simp [Env.sub, hbe, Msg.numsOk, hk, c1]
          · simp only [onlyC, Msg.only, onlyL, onlyB, e, reduceCtorEq, if_false, if_true]
            simpa [hk] using T2
        by_cases c2 : 1 ≤ m.n
        case neg =>
          simp [afieldAddr, aload, T2.mm, c2]
          refine hK _ _ ?_; clear hK K
          refine bend (rend ⟨⟨235, [(1, .p (some (H.next, 0, 0))), (3, .p (some (H.next + 1, 0, 0))), (4, .b m.body)]⟩, ?_, rfl, ?_⟩)
          · simp [Env.sub, hbe, Msg.numsOk, hk, c1, c2, inR]
          · simp only [onlyC, Msg.only, onlyL, onlyB, e, reduceCtorEq, if_false, if_true]
            simpa [hk] using T2
        simp [afieldAddr, aload, T2.mm, c2]
        refine hK _ _ ?_; clear hK K
        refine bend (rend ⟨⟨235, [(1, .p (some (H.next, 0, 0))), (3, .p (some (H.next + 1, 0, 0))), (4, .b m.body)]⟩, ?_, rfl, ?_⟩)
        · have c1' : 0 ≤ m.signer ∧ m.signer ≤ 9 := (by simpa [inR] using c1); simp [Env.sub, hbe, Msg.numsOk, hk, c1', c2, inR]
        · simp only [onlyC, Msg.only, onlyL, onlyB, e, reduceCtorEq, if_false, if_true]
          simpa [hk] using T2
    case inr.inr.inr.inl =>
      have hk := h1
      have hbe : m.body = proofsOk m.proof := by simp [Msg.body, e]
      repeat (first
        | refine AW_seq ?_
        | refine AW_block ?_
        | refine AW_skip ?_
        | refine AW_condT rfl ?_
        | refine AW_condF rfl ?_
        | (refine AW_reg [1, 3, 4, 5, 13, 14, 24, 47, 55, 120, 141, 158, 179, 200, 221] fun K hK => ?_
           simp [init_eq, hk]
           refine hK _ _ ?_; clear hK K))
      refine AW_reg [1, 3] fun K hK => ?_
      simp [init_eq, afieldAddr, aload, astore, T0.mm, T0.xx, T0.cc, agg_cells, hm.pf.cells, Msg.w23]
      refine hK _ _ ?_; clear hK K
      have T1 := T0.set (Y := ({ Msg.zero with kind := m.kind, proof := m.proof } : Msg).cells lv nilSl nilSl)
      generalize hG : AH.set _ _ _ = G1
      have T1 : TR H G1 m lv pv tv (({ Msg.zero with kind := m.kind, proof := m.proof } : Msg).cells lv nilSl nilSl) := by rw [← hG]; exact T1
      clear hG
      have hmT := hm.same T1.old
      have ll : aload Tryz.prog G1 27 (.p (some (H.next, 0, 23))) = some lv := by simp [aload, T1.mm]
      have lp := hmT.pf.alen (P := Tryz.prog) qelem_27 G1
      have f7 : ∀ x, afieldAddr Tryz.prog 34 7 (.p (some (x, 0, 0))) = some (.p (some (x, 0, 23))) := fun x => by simp [afieldAddr]
      refine AW_seq ?_
      refine AW_regto [1, 3, 4] ⟨235, [(1, .p (some (H.next, 0, 0))), (3, .p (some (H.next + 1, 0, 0))), (4, .b (inR m.proof.length 1 10))]⟩ G1 (fun K hk => ?_) ?_ -- region 17
      · by_cases c1 : 1 ≤ m.proof.length
        · have c2 : (1 : Int) ≤ m.proof.length := by omega
          simpa [init_eq, f7, ll, lp, c1, c2, inR] using hk
        · have c2 : ¬ (1 : Int) ≤ m.proof.length := by omega
          simpa [init_eq, f7, ll, lp, c1, c2, inR] using hk
      refine AW_seq ?_
      refine AW_reg [1, 3, 4, 6] fun K hK => ?_ -- region 18
      simp [init_eq]
      refine hK _ _ ?_; clear hK K
      refine AW_block ?_
      refine AW_loopx (fun i : Nat => ⟨235, [(1, .p (some (H.next, 0, 0))), (3, .p (some (H.next + 1, 0, 0))), (4, .b (inR m.proof.length 1 10 && (List.range i).all (pAt w0 m.proof))), (6, .i .i64 (i : Int))]⟩) (fun i G => i ≤ m.proof.length ∧ G = G1) (fun i => m.proof.length - i) 0 (by simp) ⟨by simp, rfl⟩ fun i G hM => ?_ -- loop
      obtain ⟨hi0, rfl⟩ := hM
      refine AW_seq ?_
      refine AW_seq ?_
      refine AW_reg [1, 3, 4, 6, 74] fun K hK => ?_ -- region 19
      simp [init_eq, f7, ll, lp]
      refine hK _ _ ?_; clear hK K
      refine AW_cond' rfl rfl (fun hc => ?_) (fun hc => ?_)
      · have hi : i < m.proof.length := by simpa using hc
        obtain ⟨ax, px, qx⟩ := hmT.pf.rec Tmo.len (by decide) (P := Tryz.prog) qelem_27 qsize_26 qagg_26 hi
        obtain ⟨bx, bx', bp, bq, br⟩ := hmT.pf.fld Tmo.len (by decide) (P := Tryz.prog) qelem_27 qsize_26 hi qfield_26_1 qagg_3 qsize_3 (Tmo.c1 _)
        obtain ⟨cx, cx', cp, cq, cr⟩ := hmT.pf.fld Tmo.len (by decide) (P := Tryz.prog) qelem_27 qsize_26 hi qfield_26_0 qagg_3 qsize_3 (Tmo.c0 _)
        obtain ⟨az, az', pz, qz, rz⟩ := hmT.pf.fld Tmo.len (by decide) (P := Tryz.prog) qelem_27 qsize_26 (i := 0) (by omega) qfield_26_1 qagg_3 qsize_3 (Tmo.c1 _)
        rw [hw0 (by omega)] at rz
        have pz' : aindexAddr Tryz.prog 27 lv (.i .i64 0) = some az := pz
        have e1 : bx = ax := Option.some.inj (bp.symm.trans px)
        have e2 : cx = ax := Option.some.inj (cp.symm.trans px)
        subst e1; subst e2
        have hpa := pAt_eq (v := w0) hi
        refine AW_skip ?_
        refine AW_seq ?_
        refine AW_block ?_
        refine AW_regdto [1, 3, 4, 6] pl_8_21 pe_8_21 ⟨235, [(1, .p (some (H.next, 0, 0))), (3, .p (some (H.next + 1, 0, 0))), (4, .b ((inR m.proof.length 1 10 && (List.range i).all (pAt w0 m.proof)) && pAt w0 m.proof i)), (6, .i .i64 (i : Int))]⟩ G (by kernel_rfl) (by kernel_rfl) (by decide) (fun K hk => ?_) ?_
        · rw [hpa] at hk
          generalize (inR m.proof.length 1 10 && (List.range i).all (pAt w0 m.proof)) = b0 at hk ⊢
          cases b0
          · simpa [init_eq, pl_8_21] using hk
          simp [init_eq, pl_8_21, f7, ll, px, qx]
          refine ACalls.mono (rtimeout_ok ..) fun r H' ⟨hr, e'⟩ => ?_ -- hallmoot/hallmootref12.Timeout
          subst hr e'
          cases g1 : m.proof[i].ok
          · simpa [g1] using hk
          by_cases g2 : m.proof[i].view = w0
          case neg => simpa [g1, g2, f7, ll, px, bq, br, pz', qz, rz] using hk
          by_cases g3 : i = 0
          · subst g3
            simpa [g1, g2, sgnAt_zero _ rfl, f7, ll, px, bq, br, pz', qz, rz] using hk
          have ei : (i : Int) - 1 = ((i - 1 : Nat) : Int) := by omega
          have hne : ¬ (i : Int) = 0 := by omega
          obtain ⟨ay, ay', py, qy, ry⟩ := hmT.pf.fld Tmo.len (by decide) (P := Tryz.prog) qelem_27 qsize_26 (i := i - 1) (by omega) qfield_26_0 qagg_3 qsize_3 (Tmo.c0 _)
          rw [sgnAt_pos g3 hi] at hk
          have hlen := hf.pf
          simpa [g1, g2, g3, hne, f7, ll, px, bq, br, cq, cr, pz', qz, rz, wrap_id (x := (i : Int) - 1) (by omega) (by omega), wrap_id (x := ((i - 1 : Nat) : Int)) (by omega) (by omega), ei, py, qy, ry] using hk
        refine bend (rend ?_)
        refine AW_reg [1, 3, 4, 6] fun K hK => ?_ -- region 20
        have hlen := hf.pf
        simp [init_eq, wrap_id (x := (i : Int) + 1) (by omega) (by omega)]
        refine hK _ _ ?_; clear hK K
        refine rend ⟨i + 1, ?_, ⟨by omega, rfl⟩, by omega⟩ -- round's end
        simp [Env.sub, List.range_succ, Bool.and_assoc]
      · have hi : i = m.proof.length := by
          have : ¬ i < m.proof.length := by simpa using hc
          omega
        subst hi
        refine AW_exit (then_exit (then_exit (block_here ?_)))
        refine bend (rend ⟨⟨235, [(1, .p (some (H.next, 0, 0))), (3, .p (some (H.next + 1, 0, 0))), (4, .b m.body)]⟩, ?_, rfl, ?_⟩)
        · simp [Env.sub, hbe, hpo, Bool.and_comm]
        · simp only [onlyC, Msg.only, onlyL, onlyB, e, reduceCtorEq, if_false, if_true]
          exact T1
  · rintro ρ G ⟨rfl, T⟩
    have ha := hm.same T.old
    refine AW_seq ?_
    refine AW_regto [2] ⟨235, [(2, .b m.ok)]⟩ G (fun K hk => ?_) (AW_ret (end_ret rfl ⟨rfl, rfl, by have := T.nx; omega, T.old⟩)) -- region 44
    cases hb : m.body
    · simpa [init_eq, hb, Msg.ok] using hk
    · have len : (onlyC m lv pv tv).length = 45 := rfl
      simp [init_eq, hb, aload, T.mm, T.xx, msg_take, len, List.take_of_length_le]
      refine ACalls.mono (rsameMsg_ok _ ha ha.only hf.pf hf.b1 hf.b2) fun r H' ⟨hr, e'⟩ => ?_ -- hallmoot/hallmootref14.Same
      subst hr e'
      simpa [hb, Msg.ok] using hk
end Go.Proofs.YtfhbdbjgmcopjaaGreatDoor
