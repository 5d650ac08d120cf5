/-
  msg.Check: may it be a message?
-/
import Derived.Test.YtfhbdbjgmcopjaaGreatDoorMsg5
set_option linter.unusedVariables false
set_option linter.unusedSimpArgs false
namespace Go.Proofs.YtfhbdbjgmcopjaaGreatDoor
open Go Go.Abs Go.Proofs
set_option maxRecDepth 100000
attribute [local irreducible] AEnd AW ACalls

/-- Its lists and texts are not too long to be looked at. -/
structure Msg.fit (m : Msg) : Prop where
  pf : m.proof.length ≤ 1000000000
  b1 : m.blk.proof.length ≤ 1000000000
  b2 : m.blk.txs.length ≤ 1000000000
  bk : m.blk.fits
  tx : m.tx.fits
theorem great_fit {m : Msg} (h : m.great = false) : m.fit := by
  have hs := great_small h
  exact ⟨by omega, by have := hs.2.1.pf; omega, by have := hs.2.1.tx; omega, hs.2.1.fits, hs.2.2.fits⟩
/-- Under way in msg.Check. -/
structure TK (H G : AH) (m : Msg) (lv pv tv : V) : Prop where
  mm : G.get H.next = some (.cells (m.cells lv pv tv) 0 false 0)
  nx : H.next + 1 ≤ G.next
  old : ∀ j, j < H.next → G.get j = H.get j
theorem TK.upd {H G G' : AH} {m : Msg} {lv pv tv : V} (h : TK H G m lv pv tv) (u : Upd G G' []) : TK H G' m lv pv tv := by
  refine ⟨u.keep (by simp) h.mm, Nat.le_trans h.nx u.1, fun j hj => ?_⟩
  rw [u.2 j (by have := h.nx; omega) (by simp), h.old j hj]
set_option maxHeartbeats 4000000 in
theorem mcheck_ok (H : AH) {m : Msg} {lv pv tv : V} (hm : MsgAt H m lv pv tv) (hf : m.fit) : ACalls Tryz.prog 6 [.agg (m.cells lv pv tv)] H fun r H' => r = .i .i64 (if m.ok then 0 else 140) ∧ H' = H := by
  refine ACalls.pure (Q := fun r => r = .i .i64 (if m.ok then 0 else 140)) ⟨_, Tryz.func6, rfl, rfl⟩ ?_
  refine ACalls_body Tryz.func6 rfl rfl ?_
  refine AW_seq ?_
  refine AW_reg [1] fun K hK => ?_ -- region 0
  simp [init_eq, V.cells]
  obtain ⟨G, e1, g1, gn, go⟩ := H.boxed (m.cells lv pv tv)
  rw [e1]
  refine hK _ _ ?_; clear hK K
  have T0 : TK H G m lv pv tv := ⟨g1, by omega, go⟩
  clear e1 g1 gn go
  refine AW_seq ?_
  refine AW_reg [1, 3] fun K hK => ?_ -- region 1
  simp [init_eq]
  refine hK _ _ ?_; clear hK K
  refine AW_cut (fun ρ G => ρ = ⟨64, [(1, .p (some (H.next, 0, 0))), (3, .b m.body)]⟩ ∧ TK H G m lv pv tv) ?_ ?_
  · refine AW_seq ?_
    refine AW_reg [1, 3, 10] fun K hK => ?_ -- region 2
    simp [init_eq]
    refine ACalls.mono (what_ok _ T0.mm) fun r G2 ⟨hr, hu⟩ => ?_ -- hallmoot/msg.what
    try simp
    refine hK _ _ ?_; clear hK K
    have T := T0.upd hu
    clear T0 hu
    have ha := hm.same T.old
    have hck : ∀ {b : Bool} {x : Int}, (x = if b = true then 0 else 121) → decide (x = 0) = b := by intro b x h; subst h; cases b <;> rfl
    rcases mclass_cases m.kind with ⟨e, h1⟩ | ⟨e, h1⟩ | ⟨e, h1⟩ | ⟨e, h1⟩ | ⟨e, h1⟩ | ⟨e, h1⟩ | ⟨e, h1⟩ <;> simp only [whatR, e] at hr
    case inl =>
      subst hr
      refine AW_block ?_
      refine AW_seq ?_
      refine AW_reg [1, 3, 10, 12, 13] fun K hK => ?_
      simp [init_eq, atypeAssert]
      refine hK _ _ ?_; clear hK K
      refine AW_condT rfl ?_
      refine AW_seq ?_
      refine AW_reg [1, 4] fun K hK => ?_
      simp [init_eq]
      refine hK _ _ ?_; clear hK K
      refine AW_reg [1, 3] fun K hK => ?_
      simp [init_eq, aload, T.mm, Msg.blk_cells]
      refine ACalls.mono (bcheck_ok _ ha.bk hf.bk) fun r H' ⟨hr, e'⟩ => ?_ -- hallmoot/block.Check
      subst hr e'
      try simp
      refine hK _ _ ?_; clear hK K
      exact bend (rend ⟨⟨64, [(1, .p (some (H.next, 0, 0))), (3, .b m.body)]⟩, by simp [Env.sub, Msg.body, e], rfl, T⟩)
    case inr.inl =>
      subst hr
      refine AW_block ?_
      refine AW_seq ?_
      refine AW_reg [1, 3, 10, 12, 13] fun K hK => ?_
      simp [init_eq, atypeAssert]
      refine hK _ _ ?_; clear hK K
      refine AW_condF rfl ?_
      refine AW_seq ?_
      refine AW_reg [1, 3, 10, 20, 21] fun K hK => ?_
      simp [init_eq, atypeAssert]
      refine hK _ _ ?_; clear hK K
      refine AW_condT rfl ?_
      refine AW_seq ?_
      refine AW_reg [1, 5] fun K hK => ?_
      simp [init_eq]
      refine hK _ _ ?_; clear hK K
      refine AW_regd [1, 3] pl_6_8 pe_6_8 (by kernel_rfl) (by kernel_rfl) (by decide) fun K hK => ?_
      simp [init_eq, pl_6_8, afieldAddr, aload, T.mm, Msg.cert_cells]
      refine ACalls.mono (certified_ok' ..) fun r H' ⟨hr, e'⟩ => ?_ -- hallmoot/msg.certified
      subst hr e'
      try simp
      refine hK _ _ ?_; clear hK K
      exact bend (rend ⟨⟨64, [(1, .p (some (H.next, 0, 0))), (3, .b m.body)]⟩, by simp [Env.sub, Msg.body, e], rfl, T⟩)
    case inr.inr.inl =>
      subst hr
      refine AW_block ?_
      refine AW_seq ?_
      refine AW_reg [1, 3, 10, 12, 13] fun K hK => ?_
      simp [init_eq, atypeAssert]
      refine hK _ _ ?_; clear hK K
      refine AW_condF rfl ?_
      refine AW_seq ?_
      refine AW_reg [1, 3, 10, 20, 21] fun K hK => ?_
      simp [init_eq, atypeAssert]
      refine hK _ _ ?_; clear hK K
      refine AW_condF rfl ?_
      refine AW_seq ?_
      refine AW_reg [1, 3, 10, 29, 30] fun K hK => ?_
      simp [init_eq, atypeAssert]
      refine hK _ _ ?_; clear hK K
      refine AW_condT rfl ?_
      refine AW_seq ?_
      refine AW_reg [1, 6] fun K hK => ?_
      simp [init_eq]
      refine hK _ _ ?_; clear hK K
      refine AW_reg [1, 3] fun K hK => ?_
      simp [init_eq, aload, T.mm, Msg.tmo_cells]
      refine ACalls.mono (btimeout_ok ..) fun r H' ⟨hr, e'⟩ => ?_ -- hallmoot/block.Timeout
      subst hr e'
      try simp
      refine hK _ _ ?_; clear hK K
      exact bend (rend ⟨⟨64, [(1, .p (some (H.next, 0, 0))), (3, .b m.body)]⟩, by cases h : m.tmo.ok <;> simp [Env.sub, Msg.body, e, h], rfl, T⟩)
    case inr.inr.inr.inl =>
      subst hr
      refine AW_block ?_
      refine AW_seq ?_
      refine AW_reg [1, 3, 10, 12, 13] fun K hK => ?_
      simp [init_eq, atypeAssert]
      refine hK _ _ ?_; clear hK K
      refine AW_condF rfl ?_
      refine AW_seq ?_
      refine AW_reg [1, 3, 10, 20, 21] fun K hK => ?_
      simp [init_eq, atypeAssert]
      refine hK _ _ ?_; clear hK K
      refine AW_condF rfl ?_
      refine AW_seq ?_
      refine AW_reg [1, 3, 10, 29, 30] fun K hK => ?_
      simp [init_eq, atypeAssert]
      refine hK _ _ ?_; clear hK K
      refine AW_condF rfl ?_
      refine AW_seq ?_
      refine AW_reg [1, 3, 10, 37, 38] fun K hK => ?_
      simp [init_eq, atypeAssert]
      refine hK _ _ ?_; clear hK K
      refine AW_condT rfl ?_
      refine AW_seq ?_
      refine AW_reg [1, 7] fun K hK => ?_
      simp [init_eq]
      refine hK _ _ ?_; clear hK K
      refine AW_reg [1, 3] fun K hK => ?_
      simp [init_eq, aload, T.mm]
      refine ACalls.mono (proofs_ok _ ha.pf (by have := hf.pf; omega)) fun r H' ⟨hr, e'⟩ => ?_ -- hallmoot/msg.proofs
      subst hr e'
      try simp
      refine hK _ _ ?_; clear hK K
      exact bend (rend ⟨⟨64, [(1, .p (some (H.next, 0, 0))), (3, .b m.body)]⟩, by simp [Env.sub, Msg.body, e], rfl, T⟩)
    case inr.inr.inr.inr.inl =>
      subst hr
      refine AW_block ?_
      refine AW_seq ?_
      refine AW_reg [1, 3, 10, 12, 13] fun K hK => ?_
      simp [init_eq, atypeAssert]
      refine hK _ _ ?_; clear hK K
      refine AW_condF rfl ?_
      refine AW_seq ?_
      refine AW_reg [1, 3, 10, 20, 21] fun K hK => ?_
      simp [init_eq, atypeAssert]
      refine hK _ _ ?_; clear hK K
      refine AW_condF rfl ?_
      refine AW_seq ?_
      refine AW_reg [1, 3, 10, 29, 30] fun K hK => ?_
      simp [init_eq, atypeAssert]
      refine hK _ _ ?_; clear hK K
      refine AW_condF rfl ?_
      refine AW_seq ?_
      refine AW_reg [1, 3, 10, 37, 38] fun K hK => ?_
      simp [init_eq, atypeAssert]
      refine hK _ _ ?_; clear hK K
      refine AW_condF rfl ?_
      refine AW_seq ?_
      refine AW_reg [1, 3, 10, 44, 45] fun K hK => ?_
      simp [init_eq, atypeAssert]
      refine hK _ _ ?_; clear hK K
      refine AW_condT rfl ?_
      refine AW_seq ?_
      refine AW_reg [1, 8] fun K hK => ?_
      simp [init_eq]
      refine hK _ _ ?_; clear hK K
      refine AW_reg [1, 3] fun K hK => ?_
      simp [init_eq, aload, T.mm, Msg.tx_cells]
      refine ACalls.mono (txCheck_ok _ _ hf.tx) fun r H' ⟨hr, e'⟩ => ?_ -- hallmoot/tx.Check
      subst hr e'
      try simp
      refine hK _ _ ?_; clear hK K
      exact bend (rend ⟨⟨64, [(1, .p (some (H.next, 0, 0))), (3, .b m.body)]⟩, by cases h : m.tx.ok <;> simp [Env.sub, Msg.body, e, h], rfl, T⟩)
    case inr.inr.inr.inr.inr.inl =>
      obtain ⟨rfl, -⟩ := hr
      refine AW_block ?_
      refine AW_seq ?_
      refine AW_reg [1, 3, 10, 12, 13] fun K hK => ?_
      simp [init_eq, atypeAssert]
      refine hK _ _ ?_; clear hK K
      refine AW_condF rfl ?_
      refine AW_seq ?_
      refine AW_reg [1, 3, 10, 20, 21] fun K hK => ?_
      simp [init_eq, atypeAssert]
      refine hK _ _ ?_; clear hK K
      refine AW_condF rfl ?_
      refine AW_seq ?_
      refine AW_reg [1, 3, 10, 29, 30] fun K hK => ?_
      simp [init_eq, atypeAssert]
      refine hK _ _ ?_; clear hK K
      refine AW_condF rfl ?_
      refine AW_seq ?_
      refine AW_reg [1, 3, 10, 37, 38] fun K hK => ?_
      simp [init_eq, atypeAssert]
      refine hK _ _ ?_; clear hK K
      refine AW_condF rfl ?_
      refine AW_seq ?_
      refine AW_reg [1, 3, 10, 44, 45] fun K hK => ?_
      simp [init_eq, atypeAssert]
      refine hK _ _ ?_; clear hK K
      refine AW_condF rfl ?_
      refine AW_seq ?_
      refine AW_reg [1, 3, 10, 52, 53] fun K hK => ?_
      simp [init_eq, atypeAssert]
      refine hK _ _ ?_; clear hK K
      refine AW_condT rfl ?_
      refine AW_seq ?_
      refine AW_reg [1, 9] fun K hK => ?_
      simp [init_eq]
      refine hK _ _ ?_; clear hK K
      refine AW_reg [1, 3] fun K hK => ?_
      simp [init_eq]
      refine ACalls.mono (numbered_ok _ T.mm) fun r H' ⟨hr, e'⟩ => ?_ -- hallmoot/msg.numbered
      subst hr e'
      try simp
      refine hK _ _ ?_; clear hK K
      exact bend (rend ⟨⟨64, [(1, .p (some (H.next, 0, 0))), (3, .b m.body)]⟩, by simp [Env.sub, Msg.body, e], rfl, T⟩)
    case inr.inr.inr.inr.inr.inr =>
      subst hr
      repeat (first
        | refine AW_seq ?_
        | refine AW_block ?_
        | refine AW_condT rfl ?_
        | refine AW_condF rfl ?_
        | (refine AW_reg [1, 3, 10, 12, 20, 29, 37, 44, 52] fun K hK => ?_
           simp [init_eq, atypeAssert]
           refine hK _ _ ?_; clear hK K))
      refine AW_skip ?_
      exact bend (rend ⟨⟨64, [(1, .p (some (H.next, 0, 0))), (3, .b m.body)]⟩, by simp [Env.sub, Msg.body, e], rfl, T⟩)
  · rintro ρ G ⟨rfl, T⟩
    have ha := hm.same T.old
    refine AW_seq ?_
    refine AW_seq ?_
    refine AW_regdto [63] pl_6_21 pe_6_21 ⟨64, [(63, .b (!m.ok))]⟩ G (by kernel_rfl) (by kernel_rfl) (by decide) (fun K hk => ?_) ?_
    · cases hb : m.body
      · simpa [init_eq, pl_6_21, hb, Msg.ok] using hk
      · simp [init_eq, pl_6_21, hb, aload, T.mm, msg_take]
        refine ACalls.mono (only_ok _ ha) fun r H' ⟨hr, e'⟩ => ?_ -- hallmoot/msg.only
        subst hr e'
        try simp [aload, T.mm, msg_take]
        refine ACalls.mono (sameMsg_ok _ ha ha.only hf.pf hf.b1 hf.b2) fun r H' ⟨hr, e'⟩ => ?_ -- hallmoot/msg.Same
        subst hr e'
        simpa [hb, Msg.ok] using hk
    refine AW_cond' rfl rfl (fun hc => ?_) (fun hc => ?_)
    · have h0 : m.ok = false := by simpa using hc
      refine AW_seq ?_
      refine AW_reg [2] fun K hK => ?_ -- region 22
      simp [init_eq]
      refine hK _ _ ?_; clear hK K
      refine AW_ret (end_ret rfl ⟨by simp [h0], rfl, by have := T.nx; omega, T.old⟩)
    · have h0 : m.ok = true := by simpa using hc
      refine AW_skip ?_
      refine AW_seq ?_
      refine AW_reg [2] fun K hK => ?_ -- region 23
      simp [init_eq]
      refine hK _ _ ?_; clear hK K
      refine AW_ret (end_ret rfl ⟨by simp [h0], rfl, by have := T.nx; omega, T.old⟩)
end Go.Proofs.YtfhbdbjgmcopjaaGreatDoor
