/-
  A message's body is read (msg.fill).
-/
import Derived.Test.YtfhbdbjgmcopjaaDoorMsg8
set_option linter.unusedVariables false
set_option linter.unusedSimpArgs false
namespace Go.Proofs.YtfhbdbjgmcopjaaDoor
open Go Go.Abs Go.Proofs
set_option maxRecDepth 100000
attribute [local irreducible] AEnd AW ACalls

theorem msmall_ok {H0 H : AH} {id : Nat} {s : St} (h : Rd H0 H id s) : ACalls Tryd.prog 23 [.p (some (id, 0, 0))] H fun r H' => r = .i .i64 ((rsmall s).1 : Nat) ∧ Rd H0 H' id (rsmall s).2 ∧ Upd H H' [id] := by
  refine ACalls_body Tryd.func23 rfl rfl ?_
  refine AW_seq ?_
  refine AW_reg [0] fun K hK => ?_ -- region 0
  simp [init_eq]
  refine hK _ _ ?_; clear hK K
  refine AW_seq ?_
  refine AW_reg [2] fun K hK => ?_ -- region 1
  simp [init_eq]
  refine ACalls.mono (rdnum_ok h) fun r H1 ⟨hr, h1, u1⟩ => ?_ -- (*hallmoot/wire.Reader).Num
  subst hr
  by_cases k1 : (rnum s).1 ≤ 1099511627776
  · have e : (rsmall s).1 = (rnum s).1 := Nat.min_eq_left k1
    have k2 : ¬ (1099511627776 : Int) < ((rnum s).1 : Int) := by omega
    simp [amin2, k2]
    refine hK _ _ ?_; clear hK K
    refine AW_ret (end_ret rfl ?_)
    rw [e]
    exact ⟨rfl, h1, u1⟩
  · have e : (rsmall s).1 = 1099511627776 := Nat.min_eq_right (by omega)
    have k2 : (1099511627776 : Int) < ((rnum s).1 : Int) := by omega
    simp [amin2, k2]
    refine hK _ _ ?_; clear hK K
    refine AW_ret (end_ret rfl ?_)
    rw [e]
    exact ⟨rfl, h1, u1⟩
section
variable (m : Msg) (lv pv tv : V)
theorem Msg.w13s (x : Int) : splice (m.cells lv pv tv) 13 [.i .i64 x] = ({ m with tmo := { m.tmo with signer := x } } : Msg).cells lv pv tv := rfl
theorem Msg.w14 (x : Int) : splice (m.cells lv pv tv) 14 [.i .i64 x] = ({ m with tmo := { m.tmo with view := x } } : Msg).cells lv pv tv := rfl
theorem Msg.w15 (x : Cert) : splice (m.cells lv pv tv) 15 x.cells = ({ m with tmo := { m.tmo with high := x } } : Msg).cells lv pv tv := rfl
end
/-- Under way in msg.fill. -/
structure TF (H0 H G : AH) (id mid : Nat) (s : St) (m : Msg) (lv pv tv : V) : Prop where
  rd : Rd H0 G id s
  mm : G.get mid = some (.cells (m.cells lv pv tv) 0 false 0)
  upd : Upd H G [id, mid]
theorem TF.rest {H0 H G G' : AH} {id mid : Nat} {s s' : St} {m : Msg} {lv pv tv : V} (h : TF H0 H G id mid s m lv pv tv) (hlt : id < mid) (hr : Rd H0 G' id s') (u : Upd G G' [id]) : TF H0 H G' id mid s' m lv pv tv :=
  ⟨hr, u.keep (by simp; omega) h.mm, h.upd.trans u (fun j hj => .inl (by simp at hj; simp [hj]))⟩
theorem TF.set {H0 H G : AH} {id mid : Nat} {s : St} {m m' : Msg} {lv pv tv lv' pv' tv' : V} (h : TF H0 H G id mid s m lv pv tv) (hlt : id < mid) : TF H0 H (G.set mid (.cells (m'.cells lv' pv' tv') 0 false 0)) id mid s m' lv' pv' tv' := by
  have hn := AH.get_lt h.mm
  refine ⟨h.rd.upd (Upd.set (F := [mid]) _ _ _ (by simp)) (fun j hj => by simp at hj; omega), ?_, h.upd.trans (Upd.set (F := [mid]) _ _ _ (by simp)) (fun j hj => .inl (by simp at hj; simp [hj]))⟩
  simp [AH.get_set]; omega
/-- What is left behind. -/
def fillR (H0 H G : AH) (id mid : Nat) (x : Msg × St) : Prop := ∃ lv pv tv, (∀ G' : AH, (∀ j, H.next ≤ j → j < G.next → G'.get j = G.get j) → G.next ≤ G'.next → MsgAt G' x.1 lv pv tv) ∧ TF H0 H G id mid x.2 x.1 lv pv tv
theorem nils_at (G : AH) {m : Msg} (h1 : m.proof = []) (h2 : m.blk.proof = []) (h3 : m.blk.txs = []) : MsgAt G m nilSl nilSl nilSl := by
  refine ⟨?_, ?_, ?_⟩
  · rw [h1]; exact RS.nils ..
  · rw [h2]; exact RS.nils ..
  · rw [h3]; exact RS.nils ..
theorem abuildSlice_upd {P : Program} {H H' : AH} {t : TypeId} {n : Nat} {ps : List (Nat × V)} {v : V} (h : abuildSlice P H t n ps = some (v, H')) : Upd H H' [] := by
  unfold abuildSlice at h
  split at h
  · split at h
    · split at h
      · split at h
        · split at h
          · cases h; exact Upd.new ..
          · cases h
        · cases h
      · cases h
    · cases h
  · cases h
set_option maxHeartbeats 8000000 in
theorem fill_ok {H0 H : AH} {id mid : Nat} {s : St} {k : Int} (h : Rd H0 H id s) (h32 : s.2 ≠ 32) (hlt : id < mid) (hm : H.get mid = some (.cells (({ Msg.zero with kind := k } : Msg).cells nilSl nilSl nilSl) 0 false 0)) :
    ACalls Tryd.prog 24 [.p (some (id, 0, 0)), .p (some (mid, 0, 0))] H fun r H' => r = .tup [] ∧ fillR H0 H H' id mid (fillMsg k s) := by
  have hmid := AH.get_lt hm
  have hnil : abin Tryd.prog .eql 20 .nif .nif = some (.b true) := by simp [abin, aeq, Tryd.underlying20]
  have hifc : ∀ t v, abin Tryd.prog .eql 20 (.ifc t v) .nif = some (.b false) := fun t v => by simp [abin, aeq, Tryd.underlying20]
  refine ACalls_body Tryd.func24 rfl rfl ?_
  refine AW_seq ?_
  refine AW_reg [0, 1, 4] fun K hK => ?_ -- region 0
  simp [init_eq]
  refine ACalls.mono (what_ok _ hm) fun r G ⟨hr, hu⟩ => ?_ -- hallmoot/msg.what
  try simp
  refine hK _ _ ?_; clear hK K
  have T0 : TF H0 H G id mid s { Msg.zero with kind := k } nilSl nilSl nilSl := ⟨h.upd hu (by simp), hu.keep (by simp) hm, hu.mono (by simp)⟩
  unfold fillMsg
  rcases mclass_cases k with ⟨e, h1⟩ | ⟨e, h1⟩ | ⟨e, h1⟩ | ⟨e, h1⟩ | ⟨e, h1⟩ | ⟨e, h1⟩ | ⟨e, h1⟩ <;> simp only [whatR, e] at hr ⊢
  case inr.inr.inr.inr.inr.inr =>
    subst hr
    refine AW_seq ?_
    refine AW_seq ?_
    refine AW_reg [0, 1, 4, 19] fun K hK => ?_ -- region 1
    simp [init_eq, hnil]
    refine hK _ _ ?_; clear hK K
    refine AW_condT rfl ?_
    refine AW_seq ?_
    refine AW_reg [] fun K hK => ?_ -- region 2
    simp [init_eq]
    refine ACalls.mono (fail_ok T0.rd 140) fun r G2 ⟨h2, u2⟩ => ?_ -- (*hallmoot/wire.Reader).Fail
    try simp
    refine hK _ _ ?_; clear hK K
    refine AW_ret (end_ret rfl ⟨rfl, _, _, _, fun G' _ _ => nils_at G' rfl rfl rfl, T0.rest hlt h2 u2⟩)
  case inl =>
      subst hr
      refine AW_seq ?_
      refine AW_seq ?_
      refine AW_reg [0, 1, 4, 19] fun K hK => ?_ -- region 1
      simp [init_eq, hifc]
      refine hK _ _ ?_; clear hK K
      refine AW_condF rfl ?_
      refine AW_skip ?_
      refine AW_seq ?_
      refine AW_seq ?_
      refine AW_reg [0, 1, 4, 5, 6] fun K hK => ?_ -- region 3
      simp [init_eq, atypeAssert]
      refine hK _ _ ?_; clear hK K
      refine AW_seq ?_
      refine AW_reg [0, 1, 4, 5, 27] fun K hK => ?_ -- region 4
      simp [init_eq]
      refine hK _ _ ?_; clear hK K
      refine AW_condT rfl ?_
      refine AW_seq ?_
      refine AW_reg [] fun K hK => ?_ -- region 5
      simp [init_eq]
      refine ACalls.mono (blkTake_ok T0.rd h32) fun r G2 hr => ?_ -- hallmoot/block.Take
      obtain ⟨pv, tv, rfl, hat, h2, u2⟩ := hr
      have T2 := T0.rest hlt h2 u2
      have hn2 := AH.get_lt T2.mm
      generalize takeBlk s = q at *
      obtain ⟨B, w⟩ := q
      simp only at hat h2 T2 ⊢
      simp [astore, T2.mm, V.cells, Msg.w24]
      refine hK _ _ ?_; clear hK K
      have T3 := T2.set hlt (m' := { Msg.zero with kind := k, blk := B }) (lv' := nilSl) (pv' := pv) (tv' := tv)
      refine AW_ret (end_ret rfl ⟨rfl, _, _, _, fun G' hg hn => ⟨RS.nils .., hat G' (fun j h1 h2 => ?_) (by simpa using hn)⟩, T3⟩)
      have := hu.1
      rw [hg j (by omega) (by simpa using h2), AH.get_set_ne (by omega)]
  case inr.inl =>
      subst hr
      refine AW_seq ?_
      refine AW_seq ?_
      refine AW_reg [0, 1, 4, 19] fun K hK => ?_ -- region 1
      simp [init_eq, hifc]
      refine hK _ _ ?_; clear hK K
      refine AW_condF rfl ?_
      refine AW_skip ?_
      refine AW_seq ?_
      refine AW_seq ?_
      refine AW_reg [0, 1, 4, 5, 6] fun K hK => ?_ -- region 3
      simp [init_eq, atypeAssert]
      refine hK _ _ ?_; clear hK K
      refine AW_seq ?_
      refine AW_reg [0, 1, 4, 5, 27] fun K hK => ?_ -- region 4
      simp [init_eq]
      refine hK _ _ ?_; clear hK K
      refine AW_condF rfl ?_
      refine AW_skip ?_
      refine AW_seq ?_
      refine AW_reg [0, 1, 32] fun K hK => ?_ -- region 6
      simp [init_eq]
      refine hK _ _ ?_; clear hK K
      refine AW_block ?_
      refine AW_seq ?_
      refine AW_reg [0, 1, 32, 34, 35] fun K hK => ?_
      simp [init_eq, atypeAssert]
      refine hK _ _ ?_; clear hK K
      refine AW_condT rfl ?_
      refine AW_seq ?_
      refine AW_reg [0, 7] fun K hK => ?_
      simp [init_eq]
      refine hK _ _ ?_; clear hK K
      refine AW_reg [] fun K hK => ?_ -- region 9
      simp [init_eq]
      refine ACalls.mono (certTake_ok T0.rd h32) fun r G2 ⟨hr, h2, u2⟩ => ?_ -- hallmoot/cert.Take
      subst hr
      have T2 := T0.rest hlt h2 u2
      simp [astore, T2.mm, V.cells, Msg.w5]
      refine hK _ _ ?_; clear hK K
      exact bend (end_normal rfl ⟨rfl, _, _, _, fun G' _ _ => nils_at G' rfl rfl rfl, T2.set hlt (m' := { Msg.zero with kind := k, cert := (takeCert s).1 })⟩)
  case inr.inr.inl =>
      subst hr
      refine AW_seq ?_
      refine AW_seq ?_
      refine AW_reg [0, 1, 4, 19] fun K hK => ?_ -- region 1
      simp [init_eq, hifc]
      refine hK _ _ ?_; clear hK K
      refine AW_condF rfl ?_
      refine AW_skip ?_
      refine AW_seq ?_
      refine AW_seq ?_
      refine AW_reg [0, 1, 4, 5, 6] fun K hK => ?_ -- region 3
      simp [init_eq, atypeAssert]
      refine hK _ _ ?_; clear hK K
      refine AW_seq ?_
      refine AW_reg [0, 1, 4, 5, 27] fun K hK => ?_ -- region 4
      simp [init_eq]
      refine hK _ _ ?_; clear hK K
      refine AW_condF rfl ?_
      refine AW_skip ?_
      refine AW_seq ?_
      refine AW_reg [0, 1, 32] fun K hK => ?_ -- region 6
      simp [init_eq]
      refine hK _ _ ?_; clear hK K
      refine AW_block ?_
      refine AW_seq ?_
      refine AW_reg [0, 1, 32, 34, 35] fun K hK => ?_
      simp [init_eq, atypeAssert]
      refine hK _ _ ?_; clear hK K
      refine AW_condF rfl ?_
      refine AW_seq ?_
      refine AW_reg [0, 1, 32, 41, 42] fun K hK => ?_
      simp [init_eq, atypeAssert]
      refine hK _ _ ?_; clear hK K
      refine AW_condT rfl ?_
      refine AW_seq ?_
      refine AW_reg [0, 8] fun K hK => ?_
      simp [init_eq]
      refine hK _ _ ?_; clear hK K
      refine AW_seq ?_
      refine AW_reg [0, 8] fun K hK => ?_ -- region 12
      simp [init_eq]
      refine ACalls.mono (msmall_ok T0.rd) fun r G2 ⟨hr, h2, u2⟩ => ?_ -- hallmoot/msg.small
      subst hr
      have T2 := T0.rest hlt h2 u2
      try simp
      refine ACalls.mono (msmall_ok T2.rd) fun r G3 ⟨hr, h3, u3⟩ => ?_ -- hallmoot/msg.small
      subst hr
      have T3 := T2.rest hlt h3 u3
      have hn3 := AH.get_lt T3.mm
      simp [afieldAddr, astore, T3.mm, V.cells, AH.get_set, hn3, Msg.w13s, Msg.w14]
      refine hK _ _ ?_; clear hK K
      have T4 := (T3.set hlt (m' := { Msg.zero with kind := k, tmo := { Tmo.zero with signer := (rsmall s).1 } }) (lv' := nilSl) (pv' := nilSl) (tv' := nilSl)).set hlt (m' := { Msg.zero with kind := k, tmo := { Tmo.zero with signer := (rsmall s).1, view := (rsmall (rsmall s).2).1 } }) (lv' := nilSl) (pv' := nilSl) (tv' := nilSl)
      generalize hG4 : AH.set _ mid _ = G4
      have T4 : TF H0 H G4 id mid (rsmall (rsmall s).2).2 { Msg.zero with kind := k, tmo := { Tmo.zero with signer := (rsmall s).1, view := (rsmall (rsmall s).2).1 } } nilSl nilSl nilSl := by rw [← hG4]; exact T4
      refine AW_reg [] fun K hK => ?_ -- region 13
      simp [init_eq]
      refine ACalls.mono (certTake_ok T4.rd (rnum_32 (rnum_32 h32))) fun r G5 ⟨hr, h5, u5⟩ => ?_ -- hallmoot/cert.Take
      subst hr
      have T5 := T4.rest hlt h5 u5
      simp [afieldAddr, astore, T5.mm, V.cells, Msg.w15]
      refine hK _ _ ?_; clear hK K
      exact bend (end_normal rfl ⟨rfl, _, _, _, fun G' _ _ => nils_at G' rfl rfl rfl, T5.set hlt (m' := { Msg.zero with kind := k, tmo := ⟨(rsmall s).1, (rsmall (rsmall s).2).1, (takeCert (rsmall (rsmall s).2).2).1⟩ })⟩)
  case inr.inr.inr.inr.inl =>
      subst hr
      refine AW_seq ?_
      refine AW_seq ?_
      refine AW_reg [0, 1, 4, 19] fun K hK => ?_ -- region 1
      simp [init_eq, hifc]
      refine hK _ _ ?_; clear hK K
      refine AW_condF rfl ?_
      refine AW_skip ?_
      refine AW_seq ?_
      refine AW_seq ?_
      refine AW_reg [0, 1, 4, 5, 6] fun K hK => ?_ -- region 3
      simp [init_eq, atypeAssert]
      refine hK _ _ ?_; clear hK K
      refine AW_seq ?_
      refine AW_reg [0, 1, 4, 5, 27] fun K hK => ?_ -- region 4
      simp [init_eq]
      refine hK _ _ ?_; clear hK K
      refine AW_condF rfl ?_
      refine AW_skip ?_
      refine AW_seq ?_
      refine AW_reg [0, 1, 32] fun K hK => ?_ -- region 6
      simp [init_eq]
      refine hK _ _ ?_; clear hK K
      refine AW_block ?_
      refine AW_seq ?_
      refine AW_reg [0, 1, 32, 34, 35] fun K hK => ?_
      simp [init_eq, atypeAssert]
      refine hK _ _ ?_; clear hK K
      refine AW_condF rfl ?_
      refine AW_seq ?_
      refine AW_reg [0, 1, 32, 41, 42] fun K hK => ?_
      simp [init_eq, atypeAssert]
      refine hK _ _ ?_; clear hK K
      refine AW_condF rfl ?_
      refine AW_seq ?_
      refine AW_reg [0, 1, 32, 59, 60] fun K hK => ?_
      simp [init_eq, atypeAssert]
      refine hK _ _ ?_; clear hK K
      refine AW_condF rfl ?_
      refine AW_seq ?_
      refine AW_reg [0, 1, 32, 83, 84] fun K hK => ?_
      simp [init_eq, atypeAssert]
      refine hK _ _ ?_; clear hK K
      refine AW_condT rfl ?_
      refine AW_seq ?_
      refine AW_reg [0, 12] fun K hK => ?_
      simp [init_eq]
      refine hK _ _ ?_; clear hK K
      refine AW_reg [] fun K hK => ?_ -- region 23
      simp [init_eq]
      refine ACalls.mono (txTake_ok T0.rd h32) fun r G2 ⟨hr, h2, u2⟩ => ?_ -- hallmoot/tx.Take
      subst hr
      have T2 := T0.rest hlt h2 u2
      simp [astore, T2.mm, V.cells, Msg.w38]
      refine hK _ _ ?_; clear hK K
      exact bend (end_normal rfl ⟨rfl, _, _, _, fun G' _ _ => nils_at G' rfl rfl rfl, T2.set hlt (m' := { Msg.zero with kind := k, tx := (takeTx s).1 })⟩)
  case inr.inr.inr.inr.inr.inl =>
      obtain ⟨rfl, -⟩ := hr
      refine AW_seq ?_
      refine AW_seq ?_
      refine AW_reg [0, 1, 4, 19] fun K hK => ?_ -- region 1
      simp [init_eq, hifc]
      refine hK _ _ ?_; clear hK K
      refine AW_condF rfl ?_
      refine AW_skip ?_
      refine AW_seq ?_
      refine AW_seq ?_
      refine AW_reg [0, 1, 4, 5, 6] fun K hK => ?_ -- region 3
      simp [init_eq, atypeAssert]
      refine hK _ _ ?_; clear hK K
      refine AW_seq ?_
      refine AW_reg [0, 1, 4, 5, 27] fun K hK => ?_ -- region 4
      simp [init_eq]
      refine hK _ _ ?_; clear hK K
      refine AW_condF rfl ?_
      refine AW_skip ?_
      refine AW_seq ?_
      refine AW_reg [0, 1, 32] fun K hK => ?_ -- region 6
      simp [init_eq]
      refine hK _ _ ?_; clear hK K
      refine AW_block ?_
      refine AW_seq ?_
      refine AW_reg [0, 1, 32, 34, 35] fun K hK => ?_
      simp [init_eq, atypeAssert]
      refine hK _ _ ?_; clear hK K
      refine AW_condF rfl ?_
      refine AW_seq ?_
      refine AW_reg [0, 1, 32, 41, 42] fun K hK => ?_
      simp [init_eq, atypeAssert]
      refine hK _ _ ?_; clear hK K
      refine AW_condF rfl ?_
      refine AW_seq ?_
      refine AW_reg [0, 1, 32, 59, 60] fun K hK => ?_
      simp [init_eq, atypeAssert]
      refine hK _ _ ?_; clear hK K
      refine AW_condF rfl ?_
      refine AW_seq ?_
      refine AW_reg [0, 1, 32, 83, 84] fun K hK => ?_
      simp [init_eq, atypeAssert]
      refine hK _ _ ?_; clear hK K
      refine AW_condF rfl ?_
      refine AW_seq ?_
      refine AW_reg [0, 1, 90, 91] fun K hK => ?_
      simp [init_eq, atypeAssert]
      refine hK _ _ ?_; clear hK K
      refine AW_condT rfl ?_
      refine AW_seq ?_
      refine AW_reg [0, 1] fun K hK => ?_
      simp [init_eq]
      refine hK _ _ ?_; clear hK K
      refine AW_seq ?_
      refine AW_reg [1, 14, 15] fun K hK => ?_ -- region 26
      simp [init_eq]
      refine ACalls.mono (msmall_ok T0.rd) fun r G2 ⟨hr, h2, u2⟩ => ?_ -- hallmoot/msg.small
      subst hr
      have T2 := T0.rest hlt h2 u2
      try simp
      refine ACalls.mono (msmall_ok T2.rd) fun r G3 ⟨hr, h3, u3⟩ => ?_ -- hallmoot/msg.small
      subst hr
      have T3 := T2.rest hlt h3 u3
      have hn3 := AH.get_lt T3.mm
      try simp
      refine hK _ _ ?_; clear hK K
      refine AW_seq ?_
      refine AW_reg [1, 14, 15, 99] fun K hK => ?_ -- region 27
      simp [init_eq, afieldAddr, aload, T3.mm]
      refine hK _ _ ?_; clear hK K
      refine AW_block ?_
      refine AW_seq ?_
      refine AW_reg [1, 14, 15, 99, 108] fun K hK => ?_ -- region 29
      simp [init_eq]
      refine hK _ _ ?_; clear hK K
      refine AW_cond' rfl rfl (fun hc => ?_) (fun hc => ?_)
      · have k7 : k = 7 := by simpa using hc
        rw [if_pos k7]
        have hcv : ∀ x : Nat, x ≤ 2147483648 → aconvert Tryd.prog G3 3 22 (.i .i64 (x : Int)) = some (u32 (BitVec.ofNat 32 x), G3) := fun x hx => by
          have : IntKind.u32.wrap (x : Int) = x := by simp [IntKind.wrap, IntKind.signed, IntKind.bits]; omega
          have e2 : (BitVec.ofNat 32 x).toNat = x := by simp; omega
          simp [aconvert, Tryd.underlying3, Tryd.underlying22, this, u32, e2]
        have hmin : (amin2 (.i .i64 ((rsmall (rsmall s).2).1 : Int)) (.i .i64 2147483648)) = some (.i .i64 ((min (rsmall (rsmall s).2).1 2147483648 : Nat) : Int)) := by
          by_cases k1 : (rsmall (rsmall s).2).1 ≤ 2147483648
          · have k2 : ¬ (2147483648 : Int) < ((rsmall (rsmall s).2).1 : Int) := by omega
            simp [amin2, k2, Nat.min_eq_left k1]
          · have k2 : (2147483648 : Int) < ((rsmall (rsmall s).2).1 : Int) := by omega
            simp [amin2, k2, Nat.min_eq_right (show 2147483648 ≤ (rsmall (rsmall s).2).1 by omega)]
        refine AW_reg [] fun K hK => ?_ -- region 30
        simp [init_eq, hmin, hcv _ (Nat.min_le_right (rsmall (rsmall s).2).1 2147483648), afieldAddr, astore, T3.mm, i_cells, u32_cells, AH.get_set, hn3, Msg.w2, Msg.w4]
        refine hK _ _ ?_; clear hK K
        exact bend (bend (end_normal rfl ⟨rfl, _, _, _, fun G' _ _ => nils_at G' rfl rfl rfl, (T3.set hlt (m' := { Msg.zero with kind := k, view := (rsmall s).1 }) (lv' := nilSl) (pv' := nilSl) (tv' := nilSl)).set hlt (m' := { Msg.zero with kind := k, view := (rsmall s).1, set := BitVec.ofNat 32 (min (rsmall (rsmall s).2).1 2147483648) })⟩))
      · have k7 : ¬ k = 7 := by simpa using hc
        rw [if_neg k7]
        refine AW_seq ?_
        refine AW_reg [1, 14, 15, 120] fun K hK => ?_ -- region 31
        simp [init_eq]
        refine hK _ _ ?_; clear hK K
        refine AW_cond' rfl rfl (fun hc => ?_) (fun hc => ?_)
        · have k8 : k = 8 := by simpa using hc
          rw [if_pos k8]
          refine AW_reg [] fun K hK => ?_ -- region 32
          simp [init_eq, afieldAddr, astore, T3.mm, i_cells, AH.get_set, hn3, Msg.w1, Msg.w3]
          refine hK _ _ ?_; clear hK K
          exact bend (bend (end_normal rfl ⟨rfl, _, _, _, fun G' _ _ => nils_at G' rfl rfl rfl, (T3.set hlt (m' := { Msg.zero with kind := k, signer := (rsmall s).1 }) (lv' := nilSl) (pv' := nilSl) (tv' := nilSl)).set hlt (m' := { Msg.zero with kind := k, signer := (rsmall s).1, n := (rsmall (rsmall s).2).1 })⟩))
        · have k8 : ¬ k = 8 := by simpa using hc
          rw [if_neg k8]
          refine AW_reg [] fun K hK => ?_ -- region 28
          simp [init_eq, afieldAddr, astore, T3.mm, i_cells, AH.get_set, hn3, Msg.w1, Msg.w2]
          refine hK _ _ ?_; clear hK K
          exact bend (bend (end_normal rfl ⟨rfl, _, _, _, fun G' _ _ => nils_at G' rfl rfl rfl, (T3.set hlt (m' := { Msg.zero with kind := k, signer := (rsmall s).1 }) (lv' := nilSl) (pv' := nilSl) (tv' := nilSl)).set hlt (m' := { Msg.zero with kind := k, signer := (rsmall s).1, view := (rsmall (rsmall s).2).1 })⟩))
  case inr.inr.inr.inl =>
      subst hr
      refine AW_seq ?_
      refine AW_seq ?_
      refine AW_reg [0, 1, 4, 19] fun K hK => ?_ -- region 1
      simp [init_eq, hifc]
      refine hK _ _ ?_; clear hK K
      refine AW_condF rfl ?_
      refine AW_skip ?_
      refine AW_seq ?_
      refine AW_seq ?_
      refine AW_reg [0, 1, 4, 5, 6] fun K hK => ?_ -- region 3
      simp [init_eq, atypeAssert]
      refine hK _ _ ?_; clear hK K
      refine AW_seq ?_
      refine AW_reg [0, 1, 4, 5, 27] fun K hK => ?_ -- region 4
      simp [init_eq]
      refine hK _ _ ?_; clear hK K
      refine AW_condF rfl ?_
      refine AW_skip ?_
      refine AW_seq ?_
      refine AW_reg [0, 1, 32] fun K hK => ?_ -- region 6
      simp [init_eq]
      refine hK _ _ ?_; clear hK K
      refine AW_block ?_
      refine AW_seq ?_
      refine AW_reg [0, 1, 32, 34, 35] fun K hK => ?_
      simp [init_eq, atypeAssert]
      refine hK _ _ ?_; clear hK K
      refine AW_condF rfl ?_
      refine AW_seq ?_
      refine AW_reg [0, 1, 32, 41, 42] fun K hK => ?_
      simp [init_eq, atypeAssert]
      refine hK _ _ ?_; clear hK K
      refine AW_condF rfl ?_
      refine AW_seq ?_
      refine AW_reg [0, 1, 32, 59, 60] fun K hK => ?_
      simp [init_eq, atypeAssert]
      refine hK _ _ ?_; clear hK K
      refine AW_condT rfl ?_
      refine AW_seq ?_
      refine AW_reg [0, 9] fun K hK => ?_
      simp [init_eq]
      refine hK _ _ ?_; clear hK K
      refine AW_seq ?_
      refine AW_reg [0, 9, 10] fun K hK => ?_ -- region 16
      simp [init_eq]
      refine ACalls.mono (msmall_ok T0.rd) fun r G2 ⟨hr, h2, u2⟩ => ?_ -- hallmoot/msg.small
      subst hr
      have T2 := T0.rest hlt h2 u2
      try simp
      refine hK _ _ ?_; clear hK K
      refine AW_seq ?_
      refine AW_reg [0, 9, 10, 11] fun K hK => ?_ -- region 17
      simp [init_eq]
      refine ACalls.mono (most_ok T2.rd 10) fun r G3 ⟨hr, h3, u3⟩ => ?_ -- (*hallmoot/wire.Reader).Most
      subst hr
      have T3 := T2.rest hlt h3 u3
      try simp
      refine hK _ _ ?_; clear hK K
      have hle := rmost_le 10 (rsmall s).2
      have h33 : (rmost 10 (rsmall s).2).2.2 ≠ 32 := rmost_32 (rnum_32 h32)
      generalize (rsmall s).1 = a at *
      generalize rmost 10 (rsmall s).2 = q at *
      obtain ⟨n, s1⟩ := q
      simp only at T3 hle h33 ⊢
      refine AW_block ?_
      refine AW_loopx (fun x : List Tmo × V × Nat × St => ⟨130, [(0, .p (some (id, 0, 0))), (9, .p (some (mid, 0, 23))), (10, .i .i64 (a : Int)), (11, .i .i64 (x.2.2.1 : Int))]⟩)
        (fun x G => x.1.length + x.2.2.1 = n ∧ takeL (takeTmo a) n s1 = (x.1 ++ (takeL (takeTmo a) x.2.2.1 x.2.2.2).1, (takeL (takeTmo a) x.2.2.1 x.2.2.2).2) ∧ x.2.2.2.2 ≠ 32 ∧ TF H0 H G id mid x.2.2.2 { Msg.zero with kind := k, proof := x.1 } x.2.1 nilSl nilSl ∧ ∃ F, Own G x.2.1 10 (x.1.map Tmo.cells).flatten F ∧ ∀ j ∈ F, H.next ≤ j)
        (fun x => x.2.2.1) ([], nilSl, n, s1) (by simp) ⟨by simp, by simp, h33, T3, [], Own.nil .., by simp⟩ fun x G hM => ?_ -- loop
      obtain ⟨xs, v, c, st⟩ := x
      obtain ⟨m1, m2, m3, T, F, o, l⟩ := hM
      simp only at m1 m2 m3 T o ⊢
      clear T3 T2 T0 h2 h3 u2 u3
      refine AW_seq ?_
      refine AW_seq ?_
      refine AW_regto [0, 9, 10, 11, 66] ⟨130, [(0, .p (some (id, 0, 0))), (9, .p (some (mid, 0, 23))), (10, .i .i64 (a : Int)), (11, .i .i64 (c : Int)), (66, .b (decide (0 < c)))]⟩ G (fun K hk => ?_) ?_ -- region 18
      · by_cases k1 : 0 < c
        · have k2 : (0 : Int) < c := by omega
          simpa [init_eq, k1, k2] using hk
        · have k2 : ¬ (0 : Int) < c := by omega
          simpa [init_eq, k1, k2] using hk
      refine AW_cond' rfl rfl (fun hc => ?_) (fun hc => ?_)
      · have k1 : 0 < c := by simpa using hc
        obtain ⟨c', rfl⟩ : ∃ c', c = c' + 1 := ⟨c - 1, by omega⟩
        have hw : IntKind.i64.wrap (((c' + 1 : Nat) : Int) - 1) = (c' : Int) := by
          rw [wrap_id (by omega) (by omega)]; omega
        refine AW_skip ?_
        refine AW_seq ?_
        refine AW_block ?_
        have lv0 : aload Tryd.prog G 27 (.p (some (mid, 0, 23))) = some v := by simp [aload, T.mm]
        refine AW_regm (.only [mid]) [0, 9, 10, 11] pl_24_20 pe_24_20 (by kernel_rfl) (by kernel_rfl) (by decide) fun K hK => ?_ -- region 20
        simp [init_eq, pl_24_20, APlan_takem, through, tkOk, rid, lv0]
        refine ACalls.mono (msmall_ok T.rd) fun r G1 ⟨hr, h1, u1⟩ => ?_ -- hallmoot/msg.small
        subst hr
        have T1 := T.rest hlt h1 u1
        refine ⟨⟨u1.1, fun hn => u1.2 _ hn (by simp; omega)⟩, ?_⟩
        refine ACalls.mono (certTake_ok T1.rd (rnum_32 m3)) fun r G2 ⟨hr, h2, u2⟩ => ?_ -- hallmoot/cert.Take
        subst hr
        have T2 := T1.rest hlt h2 u2
        refine ⟨⟨u2.1, fun hn => u2.2 _ hn (by simp; omega)⟩, ?_⟩
        have e3 : takeL (takeTmo a) (c' + 1) st = (((takeTmo a) st).1 :: (takeL (takeTmo a) c' ((takeTmo a) st).2).1, (takeL (takeTmo a) c' ((takeTmo a) st).2).2) := rfl
        rw [e3] at m2
        have m32 : (takeTmo a st).2.2 ≠ 32 := takeCert_32 (s := (rsmall st).2) (rnum_32 m3)
        have e4 : takeTmo a st = (⟨(rsmall st).1, a, (takeCert (rsmall st).2).1⟩, (takeCert (rsmall st).2).2) := rfl
        rw [e4] at m2 m32
        have u12 := u1.trans u2 (fun j hj => .inl hj)
        have hidF : ∀ j ∈ F, j ∉ [id] := fun j hj => by have := l j hj; have := h.mem; simp; omega
        have o2 := o.upd u12 hidF
        generalize (takeCert (rsmall st).2).1 = ce at *
        generalize (takeCert (rsmall st).2).2 = w at *
        generalize (rsmall st).1 = y at *
        have hsp : splice Cert.zero.cells 0 ce.cells = ce.cells := splice_all rfl
        have hab : abuild Tryd.prog 26 [(0, .i .i64 (y : Int)), (1, .i .i64 (a : Int)), (2, .agg ce.cells)] = some (.agg (Tmo.cells ⟨y, a, ce⟩)) := by
          simp [abuild, afill, V.cells, splice_zero, splice_succ, Tmo.cells]
          exact hsp
        obtain ⟨G3, v', G4, F', b1, b2, b3, b4, b5⟩ := o2.pushR (f := Tmo.cells) app_tmos qelem_27 qsize_26 qzero_26 rfl rfl (by decide) (fun _ => rfl) (⟨y, a, ce⟩ : Tmo) (x := .agg (Tmo.cells ⟨y, a, ce⟩)) rfl (by simp [roomOk]; omega)
        have ub := abuildSlice_upd b1
        simp only [] at m2 m32 T2
        have hn1 : H.next ≤ G2.next := T2.upd.1
        have r4 := T2.rd.upd b4 (fun j hj => by have := l j hj; omega)
        have hmF : mid ∉ F := fun hj => by have := l _ hj; omega
        have mm4 := b4.keep hmF T2.mm
        have u4 : Upd H G4 [id, mid] := T2.upd.trans b4 (fun j hj => .inr (l j hj))
        have T4 : TF H0 H G4 id mid w { Msg.zero with kind := k, proof := xs } v nilSl nilSl := ⟨r4, mm4, u4⟩
        have T5 := T4.set hlt (m' := { Msg.zero with kind := k, proof := xs ++ [(⟨y, a, ce⟩ : Tmo)] }) (lv' := v') (pv' := nilSl) (tv' := nilSl)
        have o5 : Own (G4.set mid (.cells (({ Msg.zero with kind := k, proof := xs ++ [(⟨y, a, ce⟩ : Tmo)] } : Msg).cells v' nilSl nilSl) 0 false 0)) v' 10 ((xs ++ [(⟨y, a, ce⟩ : Tmo)]).map Tmo.cells).flatten F' := b3.upd (Upd.set (F := [mid]) _ _ _ (by simp)) (fun j hj => by
          rcases b5 j hj with hx | hx
          · have := l j hx; simp; omega
          · simp; omega)
        simp [hab, b1]
        refine ⟨⟨ub.1, fun hn => ub.2 _ hn (by simp)⟩, ?_⟩
        simp [b2, afieldAddr, astore, mm4, b3.cells, Msg.w23]
        refine hK _ _ ?_; clear hK K
        generalize hG5 : AH.set G4 mid _ = G5
        have T5 : TF H0 H G5 id mid w { Msg.zero with kind := k, proof := xs ++ [(⟨y, a, ce⟩ : Tmo)] } v' nilSl nilSl := by rw [← hG5]; exact T5
        have o5 : Own G5 v' 10 ((xs ++ [(⟨y, a, ce⟩ : Tmo)]).map Tmo.cells).flatten F' := by rw [← hG5]; exact o5
        clear hG5 T4 T2 T1 T
        refine bend (rend ?_)
        refine AW_reg [0, 9, 10, 11] fun K hK => ?_ -- region 19
        simp [init_eq, hw]
        refine hK _ _ ?_; clear hK K
        refine rend ⟨(xs ++ [(⟨y, a, ce⟩ : Tmo)], v', c', w), by simp [show IntKind.i64.wrap ((c' : Nat) : Int) = c' from wrap_id (by omega) (by omega)], ⟨by simp; omega, by simpa using m2, m32, T5, F', o5, fun j hj => ?_⟩, by simp⟩ -- round's end
        rcases b5 j hj with hx | hx
        · exact l j hx
        · omega
      · have k1 : c = 0 := by
          have : ¬ 0 < c := by simpa using hc
          omega
        subst k1
        have e5 : takeL (takeTmo a) n s1 = (xs, st) := by rw [m2]; simp [takeL]
        rw [e5]
        refine AW_exit (then_exit (then_exit (block_here ?_)))
        refine bend (end_normal rfl ⟨rfl, _, _, _, fun G' hg hn => ⟨Own.rsR (f := Tmo.cells) (o.upd (G := List.range H.next) ⟨hn, fun j hj hx => hg j (by simpa using hx) hj⟩ (fun j hj => by have := l j hj; simpa using this)) (by decide) (fun _ => rfl), RS.nils .., RS.nils ..⟩, T⟩)
end Go.Proofs.YtfhbdbjgmcopjaaDoor
