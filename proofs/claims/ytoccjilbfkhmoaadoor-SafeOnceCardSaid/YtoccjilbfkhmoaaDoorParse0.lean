/-
  What is read of bytes: certificates, transactions, blocks; the plain laws: what is written is read, what is read was written so.
-/
import Derived.Test.YtoccjilbfkhmoaaDoorBytes3
import Derived.Test.YtoccjilbfkhmoaaDoorAbsC
set_option linter.unusedVariables false
set_option linter.unusedSimpArgs false
namespace Go.Proofs.YtoccjilbfkhmoaaDoor
open Go Go.Abs Go.Proofs
set_option maxRecDepth 100000

/-- The next number of a certificate, not above. -/
def tnext (m : Nat) (s : St) : Nat × St := ((rnum s).1, if m < (rnum s).1 then rfail 110 (rnum s).2 else (rnum s).2)
def takeC1 (s : St) : (Nat × Nat × Nat × Nat) × St :=
  let a := tnext 2147483647 s
  let b := tnext 1048576 a.2
  let c := tnext 1073741824 b.2
  let d := tnext 1023 c.2
  ((a.1, b.1, c.1, d.1), d.2)
def takeC2 (s : St) : (Nat × Nat × Nat) × St :=
  let a := tnext 3 s
  let b := tnext 9 a.2
  let c := tnext 1023 b.2
  ((a.1, b.1, c.1), c.2)
def rawCert (s : St) : Cert × St :=
  let k := tnext 2 s
  let x := if k.1 = 0 then ((0, 0, 0, 0), k.2) else takeC1 k.2
  let y := if k.1 = 2 then takeC2 x.2 else ((0, 0, 0), x.2)
  (⟨k.1, x.1.1, x.1.2.1, x.1.2.2.1, y.1.1, y.1.2.1, BitVec.ofNat 32 x.1.2.2.2, BitVec.ofNat 32 y.1.2.2⟩, y.2)
def takeCert (s : St) : Cert × St :=
  let x := rawCert s
  let t := if x.1.ok then x.2 else rfail 110 x.2
  (if t.2 = 0 then x.1 else Cert.zero, t)
theorem tnext_ok {m n : Nat} (h : n ≤ m) (hm : m ≤ 4611686018427387904) (l : List UInt8) : tnext m (numB n ++ l, 0) = (n, (l, 0)) := by
  simp only [tnext, Go.Abs.rnum_ok (show n ≤ 4611686018427387904 by omega)]
  rw [if_neg (by omega)]
theorem tnext_inv {m : Nat} {s : St} (h : (tnext m s).2.2 = 0) : s.2 = 0 ∧ s.1 = numB (tnext m s).1 ++ (tnext m s).2.1 ∧ (tnext m s).1 ≤ m := by
  unfold tnext at h ⊢
  by_cases hm : m < (rnum s).1
  · simp only [if_pos hm] at h
    exact absurd h (rfail_ne (by decide))
  · simp only [if_neg hm] at h ⊢
    have := rnum_inv h
    exact ⟨this.1, this.2.1, by omega⟩
theorem takeCert_ok {c : Cert} (h : c.ok = true) (l : List UInt8) : takeCert (c.bytes ++ l, 0) = (c, (l, 0)) := by
  have hR := Cert.rng h
  have h1 := hR.block; have h2 := hR.view; have h3 := hR.round; have h4 := hR.height; have h5 := hR.author
  have hs : c.kind ≠ 0 → c.signers.toNat ≤ 1023 := fun hk => by
    have : setOk c.signers = true := by
      unfold Cert.ok at h
      rw [if_neg hk] at h
      split at h
      · simp [Cert.reg, Cert.base] at h; exact h.1.1.1.2
      · split at h
        · simp [Cert.fall, Cert.base] at h; exact h.1.1.1.2
        · cases h
    rw [setOk_num] at this; simpa using this
  have hraw : rawCert (c.bytes ++ l, 0) = (c, (l, 0)) := by
    rcases hR.kind with hk | hk | hk
    · have hz : c = Cert.zero := by
        unfold Cert.ok at h; rw [if_pos hk] at h; exact of_decide_eq_true h
      subst hz
      have e : (Cert.zero.bytes ++ l, (0 : Int)) = (numB 0 ++ l, 0) := by simp [Cert.bytes, Cert.nums, Cert.zero]
      unfold rawCert
      rw [e, tnext_ok (m := 2) (by omega) (by omega)]
      rfl
    · have hz : c.height = 0 ∧ c.author = 0 ∧ c.coin = 0#32 := by
        unfold Cert.ok at h
        rw [if_neg (by omega), if_pos hk] at h
        simp [Cert.reg] at h
        exact ⟨h.1.1.2, h.1.2, h.2⟩
      have e : (c.bytes ++ l, (0 : Int)) = (numB 1 ++ (numB c.block.toNat ++ (numB c.view.toNat ++ (numB c.round.toNat ++ (numB c.signers.toNat ++ l)))), 0) := by simp [Cert.bytes, Cert.nums, hk]
      unfold rawCert
      rw [e, tnext_ok (m := 2) (by omega) (by omega)]
      simp only [show ¬ (1 : Nat) = 0 by decide, show ¬ (1 : Nat) = 2 by decide, if_false, takeC1]
      rw [tnext_ok (m := 2147483647) (by omega) (by omega), tnext_ok (m := 1048576) (by omega) (by omega), tnext_ok (m := 1073741824) (by omega) (by omega), tnext_ok (m := 1023) (hs (by omega)) (by omega)]
      obtain ⟨k, b, v, r, hh, a, s, co⟩ := c
      simp only at hk hz h1 h2 h3 ⊢
      obtain ⟨z1, z2, z3⟩ := hz
      subst hk z1 z2 z3
      simp [Int.toNat_of_nonneg h1.1, Int.toNat_of_nonneg h2.1, Int.toNat_of_nonneg h3.1]
    · have hco : c.coin.toNat ≤ 1023 := by
        have : setOk c.coin = true := by
          unfold Cert.ok at h
          rw [if_neg (by omega), if_neg (by omega), if_pos hk] at h
          simp [Cert.fall] at h; exact h.2
        rw [setOk_num] at this; simpa using this
      have e : (c.bytes ++ l, (0 : Int)) = (numB 2 ++ (numB c.block.toNat ++ (numB c.view.toNat ++ (numB c.round.toNat ++ (numB c.signers.toNat ++ (numB c.height.toNat ++ (numB c.author.toNat ++ (numB c.coin.toNat ++ l))))))), 0) := by simp [Cert.bytes, Cert.nums, hk]
      unfold rawCert
      rw [e, tnext_ok (m := 2) (by omega) (by omega)]
      simp only [show ¬ (2 : Nat) = 0 by decide, if_false, if_true, takeC1, takeC2]
      rw [tnext_ok (m := 2147483647) (by omega) (by omega), tnext_ok (m := 1048576) (by omega) (by omega), tnext_ok (m := 1073741824) (by omega) (by omega), tnext_ok (m := 1023) (hs (by omega)) (by omega),
        tnext_ok (m := 3) (by omega) (by omega), tnext_ok (m := 9) (by omega) (by omega), tnext_ok (m := 1023) hco (by omega)]
      obtain ⟨k, b, v, r, hh, a, s, co⟩ := c
      simp only at hk h1 h2 h3 h4 h5 ⊢
      subst hk
      simp [Int.toNat_of_nonneg h1.1, Int.toNat_of_nonneg h2.1, Int.toNat_of_nonneg h3.1, Int.toNat_of_nonneg h4.1, Int.toNat_of_nonneg h5.1]
  unfold takeCert
  simp only [hraw, h, if_true]
theorem takeCert_inv {s : St} (h : (takeCert s).2.2 = 0) : s.2 = 0 ∧ (takeCert s).1.ok = true ∧ s.1 = (takeCert s).1.bytes ++ (takeCert s).2.1 := by
  unfold takeCert at h ⊢
  by_cases hok : (rawCert s).1.ok = true
  case neg =>
    simp only [hok] at h
    exact absurd h (rfail_ne (by decide))
  simp only [hok, if_true] at h ⊢
  rw [if_pos h]
  refine ⟨?_, hok, ?_⟩
  all_goals
    revert h hok
    unfold rawCert
    simp only
    intro hok h
    by_cases k0 : (tnext 2 s).1 = 0
    · have k2 : ¬ (tnext 2 s).1 = 2 := by omega
      simp only [if_pos k0, if_neg k2] at h ⊢
      have := tnext_inv h
      first
      | exact this.1
      | (rw [this.2.1]; simp [Cert.bytes, Cert.nums, k0])
    · by_cases k2 : (tnext 2 s).1 = 2
      · simp only [if_neg k0, if_pos k2, takeC1, takeC2] at h ⊢
        have a1 := tnext_inv h
        have a2 := tnext_inv a1.1
        have a3 := tnext_inv a2.1
        have a4 := tnext_inv a3.1
        have a5 := tnext_inv a4.1
        have a6 := tnext_inv a5.1
        have a7 := tnext_inv a6.1
        have a8 := tnext_inv a7.1
        first
        | exact a8.1
        | (rw [a8.2.1, a7.2.1, a6.2.1, a5.2.1, a4.2.1, a3.2.1, a2.2.1, a1.2.1]
           have b5 := a4.2.2
           have b1 := a1.2.2
           simp only [Cert.bytes, Cert.nums, k2]
           simp [Nat.mod_eq_of_lt (show _ < 4294967296 from Nat.lt_of_le_of_lt b5 (by decide)), Nat.mod_eq_of_lt (show _ < 4294967296 from Nat.lt_of_le_of_lt b1 (by decide))])
      · simp only [if_neg k0, if_neg k2, takeC1] at h ⊢
        have a4 := tnext_inv h
        have a5 := tnext_inv a4.1
        have a6 := tnext_inv a5.1
        have a7 := tnext_inv a6.1
        have a8 := tnext_inv a7.1
        have k1 : (tnext 2 s).1 = 1 := by have := a8.2.2; omega
        first
        | exact a8.1
        | (rw [a8.2.1, a7.2.1, a6.2.1, a5.2.1, a4.2.1]
           have b5 := a4.2.2
           simp only [Cert.bytes, Cert.nums, k1]
           simp [Nat.mod_eq_of_lt (show _ < 4294967296 from Nat.lt_of_le_of_lt b5 (by decide))])
def rawTx (k : Nat) (s : St) : Tx × St :=
  let n := rnum s
  let f := rtext n.2
  if k = 1 then
    let a := rtext f.2
    let b := rnum a.2
    (⟨k, f.1, a.1, [], [], b.1, n.1⟩, b.2)
  else
    let a := rtext f.2
    let b := rtext a.2
    (⟨k, f.1, [], a.1, b.1, 0, n.1⟩, b.2)
def takeTx (s : St) : Tx × St :=
  if (rnum s).1 = 1 ∨ (rnum s).1 = 2 then
    let y := rawTx (rnum s).1 (rnum s).2
    let t := if y.1.ok then y.2 else rfail 80 y.2
    (if t.2 = 0 then y.1 else Tx.zero, t)
  else (Tx.zero, rfail 80 (rnum s).2)
theorem takeTx_ok {t : Tx} (h : t.ok = true) (l : List UInt8) : takeTx (t.bytes ++ l, 0) = (t, (l, 0)) := by
  have hR := Tx.rng h
  have i1 := hR.nonce; have i2 := hR.amount; have i3 := hR.src; have i4 := hR.dst; have i5 := hR.key; have i6 := hR.val
  rcases hR.kind with hk | hk
  · have hz : t.key = [] ∧ t.val = [] := by
      unfold Tx.ok at h; rw [if_pos hk] at h; simp [Tx.moveOk] at h; exact ⟨h.1.2, h.2⟩
    have e : (t.bytes ++ l, (0 : Int)) = (numB 1 ++ (numB t.nonce.toNat ++ (textB t.src ++ (textB t.dst ++ (numB t.amount.toNat ++ l)))), 0) := by simp [Tx.bytes, hk]
    have hraw : rawTx 1 (numB t.nonce.toNat ++ (textB t.src ++ (textB t.dst ++ (numB t.amount.toNat ++ l))), 0) = (t, (l, 0)) := by
      unfold rawTx
      simp only [Go.Abs.rnum_ok (show t.nonce.toNat ≤ 4611686018427387904 by omega), rtext_ok (show t.src.length ≤ 65536 by omega), rtext_ok (show t.dst.length ≤ 65536 by omega), Go.Abs.rnum_ok (show t.amount.toNat ≤ 4611686018427387904 by omega), if_true]
      obtain ⟨k, a, b, c, d, f, g⟩ := t
      simp only at hk hz i1 i2 ⊢
      obtain ⟨rfl, rfl⟩ := hz
      subst hk
      simp [Int.toNat_of_nonneg i1.1, Int.toNat_of_nonneg i2.1]
    unfold takeTx
    rw [e, Go.Abs.rnum_ok (by omega), if_pos (.inl rfl)]
    simp only [hraw, h, if_true]
  · have hz : t.dst = [] ∧ t.amount = 0 := by
      unfold Tx.ok at h; rw [if_neg (by omega), if_pos hk] at h; simp [Tx.putOk] at h; exact ⟨h.1.2, h.2⟩
    have e : (t.bytes ++ l, (0 : Int)) = (numB 2 ++ (numB t.nonce.toNat ++ (textB t.src ++ (textB t.key ++ (textB t.val ++ l)))), 0) := by simp [Tx.bytes, hk]
    have hraw : rawTx 2 (numB t.nonce.toNat ++ (textB t.src ++ (textB t.key ++ (textB t.val ++ l))), 0) = (t, (l, 0)) := by
      unfold rawTx
      simp only [Go.Abs.rnum_ok (show t.nonce.toNat ≤ 4611686018427387904 by omega), rtext_ok (show t.src.length ≤ 65536 by omega), rtext_ok (show t.key.length ≤ 65536 by omega), rtext_ok (show t.val.length ≤ 65536 by omega), show ¬ (2 : Nat) = 1 by decide, if_false]
      obtain ⟨k, a, b, c, d, f, g⟩ := t
      simp only at hk hz i1 i2 ⊢
      obtain ⟨rfl, rfl⟩ := hz
      subst hk
      simp [Int.toNat_of_nonneg i1.1]
    unfold takeTx
    rw [e, Go.Abs.rnum_ok (by omega), if_pos (.inr rfl)]
    simp only [hraw, h, if_true]
theorem takeTx_inv {s : St} (h : (takeTx s).2.2 = 0) : s.2 = 0 ∧ (takeTx s).1.ok = true ∧ s.1 = (takeTx s).1.bytes ++ (takeTx s).2.1 := by
  unfold takeTx at h ⊢
  by_cases hk : (rnum s).1 = 1 ∨ (rnum s).1 = 2
  case neg =>
    simp only [if_neg hk] at h
    exact absurd h (rfail_ne (by decide))
  simp only [if_pos hk] at h ⊢
  by_cases hok : (rawTx (rnum s).1 (rnum s).2).1.ok = true
  case neg =>
    simp only [hok] at h
    exact absurd h (rfail_ne (by decide))
  simp only [hok, if_true] at h ⊢
  rw [if_pos h]
  refine ⟨?_, hok, ?_⟩
  all_goals
    clear hok
    revert h
    unfold rawTx
    simp only
    intro h
    by_cases k1 : (rnum s).1 = 1
    · simp only [if_pos k1] at h ⊢
      have a1 := rnum_inv h
      have a2 := rtext_inv a1.1
      have a3 := rtext_inv a2.1
      have a4 := rnum_inv a3.1
      have a5 := rnum_inv a4.1
      first
      | exact a5.1
      | (rw [a5.2.1, a4.2.1, a3.2.1, a2.2.1, a1.2.1]
         simp [Tx.bytes, k1])
    · simp only [if_neg k1] at h ⊢
      have a1 := rtext_inv h
      have a2 := rtext_inv a1.1
      have a3 := rtext_inv a2.1
      have a4 := rnum_inv a3.1
      have a5 := rnum_inv a4.1
      have k2 : (rnum s).1 = 2 := by omega
      first
      | exact a5.1
      | (rw [a5.2.1, a4.2.1, a3.2.1, a2.2.1, a1.2.1]
         simp [Tx.bytes, k2])
def takeTmo (v : Int) (s : St) : Tmo × St :=
  (⟨(rsmall s).1, v, (takeCert (rsmall s).2).1⟩, (takeCert (rsmall s).2).2)
def Blk.zero : Blk := ⟨0, 0, 0, 0, Cert.zero, [], []⟩
/-- What a block's four numbers are read as. -/
def rawBlk (s : St) : Blk × St :=
  let a := rsmall s
  let b := rsmall a.2
  let c := rsmall b.2
  let d := rsmall c.2
  let e := takeCert d.2
  let n := rmost 10 e.2
  let p := takeL (takeTmo a.1) n.1 n.2
  let m := rmost 8 p.2
  let t := takeL takeTx m.1 m.2
  (⟨a.1, b.1, c.1, d.1, e.1, p.1, t.1⟩, t.2)
def takeBlk (s : St) : Blk × St :=
  if (rawBlk s).2.2 = 0 then (if (rawBlk s).1.err = 0 then rawBlk s else (Blk.zero, rfail (rawBlk s).1.err (rawBlk s).2)) else (Blk.zero, (rawBlk s).2)
theorem Blk.tmo_view {b : Blk} (h : b.err = 0) : ∀ t ∈ b.proof, t.view = b.view := by
  unfold Blk.err at h
  split at h
  case isFalse => cases h
  split at h
  case isFalse => cases h
  split at h
  case isFalse => cases h
  rename_i h3
  by_cases hh : b.height = 1
  · rw [proofR_eq hh] at h3
    simp only [Bool.and_eq_true, decide_eq_true_eq] at h3
    intro t ht
    obtain ⟨i, hi, rfl⟩ := List.getElem_of_mem ht
    have h4 := List.all_eq_true.1 h3.2 i (by simpa using hi)
    rw [pAt_eq hi] at h4
    simp only [Bool.and_eq_true, decide_eq_true_eq] at h4
    exact h4.1.2
  · have : b.proof = [] := by
      have h4 : b.proof.length = 0 := by simpa [Blk.proofOk, hh] using h3
      exact List.length_eq_zero_iff.1 h4
    rw [this]; simp
theorem takeBlk_ok {b : Blk} (h : b.err = 0) (l : List UInt8) : takeBlk (b.bytes ++ l, 0) = (b, (l, 0)) := by
  have hR := Blk.rng h
  have i1 := hR.view; have i2 := hR.round; have i3 := hR.height; have i4 := hR.author
  have hraw : rawBlk (b.bytes ++ l, 0) = (b, (l, 0)) := by
    have e : (b.bytes ++ l, (0 : Int)) = (numB b.view.toNat ++ (numB b.round.toNat ++ (numB b.height.toNat ++ (numB b.author.toNat ++ (b.parent.bytes ++ (numB b.proof.length ++ (b.proof.flatMap Tmo.bytes ++ (numB b.txs.length ++ (b.txs.flatMap Tx.bytes ++ l)))))))), 0) := by simp [Blk.bytes]
    unfold rawBlk
    rw [e]
    simp only [rsmall_ok (show b.view.toNat ≤ 1099511627776 by omega), rsmall_ok (show b.round.toNat ≤ 1099511627776 by omega), rsmall_ok (show b.height.toNat ≤ 1099511627776 by omega), rsmall_ok (show b.author.toNat ≤ 1099511627776 by omega),
      takeCert_ok hR.parent, rmost_ok hR.proof (by decide)]
    have hv := Blk.tmo_view h
    rw [Int.toNat_of_nonneg i1.1]
    have hp : takeL (takeTmo b.view) b.proof.length (b.proof.flatMap Tmo.bytes ++ (numB b.txs.length ++ (b.txs.flatMap Tx.bytes ++ l)), 0) = (b.proof, (numB b.txs.length ++ (b.txs.flatMap Tx.bytes ++ l), 0)) := by
      refine takeL_ok b.proof _ fun t ht l => ?_
      have hT := hR.tmos t ht
      have e : (t.bytes ++ l, (0 : Int)) = (numB t.signer.toNat ++ (t.high.bytes ++ l), 0) := by simp [Tmo.bytes]
      unfold takeTmo
      rw [e, rsmall_ok (by omega)]
      simp only [takeCert_ok hT.2]
      obtain ⟨x, y, z⟩ := t
      have := hv _ ht
      simp only at this hT ⊢
      rw [Int.toNat_of_nonneg hT.1.1, this]
    rw [hp]
    simp only [rmost_ok hR.txs (by decide)]
    rw [takeL_ok b.txs l fun t ht l => takeTx_ok (hR.each t ht) l]
    obtain ⟨a, c, d, f, g, p, t⟩ := b
    simp only at i2 i3 i4 ⊢
    simp [Int.toNat_of_nonneg i2.1, Int.toNat_of_nonneg i3.1, Int.toNat_of_nonneg i4.1]
  unfold takeBlk
  rw [hraw]
  simp [h]
theorem takeBlk_inv {s : St} (h : (takeBlk s).2.2 = 0) : s.2 = 0 ∧ (takeBlk s).1.err = 0 ∧ s.1 = (takeBlk s).1.bytes ++ (takeBlk s).2.1 := by
  unfold takeBlk at h ⊢
  by_cases h0 : (rawBlk s).2.2 = 0
  case neg => simp only [if_neg h0] at h; exact absurd h h0
  simp only [if_pos h0] at h ⊢
  by_cases he : (rawBlk s).1.err = 0
  case neg => simp only [if_neg he] at h; exact absurd h (rfail_ne he)
  simp only [if_pos he] at h ⊢
  have hR := Blk.rng he
  have hv := Blk.tmo_view he
  refine ⟨?_, he, ?_⟩
  all_goals
    have i1 := hR.view; have i2 := hR.round; have i3 := hR.height; have i4 := hR.author; have hT := hR.tmos
    clear he hv hR h
    revert h0 i1 i2 i3 i4 hT
    unfold rawBlk
    simp only
    intro h i1 i2 i3 i4 hT
    have a1 := takeL_inv (f := takeTx) (by' := Tx.bytes) (p := fun _ => True) (fun s _ h => ⟨(takeTx_inv h).1, (takeTx_inv h).2.2⟩) _ _ (fun _ _ => trivial) h
    have a2 := rmost_inv a1.1
    have a3 := takeL_inv (f := takeTmo (rsmall s).1) (by' := Tmo.bytes) (p := fun t => 0 ≤ t.signer ∧ t.signer ≤ 9) (fun s hp h => by
      have h1 := takeCert_inv (s := (rsmall s).2) h
      have h2 := rsmall_inv (s := s) h1.1 (by have := hp.2; simp only [takeTmo] at this; omega)
      refine ⟨h2.1, ?_⟩
      simp only [takeTmo, Tmo.bytes, Int.toNat_natCast, List.append_assoc]
      rw [← h1.2.2]
      exact h2.2) _ _ (fun t ht => (hT t ht).1) a2.1
    have a4 := rmost_inv a3.1
    have a5 := takeCert_inv a4.1
    have a6 := rsmall_inv a5.1 (by omega)
    have a7 := rsmall_inv a6.1 (by omega)
    have a8 := rsmall_inv a7.1 (by omega)
    have a9 := rsmall_inv a8.1 (by omega)
    first
    | exact a9.1
    | (unfold Blk.bytes
       simp only [Int.toNat_natCast, takeL_len, List.append_assoc]
       rw [← a1.2, ← a2.2.1, ← a3.2, ← a4.2.1, ← a5.2.2, ← a6.2, ← a7.2, ← a8.2]
       exact a9.2)
/-- What is parsed of all bytes, and the error. -/
def parseBlk (l : List UInt8) : Blk × Int :=
  if rdone (takeBlk (l, 0)).2 = 0 then ((takeBlk (l, 0)).1, 0) else (Blk.zero, rdone (takeBlk (l, 0)).2)
theorem rdone_zero {s : St} (h : rdone s = 0) : s.2 = 0 ∧ s.1 = [] := by
  unfold rdone at h
  split at h
  · cases h
  · rename_i h1
    refine ⟨h, ?_⟩
    apply Classical.byContradiction
    intro h2
    exact h1 ⟨h, h2⟩
/-- A block comes back from its bytes. -/
theorem parseBlk_ok {b : Blk} (h : b.err = 0) : parseBlk b.bytes = (b, 0) := by
  have := takeBlk_ok h []
  rw [List.append_nil] at this
  unfold parseBlk
  rw [this]
  simp [rdone]
/-- What is parsed is written so. -/
theorem parseBlk_inv {l : List UInt8} (h : (parseBlk l).2 = 0) : (parseBlk l).1.err = 0 ∧ (parseBlk l).1.bytes = l := by
  unfold parseBlk at h ⊢
  by_cases h0 : rdone (takeBlk (l, 0)).2 = 0
  · rw [if_pos h0]
    have h1 := rdone_zero h0
    have h2 := takeBlk_inv h1.1
    refine ⟨h2.2.1, ?_⟩
    have := h2.2.2
    rw [h1.2, List.append_nil] at this
    exact this.symm
  · rw [if_neg h0] at h
    exact absurd h h0
theorem parseBlk_bad {l : List UInt8} (h : (parseBlk l).2 ≠ 0) : (parseBlk l).1 = Blk.zero := by
  unfold parseBlk at h ⊢
  by_cases h0 : rdone (takeBlk (l, 0)).2 = 0
  · rw [if_pos h0] at h; exact absurd rfl h
  · rw [if_neg h0]
end Go.Proofs.YtoccjilbfkhmoaaDoor
