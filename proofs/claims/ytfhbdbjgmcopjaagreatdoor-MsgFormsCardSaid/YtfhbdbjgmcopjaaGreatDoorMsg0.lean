/-
  Messages: which may be, their bytes, what is read of bytes; the plain laws: what is written is read, what is read was written so.
-/
import Derived.Test.YtfhbdbjgmcopjaaGreatDoorRead7
set_option linter.unusedVariables false
set_option linter.unusedSimpArgs false
namespace Go.Proofs.YtfhbdbjgmcopjaaGreatDoor
open Go Go.Abs Go.Proofs
set_option maxRecDepth 100000

def Tmo.zero : Tmo := ⟨0, 0, Cert.zero⟩
/-- A message. -/
structure Msg where
  kind : Int
  signer : Int
  view : Int
  n : Int
  set : BitVec 32
  cert : Cert
  tmo : Tmo
  proof : List Tmo
  blk : Blk
  tx : Tx
  deriving DecidableEq
def Msg.zero : Msg := ⟨0, 0, 0, 0, 0#32, Cert.zero, Tmo.zero, [], Blk.zero, Tx.zero⟩
/-- What a message of a kind holds. -/
inductive MC where
  | blk | cert | tmo | proof | tx | nums | none
  deriving DecidableEq
def mclass (k : Int) : MC :=
  if k = 1 ∨ k = 9 then .blk else if k = 2 ∨ k = 5 ∨ k = 10 then .cert else if k = 3 then .tmo else if k = 4 then .proof else if k = 11 then .tx else if k = 6 ∨ k = 12 ∨ k = 7 ∨ k = 8 then .nums else .none
/-- Nothing but what its kind has. -/
def Msg.only (m : Msg) : Msg :=
  match mclass m.kind with
  | .blk => { Msg.zero with kind := m.kind, blk := m.blk }
  | .cert => { Msg.zero with kind := m.kind, cert := m.cert }
  | .tmo => { Msg.zero with kind := m.kind, tmo := m.tmo }
  | .proof => { Msg.zero with kind := m.kind, proof := m.proof }
  | .tx => { Msg.zero with kind := m.kind, tx := m.tx }
  | .nums => if m.kind = 7 then { Msg.zero with kind := m.kind, view := m.view, set := m.set } else if m.kind = 8 then { Msg.zero with kind := m.kind, signer := m.signer, n := m.n } else { Msg.zero with kind := m.kind, signer := m.signer, view := m.view }
  | .none => { Msg.zero with kind := m.kind }
def certified (k : Int) (c : Cert) : Bool :=
  c.ok && !decide (c.kind = 0) && (if k = 2 then decide (pop c.signers = 1) && decide (c.coin = 0#32) else if k = 5 then decide (c.kind = 2) && decide (c.height = 3) && decide (c.coin = 0#32) else decide (c.kind = 1) || c.endorsed)
def proofsOk (l : List Tmo) : Bool :=
  match l with
  | [] => false
  | t :: r => (List.range (t :: r).length).all (pAt t.view (t :: r)) && decide ((t :: r).length ≤ 10)
def Msg.numsOk (m : Msg) : Bool :=
  if m.kind = 7 then inR m.view 1 1048576 && !decide (m.set = 0#32) && setOk m.set else if m.kind = 8 then inR m.signer 0 9 && inR m.n 1 2147483647 else inR m.signer 0 9 && inR m.view 1 1048576
/-- Its body may be. -/
def Msg.body (m : Msg) : Bool :=
  match mclass m.kind with
  | .blk => decide (m.blk.err = 0)
  | .cert => certified m.kind m.cert
  | .tmo => m.tmo.ok
  | .proof => proofsOk m.proof
  | .tx => m.tx.ok
  | .nums => m.numsOk
  | .none => false
/-- It may be one. -/
def Msg.ok (m : Msg) : Bool := m.body && decide (m = m.only)
def Msg.bodyBytes (m : Msg) : List UInt8 :=
  match mclass m.kind with
  | .blk => m.blk.bytes
  | .cert => m.cert.bytes
  | .tmo => numB m.tmo.signer.toNat ++ (numB m.tmo.view.toNat ++ m.tmo.high.bytes)
  | .proof => numB ((m.proof.headD Tmo.zero).view).toNat ++ (numB m.proof.length ++ m.proof.flatMap Tmo.bytes)
  | .tx => m.tx.bytes
  | .nums => if m.kind = 7 then numB m.view.toNat ++ numB m.set.toNat else if m.kind = 8 then numB m.signer.toNat ++ numB m.n.toNat else numB m.signer.toNat ++ numB m.view.toNat
  | .none => []
def Msg.bytes (m : Msg) : List UInt8 := numB m.kind.toNat ++ m.bodyBytes

/-- A body is read. -/
def fillMsg (k : Int) (s : St) : Msg × St :=
  match mclass k with
  | .blk => ({ Msg.zero with kind := k, blk := (takeBlk s).1 }, (takeBlk s).2)
  | .cert => ({ Msg.zero with kind := k, cert := (takeCert s).1 }, (takeCert s).2)
  | .tmo =>
    let a := rsmall s
    let b := rsmall a.2
    let c := takeCert b.2
    ({ Msg.zero with kind := k, tmo := ⟨a.1, b.1, c.1⟩ }, c.2)
  | .proof =>
    let a := rsmall s
    let n := rmost 10 a.2
    let p := takeL (takeTmo a.1) n.1 n.2
    ({ Msg.zero with kind := k, proof := p.1 }, p.2)
  | .tx => ({ Msg.zero with kind := k, tx := (takeTx s).1 }, (takeTx s).2)
  | .nums =>
    let a := rsmall s
    let b := rsmall a.2
    (if k = 7 then { Msg.zero with kind := k, view := a.1, set := BitVec.ofNat 32 (min b.1 2147483648) } else if k = 8 then { Msg.zero with kind := k, signer := a.1, n := b.1 } else { Msg.zero with kind := k, signer := a.1, view := b.1 }, b.2)
  | .none => ({ Msg.zero with kind := k }, rfail 140 s)
def takeMsg (s : St) : Msg × St := fillMsg (rsmall s).1 (rsmall s).2
/-- What is parsed, and the error. -/
def parseMsg (l : List UInt8) : Msg × Int :=
  if 65536 < l.length then (Msg.zero, 2) else
  if rdone (takeMsg (l, 0)).2 ≠ 0 ∧ rdone (takeMsg (l, 0)).2 ≠ 32 then (Msg.zero, rdone (takeMsg (l, 0)).2) else
  if (takeMsg (l, 0)).1.ok = false then (Msg.zero, 140) else
  if rdone (takeMsg (l, 0)).2 ≠ 0 then (Msg.zero, rdone (takeMsg (l, 0)).2) else ((takeMsg (l, 0)).1, 0)

theorem mclass_cases (k : Int) : (mclass k = .blk ∧ (k = 1 ∨ k = 9)) ∨ (mclass k = .cert ∧ (k = 2 ∨ k = 5 ∨ k = 10)) ∨ (mclass k = .tmo ∧ k = 3) ∨ (mclass k = .proof ∧ k = 4) ∨ (mclass k = .tx ∧ k = 11) ∨ (mclass k = .nums ∧ (k = 6 ∨ k = 12 ∨ k = 7 ∨ k = 8)) ∨ (mclass k = .none ∧ ¬ (1 ≤ k ∧ k ≤ 12)) := by
  unfold mclass
  by_cases h1 : k = 1 ∨ k = 9
  · exact .inl ⟨by rw [if_pos h1], h1⟩
  by_cases h2 : k = 2 ∨ k = 5 ∨ k = 10
  · exact .inr (.inl ⟨by rw [if_neg h1, if_pos h2], h2⟩)
  by_cases h3 : k = 3
  · exact .inr (.inr (.inl ⟨by rw [if_neg h1, if_neg h2, if_pos h3], h3⟩))
  by_cases h4 : k = 4
  · exact .inr (.inr (.inr (.inl ⟨by rw [if_neg h1, if_neg h2, if_neg h3, if_pos h4], h4⟩)))
  by_cases h5 : k = 11
  · exact .inr (.inr (.inr (.inr (.inl ⟨by rw [if_neg h1, if_neg h2, if_neg h3, if_neg h4, if_pos h5], h5⟩))))
  by_cases h6 : k = 6 ∨ k = 12 ∨ k = 7 ∨ k = 8
  · exact .inr (.inr (.inr (.inr (.inr (.inl ⟨by rw [if_neg h1, if_neg h2, if_neg h3, if_neg h4, if_neg h5, if_pos h6], h6⟩)))))
  · exact .inr (.inr (.inr (.inr (.inr (.inr ⟨by rw [if_neg h1, if_neg h2, if_neg h3, if_neg h4, if_neg h5, if_neg h6], by omega⟩)))))
theorem Msg.kind_rng {m : Msg} (h : m.body = true) : 1 ≤ m.kind ∧ m.kind ≤ 12 := by
  unfold Msg.body at h
  rcases mclass_cases m.kind with ⟨e, h1⟩ | ⟨e, h1⟩ | ⟨e, h1⟩ | ⟨e, h1⟩ | ⟨e, h1⟩ | ⟨e, h1⟩ | ⟨e, h1⟩
  case inr.inr.inr.inr.inr.inr => rw [e] at h; cases h
  all_goals omega
theorem tmo_rng {t : Tmo} (h : t.ok = true) : (0 ≤ t.signer ∧ t.signer ≤ 9) ∧ (1 ≤ t.view ∧ t.view ≤ 1048576) ∧ t.high.ok = true := by
  unfold Tmo.ok openS at h
  simp only [Bool.and_eq_true, inR, decide_eq_true_eq] at h
  exact ⟨h.1.1, h.1.2, h.2.1⟩
theorem certified_ok {k : Int} {c : Cert} (h : certified k c = true) : c.ok = true := by
  unfold certified at h
  simp only [Bool.and_eq_true] at h
  exact h.1.1
theorem proofsOk_at {l : List Tmo} (h : proofsOk l = true) : l ≠ [] ∧ l.length ≤ 10 ∧ ∀ t ∈ l, t.ok = true ∧ t.view = (l.headD Tmo.zero).view := by
  cases l with
  | nil => cases h
  | cons t r =>
    simp only [proofsOk, Bool.and_eq_true, decide_eq_true_eq] at h
    refine ⟨by simp, h.2, fun x hx => ?_⟩
    obtain ⟨i, hi, rfl⟩ := List.getElem_of_mem hx
    have h4 := List.all_eq_true.1 h.1 i (by simpa using hi)
    rw [pAt_eq hi] at h4
    simp only [Bool.and_eq_true, decide_eq_true_eq] at h4
    exact ⟨h4.1.1, h4.1.2⟩
theorem set_num {s : BitVec 32} (h : setOk s = true) : s.toNat ≤ 1023 := by rw [setOk_num] at h; simpa using h
/-- What is written is read. -/
theorem takeMsg_ok {m : Msg} (h : m.ok = true) (l : List UInt8) : takeMsg (m.bytes ++ l, 0) = (m, (l, 0)) := by
  unfold Msg.ok at h
  simp only [Bool.and_eq_true, decide_eq_true_eq] at h
  obtain ⟨hb, ho⟩ := h
  have hk := Msg.kind_rng hb
  have e : (m.bytes ++ l, (0 : Int)) = (numB m.kind.toNat ++ (m.bodyBytes ++ l), 0) := by simp [Msg.bytes]
  unfold takeMsg
  rw [e, rsmall_ok (by omega)]
  simp only [Int.toNat_of_nonneg (show 0 ≤ m.kind by omega)]
  unfold Msg.body at hb
  unfold Msg.only at ho
  unfold fillMsg Msg.bodyBytes
  rcases mclass_cases m.kind with ⟨e, h1⟩ | ⟨e, h1⟩ | ⟨e, h1⟩ | ⟨e, h1⟩ | ⟨e, h1⟩ | ⟨e, h1⟩ | ⟨e, h1⟩ <;> simp only [e] at hb ho ⊢
  · have hb : m.blk.err = 0 := by simpa using hb
    rw [takeBlk_ok hb]
    exact congrArg (·, (l, (0 : Int))) ho.symm
  · rw [takeCert_ok (certified_ok hb)]
    exact congrArg (·, (l, (0 : Int))) ho.symm
  · have ht := tmo_rng hb
    simp only [List.append_assoc]
    rw [rsmall_ok (by omega)]
    simp only []
    rw [rsmall_ok (by omega)]
    simp only [takeCert_ok ht.2.2, Int.toNat_of_nonneg ht.1.1, Int.toNat_of_nonneg (show 0 ≤ m.tmo.view by omega)]
    exact congrArg (·, (l, (0 : Int))) ho.symm
  · have ht := proofsOk_at hb
    have hv : 1 ≤ (m.proof.headD Tmo.zero).view ∧ (m.proof.headD Tmo.zero).view ≤ 1048576 := by
      cases hp : m.proof with
      | nil => exact absurd hp ht.1
      | cons t r => exact (tmo_rng (ht.2.2 t (by simp [hp])).1).2.1
    simp only [List.append_assoc]
    rw [rsmall_ok (by omega)]
    simp only []
    rw [rmost_ok ht.2.1 (by decide)]
    simp only []
    rw [Int.toNat_of_nonneg (show 0 ≤ (m.proof.headD Tmo.zero).view by omega)]
    rw [takeL_ok (by' := Tmo.bytes) m.proof l fun t hm l => by
      have hT := tmo_rng (ht.2.2 t hm).1
      have e : (t.bytes ++ l, (0 : Int)) = (numB t.signer.toNat ++ (t.high.bytes ++ l), 0) := by simp [Tmo.bytes]
      unfold takeTmo
      rw [e, rsmall_ok (by omega)]
      simp only [takeCert_ok hT.2.2]
      have := (ht.2.2 t hm).2
      obtain ⟨x, y, z⟩ := t
      simp only at this hT ⊢
      rw [Int.toNat_of_nonneg hT.1.1, this]]
    exact congrArg (·, (l, (0 : Int))) ho.symm
  · rw [takeTx_ok hb]
    exact congrArg (·, (l, (0 : Int))) ho.symm
  · unfold Msg.numsOk at hb
    by_cases k7 : m.kind = 7
    · simp only [if_pos k7, inR, Bool.and_eq_true, decide_eq_true_eq] at hb ho ⊢
      have hs := set_num hb.2
      simp only [List.append_assoc]
      rw [rsmall_ok (by omega)]
      simp only []
      rw [rsmall_ok (by omega)]
      simp only [Int.toNat_of_nonneg (show 0 ≤ m.view by omega)]
      rw [Nat.min_eq_left (by omega), BitVec.ofNat_toNat, BitVec.setWidth_eq]
      exact congrArg (·, (l, (0 : Int))) ho.symm
    · by_cases k8 : m.kind = 8
      · simp only [if_neg k7, if_pos k8, inR, Bool.and_eq_true, decide_eq_true_eq] at hb ho ⊢
        simp only [List.append_assoc]
        rw [rsmall_ok (by omega)]
        simp only []
        rw [rsmall_ok (by omega)]
        simp only [Int.toNat_of_nonneg (show 0 ≤ m.signer by omega), Int.toNat_of_nonneg (show 0 ≤ m.n by omega)]
        exact congrArg (·, (l, (0 : Int))) ho.symm
      · simp only [if_neg k7, if_neg k8, inR, Bool.and_eq_true, decide_eq_true_eq] at hb ho ⊢
        simp only [List.append_assoc]
        rw [rsmall_ok (by omega)]
        simp only []
        rw [rsmall_ok (by omega)]
        simp only [Int.toNat_of_nonneg (show 0 ≤ m.signer by omega), Int.toNat_of_nonneg (show 0 ≤ m.view by omega)]
        exact congrArg (·, (l, (0 : Int))) ho.symm
  · cases hb
/-- What is read, and may be, was written so. -/
theorem takeMsg_inv {s : St} (h : (takeMsg s).2.2 = 0) (hok : (takeMsg s).1.ok = true) : s.2 = 0 ∧ s.1 = (takeMsg s).1.bytes ++ (takeMsg s).2.1 := by
  unfold Msg.ok at hok
  simp only [Bool.and_eq_true] at hok
  have hb := hok.1
  clear hok
  unfold takeMsg at h hb ⊢
  have hkk : ∀ k t, (fillMsg k t).1.kind = k := fun k t => by
    unfold fillMsg
    split <;> first | rfl | (simp only []; split <;> first | rfl | (split <;> rfl))
  have hk := Msg.kind_rng hb
  rw [hkk] at hk
  have fin : ∀ {b : List UInt8} {t : List UInt8}, (rsmall s).2.2 = 0 → (rsmall s).2.1 = b ++ t → s.2 = 0 ∧ s.1 = numB (rsmall s).1 ++ b ++ t := fun h1 h2 => by
    have := rsmall_inv h1 (by omega)
    exact ⟨this.1, by rw [this.2, h2, List.append_assoc]⟩
  unfold Msg.bytes
  rw [hkk, Int.toNat_natCast]
  generalize hK : ((rsmall s).1 : Int) = K at *
  generalize hS : (rsmall s).2 = S at *
  suffices hh : S.2 = 0 ∧ S.1 = (fillMsg K S).1.bodyBytes ++ (fillMsg K S).2.1 from fin hh.1 hh.2
  clear fin
  unfold Msg.body at hb
  unfold Msg.bodyBytes
  rw [hkk] at hb ⊢
  unfold fillMsg at h hb ⊢
  rcases mclass_cases K with ⟨e, h1⟩ | ⟨e, h1⟩ | ⟨e, h1⟩ | ⟨e, h1⟩ | ⟨e, h1⟩ | ⟨e, h1⟩ | ⟨e, h1⟩ <;> simp only [e] at h hb ⊢
  · have := takeBlk_inv h
    exact ⟨this.1, this.2.2⟩
  · have := takeCert_inv h
    exact ⟨this.1, this.2.2⟩
  · have ht := tmo_rng hb
    have a1 := takeCert_inv h
    have a2 := rsmall_inv a1.1 (by have := ht.2.1; simp only at this; omega)
    have a3 := rsmall_inv a2.1 (by have := ht.1; simp only at this; omega)
    refine ⟨a3.1, ?_⟩
    simp only [Int.toNat_natCast, List.append_assoc]
    rw [← a1.2.2, ← a2.2]
    exact a3.2
  · have ht := proofsOk_at hb
    have a1 := takeL_inv (f := takeTmo (rsmall S).1) (by' := Tmo.bytes) (p := fun t => 0 ≤ t.signer ∧ t.signer ≤ 9) (fun s hp h => by
      have h1 := takeCert_inv (s := (rsmall s).2) h
      have h2 := rsmall_inv (s := s) h1.1 (by have := hp.2; simp only [takeTmo] at this; omega)
      refine ⟨h2.1, ?_⟩
      simp only [takeTmo, Tmo.bytes, Int.toNat_natCast, List.append_assoc]
      rw [← h1.2.2]
      exact h2.2) _ _ (fun t hm => (tmo_rng (ht.2.2 t hm).1).1) h
    have a2 := rmost_inv a1.1
    have hv : ((takeL (takeTmo (rsmall S).1) (rmost 10 (rsmall S).2).1 (rmost 10 (rsmall S).2).2).1.headD Tmo.zero).view = (rsmall S).1 := by
      have hne := ht.1
      have hall := takeL_all (f := takeTmo (rsmall S).1) (p := fun t => t.view = (rsmall S).1) (fun s => rfl) (rmost 10 (rsmall S).2).1 (rmost 10 (rsmall S).2).2
      generalize (takeL (takeTmo (rsmall S).1) (rmost 10 (rsmall S).2).1 (rmost 10 (rsmall S).2).2).1 = L at *
      cases L with
      | nil => exact absurd rfl hne
      | cons t r => exact hall t (by simp)
    have hr : 1 ≤ ((takeL (takeTmo (rsmall S).1) (rmost 10 (rsmall S).2).1 (rmost 10 (rsmall S).2).2).1.headD Tmo.zero).view ∧ ((takeL (takeTmo (rsmall S).1) (rmost 10 (rsmall S).2).1 (rmost 10 (rsmall S).2).2).1.headD Tmo.zero).view ≤ 1048576 := by
      generalize (takeL (takeTmo (rsmall S).1) (rmost 10 (rsmall S).2).1 (rmost 10 (rsmall S).2).2).1 = L at *
      cases L with
      | nil => exact absurd rfl ht.1
      | cons t r => exact (tmo_rng (ht.2.2 t (by simp)).1).2.1
    rw [hv] at hr
    have a3 := rsmall_inv a2.1 (by omega)
    refine ⟨a3.1, ?_⟩
    rw [hv, Int.toNat_natCast, takeL_len]
    simp only [List.append_assoc]
    rw [← a1.2, ← a2.2.1]
    exact a3.2
  · have := takeTx_inv h
    exact ⟨this.1, this.2.2⟩
  · unfold Msg.numsOk at hb
    have num : (rsmall S).1 < 1099511627776 → (rsmall (rsmall S).2).1 < 1099511627776 → S.2 = 0 ∧ S.1 = numB (rsmall S).1 ++ (numB (rsmall (rsmall S).2).1 ++ (rsmall (rsmall S).2).2.1) := fun g1 g2 => by
      have a2 := rsmall_inv h g2
      have a3 := rsmall_inv a2.1 g1
      exact ⟨a3.1, by rw [← a2.2]; exact a3.2⟩
    by_cases k7 : K = 7
    · simp only [if_pos k7, inR, Bool.and_eq_true, decide_eq_true_eq] at hb ⊢
      have hs := set_num hb.2
      rw [BitVec.toNat_ofNat, Nat.mod_eq_of_lt (by omega)] at hs
      have := num (by omega) (by omega)
      refine ⟨this.1, ?_⟩
      rw [BitVec.toNat_ofNat, Nat.mod_eq_of_lt (by omega), Nat.min_eq_left (by omega), Int.toNat_natCast, List.append_assoc]
      exact this.2
    · by_cases k8 : K = 8
      · simp only [if_neg k7, if_pos k8] at hb ⊢
        simp only [inR, Bool.and_eq_true, decide_eq_true_eq] at hb
        have := num (by omega) (by omega)
        refine ⟨this.1, ?_⟩
        rw [Int.toNat_natCast, Int.toNat_natCast, List.append_assoc]
        exact this.2
      · simp only [if_neg k7, if_neg k8] at hb ⊢
        simp only [inR, Bool.and_eq_true, decide_eq_true_eq] at hb
        have := num (by omega) (by omega)
        refine ⟨this.1, ?_⟩
        rw [Int.toNat_natCast, Int.toNat_natCast, List.append_assoc]
        exact this.2
  · cases hb
/-- A message comes back from its bytes. -/
theorem parseMsg_ok {m : Msg} (h : m.ok = true) (hl : m.bytes.length ≤ 65536) : parseMsg m.bytes = (m, 0) := by
  have := takeMsg_ok h []
  rw [List.append_nil] at this
  unfold parseMsg
  rw [if_neg (by omega), this]
  simp [rdone, h]
/-- What is parsed may be, and is written so. -/
theorem parseMsg_inv {l : List UInt8} (h : (parseMsg l).2 = 0) : (parseMsg l).1.ok = true ∧ (parseMsg l).1.bytes = l ∧ l.length ≤ 65536 := by
  unfold parseMsg at h ⊢
  split at h
  · cases h
  rename_i h1
  split at h
  · rename_i h2; exact absurd h h2.1
  rename_i h2
  split at h
  · cases h
  rename_i h3
  split at h
  · rename_i h4; exact absurd h h4
  rename_i h4
  rw [if_neg h1, if_neg h2, if_neg h3, if_neg h4]
  have h5 := rdone_zero (by simpa using h4)
  have h6 : (takeMsg (l, 0)).1.ok = true := by simpa using h3
  have h7 := (takeMsg_inv h5.1 h6).2
  rw [h5.2, List.append_nil] at h7
  exact ⟨h6, h7.symm, by omega⟩
theorem parseMsg_bad {l : List UInt8} (h : (parseMsg l).2 ≠ 0) : (parseMsg l).1 = Msg.zero := by
  unfold parseMsg at h ⊢
  repeat' split
  all_goals first | rfl | skip
  rename_i h1 h2 h3 h4
  simp [h1, h2, h3, h4] at h
/-- No beginning of a message is one. -/
theorem parseMsg_more {m : Msg} (h : m.ok = true) {l : List UInt8} (hl : l ≠ []) : (parseMsg (m.bytes ++ l)).2 ≠ 0 := by
  intro h0
  have := parseMsg_inv h0
  unfold parseMsg at h0
  rw [if_neg (by omega), takeMsg_ok h] at h0
  simp [rdone, h, hl] at h0
theorem parseMsg_less {m : Msg} (h : m.ok = true) {l r : List UInt8} (he : m.bytes = l ++ r) (hr : r ≠ []) : (parseMsg l).2 ≠ 0 := by
  intro h0
  have h1 := parseMsg_inv h0
  have h2 := takeMsg_ok h1.1 r
  rw [h1.2.1, ← he] at h2
  have h3 := takeMsg_ok h []
  rw [List.append_nil, h2] at h3
  simp only [Prod.mk.injEq] at h3
  exact hr h3.2.1
end Go.Proofs.YtfhbdbjgmcopjaaGreatDoor
