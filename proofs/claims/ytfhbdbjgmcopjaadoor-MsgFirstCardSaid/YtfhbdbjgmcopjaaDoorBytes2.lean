/-
  Bytes of transactions that may be; the document's bytes of certificates and transactions.
-/
import Derived.Test.YtfhbdbjgmcopjaaDoorBytes1
set_option linter.unusedVariables false
set_option linter.unusedSimpArgs false
namespace Go.Proofs.YtfhbdbjgmcopjaaDoor
open Go Go.Abs Go.Proofs
set_option maxRecDepth 100000
attribute [local irreducible] AEnd AW ACalls

theorem nat_of {x : Int} (h : 0 ≤ x) : V.i .i64 x = V.i .i64 ((x.toNat : Nat) : Int) := by rw [Int.toNat_of_nonneg h]
/-- A transaction's bytes. -/
def Tx.bytes (t : Tx) : List UInt8 :=
  numB t.kind.toNat ++ (numB t.nonce.toNat ++ (textB t.src ++ (if t.kind = 1 then textB t.dst ++ numB t.amount.toNat else textB t.key ++ textB t.val)))
/-- What is in one that is right. -/
structure Tx.Rng (t : Tx) : Prop where
  kind : t.kind = 1 ∨ t.kind = 2
  nonce : 0 ≤ t.nonce ∧ t.nonce ≤ 4611686018427387904
  amount : 0 ≤ t.amount ∧ t.amount ≤ 4611686018427387904
  src : t.src.length ≤ 128
  dst : t.dst.length ≤ 128
  key : t.key.length ≤ 128
  val : t.val.length ≤ 128
theorem Tx.rng {t : Tx} (h : t.ok = true) : t.Rng := by
  unfold Tx.ok at h
  split at h
  · rename_i hk
    simp only [Tx.moveOk, Tx.base, Bool.and_eq_true, decide_eq_true_eq] at h
    obtain ⟨⟨⟨⟨⟨h1, h2⟩, h3⟩, h4⟩, h5⟩, h6⟩ := h
    have h2 : 1 ≤ t.nonce ∧ t.nonce ≤ 4611686018427387904 := of_decide_eq_true h2
    have h4 : 1 ≤ t.amount ∧ t.amount ≤ 4611686018427387904 := of_decide_eq_true h4
    exact ⟨.inl hk, by omega, by omega, nameOk_len h1, nameOk_len h3, by simp [h5], by simp [h6]⟩
  · split at h
    · rename_i hk
      simp only [Tx.putOk, Tx.base, Bool.and_eq_true, decide_eq_true_eq] at h
      obtain ⟨⟨⟨⟨⟨h1, h2⟩, h3⟩, h4⟩, h5⟩, h6⟩ := h
      have h2 : 1 ≤ t.nonce ∧ t.nonce ≤ 4611686018427387904 := of_decide_eq_true h2
      exact ⟨.inr hk, by omega, by omega, nameOk_len h1, by simp [h5], nameOk_len h3, valOk_len h4⟩
    · cases h
theorem textB_len {s : List UInt8} (h : s.length ≤ 1000000) : (textB s).length ≤ s.length + 9 := by
  have := numB_len9 (n := s.length) (by omega)
  simp [textB]; omega
theorem Tx.Rng.small {t : Tx} (h : t.Rng) : t.small := ⟨by have := h.src; omega, by have := h.dst; omega, by have := h.key; omega, by have := h.val; omega⟩
theorem Tx.bytes_len {t : Tx} (h : t.Rng) : t.bytes.length ≤ 500 := by
  have h1 := h.src; have h2 := h.dst; have h3 := h.key; have h4 := h.val
  have l1 := textB_len (s := t.src) (by omega); have l2 := textB_len (s := t.dst) (by omega); have l3 := textB_len (s := t.key) (by omega); have l4 := textB_len (s := t.val) (by omega)
  have l5 := numB_len9 (n := t.kind.toNat) (by rcases h.kind with h | h <;> omega)
  have l6 := numB_len9 (n := t.nonce.toNat) (by have := h.nonce; omega)
  have l7 := numB_len9 (n := t.amount.toNat) (by have := h.amount; omega)
  unfold Tx.bytes
  split <;> simp <;> omega
theorem txBytes_ok (H : AH) (t : Tx) (hok : t.ok = true) : ACalls Tryd.prog 21 [.agg t.cells] H fun r H' => ∃ w, r = .tup [w, .i .i64 0] ∧ Fresh H H' w t.bytes := by
  have hR := Tx.rng hok
  have i1 := hR.nonce; have i2 := hR.amount; have i3 := hR.src; have i4 := hR.dst; have i5 := hR.key; have i6 := hR.val
  have k0 : 0 ≤ t.kind ∧ t.kind ≤ 2 := by rcases hR.kind with h | h <;> omega
  refine ACalls_body Tryd.func21 rfl rfl ?_
  refine AW_seq ?_
  refine AW_reg [1] fun K hK => ?_ -- region 0
  simp [init_eq, V.cells]
  obtain ⟨H1, e1, hp, hn, ho⟩ := H.boxed t.cells
  rw [e1]
  refine hK _ _ ?_; clear hK K
  have hu1 : Upd H H1 [] := ⟨by omega, fun j hj _ => ho j hj⟩
  refine AW_seq ?_
  refine AW_seq ?_
  refine AW_reg [1, 4] fun K hK => ?_ -- region 1
  simp [init_eq, aload, hp, tx_take]
  refine ACalls.mono (txCheck_ok _ _ hR.small.fits) fun r H' ⟨hr, e⟩ => ?_ -- hallmoot/tx.Check
  subst hr e
  simp [hok]
  refine hK _ _ ?_; clear hK K
  refine AW_seq ?_
  refine AW_reg [1, 4, 10] fun K hK => ?_ -- region 2
  simp [init_eq]
  refine hK _ _ ?_; clear hK K
  refine AW_cond' rfl rfl (fun hc => ?_) (fun hc => ?_)
  · cases hc
  refine AW_skip ?_
  refine AW_seq ?_
  have b0 : abuildSlice Tryd.prog H' 82 2 [(0, .i .i64 t.kind), (1, .i .i64 t.nonce)] = some (.sl (some (H'.next, 0, 0)) 2 false, H'.new (.cells [.i .i64 t.kind, .i .i64 t.nonce] 0 false 1)) := by
    simp [abuildSlice, afill, V.cells, splice_zero, splice_succ]
  have f2 : FreshN H' (H'.new (.cells [.i .i64 t.kind, .i .i64 t.nonce] 0 false 1)) (.sl (some (H'.next, 0, 0)) 2 false) [t.kind.toNat, t.nonce.toNat] := by
    refine ⟨[H'.next], .inr ⟨H'.next, 0, 2, rfl, ?_, by simp [natC], rfl⟩, Upd.new .., by simp⟩
    rw [AH.get_new_same]
    simp [natC, Int.toNat_of_nonneg k0.1, Int.toNat_of_nonneg i1.1]
  generalize hH2 : H'.new (.cells [.i .i64 t.kind, .i .i64 t.nonce] 0 false 1) = H2 at b0 f2
  have hu2 : Upd H' H2 [] := by obtain ⟨F, _, hu, _⟩ := f2; exact hu
  refine AW_reg [1, 5] fun K hK => ?_ -- region 4
  simp [init_eq, afieldAddr, aload, hp, b0]
  refine ACalls.mono (nums_ok H2 f2.rs (by intro n hn; simp at hn; omega) (by simp)) fun r H3 h => ?_ -- hallmoot/wire.Nums
  obtain ⟨v3, rfl, f3⟩ := h
  have f3 := f3.trans hu2
  have e3 : [t.kind.toNat, t.nonce.toNat].flatMap numB = numB t.kind.toNat ++ numB t.nonce.toNat := by simp
  rw [e3] at f3
  try simp
  refine hK _ _ ?_; clear hK K
  have up : ∀ {G v l}, Fresh H' G v l → G.get H.next = some (.cells t.cells 0 false 0) := fun ⟨F, _, hu, _⟩ => hu.keep (by simp) hp
  have upd : ∀ {G v l}, Fresh H' G v l → Upd H' G [] := fun ⟨F, _, hu, _⟩ => hu
  have sl : ∀ {G v l}, Fresh H' G v l → Sl G v 1 (bytesV l) := fun ⟨F, h, _, _⟩ => h.sl
  have ln1 := numB_len9 (n := t.kind.toNat) (by omega)
  have ln2 := numB_len9 (n := t.nonce.toNat) (by omega)
  have ts1 := textB_len (s := t.src) (by omega)
  have ts2 := textB_len (s := t.dst) (by omega)
  have ts3 := textB_len (s := t.key) (by omega)
  refine AW_seq ?_
  have hp3 := up f3
  refine AW_reg [1, 5] fun K hK => ?_ -- region 5
  simp [init_eq, afieldAddr, aload, hp3]
  refine ACalls.mono (text_ok H3 (sl f3) (by simp; omega) t.src (by omega)) fun r H4 h => ?_ -- hallmoot/wire.Text
  obtain ⟨v4, rfl, f4⟩ := h
  have f4 := f4.trans (upd f3)
  try simp
  refine hK _ _ ?_; clear hK K
  refine AW_seq ?_
  refine AW_seq ?_
  have hp4 := up f4
  refine AW_reg [1, 5, 30] fun K hK => ?_ -- region 6
  simp [init_eq, afieldAddr, aload, hp4]
  refine hK _ _ ?_; clear hK K
  refine AW_cond' rfl rfl (fun hc => ?_) (fun hc => ?_)
  · have hk : t.kind = 1 := by simpa using hc
    refine AW_seq ?_
    refine AW_reg [1, 5] fun K hK => ?_ -- region 7
    simp [init_eq, afieldAddr, aload, hp4]
    refine ACalls.mono (text_ok H4 (sl f4) (by simp; omega) t.dst (by omega)) fun r H5 h => ?_ -- hallmoot/wire.Text
    obtain ⟨v5, rfl, f5⟩ := h
    have f5 := f5.trans (upd f4)
    have hp5 := up f5
    try simp
    refine hK _ _ ?_; clear hK K
    refine AW_seq ?_
    refine AW_reg [2, 3] fun K hK => ?_ -- region 8
    simp [init_eq, afieldAddr, aload, hp5]
    rw [nat_of i2.1]
    refine ACalls.mono (num_ok H5 (sl f5) (by simp; omega) t.amount.toNat (by omega)) fun r H6 h => ?_ -- hallmoot/wire.Num
    obtain ⟨v6, rfl, f6⟩ := h
    have f6 := (f6.trans (upd f5)).trans hu1
    try simp
    refine hK _ _ ?_; clear hK K
    refine AW_ret (end_ret rfl ?_)
    refine ⟨v6, rfl, ?_⟩
    unfold Tx.bytes
    rw [if_pos hk]
    simpa using f6
  · have hk : ¬ t.kind = 1 := by simpa using hc
    refine AW_skip ?_
    refine AW_seq ?_
    refine AW_reg [1, 5] fun K hK => ?_ -- region 9
    simp [init_eq, afieldAddr, aload, hp4]
    refine ACalls.mono (text_ok H4 (sl f4) (by simp; omega) t.key (by omega)) fun r H5 h => ?_ -- hallmoot/wire.Text
    obtain ⟨v5, rfl, f5⟩ := h
    have f5 := f5.trans (upd f4)
    have hp5 := up f5
    try simp
    refine hK _ _ ?_; clear hK K
    refine AW_seq ?_
    refine AW_reg [2, 3] fun K hK => ?_ -- region 10
    simp [init_eq, afieldAddr, aload, hp5]
    refine ACalls.mono (text_ok H5 (sl f5) (by simp; omega) t.val (by omega)) fun r H6 h => ?_ -- hallmoot/wire.Text
    obtain ⟨v6, rfl, f6⟩ := h
    have f6 := (f6.trans (upd f5)).trans hu1
    try simp
    refine hK _ _ ?_; clear hK K
    refine AW_ret (end_ret rfl ?_)
    refine ⟨v6, rfl, ?_⟩
    unfold Tx.bytes
    rw [if_neg hk]
    simpa using f6
theorem cat_ok {a b : List UInt8} (h : a.length + b.length ≤ 1000000000) : astr .add a b = some (.s (a ++ b)) := by
  unfold astr; rw [if_pos (by omega)]
end Go.Proofs.YtfhbdbjgmcopjaaDoor
