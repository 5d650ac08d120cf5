/-
  Bytes of transactions that may be; the document's bytes of certificates and transactions.
-/
import Derived.Test.YtoccjilbfkhmoaaGreatDoorBytes1
set_option linter.unusedVariables false
set_option linter.unusedSimpArgs false
namespace Go.Proofs.YtoccjilbfkhmoaaGreatDoor
open Go Go.Abs Go.Proofs
set_option maxRecDepth 100000
attribute [local irreducible] AEnd AW ACalls

theorem nat_of {x : Int} (h : 0 ≤ x) : V.i .i64 x = V.i .i64 ((x.toNat : Nat) : Int) := by rw [Int.toNat_of_nonneg h]
theorem rN_int (H : AH) {x : Int} (h0 : 0 ≤ x) (h1 : x ≤ 4611686018427387904) : ACalls Tryz.prog 27 [.i .i64 x] H fun r H' => r = .s (numB x.toNat) ∧ H' = H := by
  rw [nat_of h0]; exact rN_ok H _ (by omega)
theorem rcertBytes_ok (H : AH) (c : Cert) (hR : c.Rng) : ACalls Tryz.prog 28 [.agg c.cells] H fun r H' => r = .s c.bytes ∧ H' = H := by
  have i1 := hR.block; have i2 := hR.view; have i3 := hR.round; have i4 := hR.height; have i5 := hR.author
  have i6 := c.signers.isLt; have i7 := c.coin.isLt
  have k0 : 0 ≤ c.kind ∧ c.kind ≤ 2 := by rcases hR.kind with h | h | h <;> omega
  have lb : ∀ x : Int, 0 ≤ x → x ≤ 4611686018427387904 → (numB x.toNat).length ≤ 9 := fun x h1 h2 => numB_len9 (by omega)
  have cat : ∀ a b : List UInt8, a.length ≤ 1000 → b.length ≤ 9 → astr .add a b = some (.s (a ++ b)) := fun a b h1 h2 => by
    unfold astr; rw [if_pos (by omega)]
  refine ACalls.pure (Q := fun r => r = .s c.bytes) ⟨_, Tryz.func28, rfl, rfl⟩ ?_
  refine ACalls_body Tryz.func28 rfl rfl ?_
  refine AW_seq ?_
  refine AW_reg [1] fun K hK => ?_ -- region 0
  simp [init_eq, V.cells]
  obtain ⟨H1, e1, hp, hn, ho⟩ := H.boxed c.cells
  rw [e1]
  refine hK _ _ ?_; clear hK K
  have cv1 : ∀ G, aconvert Tryz.prog G 22 3 (u32 c.signers) = some (.i .i64 c.signers.toNat, G) := fun G => by
    unfold u32
    rw [conv_int qthere_22 qint_3, wrap_id (by omega) (by omega)]
  have cv2 : ∀ G, aconvert Tryz.prog G 22 3 (u32 c.coin) = some (.i .i64 c.coin.toNat, G) := fun G => by
    unfold u32
    rw [conv_int qthere_22 qint_3, wrap_id (by omega) (by omega)]
  refine AW_seq ?_
  refine AW_reg [1, 3] fun K hK => ?_ -- region 1
  simp [init_eq, afieldAddr, aload, hp]
  refine ACalls.mono (rN_int _ k0.1 (by omega)) fun r H' ⟨hr, e⟩ => ?_ -- hallmoot/hallmootref03.N
  subst hr e
  try simp
  refine hK _ _ ?_; clear hK K
  have l0 := lb c.kind k0.1 (by omega)
  have l1 := lb c.block i1.1 (by omega)
  have l2 := lb c.view i2.1 (by omega)
  have l3 := lb c.round i3.1 (by omega)
  have l4 := numB_len9 (n := c.signers.toNat) (by omega)
  have l5 := lb c.height i4.1 (by omega)
  have l6 := lb c.author i5.1 (by omega)
  have l7 := numB_len9 (n := c.coin.toNat) (by omega)
  generalize hs1 : numB c.kind.toNat ++ (if c.kind = 0 then [] else numB c.block.toNat ++ numB c.view.toNat ++ numB c.round.toNat ++ numB c.signers.toNat) = s1
  have ls1 : s1.length ≤ 45 := by
    rw [← hs1]; split <;> simp <;> omega
  refine AW_cut (fun ρ G => ρ = ⟨46, [(1, .p (some (H.next, 0, 0))), (3, .s s1)]⟩ ∧ G = H') ?_ ?_
  · refine AW_seq ?_
    refine AW_reg [1, 3, 9] fun K hK => ?_ -- region 2
    simp [init_eq, afieldAddr, aload, hp]
    refine hK _ _ ?_; clear hK K
    refine AW_cond' rfl rfl (fun hc => ?_) (fun hc => ?_)
    · have hk : ¬ c.kind = 0 := by simpa using hc
      rw [if_neg hk] at hs1
      refine AW_regdto [1, 3] pl_28_3 pe_28_3 ⟨46, [(1, .p (some (H.next, 0, 0))), (3, .s s1)]⟩ H' (by kernel_rfl) (by kernel_rfl) (by decide) (fun K hk => ?_) (rend ⟨_, by simp, rfl, rfl⟩)
      simp [init_eq, pl_28_3, afieldAddr, aload, hp, cv1]
      refine ACalls.mono (rN_int _ i1.1 (by omega)) fun r H' ⟨hr, e⟩ => ?_ -- hallmoot/hallmootref03.N
      subst hr e
      simp [afieldAddr, aload, hp, cat _ _ (show (numB c.kind.toNat).length ≤ 1000 by omega) l1]
      refine ACalls.mono (rN_int _ i2.1 (by omega)) fun r H' ⟨hr, e⟩ => ?_ -- hallmoot/hallmootref03.N
      subst hr e
      simp [afieldAddr, aload, hp, cat _ _ (show (numB c.kind.toNat ++ numB c.block.toNat).length ≤ 1000 by simp; omega) l2]
      refine ACalls.mono (rN_int _ i3.1 (by omega)) fun r H' ⟨hr, e⟩ => ?_ -- hallmoot/hallmootref03.N
      subst hr e
      simp [afieldAddr, aload, hp, cv1, cat _ _ (show (numB c.kind.toNat ++ (numB c.block.toNat ++ numB c.view.toNat)).length ≤ 1000 by simp; omega) l3]
      refine ACalls.mono (rN_ok _ _ (by omega)) fun r H' ⟨hr, e⟩ => ?_ -- hallmoot/hallmootref03.N
      subst hr e
      simp [cat _ _ (show (numB c.kind.toNat ++ (numB c.block.toNat ++ (numB c.view.toNat ++ numB c.round.toNat))).length ≤ 1000 by simp; omega) l4]
      simpa [← hs1] using hk
    · have hk : c.kind = 0 := by simpa using hc
      rw [if_pos hk, List.append_nil] at hs1
      refine AW_skip (rend ⟨_, ?_, rfl, rfl⟩)
      simp [hs1]
  intro ρ G hM
  obtain ⟨e1, e2⟩ := hM
  rw [e1, e2]; clear e1 e2 ρ G
  refine AW_cut (fun ρ G => ρ = ⟨46, [(3, .s c.bytes)]⟩ ∧ G = H') ?_ ?_
  · refine AW_seq ?_
    refine AW_reg [1, 3, 30] fun K hK => ?_ -- region 4
    simp [init_eq, afieldAddr, aload, hp]
    refine hK _ _ ?_; clear hK K
    refine AW_cond' rfl rfl (fun hc => ?_) (fun hc => ?_)
    · have hk : c.kind = 2 := by simpa using hc
      have hb : c.bytes = s1 ++ (numB c.height.toNat ++ (numB c.author.toNat ++ numB c.coin.toNat)) := by
        rw [← hs1]; simp [Cert.bytes, Cert.nums, hk]
      refine AW_regdto [3] pl_28_5 pe_28_5 ⟨46, [(3, .s c.bytes)]⟩ H' (by kernel_rfl) (by kernel_rfl) (by decide) (fun K hk => ?_) (rend ⟨_, by simp, rfl, rfl⟩)
      simp [init_eq, pl_28_5, afieldAddr, aload, hp, cv2]
      refine ACalls.mono (rN_int _ i4.1 (by omega)) fun r H' ⟨hr, e⟩ => ?_ -- hallmoot/hallmootref03.N
      subst hr e
      simp [afieldAddr, aload, hp, cat _ _ (show s1.length ≤ 1000 by omega) l5]
      refine ACalls.mono (rN_int _ i5.1 (by omega)) fun r H' ⟨hr, e⟩ => ?_ -- hallmoot/hallmootref03.N
      subst hr e
      simp [afieldAddr, aload, hp, cv2, cat _ _ (show (s1 ++ numB c.height.toNat).length ≤ 1000 by simp; omega) l6]
      refine ACalls.mono (rN_ok _ _ (by omega)) fun r H' ⟨hr, e⟩ => ?_ -- hallmoot/hallmootref03.N
      subst hr e
      simp [cat _ _ (show (s1 ++ (numB c.height.toNat ++ numB c.author.toNat)).length ≤ 1000 by simp; omega) l7]
      simpa [hb] using hk
    · have hk : ¬ c.kind = 2 := by simpa using hc
      have hb : c.bytes = s1 := by
        rw [← hs1]
        rcases hR.kind with h | h | h
        · simp [Cert.bytes, Cert.nums, h]
        · simp [Cert.bytes, Cert.nums, h]
        · exact absurd h hk
      refine AW_skip (rend ⟨_, ?_, rfl, rfl⟩)
      simp [hb]
  intro ρ G hM
  obtain ⟨e1, e2⟩ := hM
  rw [e1, e2]; clear e1 e2 ρ G
  refine AW_seq ?_
  refine AW_reg [2] fun K hK => ?_ -- region 6
  simp [init_eq]
  refine hK _ _ ?_; clear hK K
  refine AW_ret (end_ret rfl (pure_end hn ho rfl rfl))
/-- A transaction's bytes. -/
def Tx.bytes (t : Tx) : List UInt8 :=
  numB t.kind.toNat ++ (numB t.nonce.toNat ++ (textB t.src ++ (if t.kind = 1 then textB t.dst ++ numB t.amount.toNat else textB t.key ++ textB t.val)))
/-- What is in one that is right. -/
structure Tx.Rng (t : Tx) : Prop where
  kind : t.kind = 1 ∨ t.kind = 2
  nonce : 0 ≤ t.nonce ∧ t.nonce ≤ 4611686018427387904
  amount : 0 ≤ t.amount ∧ t.amount ≤ 4611686018427387904
  src : t.src.length ≤ 128
  dst : t.dst.length ≤ 128
  key : t.key.length ≤ 128
  val : t.val.length ≤ 128
theorem Tx.rng {t : Tx} (h : t.ok = true) : t.Rng := by
  unfold Tx.ok at h
  split at h
  · rename_i hk
    simp only [Tx.moveOk, Tx.base, Bool.and_eq_true, decide_eq_true_eq] at h
    obtain ⟨⟨⟨⟨⟨h1, h2⟩, h3⟩, h4⟩, h5⟩, h6⟩ := h
    have h2 : 1 ≤ t.nonce ∧ t.nonce ≤ 4611686018427387904 := of_decide_eq_true h2
    have h4 : 1 ≤ t.amount ∧ t.amount ≤ 4611686018427387904 := of_decide_eq_true h4
    exact ⟨.inl hk, by omega, by omega, nameOk_len h1, nameOk_len h3, by simp [h5], by simp [h6]⟩
  · split at h
    · rename_i hk
      simp only [Tx.putOk, Tx.base, Bool.and_eq_true, decide_eq_true_eq] at h
      obtain ⟨⟨⟨⟨⟨h1, h2⟩, h3⟩, h4⟩, h5⟩, h6⟩ := h
      have h2 : 1 ≤ t.nonce ∧ t.nonce ≤ 4611686018427387904 := of_decide_eq_true h2
      exact ⟨.inr hk, by omega, by omega, nameOk_len h1, by simp [h5], nameOk_len h3, valOk_len h4⟩
    · cases h
theorem textB_len {s : List UInt8} (h : s.length ≤ 1000000) : (textB s).length ≤ s.length + 9 := by
  have := numB_len9 (n := s.length) (by omega)
  simp [textB]; omega
theorem Tx.Rng.small {t : Tx} (h : t.Rng) : t.small := ⟨by have := h.src; omega, by have := h.dst; omega, by have := h.key; omega, by have := h.val; omega⟩
theorem Tx.bytes_len {t : Tx} (h : t.Rng) : t.bytes.length ≤ 500 := by
  have h1 := h.src; have h2 := h.dst; have h3 := h.key; have h4 := h.val
  have l1 := textB_len (s := t.src) (by omega); have l2 := textB_len (s := t.dst) (by omega); have l3 := textB_len (s := t.key) (by omega); have l4 := textB_len (s := t.val) (by omega)
  have l5 := numB_len9 (n := t.kind.toNat) (by rcases h.kind with h | h <;> omega)
  have l6 := numB_len9 (n := t.nonce.toNat) (by have := h.nonce; omega)
  have l7 := numB_len9 (n := t.amount.toNat) (by have := h.amount; omega)
  unfold Tx.bytes
  split <;> simp <;> omega
theorem cat_ok {a b : List UInt8} (h : a.length + b.length ≤ 1000000000) : astr .add a b = some (.s (a ++ b)) := by
  unfold astr; rw [if_pos (by omega)]
end Go.Proofs.YtoccjilbfkhmoaaGreatDoor
