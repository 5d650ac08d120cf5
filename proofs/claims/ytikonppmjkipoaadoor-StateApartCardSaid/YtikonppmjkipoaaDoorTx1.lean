/-
  Which transactions are right: the program's and the document's.
-/
import Derived.Test.YtikonppmjkipoaaDoorName4
set_option linter.unusedVariables false
set_option linter.unusedSimpArgs false
namespace Go.Proofs.YtikonppmjkipoaaDoor
open Go Go.Abs Go.Proofs
set_option maxRecDepth 100000
attribute [local irreducible] AEnd AW ACalls

theorem nwithin_ok (H : AH) (n a b : Int) : ACalls Tryd.prog 47 [.i .i64 n, .i .i64 a, .i .i64 b] H fun r H' => r = .b (inR n a b) ∧ H' = H := by
  refine ACalls_body Tryd.func47 rfl rfl ?_
  refine AW_seq ?_
  refine AW_reg [0, 1, 2] fun K hK => ?_ -- region 0
  simp [init_eq]
  refine hK _ _ ?_; clear hK K
  refine AW_seq ?_
  refine AW_regto [6] ⟨15, [(6, .b (inR n a b))]⟩ H (fun K hk => ?_) (AW_ret (end_ret rfl ⟨rfl, rfl⟩))
  by_cases h1 : a ≤ n
  · simpa [init_eq, h1, inR] using hk
  · simpa [init_eq, h1, inR] using hk
/-- Its texts are no longer than memory. -/
structure Tx.small (t : Tx) : Prop where
  src : t.src.length ≤ 1000000000
  dst : t.dst.length ≤ 1000000000
  key : t.key.length ≤ 1000000000
  val : t.val.length ≤ 1000000000
/-- Its texts are no longer than any machine's. -/
structure Tx.fits (t : Tx) : Prop where
  src : t.src.length ≤ 140737488351232
  dst : t.dst.length ≤ 140737488351232
  key : t.key.length ≤ 140737488351232
  val : t.val.length ≤ 140737488351232
theorem Tx.small.fits {t : Tx} (h : t.small) : t.fits := ⟨by have := h.src; omega, by have := h.dst; omega, by have := h.key; omega, by have := h.val; omega⟩
theorem Tx.small_of {t : Tx} (h : t.great = false) : t.small := by
  simp [Tx.great] at h
  exact ⟨by omega, by omega, by omega, by omega⟩
def Tx.base (t : Tx) : Bool := nameOk t.src && inR t.nonce 1 4611686018427387904
def Tx.moveOk (t : Tx) : Bool := t.base && nameOk t.dst && inR t.amount 1 4611686018427387904 && decide (t.key = []) && decide (t.val = [])
def Tx.putOk (t : Tx) : Bool := t.base && nameOk t.key && valOk t.val && decide (t.dst = []) && decide (t.amount = 0)
/-- Is it right? -/
def Tx.ok (t : Tx) : Bool := if t.kind = 1 then t.moveOk else if t.kind = 2 then t.putOk else false
theorem txCheck_ok (H : AH) (t : Tx) (hs : t.fits) : ACalls Tryd.prog 24 [.agg t.cells] H fun r H' => r = .i .i64 (if t.ok then 0 else 80) ∧ H' = H := by
  refine ACalls.pure (Q := fun r => r = .i .i64 (if t.ok then 0 else 80)) ⟨_, Tryd.func24, rfl, rfl⟩ ?_
  refine ACalls_body Tryd.func24 rfl rfl ?_
  refine AW_seq ?_
  refine AW_reg [1] fun K hK => ?_ -- region 0
  simp [init_eq, V.cells]
  obtain ⟨H1, e1, hp, hn, ho⟩ := H.boxed t.cells
  rw [e1]
  refine hK _ _ ?_; clear hK K
  refine AW_seq ?_
  refine AW_regto [1, 3] ⟨66, [(1, .p (some (H.next, 0, 0))), (3, .b t.base)]⟩ H1 (fun K hk => ?_) ?_ -- region 1
  · simp [init_eq, afieldAddr, aload, hp]
    refine ACalls.mono (name_ok _ _ hs.src) fun r H' ⟨hr, e⟩ => ?_ -- hallmoot/name.Check
    subst hr e
    cases h1 : nameOk t.src
    · simpa [Tx.base, h1] using hk
    simp [afieldAddr, aload, hp]
    refine ACalls.mono (nwithin_ok ..) fun r H' ⟨hr, e⟩ => ?_ -- hallmoot/num.Within
    subst hr e
    simpa [Tx.base, h1] using hk
  refine AW_cutto ⟨66, [(3, .b t.ok)]⟩ H1 ?_ ?_
  · refine AW_seq ?_
    refine AW_reg [1, 3, 14] fun K hK => ?_ -- region 2
    simp [init_eq, afieldAddr, aload, hp]
    refine hK _ _ ?_; clear hK K
    refine AW_block ?_
    refine AW_seq ?_
    refine AW_reg [1, 3, 14, 15] fun K hK => ?_ -- region 4
    simp [init_eq]
    refine hK _ _ ?_; clear hK K
    refine AW_cond' rfl rfl (fun hc => ?_) (fun hc => ?_)
    · have hk1 : t.kind = 1 := by simpa using hc
      have e : t.ok = t.moveOk := by simp [Tx.ok, hk1]
      refine AW_regto [3] ⟨66, [(3, .b t.ok)]⟩ H1 (fun K hk => ?_) ⟨rfl, rfl⟩ -- region 5
      rw [e] at hk
      cases hb : t.base
      · simpa [init_eq, Tx.moveOk, hb] using hk
      simp [init_eq, afieldAddr, aload, hp]
      refine ACalls.mono (name_ok _ _ hs.dst) fun r H' ⟨hr, e⟩ => ?_ -- hallmoot/name.Check
      subst hr e
      cases h1 : nameOk t.dst
      · simpa [Tx.moveOk, hb, h1] using hk
      simp [afieldAddr, aload, hp]
      refine ACalls.mono (nwithin_ok ..) fun r H' ⟨hr, e⟩ => ?_ -- hallmoot/num.Within
      subst hr e
      cases h2 : inR t.amount 1 4611686018427387904
      · simpa [Tx.moveOk, hb, h1, h2] using hk
      by_cases h3 : t.key = []
      · simpa [afieldAddr, aload, hp, Tx.moveOk, hb, h1, h2, h3] using hk
      · simpa [afieldAddr, aload, hp, Tx.moveOk, hb, h1, h2, h3] using hk
    · have hk1 : ¬ t.kind = 1 := by simpa using hc
      refine AW_seq ?_
      refine AW_reg [1, 3, 39] fun K hK => ?_ -- region 6
      simp [init_eq]
      refine hK _ _ ?_; clear hK K
      refine AW_cond' rfl rfl (fun hc => ?_) (fun hc => ?_)
      · have hk2 : t.kind = 2 := by simpa using hc
        have e : t.ok = t.putOk := by simp [Tx.ok, hk2]
        refine AW_regto [3] ⟨66, [(3, .b t.ok)]⟩ H1 (fun K hk => ?_) ⟨rfl, rfl⟩ -- region 7
        rw [e] at hk
        cases hb : t.base
        · simpa [init_eq, Tx.putOk, hb] using hk
        simp [init_eq, afieldAddr, aload, hp]
        refine ACalls.mono (name_ok _ _ hs.key) fun r H' ⟨hr, e⟩ => ?_ -- hallmoot/name.Check
        subst hr e
        cases h1 : nameOk t.key
        · simpa [Tx.putOk, hb, h1] using hk
        simp [afieldAddr, aload, hp]
        refine ACalls.mono (value_ok _ _ hs.val) fun r H' ⟨hr, e⟩ => ?_ -- hallmoot/name.Value
        subst hr e
        cases h2 : valOk t.val
        · simpa [Tx.putOk, hb, h1, h2] using hk
        by_cases h3 : t.dst = []
        · simpa [afieldAddr, aload, hp, Tx.putOk, hb, h1, h2, h3] using hk
        · simpa [afieldAddr, aload, hp, Tx.putOk, hb, h1, h2, h3] using hk
      · have hk2 : ¬ t.kind = 2 := by simpa using hc
        refine AW_reg [3] fun K hK => ?_ -- region 3
        simp [init_eq]
        refine hK _ _ ?_; clear hK K
        exact ⟨by simp [Tx.ok, hk1, hk2], rfl⟩
  · refine AW_seq ?_
    refine AW_seq ?_
    refine AW_reg [65] fun K hK => ?_ -- region 8
    simp [init_eq]
    refine hK _ _ ?_; clear hK K
    refine AW_cond' rfl rfl (fun hc => ?_) (fun hc => ?_)
    · have h : t.ok = false := by simpa using hc
      refine AW_seq ?_
      refine AW_reg [2] fun K hK => ?_ -- region 9
      simp [init_eq]
      refine hK _ _ ?_; clear hK K
      refine AW_ret (end_ret rfl (pure_end hn ho ?_ rfl))
      simp [h]
    · have h : t.ok = true := by simpa using hc
      refine AW_skip ?_
      refine AW_seq ?_
      refine AW_reg [2] fun K hK => ?_ -- region 10
      simp [init_eq]
      refine hK _ _ ?_; clear hK K
      refine AW_ret (end_ret rfl (pure_end hn ho ?_ rfl))
      simp [h]
theorem rtxCheck_ok (H : AH) (t : Tx) (hs : t.small) : ACalls Tryd.prog 39 [.agg t.cells] H fun r H' => r = .b t.ok ∧ H' = H := by
  refine ACalls.pure (Q := fun r => r = .b t.ok) ⟨_, Tryd.func39, rfl, rfl⟩ ?_
  refine ACalls_body Tryd.func39 rfl rfl ?_
  refine AW_seq ?_
  refine AW_reg [1] fun K hK => ?_ -- region 0
  simp [init_eq, V.cells]
  obtain ⟨H1, e1, hp, hn, ho⟩ := H.boxed t.cells
  rw [e1]
  refine hK _ _ ?_; clear hK K
  refine AW_seq ?_
  refine AW_seq ?_
  refine AW_regto [1, 16] ⟨66, [(1, .p (some (H.next, 0, 0))), (16, .b (!t.base))]⟩ H1 (fun K hk => ?_) ?_ -- region 1
  · by_cases h1 : t.nonce < 1
    · have : inR t.nonce 1 4611686018427387904 = false := by simp [inR]; omega
      simpa [init_eq, afieldAddr, aload, hp, h1, Tx.base, this] using hk
    by_cases h2 : 4611686018427387904 < t.nonce
    · have : inR t.nonce 1 4611686018427387904 = false := by simp [inR]; omega
      simpa [init_eq, afieldAddr, aload, hp, h1, h2, Tx.base, this] using hk
    have : inR t.nonce 1 4611686018427387904 = true := by simp [inR]; omega
    simp [init_eq, afieldAddr, aload, hp, h1, h2]
    refine ACalls.mono (rname_ok _ _ hs.src) fun r H' ⟨hr, e⟩ => ?_ -- hallmoot/hallmootref02.Check
    subst hr e
    simpa [Tx.base, this] using hk
  refine AW_cond' rfl rfl (fun hc => ?_) (fun hc => ?_)
  · have hb : t.base = false := by simpa using hc
    refine AW_seq ?_
    refine AW_reg [2] fun K hK => ?_ -- region 2
    simp [init_eq]
    refine hK _ _ ?_; clear hK K
    refine AW_ret (end_ret rfl (pure_end hn ho ?_ rfl))
    simp [Tx.ok, Tx.moveOk, Tx.putOk, hb]
  · have hb : t.base = true := by simpa using hc
    refine AW_skip ?_
    refine AW_seq ?_
    refine AW_seq ?_
    refine AW_reg [1, 19] fun K hK => ?_ -- region 3
    simp [init_eq, afieldAddr, aload, hp]
    refine hK _ _ ?_; clear hK K
    refine AW_cond' rfl rfl (fun hc => ?_) (fun hc => ?_)
    · have hk1 : t.kind = 1 := by simpa using hc
      have e : t.ok = t.moveOk := by simp [Tx.ok, hk1]
      refine AW_seq ?_
      refine AW_regto [2] ⟨66, [(2, .b t.ok)]⟩ H1 (fun K hk => ?_) (AW_ret (end_ret rfl (pure_end hn ho rfl rfl))) -- region 4
      rw [e] at hk
      simp [init_eq, afieldAddr, aload, hp]
      refine ACalls.mono (rname_ok _ _ hs.dst) fun r H' ⟨hr, e⟩ => ?_ -- hallmoot/hallmootref02.Check
      subst hr e
      cases h1 : nameOk t.dst
      · simpa [Tx.moveOk, hb, h1] using hk
      by_cases h2 : 1 ≤ t.amount
      case neg =>
        have : inR t.amount 1 4611686018427387904 = false := by simp [inR]; omega
        simpa [afieldAddr, aload, hp, Tx.moveOk, hb, h1, h2, this] using hk
      by_cases h2' : t.amount ≤ 4611686018427387904
      case neg =>
        have : inR t.amount 1 4611686018427387904 = false := by simp [inR]; omega
        simpa [afieldAddr, aload, hp, Tx.moveOk, hb, h1, h2, h2', this] using hk
      have : inR t.amount 1 4611686018427387904 = true := by simp [inR]; omega
      by_cases h3 : t.key = []
      · simpa [afieldAddr, aload, hp, Tx.moveOk, hb, h1, h2, h2', this, h3] using hk
      · simpa [afieldAddr, aload, hp, Tx.moveOk, hb, h1, h2, h2', this, h3] using hk
    · have hk1 : ¬ t.kind = 1 := by simpa using hc
      refine AW_skip ?_
      refine AW_seq ?_
      refine AW_regto [2] ⟨66, [(2, .b t.ok)]⟩ H1 (fun K hk => ?_) (AW_ret (end_ret rfl (pure_end hn ho rfl rfl))) -- region 5
      by_cases hk2 : t.kind = 2
      case neg =>
        have e : t.ok = false := by simp [Tx.ok, hk1, hk2]
        simpa [init_eq, afieldAddr, aload, hp, hk2, e] using hk
      have e : t.ok = t.putOk := by simp [Tx.ok, hk2]
      rw [e] at hk
      simp [init_eq, afieldAddr, aload, hp, hk2]
      refine ACalls.mono (rname_ok _ _ hs.key) fun r H' ⟨hr, e⟩ => ?_ -- hallmoot/hallmootref02.Check
      subst hr e
      cases h1 : nameOk t.key
      · simpa [Tx.putOk, hb, h1] using hk
      simp [afieldAddr, aload, hp]
      refine ACalls.mono (rvalue_ok _ _ hs.val) fun r H' ⟨hr, e⟩ => ?_ -- hallmoot/hallmootref02.Value
      subst hr e
      cases h2 : valOk t.val
      · simpa [Tx.putOk, hb, h1, h2] using hk
      by_cases h3 : t.dst = []
      · simpa [afieldAddr, aload, hp, Tx.putOk, hb, h1, h2, h3] using hk
      · simpa [afieldAddr, aload, hp, Tx.putOk, hb, h1, h2, h3] using hk
end Go.Proofs.YtikonppmjkipoaaDoor
