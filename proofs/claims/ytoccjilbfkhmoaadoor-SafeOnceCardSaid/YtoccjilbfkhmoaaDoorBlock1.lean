/-
  Timeouts: what package block and the document's answer say of them.
-/
import Derived.Test.YtoccjilbfkhmoaaDoorRef11
import Derived.Test.YtoccjilbfkhmoaaDoorAbsC
set_option linter.unusedVariables false
set_option linter.unusedSimpArgs false
namespace Go.Proofs.YtoccjilbfkhmoaaDoor
open Go Go.Abs Go.Proofs
set_option maxRecDepth 100000
attribute [local irreducible] AEnd AW ACalls

theorem bwithin_ok (H : AH) (n a b : Int) : ACalls Tryd.prog 83 [.i .i64 n, .i .i64 a, .i .i64 b] H fun r H' => r = .b (inR n a b) ∧ H' = H := by
  refine ACalls_body Tryd.func83 rfl rfl ?_
  refine AW_seq ?_
  refine AW_reg [0, 1, 2] fun K hK => ?_ -- region 0
  simp [init_eq]
  refine hK _ _ ?_; clear hK K
  refine AW_seq ?_
  refine AW_regto [6] ⟨15, [(6, .b (inR n a b))]⟩ H (fun K hk => ?_) (AW_ret (end_ret rfl ⟨rfl, rfl⟩))
  by_cases h1 : a ≤ n
  · simpa [init_eq, h1, inR] using hk
  · simpa [init_eq, h1, inR] using hk
/-- Is it of the fallback, and of one that a coin elected? -/
def Cert.endorsed (c : Cert) : Bool := decide (c.kind = 2) && !decide (c.coin = 0#32)
theorem endorsed_ok (H : AH) (c : Cert) : ACalls Tryd.prog 45 [.agg c.cells] H fun r H' => r = .b c.endorsed ∧ H' = H := by
  refine ACalls.pure (Q := fun r => r = .b c.endorsed) ⟨_, Tryd.func45, rfl, rfl⟩ ?_
  refine ACalls_body Tryd.func45 rfl rfl ?_
  refine AW_seq ?_
  refine AW_reg [1] fun K hK => ?_ -- region 0
  simp [init_eq, V.cells]
  obtain ⟨H1, e1, hp, hn, ho⟩ := H.boxed c.cells
  rw [e1]
  refine hK _ _ ?_; clear hK K
  refine AW_seq ?_
  refine AW_regto [2] ⟨11, [(2, .b c.endorsed)]⟩ H1 (fun K hk => ?_) (AW_ret (end_ret rfl (pure_end hn ho rfl rfl)))
  by_cases h1 : c.kind = 2
  · simpa [init_eq, afieldAddr, aload, hp, h1, Cert.endorsed] using hk
  · simpa [init_eq, afieldAddr, aload, hp, h1, Cert.endorsed] using hk
/-- May a certificate stand where none of a view's fallback may? -/
def openS (c : Cert) (v : Int) : Bool := c.ok && (if c.kind = 2 then c.endorsed && decide (c.view < v) else decide (c.view ≤ v))
theorem bopen_ok (H : AH) (c : Cert) (v : Int) : ACalls Tryd.prog 92 [.agg c.cells, .i .i64 v] H fun r H' => r = .b (openS c v) ∧ H' = H := by
  refine ACalls.pure (Q := fun r => r = .b (openS c v)) ⟨_, Tryd.func92, rfl, rfl⟩ ?_
  refine ACalls_body Tryd.func92 rfl rfl ?_
  refine AW_seq ?_
  refine AW_reg [1, 2] fun K hK => ?_ -- region 0
  simp [init_eq, V.cells]
  obtain ⟨H1, e1, hp, hn, ho⟩ := H.boxed c.cells
  rw [e1]
  refine hK _ _ ?_; clear hK K
  refine AW_seq ?_
  refine AW_block ?_
  refine AW_seq ?_
  refine AW_reg [1, 2, 5] fun K hK => ?_ -- region 1
  simp [init_eq, aload, hp, take_cells]
  refine ACalls.mono (check_ok ..) fun r H' ⟨hr, e⟩ => ?_ -- hallmoot/cert.Check
  subst hr e
  simp
  refine hK _ _ ?_; clear hK K
  have hck : (c.check = 0) ↔ c.ok = true := by unfold Cert.check; cases c.ok <;> simp
  refine AW_cond' rfl rfl (fun hc => ?_) (fun hc => ?_)
  · have h0 : c.ok = false := by simpa [hck] using hc
    refine AW_seq ?_
    refine AW_reg [4] fun K hK => ?_ -- region 2
    simp [init_eq]
    refine hK _ _ ?_; clear hK K
    refine AW_ret (end_ret rfl (pure_end hn ho ?_ rfl))
    simp [openS, h0]
  · have h0 : c.ok = true := by simpa [hck] using hc
    refine AW_seq ?_
    refine AW_reg [1, 2, 9] fun K hK => ?_ -- region 3
    simp [init_eq, afieldAddr, aload, hp]
    refine hK _ _ ?_; clear hK K
    refine AW_cond' rfl rfl (fun hc => ?_) (fun hc => ?_)
    · have h1 : c.kind = 2 := by simpa using hc
      refine AW_seq ?_
      refine AW_regto [4] ⟨25, [(4, .b (openS c v))]⟩ H' (fun K hk => ?_) (AW_ret (end_ret rfl (pure_end hn ho rfl rfl)))
      simp [init_eq, aload, hp, take_cells]
      refine ACalls.mono (endorsed_ok ..) fun r H2 ⟨hr, e⟩ => ?_ -- hallmoot/cert.Endorsed
      subst hr e
      cases h2 : c.endorsed
      · simpa [openS, h0, h1, h2] using hk
      · simpa [afieldAddr, aload, hp, openS, h0, h1, h2] using hk
    · have h1 : c.kind ≠ 2 := by simpa using hc
      refine AW_skip ?_
      refine AW_seq ?_
      refine AW_reg [4] fun K hK => ?_ -- region 5
      simp [init_eq, afieldAddr, aload, hp]
      refine hK _ _ ?_; clear hK K
      refine AW_ret (end_ret rfl (pure_end hn ho ?_ rfl))
      simp [openS, h0, h1]
/-- A timeout. -/
structure Tmo where
  signer : Int
  view : Int
  high : Cert
  deriving DecidableEq
def Tmo.cells (t : Tmo) : List V := .i .i64 t.signer :: .i .i64 t.view :: t.high.cells
@[simp] theorem Tmo.len (x : Tmo) : x.cells.length = 10 := rfl
@[simp] theorem Tmo.c0 (x : Tmo) : x.cells[0]? = some (.i .i64 x.signer) := rfl
@[simp] theorem Tmo.c1 (x : Tmo) : x.cells[1]? = some (.i .i64 x.view) := rfl
@[simp] theorem Tmo.c2 (x : Tmo) : x.cells[2]? = some (.i .i64 x.high.kind) := rfl
@[simp] theorem Tmo.c3 (x : Tmo) : x.cells[3]? = some (.i .i64 x.high.block) := rfl
@[simp] theorem Tmo.c4 (x : Tmo) : x.cells[4]? = some (.i .i64 x.high.view) := rfl
@[simp] theorem Tmo.c5 (x : Tmo) : x.cells[5]? = some (.i .i64 x.high.round) := rfl
theorem Tmo.high_cells (x : Tmo) : (x.cells.drop 2).take 8 = x.high.cells := rfl
theorem tmo_take (x : Tmo) : x.cells.take 10 = x.cells := rfl
/-- May it be one? -/
def Tmo.ok (t : Tmo) : Bool := inR t.signer 0 9 && inR t.view 1 1048576 && openS t.high t.view
/-- What was signed for it. -/
def Tmo.signed (t : Tmo) : List V := [.i .i64 3, .i .i64 0, .i .i64 t.view, .i .i64 0, .i .i64 0, .i .i64 0, .i .i64 t.high.kind, .i .i64 t.high.block, .i .i64 t.high.view, .i .i64 t.high.round]
theorem btimeout_ok (H : AH) (t : Tmo) : ACalls Tryd.prog 93 [.agg t.cells] H fun r H' => r = .i .i64 (if t.ok then 0 else 121) ∧ H' = H := by
  refine ACalls.pure (Q := fun r => r = .i .i64 (if t.ok then 0 else 121)) ⟨_, Tryd.func93, rfl, rfl⟩ ?_
  refine ACalls_body Tryd.func93 rfl rfl ?_
  refine AW_seq ?_
  refine AW_reg [1] fun K hK => ?_ -- region 0
  simp [init_eq, V.cells]
  obtain ⟨H1, e1, hp, hn, ho⟩ := H.boxed t.cells
  rw [e1]
  refine hK _ _ ?_; clear hK K
  refine AW_seq ?_
  refine AW_seq ?_
  refine AW_regto [20] ⟨21, [(20, .b (!t.ok))]⟩ H1 (fun K hk => ?_) ?_ -- region 1
  · simp [init_eq, afieldAddr, aload, hp]
    refine ACalls.mono (bwithin_ok ..) fun r H' ⟨hr, e⟩ => ?_ -- hallmoot/block.within
    subst hr e
    cases h1 : inR t.signer 0 9
    · simpa [Tmo.ok, h1] using hk
    simp [afieldAddr, aload, hp]
    refine ACalls.mono (bwithin_ok ..) fun r H' ⟨hr, e⟩ => ?_ -- hallmoot/block.within
    subst hr e
    cases h2 : inR t.view 1 1048576
    · simpa [Tmo.ok, h1, h2] using hk
    simp [afieldAddr, aload, hp, Tmo.high_cells]
    refine ACalls.mono (bopen_ok ..) fun r H' ⟨hr, e⟩ => ?_ -- hallmoot/block.open
    subst hr e
    cases h3 : openS t.high t.view <;> simpa [Tmo.ok, h1, h2, h3] using hk
  refine AW_cond' rfl rfl (fun hc => ?_) (fun hc => ?_)
  · refine AW_seq ?_
    refine AW_reg [2] fun K hK => ?_ -- region 2
    simp [init_eq]
    refine hK _ _ ?_; clear hK K
    have h : t.ok = false := by simpa using hc
    refine AW_ret (end_ret rfl (pure_end hn ho ?_ rfl))
    simp [h]
  · refine AW_skip ?_
    refine AW_seq ?_
    refine AW_reg [2] fun K hK => ?_ -- region 3
    simp [init_eq]
    refine hK _ _ ?_; clear hK K
    have h : t.ok = true := by simpa using hc
    refine AW_ret (end_ret rfl (pure_end hn ho ?_ rfl))
    simp [h]
theorem inR_le (n a b : Int) : inR n a b = (decide (a ≤ n) && decide (n ≤ b)) := by simp [inR]
end Go.Proofs.YtoccjilbfkhmoaaDoor
