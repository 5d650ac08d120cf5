/-
  Package cert: what its functions give.
-/
import Derived.Test.YtoccjilbfkhmoaaDoorQuorum
set_option linter.unusedVariables false
set_option linter.unusedSimpArgs false
namespace Go.Proofs.YtoccjilbfkhmoaaDoor
open Go Go.Abs Go.Proofs
set_option maxRecDepth 100000
attribute [local irreducible] AEnd AW ACalls

def inR (n a b : Int) : Bool := decide (a ≤ n ∧ n ≤ b)
theorem within_ok (H : AH) (n a b : Int) : ACalls Tryd.prog 72 [.i .i64 n, .i .i64 a, .i .i64 b] H fun r H' => r = .b (inR n a b) ∧ H' = H := by
  refine ACalls_body Tryd.func72 rfl rfl ?_
  refine AW_seq ?_
  refine AW_reg [0, 1, 2] fun K hK => ?_ -- region 0
  simp [init_eq]
  refine hK _ _ ?_; clear hK K
  refine AW_seq ?_
  refine AW_regto [6] ⟨15, [(6, .b (inR n a b))]⟩ H (fun K hk => ?_) (AW_ret (end_ret rfl ⟨rfl, rfl⟩))
  by_cases h1 : a ≤ n
  · simpa [init_eq, h1, inR] using hk
  · simpa [init_eq, h1, inR] using hk
def setOk (s : BitVec 32) : Bool := decide (qcheck 3 s = 0)
theorem set_ok (H : AH) (s : BitVec 32) : ACalls Tryd.prog 73 [u32 s] H fun r H' => r = .b (setOk s) ∧ H' = H := by
  refine ACalls_body Tryd.func73 rfl rfl ?_
  refine AW_seq ?_
  refine AW_reg [0] fun K hK => ?_ -- region 0
  simp [init_eq]
  refine hK _ _ ?_; clear hK K
  refine AW_seq ?_
  refine AW_reg [2] fun K hK => ?_ -- region 1
  simp [init_eq]
  refine ACalls.mono (qcheck_ok H 3 s) fun r H' ⟨hr, e⟩ => ?_ -- hallmoot/quorum.Check
  subst hr e
  simp
  refine hK _ _ ?_; clear hK K
  refine AW_ret (end_ret rfl ?_)
  simp [setOk]
/-- A certificate. -/
structure Cert where
  kind : Int
  block : Int
  view : Int
  round : Int
  height : Int
  author : Int
  signers : BitVec 32
  coin : BitVec 32
  deriving DecidableEq
def Cert.cells (c : Cert) : List V := [.i .i64 c.kind, .i .i64 c.block, .i .i64 c.view, .i .i64 c.round, .i .i64 c.height, .i .i64 c.author, u32 c.signers, u32 c.coin]
def Cert.zero : Cert := ⟨0, 0, 0, 0, 0, 0, 0#32, 0#32⟩
@[simp] theorem Cert.len (x : Cert) : x.cells.length = 8 := rfl
@[simp] theorem Cert.c0 (x : Cert) : x.cells[0]? = some (.i .i64 x.kind) := rfl
@[simp] theorem Cert.c1 (x : Cert) : x.cells[1]? = some (.i .i64 x.block) := rfl
@[simp] theorem Cert.c2 (x : Cert) : x.cells[2]? = some (.i .i64 x.view) := rfl
@[simp] theorem Cert.c3 (x : Cert) : x.cells[3]? = some (.i .i64 x.round) := rfl
@[simp] theorem Cert.c4 (x : Cert) : x.cells[4]? = some (.i .i64 x.height) := rfl
@[simp] theorem Cert.c5 (x : Cert) : x.cells[5]? = some (.i .i64 x.author) := rfl
@[simp] theorem Cert.c6 (x : Cert) : x.cells[6]? = some (u32 x.signers) := rfl
@[simp] theorem Cert.c7 (x : Cert) : x.cells[7]? = some (u32 x.coin) := rfl
theorem take_cells (x : Cert) : x.cells.take 8 = x.cells := List.take_of_length_le (by simp)
theorem Cert.eq' (x y : Cert) : ((x.kind == y.kind) && ((x.block == y.block) && ((x.view == y.view) && ((x.round == y.round) && ((x.height == y.height) && ((x.author == y.author) && (((x.signers.toNat : Int) == y.signers.toNat) && ((x.coin.toNat : Int) == y.coin.toNat)))))))) = decide (x = y) := by
  by_cases h : x = y
  · subst h; simp
  · simp only [h, decide_false, toNat_inj]
    cases x; cases y
    simp at h ⊢
    simpa using h
@[simp] theorem Cert.aeq (x y : Cert) : aeq Tryd.prog 27 (.agg x.cells) (.agg y.cells) = some (decide (x = y)) := by
  have := Cert.eq' x y
  simp [Go.Abs.aeq, Cert.cells, fitsAll, CK.fits, ceqs, ceq, u32, this]
@[simp] theorem Cert.zeroCells : V.agg [.i .i64 0, .i .i64 0, .i .i64 0, .i .i64 0, .i .i64 0, .i .i64 0, u32 0#32, u32 0#32] = .agg Cert.zero.cells := rfl
def Cert.base (c : Cert) : Bool := inR c.block 1 2147483647 && inR c.view 1 1048576 && inR c.round 1 1073741824 && !decide (c.signers = 0#32) && setOk c.signers
def Cert.reg (c : Cert) : Bool := c.base && decide (c.height = 0) && decide (c.author = 0) && decide (c.coin = 0#32)
def Cert.fall (c : Cert) : Bool := c.base && inR c.height 1 3 && inR c.author 0 9 && setOk c.coin
def Cert.ok (c : Cert) : Bool :=
  if c.kind = 0 then decide (c = Cert.zero)
  else if c.kind = 1 then c.reg
  else if c.kind = 2 then c.fall
  else false
/-- What 'Check' says. -/
def Cert.check (c : Cert) : Int := if c.ok then 0 else 110
theorem check_ok (H : AH) (c : Cert) : ACalls Tryd.prog 51 [.agg c.cells] H fun r H' => r = .i .i64 c.check ∧ H' = H := by
  refine ACalls.pure (Q := fun r => r = .i .i64 c.check) ⟨_, Tryd.func51, rfl, rfl⟩ ?_
  refine ACalls_body Tryd.func51 rfl rfl ?_
  refine AW_seq ?_
  refine AW_reg [1] fun K hK => ?_ -- region 0
  simp [init_eq, V.cells]
  generalize hH1 : H.new (.cells c.cells 0 false 0) = H1
  have hp : H1.get H.next = some (.cells c.cells 0 false 0) := by rw [← hH1, AH.get_new_same]
  have u1 : Upd H H1 [] := hH1 ▸ Upd.new ..
  refine hK _ _ ?_; clear hK K
  refine AW_seq ?_
  refine AW_regto [1, 3] ⟨72, [(1, .p (some (H.next, 0, 0))), (3, .b c.base)]⟩ H1 (fun K hk => ?_) ?_
  · simp [init_eq, afieldAddr, aload, hp]
    refine ACalls.mono (within_ok ..) fun r H' ⟨hr, e⟩ => ?_ -- hallmoot/cert.within
    subst hr e
    cases h1 : inR c.block 1 2147483647
    · simpa [Cert.base, h1] using hk
    simp [afieldAddr, aload, hp]
    refine ACalls.mono (within_ok ..) fun r H2 ⟨hr, e⟩ => ?_ -- hallmoot/cert.within
    subst hr e
    cases h2 : inR c.view 1 1048576
    · simpa [Cert.base, h1, h2] using hk
    simp [afieldAddr, aload, hp]
    refine ACalls.mono (within_ok ..) fun r H2 ⟨hr, e⟩ => ?_ -- hallmoot/cert.within
    subst hr e
    cases h3 : inR c.round 1 1073741824
    · simpa [Cert.base, h1, h2, h3] using hk
    simp [afieldAddr, aload, hp]
    by_cases h4 : c.signers = 0#32
    · simpa [Cert.base, h1, h2, h3, h4] using hk
    simp [afieldAddr, aload, hp, h4]
    refine ACalls.mono (set_ok ..) fun r H2 ⟨hr, e⟩ => ?_ -- hallmoot/cert.set
    subst hr e
    cases h5 : setOk c.signers <;> simpa [Cert.base, h1, h2, h3, h4, h5] using hk
  refine AW_cutto ⟨72, [(3, .b c.ok)]⟩ H1 ?_ ?_
  · refine AW_seq ?_
    refine AW_reg [1, 3, 28] fun K hK => ?_ -- region 2
    simp [init_eq, afieldAddr, aload, hp]
    refine hK _ _ ?_; clear hK K
    refine AW_block ?_
    refine AW_seq ?_
    refine AW_reg [1, 3, 28, 29] fun K hK => ?_ -- region 4
    simp [init_eq]
    refine hK _ _ ?_; clear hK K
    refine AW_cond' rfl rfl (fun hc => ?_) (fun hc => ?_)
    · refine AW_reg [3] fun K hK => ?_ -- region 5
      simp [init_eq, aload, hp, abuild, afill, take_cells]
      refine hK _ _ ?_; clear hK K
      have h0 : c.kind = 0 := by simpa using hc
      exact ⟨by simp [Cert.ok, h0], rfl⟩
    · have h0 : c.kind ≠ 0 := by simpa using hc
      refine AW_seq ?_
      refine AW_reg [1, 3, 28, 34] fun K hK => ?_ -- region 6
      simp [init_eq]
      refine hK _ _ ?_; clear hK K
      refine AW_cond' rfl rfl (fun hc => ?_) (fun hc => ?_)
      · have h1 : c.kind = 1 := by simpa using hc
        refine AW_regto [3] ⟨72, [(3, .b c.reg)]⟩ H1 (fun K hk => ?_) ⟨by simp [Cert.ok, h1], rfl⟩ -- region 7
        cases g0 : c.base
        · simpa [init_eq, Cert.reg, g0] using hk
        simp [init_eq, afieldAddr, aload, hp]
        by_cases g1 : c.height = 0
        · simp [afieldAddr, aload, hp, g1]
          by_cases g2 : c.author = 0
          · simp [afieldAddr, aload, hp, g2]
            simpa [Cert.reg, g0, g1, g2] using hk
          · simpa [Cert.reg, g0, g1, g2] using hk
        · simpa [Cert.reg, g0, g1] using hk
      · have h1 : c.kind ≠ 1 := by simpa using hc
        refine AW_seq ?_
        refine AW_reg [1, 3, 52] fun K hK => ?_ -- region 8
        simp [init_eq]
        refine hK _ _ ?_; clear hK K
        refine AW_cond' rfl rfl (fun hc => ?_) (fun hc => ?_)
        · have h2 : c.kind = 2 := by simpa using hc
          refine AW_regto [3] ⟨72, [(3, .b c.fall)]⟩ H1 (fun K hk => ?_) ⟨by simp [Cert.ok, h2], rfl⟩ -- region 9
          cases g0 : c.base
          · simpa [init_eq, Cert.fall, g0] using hk
          simp [init_eq, afieldAddr, aload, hp]
          refine ACalls.mono (within_ok ..) fun r H2 ⟨hr, e⟩ => ?_ -- hallmoot/cert.within
          subst hr e
          cases g1 : inR c.height 1 3
          · simpa [Cert.fall, g0, g1] using hk
          simp [afieldAddr, aload, hp]
          refine ACalls.mono (within_ok ..) fun r H2 ⟨hr, e⟩ => ?_ -- hallmoot/cert.within
          subst hr e
          cases g2 : inR c.author 0 9
          · simpa [Cert.fall, g0, g1, g2] using hk
          simp [afieldAddr, aload, hp]
          refine ACalls.mono (set_ok ..) fun r H2 ⟨hr, e⟩ => ?_ -- hallmoot/cert.set
          subst hr e
          cases g3 : setOk c.coin <;> simpa [Cert.fall, g0, g1, g2, g3] using hk
        · have h2 : c.kind ≠ 2 := by simpa using hc
          refine AW_reg [3] fun K hK => ?_ -- region 3
          simp [init_eq]
          refine hK _ _ ?_; clear hK K
          exact ⟨by simp [Cert.ok, h0, h1, h2], rfl⟩
  · refine AW_seq ?_
    refine AW_seq ?_
    refine AW_reg [71] fun K hK => ?_ -- region 10
    simp [init_eq]
    refine hK _ _ ?_; clear hK K
    refine AW_cond' rfl rfl (fun hc => ?_) (fun hc => ?_)
    · refine AW_seq ?_
      refine AW_reg [2] fun K hK => ?_ -- region 11
      simp [init_eq]
      refine hK _ _ ?_; clear hK K
      refine AW_ret (end_ret rfl ?_)
      have hc' : c.ok = false := by simpa using hc
      exact ⟨by simp [Cert.check, hc'], rfl, u1.1, fun j hj => u1.2 j hj (by simp)⟩
    · refine AW_skip ?_
      refine AW_seq ?_
      refine AW_reg [2] fun K hK => ?_ -- region 12
      simp [init_eq]
      refine hK _ _ ?_; clear hK K
      refine AW_ret (end_ret rfl ?_)
      have hc' : c.ok = true := by simpa using hc
      exact ⟨by simp [Cert.check, hc'], rfl, u1.1, fun j hj => u1.2 j hj (by simp)⟩
end Go.Proofs.YtoccjilbfkhmoaaDoor
