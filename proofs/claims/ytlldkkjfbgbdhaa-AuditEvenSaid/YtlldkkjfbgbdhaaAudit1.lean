/-
  What the functions of package audit that AuditEven calls give.
-/
import Derived.Test.YtlldkkjfbgbdhaaAuditFacts
import Derived.Test.YtlldkkjfbgbdhaaAbsMore
set_option linter.unusedVariables false
set_option linter.unusedSimpArgs false
namespace Go.Proofs.Ytlldkkjfbgbdhaa
open Go Go.Abs Go.Proofs
set_option maxRecDepth 100000
attribute [local irreducible] AEnd AW ACalls

def ints (l : List Int) : List (List V) := l.map fun x => [.i .i64 x]

theorem equal_ok (H : AH) {va vb : V} {a b : List Int} (ha : RS H va 1 (ints a)) (hb : RS H vb 1 (ints b)) (hla : a.length < 1000000) (hlb : b.length < 1000000) :
    ACalls Try.prog 11 [va, vb] H fun r H' => r = .b (decide (a = b)) ∧ H' = H := by
  have la := ha.len (P := Try.prog) (H' := H) qelem_22
  have lb := hb.len (P := Try.prog) (H' := H) qelem_22
  simp only [ints, List.length_map] at la lb
  refine ACalls_body Try.func11 rfl rfl ?_
  refine AW_seq ?_
  refine AW_reg [0, 1, 4] fun K hK => ?_ -- region 0
  simp [init_eq]
  refine hK _ _ ?_; clear hK K
  refine AW_seq ?_
  refine AW_seq ?_
  refine AW_reg [0, 1, 10] fun K hK => ?_ -- region 1
  simp [init_eq, la, lb]
  refine hK _ _ ?_; clear hK K
  refine AW_cond' rfl rfl (fun hc => ?_) (fun hc => ?_)
  · refine AW_seq ?_
    refine AW_reg [4] fun K hK => ?_ -- region 2
    simp [init_eq]
    refine hK _ _ ?_; clear hK K
    refine AW_ret (end_ret rfl ?_)
    have hne : a.length ≠ b.length := by simp at hc; omega
    have : a ≠ b := fun e => hne (by rw [e])
    simp [this]
  · refine AW_skip ?_
    have hab : a.length = b.length := by simp at hc; omega
    refine AW_seq ?_
    refine AW_seq ?_
    refine AW_reg [0, 1, 12, 13] fun K hK => ?_ -- region 3
    simp [init_eq, la]
    refine hK _ _ ?_; clear hK K
    refine AW_block ?_
    refine AW_loop0 (fun i : Nat => ⟨26, [(0, va), (1, vb), (12, .i .i64 a.length), (13, .i .i64 i)]⟩) (fun i => i ≤ a.length ∧ a.take i = b.take i) (fun i => a.length - i) 0 (by simp) (by simp) (Nat.le_refl _) fun hw i hi => ?_
    obtain ⟨hi, hp⟩ := hi
    refine AW_seq ?_
    refine AW_reg [0, 1, 12, 13, 14] fun K hK => ?_ -- region 4
    simp [init_eq]
    refine hK _ _ ?_; clear hK K
    refine AW_seq ?_
    refine AW_cond' rfl rfl (fun hc => ?_) (fun hc => ?_)
    · have hlt : i < a.length := by simpa using hc
      obtain ⟨xa, q1, q2⟩ := ha.at1 (P := Try.prog) qelem_22 qsize_3 qagg_3 (k := .i64) i (x := .i .i64 a[i]) (by simp [ints, hlt])
      obtain ⟨xb, q3, q4⟩ := hb.at1 (P := Try.prog) qelem_22 qsize_3 qagg_3 (k := .i64) i (x := .i .i64 (b[i]'(by omega))) (by simp [ints, show i < b.length by omega])
      refine AW_skip ?_
      refine AW_seq ?_
      refine AW_block ?_
      refine AW_seq ?_
      refine AW_reg [0, 1, 5, 12, 13] fun K hK => ?_ -- region 5
      simp [init_eq]
      refine hK _ _ ?_; clear hK K
      refine AW_seq ?_
      refine AW_regd [0, 1, 12, 13, 24] pl_11_6 pe_11_6 (by kernel_rfl) (by kernel_rfl) (by decide) fun K hK => ?_
      simp [init_eq, pl_11_6, q1, q2, q3, q4]
      refine hK _ _ ?_; clear hK K
      refine AW_cond' rfl rfl (fun hc => ?_) (fun hc => ?_)
      · refine AW_seq ?_
        refine AW_reg [4] fun K hK => ?_ -- region 7
        simp [init_eq]
        refine hK _ _ ?_; clear hK K
        refine AW_ret (end_ret rfl ?_)
        have hne : a[i] ≠ b[i]'(by omega) := by simpa using hc
        have : a ≠ b := fun e => hne (by subst e; rfl)
        simp [this]
      · have he : a[i] = b[i]'(by omega) := by simpa using hc
        refine AW_skip ?_
        refine AW_reg [0, 1, 12, 13] fun K hK => ?_ -- region 8
        simp [init_eq]
        refine hK _ _ ?_; clear hK K
        refine rend ⟨i + 1, by simp [wrap_id (x := (i : Int) + 1) (by omega) (by omega)], ⟨hlt, ?_⟩, by omega, .inl rfl⟩
        rw [List.take_succ_eq_append_getElem hlt, List.take_succ_eq_append_getElem (show i < b.length by omega), hp, he]
    · have hge : ¬ i < a.length := by simpa using hc
      refine AW_exit (then_exit (then_exit (block_here ?_)))
      refine AW_seq ?_
      refine AW_reg [4] fun K hK => ?_ -- region 9
      simp [init_eq]
      refine hK _ _ ?_; clear hK K
      refine AW_ret (end_ret rfl ?_)
      have e1 : i = a.length := by omega
      subst e1
      have : a = b := by
        have h1 : a.take a.length = a := List.take_length ..
        have h2 : b.take a.length = b := by rw [hab]; exact List.take_length ..
        rw [← h1, hp, h2]
      simp [this]

theorem prefix_ok (H : AH) {va vb : V} {a b : List Int} (ha : RS H va 1 (ints a)) (hb : RS H vb 1 (ints b)) (hla : a.length < 1000000) (hlb : b.length < 1000000) :
    ACalls Try.prog 7 [va, vb] H fun r H' => r = .b (decide (a.take (min a.length b.length) = b.take (min a.length b.length))) ∧ H' = H := by
  have la := ha.len (P := Try.prog) (H' := H) qelem_22
  have lb := hb.len (P := Try.prog) (H' := H) qelem_22
  simp only [ints, List.length_map] at la lb
  refine ACalls_body Try.func7 rfl rfl ?_
  refine AW_seq ?_
  refine AW_reg [0, 1] fun K hK => ?_ -- region 0
  simp [init_eq]
  refine hK _ _ ?_; clear hK K
  refine AW_seq ?_
  refine AW_regto [0, 1, 5] ⟨18, [(0, va), (1, vb), (5, .i .i64 (min a.length b.length : Nat))]⟩ H (fun K hk => ?_) ?_
  · simp [init_eq, la, lb, amin2]
    have : (if b.length < a.length then (b.length : Int) else a.length) = (min a.length b.length : Nat) := by split <;> omega
    rw [this]; exact hk
  · obtain ⟨xa, q1, q2⟩ := ha.slice (P := Try.prog) qelem_22 qsize_3 (lo := none) (hi := some (.i .i64 (min a.length b.length : Nat))) (k := 0) (m := min a.length b.length) (by simp [abound, ints]; omega) (by simp [abound]) (by omega) (by simp [ints]; omega)
    obtain ⟨xb, q3, q4⟩ := hb.slice (P := Try.prog) qelem_22 qsize_3 (lo := none) (hi := some (.i .i64 (min a.length b.length : Nat))) (k := 0) (m := min a.length b.length) (by simp [abound, ints]; omega) (by simp [abound]) (by omega) (by simp [ints]; omega)
    have q2' : RS H xa 1 (ints (a.take (min a.length b.length))) := by simpa [ints] using q2
    have q4' : RS H xb 1 (ints (b.take (min a.length b.length))) := by simpa [ints] using q4
    refine AW_seq ?_
    refine AW_regd [4] pl_7_2 pe_7_2 (by kernel_rfl) (by kernel_rfl) (by decide) fun K hK => ?_
    simp [init_eq, pl_7_2, q1, q3]
    refine ACalls.mono (equal_ok H q2' q4' (by simp; omega) (by simp; omega)) fun r H' ⟨hr, e⟩ => ?_ -- slices.Equal[[]int,int]
    subst hr e
    refine hK _ _ ?_; clear hK K
    refine AW_ret (end_ret rfl ?_)
    simp
/-- Is it in the set? -/
def has (s : BitVec 32) (k : Int) : Bool := decide (0 ≤ k ∧ k < 32) && decide (s >>> k.toNat &&& 1#32 = 1#32)
theorem may_ok (H : AH) (k : Int) : ACalls Try.prog 16 [.i .i64 k] H fun r H' => r = .b (decide (0 ≤ k ∧ k < 32)) ∧ H' = H := by
  refine ACalls_body Try.func16 rfl rfl ?_
  refine AW_seq ?_
  refine AW_reg [0] fun K hK => ?_ -- region 0
  simp [init_eq]
  refine hK _ _ ?_; clear hK K
  refine AW_seq ?_
  refine AW_regto [2] ⟨9, [(2, .b (decide (0 ≤ k ∧ k < 32)))]⟩ H (fun K hk => ?_) (AW_ret (end_ret rfl ⟨rfl, rfl⟩))
  by_cases h0 : 0 ≤ k
  · simpa [init_eq, h0] using hk
  · simpa [init_eq, h0] using hk
theorem has_ok (H : AH) (s : BitVec 32) (k : Int) : ACalls Try.prog 10 [u32 s, .i .i64 k] H fun r H' => r = .b (has s k) ∧ H' = H := by
  refine ACalls_body Try.func10 rfl rfl ?_
  refine AW_seq ?_
  refine AW_reg [0, 1] fun K hK => ?_ -- region 0
  simp [init_eq]
  refine hK _ _ ?_; clear hK K
  refine AW_seq ?_
  refine AW_regto [4] ⟨14, [(4, .b (has s k))]⟩ H (fun K hk => ?_) (AW_ret (end_ret rfl ⟨rfl, rfl⟩))
  simp [init_eq]
  refine ACalls.mono (may_ok H k) fun r H' ⟨hr, e⟩ => ?_
  subst hr e
  by_cases h0 : 0 ≤ k ∧ k < 32
  · simp [h0]
    simpa [has, h0] using hk
  · simp only [h0, decide_false]
    simp
    simpa [has, h0] using hk

/-- A share: who signed, and the statement's kind, block, view, round, height, author, and four numbers more. -/
structure Sh where
  signer : Int
  kind : Int
  block : Int
  view : Int
  round : Int
  height : Int
  author : Int
  a : Int
  b : Int
  c : Int
  d : Int
  deriving DecidableEq
def Sh.stmt (x : Sh) : List V := [.i .i64 x.kind, .i .i64 x.block, .i .i64 x.view, .i .i64 x.round, .i .i64 x.height, .i .i64 x.author, .i .i64 x.a, .i .i64 x.b, .i .i64 x.c, .i .i64 x.d]
def Sh.cells (x : Sh) : List V := .i .i64 x.signer :: x.stmt
def clash (x y : Sh) : Bool :=
  if x = y ∨ x.signer ≠ y.signer ∨ x.kind ≠ y.kind ∨ x.view ≠ y.view then false
  else if x.kind = 2 then decide (x.round = y.round)
  else if x.kind = 4 then decide (x.author = y.author ∧ x.height = y.height)
  else if x.kind = 3 then true
  else if x.kind = 1 then decide (x.height = y.height ∧ (x.height > 0 ∨ x.round = y.round))
  else false
theorem sh_eq (x y : Sh) : ((x.signer == y.signer) && ((x.kind == y.kind) && ((x.block == y.block) && ((x.view == y.view) && ((x.round == y.round) && ((x.height == y.height) && ((x.author == y.author) && ((x.a == y.a) && ((x.b == y.b) && ((x.c == y.c) && ((x.d == y.d) && true))))))))))) = decide (x = y) := by
  by_cases h : x = y
  · subst h; simp
  · simp only [h, decide_false]
    cases x; cases y
    simp at h ⊢
    simpa using h
theorem sh_aeq (x y : Sh) : aeq Try.prog 30 (.agg x.cells) (.agg y.cells) = some (decide (x = y)) := by
  have := sh_eq x y
  simp only [Bool.and_true] at this
  simp [aeq, Sh.cells, Sh.stmt, fitsAll, CK.fits, ceqs, ceq, this]
@[simp] theorem cells_len (x : Sh) : x.cells.length = 11 := rfl
@[simp] theorem stmt_len (x : Sh) : x.stmt.length = 10 := rfl
@[simp] theorem cells_0 (x : Sh) : x.cells[0]? = some (.i .i64 x.signer) := rfl
@[simp] theorem stmt_0 (x : Sh) : x.stmt[0]? = some (.i .i64 x.kind) := rfl
@[simp] theorem stmt_2 (x : Sh) : x.stmt[2]? = some (.i .i64 x.view) := rfl
@[simp] theorem stmt_3 (x : Sh) : x.stmt[3]? = some (.i .i64 x.round) := rfl
@[simp] theorem stmt_4 (x : Sh) : x.stmt[4]? = some (.i .i64 x.height) := rfl
@[simp] theorem stmt_5 (x : Sh) : x.stmt[5]? = some (.i .i64 x.author) := rfl
end Go.Proofs.Ytlldkkjfbgbdhaa
