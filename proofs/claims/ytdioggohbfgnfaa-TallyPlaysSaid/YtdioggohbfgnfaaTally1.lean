/-
  Package tally: New, kept, Vote; cert.Plain.
-/
import Derived.Test.YtdioggohbfgnfaaCert
import Derived.Test.YtdioggohbfgnfaaAbsC
set_option linter.unusedVariables false
set_option linter.unusedSimpArgs false
namespace Go.Proofs.Ytdioggohbfgnfaa
open Go Go.Abs Go.Proofs
set_option maxRecDepth 100000
attribute [local irreducible] AEnd AW ACalls

theorem ares_cell {P : Program} {H : AH} {ρ : Env} {a t : Nat} {v : V} (h : aload P H t (ρ.get a) = some v) : ares1 P H ρ [.cell a t] = some v := by simp [ares1, ares, h]
theorem ares_cell_tmp {P : Program} {H : AH} {ρ : Env} {a t u : Nat} {v : V} (h : aload P H t (ρ.get a) = some v) : ares1 P H ρ [.cell a t, .tmp u] = some (.tup [v, ρ.get u]) := by simp [ares1, ares, h]
@[simp] theorem Cert.lts (n : Nat) (c : Cert) : V.lts n c.cells = true := by simp [Cert.cells, u32]
@[simp] theorem u32_lt' (n : Nat) (s : BitVec 32) : V.lt n (u32 s) = true := rfl
@[simp] theorem Cert.sp6 (x : Cert) (s : BitVec 32) : splice x.cells 6 [u32 s] = Cert.cells { x with signers := s } := rfl
@[simp] theorem Cert.sp7 (x : Cert) (s : BitVec 32) : splice x.cells 7 [u32 s] = Cert.cells { x with coin := s } := rfl
@[simp] theorem Cert.sp0 (x y : Cert) : splice x.cells 0 y.cells = y.cells := by
  obtain ⟨a, b, c, d, e, f, g, h⟩ := x
  obtain ⟨a', b', c', d', e', f', g', h'⟩ := y
  rfl
/-- Without sets. -/
def Cert.plain (c : Cert) : Cert := { c with signers := 0#32, coin := 0#32 }
theorem plain_ok (H : AH) (c : Cert) : ACalls Try.prog 29 [.agg c.cells] H fun r H' => r = .agg c.plain.cells ∧ H' = H := by
  refine ACalls.pure (Q := fun r => r = .agg c.plain.cells) ⟨_, Try.func29, rfl, rfl⟩ ?_
  refine ACalls_body Try.func29 rfl rfl ?_
  refine AW_seq ?_
  refine AW_reg [1, 2] fun K hK => ?_ -- region 0
  simp [init_eq, V.cells]
  generalize hH1 : (H.new (.cells c.cells 0 false 0)).new (.cells _ 0 false 0) = H1
  have h3 : H1.get H.next = some (.cells c.cells 0 false 0) := by
    rw [← hH1]; simp [AH.get_new]
  have h4 : H1.get (H.next + 1) = some (.cells Cert.zero.cells 0 false 0) := by
    rw [← hH1]; simp [AH.get_new]
  have hn : H1.next = H.next + 2 := by rw [← hH1]; simp
  have ho : ∀ j, j < H.next → H1.get j = H.get j := fun j hj => by
    rw [← hH1, AH.get_new, if_neg (by simp; omega), AH.get_new, if_neg (by omega)]
  refine hK _ _ ?_; clear hK K
  refine AW_seq ?_
  refine AW_reg [1, 2] fun K hK => ?_ -- region 1
  simp [init_eq, afieldAddr, astore, h3, AH.get_set, hn]
  refine hK _ _ ?_; clear hK K
  refine AW_seq ?_
  refine AW_reg [2] fun K hK => ?_ -- region 2
  simp [init_eq, aload, astore, h4, AH.get_set, hn, take_cells, V.cells]
  refine hK _ _ ?_; clear hK K
  refine AW_ret (end_ret (ares_cell (v := .agg c.plain.cells) ?_) ?_)
  · simp [aload, AH.get_set, hn, take_cells, Cert.plain]
  · refine ⟨rfl, by simp, by simp [hn], fun j hj => ?_⟩
    simp [AH.get_set, hn, show j ≠ H.next by omega, show j ≠ H.next + 1 by omega, ho j hj]
/-- The memory with a new tally. -/
def newT (H : AH) (f : Int) : AH := ((((H.new (.map [] 0)).new (.map [] 0)).new (.map [] 0)).new (.map [] 0)).new (.cells [.i .i64 f, .i .i64 1, .m (some H.next), .m (some (H.next + 1)), .m (some (H.next + 2)), .m (some (H.next + 3))] 0 false 0)
theorem new_ok (H : AH) (f : Int) : ACalls Try.prog 8 [.i .i64 f] H fun r H' =>
    (qtimes 3 f = 0 ∧ r = .tup [.p none, .i .i64 1] ∧ H' = H) ∨ (qtimes 3 f ≠ 0 ∧ r = .tup [.p (some (H.next + 4, 0, 0)), .i .i64 0] ∧ H' = newT H f) := by
  refine ACalls_body Try.func8 rfl rfl ?_
  refine AW_seq ?_
  refine AW_reg [0] fun K hK => ?_ -- region 0
  simp [init_eq]
  refine hK _ _ ?_; clear hK K
  refine AW_seq ?_
  refine AW_seq ?_
  refine AW_reg [0, 6] fun K hK => ?_ -- region 1
  simp [init_eq]
  refine ACalls.mono (all_ok ..) fun r H' ⟨hr, e⟩ => ?_ -- hallmoot/quorum.All
  subst hr e
  simp
  refine hK _ _ ?_; clear hK K
  refine AW_cond' rfl rfl (fun hc => ?_) (fun hc => ?_)
  · refine AW_seq ?_
    refine AW_reg [2, 3] fun K hK => ?_ -- region 2
    simp [init_eq]
    refine hK _ _ ?_; clear hK K
    refine AW_ret (end_ret rfl ?_)
    exact .inl ⟨by simpa using hc, rfl, rfl⟩
  · refine AW_skip ?_
    refine AW_seq ?_
    refine AW_reg [2, 3] fun K hK => ?_ -- region 3
    simp [init_eq, abuild, afill, splice, V.cells]
    refine hK _ _ ?_; clear hK K
    refine AW_ret (end_ret rfl ?_)
    exact .inr ⟨by simpa using hc, rfl, rfl⟩
/-- Is a view one that is kept? -/
def keptE (fr view : Int) : Int := if view < fr then 151 else if 16 ≤ view - fr then 101 else 0
theorem kept_ok (H : AH) {id : Nat} {va vb vc vd ve : V} {fr view : Int} (h : H.get id = some (.cells [va, .i .i64 fr, vb, vc, vd, ve] 0 false 0)) (hf : 1 ≤ fr) (hv : view ≤ 9223372036854775807) :
    ACalls Try.prog 28 [.p (some (id, 0, 0)), .i .i64 view] H fun r H' => r = .i .i64 (keptE fr view) ∧ H' = H := by
  refine ACalls_body Try.func28 rfl rfl ?_
  refine AW_seq ?_
  refine AW_reg [0, 1] fun K hK => ?_ -- region 0
  simp [init_eq]
  refine hK _ _ ?_; clear hK K
  refine AW_seq ?_
  refine AW_block ?_
  refine AW_seq ?_
  refine AW_reg [0, 1, 5] fun K hK => ?_ -- region 1
  simp [init_eq, afieldAddr, aload, h]
  refine hK _ _ ?_; clear hK K
  refine AW_cond' rfl rfl (fun hc => ?_) (fun hc => ?_)
  · have h2 : view < fr := by simpa using hc
    refine AW_seq ?_
    refine AW_reg [4] fun K hK => ?_ -- region 2
    simp [init_eq]
    refine hK _ _ ?_; clear hK K
    refine AW_ret (end_ret rfl ?_)
    simp [keptE, h2]
  · have h2 : ¬ view < fr := by simpa using hc
    refine AW_seq ?_
    refine AW_reg [12] fun K hK => ?_ -- region 3
    simp [init_eq, afieldAddr, aload, h, wrap_id (x := view - fr) (by omega) (by omega)]
    refine hK _ _ ?_; clear hK K
    refine AW_cond' rfl rfl (fun hc => ?_) (fun hc => ?_)
    · have h3 : 16 ≤ view - fr := by simpa using hc
      refine AW_seq ?_
      refine AW_reg [4] fun K hK => ?_ -- region 4
      simp [init_eq]
      refine hK _ _ ?_; clear hK K
      refine AW_ret (end_ret rfl ?_)
      simp [keptE, h2, h3]
    · have h3 : ¬ 16 ≤ view - fr := by simpa using hc
      refine AW_skip ?_
      refine AW_seq ?_
      refine AW_reg [4] fun K hK => ?_ -- region 5
      simp [init_eq]
      refine hK _ _ ?_; clear hK K
      refine AW_ret (end_ret rfl ?_)
      simp [keptE, h2, h3]
end Go.Proofs.Ytdioggohbfgnfaa
