/-
  What a certificate of a block commits, twice.
-/
import Derived.Test.YtaidfojbnfkclaaGreatDoorArgBlk
set_option linter.unusedVariables false
set_option linter.unusedSimpArgs false
namespace Go.Proofs.YtaidfojbnfkclaaGreatDoor
open Go Go.Abs Go.Proofs
set_option maxRecDepth 100000
attribute [local irreducible] AEnd AW ACalls

/-- Does a certificate commit its block's parent? -/
def commitsB (c : Cert) (b : Blk) : Bool :=
  decide (b.parent.view = c.view) && (decide (c.kind = 1) && decide (b.parent.kind = 1) || c.endorsed && decide (1 < c.height) && decide (b.parent.kind = 2))
def commitsV (c : Cert) (b : Blk) : V := .tup [.i .i64 (if commitsB c b = true then b.parent.block else 0), .b (commitsB c b)]
/-- The block, the certificate and the parent, each in a block of its own. -/
structure Three (H H2 : AH) (c : Cert) (b : Blk) (pv tv : V) : Prop where
  cc : H2.get H.next = some (.cells c.cells 0 false 0)
  bb : H2.get (H.next + 1) = some (.cells (b.cells pv tv) 0 false 0)
  pp : H2.get (H.next + 2) = some (.cells b.parent.cells 0 false 0)
  next : H2.next = H.next + 3
  old : ∀ j, j < H.next → H2.get j = H.get j
theorem Three.mk' {H H1 : AH} {c : Cert} {b : Blk} {pv tv : V} {l : List V} {o : O} (h1 : H1.get H.next = some (.cells c.cells 0 false 0)) (h2 : H1.get (H.next + 1) = some (.cells (b.cells pv tv) 0 false 0)) (hn : H1.next = H.next + 2) (ho : ∀ j, j < H.next → H1.get j = H.get j) (hl : l = b.parent.cells) :
    Three H ((H1.new o).set (H.next + 2) (.cells l 0 false 0)) c b pv tv := by
  subst hl
  refine ⟨?_, ?_, ?_, ?_, fun j hj => ?_⟩
  · simp [AH.get_set, AH.get_new, hn, h1]
  · simp [AH.get_set, AH.get_new, hn, h2]
  · simp [AH.get_set, AH.get_new, hn]
  · simp [hn]
  · rw [AH.get_set_ne (by omega), AH.get_new, if_neg (by omega)]; exact ho j hj
theorem Three.end {H H2 : AH} {c : Cert} {b : Blk} {pv tv : V} (h : Three H H2 c b pv tv) {r : V} {Q : Prop} (hq : Q) (hl : V.lt H.next r = true) : Q ∧ V.lt H.next r = true ∧ H.next ≤ H2.next ∧ ∀ j, j < H.next → H2.get j = H.get j := pure_end h.next h.old hq hl

theorem commits_ok (H : AH) (c : Cert) {b : Blk} {pv tv : V} (hb : BlkAt H b pv tv) : ACalls Tryz.prog 8 [.agg c.cells, .agg (b.cells pv tv)] H fun r H' => r = commitsV c b ∧ H' = H := by
  refine ACalls.pure (Q := fun r => r = commitsV c b) ⟨_, Tryz.func8, rfl, rfl⟩ ?_
  refine ACalls_body Tryz.func8 rfl rfl ?_
  refine AW_seq ?_
  refine AW_reg [2, 3] fun K hK => ?_ -- region 0
  simp [init_eq, V.cells]
  obtain ⟨H1, e1, hp, hp2, hn, ho⟩ := H.boxed2 c.cells (b.cells pv tv)
  rw [e1]
  refine hK _ _ ?_; clear hK K
  refine AW_seq ?_
  refine AW_reg [2, 6] fun K hK => ?_ -- region 1
  simp [init_eq, afieldAddr, aload, hp, hp2, Blk.parent_cells, astore, AH.get_new, V.cells]
  refine hK _ _ ?_; clear hK K
  rw [hn]
  have T := Three.mk' (o := .cells Cert.zero.cells 0 false 0) (l := splice Cert.zero.cells 0 b.parent.cells) hp hp2 hn ho (splice_all rfl)
  generalize (H1.new _).set (H.next + 2) _ = H2 at T ⊢
  have hc2 := T.cc
  have hq2 := T.pp
  refine AW_seq ?_
  refine AW_block ?_
  refine AW_seq ?_
  refine AW_reg [2, 6, 9] fun K hK => ?_ -- region 2
  simp [init_eq, afieldAddr, aload, hc2, hq2]
  refine hK _ _ ?_; clear hK K
  refine AW_cond' rfl rfl (fun hc => ?_) (fun hc => ?_)
  · have h0 : ¬ b.parent.view = c.view := by simpa using hc
    refine AW_seq ?_
    refine AW_reg [4, 5] fun K hK => ?_ -- region 3
    simp [init_eq]
    refine hK _ _ ?_; clear hK K
    refine AW_ret (end_ret rfl (T.end ?_ rfl))
    simp [commitsV, commitsB, h0]
  · have h0 : b.parent.view = c.view := by simpa using hc
    refine AW_seq ?_
    refine AW_regto [2, 6, 15] ⟨41, [(2, .p (some (H.next, 0, 0))), (6, .p (some (H.next + 2, 0, 0))), (15, .b (decide (c.kind = 1) && decide (b.parent.kind = 1)))]⟩ H2 (fun K hk => ?_) ?_ -- region 4
    · by_cases h1 : c.kind = 1
      · simpa [init_eq, afieldAddr, aload, hc2, hq2, h1] using hk
      · simpa [init_eq, afieldAddr, aload, hc2, hq2, h1] using hk
    refine AW_cond' rfl rfl (fun hc => ?_) (fun hc => ?_)
    · have h1 : c.kind = 1 ∧ b.parent.kind = 1 := by simpa using hc
      refine AW_seq ?_
      refine AW_reg [4, 5] fun K hK => ?_ -- region 5
      simp [init_eq, afieldAddr, aload, hc2, hq2]
      refine hK _ _ ?_; clear hK K
      refine AW_ret (end_ret rfl (T.end ?_ rfl))
      simp [commitsV, commitsB, h0, h1]
    · have h1 : (decide (c.kind = 1) && decide (b.parent.kind = 1)) = false := by simpa using hc
      refine AW_seq ?_
      refine AW_regto [6, 26] ⟨41, [(6, .p (some (H.next + 2, 0, 0))), (26, .b (c.endorsed && decide (1 < c.height) && decide (b.parent.kind = 2)))]⟩ H2 (fun K hk => ?_) ?_ -- region 6
      · simp [init_eq, afieldAddr, aload, hc2, hq2, take_cells]
        refine ACalls.mono (endorsed_ok ..) fun r H' ⟨hr, e⟩ => ?_ -- hallmoot/cert.Endorsed
        subst hr e
        cases h2 : c.endorsed
        · simpa [h2] using hk
        by_cases h3 : 1 < c.height
        · simpa [h2, h3, afieldAddr, aload, hc2, hq2] using hk
        · simpa [h2, h3, afieldAddr, aload, hc2, hq2] using hk
      refine AW_cond' rfl rfl (fun hc => ?_) (fun hc => ?_)
      · have h2 : (c.endorsed && decide (1 < c.height) && decide (b.parent.kind = 2)) = true := by simpa using hc
        have hB : commitsB c b = true := by unfold commitsB; rw [h1, h2]; simp [h0]
        refine AW_seq ?_
        refine AW_reg [4, 5] fun K hK => ?_ -- region 7
        simp [init_eq, afieldAddr, aload, hc2, hq2]
        refine hK _ _ ?_; clear hK K
        refine AW_ret (end_ret rfl (T.end ?_ rfl))
        simp [commitsV, hB]
      · have h2 : (c.endorsed && decide (1 < c.height) && decide (b.parent.kind = 2)) = false := by simpa using hc
        have hB : commitsB c b = false := by unfold commitsB; rw [h1, h2]; simp
        refine AW_skip ?_
        show AW _ _ _ _ _ _
        refine AW_seq ?_
        refine AW_reg [4, 5] fun K hK => ?_ -- region 8
        simp [init_eq]
        refine hK _ _ ?_; clear hK K
        refine AW_ret (end_ret rfl (T.end ?_ rfl))
        simp [commitsV, hB]
/-- The document's. -/
theorem rcommits_ok (H : AH) (c : Cert) {b : Blk} {pv tv : V} (hb : BlkAt H b pv tv) : ACalls Tryz.prog 9 [.agg c.cells, .agg (b.cells pv tv)] H fun r H' => r = commitsV c b ∧ H' = H := by
  refine ACalls.pure (Q := fun r => r = commitsV c b) ⟨_, Tryz.func9, rfl, rfl⟩ ?_
  refine ACalls_body Tryz.func9 rfl rfl ?_
  refine AW_seq ?_
  refine AW_reg [2, 3] fun K hK => ?_ -- region 0
  simp [init_eq, V.cells]
  obtain ⟨H1, e1, hp, hp2, hn, ho⟩ := H.boxed2 c.cells (b.cells pv tv)
  rw [e1]
  refine hK _ _ ?_; clear hK K
  refine AW_seq ?_
  refine AW_reg [2, 6] fun K hK => ?_ -- region 1
  simp [init_eq, afieldAddr, aload, hp, hp2, Blk.parent_cells, astore, AH.get_new, V.cells]
  refine hK _ _ ?_; clear hK K
  rw [hn]
  have T := Three.mk' (o := .cells Cert.zero.cells 0 false 0) (l := splice Cert.zero.cells 0 b.parent.cells) hp hp2 hn ho (splice_all rfl)
  generalize (H1.new _).set (H.next + 2) _ = H2 at T ⊢
  have hc2 := T.cc
  have hq2 := T.pp
  refine AW_seq ?_
  refine AW_regto [2, 6, 7] ⟨50, [(2, .p (some (H.next, 0, 0))), (6, .p (some (H.next + 2, 0, 0))), (7, .b (decide (c.kind = 1) && decide (b.parent.kind = 1)))]⟩ H2 (fun K hk => ?_) ?_ -- region 2
  · by_cases h1 : c.kind = 1
    · simpa [init_eq, afieldAddr, aload, hc2, hq2, h1] using hk
    · simpa [init_eq, afieldAddr, aload, hc2, hq2, h1] using hk
  generalize hX : (decide (c.kind = 1) && decide (b.parent.kind = 1)) = X
  refine AW_seq ?_
  refine AW_regto [2, 6, 7, 8] ⟨50, [(2, .p (some (H.next, 0, 0))), (6, .p (some (H.next + 2, 0, 0))), (7, .b X), (8, .b (c.endorsed && decide (1 < c.height) && decide (b.parent.kind = 2)))]⟩ H2 (fun K hk => ?_) ?_ -- region 3
  · by_cases h1 : c.kind = 2
    case neg => simpa [init_eq, afieldAddr, aload, hc2, hq2, h1, Cert.endorsed] using hk
    by_cases h2 : c.coin = 0#32
    case pos => simpa [init_eq, afieldAddr, aload, hc2, hq2, h1, h2, Cert.endorsed] using hk
    by_cases h3 : 1 < c.height
    · have h3' : 2 ≤ c.height := by omega
      simpa [init_eq, afieldAddr, aload, hc2, hq2, h1, h2, h3, h3', Cert.endorsed] using hk
    · have h3' : ¬ 2 ≤ c.height := by omega
      simpa [init_eq, afieldAddr, aload, hc2, hq2, h1, h2, h3, h3', Cert.endorsed] using hk
  generalize hY : (c.endorsed && decide (1 < c.height) && decide (b.parent.kind = 2)) = Y
  have hB : commitsB c b = (decide (b.parent.view = c.view) && (X || Y)) := by unfold commitsB; rw [hX, hY]
  refine AW_seq ?_
  refine AW_seq ?_
  refine AW_regto [6, 47] ⟨50, [(6, .p (some (H.next + 2, 0, 0))), (47, .b (commitsB c b))]⟩ H2 (fun K hk => ?_) ?_ -- region 4
  · rw [hB] at hk
    by_cases h1 : b.parent.view = c.view
    · cases X
      · simpa [init_eq, afieldAddr, aload, hc2, hq2, h1] using hk
      · simpa [init_eq, afieldAddr, aload, hc2, hq2, h1] using hk
    · simpa [init_eq, afieldAddr, aload, hc2, hq2, h1] using hk
  refine AW_cond' rfl rfl (fun hc => ?_) (fun hc => ?_)
  · have h1 : commitsB c b = true := by simpa using hc
    refine AW_seq ?_
    refine AW_reg [4, 5] fun K hK => ?_ -- region 5
    simp [init_eq, afieldAddr, aload, hc2, hq2]
    refine hK _ _ ?_; clear hK K
    refine AW_ret (end_ret rfl (T.end ?_ rfl))
    simp [commitsV, h1]
  · have h1 : commitsB c b = false := by simpa using hc
    refine AW_skip ?_
    refine AW_seq ?_
    refine AW_reg [4, 5] fun K hK => ?_ -- region 6
    simp [init_eq]
    refine hK _ _ ?_; clear hK K
    refine AW_ret (end_ret rfl (T.end ?_ rfl))
    simp [commitsV, h1]
end Go.Proofs.YtaidfojbnfkclaaGreatDoor
