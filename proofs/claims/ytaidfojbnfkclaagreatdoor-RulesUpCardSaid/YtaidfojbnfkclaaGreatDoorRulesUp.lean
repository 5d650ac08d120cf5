/-
  RulesUp: the law says true of every certificate and every block.
-/
import Derived.Test.YtaidfojbnfkclaaGreatDoorRules1
import Derived.Test.YtaidfojbnfkclaaGreatDoorRulesAlive
import Derived.Test.YtaidfojbnfkclaaGreatDoorCheck2
set_option linter.unusedVariables false
set_option linter.unusedSimpArgs false
namespace Go.Proofs.YtaidfojbnfkclaaGreatDoor
open Go Go.Abs Go.Proofs
set_option maxRecDepth 100000
attribute [local irreducible] AEnd AW ACalls

theorem err_round {b : Blk} (h : b.err = 0) : b.round = IntKind.i64.wrap (b.parent.round + 1) := by
  unfold Blk.err at h
  split at h
  · split at h
    · rename_i hp
      unfold Blk.parentOk at hp
      simp only [Bool.and_eq_true, decide_eq_true_eq] at hp
      simp_all
    · cases h
  · cases h
theorem commits_what {c : Cert} {b : Blk} (h : commitsB c b = true) : b.parent.view = c.view ∧ b.parent.kind = c.kind ∧ ¬ c.kind = 0 := by
  simp only [commitsB, Cert.endorsed, Bool.and_eq_true, Bool.or_eq_true, decide_eq_true_eq] at h
  obtain ⟨h0, h⟩ := h
  refine ⟨h0, ?_, ?_⟩
  · omega
  · omega
@[simp] theorem Blk.p4 (b : Blk) (pv tv : V) : (b.cells pv tv)[4]? = some (.i .i64 b.parent.kind) := rfl
@[simp] theorem Blk.p5 (b : Blk) (pv tv : V) : (b.cells pv tv)[5]? = some (.i .i64 b.parent.block) := rfl
@[simp] theorem Blk.p6 (b : Blk) (pv tv : V) : (b.cells pv tv)[6]? = some (.i .i64 b.parent.view) := rfl
@[simp] theorem Blk.p7 (b : Blk) (pv tv : V) : (b.cells pv tv)[7]? = some (.i .i64 b.parent.round) := rfl
theorem rulesup_law (H : AH) (c : Cert) {b : Blk} {pv tv : V} (hb : BlkAt H b pv tv) (hs : b.fits) : ACalls Tryz.prog 4 [.agg c.cells, .agg (b.cells pv tv)] H fun r H' => r = .b true := by
  refine ACalls_body Tryz.func4 rfl rfl ?_
  refine AW_seq ?_
  refine AW_reg [2, 3] fun K hK => ?_ -- region 0
  simp [init_eq, V.cells]
  obtain ⟨H1, e1, hp, hp2, hn, ho⟩ := H.boxed2 c.cells (b.cells pv tv)
  rw [e1]
  refine hK _ _ ?_; clear hK K
  have hb1 := hb.same ho
  refine AW_seq ?_
  refine AW_seq ?_
  refine AW_reg [2, 3, 9] fun K hK => ?_ -- region 1
  simp [init_eq]
  refine ACalls.mono (alive_ok ..) fun r H' ⟨hr, e⟩ => ?_ -- hallmoot/hallmootlaw21.alive
  subst hr e
  simp
  refine hK _ _ ?_; clear hK K
  refine AW_cond' rfl rfl (fun hc => ?_) (fun hc => ?_)
  · cases hc
  refine AW_skip ?_
  refine AW_seq ?_
  refine AW_reg [2, 3, 5, 6] fun K hK => ?_ -- region 3
  simp [init_eq, aload, hp, hp2, blk_take, take_cells]
  refine ACalls.mono (commits_ok H' c hb1) fun r H2 ⟨hr, e⟩ => ?_ -- hallmoot/rules.Commits
  subst hr e
  simp [commitsV]
  refine hK _ _ ?_; clear hK K
  refine AW_seq ?_
  refine AW_seq ?_
  refine AW_reg [2, 3, 5, 17] fun K hK => ?_ -- region 4
  simp [init_eq]
  refine hK _ _ ?_; clear hK K
  refine AW_cond' rfl rfl (fun hc => ?_) (fun hc => ?_)
  · have h : commitsB c b = false := by simpa using hc
    refine AW_seq ?_
    refine AW_reg [4] fun K hK => ?_ -- region 5
    simp [init_eq]
    refine hK _ _ ?_; clear hK K
    refine AW_ret (end_ret rfl ?_)
    simp [h]
  · have h : commitsB c b = true := by simpa using hc
    obtain ⟨g1, g2, g3⟩ := commits_what h
    refine AW_skip ?_
    refine AW_seq ?_
    refine AW_regto [2, 3, 5, 7] ⟨61, [(2, .p (some (H.next, 0, 0))), (3, .p (some (H.next + 1, 0, 0))), (5, .i .i64 b.parent.block), (7, .b true)]⟩ H2 (fun K hk => ?_) ?_ -- region 6
    · simp [init_eq, aload, hp2, blk_take, h]
      refine ACalls.mono (bcheck_ok H2 hb1 hs) fun r H' ⟨hr, e⟩ => ?_ -- hallmoot/block.Check
      subst hr e
      by_cases h0 : b.err = 0
      · have hr := err_round h0
        simpa [h0, afieldAddr, aload, hp2, ← hr] using hk
      · simpa [h0] using hk
    refine AW_seq ?_
    refine AW_reg [4] fun K hK => ?_ -- region 7
    simp [init_eq, afieldAddr, aload, hp, hp2, g1, g2, g3]
    refine hK _ _ ?_; clear hK K
    refine AW_ret (end_ret rfl ?_)
    simp
theorem tv_tx_fits {H : AH} {n : Nat} {t : Tx} (h : TV Tryz.prog H (n + 2) 75 t.cells) : t.fits := by
  obtain ⟨x1, e1, b1⟩ := (h.fld Tryz.underlying75 1 rfl rfl rfl cellsOf_9).str Tryz.underlying9
  obtain ⟨x2, e2, b2⟩ := (h.fld Tryz.underlying75 2 rfl rfl rfl cellsOf_9).str Tryz.underlying9
  obtain ⟨x3, e3, b3⟩ := (h.fld Tryz.underlying75 3 rfl rfl rfl cellsOf_9).str Tryz.underlying9
  obtain ⟨x4, e4, b4⟩ := (h.fld Tryz.underlying75 4 rfl rfl rfl cellsOf_9).str Tryz.underlying9
  simp [Tx.cells] at e1 e2 e3 e4
  subst e1 e2 e3 e4
  exact ⟨b1, b2, b3, b4⟩
/-- A block as an argument: no list and no text of it is longer than a machine holds. -/
theorem tv_blk_fits {H : AH} {n : Nat} {l : List V} (h : TV Tryz.prog H (n + 5) 28 l) : ∃ (b : Blk) (pv tv : V), l = b.cells pv tv ∧ BlkAt H b pv tv ∧ b.fits := by
  obtain ⟨x0, e0, _⟩ := (h.fld Tryz.underlying28 0 rfl rfl rfl cellsOf_3).int Tryz.underlying3
  obtain ⟨x1, e1, _⟩ := (h.fld Tryz.underlying28 1 rfl rfl rfl cellsOf_3).int Tryz.underlying3
  obtain ⟨x2, e2, _⟩ := (h.fld Tryz.underlying28 2 rfl rfl rfl cellsOf_3).int Tryz.underlying3
  obtain ⟨x3, e3, _⟩ := (h.fld Tryz.underlying28 3 rfl rfl rfl cellsOf_3).int Tryz.underlying3
  obtain ⟨c, e4⟩ := tv_cert (h.fld Tryz.underlying28 4 rfl rfl rfl cellsOf_24)
  obtain ⟨pv, lp, e5, _, hp, hp2, b5⟩ := (h.fld Tryz.underlying28 5 rfl rfl rfl cellsOf_25).rs Tryz.underlying25 cellsOf_68
  obtain ⟨tv, lt, e6, _, ht, ht2, b6⟩ := (h.fld Tryz.underlying28 6 rfl rfl rfl cellsOf_26).rs Tryz.underlying26 cellsOf_75
  obtain ⟨ps, rfl⟩ := exists_map (f := Tmo.cells) fun l hl => tv_tmo (hp2 l hl)
  obtain ⟨ts, rfl⟩ := exists_map (f := Tx.cells) fun l hl => tv_tx (ht2 l hl)
  have k5 : 1 ≤ Tryz.prog.bytesOf 68 := Nat.le_of_ble_eq_true (by kernel_rfl)
  have k6 : 1 ≤ Tryz.prog.bytesOf 75 := Nat.le_of_ble_eq_true (by kernel_rfl)
  rw [List.length_map] at b5 b6
  have m5 := Nat.le_trans (Nat.le_mul_of_pos_right ps.length k5) b5
  have m6 := Nat.le_trans (Nat.le_mul_of_pos_right ts.length k6) b6
  have hl := h.size Tryz.underlying28 cellsOf_28
  refine ⟨⟨x0, x1, x2, x3, c, ps, ts⟩, pv, tv, ?_, ⟨hp, ht⟩, ⟨m5, m6, fun t hx => tv_tx_fits (ht2 _ (List.mem_map_of_mem hx))⟩⟩
  rcases l with _ | ⟨a0, _ | ⟨a1, _ | ⟨a2, _ | ⟨a3, l⟩⟩⟩⟩ <;> simp at hl
  simp at e0 e1 e2 e3 e4 e5 e6
  have e7 : l = (l.take 8) ++ ((l.drop 8).take 1 ++ (l.drop 9).take 1) := by
    rcases l with _ | ⟨a0, _ | ⟨a1, _ | ⟨a2, _ | ⟨a3, _ | ⟨a4, _ | ⟨a5, _ | ⟨a6, _ | ⟨a7, _ | ⟨a8, _ | ⟨a9, l⟩⟩⟩⟩⟩⟩⟩⟩⟩⟩ <;> simp at hl
    subst hl; rfl
  rw [e7, e4, e5, e6, e0, e1, e2, e3]
  rfl
theorem rulesUp_law (H : AH) (vs : List V) (hv : TVals Tryz.prog H Tryz.f4.params.toList vs) : ACalls Tryz.prog 4 vs H fun r _ => r = .b true := by
  have hv' : TVals Tryz.prog H [24, 28] vs := hv
  clear hv
  rcases vs with _ | ⟨a, _ | ⟨b, _ | ⟨z, r⟩⟩⟩
  · exact hv'.elim
  · exact hv'.2.elim
  · obtain ⟨l, rfl, _, h⟩ := hv'.1.struct Tryz.underlying24 cellsOf_24
    obtain ⟨c, rfl⟩ := tv_cert h
    obtain ⟨l, rfl, _, h⟩ := hv'.2.1.struct Tryz.underlying28 cellsOf_28
    obtain ⟨y, pb, tb, rfl, hb, hs⟩ := tv_blk_fits h
    exact rulesup_law H c hb hs
  · exact hv'.2.2.elim
end Go.Proofs.YtaidfojbnfkclaaGreatDoor
