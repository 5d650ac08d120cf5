/-
  Arguments of the states' laws: records; Great, far, New.
-/
import Derived.Test.YtoccjilbfkhmoaaDoorSaf9
set_option linter.unusedVariables false
set_option linter.unusedSimpArgs false
namespace Go.Proofs.YtoccjilbfkhmoaaDoor
open Go Go.Abs Go.Proofs
set_option maxRecDepth 100000
attribute [local irreducible] AEnd AW ACalls

theorem tv_srec {H : AH} {n : Nat} {l : List V} (h : TV Tryd.prog H (n + 3) 41 l) : ∃ r : SRec, l = r.cells := by
  obtain ⟨x0, e0, _⟩ := (h.fld Tryd.underlying41 0 rfl rfl rfl cellsOf_3).int Tryd.underlying3
  obtain ⟨c1, e1⟩ := tv_cert (h.fld Tryd.underlying41 1 rfl rfl rfl cellsOf_27)
  obtain ⟨c2, e2⟩ := tv_cert (h.fld Tryd.underlying41 2 rfl rfl rfl cellsOf_27)
  obtain ⟨x3, e3, b3⟩ := (h.fld Tryd.underlying41 3 rfl rfl rfl cellsOf_25).int Tryd.underlying25
  obtain ⟨x4, e4, _⟩ := (h.fld Tryd.underlying41 4 rfl rfl rfl cellsOf_3).int Tryd.underlying3
  obtain ⟨x5, e5, _⟩ := (h.fld Tryd.underlying41 5 rfl rfl rfl cellsOf_3).int Tryd.underlying3
  obtain ⟨x6, e6, _⟩ := (h.fld Tryd.underlying41 6 rfl rfl rfl cellsOf_3).int Tryd.underlying3
  obtain ⟨x7, e7, _⟩ := (h.fld Tryd.underlying41 7 rfl rfl rfl cellsOf_9).str Tryd.underlying9
  obtain ⟨s3, g3⟩ := u32_of b3.1 b3.2
  have hl := h.size Tryd.underlying41 cellsOf_41
  refine ⟨⟨x0, c1, c2, s3, x4, x5, x6, x7⟩, ?_⟩
  have hl : l.length = 22 := hl
  have e0 : (l.drop 0).take 1 = [.i .i64 x0] := e0
  have e1 : (l.drop 1).take 8 = c1.cells := e1
  have e2 : (l.drop 9).take 8 = c2.cells := e2
  have e3 : (l.drop 17).take 1 = [.i .u32 x3] := e3
  have e4 : (l.drop 18).take 1 = [.i .i64 x4] := e4
  have e5 : (l.drop 19).take 1 = [.i .i64 x5] := e5
  have e6 : (l.drop 20).take 1 = [.i .i64 x6] := e6
  have e7 : (l.drop 21).take 1 = [.s x7] := e7
  have cut : ∀ n m, l.drop n = (l.drop n).take m ++ l.drop (n + m) := fun n m => by
    rw [← List.drop_drop, List.take_append_drop]
  have d22 : l.drop 22 = [] := List.drop_eq_nil_of_le (by omega)
  have d : l = l.drop 0 := rfl
  rw [d, cut 0 1, cut (0 + 1) 8, cut (0 + 1 + 8) 8, cut (0 + 1 + 8 + 8) 1, cut (0 + 1 + 8 + 8 + 1) 1, cut (0 + 1 + 8 + 8 + 1 + 1) 1, cut (0 + 1 + 8 + 8 + 1 + 1 + 1) 1, cut (0 + 1 + 8 + 8 + 1 + 1 + 1 + 1) 1]
  show (l.drop 0).take 1 ++ ((l.drop 1).take 8 ++ ((l.drop 9).take 8 ++ ((l.drop 17).take 1 ++ ((l.drop 18).take 1 ++ ((l.drop 19).take 1 ++ ((l.drop 20).take 1 ++ ((l.drop 21).take 1 ++ l.drop 22))))))) = _
  rw [e0, e1, e2, e3, e4, e5, e6, e7, d22, g3]
  rfl
theorem sgreat_ok (H : AH) (r : SRec) : ACalls Tryd.prog 9 [.agg r.cells] H fun v H' => v = .b (decide (5000 < r.text.length)) ∧ H' = H := by
  refine ACalls.pure (Q := fun v => v = .b (decide (5000 < r.text.length))) ⟨_, Tryd.func9, rfl, rfl⟩ ?_
  refine ACalls_body Tryd.func9 rfl rfl ?_
  refine AW_seq ?_
  refine AW_reg [1] fun K hK => ?_ -- region 0
  simp [init_eq, V.cells]
  refine hK _ _ ?_; clear hK K
  obtain ⟨G, e1, g1, gn, go⟩ := H.boxed r.cells
  rw [e1]
  have f7 : afieldAddr Tryd.prog 41 7 (.p (some (H.next, 0, 0))) = some (.p (some (H.next, 0, 21))) := by simp [afieldAddr]
  repeat refine AW_seq ?_
  refine AW_reg [2] fun K hK => ?_ -- region 1
  simp [init_eq, f7, rec_at g1, alen]
  refine hK _ _ ?_; clear hK K
  exact AW_ret (end_ret rfl ⟨by simp; omega, rfl, by omega, go⟩)
/-- Are records more than are looked at? -/
def farB (l : List SRec) : Bool := decide (60 < l.length) || l.any fun r => decide (5000 < r.text.length)
theorem sfar_ok (H : AH) {v : V} (l : List SRec) (hv : RS H v 22 (l.map SRec.cells)) : ACalls Tryd.prog 5 [v] H fun x H' => x = .b (farB l) ∧ H' = H := by
  refine ACalls_body Tryd.func5 rfl rfl ?_
  refine AW_seq ?_
  refine AW_reg [0] fun K hK => ?_ -- region 0
  simp [init_eq]
  refine hK _ _ ?_; clear hK K
  refine AW_seq ?_
  refine AW_seq ?_
  refine AW_reg [0, 6] fun K hK => ?_ -- region 1
  simp [init_eq, hv.alen qelem_22]
  refine hK _ _ ?_; clear hK K
  refine AW_cond' rfl rfl (fun hc => ?_) (fun hc => ?_)
  · have h1 : 60 < l.length := by simp at hc; omega
    refine AW_seq ?_
    refine AW_reg [2] fun K hK => ?_ -- region 2
    simp [init_eq]
    refine hK _ _ ?_; clear hK K
    exact AW_ret (end_ret rfl ⟨by simp [farB, h1], rfl⟩)
  · have h1 : ¬ 60 < l.length := by simp at hc; omega
    refine AW_skip ?_
    refine AW_seq ?_
    refine AW_seq ?_
    refine AW_reg [0, 3] fun K hK => ?_ -- region 3
    simp [init_eq]
    refine hK _ _ ?_; clear hK K
    refine AW_block ?_
    refine AW_loop0 (fun i : Nat => ⟨18, [(0, v), (3, .i .i64 i)]⟩) (fun i => i ≤ l.length ∧ (l.take i).any (fun r => decide (5000 < r.text.length)) = false) (fun i => l.length - i) 0 (by simp) (by simp) (by dsimp only; omega) fun hw i ⟨hi, hno⟩ => ?_
    refine AW_seq ?_
    refine AW_seq ?_
    refine AW_reg [0, 3, 10] fun K hK => ?_ -- region 4
    simp [init_eq, hv.alen qelem_22]
    refine hK _ _ ?_; clear hK K
    refine AW_cond' rfl rfl (fun hc => ?_) (fun hc => ?_)
    · have hlt : i < l.length := by simpa using hc
      obtain ⟨ax, q1, q2⟩ := hv.rec SRec.len (by decide) (P := Tryd.prog) qelem_22 qsize_41 qagg_41 hlt
      refine AW_skip ?_
      refine AW_seq ?_
      refine AW_block ?_
      refine AW_seq ?_
      refine AW_reg [0, 3, 17] fun K hK => ?_ -- region 6
      simp [init_eq, q1, q2]
      refine ACalls.mono (sgreat_ok _ l[i]) fun x H' ⟨hr, e⟩ => ?_ -- hallmoot/hallmootref19.Great
      subst hr e
      try simp
      refine hK _ _ ?_; clear hK K
      refine AW_cond' rfl rfl (fun hc => ?_) (fun hc => ?_)
      · have hg : 5000 < l[i].text.length := by simpa using hc
        refine AW_seq ?_
        refine AW_reg [2] fun K hK => ?_ -- region 7
        simp [init_eq]
        refine hK _ _ ?_; clear hK K
        refine AW_ret (end_ret rfl ⟨?_, rfl⟩)
        have : l.any (fun r => decide (5000 < r.text.length)) = true := List.any_eq_true.2 ⟨l[i], List.getElem_mem hlt, by simpa using hg⟩
        simp [farB, this]
      · have hg : ¬ 5000 < l[i].text.length := by simpa using hc
        refine AW_skip ?_
        refine AW_reg [0, 3] fun K hK => ?_ -- region 5
        simp [init_eq, wrap_id (x := (i : Int) + 1) (by omega) (by omega)]
        refine hK _ _ ?_; clear hK K
        refine rend ⟨i + 1, by simp, ⟨by omega, ?_⟩, by omega, .inl rfl⟩ -- round's end
        rw [List.take_succ_eq_append_getElem hlt, List.any_append, hno]
        simpa using hg
    · have hi' : i = l.length := by
        have : ¬ i < l.length := by simpa using hc
        omega
      subst hi'
      rw [List.take_length] at hno
      refine AW_exit (then_exit (then_exit (block_here ?_)))
      refine AW_seq ?_
      refine AW_reg [2] fun K hK => ?_ -- region 8
      simp [init_eq]
      refine hK _ _ ?_; clear hK K
      exact AW_ret (end_ret rfl ⟨by simp [farB, h1, hno], rfl⟩)
def SSt.start (last : Int) : SSt := { SSt.zero with last := last, view := 1 }
def lastOk (last : Int) : Bool := decide (1 ≤ last) && decide (last ≤ 1048576)
theorem snew_ok (H : AH) (last : Int) : ACalls Tryd.prog 6 [.i .i64 last] H fun v H' =>
    v = (if lastOk last then .tup [.agg ((SSt.start last).cells nilV nilV nilV nilV), .i .i64 0] else .tup [.agg zeroS, .i .i64 1]) ∧ H' = H := by
  refine ACalls.pure (Q := fun v => v = (if lastOk last then .tup [.agg ((SSt.start last).cells nilV nilV nilV nilV), .i .i64 0] else .tup [.agg zeroS, .i .i64 1])) ⟨_, Tryd.func6, rfl, rfl⟩ ?_
  refine ACalls_body Tryd.func6 rfl rfl ?_
  refine AW_seq ?_
  refine AW_reg [0, 2] fun K hK => ?_ -- region 0
  simp [init_eq, V.cells]
  obtain ⟨G, e1, g1, gn, go⟩ := H.boxed zeroS
  change K _ (H.new (.cells zeroS 0 false 0))
  rw [e1]
  refine hK _ _ ?_; clear hK K
  have hst : ∀ s : SSt, astore Tryd.prog G 33 (.p (some (H.next, 0, 0))) (.agg (s.cells nilV nilV nilV nilV)) = some (G.set H.next (.cells (s.cells nilV nilV nilV nilV) 0 false 0)) := fun s => safe_store g1 s _ _ _ _
  have hend : ∀ s : SSt, H.next ≤ (G.set H.next (.cells (s.cells nilV nilV nilV nilV) 0 false 0)).next ∧ ∀ j, j < H.next → (G.set H.next (.cells (s.cells nilV nilV nilV nilV) 0 false 0)).get j = H.get j := fun s => ⟨by simp; omega, fun j hj => by rw [AH.get_set_ne (by omega)]; exact go j hj⟩
  refine AW_seq ?_
  refine AW_cutto ⟨13, [(0, .i .i64 last), (2, .p (some (H.next, 0, 0))), (9, .b (!lastOk last))]⟩ G ?_ ?_
  · refine AW_regto [0, 2, 9] ⟨13, [(0, .i .i64 last), (2, .p (some (H.next, 0, 0))), (9, .b (!lastOk last))]⟩ G (fun K hk => ?_) (rend ⟨rfl, rfl⟩) -- region 1
    by_cases h1 : last < 1
    · have h2 : lastOk last = false := by simp [lastOk]; omega
      simpa [init_eq, h1, h2] using hk
    · have h2 : (!lastOk last) = decide (1048576 < last) := by
        rw [Bool.eq_iff_iff]; simp [lastOk]; omega
      simpa [init_eq, h1, h2] using hk
  refine AW_cond' rfl rfl (fun hc => ?_) (fun hc => ?_)
  · have h0 : lastOk last = false := by simpa using hc
    refine AW_seq ?_
    refine AW_reg [2, 3] fun K hK => ?_ -- region 2
    have hz : astore Tryd.prog G 33 (.p (some (H.next, 0, 0))) (.agg zeroS) = some (G.set H.next (.cells zeroS 0 false 0)) := hst SSt.zero
    simp [init_eq, bzS, hz]
    refine hK _ _ ?_; clear hK K
    have := hend SSt.zero
    exact AW_ret (end_ret (ares_cell_tmp (v := .agg zeroS) (by simp [aload, AH.get_set_same (AH.get_lt g1)]; exact ⟨by decide, rfl⟩)) ⟨by rw [h0]; rfl, rfl, this⟩)
  · have h0 : lastOk last = true := by simpa using hc
    refine AW_skip ?_
    refine AW_seq ?_
    have hb : abuild Tryd.prog 33 [(0, .i .i64 last), (1, .i .i64 1)] = some (.agg ((SSt.start last).cells nilV nilV nilV nilV)) := by
      simp [abuild, afill, V.cells]
      exact ⟨by simp [splice], rfl⟩
    refine AW_reg [2, 3] fun K hK => ?_ -- region 3
    simp [init_eq, hb, hst]
    refine hK _ _ ?_; clear hK K
    have := hend (SSt.start last)
    exact AW_ret (end_ret (ares_cell_tmp (v := .agg ((SSt.start last).cells nilV nilV nilV nilV)) (by simp [aload, AH.get_set_same (AH.get_lt g1), SSt.take])) ⟨by rw [h0]; rfl, rfl, this⟩)
theorem start_ok {last : Int} (h : lastOk last = true) : (SSt.start last).Ok 0 := by
  simp [lastOk] at h
  exact ⟨List.Pairwise.nil, (fun c h => by cases h), Nat.le_refl _, List.Pairwise.nil, (fun c h => by cases h), Nat.le_refl _, Nat.le_refl _, Nat.zero_le _, Nat.zero_le _, Nat.zero_le _, Nat.zero_le _, Int.le_refl _, h.1, h.2, rfl⟩
theorem doR_zero {s : SSt} {r : SRec} (h : (s.doR r).2 = 0) : r.form = 0 ∧ s.mayE r = 0 ∧ s.doR r = (s.act r, 0) := by
  unfold SSt.doR at h ⊢
  by_cases h1 : r.form = 0
  · by_cases h2 : s.mayE r = 0
    · simp [h1, h2]
    · simp [h1, h2] at h
  · simp [h1] at h
end Go.Proofs.YtoccjilbfkhmoaaDoor
