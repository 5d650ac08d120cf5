/-
  SafeOnce: the walk.
-/
import Derived.Test.YtoccjilbfkhmoaaDoorSafeAlive
import Derived.Test.YtoccjilbfkhmoaaDoorSafArg
set_option linter.unusedVariables false
set_option linter.unusedSimpArgs false
namespace Go.Proofs.YtoccjilbfkhmoaaDoor
open Go Go.Abs Go.Proofs
set_option maxRecDepth 100000
attribute [local irreducible] AEnd AW ACalls

theorem appRec : App Tryd.prog 37 37 22 168 := App.mk' qelem_37 qsize_40 qbytes_40 qzero_40 qsrc_37 rfl (by decide)
theorem appInt : App Tryd.prog 38 38 1 8 := App.mk' qelem_38 qsize_3 qbytes_3 qzero_3 qsrc_38 rfl (by decide)
/-- A slice of one's own, away from some objects. -/
def OX (G : AH) (B : List Nat) (v : V) (sz : Nat) (cs : List V) : Prop := ∃ F, Own G v sz cs F ∧ ∀ j ∈ F, j ∉ B
theorem OX.step {G M : AH} {B C : List Nat} {v : V} {sz : Nat} {cs : List V} (h : OX G B v sz cs) (u : Upd G M C) (hC : ∀ j ∈ C, j ∈ B) {B' : List Nat} (hB : ∀ j ∈ B', j ∈ B ∨ G.next ≤ j) : OX M B' v sz cs := by
  obtain ⟨F, h1, h2⟩ := h
  refine ⟨F, h1.upd u (fun j hj h => h2 j hj (hC j h)), fun j hj h => ?_⟩
  rcases hB j h with h | h
  · exact h2 j hj h
  · have := h1.lt j hj; omega
/-- The memory of the law: the state, what was done, in which views. -/
structure LS (H G : AH) (sb : Nat) (s : SSt) (dn : List SRec) (vw : List Int) (fv hv pv bv dv vv : V) (F1 F2 : List Nat) (k : Nat) : Prop where
  st : G.get sb = some (.cells (s.cells fv hv pv bv) 0 false 0)
  of : OX G (sb :: (F1 ++ F2)) fv 8 (s.falls.map Cert.cells).flatten
  oh : OX G (sb :: (F1 ++ F2)) hv 8 (s.heads.map Cert.cells).flatten
  op : OX G (sb :: (F1 ++ F2)) pv 1 (s.past.map setC).flatten
  ob : OX G (sb :: (F1 ++ F2)) bv 1 (s.blocks.map strC).flatten
  od : Own G dv 22 (dn.map SRec.cells).flatten F1
  ov : Own G vv 1 (vw.map intC).flatten F2
  d1 : sb ∉ F1
  d2 : sb ∉ F2
  d3 : ∀ j ∈ F1, j ∉ F2
  l0 : H.next ≤ sb
  l1 : ∀ j ∈ F1, H.next ≤ j
  l2 : ∀ j ∈ F2, H.next ≤ j
  u : Upd H G []
  len : vw.length = dn.length
  lk : dn.length ≤ k
  ok : s.Ok k
  on : ∀ (i : Nat) (d : SRec) (v : Int), dn[i]? = some d → vw[i]? = some v → Once s d v
section
variable {H G M : AH} {sb : Nat} {s : SSt} {dn : List SRec} {vw : List Int} {fv hv pv bv dv vv : V} {F1 F2 : List Nat} {k : Nat}
theorem LS.upd (d : LS H G sb s dn vw fv hv pv bv dv vv F1 F2 k) (u : Upd G M []) : LS H M sb s dn vw fv hv pv bv dv vv F1 F2 k :=
  ⟨u.keep (by simp) d.st, d.of.step u (by simp) (fun j h => .inl h), d.oh.step u (by simp) (fun j h => .inl h), d.op.step u (by simp) (fun j h => .inl h), d.ob.step u (by simp) (fun j h => .inl h),
    d.od.upd u (by simp), d.ov.upd u (by simp), d.d1, d.d2, d.d3, d.l0, d.l1, d.l2, d.u.trans u (by simp), d.len, d.lk, d.ok, d.on⟩
theorem LS.mono (d : LS H G sb s dn vw fv hv pv bv dv vv F1 F2 k) : LS H G sb s dn vw fv hv pv bv dv vv F1 F2 (k + 1) :=
  { d with lk := Nat.le_succ_of_le d.lk, ok := d.ok.mono (Nat.le_succ k) }
theorem LS.sat (d : LS H G sb s dn vw fv hv pv bv dv vv F1 F2 k) : SAt G s fv hv pv bv := by
  obtain ⟨_, a1, _⟩ := d.of
  obtain ⟨_, a2, _⟩ := d.oh
  obtain ⟨_, a3, _⟩ := d.op
  obtain ⟨_, a4, _⟩ := d.ob
  exact ⟨a1.rsR (f := Cert.cells) (by decide) Cert.len, a2.rsR (f := Cert.cells) (by decide) Cert.len, a3.rsR (f := setC) (by decide) (fun _ => rfl), a4.rsR (f := strC) (by decide) (fun _ => rfl)⟩
end
theorem safe_store' {M : AH} {q : Nat} {l : List V} (hq : M.get q = some (.cells l 0 false 0)) (hl : l.length = 32) (s : SSt) (fv hv pv bv : V) : astore Tryd.prog M 33 (.p (some (q, 0, 0))) (.agg (s.cells fv hv pv bv)) = some (M.set q (.cells (s.cells fv hv pv bv) 0 false 0)) := by
  simp [astore, V.cells, hq, show splice l 0 (s.cells fv hv pv bv) = s.cells fv hv pv bv from splice_all (by rw [hl]; rfl), hl]
theorem rec_store {M : AH} {q : Nat} {l : List V} (hq : M.get q = some (.cells l 0 false 0)) (hl : l.length = 22) (r : SRec) : astore Tryd.prog M 40 (.p (some (q, 0, 0))) (.agg r.cells) = some (M.set q (.cells r.cells 0 false 0)) := by
  simp [astore, V.cells, hq, show splice l 0 r.cells = r.cells from splice_all (by rw [hl]; rfl), hl]
theorem zeroS_cells : (V.agg zeroS).cells = some zeroS := rfl
/-- A step is done: what was done is kept. -/
theorem LS.next {H G M N : AH} {sb : Nat} {s : SSt} {dn : List SRec} {vw : List Int} {fv hv pv bv dv vv fv' hv' pv' bv' dv' vv' : V} {F1 F2 B1 B2 : List Nat} {k : Nat} {r : SRec}
    (d : LS H G sb s dn vw fv hv pv bv dv vv F1 F2 k) (hf : r.form = 0) (hm : s.mayE r = 0) (ht : r.text.length ≤ 5000)
    (uM : Upd G M []) (n : Nat) (hn : G.next ≤ n) (so : SOwn M n (s.act r) fv' hv' pv' bv') (hB : ∀ j ∈ B1, j ∈ F1 ∨ M.next ≤ j) (hB2 : ∀ j ∈ B2, j ∈ F2 ∨ M.next ≤ j) (h12 : ∀ j ∈ B1, j ∉ B2)
    (uN : Upd M N (sb :: (F1 ++ F2))) (h0 : N.get sb = some (.cells ((s.act r).cells fv' hv' pv' bv') 0 false 0)) (h1 : Own N dv' 22 ((dn ++ [r]).map SRec.cells).flatten B1) (h2 : Own N vv' 1 ((vw ++ [s.view]).map intC).flatten B2) :
    LS H N sb (s.act r) (dn ++ [r]) (vw ++ [s.view]) fv' hv' pv' bv' dv' vv' B1 B2 (k + 1) := by
  have hsb : sb < G.next := AH.get_lt d.st
  have nM := uM.1
  have f1 : ∀ j ∈ F1, j < G.next := fun j hj => d.od.lt j hj
  have f2 : ∀ j ∈ F2, j < G.next := fun j hj => d.ov.lt j hj
  have key : ∀ {v : V} {sz : Nat} {cs : List V}, (∃ F, Own M v sz cs F ∧ ∀ j ∈ F, n ≤ j) → OX N (sb :: (B1 ++ B2)) v sz cs := by
    rintro v sz cs ⟨F, a, b⟩
    have hF : ∀ j ∈ F, G.next ≤ j ∧ j < M.next := fun j hj => ⟨by have := b j hj; omega, a.lt j hj⟩
    refine ⟨F, a.upd uN (fun j hj h => ?_), fun j hj h => ?_⟩
    · have := hF j hj
      rcases List.mem_cons.1 h with h | h
      · omega
      · rcases List.mem_append.1 h with h | h
        · have := f1 j h; omega
        · have := f2 j h; omega
    · have := hF j hj
      rcases List.mem_cons.1 h with h | h
      · omega
      · rcases List.mem_append.1 h with h | h
        · rcases hB j h with h | h
          · have := f1 j h; omega
          · omega
        · rcases hB2 j h with h | h
          · have := f2 j h; omega
          · omega
  have nH := d.u.1
  refine ⟨h0, key so.1, key so.2.1, key so.2.2.1, key so.2.2.2, h1, h2, fun h => ?_, fun h => ?_, h12, d.l0, fun j hj => ?_, fun j hj => ?_, ?_, by simp [d.len], by have := d.lk; simp; omega, step_ok d.ok hf hm ht, fun i e v he hv => ?_⟩
  · rcases hB _ h with h | h
    · exact d.d1 h
    · omega
  · rcases hB2 _ h with h | h
    · exact d.d2 h
    · omega
  · rcases hB j hj with h | h
    · exact d.l1 j h
    · omega
  · rcases hB2 j hj with h | h
    · exact d.l2 j h
    · omega
  · refine (d.u.trans uM (by simp)).trans uN (fun j hj => .inr ?_)
    rcases List.mem_cons.1 hj with h | h
    · have := d.l0; omega
    · rcases List.mem_append.1 h with h | h
      · exact d.l1 j h
      · exact d.l2 j h
  · have hl := d.len
    by_cases hi : i < dn.length
    · rw [List.getElem?_append_left hi] at he
      rw [List.getElem?_append_left (by omega)] at hv
      exact once_step d.ok (d.on i e v he hv) hf hm
    · rw [List.getElem?_append_right (by omega)] at he
      rw [List.getElem?_append_right (by omega), hl] at hv
      by_cases h0 : i - dn.length = 0
      · rw [h0] at he hv
        simp at he hv
        subst he hv
        exact once_new d.ok hf hm
      · rw [List.getElem?_eq_none (by simp; omega)] at he
        cases he
set_option maxHeartbeats 4000000 in
theorem safeOnce_walk (H : AH) (last : Int) {lv : V} (l : List SRec) (hv : RS H lv 22 (l.map SRec.cells)) : ACalls Tryd.prog 3 [.i .i64 last, lv] H fun v H' => v = .b true := by
  refine ACalls_body Tryd.func3 rfl rfl ?_
  refine AW_seq ?_
  refine AW_reg [0, 1] fun K hK => ?_ -- region 0
  simp [init_eq]
  refine hK _ _ ?_; clear hK K
  refine AW_seq ?_
  refine AW_seq ?_
  refine AW_reg [0, 1, 17] fun K hK => ?_ -- region 1
  simp [init_eq]
  refine ACalls.mono (alive_ok H) fun v X ⟨hr, e⟩ => ?_ -- alive
  subst hr
  rw [e]
  try simp
  refine hK _ _ ?_; clear hK K
  refine AW_cond' rfl rfl (fun hc => by cases hc) (fun hc => ?_)
  refine AW_skip ?_
  refine AW_seq ?_
  refine AW_seq ?_
  refine AW_reg [0, 1, 19] fun K hK => ?_ -- region 3
  simp [init_eq]
  refine ACalls.mono (sfar_ok H l hv) fun v X ⟨hr, e⟩ => ?_ -- far
  subst hr
  rw [e]
  try simp
  refine hK _ _ ?_; clear hK K
  refine AW_cond' rfl rfl (fun hc => ?_) (fun hc => ?_)
  · refine AW_seq ?_
    refine AW_reg [4] fun K hK => ?_ -- region 4
    simp [init_eq]
    refine hK _ _ ?_; clear hK K
    exact AW_ret (end_ret rfl rfl)
  have hlen : l.length ≤ 60 := by
    have := (Bool.or_eq_false_iff.1 hc).1
    simp at this; omega
  have htx : ∀ r ∈ l, r.text.length ≤ 5000 := fun r hr => by
    have := List.any_eq_false.1 (Bool.or_eq_false_iff.1 hc).2 r hr
    simp at this; omega
  clear hc
  refine AW_skip ?_
  refine AW_seq ?_
  refine AW_reg [1, 5, 6] fun K hK => ?_ -- region 5
  simp [init_eq]
  refine ACalls.mono (snew_ok H last) fun v X ⟨hr, e⟩ => ?_ -- New
  rw [e]
  cases hlo : lastOk last
  · rw [hlo] at hr
    subst hr
    simp [V.cells]
    refine ⟨_, safe_store' (AH.get_new_same ..) rfl SSt.zero nilV nilV nilV nilV, ?_⟩
    refine hK _ _ ?_; clear hK K
    refine AW_seq ?_
    refine AW_seq ?_
    refine AW_reg [1, 5, 26] fun K hK => ?_ -- region 6
    simp [init_eq]
    refine hK _ _ ?_; clear hK K
    refine AW_cond' rfl rfl (fun hc => ?_) (fun hc => by cases hc)
    refine AW_seq ?_
    refine AW_reg [4] fun K hK => ?_ -- region 7
    simp [init_eq]
    refine hK _ _ ?_; clear hK K
    exact AW_ret (end_ret rfl rfl)
  rw [hlo] at hr
  subst hr
  simp [V.cells]
  refine ⟨_, safe_store' (AH.get_new_same ..) rfl (SSt.start last) nilV nilV nilV nilV, ?_⟩
  obtain ⟨G0, eG, gs, gn, go⟩ := boxS H [.i .i64 0, .i .i64 0, .i .i64 0, .i .i64 0, .i .i64 0, .i .i64 0, .i .i64 0, .i .i64 0, .i .i64 0, .i .i64 0, .i .i64 0, u32 0#32, u32 0#32, .i .i64 0, .i .i64 0, .i .i64 0, .i .i64 0, .i .i64 0, .i .i64 0, u32 0#32, u32 0#32, .sl none 0 false, .sl none 0 false, .b false, .s [], .s [], .s [], .s [], .sl none 0 false, .i .i64 0, .i .i64 0, .sl none 0 false] ((SSt.start last).cells nilV nilV nilV nilV)
  rw [eG]
  have ls0 : LS H G0 H.next (SSt.start last) [] [] nilV nilV nilV nilV nilV nilV [] [] 0 :=
    ⟨gs, ⟨[], Own.nil .., by simp⟩, ⟨[], Own.nil .., by simp⟩, ⟨[], Own.nil .., by simp⟩, ⟨[], Own.nil .., by simp⟩, Own.nil .., Own.nil .., by simp, by simp, by simp, Nat.le_refl _, by simp, by simp, ⟨by omega, fun j hj _ => go j hj⟩, rfl, Nat.le_refl _, start_ok hlo, by simp⟩
  refine hK _ _ ?_; clear hK K
  refine AW_seq ?_
  refine AW_seq ?_
  refine AW_reg [1, 5, 26] fun K hK => ?_ -- region 6
  simp [init_eq]
  refine hK _ _ ?_; clear hK K
  refine AW_cond' rfl rfl (fun hc => by cases hc) (fun hc => ?_)
  refine AW_skip ?_
  refine AW_seq ?_
  refine AW_reg [1, 5, 7] fun K hK => ?_ -- region 8
  simp [init_eq]
  refine hK _ _ ?_; clear hK K
  refine AW_seq ?_
  refine AW_reg [1, 5, 7, 8] fun K hK => ?_ -- region 9
  simp [init_eq]
  refine hK _ _ ?_; clear hK K
  refine AW_seq ?_
  refine AW_seq ?_
  refine AW_reg [1, 5, 7, 8, 9] fun K hK => ?_ -- region 10
  simp [init_eq]
  refine hK _ _ ?_; clear hK K
  refine AW_block ?_
  refine AW_loopx (fun x : Nat × V × V => ⟨180, [(1, lv), (5, .p (some (H.next, 0, 0))), (7, x.2.1), (8, x.2.2), (9, .i .i64 x.1)]⟩)
    (fun x G => x.1 ≤ l.length ∧ ∃ s dn vw fv hv pv bv F1 F2, LS H G H.next s dn vw fv hv pv bv x.2.1 x.2.2 F1 F2 x.1) (fun x => l.length - x.1) (0, nilV, nilV) (by simp [nilV]) ⟨Nat.zero_le _, _, _, _, _, _, _, _, _, _, ls0⟩ fun x G hM => ?_ -- loop
  obtain ⟨i, dv, vv⟩ := x
  obtain ⟨hi, s, dn, vw, fv, hv', pv, bv, F1, F2, ls⟩ := hM
  dsimp only at hi ls ⊢
  have hvG : RS G lv 22 (l.map SRec.cells) := hv.upd ls.u
  refine AW_seq ?_
  refine AW_seq ?_
  refine AW_reg [1, 5, 7, 8, 9, 30] fun K hK => ?_ -- region 11
  simp [init_eq, hvG.alen qelem_22]
  refine hK _ _ ?_; clear hK K
  refine AW_cond' rfl rfl (fun hc => ?_) (fun hc => ?_)
  · have hlt : i < l.length := by simpa using hc
    have htl : l[i].text.length ≤ 5000 := htx _ (List.getElem_mem hlt)
    obtain ⟨ax, q1, q2⟩ := hvG.rec SRec.len (by decide) (P := Tryd.prog) qelem_22 qsize_41 qagg_41 hlt
    generalize hre : l[i] = r at q2 htl
    have hsb : H.next < G.next := AH.get_lt ls.st
    refine AW_skip ?_
    refine AW_seq ?_
    refine AW_block ?_
    refine AW_seq ?_
    refine AW_reg [1, 5, 7, 8, 9, 10] fun K hK => ?_ -- region 13
    simp [init_eq, q1, q2, V.cells]
    refine ⟨_, rec_store (AH.get_new_same ..) rfl r, ?_⟩
    obtain ⟨G1, e1, g1, n1, o1⟩ := boxS G SRec.zero.cells r.cells
    change K _ ((G.new (.cells SRec.zero.cells 0 false 0)).set G.next (.cells r.cells 0 false 0))
    rw [e1]
    have u1 : Upd G G1 [] := ⟨by omega, fun j hj _ => o1 j hj⟩
    have ls1 := ls.upd u1
    refine hK _ _ ?_; clear hK K
    refine AW_seq ?_
    refine AW_reg [1, 5, 7, 8, 9, 10, 11, 12] fun K hK => ?_ -- region 14
    simp [init_eq, aload, ls1.st, g1, SSt.take, SRec.take]
    refine ACalls.mono (do_ok G1 (r := r) ls1.sat ls1.ok (by omega) (by omega)) fun v G2 ⟨fv2, hv2, pv2, bv2, hr, so, u2⟩ => ?_ -- Do
    subst hr
    simp [V.cells]
    refine ⟨_, safe_store' (AH.get_new_same ..) rfl _ fv2 hv2 pv2 bv2, ?_⟩
    obtain ⟨G3, e3, g3, n3, o3⟩ := boxS G2 [.i .i64 0, .i .i64 0, .i .i64 0, .i .i64 0, .i .i64 0, .i .i64 0, .i .i64 0, .i .i64 0, .i .i64 0, .i .i64 0, .i .i64 0, u32 0#32, u32 0#32, .i .i64 0, .i .i64 0, .i .i64 0, .i .i64 0, .i .i64 0, .i .i64 0, u32 0#32, u32 0#32, .sl none 0 false, .sl none 0 false, .b false, .s [], .s [], .s [], .s [], .sl none 0 false, .i .i64 0, .i .i64 0, .sl none 0 false] ((s.doR r).1.cells fv2 hv2 pv2 bv2)
    rw [e3]
    have u3 : Upd G2 G3 [] := ⟨by omega, fun j hj _ => o3 j hj⟩
    have u13 : Upd G1 G3 [] := u2.trans u3 (by simp)
    have uG3 : Upd G G3 [] := u1.trans u13 (by simp)
    refine hK _ _ ?_; clear hK K
    refine AW_seq ?_
    refine AW_seq ?_
    refine AW_reg [1, 5, 7, 8, 9, 10, 11, 44] fun K hK => ?_ -- region 15
    simp [init_eq]
    refine hK _ _ ?_; clear hK K
    refine AW_cond' rfl rfl (fun hc => ?_) (fun hc => ?_)
    · refine AW_exit (then_exit (block_here ?_))
      refine AW_reg [1, 5, 7, 8, 9] fun K hK => ?_ -- region 12
      simp [init_eq, wrap_id (x := (i : Int) + 1) (by omega) (by omega)]
      refine hK _ _ ?_; clear hK K
      exact rend ⟨(i + 1, dv, vv), by simp, ⟨by dsimp only; omega, _, _, _, _, _, _, _, _, _, (ls.upd uG3).mono⟩, by dsimp only; omega⟩ -- round's end
    have h0 : (s.doR r).2 = 0 := by simpa using hc
    clear hc
    obtain ⟨hf, hm, hd⟩ := doR_zero h0
    rw [hd] at g3 so
    dsimp only at g3 so
    have ups := step_up hf hm
    have ls3 := ls.upd uG3
    have g1' := u13.keep (by simp) g1
    refine AW_skip ?_
    refine AW_cut (fun ρ' N => ρ' = ⟨180, [(1, lv), (5, .p (some (H.next, 0, 0))), (7, dv), (8, vv), (9, .i .i64 i), (10, .p (some (G.next, 0, 0))), (11, .p (some (G2.next, 0, 0)))]⟩ ∧ Upd G3 N []) ?_ ?_
    · refine AW_seq ?_
      refine AW_reg [1, 5, 7, 8, 9, 10, 11, 13] fun K hK => ?_ -- region 16
      simp [init_eq]
      refine hK _ _ ?_; clear hK K
      refine AW_block ?_
      refine AW_loopx (fun k : Nat => ⟨180, [(1, lv), (5, .p (some (H.next, 0, 0))), (7, dv), (8, vv), (9, .i .i64 i), (10, .p (some (G.next, 0, 0))), (11, .p (some (G2.next, 0, 0))), (13, .i .i64 k)]⟩) (fun k N => k ≤ dn.length ∧ Upd G3 N []) (fun k => dn.length - k) 0 (by simp) ⟨Nat.zero_le _, Upd.refl ..⟩ fun k N hM => ?_ -- loop
      obtain ⟨hk, uN⟩ := hM
      have lsN := ls3.upd uN
      have gr := uN.keep (by simp) g1'
      have rd := lsN.od.rsR (f := SRec.cells) (by decide) SRec.len
      refine AW_seq ?_
      refine AW_seq ?_
      refine AW_reg [1, 5, 7, 8, 9, 10, 11, 13, 48] fun K hK => ?_ -- region 17
      simp [init_eq, rd.alen qelem_37]
      refine hK _ _ ?_; clear hK K
      refine AW_cond' rfl rfl (fun hc => ?_) (fun hc => ?_)
      · have hkl : k < dn.length := by simpa using hc
        have hkv : k < vw.length := by rw [ls.len]; exact hkl
        obtain ⟨ad, p1, p2⟩ := rd.rec SRec.len (by decide) (P := Tryd.prog) qelem_37 qsize_40 qagg_40 hkl
        have oo := ls.on k dn[k] vw[k] (List.getElem?_eq_getElem hkl) (List.getElem?_eq_getElem hkv)
        refine AW_skip ?_
        refine AW_seq ?_
        refine AW_block ?_
        refine AW_seq ?_
        refine AW_reg [1, 5, 7, 8, 9, 10, 11, 13, 14] fun K hK => ?_ -- region 19
        simp [init_eq, p1, p2, V.cells]
        refine ⟨_, rec_store (AH.get_new_same ..) rfl dn[k], ?_⟩
        obtain ⟨N1, eN, gd, nN, oN⟩ := boxS N SRec.zero.cells dn[k].cells
        change K _ ((N.new (.cells SRec.zero.cells 0 false 0)).set N.next (.cells dn[k].cells 0 false 0))
        rw [eN]
        have uN1 : Upd N N1 [] := ⟨by omega, fun j hj _ => oN j hj⟩
        have lsM := lsN.upd uN1
        have gr1 := uN1.keep (by simp) gr
        have rv := lsM.ov.rsR (f := intC) (by decide) intC_len
        obtain ⟨av, w1, w2⟩ := rv.at1 (P := Tryd.prog) qelem_38 qsize_3 qagg_3 (k := .i64) k (x := .i .i64 vw[k]) (by simp [hkv, intC])
        generalize dn[k] = d at *
        generalize vw[k] = vk at *
        have u31 : Upd G3 N1 [] := uN.trans uN1 (by simp)
        refine hK _ _ ?_; clear hK K
        refine AW_seq ?_
        refine AW_seq ?_
        refine AW_regdto [1, 5, 7, 8, 9, 10, 11, 13, 14, 68] pl_3_20 pe_3_20 ⟨180, [(1, lv), (5, .p (some (H.next, 0, 0))), (7, dv), (8, vv), (9, .i .i64 i), (10, .p (some (G.next, 0, 0))), (11, .p (some (G2.next, 0, 0))), (13, .i .i64 k), (14, .p (some (N.next, 0, 0))), (68, .b (decide (d.kind ≠ r.kind) || decide (vk ≠ s.view)))]⟩ N1 (by kernel_rfl) (by kernel_rfl) (by decide) (fun K hk => ?_) ?_ -- region 20
        · have a1 : aload Tryd.prog N1 3 (.p (some (N.next, 0, 0))) = some (.i .i64 d.kind) := by simp [aload, gd]
          have a2 : aload Tryd.prog N1 3 (.p (some (G.next, 0, 0))) = some (.i .i64 r.kind) := by simp [aload, gr1]
          have a3 : aload Tryd.prog N1 3 (.p (some (H.next, 0, 1))) = some (.i .i64 s.view) := by simp [aload, lsM.st]
          by_cases h1 : d.kind = r.kind
          · simpa [init_eq, pl_3_20, afieldAddr, a1, a2, a3, w1, w2, h1] using hk
          · simpa [init_eq, pl_3_20, afieldAddr, a1, a2, a3, w1, w2, h1] using hk
        refine AW_cond' rfl rfl (fun hc2 => ?_) (fun hc2 => ?_)
        · refine AW_exit (then_exit (block_here ?_))
          refine AW_reg [1, 5, 7, 8, 9, 10, 11, 13] fun K hK => ?_ -- region 18
          simp [init_eq, wrap_id (x := (k : Int) + 1) (by omega) (by have := ls.lk; omega)]
          refine hK _ _ ?_; clear hK K
          exact rend ⟨k + 1, by simp, ⟨by omega, u31⟩, by omega⟩ -- round's end
        have hk1 : d.kind = r.kind := by
          have := (Bool.or_eq_false_iff.1 hc2).1
          simpa using this
        have hv1 : vk = s.view := by
          have := (Bool.or_eq_false_iff.1 hc2).2
          simpa using this
        obtain ⟨tw, x2, x3, x6, x7⟩ := once_ok oo hm hk1 hv1
        refine AW_skip ?_
        refine AW_seq ?_
        refine AW_regto [1, 5, 7, 8, 9, 10, 11, 13, 15] ⟨180, [(1, lv), (5, .p (some (H.next, 0, 0))), (7, dv), (8, vv), (9, .i .i64 i), (10, .p (some (G.next, 0, 0))), (11, .p (some (G2.next, 0, 0))), (13, .i .i64 k), (15, .b false)]⟩ N1 (fun K hk => ?_) ?_ -- region 21
        · unfold twiceB at tw
          by_cases q1 : r.kind = 1
          · have hx : ¬ r.cert.round ≤ d.cert.round := by simp [q1] at tw; omega
            simpa [init_eq, aload, afieldAddr, gd, gr1, SRec.cr, SRec.ch, SRec.ca, q1, hx] using hk
          · by_cases q4 : r.kind = 4
            · by_cases ha : d.cert.author = r.cert.author
              · have hx : ¬ r.cert.height ≤ d.cert.height := by simp [q4, ha] at tw; omega
                simpa [init_eq, aload, afieldAddr, gd, gr1, SRec.cr, SRec.ch, SRec.ca, q4, ha, hx] using hk
              · simpa [init_eq, aload, afieldAddr, gd, gr1, SRec.cr, SRec.ch, SRec.ca, q4, ha] using hk
            · simpa [init_eq, aload, afieldAddr, gd, gr1, SRec.cr, SRec.ch, SRec.ca, q1, q4] using hk
        refine AW_seq ?_
        refine AW_reg [1, 5, 7, 8, 9, 10, 11, 13, 124] fun K hK => ?_ -- region 22
        simp [init_eq, aload, afieldAddr, gr1, x2, x3, x6, x7]
        refine hK _ _ ?_; clear hK K
        refine AW_cond' rfl rfl (fun hc2 => by cases hc2) (fun hc2 => ?_)
        refine AW_skip ?_
        refine AW_reg [1, 5, 7, 8, 9, 10, 11, 13] fun K hK => ?_ -- region 18
        simp [init_eq, wrap_id (x := (k : Int) + 1) (by omega) (by have := ls.lk; omega)]
        refine hK _ _ ?_; clear hK K
        exact rend ⟨k + 1, by simp, ⟨by omega, u31⟩, by omega⟩ -- round's end
      · exact AW_exit (then_exit (then_exit (block_here (rend ⟨_, by simp, rfl, uN⟩))))
    · rintro ρ' N ⟨rfl, uN⟩
      have lsN := ls3.upd uN
      have gr := uN.keep (by simp) g1'
      have gt := uN.keep (by simp) g3
      have u2N : Upd G2 N [] := u3.trans uN (by simp)
      have satN := so.sat.upd u2N
      have okN := step_ok ls.ok hf hm htl
      have hpl := okN.pl
      have hvw : IntKind.i64.wrap ((s.act r).view - 1) = (s.act r).view - 1 := wrap_id (by have := okN.v1; omega) (by have := okN.vl; have := okN.lm; omega)
      refine AW_seq ?_
      refine AW_seq ?_
      refine AW_regto [1, 5, 7, 8, 9, 10, 11, 153] ⟨180, [(1, lv), (5, .p (some (H.next, 0, 0))), (7, dv), (8, vv), (9, .i .i64 i), (10, .p (some (G.next, 0, 0))), (11, .p (some (G2.next, 0, 0))), (153, .b false)]⟩ N (fun K hk => ?_) ?_ -- region 24
      · have y1 : ¬ (s.act r).view < s.view := by have := ups.1; omega
        have y3 : ¬ (s.act r).count < s.count := by have := ups.2.2.1; omega
        simp [init_eq, aload, afieldAddr, gt, lsN.st, y1]
        refine ACalls.mono (certCmp_ok N (s.act r).high s.high) fun v N' ⟨hr, e⟩ => ?_ -- hallmoot/cert.Cmp
        subst hr
        rw [e]
        have y2 : ¬ cmpC (s.act r).high s.high < 0 := by have := ups.2.1; omega
        simpa [init_eq, aload, afieldAddr, gt, lsN.st, y1, y2, y3, satN.past.alen qelem_30, hvw, hpl] using hk
      refine AW_cond' rfl rfl (fun hc2 => by cases hc2) (fun hc2 => ?_)
      refine AW_skip ?_
      refine AW_seq ?_
      refine AW_seq ?_
      refine AW_regto [1, 5, 7, 8, 9, 10, 11, 169] ⟨180, [(1, lv), (5, .p (some (H.next, 0, 0))), (7, dv), (8, vv), (9, .i .i64 i), (10, .p (some (G.next, 0, 0))), (11, .p (some (G2.next, 0, 0))), (169, .b false)]⟩ N (fun K hk => ?_) ?_ -- region 26
      · by_cases q1 : r.kind = 1
        · have z := ups.2.2.2 q1
          simp [init_eq, aload, afieldAddr, gt, gr, lsN.st, q1, z.1, SRec.parC]
          refine ACalls.mono (certCmp_ok N (s.act r).high r.parent) fun v N' ⟨hr, e⟩ => ?_ -- hallmoot/cert.Cmp
          subst hr
          rw [e]
          have y2 : ¬ cmpC (s.act r).high r.parent < 0 := by have := z.2; omega
          simpa [init_eq, aload, afieldAddr, gt, gr, lsN.st, q1, z.1, y2] using hk
        · simpa [init_eq, aload, afieldAddr, gt, gr, lsN.st, q1] using hk
      refine AW_cond' rfl rfl (fun hc2 => by cases hc2) (fun hc2 => ?_)
      refine AW_skip ?_
      refine AW_seq ?_
      obtain ⟨D1, dv', D2, B1, b1, b2, od, ud, fd⟩ := Own.pushR (f := SRec.cells) appRec qelem_37 qsize_40 qzero_40 rfl rfl (by decide) lsN.od SRec.len (x := .agg r.cells) r rfl (by have := ls.lk; simp [roomOk]; omega)
      have sbB : H.next ∉ F1 := ls.d1
      have gt2 : D2.get G2.next = some (.cells ((s.act r).cells fv2 hv2 pv2 bv2) 0 false 0) := ud.keep (fun h => by have := ls.od.lt _ h; have := uG3.1; have := u2.1; omega) gt
      have st2 := ud.keep sbB lsN.st
      obtain ⟨E1, vv', E2, B2, c1, c2, ov, ue, fe⟩ := Own.pushR (f := intC) appInt qelem_38 qsize_3 qzero_3 rfl rfl (by decide) (lsN.ov.upd ud (fun j hj h => ls.d3 j h hj)) intC_len (x := .i .i64 s.view) s.view rfl (by have := ls.lk; have := ls.len; simp [roomOk]; omega)
      have gt3 : E2.get G2.next = some (.cells ((s.act r).cells fv2 hv2 pv2 bv2) 0 false 0) := ue.keep (fun h => by have := ls.ov.lt _ h; have := uG3.1; have := u2.1; omega) gt2
      have st3 := ue.keep ls.d2 st2
      have nN := uN.1; have n3 := u3.1; have nd := ud.1
      have hB1 : ∀ j ∈ B1, j ∈ F1 ∨ N.next ≤ j := fd
      have hB2 : ∀ j ∈ B2, j ∈ F2 ∨ D2.next ≤ j := fe
      have d12 : ∀ j ∈ B1, j ∉ B2 := fun j h h2 => by
        have hlt : j < D2.next := od.lt j h
        rcases hB2 j h2 with g | g
        · rcases hB1 j h with f | f
          · exact ls.d3 j f g
          · have := lsN.ov.lt j g; omega
        · omega
      have hsbN : H.next < N.next := AH.get_lt lsN.st
      have sb1 : H.next ∉ B1 := fun h => by
        rcases hB1 _ h with f | f
        · exact ls.d1 f
        · omega
      have sb2 : H.next ∉ B2 := fun h => by
        rcases hB2 _ h with f | f
        · exact ls.d2 f
        · omega
      refine AW_reg [1, 5, 7, 8, 9, 11] fun K hK => ?_ -- region 28
      simp [init_eq, aload, gr, SRec.take, b1, b2]
      refine hK _ _ ?_; clear hK K
      refine AW_seq ?_
      refine AW_reg [1, 5, 7, 8, 9, 11] fun K hK => ?_ -- region 29
      simp [init_eq, aload, afieldAddr, st2, c1, c2]
      refine hK _ _ ?_; clear hK K
      obtain ⟨Z, hZ⟩ : ∃ Z, Z = E2.set H.next (.cells ((s.act r).cells fv2 hv2 pv2 bv2) 0 false 0) := ⟨_, rfl⟩
      have uZ : Upd E2 Z [H.next] := by rw [hZ]; exact Upd.set _ _ _ (by simp)
      have gZ : Z.get H.next = some (.cells ((s.act r).cells fv2 hv2 pv2 bv2) 0 false 0) := by rw [hZ]; exact AH.get_set_same (AH.get_lt st3)
      refine AW_reg [1, 5, 7, 8, 9] fun K hK => ?_ -- region 30
      simp [init_eq, aload, gt3, SSt.take, safe_store' st3 (SSt.len ..)]
      rw [← hZ]
      refine hK _ _ ?_; clear hK K
      refine AW_reg [1, 5, 7, 8, 9] fun K hK => ?_ -- region 12
      simp [init_eq, wrap_id (x := (i : Int) + 1) (by omega) (by omega)]
      refine hK _ _ ?_; clear hK K
      have fin : LS H Z H.next (s.act r) (dn ++ [r]) (vw ++ [s.view]) fv2 hv2 pv2 bv2 dv' vv' B1 B2 (i + 1) := by
        refine ls.next (M := N) (n := G1.next) hf hm htl (uG3.trans uN (by simp)) u1.1 ?_ hB1 (fun j hj => (hB2 j hj).imp (fun h => h) (fun h => by omega)) d12 ?_ gZ ?_ ?_
        · obtain ⟨⟨A1, z1, y1⟩, ⟨A2, z2, y2⟩, ⟨A3, z3, y3⟩, ⟨A4, z4, y4⟩⟩ := so
          exact ⟨⟨A1, z1.upd u2N (by simp), y1⟩, ⟨A2, z2.upd u2N (by simp), y2⟩, ⟨A3, z3.upd u2N (by simp), y3⟩, ⟨A4, z4.upd u2N (by simp), y4⟩⟩
        · exact ((ud.mono (G := H.next :: (F1 ++ F2)) (fun j hj => by simp [hj])).trans (ue.mono (G := H.next :: (F1 ++ F2)) (fun j hj => by simp [hj])) (fun j hj => .inl hj)).trans uZ (fun j hj => .inl (by simp at hj; simp [hj]))
        · exact (od.upd ue (fun j hj h => by
            rcases hB1 j hj with f | f
            · exact ls.d3 j f h
            · have := lsN.ov.lt j h; omega)).upd uZ (fun j hj h => by simp at h; exact sb1 (h ▸ hj))
        · exact ov.upd uZ (fun j hj h => by simp at h; exact sb2 (h ▸ hj))
      exact rend ⟨(i + 1, dv', vv'), by simp, ⟨by dsimp only; omega, _, _, _, _, _, _, _, _, _, fin⟩, by dsimp only; omega⟩ -- round's end
  · refine AW_exit (then_exit (then_exit (block_here ?_)))
    refine AW_seq ?_
    refine AW_reg [4] fun K hK => ?_ -- region 31
    simp [init_eq]
    refine hK _ _ ?_; clear hK K
    exact AW_ret (end_ret rfl rfl)
theorem safeOnce_law (H : AH) (vs : List V) (hv : TVals Tryd.prog H Tryd.f3.params.toList vs) : ACalls Tryd.prog 3 vs H fun r _ => r = .b true := by
  have hv' : TVals Tryd.prog H [3, 22] vs := hv
  clear hv
  rcases vs with _ | ⟨a, _ | ⟨b, _ | ⟨c, r⟩⟩⟩
  · exact hv'.elim
  · exact hv'.2.elim
  · obtain ⟨last, rfl, _⟩ := hv'.1.i Tryd.underlying3
    obtain ⟨ls, h1, h2, h3⟩ := hv'.2.1.rs Tryd.underlying22 cellsOf_41
    obtain ⟨l, rfl⟩ : ∃ l : List SRec, ls = l.map SRec.cells := by
      clear h1 h3
      induction ls with
      | nil => exact ⟨[], rfl⟩
      | cons x xs ih =>
        obtain ⟨r, rfl⟩ := tv_srec (h2 x (by simp))
        obtain ⟨l, rfl⟩ := ih fun y hy => h2 y (by simp [hy])
        exact ⟨r :: l, rfl⟩
    exact safeOnce_walk H last l h1
  · exact hv'.2.2.elim
end Go.Proofs.YtoccjilbfkhmoaaDoor
