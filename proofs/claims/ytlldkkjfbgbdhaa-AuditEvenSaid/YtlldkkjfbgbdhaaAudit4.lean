/-
  AuditEven: the law.
-/
import Derived.Test.YtlldkkjfbgbdhaaAudit3
import Derived.Test.YtlldkkjfbgbdhaaAuditAlive
set_option linter.unusedVariables false
set_option linter.unusedSimpArgs false
namespace Go.Proofs.Ytlldkkjfbgbdhaa
open Go Go.Abs Go.Proofs
set_option maxRecDepth 100000
attribute [local irreducible] AEnd AW ACalls

theorem clash_symm (x y : Sh) : clash x y = clash y x := by
  unfold clash
  by_cases h1 : x = y
  · subst h1; rfl
  · have h1' : ¬ y = x := fun e => h1 e.symm
    by_cases h2 : x.signer = y.signer
    · by_cases h3 : x.kind = y.kind
      · by_cases h4 : x.view = y.view
        · simp only [h1, h1', h2, h3, h4, ne_eq, not_true, or_self, if_false]
          split
          · simp [eq_comm]
          · split
            · simp [eq_comm]
            · split
              · rfl
              · split
                · simp only [decide_eq_decide]
                  constructor
                  · rintro ⟨a, b⟩; exact ⟨a.symm, b.imp (fun h => by omega) (fun h => h.symm)⟩
                  · rintro ⟨a, b⟩; exact ⟨a.symm, b.imp (fun h => by omega) (fun h => h.symm)⟩
                · rfl
        · have h4' : ¬ y.view = x.view := fun e => h4 e.symm
          simp [h4, h4']
      · have h3' : ¬ y.kind = x.kind := fun e => h3 e.symm
        simp [h3, h3']
    · have h2' : ¬ y.signer = x.signer := fun e => h2 e.symm
      simp [h2, h2']
theorem clash_true {x y : Sh} (h : clash x y = true) : x ≠ y ∧ x.signer = y.signer := by
  unfold clash at h
  split at h
  · cases h
  · rename_i hn
    exact ⟨fun e => hn (.inl e), Decidable.byContradiction fun e => hn (.inr (.inl e))⟩
theorem clash_self (x : Sh) : clash x x = false := by simp [clash]
theorem has_zero (k : Int) : has 0#32 k = false := by simp [has]
theorem row_zero (bad : BitVec 32) (x : Sh) : ∀ l : List Sh, row bad x l ≤ row 0#32 x l
  | [] => by simp [row]
  | y :: l => by
    have ih := row_zero bad x l
    simp only [row, has_zero, List.filter_cons, Bool.not_false, Bool.and_true] at *
    by_cases h : clash x y = true
    · by_cases h2 : has bad x.signer = true
      · simp only [h, h2, Bool.not_true, Bool.and_false, Bool.false_eq_true, if_false, if_true, List.length_cons] at *; omega
      · simp only [Bool.not_eq_true] at h2; simp only [h, h2, Bool.not_false, Bool.and_true, if_true, List.length_cons] at *; omega
    · simp only [Bool.not_eq_true] at h; simp only [h, Bool.false_and, Bool.false_eq_true, if_false] at *; omega
theorem clashes_zero (bad : BitVec 32) : ∀ l : List Sh, clashes bad l ≤ clashes 0#32 l
  | [] => by simp [clashes]
  | x :: l => by
    have h1 := row_zero bad x l
    have h2 := clashes_zero bad l
    simp only [clashes]; omega
theorem row_app (bad : BitVec 32) (x : Sh) (l m : List Sh) : row bad x l ≤ row bad x (l ++ m) := by
  simp [row]
theorem clashes_app (bad : BitVec 32) (m : List Sh) : ∀ l : List Sh, clashes bad l ≤ clashes bad (l ++ m)
  | [] => by simp [clashes]
  | x :: l => by
    have h1 := row_app bad x l m
    have h2 := clashes_app bad m l
    simp only [clashes, List.cons_append]; omega
theorem clashes_take (bad : BitVec 32) (l : List Sh) (i : Nat) (hi : i < l.length) : clashes bad (l.take i) ≤ clashes bad (l.take (i + 1)) := by
  rw [List.take_succ_eq_append_getElem hi]
  exact clashes_app ..

theorem flat_ints (c : List Int) : (ints c).flatten.length = c.length := by
  rw [flatten_len (sz := 1) _ (by simp [ints])]; simp [ints]
theorem even_law (H : AH) {va vb vl : V} {a b : List Int} {l : List Sh} (bad : BitVec 32) (ha : RS H va 1 (ints a)) (hb : RS H vb 1 (ints b)) (hl : RS H vl 11 (l.map Sh.cells)) :
    ACalls Try.prog 3 [va, vb, vl, u32 bad] H fun r H' => r = .b true := by
  have la := ha.len (P := Try.prog) (H' := H) qelem_22
  have lb := hb.len (P := Try.prog) (H' := H) qelem_22
  have ll := hl.len (P := Try.prog) (H' := H) qelem_23
  simp only [ints, List.length_map] at la lb ll
  refine ACalls_body Try.func3 rfl rfl ?_
  refine AW_seq ?_
  refine AW_reg [0, 1, 2, 3] fun K hK => ?_ -- region 0
  simp [init_eq]
  refine hK _ _ ?_; clear hK K
  refine AW_seq ?_
  refine AW_seq ?_
  refine AW_reg [0, 1, 2, 3, 12] fun K hK => ?_ -- region 1
  simp [init_eq]
  refine ACalls.mono (alive_ok H) fun r H' ⟨hr, e⟩ => ?_ -- hallmoot/hallmootlaw27.alive
  subst hr e
  simp
  refine hK _ _ ?_; clear hK K
  refine AW_cond' rfl rfl (fun hc => ?_) (fun hc => ?_)
  · cases hc
  · refine AW_skip ?_
    refine AW_seq ?_
    refine AW_seq ?_
    refine AW_regto [0, 1, 2, 3, 25] ⟨143, [(0, va), (1, vb), (2, vl), (3, u32 bad), (25, .b (decide ((200 : Int) < a.length ∨ (200 : Int) < b.length ∨ (40 : Int) < l.length)))]⟩ H' (fun K hk => ?_) ?_
    · simp [init_eq, la]
      by_cases h1 : (200 : Int) < a.length
      · simpa [h1] using hk
      · simp [h1, lb]
        by_cases h2 : (200 : Int) < b.length
        · simpa [h1, h2] using hk
        · simp [h2, ll]
          simpa [h1, h2] using hk
    refine AW_cond' rfl rfl (fun hc => ?_) (fun hc => ?_)
    · refine AW_seq ?_
      refine AW_reg [8] fun K hK => ?_ -- region 4
      simp [init_eq]
      refine hK _ _ ?_; clear hK K
      refine AW_ret (end_ret rfl ?_)
      rfl
    · have hs : ¬ ((200 : Int) < a.length ∨ (200 : Int) < b.length ∨ (40 : Int) < l.length) := of_decide_eq_false hc
      have h1 : a.length ≤ 200 := by omega
      have h2 : b.length ≤ 200 := by omega
      have h3 : l.length ≤ 40 := by omega
      clear hs hc
      refine AW_skip ?_
      refine AW_seq ?_
      refine AW_seq ?_
      refine AW_reg [0, 1, 2, 3, 9] fun K hK => ?_ -- region 5
      simp [init_eq]
      refine hK _ _ ?_; clear hK K
      refine AW_block ?_
      refine AW_loop0 (fun i : Nat => ⟨143, [(0, va), (1, vb), (2, vl), (3, u32 bad), (9, .i .i64 i)]⟩) (fun i => i ≤ l.length) (fun i => l.length - i) 0 (by simp) (by simp) (Nat.le_refl _) fun hw i hi => ?_
      refine AW_seq ?_
      refine AW_seq ?_
      refine AW_reg [0, 1, 2, 3, 9, 29] fun K hK => ?_ -- region 6
      simp [init_eq, ll]
      refine hK _ _ ?_; clear hK K
      refine AW_cond' rfl rfl (fun hc => ?_) (fun hc => ?_)
      · have hlt : i < l.length := by simpa using hc
        obtain ⟨xi, q1, q2⟩ := hl.at (P := Try.prog) (by decide) qelem_23 qsize_30 (k := .i64) i (l := l[i].cells) (by simp [hlt])
        have q3 := q2.load (P := Try.prog) qagg_30 (by simp)
        obtain ⟨fi, q4, q5⟩ := q2.fld (P := Try.prog) (f := 0) qfield_30_0 qagg_3 qsize_3 (cells_0 _)
        refine AW_skip ?_
        refine AW_seq ?_
        refine AW_block ?_
        refine AW_seq ?_
        refine AW_seq ?_
        refine AW_reg [0, 1, 2, 3, 9, 10] fun K hK => ?_ -- region 8
        simp [init_eq]
        refine hK _ _ ?_; clear hK K
        refine AW_block ?_
        refine AW_loop0 (fun k : Nat => ⟨143, [(0, va), (1, vb), (2, vl), (3, u32 bad), (9, .i .i64 i), (10, .i .i64 k)]⟩) (fun k => k ≤ i) (fun k => i - k) 0 (by simp) (by simp) (Nat.le_refl _) fun hw k hk => ?_
        refine AW_seq ?_
        refine AW_seq ?_
        refine AW_reg [0, 1, 2, 3, 9, 10, 34] fun K hK => ?_ -- region 9
        simp [init_eq]
        refine hK _ _ ?_; clear hK K
        refine AW_cond' rfl rfl (fun hc => ?_) (fun hc => ?_)
        · have hklt : k < i := by simpa using hc
          obtain ⟨xk, p1, p2⟩ := hl.at (P := Try.prog) (by decide) qelem_23 qsize_30 (k := .i64) k (l := (l[k]'(by omega)).cells) (by simp [show k < l.length by omega])
          have p3 := p2.load (P := Try.prog) qagg_30 (by simp)
          obtain ⟨fk, p4, p5⟩ := p2.fld (P := Try.prog) (f := 0) qfield_30_0 qagg_3 qsize_3 (cells_0 _)
          refine AW_skip ?_
          refine AW_seq ?_
          refine AW_block ?_
          refine AW_seq ?_
          refine AW_regd [0, 1, 2, 3, 9, 10, 90] pl_3_11 pe_3_11 (by kernel_rfl) (by kernel_rfl) (by decide) fun K hK => ?_
          have hk : K ⟨143, [(0, va), (1, vb), (2, vl), (3, u32 bad), (9, .i .i64 i), (10, .i .i64 k), (90, .b false)]⟩ H' := by
            refine hK _ _ ?_; clear hK
            refine AW_cond' rfl rfl (fun hc => ?_) (fun hc => ?_)
            · cases hc
            · refine AW_skip ?_
              refine AW_reg [0, 1, 2, 3, 9, 10] fun K hK => ?_ -- region 10
              simp [init_eq]
              refine hK _ _ ?_; clear hK K
              exact rend ⟨k + 1, by simp [wrap_id (x := (k : Int) + 1) (by omega) (by omega)], hklt, by omega, .inl rfl⟩ -- round's end
          clear hK
          simp [init_eq, pl_3_11, q1, q3, p1, p3]
          refine ACalls.mono (clash_ok H' _ _) fun r H' ⟨hr, e⟩ => ?_ -- hallmoot/audit.Clash
          subst hr e
          simp
          refine ACalls.mono (clash_ok H' _ _) fun r H' ⟨hr, e⟩ => ?_ -- hallmoot/audit.Clash
          subst hr e
          have hsym : clash (l[k]'(by omega)) l[i] = clash l[i] (l[k]'(by omega)) := clash_symm ..
          simp [hsym, q1, q3, p1, p3]
          refine ACalls.mono (clash_ok H' _ _) fun r H' ⟨hr, e⟩ => ?_ -- hallmoot/audit.Clash
          subst hr e
          by_cases hcl : clash l[i] (l[k]'(by omega)) = true
          · obtain ⟨c1, c2⟩ := clash_true hcl
            simp [hcl, q1, q3, p1, p3, q4, q5, p4, p5, c2, sh_aeq, c1]
            exact hk
          · simp only [Bool.not_eq_true] at hcl
            simp [hcl]
            exact hk
        · refine AW_exit (then_exit (then_exit (block_here ?_)))
          refine AW_seq ?_
          obtain ⟨v1, s1, s2⟩ := hl.slice (P := Try.prog) qelem_23 qsize_30 (lo := none) (hi := some (.i .i64 i)) (k := 0) (m := i) (by simp [abound]; omega) (by simp [abound]) (by omega) (by simp; omega)
          obtain ⟨v2, s3, s4⟩ := hl.slice (P := Try.prog) qelem_23 qsize_30 (lo := none) (hi := some (.i .i64 ((i : Int) + 1))) (k := 0) (m := i + 1) (by simp [abound]; omega) (by simp [abound]) (by omega) (by simp; omega)
          have s2' : RS H' v1 11 ((l.take i).map Sh.cells) := by simpa [List.map_take] using s2
          have s4' : RS H' v2 11 ((l.take (i + 1)).map Sh.cells) := by simpa [List.map_take] using s4
          have z1 := clashes_take bad l i hlt
          have z2 := clashes_zero bad l
          refine AW_regd [0, 1, 2, 3, 9, 121] pl_3_13 pe_3_13 (by kernel_rfl) (by kernel_rfl) (by decide) fun K hK => ?_
          have hk : K ⟨143, [(0, va), (1, vb), (2, vl), (3, u32 bad), (9, .i .i64 i), (121, .b false)]⟩ H' := by
            refine hK _ _ ?_; clear hK
            refine AW_cond' rfl rfl (fun hc => ?_) (fun hc => ?_)
            · cases hc
            · refine AW_skip ?_
              refine AW_reg [0, 1, 2, 3, 9] fun K hK => ?_ -- region 7
              simp [init_eq]
              refine hK _ _ ?_; clear hK K
              exact rend ⟨i + 1, by simp [wrap_id (x := (i : Int) + 1) (by omega) (by omega)], hlt, by omega, .inl rfl⟩ -- round's end
          clear hK
          simp [init_eq, pl_3_13, q1, q3]
          refine ACalls.mono (clash_ok H' _ _) fun r H' ⟨hr, e⟩ => ?_ -- hallmoot/audit.Clash
          subst hr e
          simp [clash_self, s1, s3, wrap_id (x := (i : Int) + 1) (by omega) (by omega)]
          refine ACalls.mono (clashes_ok H' s2' (by simp; omega) bad) fun r H' ⟨hr, e⟩ => ?_ -- hallmoot/audit.Clashes
          subst hr e
          simp
          refine ACalls.mono (clashes_ok H' s4' (by simp; omega) bad) fun r H' ⟨hr, e⟩ => ?_ -- hallmoot/audit.Clashes
          subst hr e
          have z1' : ¬ clashes bad (l.take (i + 1)) < clashes bad (l.take i) := by omega
          simp [z1']
          refine ACalls.mono (clashes_ok H' hl (by omega) bad) fun r H' ⟨hr, e⟩ => ?_ -- hallmoot/audit.Clashes
          subst hr e
          simp
          refine ACalls.mono (clashes_ok H' hl (by omega) 0#32) fun r H' ⟨hr, e⟩ => ?_ -- hallmoot/audit.Clashes
          subst hr e
          have z2' : ¬ clashes 0#32 l < clashes bad l := by omega
          simp [z2']
          exact hk
      · refine AW_exit (then_exit (then_exit (block_here ?_)))
        have hE : decide (b.take (min b.length a.length) = a.take (min b.length a.length)) = decide (a.take (min a.length b.length) = b.take (min a.length b.length)) := by
          rw [Nat.min_comm]; exact decide_eq_decide.2 eq_comm
        refine AW_seq ?_
        refine AW_reg [8] fun K hK => ?_ -- region 15
        simp [init_eq]
        refine ACalls.mono (prefix_ok H' ha hb (by omega) (by omega)) fun r H' ⟨hr, e⟩ => ?_ -- hallmoot/audit.Prefix
        subst hr e
        refine ACalls.mono (prefix_ok H' hb ha (by omega) (by omega)) fun r H' ⟨hr, e⟩ => ?_ -- hallmoot/audit.Prefix
        subst hr e
        rw [hE]
        simp
        refine ACalls.mono (prefix_ok H' ha ha (by omega) (by omega)) fun r H' ⟨hr, e⟩ => ?_ -- hallmoot/audit.Prefix
        subst hr e
        have o0 := Own.made H' 1
        have u0 : Upd H' (H'.new (.cells [] 0 false 1)) [] := Upd.new ..
        have ha0 := (ha.upd u0).source (P := Try.prog) (by decide)
        obtain ⟨w1, G1, F1, e1, o1, u1, f1⟩ := Own.append (App.mk' (P := Try.prog) (t := 22) (t2 := 22) qelem_22 qsize_3 qbytes_3 qzero_3 qsrc_22 rfl (by decide)) o0 ha0 (by rw [flat_ints]; simp [ints]) (by simp [roomOk, ints]; omega)
        have k1 : ∀ j, j < H'.next → G1.get j = H'.get j := fun j hj => by
          rw [u1.2 j (by have := u0.1; omega) (by simp; omega)]
          exact u0.2 j hj (by simp)
        have hb1 := (hb.same k1).source (P := Try.prog) (by decide)
        obtain ⟨w2, G2, F2, e2, o2, u2, f2⟩ := Own.append (App.mk' (P := Try.prog) (t := 22) (t2 := 22) qelem_22 qsize_3 qbytes_3 qzero_3 qsrc_22 rfl (by decide)) o1 hb1 (by rw [flat_ints]; simp [ints]) (by rw [List.nil_append, flat_ints]; simp [roomOk, ints]; omega)
        have k2 : ∀ j, j < H'.next → G2.get j = H'.get j := fun j hj => by
          rw [u2.2 j (by have := u0.1; have := u1.1; omega) (fun hm => by
            rcases f1 j hm with h | h
            · simp at h; omega
            · have := u0.1; omega)]
          exact k1 j hj
        have r2 : RS G2 w2 1 (ints (a ++ b)) := Own.rs (by simpa [ints] using o2) (by decide) (by intro l hl; simp only [ints, List.mem_map] at hl; obtain ⟨x, _, rfl⟩ := hl; rfl)
        simp [abuildSlice, afill, V.cells, e1, e2]
        refine ACalls.mono (prefix_ok G2 (ha.same k2) r2 (by omega) (by simp; omega)) fun r H2 ⟨hr, e⟩ => ?_ -- hallmoot/audit.Prefix
        subst hr e
        simp
        refine hK _ _ ?_; clear hK K
        refine AW_ret (end_ret rfl ?_)
        simp
end Go.Proofs.Ytlldkkjfbgbdhaa
