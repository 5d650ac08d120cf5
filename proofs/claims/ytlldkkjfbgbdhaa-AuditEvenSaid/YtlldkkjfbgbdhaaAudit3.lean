/-
  How many pairs clash.
-/
import Derived.Test.YtlldkkjfbgbdhaaAudit2
set_option linter.unusedVariables false
set_option linter.unusedSimpArgs false
namespace Go.Proofs.Ytlldkkjfbgbdhaa
open Go Go.Abs Go.Proofs
set_option maxRecDepth 100000
attribute [local irreducible] AEnd AW ACalls

/-- One with those behind it. -/
def row (bad : BitVec 32) (x : Sh) (l : List Sh) : Nat := (l.filter fun y => clash x y && !has bad x.signer).length
def clashes (bad : BitVec 32) : List Sh → Nat
  | [] => 0
  | x :: l => row bad x l + clashes bad l
theorem row_le (bad : BitVec 32) (x : Sh) (l : List Sh) : row bad x l ≤ l.length := List.length_filter_le ..
theorem clashes_le (bad : BitVec 32) : ∀ l : List Sh, clashes bad l ≤ l.length * l.length
  | [] => by simp [clashes]
  | x :: l => by
    have h1 := row_le bad x l
    have h2 := clashes_le bad l
    simp only [clashes, List.length_cons, Nat.add_mul, Nat.mul_add]
    omega
/-- What the rows up to one have brought. -/
def upTo (bad : BitVec 32) (l : List Sh) : Nat → Nat
  | 0 => 0
  | i + 1 => upTo bad l i + (match l[i]? with | some x => row bad x (l.drop (i + 1)) | none => 0)
theorem upTo_all (bad : BitVec 32) : ∀ (l : List Sh) (i : Nat), i ≤ l.length → clashes bad l = upTo bad l i + clashes bad (l.drop i)
  | l, 0, h => by simp [upTo]
  | l, i + 1, h => by
    have ih := upTo_all bad l i (by omega)
    have hlt : i < l.length := by omega
    rw [ih, List.drop_eq_getElem_cons hlt]
    simp [clashes, upTo, hlt]
    omega

theorem clashes_ok (H : AH) {vl : V} {l : List Sh} (hl : RS H vl 11 (l.map Sh.cells)) (hn : l.length ≤ 1000) (bad : BitVec 32) :
    ACalls Try.prog 6 [vl, u32 bad] H fun r H' => r = .i .i64 (clashes bad l) ∧ H' = H := by
  have hlen := hl.len (P := Try.prog) (H' := H) qelem_23
  simp only [List.length_map] at hlen
  have hbig : ∀ m, m ≤ l.length → upTo bad l m ≤ 1000000 := fun m hm => by
    have h1 := upTo_all bad l m hm
    have h2 := clashes_le bad l
    have h3 := Nat.mul_le_mul hn hn
    omega
  refine ACalls.pure (Q := fun r => r = .i .i64 (clashes bad l)) ⟨_, Try.func6, rfl, rfl⟩ ?_
  refine ACalls_body Try.func6 rfl rfl ?_
  refine AW_seq ?_
  refine AW_reg [0, 1] fun K hK => ?_ -- region 0
  simp [init_eq]
  refine hK _ _ ?_; clear hK K
  refine AW_seq ?_
  refine AW_reg [0, 1, 5] fun K hK => ?_ -- region 1
  simp [init_eq]
  refine hK _ _ ?_; clear hK K
  refine AW_seq ?_
  refine AW_seq ?_
  refine AW_reg [0, 1, 5, 10, 11, 12] fun K hK => ?_ -- region 2
  simp [init_eq, hlen]
  refine hK _ _ ?_; clear hK K
  refine AW_block ?_
  refine AW_loop0 (fun i : Nat => ⟨41, [(0, vl), (1, u32 bad), (5, .i .i64 (upTo bad l i)), (10, vl), (11, .i .i64 l.length), (12, .i .i64 i)]⟩) (fun i => i ≤ l.length) (fun i => l.length - i) 0 (by simp [upTo]) (by simp) (Nat.le_refl _) fun hw i hi => ?_
  refine AW_seq ?_
  refine AW_reg [0, 1, 5, 10, 11, 12, 13] fun K hK => ?_ -- region 3
  simp [init_eq]
  refine hK _ _ ?_; clear hK K
  refine AW_seq ?_
  refine AW_cond' rfl rfl (fun hc => ?_) (fun hc => ?_)
  · have hlt : i < l.length := by simpa using hc
    obtain ⟨xa, q1, q2⟩ := hl.at (P := Try.prog) (by decide) qelem_23 qsize_30 (k := .i64) i (l := l[i].cells) (by simp [hlt])
    have q3 := q2.load (P := Try.prog) qagg_30 (by simp)
    refine AW_skip ?_
    refine AW_seq ?_
    refine AW_block ?_
    refine AW_seq ?_
    refine AW_reg [0, 1, 5, 6, 7, 10, 11, 12] fun K hK => ?_ -- region 4
    simp [init_eq, q1, q3, V.cells, astore, AH.get_new_same, splice]
    generalize h1 : (H.new _).set H.next _ = H1
    have n1 : H1.next = H.next + 1 := by rw [← h1]; rfl
    have g1 : H1.get H.next = some (.cells l[i].cells 0 false 0) := by rw [← h1]; exact made_get ..
    have o1 : ∀ j, j < H.next → H1.get j = H.get j := fun j hj => by rw [← h1]; exact made_old _ _ _ _ _ hj
    have ld1 := box_get (P := Try.prog) g1 qagg_30 qsize_30 (by simp)
    have hl1 := hl.same o1
    obtain ⟨vs, s1, s2⟩ := hl1.slice (P := Try.prog) qelem_23 qsize_30 (lo := some (.i .i64 ((i : Int) + 1))) (hi := none) (k := i + 1) (m := l.length) (by simp [abound]) (by simp [abound]; omega) (by omega) (by simp)
    obtain ⟨m, hm⟩ : ∃ m, m = l.drop (i + 1) := ⟨_, rfl⟩
    have hml : m.length ≤ l.length := by rw [hm]; simp
    have s3 : RS H1 vs 11 (m.map Sh.cells) := by
      rw [hm, List.map_drop]
      have e : (l.map Sh.cells).take l.length = l.map Sh.cells := by rw [List.take_of_length_le]; simp
      rw [e] at s2; exact s2
    clear s2
    have s4 := s3.len (P := Try.prog) (H' := H1) qelem_23
    simp only [List.length_map] at s4
    refine hK _ _ ?_; clear hK K
    refine AW_seq ?_
    refine AW_reg [0, 1, 5, 7, 10, 11, 12, 20, 21, 22] fun K hK => ?_ -- region 5
    simp [init_eq, wrap_id (x := (i : Int) + 1) (by omega) (by omega), s1, s4]
    refine hK _ _ ?_; clear hK K
    refine AW_block ?_
    refine AW_loop0 (fun j : Nat => ⟨41, [(0, vl), (1, u32 bad), (5, .i .i64 (upTo bad l i + row bad l[i] (m.take j) : Nat)), (7, .p (some (H.next, 0, 0))), (10, vl), (11, .i .i64 l.length), (12, .i .i64 i), (20, vs), (21, .i .i64 m.length), (22, .i .i64 j)]⟩) (fun j => j ≤ m.length) (fun j => m.length - j) 0 (by simp [row]) (by simp) (by simp [n1]) fun hw1 j hj => ?_
    refine AW_seq ?_
    refine AW_reg [0, 1, 5, 7, 10, 11, 12, 20, 21, 22, 23] fun K hK => ?_ -- region 6
    simp [init_eq]
    refine hK _ _ ?_; clear hK K
    refine AW_seq ?_
    refine AW_cond' rfl rfl (fun hc => ?_) (fun hc => ?_)
    · have hjlt : j < m.length := by simpa using hc
      obtain ⟨xb, t1, t2⟩ := s3.at (P := Try.prog) (by decide) qelem_23 qsize_30 (k := .i64) j (l := m[j].cells) (by simp [hjlt])
      have t3 := t2.load (P := Try.prog) qagg_30 (by simp)
      refine AW_skip ?_
      refine AW_seq ?_
      refine AW_block ?_
      refine AW_seq ?_
      refine AW_reg [0, 1, 5, 7, 9, 10, 11, 12, 20, 21, 22] fun K hK => ?_ -- region 7
      simp [init_eq, t1, t3, V.cells, astore, AH.get_new_same, splice]
      generalize h2 : (H1.new _).set H1.next _ = H2
      have n2 : H2.next = H1.next + 1 := by rw [← h2]; rfl
      have g2 : H2.get H1.next = some (.cells m[j].cells 0 false 0) := by rw [← h2]; exact made_get ..
      have o2 : ∀ k, k < H1.next → H2.get k = H1.get k := fun k hk => by rw [← h2]; exact made_old _ _ _ _ _ hk
      have g12 : H2.get H.next = some (.cells l[i].cells 0 false 0) := by rw [o2 _ (by omega)]; exact g1
      have ld2 := box_get (P := Try.prog) g2 qagg_30 qsize_30 (by simp)
      have ld12 := box_get (P := Try.prog) g12 qagg_30 qsize_30 (by simp)
      have lf := cell_get (P := Try.prog) g12 qagg_3 qsize_3 0
      simp only [cells_0] at lf
      refine hK _ _ ?_; clear hK K
      refine AW_seq ?_
      have hrow : row bad l[i] (m.take (j + 1)) = row bad l[i] (m.take j) + if clash l[i] m[j] && !has bad l[i].signer then 1 else 0 := by
        unfold row
        rw [List.take_succ_eq_append_getElem hjlt, List.filter_append, List.length_append]
        congr 1
        by_cases h : (clash l[i] m[j] && !has bad l[i].signer) = true
        · simp only [List.filter_cons, h, if_true, List.filter_nil]; rfl
        · simp only [List.filter_cons, h, if_false, List.filter_nil, Bool.false_eq_true]; rfl
      have hsm : upTo bad l i + row bad l[i] (m.take j) ≤ 2000000 := by
        have := hbig i (by omega)
        have h5 := row_le bad l[i] (m.take j)
        have h6 : (m.take j).length ≤ l.length := by simp; omega
        omega
      have env_lt : ∀ k : Nat, (⟨41, [(0, vl), (1, u32 bad), (5, .i .i64 (upTo bad l i + row bad l[i] (m.take k) : Nat)), (7, .p (some (H.next, 0, 0))), (10, vl), (11, .i .i64 l.length), (12, .i .i64 i), (20, vs), (21, .i .i64 m.length), (22, .i .i64 k)]⟩ : Env).lt H1.next := fun k => by
        have h1 := hl1.lt (Nat.le_refl _)
        have h2 := s3.lt (Nat.le_refl _)
        rw [n1] at h1 h2
        simp [u32, h1, h2, n1]
      refine AW_regto [0, 1, 5, 7, 10, 11, 12, 20, 21, 22, 35] ⟨41, [(0, vl), (1, u32 bad), (5, .i .i64 (upTo bad l i + row bad l[i] (m.take j) : Nat)), (7, .p (some (H.next, 0, 0))), (10, vl), (11, .i .i64 l.length), (12, .i .i64 i), (20, vs), (21, .i .i64 m.length), (22, .i .i64 j), (35, .b (clash l[i] m[j] && !has bad l[i].signer))]⟩ H2 (fun K hk => ?_) ?_
      · simp [init_eq, ld2, ld12]
        refine ACalls.mono (clash_ok H2 _ _) fun r H' ⟨hr, e⟩ => ?_ -- hallmoot/audit.Clash
        subst hr e
        by_cases hcl : clash l[i] m[j] = true
        · simp [hcl, afieldAddr, lf]
          refine ACalls.mono (has_ok _ bad _) fun r H' ⟨hr, e⟩ => ?_ -- hallmoot/quorum.Has
          subst hr e
          simpa [hcl] using hk
        · simp only [Bool.not_eq_true] at hcl
          simp [hcl]
          simpa [hcl] using hk
      · refine AW_cond' rfl rfl (fun hc => ?_) (fun hc => ?_)
        · have hc' : (clash l[i] m[j] && !has bad l[i].signer) = true := hc
          rw [hc'] at hrow
          simp only [if_true] at hrow
          refine AW_reg [0, 1, 5, 7, 10, 11, 12, 20, 21, 22] fun K hK => ?_ -- region 9
          simp [init_eq]
          refine hK _ _ ?_; clear hK K
          refine AW_reg [0, 1, 5, 7, 10, 11, 12, 20, 21, 22] fun K hK => ?_ -- region 10
          simp [init_eq]
          refine hK _ _ ?_; clear hK K
          refine rend ⟨j + 1, ?_, hjlt, by omega, .inr ⟨by omega, o2, env_lt _⟩⟩
          simp [hrow, wrap_id (x := (j : Int) + 1) (by omega) (by omega), wrap_id (x := ((upTo bad l i : Int) + (row bad l[i] (m.take j) : Int)) + 1) (by omega) (by omega)]
          omega
        · have hc' : (clash l[i] m[j] && !has bad l[i].signer) = false := hc
          rw [hc'] at hrow
          simp only [Bool.false_eq_true, if_false, Nat.add_zero] at hrow
          refine AW_skip ?_
          refine AW_reg [0, 1, 5, 7, 10, 11, 12, 20, 21, 22] fun K hK => ?_ -- region 10
          simp [init_eq]
          refine hK _ _ ?_; clear hK K
          refine rend ⟨j + 1, ?_, hjlt, by omega, .inr ⟨by omega, o2, env_lt _⟩⟩
          simp [hrow, wrap_id (x := (j : Int) + 1) (by omega) (by omega)]
    · have hge : ¬ j < m.length := by simpa using hc
      refine AW_exit (then_exit (then_exit (block_here ?_)))
      refine AW_reg [0, 1, 5, 10, 11, 12] fun K hK => ?_ -- region 11
      simp [init_eq]
      refine hK _ _ ?_; clear hK K
      have hj' : j = m.length := by omega
      refine rend ⟨i + 1, ?_, hlt, by omega, .inr ⟨by omega, o1, ?_⟩⟩ -- round's end
      · simp [wrap_id (x := (i : Int) + 1) (by omega) (by omega), upTo, hlt, ← hm, hj']
      · simp [u32, hl.lt (Nat.le_refl _)]
  · have hge : ¬ i < l.length := by simpa using hc
    refine AW_exit (then_exit (then_exit (block_here ?_)))
    refine AW_seq ?_
    refine AW_reg [4] fun K hK => ?_ -- region 12
    simp [init_eq]
    refine hK _ _ ?_; clear hK K
    refine AW_ret (end_ret rfl ?_)
    have e : i = l.length := by omega
    subst e
    have := upTo_all bad l l.length (Nat.le_refl _)
    simp [clashes] at this
    simp [this]
end Go.Proofs.Ytlldkkjfbgbdhaa
