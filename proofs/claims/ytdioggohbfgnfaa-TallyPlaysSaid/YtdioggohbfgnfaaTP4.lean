/-
  Sorting timeouts by their signers: slices.SortFunc of few.
-/
import Derived.Test.YtdioggohbfgnfaaTP3
import Derived.Test.YtdioggohbfgnfaaTR8
import Derived.Test.YtdioggohbfgnfaaAbsC
set_option linter.unusedVariables false
set_option linter.unusedSimpArgs false
namespace Go.Proofs.Ytdioggohbfgnfaa
open Go Go.Abs Go.Proofs
set_option maxRecDepth 100000
attribute [local irreducible] AEnd AW ACalls

def tc (xs : List Tmo) : List (List V) := xs.map Tmo.cells
@[simp] theorem tc_len (xs : List Tmo) : ∀ l ∈ tc xs, l.length = 10 := by
  intro l hl; simp only [tc, List.mem_map] at hl; obtain ⟨c, _, rfl⟩ := hl; rfl
@[simp] theorem tc_length (xs : List Tmo) : (tc xs).length = xs.length := by simp [tc]
def tcmpF : V := .fn (.func 51) [] []
theorem own_at {G : AH} {v : V} {xs : List Tmo} {F : List Nat} (h : Own G v 10 (tc xs).flatten F) {j : Nat} (hj : j < xs.length) :
    ∃ id g, v = .sl (some (id, g, 0)) xs.length false ∧ aindexAddr Try.prog 50 v (.i .i64 j) = some (.p (some (id, g, j * 10))) ∧ aload Try.prog G 34 (.p (some (id, g, j * 10))) = some (.agg xs[j].cells) := by
  obtain ⟨id, g, hv, _, hg, ha⟩ := Own.addr (P := Try.prog) h (by decide) (tc_len _) qelem_50 qsize_34 (k := .i64) (i := j) (by simpa using hj)
  have hrs : RS G v 10 (xs.map Tmo.cells) := Own.rsR (xs := xs) (f := Tmo.cells) h (by decide) fun _ => rfl
  obtain ⟨ax, px, qx⟩ := hrs.rec (f := Tmo.cells) (fun _ => rfl) (by decide) (P := Try.prog) qelem_50 qsize_34 qagg_34 hj
  rw [ha] at px
  cases px
  exact ⟨id, g, by simpa using hv, ha, qx⟩
theorem isort_ok (H : AH) {v : V} {F : List Nat} {xs : List Tmo} (ho : Own H v 10 (tc xs).flatten F) (hl : xs.length ≤ 1000) :
    ACalls Try.prog 66 [v, .i .i64 0, .i .i64 xs.length, tcmpF] H fun r H' => r = .tup [] ∧ ∃ ys, ys.Perm xs ∧ SortedTo ys ys.length ∧ Own H' v 10 (tc ys).flatten F ∧ Upd H H' F := by
  have hlt := ho.lt
  refine ACalls_body Try.func66 rfl rfl ?_
  repeat refine AW_seq ?_
  refine AW_reg [0, 1, 2, 3, 8] fun K hK => ?_ -- region 0
  simp [init_eq, wrap_id (x := 1) (by decide) (by decide)]
  refine hK _ _ ?_; clear hK K
  refine AW_block ?_
  refine AW_loopx (fun i : Nat => ⟨53, [(0, v), (1, .i .i64 0), (2, .i .i64 xs.length), (3, tcmpF), (8, .i .i64 i)]⟩)
    (fun i G => 1 ≤ i ∧ (i ≤ xs.length ∨ i = 1) ∧ ∃ ys, ys.Perm xs ∧ SortedTo ys i ∧ Own G v 10 (tc ys).flatten F ∧ Upd H G F) (fun i => xs.length - i) 1 (by simp) ⟨Nat.le_refl _, .inr rfl, xs, List.Perm.refl _, fun p q hp hq hl => by omega, ho, Upd.refl ..⟩ fun i G hM => ?_ -- loop
  obtain ⟨hi1, hi0, ys, hp, hs, oo, uG⟩ := hM
  have hyl := hp.length_eq
  repeat refine AW_seq ?_
  refine AW_reg [0, 1, 2, 3, 8, 14] fun K hK => ?_ -- region 1
  simp [init_eq]
  refine hK _ _ ?_; clear hK K
  refine AW_cond' rfl rfl (fun hc => ?_) (fun hc => ?_)
  · have hi : i < xs.length := by simpa using hc
    refine AW_skip ?_
    repeat refine AW_seq ?_
    refine AW_block ?_
    repeat refine AW_seq ?_
    refine AW_reg [0, 1, 2, 3, 8, 9] fun K hK => ?_ -- region 3
    simp [init_eq]
    refine hK _ _ ?_; clear hK K
    refine AW_block ?_
    refine AW_loopx (fun j : Nat => ⟨53, [(0, v), (1, .i .i64 0), (2, .i .i64 xs.length), (3, tcmpF), (8, .i .i64 i), (9, .i .i64 j)]⟩)
      (fun j G2 => ∃ zs, zs.Perm xs ∧ Mid zs i j ∧ Own G2 v 10 (tc zs).flatten F ∧ Upd H G2 F) (fun j => j) i (by simp) ⟨ys, hp, Mid.start hs (by omega), oo, uG⟩ fun j G2 hM => ?_ -- loop
    obtain ⟨zs, hpz, hm, oz, uz⟩ := hM
    have hzl := hpz.length_eq
    have hji := hm.ji
    have hjl : j < zs.length := by omega
    obtain ⟨id, g, hv, ha, qa⟩ := own_at oz hjl
    by_cases h0 : 0 < j
    · have hj1 : j - 1 < zs.length := by omega
      obtain ⟨id', g', hv', hb, qb⟩ := own_at oz hj1
      have hid : id = id' ∧ g = g' := by rw [hv] at hv'; simp at hv'; exact hv'
      obtain ⟨rfl, rfl⟩ := hid
      have hcast : ((j : Int) - 1) = ((j - 1 : Nat) : Int) := by omega
      have hw : IntKind.i64.wrap ((j : Int) - 1) = ((j - 1 : Nat) : Int) := by rw [wrap_id (by omega) (by omega)]; omega
      repeat refine AW_seq ?_
      refine AW_regdto [0, 1, 2, 3, 8, 9, 34] pl_66_4 pe_66_4 ⟨53, [(0, v), (1, .i .i64 0), (2, .i .i64 xs.length), (3, tcmpF), (8, .i .i64 i), (9, .i .i64 j), (34, .b (decide (zs[j].signer < zs[j - 1].signer)))]⟩ G2 (by kernel_rfl) (by kernel_rfl) (by decide) (fun K hk => ?_) ?_ -- region 4
      · simp [init_eq, pl_66_4, h0, ha, qa, hw, hb, qb]
        rw [AOp_callv (f := 51) (first := []) (caps := []) (by simp [tcmpF])]
        simp
        refine ACalls.mono (tcmp_ok G2 zs[j] zs[j - 1]) fun r G3 ⟨hr, e⟩ => ?_ -- the comparison
        subst hr e
        have hd : decide (cmpI zs[j].signer zs[j - 1].signer < 0) = decide (zs[j].signer < zs[j - 1].signer) := by
          unfold cmpI
          by_cases g1 : zs[j].signer < zs[j - 1].signer
          · simp [g1]
          · rw [if_neg g1]
            by_cases g2 : zs[j - 1].signer < zs[j].signer
            · simp [g1, g2]
            · simp [g1, g2]
        simpa [hd] using hk
      refine AW_cond' rfl rfl (fun hc => ?_) (fun hc => ?_)
      · have hlt2 : zs[j].signer < zs[j - 1].signer := by simpa using hc
        refine AW_skip ?_
        repeat refine AW_seq ?_
        refine AW_block ?_
        obtain ⟨G5, s1, o5, u5, n5⟩ := Own.store (P := Try.prog) oz (by decide) (tc_len _) qsize_34 (i := j) (by simpa using hjl) (id := id) (g := g) (by simpa using hv) (x := .agg zs[j - 1].cells) rfl (by simp)
        have hset1 : (tc zs).set j zs[j - 1].cells = tc (zs.set j zs[j - 1]) := by simp [tc, List.map_set]
        rw [hset1] at o5
        obtain ⟨G6, s2, o6, u6, n6⟩ := Own.store (P := Try.prog) o5 (by decide) (tc_len _) qsize_34 (i := j - 1) (by simp; omega) (id := id) (g := g) (by rw [hv]; simp) (x := .agg zs[j].cells) rfl (by simp)
        have hset2 : (tc (zs.set j zs[j - 1])).set (j - 1) zs[j].cells = tc (swapL zs j hjl) := by simp only [tc, ← List.map_set]; rfl
        rw [hset2] at o6
        refine AW_regd [0, 1, 2, 3, 8, 9] pl_66_6 pe_66_6 (by kernel_rfl) (by kernel_rfl) (by decide) fun K hK => ?_ -- region 6
        simp [init_eq, pl_66_6, ha, qa, hw, hb, qb, s1, s2]
        refine hK _ _ ?_; clear hK K
        refine bend (rend ?_)
        refine AW_reg [0, 1, 2, 3, 8, 9] fun K hK => ?_ -- region 5
        simp [init_eq, hw]
        refine hK _ _ ?_; clear hK K
        exact rend ⟨j - 1, by simp, ⟨_, (swapL_perm zs j hjl h0).trans hpz, hm.swap h0 hlt2, o6, (uz.trans u5 (fun j hj => .inl hj)).trans u6 (fun j hj => .inl hj)⟩, by omega⟩ -- round's end
      · have hge : zs[j - 1].signer ≤ zs[j].signer := by
          have : ¬ zs[j].signer < zs[j - 1].signer := by simpa using hc
          omega
        have hst := hm.stop (fun _ => hge)
        refine AW_exit (then_exit (then_exit (block_here ?_)))
        refine bend (rend ?_)
        refine AW_reg [0, 1, 2, 3, 8] fun K hK => ?_ -- region 2
        simp [init_eq, wrap_id (x := (i : Int) + 1) (by omega) (by omega)]
        refine hK _ _ ?_; clear hK K
        exact rend ⟨i + 1, by simp, ⟨by omega, .inl (by omega), zs, hpz, hst, oz, uz⟩, by omega⟩ -- round's end
    · have hj0 : j = 0 := by omega
      subst hj0
      have hst := hm.stop (fun h => absurd h h0)
      repeat refine AW_seq ?_
      refine AW_regd [0, 1, 2, 3, 8, 9, 34] pl_66_4 pe_66_4 (by kernel_rfl) (by kernel_rfl) (by decide) fun K hK => ?_ -- region 4
      simp [init_eq, pl_66_4]
      refine hK _ _ ?_; clear hK K
      refine AW_cond' rfl rfl (fun hc => by cases hc) (fun hc => ?_)
      refine AW_exit (then_exit (then_exit (block_here ?_)))
      refine bend (rend ?_)
      refine AW_reg [0, 1, 2, 3, 8] fun K hK => ?_ -- region 2
      simp [init_eq, wrap_id (x := (i : Int) + 1) (by omega) (by omega)]
      refine hK _ _ ?_; clear hK K
      exact rend ⟨i + 1, by simp, ⟨by omega, .inl (by omega), zs, hpz, hst, oz, uz⟩, by omega⟩ -- round's end
  · have hi : ¬ i < xs.length := by simpa using hc
    refine AW_exit (then_exit (then_exit (block_here ?_)))
    exact end_normal rfl ⟨rfl, ys, hp, fun p q hpq hq hl => hs p q hpq (by omega) hl, oo, uG⟩
theorem pdq_ok (H : AH) {v : V} {F : List Nat} {xs : List Tmo} (ho : Own H v 10 (tc xs).flatten F) (hl : xs.length ≤ 12) (k : Int) :
    ACalls Try.prog 62 [v, .i .i64 0, .i .i64 xs.length, .i .i64 k, tcmpF] H fun r H' => r = .tup [] ∧ ∃ ys, ys.Perm xs ∧ SortedTo ys ys.length ∧ Own H' v 10 (tc ys).flatten F ∧ Upd H H' F := by
  refine ACalls_body Try.func62 rfl rfl ?_
  repeat refine AW_seq ?_
  refine AW_reg [0, 1, 2, 3, 4, 10] fun K hK => ?_ -- region 0
  simp [init_eq]
  refine hK _ _ ?_; clear hK K
  repeat refine AW_seq ?_
  refine AW_reg [0, 1, 2, 3, 4] fun K hK => ?_ -- region 1
  simp [init_eq]
  refine hK _ _ ?_; clear hK K
  refine AW_block ?_
  refine AW_loopx (fun i : Nat => ⟨148, [(0, v), (1, .i .i64 0), (2, .i .i64 xs.length), (4, tcmpF)]⟩) (fun i G => G = H) (fun i => 0) 0 (by simp) rfl fun i G hM => ?_ -- loop
  subst hM
  repeat refine AW_seq ?_
  refine AW_block ?_
  repeat refine AW_seq ?_
  refine AW_reg [0, 1, 2, 4, 12] fun K hK => ?_ -- region 2
  simp [init_eq, wrap_id (x := (xs.length : Int)) (by omega) (by omega)]
  refine hK _ _ ?_; clear hK K
  repeat refine AW_seq ?_
  refine AW_reg [0, 1, 2, 4, 25] fun K hK => ?_ -- region 3
  simp [init_eq]
  refine hK _ _ ?_; clear hK K
  refine AW_cond' rfl rfl (fun hc => ?_) (fun hc => ?_)
  · repeat refine AW_seq ?_
    refine AW_reg [] fun K hK => ?_ -- region 4
    simp [init_eq]
    refine ACalls.mono (isort_ok G ho (by omega)) fun r H' ⟨hr, hp⟩ => ?_ -- insertionSort
    subst hr
    try simp
    refine hK _ _ ?_; clear hK K
    exact AW_ret (end_ret rfl ⟨rfl, hp⟩)
  · exfalso
    simp at hc
    omega
theorem sort_ok (H : AH) {v : V} {F : List Nat} {xs : List Tmo} (ho : Own H v 10 (tc xs).flatten F) (hl : xs.length ≤ 12) :
    ACalls Try.prog 50 [v, tcmpF] H fun r H' => r = .tup [] ∧ ∃ ys, ys.Perm xs ∧ SortedTo ys ys.length ∧ Own H' v 10 (tc ys).flatten F ∧ Upd H H' F := by
  have hrs : RS H v 10 (xs.map Tmo.cells) := Own.rsR (xs := xs) (f := Tmo.cells) ho (by decide) fun _ => rfl
  have lx := hrs.alen (P := Try.prog) qelem_50 H
  refine ACalls_body Try.func50 rfl rfl ?_
  repeat refine AW_seq ?_
  refine AW_reg [0, 1, 4] fun K hK => ?_ -- region 0
  simp [init_eq, lx]
  refine hK _ _ ?_; clear hK K
  refine AW_reg [] fun K hK => ?_ -- region 1
  have hw : IntKind.u64.wrap (xs.length : Int) = ((xs.length : Nat) : Int) := wrap_u64 (by omega)
  simp [init_eq]
  refine ⟨_, _, conv_int (k := .u64) (by simp) (by simp), ?_⟩
  rw [hw]
  refine ACalls.mono (blen_ok H xs.length (by omega)) fun r H' ⟨⟨k, hr⟩, e⟩ => ?_ -- math/bits.Len
  subst hr e
  try simp
  refine ACalls.mono (pdq_ok H' ho hl k) fun r H2 ⟨hr, hp⟩ => ?_ -- pdqsort
  subst hr
  try simp
  refine hK _ _ ?_; clear hK K
  exact end_normal rfl ⟨rfl, hp⟩
end Go.Proofs.Ytdioggohbfgnfaa
