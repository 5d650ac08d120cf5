/-
  Sorting timeouts by their signers: the comparison, bits.Len.
-/
import Derived.Test.YtdioggohbfgnfaaTP2
set_option linter.unusedVariables false
set_option linter.unusedSimpArgs false
namespace Go.Proofs.Ytdioggohbfgnfaa
open Go Go.Abs Go.Proofs
set_option maxRecDepth 100000
attribute [local irreducible] AEnd AW ACalls

theorem isNaN_ok (H : AH) (x : Int) : ACalls Try.prog 64 [.i .i64 x] H fun r H' => r = .b false ∧ H' = H := by
  refine ACalls_body Try.func64 rfl rfl ?_
  repeat refine AW_seq ?_
  refine AW_reg [0] fun K hK => ?_ -- region 0
  simp [init_eq]
  refine hK _ _ ?_; clear hK K
  repeat refine AW_seq ?_
  refine AW_reg [2] fun K hK => ?_ -- region 1
  simp [init_eq]
  refine hK _ _ ?_; clear hK K
  exact AW_ret (end_ret rfl ⟨rfl, rfl⟩)
def cmpI (x y : Int) : Int := if x < y then -1 else if y < x then 1 else 0
theorem compare_ok (H : AH) (x y : Int) : ACalls Try.prog 52 [.i .i64 x, .i .i64 y] H fun r H' => r = .i .i64 (cmpI x y) ∧ H' = H := by
  refine ACalls_body Try.func52 rfl rfl ?_
  repeat refine AW_seq ?_
  refine AW_reg [0, 1] fun K hK => ?_ -- region 0
  simp [init_eq]
  refine hK _ _ ?_; clear hK K
  repeat refine AW_seq ?_
  refine AW_reg [0, 1, 5] fun K hK => ?_ -- region 1
  simp [init_eq]
  refine ACalls.mono (isNaN_ok H x) fun r H' ⟨hr, e⟩ => ?_ -- isNaN
  subst hr e
  try simp
  refine hK _ _ ?_; clear hK K
  repeat refine AW_seq ?_
  refine AW_reg [0, 1, 5, 6] fun K hK => ?_ -- region 2
  simp [init_eq]
  refine ACalls.mono (isNaN_ok H' y) fun r H2 ⟨hr, e⟩ => ?_ -- isNaN
  subst hr e
  try simp
  refine hK _ _ ?_; clear hK K
  repeat refine AW_seq ?_
  refine AW_reg [0, 1, 6, 11] fun K hK => ?_ -- region 3
  simp [init_eq]
  refine hK _ _ ?_; clear hK K
  refine AW_cond' rfl rfl (fun hc => by cases hc) (fun hc => ?_)
  refine AW_skip ?_
  repeat refine AW_seq ?_
  refine AW_reg [0, 1, 13] fun K hK => ?_ -- region 7
  simp [init_eq]
  refine hK _ _ ?_; clear hK K
  refine AW_cond' rfl rfl (fun hc => by cases hc) (fun hc => ?_)
  refine AW_skip ?_
  repeat refine AW_seq ?_
  refine AW_reg [0, 1, 16] fun K hK => ?_ -- region 9
  simp [init_eq]
  refine hK _ _ ?_; clear hK K
  refine AW_cond' rfl rfl (fun hc => ?_) (fun hc => ?_)
  · have g : x < y := by simpa using hc
    repeat refine AW_seq ?_
    refine AW_reg [4] fun K hK => ?_ -- region 10
    simp [init_eq]
    refine hK _ _ ?_; clear hK K
    exact AW_ret (end_ret rfl ⟨by rw [cmpI, if_pos g]; rfl, rfl⟩)
  have g : ¬ x < y := by simpa using hc
  refine AW_skip ?_
  repeat refine AW_seq ?_
  refine AW_reg [0, 1, 19] fun K hK => ?_ -- region 11
  simp [init_eq]
  refine hK _ _ ?_; clear hK K
  refine AW_cond' rfl rfl (fun hc => ?_) (fun hc => ?_)
  · have g2 : y < x := by simpa using hc
    repeat refine AW_seq ?_
    refine AW_reg [4] fun K hK => ?_ -- region 12
    simp [init_eq]
    refine hK _ _ ?_; clear hK K
    exact AW_ret (end_ret rfl ⟨by rw [cmpI, if_neg g, if_pos g2]; rfl, rfl⟩)
  have g2 : ¬ y < x := by simpa using hc
  refine AW_skip ?_
  repeat refine AW_seq ?_
  refine AW_reg [4] fun K hK => ?_ -- region 13
  simp [init_eq]
  refine hK _ _ ?_; clear hK K
  exact AW_ret (end_ret rfl ⟨by rw [cmpI, if_neg g, if_neg g2]; rfl, rfl⟩)
@[simp] theorem Tmo.lts (n : Nat) (c : Tmo) : V.lts n c.cells = true := by simp [Tmo.cells]
theorem tcmp_ok (H : AH) (a b : Tmo) : ACalls Try.prog 51 [.agg a.cells, .agg b.cells] H fun r H' => r = .i .i64 (cmpI a.signer b.signer) ∧ H' = H := by
  refine ACalls.pure (Q := fun r => r = .i .i64 (cmpI a.signer b.signer)) ⟨_, Try.func51, rfl, rfl⟩ ?_
  refine ACalls_body Try.func51 rfl rfl ?_
  repeat refine AW_seq ?_
  refine AW_reg [2, 3] fun K hK => ?_ -- region 0
  simp [init_eq, V.cells]
  obtain ⟨H1, e1, hp1, hp2, hn, ho⟩ := H.boxed2 a.cells b.cells
  rw [e1]
  refine hK _ _ ?_; clear hK K
  repeat refine AW_seq ?_
  refine AW_reg [4] fun K hK => ?_ -- region 1
  simp [init_eq, afieldAddr, aload, hp1, hp2]
  refine ACalls.mono (compare_ok H1 a.signer b.signer) fun r H' ⟨hr, e⟩ => ?_ -- cmp.Compare
  subst hr e
  try simp
  refine hK _ _ ?_; clear hK K
  exact AW_ret (end_ret rfl ⟨rfl, by simp, by omega, ho⟩)
theorem index_str {P : Program} {t : TypeId} (h : qstr P t = true) {l : List UInt8} {k : IntKind} {n : Nat} (hn : n < l.length) : aindex P t (.s l) (.i k (n : Int)) = some (.i .u8 (l.getD n 0).toNat) := by
  simp only [aindex]
  rw [if_pos ⟨h, Int.natCast_nonneg _⟩]
  simp [List.getD, hn]
theorem len64_ok (H : AH) (n : Nat) (hn : n < 256) : ACalls Try.prog 75 [.i .u64 (n : Int)] H fun r H' => (∃ k : Int, r = .i .i64 k) ∧ H' = H := by
  refine ACalls_body Try.func75 rfl rfl ?_
  repeat refine AW_seq ?_
  refine AW_reg [0, 2] fun K hK => ?_ -- region 0
  simp [init_eq]
  refine hK _ _ ?_; clear hK K
  repeat refine AW_seq ?_
  refine AW_reg [0, 2, 4] fun K hK => ?_ -- region 1
  simp [init_eq, abin, aint]
  refine hK _ _ ?_; clear hK K
  refine AW_cond' rfl rfl (fun hc => by simp at hc; omega) (fun hc => ?_)
  clear hc
  refine AW_skip ?_
  repeat refine AW_seq ?_
  refine AW_reg [0, 2, 8] fun K hK => ?_ -- region 4
  simp [init_eq, abin, aint]
  refine hK _ _ ?_; clear hK K
  refine AW_cond' rfl rfl (fun hc => by simp at hc; omega) (fun hc => ?_)
  clear hc
  refine AW_skip ?_
  repeat refine AW_seq ?_
  refine AW_reg [0, 2, 14] fun K hK => ?_ -- region 7
  simp [init_eq, abin, aint]
  refine hK _ _ ?_; clear hK K
  refine AW_cond' rfl rfl (fun hc => by simp at hc; omega) (fun hc => ?_)
  clear hc
  refine AW_skip ?_
  repeat refine AW_seq ?_
  refine AW_reg [2] fun K hK => ?_ -- region 10
  have hw : IntKind.u8.wrap (n : Int) = (n : Int) := by rw [IntKind.wrap_u8]; omega
  simp [init_eq]
  refine ⟨_, _, conv_int (k := .u8) (by simp) (by simp), ?_⟩
  rw [hw]
  refine ⟨_, index_str (by simp) (show n < 256 from hn), ?_⟩
  refine ⟨_, _, conv_int (k := .i64) (by simp) (by simp), ?_⟩
  simp
  refine hK _ _ ?_; clear hK K
  exact AW_ret (end_ret rfl ⟨⟨_, rfl⟩, rfl⟩)
theorem blen_ok (H : AH) (n : Nat) (hn : n < 256) : ACalls Try.prog 63 [.i .u64 (n : Int)] H fun r H' => (∃ k : Int, r = .i .i64 k) ∧ H' = H := by
  refine ACalls_body Try.func63 rfl rfl ?_
  repeat refine AW_seq ?_
  refine AW_reg [0] fun K hK => ?_ -- region 0
  simp [init_eq]
  refine hK _ _ ?_; clear hK K
  repeat refine AW_seq ?_
  refine AW_cond' rfl rfl (fun hc => by cases hc) (fun hc => ?_)
  refine AW_skip ?_
  repeat refine AW_seq ?_
  refine AW_reg [2] fun K hK => ?_ -- region 2
  simp [init_eq]
  refine ACalls.mono (len64_ok H n hn) fun r H' ⟨⟨k, hr⟩, e⟩ => ?_ -- Len64
  subst hr e
  try simp
  refine hK _ _ ?_; clear hK K
  exact AW_ret (end_ret rfl ⟨⟨_, rfl⟩, rfl⟩)
/-- Sorted up to a place, but for one that is still on its way down. -/
structure Mid (xs : List Tmo) (i j : Nat) : Prop where
  ji : j ≤ i
  il : i < xs.length
  oth : ∀ (p q : Nat) (hp : p < q) (hq : q ≤ i), p ≠ j → q ≠ j → (xs[p]'(by omega)).signer ≤ (xs[q]'(by omega)).signer
  aft : ∀ (p : Nat) (hp : j < p) (hi : p ≤ i), (xs[j]'(by omega)).signer ≤ (xs[p]'(by omega)).signer
def SortedTo (xs : List Tmo) (i : Nat) : Prop := ∀ (p q : Nat) (hp : p < q) (hq : q < i) (hl : q < xs.length), (xs[p]'(by omega)).signer ≤ (xs[q]'(by omega)).signer
theorem Mid.start {xs : List Tmo} {i : Nat} (h : SortedTo xs i) (hi : i < xs.length) : Mid xs i i :=
  ⟨Nat.le_refl _, hi, fun p q hp hq h1 h2 => h p q hp (by omega) (by omega), fun p hp hi => by omega⟩
theorem Mid.stop {xs : List Tmo} {i j : Nat} (h : Mid xs i j) (hs : ∀ (h0 : 0 < j), (xs[j - 1]'(by have := h.ji; have := h.il; omega)).signer ≤ (xs[j]'(by have := h.ji; have := h.il; omega)).signer) : SortedTo xs (i + 1) := by
  intro p q hp hq hl
  have hji := h.ji
  have hil := h.il
  by_cases h1 : p = j
  · subst h1; exact h.aft q hp (by omega)
  · by_cases h2 : q = j
    · subst h2
      by_cases h3 : p = q - 1
      · subst h3; exact hs (by omega)
      · have a1 := h.oth p (q - 1) (by omega) (by omega) (by omega) (by omega)
        exact Int.le_trans a1 (hs (by omega))
    · exact h.oth p q hp (by omega) h1 h2
def swapL (xs : List Tmo) (j : Nat) (hj : j < xs.length) : List Tmo := (xs.set j (xs[j - 1]'(by omega))).set (j - 1) xs[j]
theorem swapL_len (xs : List Tmo) (j : Nat) (hj : j < xs.length) : (swapL xs j hj).length = xs.length := by simp [swapL]
theorem swapL_get (xs : List Tmo) (j : Nat) (hj : j < xs.length) (h0 : 0 < j) (p : Nat) (hp : p < (swapL xs j hj).length) : (swapL xs j hj)[p] = if p = j then xs[j - 1]'(by omega) else if p = j - 1 then xs[j] else xs[p]'(by rw [swapL_len] at hp; exact hp) := by
  have hp' : p < xs.length := by rw [swapL_len] at hp; exact hp
  have e : (swapL xs j hj)[p] = ((xs.set j (xs[j - 1]'(by omega))).set (j - 1) xs[j])[p]'(by simpa using hp') := rfl
  rw [e, List.getElem_set, List.getElem_set]
  by_cases h1 : p = j
  · subst h1; rw [if_neg (by omega), if_pos rfl, if_pos rfl]
  · by_cases h2 : p = j - 1
    · subst h2; rw [if_pos rfl, if_neg h1, if_pos rfl]
    · rw [if_neg (fun e => h2 e.symm), if_neg (fun e => h1 e.symm), if_neg h1, if_neg h2]
theorem Mid.swap {xs : List Tmo} {i j : Nat} (h : Mid xs i j) (h0 : 0 < j) (hlt : (xs[j]'(by have := h.ji; have := h.il; omega)).signer < (xs[j - 1]'(by have := h.ji; have := h.il; omega)).signer) :
    Mid (swapL xs j (by have := h.ji; have := h.il; omega)) i (j - 1) := by
  have hji := h.ji
  have hil := h.il
  refine ⟨by omega, by rw [swapL_len]; exact hil, fun p q hp hq h1 h2 => ?_, fun p hp hi => ?_⟩
  · rw [swapL_get _ _ _ h0, swapL_get _ _ _ h0]
    rw [if_neg h1, if_neg h2]
    by_cases e1 : p = j
    · subst e1
      rw [if_pos rfl, if_neg (by omega)]
      exact h.oth (p - 1) q (by omega) hq (by omega) (by omega)
    · rw [if_neg e1]
      by_cases e2 : q = j
      · subst e2
        rw [if_pos rfl]
        exact h.oth p (q - 1) (by omega) (by omega) e1 (by omega)
      · rw [if_neg e2]
        exact h.oth p q hp hq e1 e2
  · rw [swapL_get _ _ _ h0, swapL_get _ _ _ h0]
    rw [if_neg (by omega), if_pos rfl]
    by_cases e1 : p = j
    · subst e1; rw [if_pos rfl]; omega
    · rw [if_neg e1, if_neg (by omega)]
      exact h.aft p (by omega) hi
theorem swapL_perm (xs : List Tmo) (j : Nat) (hj : j < xs.length) (h0 : 0 < j) : (swapL xs j hj).Perm xs := by
  unfold swapL
  exact List.set_set_perm hj (by omega)
end Go.Proofs.Ytdioggohbfgnfaa
