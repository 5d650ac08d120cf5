/-
  The document's tally: Coin, Done; Times.
-/
import Derived.Test.YtdioggohbfgnfaaTR6
set_option linter.unusedVariables false
set_option linter.unusedSimpArgs false
namespace Go.Proofs.Ytdioggohbfgnfaa
open Go Go.Abs Go.Proofs
set_option maxRecDepth 100000
attribute [local irreducible] AEnd AW ACalls

theorem bits_of (L : List Nat) : ∃ s : BitVec 32, ∀ i, i < 32 → s.getLsbD i = decide (i ∈ L) := by
  obtain ⟨s, hs⟩ := bits_exist (fun i => decide (i ∈ L)) 32 (by decide)
  exact ⟨s, fun i hi => by rw [hs i hi]; simp [hi]⟩
theorem whoM_len (f : Int) (ms : List Mrk) (kind view : Int) : (whoM f ms kind view).length ≤ 10 := by
  have hN : qtimes 3 f ≤ 10 := by rcases qtimes3 f with h | h | h | h <;> omega
  have h1 := List.length_filter_le (fun k => ms.any (isM kind view k)) (List.range (qtimes 3 f).toNat)
  simp only [List.length_range] at h1
  unfold whoM
  omega
theorem q_small {f : Int} (h : qtimes 3 f ≠ 0) : 1 ≤ f ∧ f ≤ 3 := by
  unfold qtimes at h
  split at h
  · exact absurd rfl h
  · omega
theorem rcoin_ok (H : AH) {m : Nat} {F : List Nat} {f fr : Int} {vs : List Cert} {ts : List Tmo} {ms : List Mrk} (hR : RAt H m F f fr vs ts ms) (hfr : 1 ≤ fr) (hq : qtimes 3 f ≠ 0) (hl : ms.length ≤ 10000) (view who : Int) (hv : view ≤ 9223372036854775807) :
    ACalls Try.prog 19 [.p (some (m, 0, 0)), .i .i64 view, .i .i64 who] H fun r H' =>
      (∃ s : BitVec 32, (∀ i, i < 32 → s.getLsbD i = decide (i ∈ whoM f (ms ++ [⟨1, view, who⟩]) 1 view)) ∧ r = .tup [u32 (if merr f fr ⟨1, view, who⟩ = 0 ∧ f < (whoM f (ms ++ [⟨1, view, who⟩]) 1 view).length then s else 0#32), .i .i64 (merr f fr ⟨1, view, who⟩)]) ∧
      ∃ F', RAt H' m F' f fr vs ts (if merr f fr ⟨1, view, who⟩ = 0 then ms ++ [⟨1, view, who⟩] else ms) ∧ Upd H H' F ∧ ∀ j ∈ F', j ∈ F ∨ H.next ≤ j := by
  obtain ⟨s0, hs0⟩ := bits_of (whoM f (ms ++ [⟨1, view, who⟩]) 1 view)
  have hbd : abuild Try.prog 105 [(0, .i .i64 1), (1, .i .i64 view), (2, .i .i64 who)] = some (.agg (Mrk.cells ⟨1, view, who⟩)) := by simp [abuild, afill, V.cells, splice, Mrk.cells]
  have hf := q_small hq
  refine ACalls_body Try.func19 rfl rfl ?_
  repeat refine AW_seq ?_
  refine AW_reg [0, 1, 2] fun K hK => ?_ -- region 0
  simp [init_eq]
  refine hK _ _ ?_; clear hK K
  repeat refine AW_seq ?_
  refine AW_reg [0, 8, 9] fun K hK => ?_ -- region 1
  simp [init_eq, hbd]
  refine ACalls.mono (rmark_ok H hR hfr hl ⟨1, view, who⟩ hv) fun r H' ⟨⟨lv, hr, hrl⟩, hpost⟩ => ?_ -- mark
  subst hr
  try simp
  refine hK _ _ ?_; clear hK K
  have hLl := whoM_len f (ms ++ [⟨1, view, who⟩]) 1 view
  have hl0 : (Mrk.kind ⟨1, view, who⟩) = 1 := rfl
  have hl1 : (Mrk.view ⟨1, view, who⟩) = view := rfl
  rw [hl0, hl1] at hrl
  obtain ⟨F', hR', hu, hF⟩ := hpost
  generalize hwh : whoM f (ms ++ [⟨1, view, who⟩]) 1 view = L at hrl hLl hs0 ⊢
  have ldf : aload Try.prog H' 3 (.p (some (m, 0, 0))) = some (.i .i64 f) := by
    obtain ⟨vv, tv, mv, FV, FT, FM, rfl, h2, h3, h4, h5, h6⟩ := hR'
    simp [aload, h3]
  have hpost : ∃ F', RAt H' m F' f fr vs ts (if merr f fr ⟨1, view, who⟩ = 0 then ms ++ [⟨1, view, who⟩] else ms) ∧ Upd H H' F ∧ ∀ j ∈ F', j ∈ F ∨ H.next ≤ j := ⟨F', hR', hu, hF⟩
  generalize merr f fr ⟨1, view, who⟩ = e at hrl hpost ⊢
  clear hR' hu hF
  have ll := hrl.alen (P := Try.prog) qelem_95 H'
  generalize hL' : (if e = 0 then L else []) = L' at hrl ll
  repeat refine AW_seq ?_
  refine AW_reg [8, 9, 24] fun K hK => ?_ -- region 2
  simp [init_eq, ll, afieldAddr, ldf]
  refine hK _ _ ?_; clear hK K
  refine AW_cond' rfl rfl (fun hc => ?_) (fun hc => ?_)
  · have g : (L'.length : Int) ≤ f := by simpa using hc
    repeat refine AW_seq ?_
    refine AW_reg [6, 7] fun K hK => ?_ -- region 3
    simp [init_eq]
    refine hK _ _ ?_; clear hK K
    refine AW_ret (end_ret rfl ⟨⟨s0, hs0, ?_⟩, hpost⟩)
    rw [if_neg (fun h => by rw [if_pos h.1] at hL'; subst hL'; have := h.2; omega)]
    rfl
  · have g : f < (L'.length : Int) := by
      have : ¬ (L'.length : Int) ≤ f := by simpa using hc
      omega
    have he : e = 0 := by
      apply Classical.byContradiction
      intro h
      rw [if_neg h] at hL'
      subst hL'
      simp at g
      omega
    rw [if_pos he] at hL'
    subst hL'
    refine AW_skip ?_
    repeat refine AW_seq ?_
    refine AW_reg [6, 7] fun K hK => ?_ -- region 4
    simp [init_eq]
    refine ACalls.mono (rof_ok H' hrl (by omega)) fun r H2 ⟨⟨s, hr, hs⟩, e2⟩ => ?_ -- hallmoot/hallmootref04.Of
    subst hr e2
    try simp
    refine hK _ _ ?_; clear hK K
    refine AW_ret (end_ret rfl ⟨⟨s, hs, ?_⟩, hpost⟩)
    rw [if_pos ⟨he, g⟩]; rfl
theorem rdone_ok (H : AH) {m : Nat} {F : List Nat} {f fr : Int} {vs : List Cert} {ts : List Tmo} {ms : List Mrk} (hR : RAt H m F f fr vs ts ms) (hfr : 1 ≤ fr) (hl : ms.length ≤ 10000) (view who : Int) (hv : view ≤ 9223372036854775807) :
    ACalls Try.prog 21 [.p (some (m, 0, 0)), .i .i64 view, .i .i64 who] H fun r H' =>
      r = .tup [.i .i64 ((if merr f fr ⟨2, view, who⟩ = 0 then (whoM f (ms ++ [⟨2, view, who⟩]) 2 view).length else 0 : Nat) : Int), .i .i64 (merr f fr ⟨2, view, who⟩)] ∧
      ∃ F', RAt H' m F' f fr vs ts (if merr f fr ⟨2, view, who⟩ = 0 then ms ++ [⟨2, view, who⟩] else ms) ∧ Upd H H' F ∧ ∀ j ∈ F', j ∈ F ∨ H.next ≤ j := by
  have hbd : abuild Try.prog 105 [(0, .i .i64 2), (1, .i .i64 view), (2, .i .i64 who)] = some (.agg (Mrk.cells ⟨2, view, who⟩)) := by simp [abuild, afill, V.cells, splice, Mrk.cells]
  refine ACalls_body Try.func21 rfl rfl ?_
  repeat refine AW_seq ?_
  refine AW_reg [0, 1, 2] fun K hK => ?_ -- region 0
  simp [init_eq]
  refine hK _ _ ?_; clear hK K
  repeat refine AW_seq ?_
  refine AW_reg [8, 9] fun K hK => ?_ -- region 1
  simp [init_eq, hbd]
  refine ACalls.mono (rmark_ok H hR hfr hl ⟨2, view, who⟩ hv) fun r H' ⟨⟨lv, hr, hrl⟩, hpost⟩ => ?_ -- mark
  subst hr
  try simp
  refine hK _ _ ?_; clear hK K
  have hl0 : (Mrk.kind ⟨2, view, who⟩) = 2 := rfl
  have hl1 : (Mrk.view ⟨2, view, who⟩) = view := rfl
  rw [hl0, hl1] at hrl
  generalize merr f fr ⟨2, view, who⟩ = e at hrl hpost ⊢
  have ll := hrl.alen (P := Try.prog) qelem_95 H'
  repeat refine AW_seq ?_
  refine AW_reg [6, 7] fun K hK => ?_ -- region 2
  simp [init_eq, ll]
  refine hK _ _ ?_; clear hK K
  refine AW_ret (end_ret rfl ⟨?_, hpost⟩)
  by_cases h : e = 0
  · rw [if_pos h, if_pos h]; rfl
  · rw [if_neg h, if_neg h]; rfl
theorem rtimes_ok (H : AH) {v w : V} {xs ys : List Tmo} (hx : RS H v 10 (xs.map Tmo.cells)) (hy : RS H w 10 (ys.map Tmo.cells)) (hl : xs.length ≤ 1000000000) :
    ACalls Try.prog 17 [v, w] H fun r H' => r = .b (decide (xs = ys)) ∧ H' = H := by
  have lx := hx.alen (P := Try.prog) qelem_50 H
  have ly := hy.alen (P := Try.prog) qelem_50 H
  refine ACalls_body Try.func17 rfl rfl ?_
  repeat refine AW_seq ?_
  refine AW_reg [0, 1] fun K hK => ?_ -- region 0
  simp [init_eq]
  refine hK _ _ ?_; clear hK K
  repeat refine AW_seq ?_
  refine AW_reg [0, 1, 10] fun K hK => ?_ -- region 1
  simp [init_eq, lx, ly]
  refine hK _ _ ?_; clear hK K
  refine AW_cond' rfl rfl (fun hc => ?_) (fun hc => ?_)
  · have g : ¬ xs.length = ys.length := by
      intro h
      simp [h] at hc
    repeat refine AW_seq ?_
    refine AW_reg [4] fun K hK => ?_ -- region 2
    simp [init_eq]
    refine hK _ _ ?_; clear hK K
    refine AW_ret (end_ret rfl ⟨?_, rfl⟩)
    have : decide (xs = ys) = false := decide_eq_false fun e => g (by rw [e])
    rw [this]; rfl
  · have g : xs.length = ys.length := by
      apply Classical.byContradiction
      intro h
      have h2 : ¬ (xs.length : Int) = ys.length := by omega
      simp [h2] at hc
    refine AW_skip ?_
    repeat refine AW_seq ?_
    refine AW_reg [0, 1, 5] fun K hK => ?_ -- region 3
    simp [init_eq]
    refine hK _ _ ?_; clear hK K
    refine AW_block ?_
    refine AW_loopx (fun i : Nat => ⟨26, [(0, v), (1, w), (5, .i .i64 i)]⟩) (fun i H' => H' = H ∧ i ≤ xs.length ∧ xs.take i = ys.take i) (fun i => xs.length - i) 0 (by simp) ⟨rfl, by simp, by simp⟩ fun i H' hM => ?_ -- loop
    obtain ⟨rfl, hi0, hi1⟩ := hM
    repeat refine AW_seq ?_
    refine AW_reg [0, 1, 5, 14] fun K hK => ?_ -- region 4
    simp [init_eq, lx]
    refine hK _ _ ?_; clear hK K
    refine AW_cond' rfl rfl (fun hc => ?_) (fun hc => ?_)
    · have hi : i < xs.length := by simpa using hc
      obtain ⟨ax, _, _, px, qx, _⟩ := tmo_at H' hx i hi
      obtain ⟨ay, _, _, py, qy, _⟩ := tmo_at H' hy i (by omega)
      refine AW_skip ?_
      repeat refine AW_seq ?_
      refine AW_block ?_
      repeat refine AW_seq ?_
      refine AW_regd [0, 1, 5, 25] pl_17_6 pe_17_6 (by kernel_rfl) (by kernel_rfl) (by decide) fun K hK => ?_ -- region 6
      have hne : abin Try.prog .neq 34 (.agg xs[i].cells) (.agg (ys[i]'(by omega)).cells) = some (.b (!decide (xs[i] = ys[i]'(by omega)))) := by
        show (Go.Abs.aeq ..).map _ = _; rw [Tmo.aeq]; rfl
      simp [init_eq, pl_17_6, px, qx, py, qy, hne]
      refine hK _ _ ?_; clear hK K
      refine AW_cond' rfl rfl (fun hc => ?_) (fun hc => ?_)
      · have g2 : ¬ xs[i] = ys[i]'(by omega) := by simpa using hc
        repeat refine AW_seq ?_
        refine AW_reg [4] fun K hK => ?_ -- region 7
        simp [init_eq]
        refine hK _ _ ?_; clear hK K
        refine AW_ret (end_ret rfl ⟨?_, rfl⟩)
        have : decide (xs = ys) = false := decide_eq_false fun e => g2 (by subst e; rfl)
        rw [this]; rfl
      · have g2 : xs[i] = ys[i]'(by omega) := by simpa using hc
        refine AW_skip ?_
        refine bend (rend ?_)
        refine AW_reg [0, 1, 5] fun K hK => ?_ -- region 5
        simp [init_eq, wrap_id (x := (i : Int) + 1) (by omega) (by omega)]
        refine hK _ _ ?_; clear hK K
        exact rend ⟨i + 1, by simp, ⟨rfl, by omega, take_succ_eq hi (by omega) hi1 g2⟩, by omega⟩ -- round's end
    · have hi : i = xs.length := by have : ¬ i < xs.length := by simpa using hc
                                    omega
      subst hi
      have he : xs = ys := by rw [List.take_length] at hi1; rw [hi1, g, List.take_length]
      refine AW_exit (then_exit (then_exit (block_here ?_)))
      repeat refine AW_seq ?_
      refine AW_reg [4] fun K hK => ?_ -- region 8
      simp [init_eq]
      refine hK _ _ ?_; clear hK K
      refine AW_ret (end_ret rfl ⟨?_, rfl⟩)
      rw [decide_eq_true he]; rfl
end Go.Proofs.Ytdioggohbfgnfaa
