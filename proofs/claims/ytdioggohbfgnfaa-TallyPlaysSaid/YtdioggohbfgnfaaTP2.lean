/-
  The program's tally: replica, add, Coin, Done, Len.
-/
import Derived.Test.YtdioggohbfgnfaaTP0
import Derived.Test.YtdioggohbfgnfaaTR6
set_option linter.unusedVariables false
set_option linter.unusedSimpArgs false
namespace Go.Proofs.Ytdioggohbfgnfaa
open Go Go.Abs Go.Proofs
set_option maxRecDepth 100000
attribute [local irreducible] AEnd AW ACalls

def keyI (n : Int) : V := .i .i64 n
@[simp] theorem int_keq (a b : Int) : keq Try.prog 3 (keyI a) (keyI b) = some (decide (a = b)) := (keq_i qint_3).trans (congrArg some (Bool.eq_iff_iff.2 (by simp)))
@[simp] theorem int_fits (a : Int) : keyFits Try.prog 3 (keyI a) = true := by unfold keyFits; rw [Try.underlying3]
abbrev Sets := List (Int × BitVec 32 × Nat)
theorem repl_ok (H : AH) {id : Nat} {f : Int} {va vb vc vd ve : V} (h : H.get id = some (.cells [.i .i64 f, va, vb, vc, vd, ve] 0 false 0)) (k : Int) :
    ACalls Try.prog 49 [.p (some (id, 0, 0)), .i .i64 k] H fun r H' => r = .b (replB f k) ∧ H' = H := by
  refine ACalls_body Try.func49 rfl rfl ?_
  repeat refine AW_seq ?_
  refine AW_reg [0, 1] fun K hK => ?_ -- region 0
  simp [init_eq]
  refine hK _ _ ?_; clear hK K
  repeat refine AW_seq ?_
  refine AW_regto [4] ⟨16, [(4, .b (replB f k))]⟩ H (fun K hk => ?_) ?_ -- region 1
  · by_cases g : 0 ≤ k
    · simp [init_eq, g, afieldAddr, aload, h]
      refine ACalls.mono (all_ok H f) fun r H' ⟨hr, e⟩ => ?_ -- hallmoot/quorum.All
      subst hr e
      simpa [replB, g] using hk
    · simpa [init_eq, replB, g] using hk
  exact AW_ret (end_ret rfl ⟨rfl, rfl⟩)
/-- The error of a mark. -/
def aerr (f fr view who : Int) : Int := if replB f who = false then 40 else keptE fr view
def aset (cs : Sets) (view who : Int) : BitVec 32 := ((mget cs view).getD 0#32) ||| 1#32 <<< who.toNat
def aput (f fr : Int) (cs : Sets) (clk : Nat) (view who : Int) : Sets := if aerr f fr view who = 0 then mput cs view (aset cs view who) clk else cs
def aclk (f fr : Int) (cs : Sets) (clk : Nat) (view who : Int) : Nat := if aerr f fr view who = 0 then mclk cs view clk else clk
theorem replB_small {f k : Int} (h : replB f k = true) : 0 ≤ k ∧ k < 32 := by
  unfold replB at h
  simp at h
  have hN : qtimes 3 f ≤ 10 := by rcases qtimes3 f with h | h | h | h <;> omega
  omega
theorem add_ok (H : AH) {t im : Nat} {f fr : Int} {ra rb rc rd : V} {cs : Sets} {clk : Nat} (hT : H.get t = some (.cells [.i .i64 f, .i .i64 fr, ra, rb, rc, rd] 0 false 0)) (hM : H.get im = some (.map (ents keyI u32 cs) clk)) (hfr : 1 ≤ fr) (view who : Int) (hv : view ≤ 9223372036854775807) :
    ACalls Try.prog 54 [.p (some (t, 0, 0)), .m (some im), .i .i64 view, .i .i64 who] H fun r H' => r = .tup [u32 (if aerr f fr view who = 0 then aset cs view who else 0#32), .i .i64 (aerr f fr view who)] ∧
      (if aerr f fr view who = 0 then H' = H.set im (.map (ents keyI u32 (mput cs view (aset cs view who) clk)) (mclk cs view clk)) else H' = H) := by
  refine ACalls_body Try.func54 rfl rfl ?_
  repeat refine AW_seq ?_
  refine AW_reg [0, 1, 2, 3] fun K hK => ?_ -- region 0
  simp [init_eq]
  refine hK _ _ ?_; clear hK K
  repeat refine AW_seq ?_
  refine AW_reg [0, 1, 2, 3, 16] fun K hK => ?_ -- region 1
  simp [init_eq]
  refine ACalls.mono (repl_ok H hT who) fun r H' ⟨hr, e⟩ => ?_ -- replica
  subst hr e
  try simp
  refine hK _ _ ?_; clear hK K
  refine AW_cond' rfl rfl (fun hc => ?_) (fun hc => ?_)
  · have g : replB f who = false := by simpa using hc
    have he : aerr f fr view who = 40 := by unfold aerr; rw [if_pos g]
    repeat refine AW_seq ?_
    refine AW_reg [8, 9] fun K hK => ?_ -- region 2
    simp [init_eq]
    refine hK _ _ ?_; clear hK K
    exact AW_ret (end_ret rfl ⟨by rw [he]; rfl, by rw [he]; rfl⟩)
  have g : replB f who = true := by simpa using hc
  have hme : aerr f fr view who = keptE fr view := by unfold aerr; rw [if_neg (by simp [g])]
  refine AW_skip ?_
  repeat refine AW_seq ?_
  refine AW_reg [0, 1, 2, 3, 10] fun K hK => ?_ -- region 3
  simp [init_eq]
  refine ACalls.mono (kept_ok H' hT hfr hv) fun r H2 ⟨hr, e⟩ => ?_ -- kept
  subst hr e
  try simp
  refine hK _ _ ?_; clear hK K
  repeat refine AW_seq ?_
  refine AW_reg [0, 1, 2, 3, 10, 21] fun K hK => ?_ -- region 4
  simp [init_eq]
  refine hK _ _ ?_; clear hK K
  refine AW_cond' rfl rfl (fun hc => ?_) (fun hc => ?_)
  · have g2 : ¬ keptE fr view = 0 := by simpa using hc
    have he : ¬ aerr f fr view who = 0 := by rw [hme]; exact g2
    repeat refine AW_seq ?_
    refine AW_reg [8, 9] fun K hK => ?_ -- region 5
    simp [init_eq]
    refine hK _ _ ?_; clear hK K
    exact AW_ret (end_ret rfl ⟨by rw [if_neg he, hme]; rfl, by rw [if_neg he]⟩)
  have g2 : keptE fr view = 0 := by simpa using hc
  have he : aerr f fr view who = 0 := by rw [hme]; exact g2
  have hw := replB_small g
  have hlk : alookup Try.prog H2 73 (.m (some im)) (.i .i64 view) false = some (u32 ((mget cs view).getD 0#32)) := by
    refine (alookup_ents (P := Try.prog) (ke := keyI) (ve := u32) (z := u32 0#32) qmap_73 qkey_3 int_fits int_keq (by simp) hM view false).trans ?_
    cases mget cs view <;> rfl
  refine AW_skip ?_
  repeat refine AW_seq ?_
  refine AW_reg [1, 2, 11] fun K hK => ?_ -- region 6
  simp [init_eq, hlk]
  refine ACalls.mono (put_ok H2 _ who) fun r H3 ⟨hr, e⟩ => ?_ -- hallmoot/quorum.Put
  rw [if_pos hw] at hr
  subst hr e
  try simp
  refine hK _ _ ?_; clear hK K
  have hup : amapUpdate Try.prog H3 73 (.m (some im)) (.i .i64 view) (u32 (aset cs view who)) = some (H3.set im (.map (ents keyI u32 (mput cs view (aset cs view who) clk)) (mclk cs view clk))) :=
    amapUpdate_ents (P := Try.prog) (ke := keyI) (ve := u32) qmap_73 qkey_3 int_fits int_keq hM view (aset cs view who)
  have hss : (mget cs view).getD 0#32 ||| 1#32 <<< who.toNat = aset cs view who := rfl
  rw [hss]
  repeat refine AW_seq ?_
  refine AW_reg [11] fun K hK => ?_ -- region 7
  simp [init_eq, hup]
  refine hK _ _ ?_; clear hK K
  repeat refine AW_seq ?_
  refine AW_reg [8, 9] fun K hK => ?_ -- region 8
  simp [init_eq]
  refine hK _ _ ?_; clear hK K
  exact AW_ret (end_ret rfl ⟨by rw [if_pos he, he]; rfl, by rw [if_pos he]⟩)
theorem coin_ok (H : AH) {t im : Nat} {f fr : Int} {ra rb rd : V} {cs : Sets} {clk : Nat} (hT : H.get t = some (.cells [.i .i64 f, .i .i64 fr, ra, rb, .m (some im), rd] 0 false 0)) (hM : H.get im = some (.map (ents keyI u32 cs) clk)) (hne : im ≠ t) (hfr : 1 ≤ fr) (view who : Int) (hv : view ≤ 9223372036854775807) :
    ACalls Try.prog 18 [.p (some (t, 0, 0)), .i .i64 view, .i .i64 who] H fun r H' => r = .tup [u32 (if aerr f fr view who = 0 ∧ qtimes 1 f ≤ pop (aset cs view who) then aset cs view who else 0#32), .i .i64 (aerr f fr view who)] ∧
      (if aerr f fr view who = 0 then H' = H.set im (.map (ents keyI u32 (mput cs view (aset cs view who) clk)) (mclk cs view clk)) else H' = H) := by
  refine ACalls_body Try.func18 rfl rfl ?_
  repeat refine AW_seq ?_
  refine AW_reg [0, 1, 2] fun K hK => ?_ -- region 0
  simp [init_eq]
  refine hK _ _ ?_; clear hK K
  repeat refine AW_seq ?_
  refine AW_reg [0, 1, 2, 11] fun K hK => ?_ -- region 1
  simp [init_eq]
  refine hK _ _ ?_; clear hK K
  refine AW_cond' rfl rfl (fun hc => by cases hc) (fun hc => ?_)
  refine AW_skip ?_
  repeat refine AW_seq ?_
  refine AW_reg [0, 8, 9] fun K hK => ?_ -- region 3
  simp [init_eq, afieldAddr, aload, hT]
  refine ACalls.mono (add_ok H hT hM hfr view who hv) fun r H' ⟨hr, hp⟩ => ?_ -- add
  subst hr
  try simp
  refine hK _ _ ?_; clear hK K
  have hT' : H'.get t = some (.cells [.i .i64 f, .i .i64 fr, ra, rb, .m (some im), rd] 0 false 0) := by
    split at hp
    · rw [hp, AH.get_set_ne (Ne.symm hne)]; exact hT
    · rw [hp]; exact hT
  generalize aerr f fr view who = e at hp ⊢
  generalize hs : (if e = 0 then aset cs view who else 0#32) = s
  have hres : (if e = 0 ∧ qtimes 1 f ≤ pop (aset cs view who) then aset cs view who else 0#32) = (if (pop s : Int) < qtimes 1 f then 0#32 else s) := by
    by_cases h : e = 0
    · rw [if_pos h] at hs
      subst hs
      by_cases h2 : qtimes 1 f ≤ pop (aset cs view who)
      · rw [if_pos ⟨h, h2⟩, if_neg (by omega)]
      · rw [if_neg (fun k => h2 k.2), if_pos (by omega)]
    · rw [if_neg h] at hs
      subst hs
      rw [if_neg (fun k => h k.1)]
      split <;> rfl
  rw [hres]
  repeat refine AW_seq ?_
  refine AW_regd [8, 9, 30] pl_18_4 pe_18_4 (by kernel_rfl) (by kernel_rfl) (by decide) fun K hK => ?_ -- region 4
  simp [init_eq, pl_18_4, afieldAddr, aload, hT']
  refine ACalls.mono (count_ok H' s) fun r H2 ⟨hr, e2⟩ => ?_ -- hallmoot/quorum.Count
  subst hr e2
  refine ⟨AH.ext.refl _, ?_⟩
  refine ACalls.mono (some_ok H2 f) fun r H3 ⟨hr, e2⟩ => ?_ -- hallmoot/quorum.Some
  subst hr e2
  try simp
  refine hK _ _ ?_; clear hK K
  refine AW_cond' rfl rfl (fun hc => ?_) (fun hc => ?_)
  · have g : (pop s : Int) < qtimes 1 f := by simpa using hc
    rw [if_pos g]
    refine AW_reg [8, 9] fun K hK => ?_ -- region 5
    simp [init_eq]
    refine hK _ _ ?_; clear hK K
    repeat refine AW_seq ?_
    refine AW_reg [6, 7] fun K hK => ?_ -- region 6
    simp [init_eq]
    refine hK _ _ ?_; clear hK K
    exact AW_ret (end_ret rfl ⟨rfl, hp⟩)
  · have g : ¬ (pop s : Int) < qtimes 1 f := by simpa using hc
    rw [if_neg g]
    refine AW_skip ?_
    repeat refine AW_seq ?_
    refine AW_reg [6, 7] fun K hK => ?_ -- region 6
    simp [init_eq]
    refine hK _ _ ?_; clear hK K
    exact AW_ret (end_ret rfl ⟨rfl, hp⟩)
theorem done_ok (H : AH) {t im : Nat} {f fr : Int} {ra rb rc : V} {cs : Sets} {clk : Nat} (hT : H.get t = some (.cells [.i .i64 f, .i .i64 fr, ra, rb, rc, .m (some im)] 0 false 0)) (hM : H.get im = some (.map (ents keyI u32 cs) clk)) (hfr : 1 ≤ fr) (view who : Int) (hv : view ≤ 9223372036854775807) :
    ACalls Try.prog 20 [.p (some (t, 0, 0)), .i .i64 view, .i .i64 who] H fun r H' => r = .tup [.i .i64 (pop (if aerr f fr view who = 0 then aset cs view who else 0#32)), .i .i64 (aerr f fr view who)] ∧
      (if aerr f fr view who = 0 then H' = H.set im (.map (ents keyI u32 (mput cs view (aset cs view who) clk)) (mclk cs view clk)) else H' = H) := by
  refine ACalls_body Try.func20 rfl rfl ?_
  repeat refine AW_seq ?_
  refine AW_reg [0, 1, 2] fun K hK => ?_ -- region 0
  simp [init_eq]
  refine hK _ _ ?_; clear hK K
  repeat refine AW_seq ?_
  refine AW_reg [0, 1, 2, 11] fun K hK => ?_ -- region 1
  simp [init_eq]
  refine hK _ _ ?_; clear hK K
  refine AW_cond' rfl rfl (fun hc => by cases hc) (fun hc => ?_)
  refine AW_skip ?_
  repeat refine AW_seq ?_
  refine AW_reg [8, 9] fun K hK => ?_ -- region 3
  simp [init_eq, afieldAddr, aload, hT]
  refine ACalls.mono (add_ok H hT hM hfr view who hv) fun r H' ⟨hr, hp⟩ => ?_ -- add
  subst hr
  try simp
  refine hK _ _ ?_; clear hK K
  generalize aerr f fr view who = e at hp ⊢
  generalize (if e = 0 then aset cs view who else 0#32) = s
  repeat refine AW_seq ?_
  refine AW_reg [6, 7] fun K hK => ?_ -- region 4
  simp [init_eq]
  refine ACalls.mono (count_ok H' s) fun r H2 ⟨hr, e2⟩ => ?_ -- hallmoot/quorum.Count
  subst hr e2
  try simp
  refine hK _ _ ?_; clear hK K
  exact AW_ret (end_ret rfl ⟨rfl, hp⟩)
/-- Whose timeout of which view. -/
def tke (k : Int × Int) : V := .agg [.i .i64 k.1, .i .i64 k.2]
def tve (x : Tmo) : V := .agg x.cells
abbrev Turns := List ((Int × Int) × Tmo × Nat)
theorem len_ok (H : AH) {t iv im : Nat} {f fr : Int} {rc rd : V} {es : Votes} {ts : Turns} {c1 c2 : Nat} (hT : H.get t = some (.cells [.i .i64 f, .i .i64 fr, .m (some iv), .m (some im), rc, rd] 0 false 0)) (hV : H.get iv = some (.map (ents cke u32 es) c1)) (hM : H.get im = some (.map (ents tke tve ts) c2)) :
    ACalls Try.prog 23 [.p (some (t, 0, 0))] H fun r H' => r = .tup [.i .i64 es.length, .i .i64 ts.length] ∧ H' = H := by
  have lv := alen_ents (P := Try.prog) (ke := cke) (ve := u32) qmap_71 hV
  have lm := alen_ents (P := Try.prog) (ke := tke) (ve := tve) qmap_72 hM
  refine ACalls_body Try.func23 rfl rfl ?_
  repeat refine AW_seq ?_
  refine AW_reg [0] fun K hK => ?_ -- region 0
  simp [init_eq]
  refine hK _ _ ?_; clear hK K
  repeat refine AW_seq ?_
  refine AW_reg [0, 5] fun K hK => ?_ -- region 1
  simp [init_eq]
  refine hK _ _ ?_; clear hK K
  refine AW_cond' rfl rfl (fun hc => by cases hc) (fun hc => ?_)
  refine AW_skip ?_
  repeat refine AW_seq ?_
  refine AW_regd [2, 3] pl_23_3 pe_23_3 (by kernel_rfl) (by kernel_rfl) (by decide) fun K hK => ?_ -- region 3
  simp [init_eq, pl_23_3, afieldAddr, aload, hT, lv, lm]
  refine hK _ _ ?_; clear hK K
  exact AW_ret (end_ret rfl ⟨rfl, rfl⟩)
end Go.Proofs.Ytdioggohbfgnfaa
