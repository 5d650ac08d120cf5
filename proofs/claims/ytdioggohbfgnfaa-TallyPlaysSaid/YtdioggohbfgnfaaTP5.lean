/-
  The program's tally: Timeout.
-/
import Derived.Test.YtdioggohbfgnfaaTP4
set_option linter.unusedVariables false
set_option linter.unusedSimpArgs false
namespace Go.Proofs.Ytdioggohbfgnfaa
open Go Go.Abs Go.Proofs
set_option maxRecDepth 100000
attribute [local irreducible] AEnd AW ACalls

@[simp] theorem tke_keq (a b : Int × Int) : keq Try.prog 87 (tke a) (tke b) = some (decide (a = b)) := by
  unfold keq tke
  simp [Go.Abs.aeq, fitsAll, CK.fits, ceqs, ceq]
  obtain ⟨a1, a2⟩ := a
  obtain ⟨b1, b2⟩ := b
  by_cases h1 : a1 = b1 <;> by_cases h2 : a2 = b2 <;> simp [h1, h2]
@[simp] theorem tke_fits (a : Int × Int) : keyFits Try.prog 87 (tke a) = true := by
  unfold keyFits
  rw [Try.underlying87]
  simp [tke, fitsAll, CK.fits]
/-- What is seen of a view, in the map's order. -/
def seenT (ts : Turns) (seen : List Nat) (view : Int) : List Tmo := (ts.filter fun e => decide (e.2.2 ∈ seen) && decide (e.1.1 = view)).map (·.2.1)
theorem seenT_none {ts : Turns} {seen : List Nat} {view : Int} {s : Nat} (h : ∀ e ∈ ts, e.2.2 ≠ s) : seenT ts (seen ++ [s]) view = seenT ts seen view := by
  unfold seenT
  congr 1
  apply List.filter_congr
  intro e he
  simp [h e he]
theorem seenT_step : ∀ {ts : Turns} {seen : List Nat} {view : Int} {e : (Int × Int) × Tmo × Nat}, (ts.map (·.2.2)).Nodup → e ∈ ts → e.2.2 ∉ seen → (seenT ts (seen ++ [e.2.2]) view).Perm (seenT ts seen view ++ (if e.1.1 = view then [e.2.1] else []))
  | [], _, _, _, _, h, _ => by cases h
  | a :: l, seen, view, e, hn, he, hs => by
    rw [List.map_cons, List.nodup_cons] at hn
    by_cases h : e = a
    · subst h
      have h1 : ∀ x ∈ l, x.2.2 ≠ e.2.2 := fun x hx k => hn.1 (by rw [← k]; exact List.mem_map_of_mem hx)
      have h2 := seenT_none (seen := seen) (view := view) h1
      unfold seenT at h2 ⊢
      rw [List.filter_cons, List.filter_cons]
      by_cases h3 : e.1.1 = view
      · have a1 : (decide (e.2.2 ∈ seen ++ [e.2.2]) && decide (e.1.1 = view)) = true := by simp [h3]
        have a2 : (decide (e.2.2 ∈ seen) && decide (e.1.1 = view)) = false := by simp [hs]
        rw [if_pos a1, if_neg (by rw [a2]; decide), if_pos h3, List.map_cons, h2]
        exact (List.perm_append_comm (l₁ := [e.2.1])).symm.symm
      · have a1 : (decide (e.2.2 ∈ seen ++ [e.2.2]) && decide (e.1.1 = view)) = false := by simp [h3]
        have a2 : (decide (e.2.2 ∈ seen) && decide (e.1.1 = view)) = false := by simp [hs]
        rw [if_neg (by rw [a1]; decide), if_neg (by rw [a2]; decide), if_neg h3, h2, List.append_nil]
    · have he' : e ∈ l := by
        rcases List.mem_cons.1 he with k | k
        · exact absurd k h
        · exact k
      have ih := seenT_step (seen := seen) (view := view) hn.2 he' hs
      have hne : a.2.2 ≠ e.2.2 := fun k => hn.1 (by rw [k]; exact List.mem_map_of_mem he')
      unfold seenT at ih ⊢
      rw [List.filter_cons, List.filter_cons]
      have a1 : (decide (a.2.2 ∈ seen ++ [e.2.2]) && decide (a.1.1 = view)) = (decide (a.2.2 ∈ seen) && decide (a.1.1 = view)) := by simp [hne]
      rw [a1]
      cases (decide (a.2.2 ∈ seen) && decide (a.1.1 = view))
      · simpa using ih
      · simpa using ih
def allT (ts : Turns) (view : Int) : List Tmo := (ts.filter fun e => decide (e.1.1 = view)).map (·.2.1)
theorem seenT_le (ts : Turns) (seen : List Nat) (view : Int) : (seenT ts seen view).length ≤ (allT ts view).length := by
  unfold seenT allT
  rw [List.length_map, List.length_map]
  induction ts with
  | nil => simp
  | cons a l ih =>
    rw [List.filter_cons, List.filter_cons]
    by_cases h1 : a.1.1 = view
    · by_cases h2 : a.2.2 ∈ seen
      · rw [if_pos (by simp [h1, h2]), if_pos (by simp [h1])]; simp only [List.length_cons]; omega
      · rw [if_neg (by simp [h2]), if_pos (by simp [h1])]; simp only [List.length_cons]; omega
    · rw [if_neg (by simp [h1]), if_neg (by simp [h1])]; exact ih
theorem seenT_all {ts : Turns} {seen : List Nat} {view : Int} (h : ∀ e ∈ ts, e.2.2 ∈ seen) : seenT ts seen view = allT ts view := by
  unfold seenT allT
  congr 1
  apply List.filter_congr
  intro e he
  simp [h e he]
def perr (f fr : Int) (ts : Turns) (x : Tmo) : Int := if tbad f x = true then 121 else if keptE fr x.view ≠ 0 then keptE fr x.view else if (mget ts (x.view, x.signer)).isSome = true then 100 else 0
def pput (f fr : Int) (ts : Turns) (clk : Nat) (x : Tmo) : Turns := if perr f fr ts x = 0 then mput ts (x.view, x.signer) x clk else ts
def pclk (f fr : Int) (ts : Turns) (clk : Nat) (x : Tmo) : Nat := if perr f fr ts x = 0 then mclk ts (x.view, x.signer) clk else clk
/-- What Timeout leaves and tells. -/
def TOut (H H' : AH) (im : Nat) (f fr : Int) (ts : Turns) (clk : Nat) (x : Tmo) (r : V) : Prop :=
  (∃ lv zs F0, r = .tup [lv, .i .i64 (perr f fr ts x)] ∧ Own H' lv 10 (tc zs).flatten F0 ∧ (∀ j ∈ F0, H.next ≤ j) ∧
    (if perr f fr ts x = 0 ∧ qtimes 2 f ≤ (allT (pput f fr ts clk x) x.view).length then zs.Perm (allT (pput f fr ts clk x) x.view) ∧ SortedTo zs zs.length else zs = [])) ∧
  Upd H H' [im] ∧ H'.get im = some (.map (ents tke tve (pput f fr ts clk x)) (pclk f fr ts clk x))
theorem timeout_ok (H : AH) {t im : Nat} {f fr : Int} {ra rc rd : V} {ts : Turns} {clk : Nat} (hT : H.get t = some (.cells [.i .i64 f, .i .i64 fr, ra, .m (some im), rc, rd] 0 false 0)) (hM : H.get im = some (.map (ents tke tve ts) clk)) (hne : im ≠ t) (hok : MOk ts clk) (hfr : 1 ≤ fr) (x : Tmo)
    (hl : (allT (pput f fr ts clk x) x.view).length ≤ 12) :
    ACalls Try.prog 15 [.p (some (t, 0, 0)), .agg x.cells] H fun r H' => TOut H H' im f fr ts clk x r := by
  refine ACalls_body Try.func15 rfl rfl ?_
  repeat refine AW_seq ?_
  refine AW_reg [0, 3] fun K hK => ?_ -- region 0
  simp [init_eq, V.cells]
  generalize hH1 : H.new (.cells x.cells 0 false 0) = H1
  have x1 : H1.get H.next = some (.cells x.cells 0 false 0) := by rw [← hH1]; simp [AH.get_new]
  have n1 : H1.next = H.next + 1 := by rw [← hH1]; simp
  have u1 : Upd H H1 [] := by rw [← hH1]; exact Upd.new ..
  clear hH1
  refine hK _ _ ?_; clear hK K
  have t1 := u1.keep (by simp) hT
  have m1 := u1.keep (by simp) hM
  -- ends that tell an error
  have hend : ∀ (e : Int) (ρ : Env), ρ.get 4 = .sl none 0 false → ρ.get 5 = .i .i64 e → perr f fr ts x = e → e ≠ 0 → ∀ G : AH, Upd H1 G [] →
      AEnd Try.prog Try.f15 (fun r H' => TOut H H' im f fr ts clk x r) .ret ρ G := fun e ρ h1 h2 h3 h4 G hG => by
    have h5 : ¬ perr f fr ts x = 0 := by rw [h3]; exact h4
    refine end_ret (r := .tup [.sl none 0 false, .i .i64 e]) (by simp [ares1, ares, h1, h2]) ⟨⟨.sl none 0 false, [], [], by rw [h3], Own.nil .., by simp, by rw [if_neg (fun h => h5 h.1)]⟩, (u1.trans hG (by simp)).mono (by simp), ?_⟩
    unfold pput pclk
    rw [if_neg h5, if_neg h5]
    exact hG.keep (by simp) m1
  have fx : afieldAddr Try.prog 34 0 (.p (some (H.next, 0, 0))) = some (.p (some (H.next, 0, 0))) ∧ afieldAddr Try.prog 34 1 (.p (some (H.next, 0, 0))) = some (.p (some (H.next, 0, 1))) := by simp [afieldAddr]
  have ldx : ∀ G : AH, G.get H.next = some (.cells x.cells 0 false 0) → aload Try.prog G 3 (.p (some (H.next, 0, 0))) = some (.i .i64 x.signer) ∧ aload Try.prog G 3 (.p (some (H.next, 0, 1))) = some (.i .i64 x.view) ∧ aload Try.prog G 34 (.p (some (H.next, 0, 0))) = some (.agg x.cells) := fun G h => by
    refine ⟨?_, ?_, ?_⟩ <;> simp [aload, h, tmo_take]
  repeat refine AW_seq ?_
  refine AW_block ?_
  repeat refine AW_seq ?_
  refine AW_reg [0, 3, 13] fun K hK => ?_ -- region 1
  simp [init_eq]
  refine hK _ _ ?_; clear hK K
  refine AW_cond' rfl rfl (fun hc => by cases hc) (fun hc => ?_)
  repeat refine AW_seq ?_
  refine AW_reg [0, 3, 16] fun K hK => ?_ -- region 3
  simp [init_eq, fx, ldx H1 x1]
  refine ACalls.mono (repl_ok H1 t1 x.signer) fun r G ⟨hr, e⟩ => ?_ -- replica
  subst hr e
  try simp
  refine hK _ _ ?_; clear hK K
  cases g1 : replB f x.signer
  · refine AW_cond' rfl rfl (fun hc => ?_) (fun hc => by cases hc)
    refine AW_skip ?_
    have g : tbad f x = true := by simp [tbad, g1]
    have he : perr f fr ts x = 121 := by unfold perr; rw [if_pos g]
    refine AW_cond' rfl rfl (fun hc => ?_) (fun hc => by cases hc)
    repeat refine AW_seq ?_
    refine AW_reg [4, 5] fun K hK => ?_ -- region 6
    simp [init_eq]
    refine hK _ _ ?_; clear hK K
    exact AW_ret (hend 121 _ rfl rfl he (by decide) _ (Upd.refl ..))
  refine AW_cond' rfl rfl (fun hc => by cases hc) (fun hc => ?_)
  repeat refine AW_seq ?_
  refine AW_reg [0, 3, 16] fun K hK => ?_ -- region 4
  simp [init_eq, fx, ldx G x1]
  refine hK _ _ ?_; clear hK K
  by_cases g2 : x.view < 1
  · refine AW_cond' rfl rfl (fun hc => ?_) (fun hc => by simp [g2] at hc)
    refine AW_skip ?_
    rw [decide_eq_true g2]
    have g : tbad f x = true := by simp [tbad, g2]
    have he : perr f fr ts x = 121 := by unfold perr; rw [if_pos g]
    refine AW_cond' rfl rfl (fun hc => ?_) (fun hc => by cases hc)
    repeat refine AW_seq ?_
    refine AW_reg [4, 5] fun K hK => ?_ -- region 6
    simp [init_eq]
    refine hK _ _ ?_; clear hK K
    exact AW_ret (hend 121 _ rfl rfl he (by decide) _ (Upd.refl ..))
  refine AW_cond' rfl rfl (fun hc => by simp [g2] at hc) (fun hc => ?_)
  repeat refine AW_seq ?_
  refine AW_reg [0, 3, 16] fun K hK => ?_ -- region 5
  simp [init_eq, fx, ldx G x1]
  refine hK _ _ ?_; clear hK K
  by_cases g3 : 1048576 < x.view
  · rw [decide_eq_true g3]
    have g : tbad f x = true := by simp [tbad, g3]
    have he : perr f fr ts x = 121 := by unfold perr; rw [if_pos g]
    refine AW_cond' rfl rfl (fun hc => ?_) (fun hc => by cases hc)
    repeat refine AW_seq ?_
    refine AW_reg [4, 5] fun K hK => ?_ -- region 6
    simp [init_eq]
    refine hK _ _ ?_; clear hK K
    exact AW_ret (hend 121 _ rfl rfl he (by decide) _ (Upd.refl ..))
  rw [decide_eq_false g3]
  have g : tbad f x = false := by simp [tbad, g1, g2, g3]
  refine AW_cond' rfl rfl (fun hc => by cases hc) (fun hc => ?_)
  refine AW_skip ?_
  refine bend (rend ?_)
  repeat refine AW_seq ?_
  refine AW_reg [0, 3, 6] fun K hK => ?_ -- region 7
  simp [init_eq, fx, ldx G x1]
  refine ACalls.mono (kept_ok G t1 hfr (by omega)) fun r G' ⟨hr, e⟩ => ?_ -- kept
  subst hr e
  try simp
  refine hK _ _ ?_; clear hK K
  repeat refine AW_seq ?_
  refine AW_reg [0, 3, 6, 33] fun K hK => ?_ -- region 8
  simp [init_eq]
  refine hK _ _ ?_; clear hK K
  refine AW_cond' rfl rfl (fun hc => ?_) (fun hc => ?_)
  · have g4 : ¬ keptE fr x.view = 0 := by simpa using hc
    have he : perr f fr ts x = keptE fr x.view := by unfold perr; rw [if_neg (by simp [g]), if_pos g4]
    repeat refine AW_seq ?_
    refine AW_reg [4, 5] fun K hK => ?_ -- region 9
    simp [init_eq]
    refine hK _ _ ?_; clear hK K
    exact AW_ret (hend _ _ rfl rfl he g4 _ (Upd.refl ..))
  have g4 : keptE fr x.view = 0 := by simpa using hc
  have hbd : abuild Try.prog 87 [(0, .i .i64 x.view), (1, .i .i64 x.signer)] = some (tke (x.view, x.signer)) := by simp [abuild, afill, V.cells, splice, tke]
  refine AW_skip ?_
  repeat refine AW_seq ?_
  refine AW_reg [0, 3, 7] fun K hK => ?_ -- region 10
  simp [init_eq, fx, ldx G' x1, hbd, tke, V.cells, astore, AH.get_new]
  refine hK _ _ ?_; clear hK K
  generalize hG2 : AH.set _ G'.next _ = G2
  have k2 : G2.get G'.next = some (.cells [.i .i64 x.view, .i .i64 x.signer] 0 false 0) := by rw [← hG2, AH.get_set]; simp [splice]
  have u2 : Upd G' G2 [] := by
    rw [← hG2]
    exact ⟨by simp, fun j hj _ => by rw [AH.get_set_ne (by omega), AH.get_new, if_neg (by omega)]⟩
  clear hG2
  have x2 := u2.keep (by simp) x1
  have t2 := u2.keep (by simp) t1
  have m2 := u2.keep (by simp) m1
  have fa3 : afieldAddr Try.prog 75 3 (.p (some (t, 0, 0))) = some (.p (some (t, 0, 3))) := by simp [afieldAddr]
  have ldm : ∀ G : AH, G.get t = some (.cells [.i .i64 f, .i .i64 fr, ra, .m (some im), rc, rd] 0 false 0) → aload Try.prog G 72 (.p (some (t, 0, 3))) = some (.m (some im)) := fun G h => by simp [aload, h]
  have ldk : ∀ G : AH, G.get G'.next = some (.cells [.i .i64 x.view, .i .i64 x.signer] 0 false 0) → aload Try.prog G 87 (.p (some (G'.next, 0, 0))) = some (tke (x.view, x.signer)) := fun G h => by simp [aload, h, tke]
  have hlk : alookup Try.prog G2 72 (.m (some im)) (tke (x.view, x.signer)) true = some (.tup [.agg ((mget ts (x.view, x.signer)).getD ⟨0, 0, Cert.zero⟩).cells, .b (mget ts (x.view, x.signer)).isSome]) := by
    refine (alookup_ents (P := Try.prog) (ke := tke) (ve := tve) (z := tve ⟨0, 0, Cert.zero⟩) qmap_72 qkey_87 tke_fits tke_keq (by simp; rfl) m2 (x.view, x.signer) true).trans ?_
    cases mget ts (x.view, x.signer) <;> rfl
  repeat refine AW_seq ?_
  refine AW_regd [0, 3, 7, 9] pl_15_11 pe_15_11 (by kernel_rfl) (by kernel_rfl) (by decide) fun K hK => ?_ -- region 11
  simp [init_eq, pl_15_11, fa3, ldm G2 t2, ldk G2 k2, hlk, V.cells, astore, AH.get_new]
  refine hK _ _ ?_; clear hK K
  generalize hG3 : AH.set _ G2.next _ = G3
  have u3 : Upd G2 G3 [] := by
    rw [← hG3]
    exact ⟨by simp, fun j hj _ => by rw [AH.get_set_ne (by omega), AH.get_new, if_neg (by omega)]⟩
  clear hG3
  have x3 := u3.keep (by simp) x2
  have t3 := u3.keep (by simp) t2
  have m3 := u3.keep (by simp) m2
  have k3 := u3.keep (by simp) k2
  repeat refine AW_seq ?_
  refine AW_reg [0, 3, 7, 49] fun K hK => ?_ -- region 12
  simp [init_eq]
  refine hK _ _ ?_; clear hK K
  refine AW_cond' rfl rfl (fun hc => ?_) (fun hc => ?_)
  · have g5 : (mget ts (x.view, x.signer)).isSome = true := hc
    have he : perr f fr ts x = 100 := by unfold perr; rw [if_neg (by simp [g]), if_neg (by simp [g4]), if_pos g5]
    repeat refine AW_seq ?_
    refine AW_reg [4, 5] fun K hK => ?_ -- region 13
    simp [init_eq]
    refine hK _ _ ?_; clear hK K
    exact AW_ret (hend _ _ rfl rfl he (by decide) _ (u2.trans u3 (by simp)))
  have g5 : (mget ts (x.view, x.signer)).isSome = false := hc
  have he : perr f fr ts x = 0 := by unfold perr; rw [if_neg (by simp [g]), if_neg (by simp [g4]), if_neg (by simp [g5])]
  have hpp : pput f fr ts clk x = mput ts (x.view, x.signer) x clk := by unfold pput; rw [if_pos he]
  have hpc : pclk f fr ts clk x = mclk ts (x.view, x.signer) clk := by unfold pclk; rw [if_pos he]
  have hok2 := hok.put (x.view, x.signer) x
  have hup : amapUpdate Try.prog G3 72 (.m (some im)) (tke (x.view, x.signer)) (.agg x.cells) = some (G3.set im (.map (ents tke tve (mput ts (x.view, x.signer) x clk)) (mclk ts (x.view, x.signer) clk))) :=
    amapUpdate_ents (P := Try.prog) (ke := tke) (ve := tve) qmap_72 qkey_87 tke_fits tke_keq m3 (x.view, x.signer) x
  rw [hpp] at hl
  generalize hts : mput ts (x.view, x.signer) x clk = ts2 at *
  generalize hck : mclk ts (x.view, x.signer) clk = clk2 at *
  refine AW_skip ?_
  repeat refine AW_seq ?_
  refine AW_regd [0, 3] pl_15_14 pe_15_14 (by kernel_rfl) (by kernel_rfl) (by decide) fun K hK => ?_ -- region 14
  simp [init_eq, pl_15_14, fa3, ldm G3 t3, ldk G3 k3, ldx G3 x3, hup]
  refine hK _ _ ?_; clear hK K
  have u4 : Upd G3 (G3.set im (.map (ents tke tve ts2) clk2)) [im] := Upd.set _ _ _ (by simp)
  generalize hG4 : G3.set im (.map (ents tke tve ts2) clk2) = G4 at u4
  have hi3 := AH.get_lt m3
  have m4 : G4.get im = some (.map (ents tke tve ts2) clk2) := by rw [← hG4, AH.get_set]; simp [hi3]
  clear hG4
  have hiH := AH.get_lt hM
  have x4 := u4.keep (by simp; omega) x3
  have t4 := u4.keep (by simp; omega) t3
  have uH : Upd H G4 [im] := (((u1.trans u2 (by simp)).trans u3 (by simp)).mono (by simp) : Upd H G3 [im]).trans u4 (fun j hj => .inl hj)
  repeat refine AW_seq ?_
  refine AW_reg [0, 3, 10] fun K hK => ?_ -- region 15
  simp [init_eq]
  refine hK _ _ ?_; clear hK K
  repeat refine AW_seq ?_
  refine AW_reg [0, 3, 10, 60] fun K hK => ?_ -- region 16
  simp [init_eq, fa3, ldm G4 t4, arange, m4]
  refine hK _ _ ?_; clear hK K
  generalize hG5 : G4.new (.mapIter (some im) clk2 [] clk2) = G5
  have n5 : G5.next = G4.next + 1 := by rw [← hG5]; simp
  have i5 : G5.get G4.next = some (.mapIter (some im) clk2 [] clk2) := by rw [← hG5]; simp [AH.get_new]
  have o5 : ∀ j, j < G4.next → G5.get j = G4.get j := fun j hj => by rw [← hG5]; simp [AH.get_new]; omega
  clear hG5
  generalize hq : G4.next = q at *
  have hqH : H.next < q := by have := uH.1; have := AH.get_lt x4; omega
  refine AW_block ?_
  refine AW_loopx (fun y : List Nat × V => ⟨86, [(0, .p (some (t, 0, 0))), (3, .p (some (H.next, 0, 0))), (10, y.2), (60, .p (some (q, 0, 0)))]⟩)
    (fun y G => q < G.next ∧ G.get q = some (.mapIter (some im) clk2 y.1 clk2) ∧ (∀ j, j < q → G.get j = G4.get j) ∧ ∃ ws Fl, Own G y.2 10 (tc ws).flatten Fl ∧ (∀ j ∈ Fl, q < j) ∧ ws.Perm (seenT ts2 y.1 x.view))
    (fun y => unseen ts2 y.1) ([], .sl none 0 false) (by simp) ⟨by omega, i5, o5, [], [], Own.nil .., by simp, by simp [seenT]⟩ fun y G6 hM => ?_ -- loop
  obtain ⟨seen, lv⟩ := y
  obtain ⟨g1', g2', g3', ws, Fl, ol, lF, hpw⟩ := hM
  simp only at g2' ol hpw ⊢
  have m6 : G6.get im = some (.map (ents tke tve ts2) clk2) := by rw [g3' im (by omega)]; exact m4
  refine AW_seq ?_
  refine AW_reg [0, 3, 10, 60, 62] fun K hK => ?_ -- region 17
  simp [init_eq]
  unfold ANext
  simp only [g2', m6]
  refine ⟨?_, fun e he hns => ?_, fun hall => ?_⟩
  · rcases hl2 : ts2 with _ | ⟨e, l⟩
    · exact .inr (.inl rfl)
    · refine .inr (.inr ⟨(tke e.1, tve e.2.1, e.2.2), by simp [ents], ?_⟩)
      exact hok2.past e (by rw [hl2]; simp)
  · -- another round
    simp only [ents, List.mem_map] at he
    obtain ⟨e, hee, rfl⟩ := he
    simp only at hns ⊢
    simp
    refine hK _ _ ?_; clear hK K
    generalize hG7 : G6.set q _ = G7
    have n7 : G7.next = G6.next := by rw [← hG7]; simp
    have i7 : G7.get q = some (.mapIter (some im) clk2 (seen ++ [e.2.2]) clk2) := by rw [← hG7]; simp [AH.get_set, g1']
    have u67 : Upd G6 G7 [q] := by rw [← hG7]; exact Upd.set _ _ _ (by simp)
    clear hG7
    have o7 : ∀ j, j < q → G7.get j = G4.get j := fun j hj => by rw [u67.2 j (by omega) (by simp; omega), g3' j hj]
    have m7 : G7.get im = some (.map (ents tke tve ts2) clk2) := by rw [o7 im (by omega)]; exact m4
    have ol7 := ol.upd u67 fun j hj => by have := lF j hj; simp; omega
    have hstep := seenT_step (view := x.view) hok2.stamps hee hns
    refine AW_seq ?_
    refine AW_cond' rfl rfl (fun hc => ?_) (fun hc => by cases hc)
    refine AW_skip ?_
    refine AW_block ?_
    refine AW_seq ?_
    have hent := aentry_ents (ke := tke) (ve := tve) hok2 hee i7 m7
    refine AW_reg [0, 3, 10, 11, 12, 60] fun K hK => ?_ -- region 18
    simp [init_eq, hent, V.cells, tke, tve, astore, AH.get_new, AH.get_set]
    refine hK _ _ ?_; clear hK K
    generalize hG8 : AH.set _ (G7.next + 1) _ = G8
    have u78 : Upd G7 G8 [] := by
      rw [← hG8]
      exact ⟨by simp; omega, fun j hj _ => by simp [AH.get_set, AH.get_new, show j ≠ G7.next by omega, show j ≠ G7.next + 1 by omega]⟩
    have c1 : G8.get G7.next = some (.cells [.i .i64 e.1.1, .i .i64 e.1.2] 0 false 0) := by
      rw [← hG8]; simp [AH.get_set, AH.get_new, splice]; exact if_pos (by omega)
    have c2 : G8.get (G7.next + 1) = some (.cells e.2.1.cells 0 false 0) := by
      rw [← hG8]; simp [AH.get_set, AH.get_new]; rfl
    clear hG8
    have o8 : ∀ j, j < q → G8.get j = G4.get j := fun j hj => by rw [u78.2 j (by omega) (by simp), o7 j hj]
    have x8 : G8.get H.next = some (.cells x.cells 0 false 0) := by rw [o8 _ hqH]; exact x4
    have i8 := u78.keep (by simp) i7
    have lF7 : ∀ j ∈ Fl, j < G7.next := fun j hj => by have := ol7.lt j hj; omega
    have ol8 := ol7.upd u78 (by simp)
    have ld11 : aload Try.prog G8 3 (.p (some (G7.next, 0, 0))) = some (.i .i64 e.1.1) := by simp [aload, c1]
    have ld12 : aload Try.prog G8 34 (.p (some (G7.next + 1, 0, 0))) = some (.agg e.2.1.cells) := by simp [aload, c2, tmo_take]
    have fk0 : afieldAddr Try.prog 87 0 (.p (some (G7.next, 0, 0))) = some (.p (some (G7.next, 0, 0))) := by simp [afieldAddr]
    refine AW_seq ?_
    refine AW_reg [0, 3, 10, 12, 60, 70] fun K hK => ?_ -- region 19
    simp [init_eq, fk0, ld11, fx, ldx G8 x8]
    refine hK _ _ ?_; clear hK K
    refine AW_cond' rfl rfl (fun hc => ?_) (fun hc => ?_)
    · have g6 : e.1.1 = x.view := by simpa using hc
      rw [if_pos g6] at hstep
      have hwl : ws.length ≤ 12 := by rw [hpw.length_eq]; exact Nat.le_trans (seenT_le ..) hl
      obtain ⟨Hb, w', H5, F5, b1, b2, b3, b4, b5⟩ := ol8.pushR (P := Try.prog) (f := Tmo.cells) (xs := ws) (t := 50) app_tmos qelem_50 qsize_34 qzero_34 rfl rfl (by decide) (fun _ => rfl) (x := .agg e.2.1.cells) e.2.1 rfl (by simp [roomOk]; omega)
      refine AW_reg [0, 3, 10, 60] fun K hK => ?_ -- region 20
      simp [init_eq, ld12, b1, b2]
      refine hK _ _ ?_; clear hK K
      have hn5 := b4.1
      have hq8 : q < G8.next := AH.get_lt i8
      refine bend (rend ⟨(seen ++ [e.2.2], w'), by simp, ⟨by omega, b4.keep (fun hj => by have := lF q hj; omega) i8, fun j hj => ?_, ws ++ [e.2.1], F5, b3, fun j hj => ?_, ?_⟩, unseen_lt hee hns⟩)
      · rw [b4.2 j (by omega) (fun h => by have := lF j h; omega)]; exact o8 j hj
      · rcases b5 j hj with h | h
        · exact lF j h
        · omega
      · exact (hpw.append_right _).trans hstep.symm
    · have g6 : ¬ e.1.1 = x.view := by simpa using hc
      rw [if_neg g6, List.append_nil] at hstep
      refine AW_skip ?_
      have hq8 : q < G8.next := AH.get_lt i8
      exact bend (rend ⟨(seen ++ [e.2.2], lv), by simp, ⟨hq8, i8, o8, ws, Fl, ol8, lF, hpw.trans hstep.symm⟩, unseen_lt hee hns⟩)
  · simp
    refine hK _ _ ?_; clear hK K
    have hseen : ∀ e ∈ ts2, e.2.2 ∈ seen := fun e he => by
      apply Classical.byContradiction
      intro hn
      have := hall (tke e.1, tve e.2.1, e.2.2) (by simp only [ents, List.mem_map]; exact ⟨e, he, rfl⟩) hn
      have := hok2.past e he
      simp at *; omega
    rw [seenT_all hseen] at hpw
    refine AW_seq ?_
    refine AW_cond' rfl rfl (fun hc => by cases hc) (fun hc => ?_)
    refine AW_exit (then_exit (then_exit (block_here ?_)))
    have t6 : G6.get t = some (.cells [.i .i64 f, .i .i64 fr, ra, .m (some im), rc, rd] 0 false 0) := by rw [g3' t (by have := AH.get_lt hT; omega)]; exact t4
    have hwl : ws.length ≤ 12 := by rw [hpw.length_eq]; exact hl
    have lw := (Own.rsR (xs := ws) (f := Tmo.cells) ol (by decide) fun _ => rfl).alen (P := Try.prog) qelem_50 G6
    have u46 : Upd G4 G6 [] := ⟨by omega, fun j hj _ => g3' j (by omega)⟩
    have uH6 : Upd H G6 [im] := uH.trans u46 (by simp)
    repeat refine AW_seq ?_
    refine AW_reg [10, 82] fun K hK => ?_ -- region 21
    simp [init_eq, lw, afieldAddr, aload, t6]
    refine ACalls.mono (quorum_ok G6 f) fun r H' ⟨hr, e⟩ => ?_ -- hallmoot/quorum.Quorum
    subst hr e
    try simp
    refine hK _ _ ?_; clear hK K
    refine AW_cond' rfl rfl (fun hc => ?_) (fun hc => ?_)
    · have g7 : (ws.length : Int) < qtimes 2 f := by simpa using hc
      repeat refine AW_seq ?_
      refine AW_reg [4, 5] fun K hK => ?_ -- region 22
      simp [init_eq]
      refine hK _ _ ?_; clear hK K
      refine AW_ret (end_ret rfl ⟨⟨.sl none 0 false, [], [], by rw [he]; rfl, Own.nil .., by simp, ?_⟩, uH6, ?_⟩)
      · rw [if_neg (fun h => ?_)]
        have h2 := h.2
        rw [hpp, ← hpw.length_eq] at h2
        omega
      · rw [hpp, hpc]; exact m6
    · have g7 : ¬ (ws.length : Int) < qtimes 2 f := by simpa using hc
      refine AW_skip ?_
      repeat refine AW_seq ?_
      refine AW_reg [10] fun K hK => ?_ -- region 23
      simp [init_eq]
      refine ACalls.mono (sort_ok H' ol hwl) fun r H7 ⟨hr, zs, z1, z2, z3, z4⟩ => ?_ -- slices.SortFunc
      subst hr
      try simp
      refine hK _ _ ?_; clear hK K
      repeat refine AW_seq ?_
      refine AW_reg [4, 5] fun K hK => ?_ -- region 24
      simp [init_eq]
      refine hK _ _ ?_; clear hK K
      refine AW_ret (end_ret rfl ⟨⟨lv, zs, Fl, by rw [he]; rfl, z3, fun j hj => by have := lF j hj; omega, ?_⟩, uH6.trans z4 (fun j hj => .inr (by have := lF j hj; omega)), ?_⟩)
      · rw [if_pos ⟨he, by rw [hpp, ← hpw.length_eq]; omega⟩, hpp]
        exact ⟨z1.trans hpw, z2⟩
      · rw [hpp, hpc]; exact z4.keep (fun hj => by have := lF im hj; omega) m6
end Go.Proofs.Ytdioggohbfgnfaa
