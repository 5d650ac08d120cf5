/-
  TallyForgets: the law.
-/
import Derived.Test.YtdioggohbfgnfaaTally3
import Derived.Test.YtdioggohbfgnfaaAbsC
set_option linter.unusedVariables false
set_option linter.unusedSimpArgs false
namespace Go.Proofs.Ytdioggohbfgnfaa
open Go Go.Abs Go.Proofs
set_option maxRecDepth 100000
attribute [local irreducible] AEnd AW ACalls

theorem alive_run : runCall Try.prog planTab 10000 7 [] AH.none (fun v _ => isTrue v) = true := by kernel_rfl
theorem alive_ok (H : AH) : ACalls Try.prog 7 [] H fun r H' => r = .b true ∧ H' = H :=
  ACalls.closed Dims.nil ((runCall_sound alive_run).mono fun r _ h => isTrue_eq h) H

/-- A call, as the law is given it. -/
structure Act where
  kind : Int
  view : Int
  who : Int
  cert : Cert
  tail : List V
def Act.cells (a : Act) : List V := [.i .i64 a.kind, .i .i64 a.view, .i .i64 a.who] ++ (a.cert.cells ++ a.tail)
theorem act_at {H : AH} {vl : V} {l : List Act} (hl : RS H vl 21 (l.map Act.cells)) (i : Nat) (hi : i < l.length) :
    ∃ a a0 a3 a32, aindexAddr Try.prog 22 vl (.i .i64 i) = some a ∧ afieldAddr Try.prog 36 0 a = some a0 ∧ aload Try.prog H 3 a0 = some (.i .i64 l[i].kind) ∧
      afieldAddr Try.prog 36 3 a = some a3 ∧ aload Try.prog H 32 a3 = some (.agg l[i].cert.cells) ∧
      afieldAddr Try.prog 32 2 a3 = some a32 ∧ aload Try.prog H 3 a32 = some (.i .i64 l[i].cert.view) := by
  have hlen : l[i].cells.length = 21 := hl.1 _ (List.mem_map.2 ⟨l[i], List.getElem_mem hi, rfl⟩)
  obtain ⟨a, h1, h2⟩ := hl.at (P := Try.prog) (by decide) qelem_22 qsize_36 (k := .i64) i (l := l[i].cells) (by simp [hi])
  obtain ⟨a0, h3, h4⟩ := h2.fld (P := Try.prog) (t := 36) (ft := 3) (f := 0) (o := 0) (b := false) (x := .i .i64 l[i].kind) (by simp) qagg_3 qsize_3 (by simp [Act.cells])
  obtain ⟨a3, h5, h6⟩ := h2.sub (P := Try.prog) (t := 36) (f := 3) (o := 3) (n := 8) (b := true) (by simp) (by decide) (by omega)
  have e : (l[i].cells.drop 3).take 8 = l[i].cert.cells := by
    unfold Act.cells
    rw [List.drop_left' (by rfl), List.take_left' (by simp)]
  rw [e] at h6
  obtain ⟨a32, h7, h8⟩ := h6.fld (P := Try.prog) (t := 32) (ft := 3) (f := 2) (o := 2) (b := false) (x := .i .i64 l[i].cert.view) (by simp) qagg_3 qsize_3 (by simp)
  exact ⟨a, a0, a3, a32, h1, h3, h4, h5, h6.load qagg_32 (by simp), h7, h8⟩

/-! What votes make of the entries. -/
theorem vput_get (f fr : Int) (es : Votes) (clk : Nat) (c k : Cert) : mget (vput f fr es clk c) k = if verr f fr es c = 0 ∧ k = c.plain then some (vset es c) else mget es k := by
  unfold vput
  by_cases h : verr f fr es c = 0
  · simp only [h, if_true, true_and]; exact mget_mput ..
  · simp [h]
theorem vput_ok {es : Votes} {clk : Nat} (h : MOk es clk) (f fr : Int) (c : Cert) : MOk (vput f fr es clk c) (vclk f fr es clk c) := by
  unfold vput vclk
  split
  · exact h.put _ _
  · exact h
theorem vput_len (f fr : Int) (es : Votes) (clk : Nat) (c : Cert) : (vput f fr es clk c).length ≤ es.length + 1 := by
  unfold vput
  split
  · rw [mput_length]; split <;> omega
  · omega
theorem verr_same {f fr : Int} {A B : Votes} {c : Cert} (h : mget A c.plain = mget B c.plain) (ha : A.length < 256) (hb : B.length < 256) : verr f fr A c = verr f fr B c := by
  unfold verr
  rw [h]
  have h1 : ¬ ((256 : Int) ≤ A.length) := by omega
  have h2 : ¬ ((256 : Int) ≤ B.length) := by omega
  simp [h1, h2]
theorem vset_same {A B : Votes} {c : Cert} (h : mget A c.plain = mget B c.plain) : vset A c = vset B c := by unfold vset; rw [h]
theorem vres_same {f fr : Int} {A B : Votes} {c : Cert} (h : mget A c.plain = mget B c.plain) (ha : A.length < 256) (hb : B.length < 256) : vres f fr A c = vres f fr B c := by
  unfold vres
  rw [verr_same h ha hb, vset_same h]
theorem ok_view {c : Cert} (h : c.ok = true) (h0 : c.kind ≠ 0) : 1 ≤ c.view ∧ c.view ≤ 1048576 := by
  have : c.base = true := by
    unfold Cert.ok at h
    rw [if_neg h0] at h
    split at h
    · simp [Cert.reg] at h; exact h.1.1.1
    · split at h
      · simp [Cert.fall] at h; exact h.1.1.1
      · cases h
  simp [Cert.base, inR] at this
  omega
theorem verr_view {f fr : Int} {es : Votes} {c : Cert} (h : verr f fr es c = 0) : 1 ≤ c.view ∧ fr ≤ c.view := by
  unfold verr at h
  split at h
  · cases h
  · rename_i hb
    simp only [Bool.not_eq_true] at hb
    have h0 : c.kind ≠ 0 := fun e => by simp [vbad, e] at hb
    have hok : c.ok = true := by
      cases h : c.ok
      · simp [vbad, h] at hb
      · rfl
    refine ⟨(ok_view hok h0).1, ?_⟩
    split at h
    · rename_i hk; exact absurd h hk
    · rename_i hk
      have hk' : keptE fr c.view = 0 := by simpa using hk
      unfold keptE at hk'
      split at hk'
      · cases hk'
      · omega
/-- What both tallies have alike while one gets less. -/
def Rel (view : Int) (A B : Votes) : Prop := ∀ k : Cert, view ≤ k.view ∨ k.view < 1 → mget A k = mget B k
theorem Rel.both {view f : Int} {A B : Votes} (h : Rel view A B) (ca cb : Nat) {c : Cert} (hc : view ≤ c.view) (ha : A.length < 256) (hb : B.length < 256) : Rel view (vput f 1 A ca c) (vput f 1 B cb c) := fun k hk => by
  have e := h c.plain (.inl hc)
  rw [vput_get, vput_get, verr_same e ha hb, vset_same e, h k hk]
theorem Rel.one {view f : Int} {A B : Votes} (h : Rel view A B) (ca : Nat) {c : Cert} (hc : ¬ view ≤ c.view) : Rel view (vput f 1 A ca c) B := fun k hk => by
  rw [vput_get]
  split
  · rename_i h1
    obtain ⟨h1, rfl⟩ := h1
    have := verr_view h1
    have e : c.plain.view = c.view := rfl
    rw [e] at hk
    omega
  · exact h k hk
theorem Rel.forget {view : Int} {A B : Votes} (h : Rel view A B) (hv : 1 ≤ view) (k : Cert) : mget (vfor A 1 view) k = mget (vfor B 1 view) k := by
  unfold vfor
  split
  · exact h k (by omega)
  · rw [mget_filter (es := A) (fun k => !decide (k.view < view)), mget_filter (es := B) (fun k => !decide (k.view < view))]
    by_cases hk : k.view < view
    · simp [hk]
    · simp only [hk, decide_false, Bool.not_false, if_true]; exact h k (.inl (by omega))
theorem vfor_len (A : Votes) (fr view : Int) : (vfor A fr view).length ≤ A.length := by
  unfold vfor; split
  · exact Nat.le_refl _
  · exact List.length_filter_le ..
theorem vfor_ok {A : Votes} {clk : Nat} (h : MOk A clk) (fr view : Int) : MOk (vfor A fr view) clk := by
  unfold vfor; split
  · exact h
  · exact h.filter _

/-- Two tallies in memory, behind what was there. -/
structure Two (H G : AH) (f fa fb : Int) (A B : Votes) (ca cb : Nat) : Prop where
  a : TS G (H.next + 4) H.next [.m (some (H.next + 1)), .m (some (H.next + 2)), .m (some (H.next + 3))] f fa A ca
  b : TS G (H.next + 9) (H.next + 5) [.m (some (H.next + 6)), .m (some (H.next + 7)), .m (some (H.next + 8))] f fb B cb
  oa : MOk A ca
  ob : MOk B cb
  e1 : G.get (H.next + 1) = some (.map [] 0)
  e2 : G.get (H.next + 2) = some (.map [] 0)
  e3 : G.get (H.next + 3) = some (.map [] 0)
  e6 : G.get (H.next + 6) = some (.map [] 0)
  e7 : G.get (H.next + 7) = some (.map [] 0)
  e8 : G.get (H.next + 8) = some (.map [] 0)
  lo : ∀ j, j < H.next → G.get j = H.get j
theorem Two.ext {H G G' : AH} {f fa fb : Int} {A B : Votes} {ca cb : Nat} (h : Two H G f fa fb A B ca cb) (hg : ∀ j, j < H.next + 10 → G'.get j = G.get j) : Two H G' f fa fb A B ca cb :=
  ⟨h.a.same (hg _ (by omega)) (hg _ (by omega)), h.b.same (hg _ (by omega)) (hg _ (by omega)), h.oa, h.ob, (hg _ (by omega)).trans h.e1, (hg _ (by omega)).trans h.e2, (hg _ (by omega)).trans h.e3, (hg _ (by omega)).trans h.e6, (hg _ (by omega)).trans h.e7, (hg _ (by omega)).trans h.e8, fun j hj => (hg j (by omega)).trans (h.lo j hj)⟩
theorem Two.next {H G : AH} {f fa fb : Int} {A B : Votes} {ca cb : Nat} (h : Two H G f fa fb A B ca cb) : H.next + 10 ≤ G.next := by
  have := AH.get_lt h.b.ht; omega
theorem Two.voteA {H G : AH} {f fa fb : Int} {A B : Votes} {ca cb : Nat} (h : Two H G f fa fb A B ca cb) (c : Cert) : Two H (G.set H.next (.map (ents cke u32 (vput f fa A ca c)) (vclk f fa A ca c))) f fa fb (vput f fa A ca c) B (vclk f fa A ca c) cb := by
  have hn := h.next
  have hg : ∀ j, j ≠ H.next → (G.set H.next (.map (ents cke u32 (vput f fa A ca c)) (vclk f fa A ca c))).get j = G.get j := fun j hj => by simp [AH.get_set, hj]
  exact ⟨⟨(hg _ (by omega)).trans h.a.ht, h.a.hl, by simp [AH.get_set]; omega⟩, h.b.same (hg _ (by omega)) (hg _ (by omega)), vput_ok h.oa .., h.ob, (hg _ (by omega)).trans h.e1, (hg _ (by omega)).trans h.e2, (hg _ (by omega)).trans h.e3, (hg _ (by omega)).trans h.e6, (hg _ (by omega)).trans h.e7, (hg _ (by omega)).trans h.e8, fun j hj => (hg j (by omega)).trans (h.lo j hj)⟩
theorem Two.voteB {H G : AH} {f fa fb : Int} {A B : Votes} {ca cb : Nat} (h : Two H G f fa fb A B ca cb) (c : Cert) : Two H (G.set (H.next + 5) (.map (ents cke u32 (vput f fb B cb c)) (vclk f fb B cb c))) f fa fb A (vput f fb B cb c) ca (vclk f fb B cb c) := by
  have hn := h.next
  have hg : ∀ j, j ≠ H.next + 5 → (G.set (H.next + 5) (.map (ents cke u32 (vput f fb B cb c)) (vclk f fb B cb c))).get j = G.get j := fun j hj => by simp [AH.get_set, hj]
  exact ⟨h.a.same (hg _ (by omega)) (hg _ (by omega)), ⟨(hg _ (by omega)).trans h.b.ht, h.b.hl, by simp [AH.get_set]; omega⟩, h.oa, vput_ok h.ob .., (hg _ (by omega)).trans h.e1, (hg _ (by omega)).trans h.e2, (hg _ (by omega)).trans h.e3, (hg _ (by omega)).trans h.e6, (hg _ (by omega)).trans h.e7, (hg _ (by omega)).trans h.e8, fun j hj => (hg j (by omega)).trans (h.lo j hj)⟩
theorem two_new (H : AH) (f : Int) : Two H (newT (newT H f) f) f 1 1 [] [] 0 0 := by
  have h1 : (newT H f).next = H.next + 5 := by simp [newT]
  have g1 : ∀ j, (newT H f).get j = if j = H.next + 4 then some (.cells [.i .i64 f, .i .i64 1, .m (some H.next), .m (some (H.next + 1)), .m (some (H.next + 2)), .m (some (H.next + 3))] 0 false 0) else if j = H.next + 3 ∨ j = H.next + 2 ∨ j = H.next + 1 ∨ j = H.next then some (.map [] 0) else H.get j := by
    intro j
    simp only [newT, AH.get_new, AH.next_new]
    by_cases e4 : j = H.next + 4 <;> by_cases e3 : j = H.next + 3 <;> by_cases e2 : j = H.next + 2 <;> by_cases e1 : j = H.next + 1 <;> by_cases e0 : j = H.next <;> simp [e4, e3, e2, e1, e0] <;> omega
  have g2 : ∀ j, (newT (newT H f) f).get j = if j = H.next + 9 then some (.cells [.i .i64 f, .i .i64 1, .m (some (H.next + 5)), .m (some (H.next + 6)), .m (some (H.next + 7)), .m (some (H.next + 8))] 0 false 0) else if j = H.next + 8 ∨ j = H.next + 7 ∨ j = H.next + 6 ∨ j = H.next + 5 then some (.map [] 0) else (newT H f).get j := by
    intro j
    generalize newT H f = H1 at h1
    simp only [newT, AH.get_new, AH.next_new, h1]
    by_cases e4 : j = H.next + 9 <;> by_cases e3 : j = H.next + 8 <;> by_cases e2 : j = H.next + 7 <;> by_cases e1 : j = H.next + 6 <;> by_cases e0 : j = H.next + 5 <;> simp [e4, e3, e2, e1, e0] <;> omega
  refine ⟨⟨?_, rfl, ?_⟩, ⟨?_, rfl, ?_⟩, MOk.nil _, MOk.nil _, ?_, ?_, ?_, ?_, ?_, ?_, fun j hj => ?_⟩
  all_goals rw [g2]
  all_goals try rw [g1]
  all_goals first | (simp [ents]; done) | skip
  rw [if_neg (by omega), if_neg (by omega), if_neg (by omega), if_neg (by omega)]
end Go.Proofs.Ytdioggohbfgnfaa
