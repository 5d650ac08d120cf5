/-
  TallyForgets: the walk.
-/
import Derived.Test.YtdioggohbfgnfaaTally4
set_option linter.unusedVariables false
set_option linter.unusedSimpArgs false
namespace Go.Proofs.Ytdioggohbfgnfaa
open Go Go.Abs Go.Proofs
set_option maxRecDepth 100000
attribute [local irreducible] AEnd AW ACalls

theorem Two.forA {H G : AH} {f fa fb : Int} {A B : Votes} {ca cb : Nat} (h : Two H G f fa fb A B ca cb) (view : Int) :
    Two H ((G.set (H.next + 4) (.cells [.i .i64 f, .i .i64 (max fa view), .m (some H.next), .m (some (H.next + 1)), .m (some (H.next + 2)), .m (some (H.next + 3))] 0 false 0)).set H.next (.map (ents cke u32 (vfor A fa view)) ca)) f (max fa view) fb (vfor A fa view) B ca cb := by
  have hn := h.next
  generalize hG' : (G.set _ _).set H.next _ = G'
  have hg : ∀ j, j ≠ H.next → j ≠ H.next + 4 → G'.get j = G.get j := fun j h1 h2 => by rw [← hG']; simp [AH.get_set, h1, h2]
  have gt : G'.get (H.next + 4) = some (.cells [.i .i64 f, .i .i64 (max fa view), .m (some H.next), .m (some (H.next + 1)), .m (some (H.next + 2)), .m (some (H.next + 3))] 0 false 0) := by rw [← hG']; simp [AH.get_set, show H.next + 4 < G.next by omega]
  have gv : G'.get H.next = some (.map (ents cke u32 (vfor A fa view)) ca) := by rw [← hG']; simp [AH.get_set, show H.next < G.next by omega]
  exact ⟨⟨gt, rfl, gv⟩, h.b.same (hg _ (by omega) (by omega)) (hg _ (by omega) (by omega)), vfor_ok h.oa .., h.ob, (hg _ (by omega) (by omega)).trans h.e1, (hg _ (by omega) (by omega)).trans h.e2, (hg _ (by omega) (by omega)).trans h.e3, (hg _ (by omega) (by omega)).trans h.e6, (hg _ (by omega) (by omega)).trans h.e7, (hg _ (by omega) (by omega)).trans h.e8, fun j hj => (hg j (by omega) (by omega)).trans (h.lo j hj)⟩
theorem Two.forB {H G : AH} {f fa fb : Int} {A B : Votes} {ca cb : Nat} (h : Two H G f fa fb A B ca cb) (view : Int) :
    Two H ((G.set (H.next + 9) (.cells [.i .i64 f, .i .i64 (max fb view), .m (some (H.next + 5)), .m (some (H.next + 6)), .m (some (H.next + 7)), .m (some (H.next + 8))] 0 false 0)).set (H.next + 5) (.map (ents cke u32 (vfor B fb view)) cb)) f fa (max fb view) A (vfor B fb view) ca cb := by
  have hn := h.next
  generalize hG' : (G.set _ _).set (H.next + 5) _ = G'
  have hg : ∀ j, j ≠ H.next + 5 → j ≠ H.next + 9 → G'.get j = G.get j := fun j h1 h2 => by rw [← hG']; simp [AH.get_set, h1, h2]
  have gt : G'.get (H.next + 9) = some (.cells [.i .i64 f, .i .i64 (max fb view), .m (some (H.next + 5)), .m (some (H.next + 6)), .m (some (H.next + 7)), .m (some (H.next + 8))] 0 false 0) := by rw [← hG']; simp [AH.get_set, show H.next + 9 < G.next by omega]
  have gv : G'.get (H.next + 5) = some (.map (ents cke u32 (vfor B fb view)) cb) := by rw [← hG']; simp [AH.get_set, show H.next + 5 < G.next by omega]
  exact ⟨h.a.same (hg _ (by omega) (by omega)) (hg _ (by omega) (by omega)), ⟨gt, rfl, gv⟩, h.oa, vfor_ok h.ob .., (hg _ (by omega) (by omega)).trans h.e1, (hg _ (by omega) (by omega)).trans h.e2, (hg _ (by omega) (by omega)).trans h.e3, (hg _ (by omega) (by omega)).trans h.e6, (hg _ (by omega) (by omega)).trans h.e7, (hg _ (by omega) (by omega)).trans h.e8, fun j hj => (hg j (by omega) (by omega)).trans (h.lo j hj)⟩

theorem forgets_law (H : AH) (f view : Int) {vl : V} {l : List Act} (hl : RS H vl 21 (l.map Act.cells)) :
    ACalls Try.prog 4 [.i .i64 f, vl, .i .i64 view] H fun r H' => r = .b true := by
  have ll : ∀ G, alen Try.prog G 22 vl = some (.i .i64 l.length) := fun G => by
    have := hl.len (P := Try.prog) (H' := G) qelem_22
    simpa using this
  refine ACalls_body Try.func4 rfl rfl ?_
  refine AW_seq ?_
  refine AW_reg [0, 1, 2] fun K hK => ?_ -- region 0
  simp [init_eq]
  refine hK _ _ ?_; clear hK K
  refine AW_seq ?_
  refine AW_seq ?_
  refine AW_reg [0, 1, 2, 18] fun K hK => ?_ -- region 1
  simp [init_eq]
  refine ACalls.mono (alive_ok H) fun r H' ⟨hr, e⟩ => ?_ -- hallmoot/hallmootlaw22.alive
  subst hr e
  simp
  refine hK _ _ ?_; clear hK K
  refine AW_cond' rfl rfl (fun hc => ?_) (fun hc => ?_)
  · cases hc
  refine AW_skip ?_
  refine AW_seq ?_
  refine AW_reg [0, 1, 2, 7, 8] fun K hK => ?_ -- region 3
  simp [init_eq]
  refine ACalls.mono (new_ok H' f) fun r H1 h1 => ?_ -- hallmoot/tally.New
  rcases h1 with ⟨hq, rfl, rfl⟩ | ⟨hq, rfl, rfl⟩
  · -- no tally
    simp
    refine hK _ _ ?_; clear hK K
    refine AW_seq ?_
    refine AW_reg [1, 2, 7, 8, 9] fun K hK => ?_ -- region 4
    simp [init_eq]
    refine ACalls.mono (new_ok H1 f) fun r H2 h2 => ?_ -- hallmoot/tally.New
    rcases h2 with ⟨_, rfl, rfl⟩ | ⟨hq', _, _⟩
    · simp
      refine hK _ _ ?_; clear hK K
      refine AW_seq ?_
      refine AW_seq ?_
      refine AW_reg [43] fun K hK => ?_ -- region 5
      simp [init_eq]
      refine hK _ _ ?_; clear hK K
      refine AW_cond' rfl rfl (fun hc => ?_) (fun hc => ?_)
      · refine AW_seq ?_
        refine AW_reg [6] fun K hK => ?_ -- region 6
        simp [init_eq]
        refine hK _ _ ?_; clear hK K
        exact AW_ret (end_ret rfl rfl)
      · cases hc
    · exact absurd hq hq'
  simp
  refine hK _ _ ?_; clear hK K
  refine AW_seq ?_
  refine AW_reg [1, 2, 7, 8, 9] fun K hK => ?_ -- region 4
  simp [init_eq]
  refine ACalls.mono (new_ok (newT H' f) f) fun r H2 h2 => ?_ -- hallmoot/tally.New
  rcases h2 with ⟨hq', _, _⟩ | ⟨_, rfl, rfl⟩
  · exact absurd hq' hq
  have two0 := two_new H' f
  have hnn : (newT H' f).next + 4 = H'.next + 9 := by simp [newT]
  rw [hnn]
  generalize newT (newT H' f) f = G0 at two0 hK ⊢
  simp
  refine hK _ _ ?_; clear hK K
  refine AW_seq ?_
  refine AW_seq ?_
  refine AW_regto [1, 2, 7, 9, 43] ⟨132, [(1, vl), (2, .i .i64 view), (7, .p (some (H'.next + 4, 0, 0))), (9, .p (some (H'.next + 9, 0, 0))), (43, .b (decide (60 < (l.length : Int)) || decide (view < 1) || decide (1099511627776 < view)))]⟩ G0 (fun K hk => ?_) ?_ -- region 5
  · by_cases h1 : 60 < (l.length : Int)
    · simp [init_eq, ll, h1]
      simpa [h1] using hk
    · by_cases h2 : view < 1
      · simp [init_eq, ll, h1, h2]
        simpa [h1, h2] using hk
      · simp [init_eq, ll, h1, h2]
        simpa [h1, h2] using hk
  refine AW_cond' rfl rfl (fun hc => ?_) (fun hc => ?_)
  · refine AW_seq ?_
    refine AW_reg [6] fun K hK => ?_ -- region 6
    simp [init_eq]
    refine hK _ _ ?_; clear hK K
    exact AW_ret (end_ret rfl rfl)
  have hlen : l.length ≤ 60 ∧ 1 ≤ view := by
    simp at hc; omega
  refine AW_skip ?_
  refine AW_seq ?_
  refine AW_seq ?_
  refine AW_reg [1, 2, 7, 9, 11] fun K hK => ?_ -- region 7
  simp [init_eq]
  refine hK _ _ ?_; clear hK K
  refine AW_block ?_
  refine AW_loopx (fun i : Nat => ⟨132, [(1, vl), (2, .i .i64 view), (7, .p (some (H'.next + 4, 0, 0))), (9, .p (some (H'.next + 9, 0, 0))), (11, .i .i64 i)]⟩)
    (fun i G => i ≤ l.length ∧ ∃ A B ca cb, Two H' G f 1 1 A B ca cb ∧ Rel view A B ∧ A.length ≤ i ∧ B.length ≤ i)
    (fun i => l.length - i) 0 (by simp) ⟨by omega, [], [], 0, 0, two0, fun k _ => rfl, by simp, by simp⟩ fun i G hM => ?_ -- loop
  obtain ⟨hi, A, B, ca, cb, two, hrel, hla, hlb⟩ := hM
  have lG : RS G vl 21 (l.map Act.cells) := hl.same two.lo
  refine AW_seq ?_
  refine AW_seq ?_
  refine AW_reg [1, 2, 7, 9, 11, 47] fun K hK => ?_ -- region 8
  simp [init_eq, ll]
  refine hK _ _ ?_; clear hK K
  refine AW_cond' rfl rfl (fun hc => ?_) (fun hc => ?_)
  · have hlt : i < l.length := by simpa using hc
    obtain ⟨a, a0, a3, a32, q1, q2, q3, q4, q5, q6, q7⟩ := act_at lG i hlt
    refine AW_skip ?_
    refine AW_cut (fun ρ' G' => ρ' = ⟨132, [(1, vl), (2, .i .i64 view), (7, .p (some (H'.next + 4, 0, 0))), (9, .p (some (H'.next + 9, 0, 0))), (11, .i .i64 i)]⟩ ∧ ∃ A B ca cb, Two H' G' f 1 1 A B ca cb ∧ Rel view A B ∧ A.length ≤ i + 1 ∧ B.length ≤ i + 1) ?_ ?_
    · refine AW_block ?_
      refine AW_seq ?_
      refine AW_reg [1, 2, 7, 9, 11, 55] fun K hK => ?_ -- region 10
      simp [init_eq, q1, q2, q3]
      refine hK _ _ ?_; clear hK K
      refine AW_cond' rfl rfl (fun hc => ?_) (fun hc => ?_)
      · refine AW_seq ?_
        refine AW_reg [1, 2, 7, 9, 11] fun K hK => ?_ -- region 11
        simp [init_eq, q1, q4, q5]
        refine ACalls.mono (vote_ok G two.a (by omega) (by omega) _) fun r G1 ⟨hr, e⟩ => ?_ -- (*hallmoot/tally.Tally).Vote
        have two1 := two.voteA l[i].cert
        rw [← e] at two1
        clear e
        subst hr
        try simp
        refine hK _ _ ?_; clear hK K
        obtain ⟨a, a0, a3, a32, q1, q2, q3, q4, q5, q6, q7⟩ := act_at (hl.same two1.lo) i hlt
        refine AW_seq ?_
        refine AW_reg [1, 2, 7, 9, 11, 70] fun K hK => ?_ -- region 12
        simp [init_eq, q1, q4, q6, q7]
        refine hK _ _ ?_; clear hK K
        have hA := vput_len f 1 A ca l[i].cert
        have hB := vput_len f 1 B cb l[i].cert
        refine AW_cond' rfl rfl (fun hc => ?_) (fun hc => ?_)
        · have hv : view ≤ l[i].cert.view := by simpa using hc
          refine AW_reg [1, 2, 7, 9, 11] fun K hK => ?_ -- region 13
          simp [init_eq, q1, q4, q5]
          refine ACalls.mono (vote_ok G1 two1.b (by omega) (by omega) _) fun r G2 ⟨hr, e⟩ => ?_ -- (*hallmoot/tally.Tally).Vote
          have two2 := two1.voteB l[i].cert
          rw [← e] at two2
          clear e
          subst hr
          try simp
          refine hK _ _ ?_; clear hK K
          exact bend (rend ⟨_, by simp, rfl, _, _, _, _, two2, hrel.both ca cb hv (by omega) (by omega), by omega, by omega⟩)
        · have hv : ¬ view ≤ l[i].cert.view := by simpa using hc
          refine AW_skip ?_
          exact bend (rend ⟨_, by simp, rfl, _, _, _, _, two1, hrel.one ca hv, by omega, by omega⟩)
      · refine AW_skip ?_
        exact bend (rend ⟨_, by simp, rfl, _, _, _, _, two, hrel, by omega, by omega⟩)
    · rintro ρ' G' ⟨rfl, A', B', ca', cb', two', hrel', hla', hlb'⟩
      refine AW_reg [1, 2, 7, 9, 11] fun K hK => ?_ -- region 9
      simp [init_eq, wrap_id (x := (i : Int) + 1) (by omega) (by omega)]
      refine hK _ _ ?_; clear hK K
      exact rend ⟨i + 1, by simp, ⟨by omega, A', B', ca', cb', two', hrel', hla', hlb'⟩, by omega⟩ -- round's end
  · have hie : i = l.length := Nat.le_antisymm hi (Nat.not_lt.1 (by simpa using hc))
    refine AW_exit (then_exit (then_exit (block_here ?_)))
    refine AW_seq ?_
    refine AW_reg [1, 2, 7, 9] fun K hK => ?_ -- region 14
    simp [init_eq]
    refine ACalls.mono (forget_ok G two.a two.oa two.e1 two.e2 two.e3 (by omega) view) fun r G1 ⟨hr, e⟩ => ?_ -- (*hallmoot/tally.Tally).Forget
    have two1 := two.forA view
    rw [← e] at two1
    clear e
    subst hr
    try simp
    refine hK _ _ ?_; clear hK K
    refine AW_seq ?_
    refine AW_reg [1, 2, 7, 9] fun K hK => ?_ -- region 15
    simp [init_eq]
    refine ACalls.mono (forget_ok G1 two1.b two1.ob two1.e6 two1.e7 two1.e8 (by omega) view) fun r G2 ⟨hr, e⟩ => ?_ -- (*hallmoot/tally.Tally).Forget
    have two2 := two1.forB view
    rw [← e] at two2
    clear e
    subst hr
    try simp
    refine hK _ _ ?_; clear hK K
    have hA := vfor_len A 1 view
    have hB := vfor_len B 1 view
    have hsame := hrel.forget hlen.2
    generalize vfor A 1 view = A2 at two2 hA hsame
    generalize vfor B 1 view = B2 at two2 hB hsame
    rw [Int.max_eq_right hlen.2] at two2
    refine AW_seq ?_
    refine AW_seq ?_
    refine AW_reg [1, 2, 7, 9, 12] fun K hK => ?_ -- region 16
    simp [init_eq]
    refine hK _ _ ?_; clear hK K
    refine AW_block ?_
    refine AW_loopx (fun k : Nat => ⟨132, [(1, vl), (2, .i .i64 view), (7, .p (some (H'.next + 4, 0, 0))), (9, .p (some (H'.next + 9, 0, 0))), (12, .i .i64 k)]⟩)
      (fun k G => k ≤ l.length ∧ ∃ A B ca cb, Two H' G f view view A B ca cb ∧ (∀ c, mget A c = mget B c) ∧ A.length ≤ 60 + k ∧ B.length ≤ 60 + k)
      (fun k => l.length - k) 0 (by simp) ⟨by omega, A2, B2, ca, cb, two2, hsame, by omega, by omega⟩ fun k G3 hM => ?_ -- loop
    clear two two1 two2 hrel hla hlb lG hA hB hsame
    obtain ⟨hk, A3, B3, ca3, cb3, two, hsame, hla, hlb⟩ := hM
    refine AW_seq ?_
    refine AW_seq ?_
    refine AW_reg [1, 2, 7, 9, 12, 87] fun K hK => ?_ -- region 17
    simp [init_eq, ll]
    refine hK _ _ ?_; clear hK K
    refine AW_cond' rfl rfl (fun hc => ?_) (fun hc => ?_)
    · have hlt : k < l.length := by simpa using hc
      have he := verr_same (f := f) (fr := view) (hsame l[k].cert.plain) (by omega) (by omega)
      have hr := vres_same (f := f) (fr := view) (hsame l[k].cert.plain) (by omega) (by omega)
      refine AW_skip ?_
      refine AW_seq ?_
      refine AW_block ?_
      obtain ⟨a, a0, a3, a32, q1, q2, q3, q4, q5, q6, q7⟩ := act_at (hl.same two.lo) k hlt
      refine AW_seq ?_
      refine AW_reg [1, 2, 7, 9, 12, 13, 14] fun K hK => ?_ -- region 19
      simp [init_eq, q1, q4, q5]
      refine ACalls.mono (vote_ok G3 two.a (by omega) (by omega) _) fun r G4 ⟨hr', e⟩ => ?_ -- (*hallmoot/tally.Tally).Vote
      have two1 := two.voteA l[k].cert
      rw [← e] at two1
      clear e
      subst hr'
      simp [astore, AH.get_new, V.cells]
      refine hK _ _ ?_; clear hK K
      generalize hG5 : (G4.new _).set G4.next _ = G5
      have n5 : G5.next = G4.next + 1 := by rw [← hG5]; simp
      have x5 : G5.get G4.next = some (.cells (vres f view A3 l[k].cert).cells 0 false 0) := by rw [← hG5]; simp [AH.get_set]
      have o5 : ∀ j, j < G4.next → G5.get j = G4.get j := fun j hj => by rw [← hG5]; simp [AH.get_set, AH.get_new, show j ≠ G4.next by omega]
      clear hG5
      have n4 := two1.next
      have two5 := two1.ext fun j hj => o5 j (by omega)
      obtain ⟨a, a0, a3, a32, q1, q2, q3, q4, q5, q6, q7⟩ := act_at (hl.same two5.lo) k hlt
      refine AW_seq ?_
      refine AW_reg [1, 2, 7, 9, 12, 13, 14, 15, 16] fun K hK => ?_ -- region 20
      simp [init_eq, q1, q4, q5]
      refine ACalls.mono (vote_ok G5 two5.b (by omega) (by omega) _) fun r G6 ⟨hr', e⟩ => ?_ -- (*hallmoot/tally.Tally).Vote
      have two6 := two5.voteB l[k].cert
      have x6 : G6.get G4.next = some (.cells (vres f view A3 l[k].cert).cells 0 false 0) := by rw [e, AH.get_set_ne (by omega)]; exact x5
      have n6 : G6.next = G4.next + 1 := by rw [e]; simp [n5]
      rw [← e] at two6
      clear e
      subst hr'
      simp [astore, AH.get_new, V.cells]
      refine hK _ _ ?_; clear hK K
      generalize hG7 : (G6.new _).set G6.next _ = G7
      have n7 : G7.next = G4.next + 2 := by rw [← hG7]; simp [n6]
      have y7 : G7.get G6.next = some (.cells (vres f view B3 l[k].cert).cells 0 false 0) := by rw [← hG7]; simp [AH.get_set]
      have o7 : ∀ j, j < G6.next → G7.get j = G6.get j := fun j hj => by rw [← hG7]; simp [AH.get_set, AH.get_new, show j ≠ G6.next by omega]
      clear hG7
      have x7 := (o7 G4.next (by omega)).trans x6
      have two7 := two6.ext fun j hj => o7 j (by omega)
      obtain ⟨a, a0, a3, a32, q1, q2, q3, q4, q5, q6, q7⟩ := act_at (hl.same two7.lo) k hlt
      refine AW_seq ?_
      refine AW_regto [1, 2, 7, 9, 12, 131] ⟨132, [(1, vl), (2, .i .i64 view), (7, .p (some (H'.next + 4, 0, 0))), (9, .p (some (H'.next + 9, 0, 0))), (12, .i .i64 k), (131, .b false)]⟩ G7 (fun K hk => ?_) ?_ -- region 21
      · have lx : aload Try.prog G7 32 (.p (some (G4.next, 0, 0))) = some (.agg (vres f view A3 l[k].cert).cells) := by simp [aload, x7, take_cells]
        have ly : aload Try.prog G7 32 (.p (some (G6.next, 0, 0))) = some (.agg (vres f view B3 l[k].cert).cells) := by simp [aload, y7, take_cells]
        simp [init_eq, lx, ly, ← hr, ← he]
        by_cases hv : l[k].cert.view < view
        · have hne : verr f view A3 l[k].cert ≠ 0 := fun e => by have := (verr_view e).2; omega
          simp [q1, q4, q6, q7, hv, hne]
          exact hk
        · simp [q1, q4, q6, q7, hv]
          exact hk
      refine AW_cond' rfl rfl (fun hc => ?_) (fun hc => ?_)
      · cases hc
      · refine AW_skip ?_
        refine bend ?_
        refine AW_reg [1, 2, 7, 9, 12] fun K hK => ?_ -- region 18
        simp [init_eq, wrap_id (x := (k : Int) + 1) (by omega) (by omega)]
        refine hK _ _ ?_; clear hK K
        have hA := vput_len f view A3 ca3 l[k].cert
        have hB := vput_len f view B3 cb3 l[k].cert
        refine rend ⟨k + 1, by simp, ⟨by omega, _, _, _, _, two7, fun c => ?_, by omega, by omega⟩, by omega⟩ -- round's end
        rw [vput_get, vput_get, he, vset_same (hsame _), hsame c]
    · refine AW_exit (then_exit (then_exit (block_here ?_)))
      refine AW_seq ?_
      refine AW_reg [6] fun K hK => ?_ -- region 23
      simp [init_eq]
      refine hK _ _ ?_; clear hK K
      exact AW_ret (end_ret rfl rfl)
end Go.Proofs.Ytdioggohbfgnfaa
