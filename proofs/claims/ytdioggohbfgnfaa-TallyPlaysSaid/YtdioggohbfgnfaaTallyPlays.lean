/-
  TallyPlays: the walk.
-/
import Derived.Test.YtdioggohbfgnfaaTP8
set_option linter.unusedVariables false
set_option linter.unusedSimpArgs false
namespace Go.Proofs.Ytdioggohbfgnfaa
open Go Go.Abs Go.Proofs
set_option maxRecDepth 100000
attribute [local irreducible] AEnd AW ACalls

theorem plays_law (H : AH) (f : Int) {vl : V} {l : List Act2} (hl : RS H vl 21 (l.map Act2.cells)) (hv : ∀ a ∈ l, a.view ≤ 9223372036854775807) :
    ACalls Try.prog 5 [.i .i64 f, vl] H fun r H' => r = .b true := by
  have ll : ∀ G, alen Try.prog G 22 vl = some (.i .i64 l.length) := fun G => by
    have := hl.len (P := Try.prog) (H' := G) qelem_22
    simpa using this
  refine ACalls_body Try.func5 rfl rfl ?_
  refine AW_seq ?_
  refine AW_reg [0, 1] fun K hK => ?_ -- region 0
  simp [init_eq]
  refine hK _ _ ?_; clear hK K
  refine AW_seq ?_
  refine AW_seq ?_
  refine AW_reg [0, 1, 30] fun K hK => ?_ -- region 1
  simp [init_eq]
  refine ACalls.mono (alive_ok H) fun r H' ⟨hr, e⟩ => ?_ -- hallmoot/hallmootlaw22.alive
  subst hr e
  simp
  refine hK _ _ ?_; clear hK K
  refine AW_cond' rfl rfl (fun hc => by cases hc) (fun hc => ?_)
  refine AW_skip ?_
  refine AW_seq ?_
  refine AW_seq ?_
  refine AW_reg [0, 1, 33] fun K hK => ?_ -- region 3
  simp [init_eq, ll]
  refine hK _ _ ?_; clear hK K
  refine AW_cond' rfl rfl (fun hc => ?_) (fun hc => ?_)
  · repeat refine AW_seq ?_
    refine AW_reg [4] fun K hK => ?_ -- region 4
    simp [init_eq]
    refine hK _ _ ?_; clear hK K
    exact AW_ret (end_ret rfl rfl)
  have hlen : l.length ≤ 60 := by simp at hc; omega
  refine AW_skip ?_
  refine AW_seq ?_
  refine AW_reg [0, 1, 5, 6] fun K hK => ?_ -- region 5
  simp [init_eq]
  refine ACalls.mono (new_ok H' f) fun r H1 h1 => ?_ -- hallmoot/tally.New
  rcases h1 with ⟨hq, rfl, rfl⟩ | ⟨hq, rfl, rfl⟩
  · -- no tally
    simp
    refine hK _ _ ?_; clear hK K
    refine AW_seq ?_
    refine AW_reg [1, 5, 6, 7, 8] fun K hK => ?_ -- region 6
    simp [init_eq]
    refine ACalls.mono (rnew_ok H1 f) fun r H2 h2 => ?_ -- hallmoot/hallmootref22.New
    rcases h2 with ⟨_, rfl, rfl⟩ | ⟨hq', _, _⟩
    · simp
      refine hK _ _ ?_; clear hK K
      refine AW_seq ?_
      refine AW_seq ?_
      refine AW_reg [1, 5, 7, 53] fun K hK => ?_ -- region 7
      simp [init_eq]
      refine hK _ _ ?_; clear hK K
      refine AW_cond' rfl rfl (fun hc => by cases hc) (fun hc => ?_)
      refine AW_skip ?_
      refine AW_seq ?_
      refine AW_seq ?_
      refine AW_reg [1, 5, 7, 9] fun K hK => ?_ -- region 9
      simp [init_eq]
      refine hK _ _ ?_; clear hK K
      refine AW_block ?_
      refine AW_loopx (fun i : Nat => ⟨203, [(1, vl), (5, .p none), (7, .p none), (9, .i .i64 0)]⟩) (fun i G => True) (fun i => 0 - i) 0 (by simp) trivial fun i G hM => ?_ -- loop
      refine AW_seq ?_
      refine AW_seq ?_
      refine AW_regto [1, 5, 7, 9, 61] ⟨203, [(1, vl), (5, .p none), (7, .p none), (9, .i .i64 0), (61, .b false)]⟩ G (fun K hk => ?_) ?_ -- region 10
      · by_cases g : 0 < l.length
        · simpa [init_eq, ll, g] using hk
        · simpa [init_eq, ll, g] using hk
      refine AW_cond' rfl rfl (fun hc => by cases hc) (fun hc => ?_)
      refine AW_exit (then_exit (then_exit (block_here ?_)))
      refine rend ?_
      repeat refine AW_seq ?_
      refine AW_reg [4] fun K hK => ?_ -- region 40
      simp [init_eq]
      refine hK _ _ ?_; clear hK K
      exact AW_ret (end_ret rfl rfl)
    · exact absurd hq hq'
  simp
  refine hK _ _ ?_; clear hK K
  refine AW_seq ?_
  refine AW_reg [1, 5, 6, 7, 8] fun K hK => ?_ -- region 6
  simp [init_eq]
  refine ACalls.mono (rnew_ok (newT H' f) f) fun r H2 h2 => ?_ -- hallmoot/hallmootref22.New
  rcases h2 with ⟨hq', _, _⟩ | ⟨_, rfl, rfl⟩
  · exact absurd hq' hq
  have hnn : (newT H' f).next = H'.next + 5 := by simp [newT]
  rw [hnn]
  have hI0 : InvP H' (newR (newT H' f) f) H'.next f 0 := by
    have g1 : ∀ j, j ≠ H'.next + 5 → (newR (newT H' f) f).get j = (newT H' f).get j := fun j hj => by unfold newR; rw [AH.get_new, if_neg (by rw [hnn]; exact hj)]
    have g2 : ∀ j, j < H'.next → (newT H' f).get j = H'.get j := fun j hj => by
      simp only [newT, AH.get_new, AH.next_new]
      rw [if_neg (by omega), if_neg (by omega), if_neg (by omega), if_neg (by omega), if_neg (by omega)]
    refine ⟨fun j hj => by rw [g1 j (by omega), g2 j hj], 1, [], [], [], [], 0, 0, 0, 0, [], [], [], [H'.next + 5], ⟨?_, ?_, ?_, ?_, ?_, .nil _, .nil _, .nil _, .nil _⟩, ?_, RelT.nil f, Int.le_refl _, by simp, by simp, by simp, by simp⟩
    · rw [g1 _ (by omega)]; simp [newT, AH.get_new]
    · rw [g1 _ (by omega)]; simp [newT, AH.get_new, ents]; omega
    · rw [g1 _ (by omega)]; simp [newT, AH.get_new, ents]
    · rw [g1 _ (by omega)]; simp [newT, AH.get_new, ents]
    · rw [g1 _ (by omega)]; simp [newT, AH.get_new, ents]
    · refine ⟨.sl none 0 false, .sl none 0 false, .sl none 0 false, [], [], [], rfl, by simp, ?_, Own.nil .., Own.nil .., Own.nil ..⟩
      unfold newR; rw [AH.get_new, if_pos hnn.symm]
  generalize newR (newT H' f) f = G0 at hI0 hK ⊢
  simp
  refine hK _ _ ?_; clear hK K
  refine AW_seq ?_
  refine AW_seq ?_
  refine AW_reg [1, 5, 7, 53] fun K hK => ?_ -- region 7
  simp [init_eq]
  refine hK _ _ ?_; clear hK K
  refine AW_cond' rfl rfl (fun hc => by cases hc) (fun hc => ?_)
  refine AW_skip ?_
  refine AW_seq ?_
  refine AW_seq ?_
  refine AW_reg [1, 5, 7, 9] fun K hK => ?_ -- region 9
  simp [init_eq]
  refine hK _ _ ?_; clear hK K
  refine AW_block ?_
  generalize hB : H'.next = B at *
  refine AW_loopx (fun i : Nat => ⟨203, [(1, vl), (5, .p (some (B + 4, 0, 0))), (7, .p (some (B + 5, 0, 0))), (9, .i .i64 i)]⟩) (fun i G => i ≤ l.length ∧ InvP H' G B f i) (fun i => l.length - i) 0 (by simp) ⟨by omega, hI0⟩ fun i G hM => ?_ -- loop
  obtain ⟨hil, hI⟩ := hM
  refine AW_seq ?_
  refine AW_seq ?_
  refine AW_regto [1, 5, 7, 9, 61] ⟨203, [(1, vl), (5, .p (some (B + 4, 0, 0))), (7, .p (some (B + 5, 0, 0))), (9, .i .i64 i), (61, .b (decide (i < l.length)))]⟩ G (fun K hk => ?_) ?_ -- region 10
  · by_cases g : i < l.length
    · simpa [init_eq, ll, g] using hk
    · simpa [init_eq, ll, g] using hk
  refine AW_cond' rfl rfl (fun hc => ?_) (fun hc => ?_)
  rotate_left
  · refine AW_exit (then_exit (then_exit (block_here ?_)))
    refine rend ?_
    repeat refine AW_seq ?_
    refine AW_reg [4] fun K hK => ?_ -- region 40
    simp [init_eq]
    refine hK _ _ ?_; clear hK K
    exact AW_ret (end_ret rfl rfl)
  have hi : i < l.length := of_decide_eq_true hc
  refine AW_skip ?_
  refine AW_seq ?_
  refine AW_block ?_
  obtain ⟨hlo, fr, es, ts, cs, ds, c1, c2, c3, c4, vs, tl, ms, F, hP, hR, hrel, hfr, hn1, hn2, hn3, hF⟩ := hI
  have hlG : RS G vl 21 (l.map Act2.cells) := hl.same fun j hj => hlo j (by omega)
  obtain ⟨ax, pa, qa⟩ := acts_at hlG i hi
  have hav := hv l[i] (List.getElem_mem hi)
  generalize hA : l[i] = A at qa hav
  refine AW_seq ?_
  refine AW_reg [1, 5, 7, 9, 10] fun K hK => ?_ -- region 12
  simp [init_eq, pa, qa, V.cells, astore, AH.get_new]
  refine hK _ _ ?_; clear hK K
  generalize hG1 : AH.set _ G.next _ = G1
  have uG1 : Upd G G1 [] := by
    rw [← hG1]
    exact ⟨by simp, fun j hj _ => by rw [AH.get_set_ne (by omega), AH.get_new, if_neg (by omega)]⟩
  have b1 : G1.get G.next = some (.cells A.cells 0 false 0) := by
    rw [← hG1]; simp [AH.get_set]; exact splice_all rfl
  clear hG1
  have hFG : ∀ j ∈ F, j < G.next := hR.lt
  have hBG : B + 4 < G.next := AH.get_lt hP.t
  replace hP := hP.upd uG1 (by simp)
  replace hR := hR.upd uG1 (by simp)
  have hlo1 : ∀ j, j < B → G1.get j = H'.get j := fun j hj => by rw [uG1.2 j (by omega) (by simp)]; exact hlo j hj
  have hnG1 := uG1.1
  have hFG1 : ∀ j ∈ F, j < G1.next := fun j hj => by have := hFG j hj; omega
  generalize hqq : G.next = q at *
  have fa : afieldAddr Try.prog 36 0 (.p (some (q, 0, 0))) = some (.p (some (q, 0, 0))) ∧ afieldAddr Try.prog 36 1 (.p (some (q, 0, 0))) = some (.p (some (q, 0, 1))) ∧ afieldAddr Try.prog 36 2 (.p (some (q, 0, 0))) = some (.p (some (q, 0, 2))) ∧
      afieldAddr Try.prog 36 3 (.p (some (q, 0, 0))) = some (.p (some (q, 0, 3))) ∧ afieldAddr Try.prog 36 4 (.p (some (q, 0, 0))) = some (.p (some (q, 0, 11))) := by simp [afieldAddr]
  have ld : ∀ X : AH, X.get q = some (.cells A.cells 0 false 0) → aload Try.prog X 3 (.p (some (q, 0, 0))) = some (.i .i64 A.kind) ∧ aload Try.prog X 3 (.p (some (q, 0, 1))) = some (.i .i64 A.view) ∧ aload Try.prog X 3 (.p (some (q, 0, 2))) = some (.i .i64 A.who) ∧
      aload Try.prog X 32 (.p (some (q, 0, 3))) = some (.agg A.cert.cells) ∧ aload Try.prog X 34 (.p (some (q, 0, 11))) = some (.agg A.tmo.cells) := fun X hX => by
    refine ⟨?_, ?_, ?_, ?_, ?_⟩ <;> simp [aload, hX, Act2.certC, Act2.tmoC]
  refine AW_cut (fun ρ X => ρ = ⟨203, [(1, vl), (5, .p (some (B + 4, 0, 0))), (7, .p (some (B + 5, 0, 0))), (9, .i .i64 i)]⟩ ∧ InvP H' X B f (i + 1)) ?_ ?_
  rotate_left
  · -- how many there are
    rintro ρ X ⟨rfl, hI⟩
    obtain ⟨ylo, fr', es', ts', cs', ds', d1, d2, d3, d4, vs', tl', ms', F', yP, yR, yrel, yfr, yn1, yn2, yn3, yF⟩ := hI
    obtain ⟨vv, tv, mv, FV, FT, FM, z1, z2, z3, z4, z5, z6⟩ := yR
    have hrsV : RS X vv 8 (vs'.map Cert.cells) := Own.rsR (xs := vs') (f := Cert.cells) z4 (by decide) fun _ => rfl
    have hlT := (Own.rsR (xs := tl') (f := Tmo.cells) z5 (by decide) fun _ => rfl).alen (P := Try.prog) qelem_50 X
    have hd := dn_len yP.ov.keys yrel.vk
    have ht : ts'.length = tl'.length := by have := yrel.tp.length_eq; simpa using this
    refine AW_seq ?_
    refine AW_reg [1, 5, 7, 9, 27, 28] fun K hK => ?_ -- region 37
    simp [init_eq]
    refine ACalls.mono (len_ok X yP.t yP.v yP.u) fun r X2 ⟨hr, e⟩ => ?_ -- (*hallmoot/tally.Tally).Len
    subst hr e
    try simp
    refine hK _ _ ?_; clear hK K
    refine AW_seq ?_
    refine AW_reg [1, 5, 7, 9, 202] fun K hK => ?_ -- region 38
    simp [init_eq]
    refine ACalls.mono (rCerts_ok X2 z3 hrsV (by omega)) fun r X3 ⟨hr, e⟩ => ?_ -- (*hallmoot/hallmootref22.Tally).Certs
    subst hr e
    rw [hd, ht]
    simp [afieldAddr, aload, z3, hlT]
    refine hK _ _ ?_; clear hK K
    refine AW_cond' rfl rfl (fun hc => by cases hc) (fun hc => ?_)
    refine AW_skip ?_
    refine bend (rend ?_)
    refine AW_reg [1, 5, 7, 9] fun K hK => ?_ -- region 11
    simp [init_eq, wrap_id (x := (i : Int) + 1) (by omega) (by omega)]
    refine hK _ _ ?_; clear hK K
    exact rend ⟨i + 1, by simp, ⟨by omega, ylo, fr', es', ts', cs', ds', d1, d2, d3, d4, vs', tl', ms', F', yP, ⟨vv, tv, mv, FV, FT, FM, z1, z2, z3, z4, z5, z6⟩, yrel, yfr, yn1, yn2, yn3, yF⟩, by show l.length - (i + 1) < l.length - i; omega⟩ -- round's end
  refine AW_seq ?_
  refine AW_reg [1, 5, 7, 9, 10, 69] fun K hK => ?_ -- region 13
  simp [init_eq, fa, ld G1 b1]
  refine hK _ _ ?_; clear hK K
  refine AW_block ?_
  refine AW_seq ?_
  refine AW_reg [1, 5, 7, 9, 10, 69, 70] fun K hK => ?_ -- region 14
  simp [init_eq]
  refine hK _ _ ?_; clear hK K
  have hPl : ∀ X : AH, Upd G1 X (ptF B) → X.get q = some (.cells A.cells 0 false 0) := fun X hX => hX.keep (fun hm => by have := ptF_lt hm; omega) b1
  have hRl : ∀ X : AH, Upd G1 X (ptF B) → RAt X (B + 5) F f fr vs tl ms := fun X hX => hR.upd hX fun j hj hm => by have a := ptF_lt hm; have b := hF j hj; omega
  refine AW_cond' rfl rfl (fun hc => ?_) (fun hc => ?_)
  · -- a vote
    clear hc
    refine AW_seq ?_
    refine AW_reg [1, 5, 7, 9, 10, 11, 12] fun K hK => ?_ -- region 15
    simp [init_eq, fa, ld G1 b1]
    have hTS : TS G1 (B + 4) B [.m (some (B + 1)), .m (some (B + 2)), .m (some (B + 3))] f fr es c1 := ⟨hP.t, rfl, hP.v⟩
    have hd := dn_len hP.ov.keys hrel.vk
    have hdl : dn vs ≤ vs.length := dnTo_le vs vs.length
    refine ACalls.mono (vote_ok G1 hTS hfr (by omega) A.cert) fun r X ⟨hr, e⟩ => ?_ -- (*hallmoot/tally.Tally).Vote
    have hP2 := hP.setV A.cert
    have hu : Upd G1 X (ptF B) := by rw [e]; exact Upd.set _ _ _ (by simp [ptF])
    rw [← e] at hP2
    clear e
    subst hr
    have hqX : q < X.next := AH.get_lt (hPl X hu)
    simp [V.cells, astore, AH.get_new]
    refine hK _ _ ?_; clear hK K
    generalize hX1 : AH.set _ X.next _ = X1
    have uX1 : Upd X X1 [] := by
      rw [← hX1]
      exact ⟨by simp, fun j hj _ => by rw [AH.get_set_ne (by omega), AH.get_new, if_neg (by omega)]⟩
    have e1 : X1.get X.next = some (.cells (vres f fr es A.cert).cells 0 false 0) := by
      rw [← hX1]; simp [AH.get_set]
    clear hX1
    have hu1 := hu.trans uX1 (by simp)
    refine AW_seq ?_
    refine AW_reg [1, 5, 7, 9, 11, 12, 13, 14] fun K hK => ?_ -- region 16
    simp [init_eq, fa, ld X1 (hPl X1 hu1)]
    refine ACalls.mono (rvote_ok X1 (hRl X1 hu1) hfr (by omega) A.cert) fun r Y ⟨⟨s, hs, hr⟩, F', hR', huF, hF'⟩ => ?_ -- (*hallmoot/hallmootref22.Tally).Vote
    obtain ⟨hrel2, hres⟩ := hrel.vote (fr := fr) hP.ov.keys c1 A.cert
    rw [← hres s hs, ← hrel.verrE (fr := fr) hP.ov.keys A.cert] at hr
    rw [← hrel.verrE (fr := fr) hP.ov.keys A.cert] at hR' hrel2
    subst hr
    have hlX1 : ∀ j ∈ F, j < X.next := fun j hj => by have := hFG1 j hj; have := hu.1; omega
    have e2 := huF.keep (fun hm => by have := hlX1 _ hm; omega) e1
    simp [V.cells, astore, AH.get_new]
    refine hK _ _ ?_; clear hK K
    generalize hY1 : AH.set _ Y.next _ = Y1
    have uY1 : Upd Y Y1 [] := by
      rw [← hY1]
      exact ⟨by simp, fun j hj _ => by rw [AH.get_set_ne (by omega), AH.get_new, if_neg (by omega)]⟩
    have e3 : Y1.get Y.next = some (.cells (vres f fr es A.cert).cells 0 false 0) := by
      rw [← hY1]; simp [AH.get_set]
    clear hY1
    have e4 := uY1.keep (by simp) e2
    refine AW_seq ?_
    refine AW_reg [1, 5, 7, 9, 93] fun K hK => ?_ -- region 17
    simp [init_eq, aload, e3, e4, take_cells]
    refine hK _ _ ?_; clear hK K
    refine AW_cond' rfl rfl (fun hc => by cases hc) (fun hc => ?_)
    refine AW_skip ?_
    refine bend (rend ⟨_, by simp, rfl, InvP.step hlo1 hP (hP2.upd uX1 (by simp)) hu1 hF hFG1 (hR'.upd uY1 (by simp)) (huF.trans uY1 (by simp)) hF' hrel2 hfr ?_ (by omega) (by omega)⟩)
    split
    · simp; omega
    · omega
  refine AW_seq ?_
  refine AW_reg [1, 5, 7, 9, 10, 69, 94] fun K hK => ?_ -- region 19
  simp [init_eq]
  refine hK _ _ ?_; clear hK K
  clear hc
  refine AW_cond' rfl rfl (fun hc => ?_) (fun hc => ?_)
  · -- a timeout
    clear hc
    refine AW_seq ?_
    refine AW_reg [1, 5, 7, 9, 10, 15, 16] fun K hK => ?_ -- region 20
    simp [init_eq, fa, ld G1 b1]
    have hrel2 := hrel.tput (fr := fr) c2 A.tmo
    obtain ⟨ha1, ha2, ha3⟩ := hrel2.all (pput_ok (f := f) (fr := fr) hP.ou A.tmo).keys A.tmo.view
    refine ACalls.mono (timeout_ok G1 hP.t hP.u (by omega) hP.ou hfr A.tmo (by omega)) fun r X ⟨⟨lv, zs, F0, hr, ho, hf0, hz⟩, hu0, hg⟩ => ?_ -- (*hallmoot/tally.Tally).Timeout
    have hP2 := hP.setU hu0 hg
    have hu : Upd G1 X (ptF B) := hu0.mono (by simp [ptF])
    subst hr
    have he := hrel.terrE (fr := fr) A.tmo
    rw [he] at hz ⊢
    simp
    refine hK _ _ ?_; clear hK K
    refine AW_seq ?_
    refine AW_reg [1, 5, 7, 9, 15, 16, 17, 18] fun K hK => ?_ -- region 21
    simp [init_eq, fa, ld X (hPl X hu)]
    refine ACalls.mono (rtimeout_ok X (hRl X hu) hfr (by omega) A.tmo) fun r Y ⟨⟨lw, hr, hrs⟩, F', hR', huF, hF'⟩ => ?_ -- (*hallmoot/hallmootref22.Tally).Timeout
    subst hr
    have hzs : zs = (if terr f fr tl A.tmo = 0 ∧ qtimes 2 f ≤ (tall f (tl ++ [A.tmo]) A.tmo.view).length then tall f (tl ++ [A.tmo]) A.tmo.view else []) := by
      by_cases h0 : terr f fr tl A.tmo = 0
      · rw [if_pos h0] at ha1 ha3
        rw [ha1.length_eq] at hz
        by_cases h2 : qtimes 2 f ≤ (tall f (tl ++ [A.tmo]) A.tmo.view).length
        · rw [if_pos ⟨h0, h2⟩] at hz ⊢
          exact ha3 zs hz.1 hz.2
        · rw [if_neg (fun k => h2 k.2)] at hz ⊢
          exact hz
      · rw [if_neg (fun k => h0 k.1)] at hz ⊢
        exact hz
    rw [← hzs] at hrs
    have hoY := ho.upd huF fun j hj hm => by have a := hf0 j hj; have b := hFG1 j hm; omega
    have hrz : RS Y lv 10 (zs.map Tmo.cells) := Own.rsR (xs := zs) (f := Tmo.cells) hoY (by decide) fun _ => rfl
    have hzl : zs.length ≤ 1000000000 := by
      have h1 := ha1.length_eq
      rw [hzs]
      split
      · rename_i h
        rw [if_pos h.1] at h1
        omega
      · simp
    simp
    refine hK _ _ ?_; clear hK K
    refine AW_seq ?_
    refine AW_reg [1, 5, 7, 9, 118] fun K hK => ?_ -- region 22
    simp [init_eq]
    refine ACalls.mono (rtimes_ok Y hrz hrs hzl) fun r Y2 ⟨hr, e⟩ => ?_ -- hallmoot/hallmootref14.Times
    subst hr e
    try simp
    refine hK _ _ ?_; clear hK K
    refine AW_cond' rfl rfl (fun hc => by cases hc) (fun hc => ?_)
    refine AW_skip ?_
    refine bend (rend ⟨_, by simp, rfl, InvP.step hlo1 hP hP2 hu hF hFG1 hR' huF hF' hrel2 hfr (by omega) ?_ (by omega)⟩)
    split
    · simp; omega
    · omega
  refine AW_seq ?_
  refine AW_reg [1, 5, 7, 9, 10, 69, 119] fun K hK => ?_ -- region 24
  simp [init_eq]
  refine hK _ _ ?_; clear hK K
  clear hc
  refine AW_cond' rfl rfl (fun hc => ?_) (fun hc => ?_)
  · -- a coin share
    clear hc
    refine AW_seq ?_
    refine AW_reg [1, 5, 7, 9, 10, 19, 20] fun K hK => ?_ -- region 25
    simp [init_eq, fa, ld G1 b1]
    refine ACalls.mono (coin_ok G1 hP.t hP.c (by omega) hfr A.view A.who hav) fun r X ⟨hr, hp⟩ => ?_ -- (*hallmoot/tally.Tally).Coin
    obtain ⟨hP2, hu⟩ := hP.setC hp
    subst hr
    simp
    refine hK _ _ ?_; clear hK K
    refine AW_seq ?_
    refine AW_reg [1, 5, 7, 9, 19, 20, 21, 22] fun K hK => ?_ -- region 26
    simp [init_eq, fa, ld X (hPl X hu)]
    refine ACalls.mono (rcoin_ok X (hRl X hu) hfr hq (by omega) A.view A.who hav) fun r Y ⟨⟨s, hs, hr⟩, F', hR', huF, hF'⟩ => ?_ -- (*hallmoot/hallmootref22.Tally).Coin
    have hsame : (if merr f fr ⟨1, A.view, A.who⟩ = 0 ∧ f < (whoM f (ms ++ [⟨1, A.view, A.who⟩]) 1 A.view).length then s else 0#32) = (if aerr f fr A.view A.who = 0 ∧ qtimes 1 f ≤ pop (aset cs A.view A.who) then aset cs A.view A.who else 0#32) := by
      rw [merr_a]
      by_cases h0 : aerr f fr A.view A.who = 0
      · have hw := aerr_zero h0
        have hb := SetR.bits hrel.mc hrel.mr (w := A.view) hw
        have hpo := SetR.pop hrel.mc hrel.mr (w := A.view) hw
        have hse : aset cs A.view A.who = s := bits_eq fun i hi => by rw [hb i hi, hs i hi]
        have hqf := q_small hq
        have hq1 : qtimes 1 f = f + 1 := by unfold qtimes; rw [if_neg (by omega)]; omega
        rw [hpo, hq1, ← hse]
        by_cases h2 : f < (whoM f (ms ++ [⟨1, A.view, A.who⟩]) 1 A.view).length
        · rw [if_pos ⟨h0, h2⟩, if_pos ⟨h0, by omega⟩]
        · rw [if_neg (fun k => h2 k.2), if_neg (fun k => h2 (by have := k.2; omega))]
      · rw [if_neg (fun k => h0 k.1), if_neg (fun k => h0 k.1)]
    rw [hsame, merr_a] at hr
    rw [merr_a] at hR'
    subst hr
    simp
    refine hK _ _ ?_; clear hK K
    refine AW_seq ?_
    refine AW_reg [1, 5, 7, 9, 146] fun K hK => ?_ -- region 27
    simp [init_eq]
    refine hK _ _ ?_; clear hK K
    refine AW_cond' rfl rfl (fun hc => by cases hc) (fun hc => ?_)
    refine AW_skip ?_
    refine bend (rend ⟨_, by simp, rfl, InvP.step hlo1 hP hP2 hu hF hFG1 hR' huF hF' (hrel.coin (fr := fr) c3 A.view A.who) hfr (by omega) (by omega) ?_⟩)
    split
    · simp; omega
    · omega
  refine AW_seq ?_
  refine AW_reg [1, 5, 7, 9, 10, 69, 147] fun K hK => ?_ -- region 29
  simp [init_eq]
  refine hK _ _ ?_; clear hK K
  clear hc
  refine AW_cond' rfl rfl (fun hc => ?_) (fun hc => ?_)
  · -- somebody is done
    clear hc
    refine AW_seq ?_
    refine AW_reg [1, 5, 7, 9, 10, 23, 24] fun K hK => ?_ -- region 30
    simp [init_eq, fa, ld G1 b1]
    refine ACalls.mono (done_ok G1 hP.t hP.d hfr A.view A.who hav) fun r X ⟨hr, hp⟩ => ?_ -- (*hallmoot/tally.Tally).Done
    obtain ⟨hP2, hu⟩ := hP.setD hp
    subst hr
    simp
    refine hK _ _ ?_; clear hK K
    refine AW_seq ?_
    refine AW_reg [1, 5, 7, 9, 23, 24, 25, 26] fun K hK => ?_ -- region 31
    simp [init_eq, fa, ld X (hPl X hu)]
    refine ACalls.mono (rdone_ok X (hRl X hu) hfr (by omega) A.view A.who hav) fun r Y ⟨hr, F', hR', huF, hF'⟩ => ?_ -- (*hallmoot/hallmootref22.Tally).Done
    have hsame : (if merr f fr ⟨2, A.view, A.who⟩ = 0 then (whoM f (ms ++ [⟨2, A.view, A.who⟩]) 2 A.view).length else 0 : Nat) = pop (if aerr f fr A.view A.who = 0 then aset ds A.view A.who else 0#32) := by
      rw [merr_a]
      by_cases h0 : aerr f fr A.view A.who = 0
      · rw [if_pos h0, if_pos h0]
        exact (SetR.pop hrel.md hrel.mr (w := A.view) (aerr_zero h0)).symm
      · rw [if_neg h0, if_neg h0]; rfl
    rw [hsame, merr_a] at hr
    rw [merr_a] at hR'
    subst hr
    simp
    refine hK _ _ ?_; clear hK K
    refine AW_seq ?_
    refine AW_reg [1, 5, 7, 9, 174] fun K hK => ?_ -- region 32
    simp [init_eq]
    refine hK _ _ ?_; clear hK K
    refine AW_cond' rfl rfl (fun hc => by cases hc) (fun hc => ?_)
    refine AW_skip ?_
    refine bend (rend ⟨_, by simp, rfl, InvP.step hlo1 hP hP2 hu hF hFG1 hR' huF hF' (hrel.done (fr := fr) c4 A.view A.who) hfr (by omega) (by omega) ?_⟩)
    split
    · simp; omega
    · omega
  refine AW_seq ?_
  refine AW_reg [1, 5, 7, 9, 10, 175] fun K hK => ?_ -- region 34
  simp [init_eq]
  refine hK _ _ ?_; clear hK K
  clear hc
  refine AW_cond' rfl rfl (fun hc => ?_) (fun hc => ?_)
  · -- forgetting
    clear hc
    refine AW_seq ?_
    refine AW_reg [1, 5, 7, 9, 10] fun K hK => ?_ -- region 35
    simp [init_eq, fa, ld G1 b1]
    refine ACalls.mono (forget2_ok G1 hP A.view) fun r X ⟨hr, hP2, hu⟩ => ?_ -- (*hallmoot/tally.Tally).Forget
    subst hr
    try simp
    refine hK _ _ ?_; clear hK K
    refine AW_reg [1, 5, 7, 9] fun K hK => ?_ -- region 36
    simp [init_eq, fa, ld X (hPl X hu)]
    refine ACalls.mono (rforget_ok X (hRl X hu) (by omega) (by omega) (by omega) A.view) fun r Y ⟨hr, F', hR', huF, hF'⟩ => ?_ -- (*hallmoot/hallmootref22.Tally).Forget
    subst hr
    try simp
    refine hK _ _ ?_; clear hK K
    have hmx : (if A.view ≤ fr then fr else A.view) = max fr A.view := by
      split
      · rw [Int.max_eq_left (by omega)]
      · rw [Int.max_eq_right (by omega)]
    rw [hmx] at hR'
    refine bend (rend ⟨_, by simp, rfl, InvP.step hlo1 hP hP2 hu hF hFG1 hR' huF hF' (hrel.forget fr A.view) (by omega) ?_ ?_ ?_⟩)
    · split
      · omega
      · have := List.length_filter_le (laterV A.view) vs; omega
    · split
      · omega
      · have := List.length_filter_le (laterT A.view) tl; omega
    · split
      · omega
      · have := List.length_filter_le (laterM A.view) ms; omega
  · -- none of these
    refine AW_skip ?_
    refine bend (rend ⟨_, by simp, rfl, hlo1, fr, es, ts, cs, ds, c1, c2, c3, c4, vs, tl, ms, F, hP, hR, hrel, hfr, by omega, by omega, by omega, hF⟩)
theorem tallyPlays_law (H : AH) (vs : List V) (hv : TVals Try.prog H Try.f5.params.toList vs) : ACalls Try.prog 5 vs H fun r _ => r = .b true := by
  have hv' : TVals Try.prog H [3, 22] vs := hv
  clear hv
  rcases vs with _ | ⟨a, _ | ⟨b, _ | ⟨c, r⟩⟩⟩
  · exact hv'.elim
  · exact hv'.2.elim
  · obtain ⟨x, rfl, _⟩ := hv'.1.i Try.underlying3
    obtain ⟨l, hl, hb⟩ := tv_acts3 hv'.2.1
    exact plays_law H x hl hb
  · exact hv'.2.2.elim
end Go.Proofs.Ytdioggohbfgnfaa
