/-
  The document's tally: Vote.
-/
import Derived.Test.YtdioggohbfgnfaaTP0
import Derived.Test.YtdioggohbfgnfaaTR3
import Derived.Test.YtdioggohbfgnfaaRef11
set_option linter.unusedVariables false
set_option linter.unusedSimpArgs false
namespace Go.Proofs.Ytdioggohbfgnfaa
open Go Go.Abs Go.Proofs
set_option maxRecDepth 100000
attribute [local irreducible] AEnd AW ACalls

theorem bslice_ext {P : Program} {H H1 : AH} {t e : TypeId} {sz : Nat} {z v : V} {zl : List V} (hq : qelem P t = some e) (hs : qsize P e = some sz) (hz : qzero P e = some z) (hzl : z.cells = some zl) (hzll : zl.length = sz) (hsz : sz ≤ 16777216) (hp : 0 < sz)
    {x : V} {xl : List V} (hx : x.cells = some xl) (hxl : xl.length = sz) (h : abuildSlice P H t 1 [(0, x)] = some (v, H1)) : H.ext H1 := by
  have e1 : abuildSlice P H t 1 [(0, x)] = some (.sl (some (H.next, 0, 0)) 1 false, H.new (.cells xl 0 false sz)) := by
    simp only [abuildSlice, hq, hs, hz, hzl, hzll]
    rw [if_pos ⟨trivial, by omega, hp⟩]
    simp [afill, hx, hxl, splice, hzll, List.drop_of_length_le (Nat.le_of_eq hzll)]
  rw [h] at e1
  cases e1
  exact AH.ext.new ..
theorem own_nodup {H : AH} {v : V} {sz : Nat} {cs : List V} {F : List Nat} (h : Own H v sz cs F) : F.Nodup := by
  rcases h with ⟨c, h1, h2, h3⟩ | ⟨id, g, len, h1, h2, h3, h4⟩
  · subst h3; simp
  · subst h4; simp
theorem app_certs : App Try.prog 29 29 8 56 := App.mk' qelem_29 qsize_32 qbytes_32 qzero_32 qsrc_29 rfl (by decide)
def hasV (c : Cert) (k : Nat) (v : Cert) : Bool := decide (rplain v = rplain c) && hasB v.signers k
/-- Whose vote of a kind there is. -/
def whoV (f : Int) (vs : List Cert) (c : Cert) : List Nat := (List.range (qtimes 3 f).toNat).filter fun k => vs.any (hasV c k)
def rverr (f fr : Int) (vs : List Cert) (c : Cert) : Int :=
  if vbad f c = true then 110 else if keptE fr c.view ≠ 0 then keptE fr c.view else if seenIn vs c = false ∧ (256 : Int) ≤ dn vs then 101 else 0
theorem bits_exist (p : Nat → Bool) : ∀ n, n ≤ 32 → ∃ s : BitVec 32, ∀ i, i < 32 → s.getLsbD i = (decide (i < n) && p i)
  | 0, _ => ⟨0#32, fun i _ => by simp⟩
  | n + 1, h => by
    obtain ⟨s, hs⟩ := bits_exist p n (by omega)
    refine ⟨s ||| (if p n then 1#32 <<< n else 0#32), fun i hi => ?_⟩
    rw [BitVec.getLsbD_or, hs i hi]
    have h1 : (if p n then 1#32 <<< n else 0#32).getLsbD i = (decide (i = n) && p i) := by
      by_cases e : i = n
      · subst e; cases h : p i <;> simp [hi]
      · cases h : p n
        · simp [e]
        · rw [if_pos rfl, BitVec.getLsbD_shiftLeft, BitVec.getLsbD_one]
          by_cases h2 : i < n
          · simp [e, h2]
          · simp [e, show ¬ i - n = 0 by omega]
    rw [h1]
    by_cases e : i = n
    · subst e; simp
    · have : (i < n + 1) = (i < n) := propext (by omega)
      simp [e, this]
theorem cert_at (G : AH) {vv : V} {vs : List Cert} (h : RS G vv 8 (vs.map Cert.cells)) (i : Nat) (hi : i < vs.length) :
    ∃ ax a6, aindexAddr Try.prog 29 vv (.i .i64 i) = some ax ∧ aload Try.prog G 32 ax = some (.agg vs[i].cells) ∧ afieldAddr Try.prog 32 6 ax = some a6 ∧ aload Try.prog G 30 a6 = some (u32 vs[i].signers) := by
  obtain ⟨ax, h1, h2⟩ := h.at (P := Try.prog) (t := 29) (by decide) qelem_29 qsize_32 (k := .i64) i (l := vs[i].cells) (by simp [hi])
  obtain ⟨a6, h3, h4⟩ := h2.fld (P := Try.prog) (t := 32) (ft := 30) (f := 6) (o := 6) (b := false) (x := u32 vs[i].signers) (by simp) qagg_30 qsize_30 (by simp)
  exact ⟨ax, a6, h1, h2.load qagg_32 (by simp), h3, h4⟩
theorem rvote_ok (H : AH) {m : Nat} {F : List Nat} {f fr : Int} {vs : List Cert} {ts : List Tmo} {ms : List Mrk} (hR : RAt H m F f fr vs ts ms) (hfr : 1 ≤ fr) (hl : vs.length ≤ 10000) (c : Cert) :
    ACalls Try.prog 14 [.p (some (m, 0, 0)), .agg c.cells] H fun r H' =>
      (∃ s : BitVec 32, (∀ i, i < 32 → s.getLsbD i = decide (i ∈ whoV f (vs ++ [c]) c)) ∧ r = .tup [.agg (if rverr f fr vs c = 0 ∧ qtimes 2 f ≤ (whoV f (vs ++ [c]) c).length then { c with signers := s } else Cert.zero).cells, .i .i64 (rverr f fr vs c)]) ∧
      ∃ F', RAt H' m F' f fr (if rverr f fr vs c = 0 then vs ++ [c] else vs) ts ms ∧ Upd H H' F ∧ ∀ j ∈ F', j ∈ F ∨ H.next ≤ j := by
  have hRR := hR
  obtain ⟨vv, tv, mv, FV, FT, FM, rfl, h2, h3, h4, h5, h6⟩ := hR
  have hR : RAt H m (m :: (FV ++ (FT ++ FM))) f fr vs ts ms := hRR
  obtain ⟨s0, hs0⟩ : ∃ s : BitVec 32, ∀ i, i < 32 → s.getLsbD i = decide (i ∈ whoV f (vs ++ [c]) c) := by
    obtain ⟨s, hs⟩ := bits_exist (fun i => decide (i ∈ whoV f (vs ++ [c]) c)) 32 (by decide)
    exact ⟨s, fun i hi => by rw [hs i hi]; simp [hi]⟩
  refine ACalls_body Try.func14 rfl rfl ?_
  repeat refine AW_seq ?_
  refine AW_reg [0, 3, 4] fun K hK => ?_ -- region 0
  simp [init_eq, V.cells]
  generalize hH1 : (H.new (.cells c.cells 0 false 0)).new (.cells _ 0 false 0) = H1
  have x1 : H1.get H.next = some (.cells c.cells 0 false 0) := by rw [← hH1]; simp [AH.get_new]
  have x2 : H1.get (H.next + 1) = some (.cells Cert.zero.cells 0 false 0) := by rw [← hH1]; simp [AH.get_new]
  have n1 : H1.next = H.next + 2 := by rw [← hH1]; simp
  have o1 : ∀ j, j < H.next → H1.get j = H.get j := fun j hj => by rw [← hH1, AH.get_new, if_neg (by simp; omega), AH.get_new, if_neg (by omega)]
  clear hH1
  refine hK _ _ ?_; clear hK K
  have u1 : Upd H H1 [] := ⟨by omega, fun j hj _ => o1 j hj⟩
  have hR1 := hR.upd u1 (by simp)
  have m1 := (o1 m (AH.get_lt h3)).trans h3
  have hrs1 : RS H1 vv 8 (vs.map Cert.cells) := (h4.rsR (by decide) fun _ => rfl).same o1
  have ldC : aload Try.prog H1 32 (.p (some (H.next, 0, 0))) = some (.agg c.cells) := by simp [aload, x1, take_cells]
  have hz : abuild Try.prog 32 [] = some (.agg Cert.zero.cells) := by first | (simp [abuild, afill]; done) | (simp [abuild, afill]; rfl)
  have hlt := hR.lt
  have hkeep : ∀ (G : AH) (F' : List Nat) (ws : List Cert) (k : Nat) (o : O), RAt G m F' f fr ws ts ms → (∀ j ∈ F', j ∈ (m :: (FV ++ (FT ++ FM))) ∨ H.next + 2 ≤ j) → (k = H.next ∨ k = H.next + 1) → RAt (G.set k o) m F' f fr ws ts ms := fun G F' ws k o h1 h2 h3 =>
    h1.upd (Upd.set G k o (F := [k]) (by simp)) fun j hj => by
      have := h2 j hj
      simp only [List.mem_singleton]
      rcases this with h | h
      · have := hlt j h; omega
      · omega
  -- ends that tell of nothing
  have hend : ∀ (e : Int) (ρ : Env) (G : AH) (F' : List Nat), RAt G m F' f fr (if rverr f fr vs c = 0 then vs ++ [c] else vs) ts ms → Upd H G (m :: (FV ++ (FT ++ FM))) → (∀ j ∈ F', j ∈ (m :: (FV ++ (FT ++ FM))) ∨ H.next + 2 ≤ j) → H.next + 2 ≤ G.next → ρ.get 4 = .p (some (H.next + 1, 0, 0)) → ρ.get 5 = .i .i64 e →
      rverr f fr vs c = e → (¬ (rverr f fr vs c = 0 ∧ qtimes 2 f ≤ (whoV f (vs ++ [c]) c).length)) →
      AEnd Try.prog Try.f14 (fun r H' => (∃ s : BitVec 32, (∀ i, i < 32 → s.getLsbD i = decide (i ∈ whoV f (vs ++ [c]) c)) ∧ r = .tup [.agg (if rverr f fr vs c = 0 ∧ qtimes 2 f ≤ (whoV f (vs ++ [c]) c).length then { c with signers := s } else Cert.zero).cells, .i .i64 (rverr f fr vs c)]) ∧
        ∃ F', RAt H' m F' f fr (if rverr f fr vs c = 0 then vs ++ [c] else vs) ts ms ∧ Upd H H' (m :: (FV ++ (FT ++ FM))) ∧ ∀ j ∈ F', j ∈ (m :: (FV ++ (FT ++ FM))) ∨ H.next ≤ j) .ret ρ (G.set (H.next + 1) (.cells Cert.zero.cells 0 false 0)) := fun e ρ G F' h1 h2 h3 h4 h5 h6 h7 h8 => by
    refine end_ret (ares_cell_tmp (v := .agg Cert.zero.cells) (by rw [h5]; simp [aload, AH.get_set, take_cells, show H.next + 1 < G.next by omega])) ⟨⟨s0, hs0, ?_⟩, F', hkeep _ _ _ _ _ h1 h3 (.inr rfl), ?_, fun j hj => (h3 j hj).imp id (by omega)⟩
    · rw [if_neg h8, h6, h7]
    · exact h2.trans (Upd.set G (H.next + 1) _ (F := [H.next + 1]) (by simp)) (fun j hj => by simp at hj; subst hj; right; omega)
  repeat refine AW_seq ?_
  refine AW_regdto [0, 3, 4, 35] pl_14_1 pe_14_1 ⟨130, [(0, .p (some (m, 0, 0))), (3, .p (some (H.next, 0, 0))), (4, .p (some (H.next + 1, 0, 0))), (35, .b (vbad f c))]⟩ H1 (by kernel_rfl) (by kernel_rfl) (by decide) (fun K hk => ?_) ?_ -- region 1
  · simp [init_eq, pl_14_1, ldC]
    refine ACalls.mono (rcheck_ok H1 c) fun r G ⟨hr, e⟩ => ?_ -- hallmoot/hallmootref11.Check
    subst hr e
    refine ⟨AH.ext.refl _, ?_⟩
    cases g1 : c.ok
    · simpa [vbad, g1] using hk
    · by_cases g2 : c.kind = 0
      · simpa [vbad, g1, g2, afieldAddr, aload, x1] using hk
      · by_cases g3 : c.coin = 0#32
        · simp [g1, g2, g3, afieldAddr, aload, x1, m1]
          refine ACalls.mono (rqcheckE_ok G f c.signers) fun r G2 ⟨hr, e⟩ => ?_ -- hallmoot/hallmootref04.Check
          subst hr e
          refine ⟨AH.ext.refl _, ?_⟩
          simpa [vbad, g1, g2, g3] using hk
        · simpa [vbad, g1, g2, g3, afieldAddr, aload, x1] using hk
  refine AW_cond' rfl rfl (fun hc => ?_) (fun hc => ?_)
  · have g : vbad f c = true := hc
    have he : rverr f fr vs c = 110 := by unfold rverr; rw [if_pos g]
    repeat refine AW_seq ?_
    refine AW_reg [4, 5] fun K hK => ?_ -- region 2
    simp [init_eq, hz, astore, x2, V.cells]
    refine hK _ _ ?_; clear hK K
    exact AW_ret (hend 110 _ _ _ (by rw [if_neg (by rw [he]; decide)]; exact hR1) (u1.mono (by simp)) (fun j hj => .inl hj) (by omega) rfl rfl he (by rw [he]; simp))
  have g : vbad f c = false := hc
  have hok : c.ok = true := by
    cases h : c.ok
    · simp [vbad, h] at g
    · rfl
  have hcv : c.view ≤ 1048576 := by
    have h0 : c.kind ≠ 0 := fun e => by simp [vbad, e] at g
    have : c.base = true := by
      unfold Cert.ok at hok
      rw [if_neg h0] at hok
      split at hok
      · simp [Cert.reg] at hok; exact hok.1.1.1
      · split at hok
        · simp [Cert.fall] at hok; exact hok.1.1.1
        · cases hok
    simp [Cert.base, inR] at this
    omega
  refine AW_skip ?_
  repeat refine AW_seq ?_
  refine AW_reg [0, 3, 4, 6] fun K hK => ?_ -- region 3
  simp [init_eq, afieldAddr, aload, x1]
  refine ACalls.mono (rkept_ok H1 m1 hfr (by omega)) fun r G ⟨hr, e⟩ => ?_ -- kept
  subst hr e
  try simp
  refine hK _ _ ?_; clear hK K
  repeat refine AW_seq ?_
  refine AW_reg [0, 3, 4, 6, 42] fun K hK => ?_ -- region 4
  simp [init_eq]
  refine hK _ _ ?_; clear hK K
  refine AW_cond' rfl rfl (fun hc => ?_) (fun hc => ?_)
  · have g2 : ¬ keptE fr c.view = 0 := by simpa using hc
    have he : rverr f fr vs c = keptE fr c.view := by unfold rverr; rw [if_neg (by simp [g]), if_pos g2]
    repeat refine AW_seq ?_
    refine AW_reg [4, 5] fun K hK => ?_ -- region 5
    simp [init_eq, hz, astore, x2, V.cells]
    refine hK _ _ ?_; clear hK K
    exact AW_ret (hend _ _ _ _ (by rw [if_neg (by rw [he]; exact g2)]; exact hR1) (u1.mono (by simp)) (fun j hj => .inl hj) (by omega) rfl rfl he (by rw [he]; simp [g2]))
  have g2 : keptE fr c.view = 0 := by simpa using hc
  refine AW_skip ?_
  repeat refine AW_seq ?_
  refine AW_reg [0, 3, 4, 7, 8] fun K hK => ?_ -- region 6
  simp [init_eq, ldC]
  refine ACalls.mono (rcerts_ok G m1 hrs1 (by omega) c) fun r G' ⟨hr, e⟩ => ?_ -- certs
  subst hr e
  try simp
  refine hK _ _ ?_; clear hK K
  repeat refine AW_seq ?_
  refine AW_regto [0, 3, 4, 56] ⟨130, [(0, .p (some (m, 0, 0))), (3, .p (some (H.next, 0, 0))), (4, .p (some (H.next + 1, 0, 0))), (56, .b (!seenIn vs c && decide ((256 : Int) ≤ dn vs)))]⟩ G' (fun K hk => ?_) ?_ -- region 7
  · cases g3 : seenIn vs c
    · have g4 : ((256 : Int) ≤ dn vs) = (256 ≤ dn vs) := propext (by omega)
      simpa [init_eq, g3, g4] using hk
    · simpa [init_eq, g3] using hk
  refine AW_cond' rfl rfl (fun hc => ?_) (fun hc => ?_)
  · have g3 : seenIn vs c = false ∧ (256 : Int) ≤ dn vs := by simpa using hc
    have he : rverr f fr vs c = 101 := by unfold rverr; rw [if_neg (by simp [g]), if_neg (by simp [g2]), if_pos g3]
    repeat refine AW_seq ?_
    refine AW_reg [4, 5] fun K hK => ?_ -- region 8
    simp [init_eq, hz, astore, x2, V.cells]
    refine hK _ _ ?_; clear hK K
    exact AW_ret (hend _ _ _ _ (by rw [if_neg (by rw [he]; decide)]; exact hR1) (u1.mono (by simp)) (fun j hj => .inl hj) (by omega) rfl rfl he (by rw [he]; simp))
  have g3 : ¬ (seenIn vs c = false ∧ (256 : Int) ≤ dn vs) := by
    have := hc
    intro ⟨h1, h2⟩
    simp [h1] at this
    omega
  have he : rverr f fr vs c = 0 := by unfold rverr; rw [if_neg (by simp [g]), if_neg (by simp [g2]), if_neg g3]
  refine AW_skip ?_
  -- the vote is put behind the others
  obtain ⟨Ha, v', H4, F4, q1, q2, q3, q4, q5⟩ := (h4.upd u1 (by simp)).pushR (P := Try.prog) (f := Cert.cells) (t := 29) app_certs qelem_29 qsize_32 qzero_32 rfl rfl (by decide) (fun _ => rfl) (x := .agg c.cells) c rfl (by simp [roomOk]; omega)
  have hnd : m ∉ FV ∧ m ∉ FT ∧ m ∉ FM ∧ FT.Nodup ∧ FM.Nodup ∧ (∀ j ∈ FT, j ∉ FM) ∧ (∀ j ∈ FV, j ∉ FT) ∧ ∀ j ∈ FV, j ∉ FM := by
    simp only [List.nodup_cons, List.mem_append, not_or, List.nodup_append] at h2
    exact ⟨h2.1.1, h2.1.2.1, h2.1.2.2, h2.2.2.1.1, h2.2.2.1.2.1, fun j hj hj' => h2.2.2.1.2.2 j hj j hj' rfl, fun j hj hj' => h2.2.2.2 j hj j (.inl hj') rfl, fun j hj hj' => h2.2.2.2 j hj j (.inr hj') rfl⟩
  have m4 := q4.keep hnd.1 m1
  have hltT : ∀ j ∈ FT, j < H.next := fun j hj => hlt j (by simp [hj])
  have hltM : ∀ j ∈ FM, j < H.next := fun j hj => hlt j (by simp [hj])
  have hltV : ∀ j ∈ FV, j < H.next := fun j hj => hlt j (by simp [hj])
  have hltm := hlt m (by simp)
  have hF4 : m ∉ F4 ∧ (∀ j ∈ F4, j ∉ FT) ∧ ∀ j ∈ F4, j ∉ FM :=
    ⟨fun h => (q5 _ h).elim hnd.1 (by omega), fun j hj hj' => (q5 j hj).elim (fun h => hnd.2.2.2.2.2.2.1 j h hj') (fun h => by have := hltT j hj'; omega), fun j hj hj' => (q5 j hj).elim (fun h => hnd.2.2.2.2.2.2.2 j h hj') (fun h => by have := hltM j hj'; omega)⟩
  have hst : astore Try.prog H4 29 (.p (some (m, 0, 2))) v' = some (H4.set m (.cells [.i .i64 f, .i .i64 fr, v', tv, mv] 0 false 0)) := by simp [astore, m4, q3.cells, splice]
  have hn4 := q4.1
  have ldV : aload Try.prog G' 29 (.p (some (m, 0, 2))) = some vv := by simp [aload, m1]
  refine AW_seq ?_
  refine AW_regd [0, 3, 4] pl_14_9 pe_14_9 (by kernel_rfl) (by kernel_rfl) (by decide) fun K hK => ?_ -- region 9
  simp [init_eq, pl_14_9, afieldAddr, ldV, ldC, q1, q2, hst]
  refine ⟨bslice_ext qelem_29 qsize_32 qzero_32 rfl rfl (by decide) (by decide) rfl (xl := c.cells) rfl q1, ?_⟩
  refine hK _ _ ?_; clear hK K
  have u5 : Upd H4 (H4.set m (.cells [.i .i64 f, .i .i64 fr, v', tv, mv] 0 false 0)) [m] := Upd.set _ _ _ (by simp)
  generalize hG : H4.set m (.cells [.i .i64 f, .i .i64 fr, v', tv, mv] 0 false 0) = G at u5
  have mG : G.get m = some (.cells [.i .i64 f, .i .i64 fr, v', tv, mv] 0 false 0) := by rw [← hG, AH.get_set]; simp; omega
  clear hG
  have hRG : RAt G m (m :: (F4 ++ (FT ++ FM))) f fr (vs ++ [c]) ts ms := by
    refine ⟨v', tv, mv, F4, FT, FM, rfl, ?_, mG, q3.upd u5 fun j hj => by simp; exact fun e => hF4.1 (e ▸ hj), ((h5.upd u1 (by simp)).upd q4 fun j hj => fun h => hnd.2.2.2.2.2.2.1 j h hj).upd u5 fun j hj => by simp; exact fun e => hnd.2.1 (e ▸ hj), ((h6.upd u1 (by simp)).upd q4 fun j hj => fun h => hnd.2.2.2.2.2.2.2 j h hj).upd u5 fun j hj => by simp; exact fun e => hnd.2.2.1 (e ▸ hj)⟩
    simp only [List.nodup_cons, List.mem_append, not_or, List.nodup_append]
    exact ⟨⟨hF4.1, hnd.2.1, hnd.2.2.1⟩, own_nodup q3, ⟨hnd.2.2.2.1, hnd.2.2.2.2.1, fun a ha b hb e => hnd.2.2.2.2.2.1 a ha (e ▸ hb)⟩, fun a ha b hb e => hb.elim (fun h => hF4.2.1 a ha (e ▸ h)) (fun h => hF4.2.2 a ha (e ▸ h))⟩
  have uG : Upd H G (m :: (FV ++ (FT ++ FM))) := ((u1.mono (by simp) : Upd H G' (m :: (FV ++ (FT ++ FM)))).trans (q4.mono (fun j hj => by simp [hj]) : Upd G' H4 (m :: (FV ++ (FT ++ FM)))) (fun j hj => .inl hj)).trans (u5.mono (by simp)) (fun j hj => .inl hj)
  have nG : H.next + 2 ≤ G.next := by have := u5.1; omega
  have hFG : ∀ j ∈ (m :: (F4 ++ (FT ++ FM))), j ∈ (m :: (FV ++ (FT ++ FM))) ∨ H.next + 2 ≤ j := fun j hj => by
    simp only [List.mem_cons, List.mem_append] at hj ⊢
    rcases hj with rfl | hj | hj
    · simp
    · rcases q5 j hj with h | h
      · simp [h]
      · right; omega
    · simp [hj]
  have hF1 : H.next ∉ FV ∧ H.next + 1 ∉ FV := ⟨fun h => by have := hltV _ h; omega, fun h => by have := hltV _ h; omega⟩
  have y1 : G.get H.next = some (.cells c.cells 0 false 0) := u5.keep (by simp; omega) (q4.keep hF1.1 x1)
  have y2 : G.get (H.next + 1) = some (.cells Cert.zero.cells 0 false 0) := u5.keep (by simp; omega) (q4.keep hF1.2 x2)
  have hrsG : RS G v' 8 ((vs ++ [c]).map Cert.cells) := (q3.upd u5 fun j hj => by simp; exact fun e => hF4.1 (e ▸ hj)).rsR (by decide) fun _ => rfl
  generalize hws : vs ++ [c] = ws at *
  have hwl : ws.length ≤ 10001 := by rw [← hws]; simp; omega
  clear q1 q2 q3 q4 q5 hst u5 m4 hn4 hF4
  repeat refine AW_seq ?_
  refine AW_reg [0, 3, 4, 9] fun K hK => ?_ -- region 10
  simp [init_eq]
  refine hK _ _ ?_; clear hK K
  repeat refine AW_seq ?_
  refine AW_reg [0, 3, 4, 9, 10] fun K hK => ?_ -- region 11
  simp [init_eq]
  refine hK _ _ ?_; clear hK K
  refine AW_block ?_
  have hN : 0 ≤ qtimes 3 f ∧ qtimes 3 f ≤ 10 := by rcases qtimes3 f with h | h | h | h <;> omega
  refine AW_loopx (fun x : Nat × V => ⟨130, [(0, .p (some (m, 0, 0))), (3, .p (some (H.next, 0, 0))), (4, .p (some (H.next + 1, 0, 0))), (9, x.2), (10, .i .i64 x.1)]⟩)
    (fun x Gk => Upd G Gk [] ∧ x.1 ≤ (qtimes 3 f).toNat ∧ ∃ Fl, Own Gk x.2 1 (((List.range x.1).filter fun k => ws.any (hasV c k)).map cntC).flatten Fl ∧ ∀ j ∈ Fl, G.next ≤ j) (fun x => (qtimes 3 f).toNat - x.1) (0, .sl none 0 false) (by simp) ⟨Upd.refl .., Nat.zero_le _, [], Own.nil .., by simp⟩ fun x Gk hM => ?_ -- loop
  obtain ⟨k, lv⟩ := x
  obtain ⟨uk, hk0, Fl, ol, lF⟩ := hM
  simp only at hk0 ol ⊢
  have mk := uk.keep (by simp) mG
  have z1 := uk.keep (by simp) y1
  have z2 := uk.keep (by simp) y2
  have hrsk : RS Gk v' 8 (ws.map Cert.cells) := hrsG.same fun j hj => uk.2 j hj (by simp)
  have lw := hrsk.alen (P := Try.prog) qelem_29 Gk
  have ldW : aload Try.prog Gk 29 (.p (some (m, 0, 2))) = some v' := by simp [aload, mk]
  have ldf : aload Try.prog Gk 3 (.p (some (m, 0, 0))) = some (.i .i64 f) := by simp [aload, mk]
  have ldc : aload Try.prog Gk 32 (.p (some (H.next, 0, 0))) = some (.agg c.cells) := by simp [aload, z1, take_cells]
  repeat refine AW_seq ?_
  refine AW_reg [0, 3, 4, 9, 10, 74] fun K hK => ?_ -- region 12
  simp [init_eq, afieldAddr, ldf]
  refine ACalls.mono (rall_ok Gk f) fun r G2 ⟨hr, e⟩ => ?_ -- hallmoot/hallmootref04.All
  subst hr e
  try simp
  refine hK _ _ ?_; clear hK K
  refine AW_cond' rfl rfl (fun hc => ?_) (fun hc => ?_)
  · have hk : k < (qtimes 3 f).toNat := by
      have : (k : Int) < qtimes 3 f := by simpa using hc
      omega
    refine AW_skip ?_
    repeat refine AW_seq ?_
    refine AW_block ?_
    repeat refine AW_seq ?_
    refine AW_reg [0, 3, 4, 9, 10, 11] fun K hK => ?_ -- region 14
    simp [init_eq]
    refine hK _ _ ?_; clear hK K
    repeat refine AW_seq ?_
    refine AW_reg [0, 3, 4, 9, 10, 11, 12] fun K hK => ?_ -- region 15
    simp [init_eq]
    refine hK _ _ ?_; clear hK K
    refine AW_block ?_
    refine AW_loopx (fun i : Nat => ⟨130, [(0, .p (some (m, 0, 0))), (3, .p (some (H.next, 0, 0))), (4, .p (some (H.next + 1, 0, 0))), (9, lv), (10, .i .i64 k), (11, .b ((ws.take i).any (hasV c k))), (12, .i .i64 i)]⟩) (fun i G3 => G3 = G2 ∧ i ≤ ws.length) (fun i => ws.length - i) 0 (by simp) ⟨rfl, by simp⟩ fun i G3 hM => ?_ -- loop
    obtain ⟨rfl, hi0⟩ := hM
    repeat refine AW_seq ?_
    refine AW_reg [0, 3, 4, 9, 10, 11, 12, 83] fun K hK => ?_ -- region 16
    simp [init_eq, afieldAddr, ldW, lw]
    refine hK _ _ ?_; clear hK K
    refine AW_cond' rfl rfl (fun hc => ?_) (fun hc => ?_)
    · have hi : i < ws.length := by simpa using hc
      obtain ⟨ax, a6, px, qx, p6, q6⟩ := cert_at G3 hrsk i hi
      have hst : (ws.take (i + 1)).any (hasV c k) = ((ws.take i).any (hasV c k) || hasV c k ws[i]) := by rw [List.take_succ_eq_append_getElem hi, any_snoc]
      refine AW_skip ?_
      repeat refine AW_seq ?_
      refine AW_block ?_
      refine AW_regdto [0, 3, 4, 9, 10, 11, 12] pl_14_18 pe_14_18 ⟨130, [(0, .p (some (m, 0, 0))), (3, .p (some (H.next, 0, 0))), (4, .p (some (H.next + 1, 0, 0))), (9, lv), (10, .i .i64 k), (11, .b ((ws.take (i + 1)).any (hasV c k))), (12, .i .i64 i)]⟩ G3 (by kernel_rfl) (by kernel_rfl) (by decide) (fun K hk => ?_) ?_ -- region 18
      · rw [hst] at hk
        cases hb : (ws.take i).any (hasV c k)
        · rw [hb] at hk
          simp [init_eq, pl_14_18, afieldAddr, ldW, px, qx, ldc]
          refine ACalls.mono (rplain_ok G3 ws[i]) fun r G4 ⟨hr, e⟩ => ?_ -- hallmoot/hallmootref22.plain
          subst hr e
          refine ⟨AH.ext.refl _, ?_⟩
          try simp [init_eq, afieldAddr, ldW, px, qx, ldc]
          refine ACalls.mono (rplain_ok G4 c) fun r G5 ⟨hr, e⟩ => ?_ -- hallmoot/hallmootref22.plain
          subst hr e
          refine ⟨AH.ext.refl _, ?_⟩
          by_cases h5 : rplain ws[i] = rplain c
          · have fa2 : afieldAddr Try.prog 68 2 (.p (some (m, 0, 0))) = some (.p (some (m, 0, 2))) := by simp [afieldAddr]
            simp [cert_eql, h5, fa2, ldW, px, p6, q6]
            refine ACalls.mono (rsetHas_ok G5 ws[i].signers k) fun r G6 ⟨hr, e⟩ => ?_ -- hallmoot/hallmootref04.Has
            subst hr e
            refine ⟨AH.ext.refl _, ?_⟩
            simpa [h5, hasV] using hk
          · simpa [cert_eql, h5, hasV] using hk
        · rw [hb] at hk
          simpa [init_eq, pl_14_18] using hk
      refine bend (rend ?_)
      refine AW_reg [0, 3, 4, 9, 10, 11, 12] fun K hK => ?_ -- region 17
      simp [init_eq, wrap_id (x := (i : Int) + 1) (by omega) (by omega)]
      refine hK _ _ ?_; clear hK K
      exact rend ⟨i + 1, by simp, ⟨rfl, by omega⟩, by omega⟩ -- round's end
    · have hi : i = ws.length := by have : ¬ i < ws.length := by simpa using hc
                                    omega
      subst hi
      rw [List.take_length]
      refine AW_exit (then_exit (then_exit (block_here ?_)))
      have hw : ((List.range (k + 1)).filter fun k => ws.any (hasV c k)) = ((List.range k).filter fun k => ws.any (hasV c k)) ++ (if ws.any (hasV c k) = true then [k] else []) := by
        rw [List.range_succ, List.filter_append]
        cases h : ws.any (hasV c k) <;> simp [h]
      have hnext : ∀ (G4 : AH) (lv' : V) (Fl' : List Nat), Upd G G4 [] → Own G4 lv' 1 (((List.range (k + 1)).filter fun k => ws.any (hasV c k)).map cntC).flatten Fl' → (∀ j ∈ Fl', G.next ≤ j) → Upd G G4 [] ∧ ((k + 1, lv') : Nat × V).1 ≤ (qtimes 3 f).toNat ∧ ∃ Fl, Own G4 ((k + 1, lv') : Nat × V).2 1 (((List.range ((k + 1, lv') : Nat × V).1).filter fun k => ws.any (hasV c k)).map cntC).flatten Fl ∧ ∀ j ∈ Fl, G.next ≤ j := fun G4 lv' Fl' h1 h2 h3 => ⟨h1, (show k + 1 ≤ _ by omega), Fl', h2, h3⟩
      repeat refine AW_seq ?_
      refine AW_reg [0, 3, 4, 9, 10, 112] fun K hK => ?_ -- region 19
      simp [init_eq]
      refine hK _ _ ?_; clear hK K
      refine AW_cond' rfl rfl (fun hc => ?_) (fun hc => ?_)
      · have hb : ws.any (hasV c k) = true := hc
        obtain ⟨Hb, w', H5, F5, b1, b2, b3, b4, b5⟩ := ol.pushR (P := Try.prog) (f := cntC) (t := 95) app_ints qelem_95 qsize_3 qzero_3 rfl rfl (by decide) cntC_len (x := .i .i64 (k : Int)) k rfl (by
          have h1 := List.length_filter_le (fun k => ws.any (hasV c k)) (List.range k)
          simp at h1
          simp [roomOk]; omega)
        refine AW_reg [0, 3, 4, 9, 10] fun K hK => ?_ -- region 20
        simp [init_eq, b1, b2]
        refine hK _ _ ?_; clear hK K
        refine bend (rend ?_)
        refine AW_reg [0, 3, 4, 9, 10] fun K hK => ?_ -- region 13
        simp [init_eq, wrap_id (x := (k : Int) + 1) (by omega) (by omega)]
        refine hK _ _ ?_; clear hK K
        refine rend ⟨(k + 1, w'), by simp, hnext _ _ F5 (uk.trans b4 (fun j hj => .inr (lF j hj))) (by rw [hw, if_pos hb]; exact b3) (fun j hj => ?_), by simp; omega⟩ -- round's end
        rcases b5 j hj with h | h
        · exact lF j h
        · have := uk.1; omega
      · have hb : ws.any (hasV c k) = false := hc
        refine AW_skip ?_
        refine bend (rend ?_)
        refine AW_reg [0, 3, 4, 9, 10] fun K hK => ?_ -- region 13
        simp [init_eq, wrap_id (x := (k : Int) + 1) (by omega) (by omega)]
        refine hK _ _ ?_; clear hK K
        exact rend ⟨(k + 1, lv), by simp, hnext _ _ Fl uk (by rw [hw, hb]; simpa using ol) lF, by simp; omega⟩ -- round's end
  · have hk : k = (qtimes 3 f).toNat := by
      have : ¬ (k : Int) < qtimes 3 f := by simpa using hc
      omega
    subst hk
    have hwho : (List.range (qtimes 3 f).toNat).filter (fun k => ws.any (hasV c k)) = whoV f ws c := rfl
    rw [hwho] at ol
    have hwl2 : (whoV f ws c).length ≤ 10 := by
      have h1 := List.length_filter_le (fun k => ws.any (hasV c k)) (List.range (qtimes 3 f).toNat)
      rw [hwho] at h1
      simp at h1
      omega
    have hrl : RS G2 lv 1 ((whoV f ws c).map cntC) := ol.rsR (by decide) cntC_len
    have ll := hrl.alen (P := Try.prog) qelem_95 G2
    have u2 : Upd H G2 (m :: (FV ++ (FT ++ FM))) := uG.trans uk (by simp)
    have hR2 := hRG.upd uk (by simp)
    have n2 : H.next + 2 ≤ G2.next := by have := uk.1; omega
    have hzz : H.next + 1 < G2.next := by omega
    refine AW_exit (then_exit (then_exit (block_here ?_)))
    repeat refine AW_seq ?_
    refine AW_reg [3, 4, 9, 124] fun K hK => ?_ -- region 21
    simp [init_eq, ll, afieldAddr, ldf]
    refine ACalls.mono (rquorum_ok G2 f) fun r G3 ⟨hr, e⟩ => ?_ -- hallmoot/hallmootref04.Quorum
    subst hr e
    try simp
    refine hK _ _ ?_; clear hK K
    refine AW_cond' rfl rfl (fun hc => ?_) (fun hc => ?_)
    · have g4 : ((whoV f ws c).length : Int) < qtimes 2 f := by simpa using hc
      repeat refine AW_seq ?_
      refine AW_reg [4, 5] fun K hK => ?_ -- region 22
      simp [init_eq, hz, astore, z2, V.cells]
      refine hK _ _ ?_; clear hK K
      exact AW_ret (hend 0 _ _ _ (by rw [if_pos he]; exact hR2) u2 hFG n2 rfl rfl he (fun h => by have := h.2; omega))
    · have g4 : qtimes 2 f ≤ (whoV f ws c).length := by
        have : ¬ ((whoV f ws c).length : Int) < qtimes 2 f := by simpa using hc
        omega
      refine AW_skip ?_
      repeat refine AW_seq ?_
      refine AW_reg [3, 4] fun K hK => ?_ -- region 23
      simp [init_eq]
      refine ACalls.mono (rof_ok G3 hrl (by omega)) fun r G4 ⟨⟨s, hr, hs⟩, e⟩ => ?_ -- hallmoot/hallmootref04.Of
      subst hr e
      simp [afieldAddr, astore, z1, show V.cells (u32 s) = some [u32 s] from rfl]
      refine hK _ _ ?_; clear hK K
      generalize hG5 : G4.set H.next _ = G5
      have w1 : G5.get H.next = some (.cells { c with signers := s }.cells 0 false 0) := by rw [← hG5]; simp [AH.get_set]; omega
      have w2 : G5.get (H.next + 1) = some (.cells Cert.zero.cells 0 false 0) := by rw [← hG5]; simp [AH.get_set, z2]
      have hR5 : RAt G5 m (m :: (F4 ++ (FT ++ FM))) f fr ws ts ms := by rw [← hG5]; exact hkeep _ _ _ _ _ hR2 hFG (.inl rfl)
      have u5 : Upd H G5 (m :: (FV ++ (FT ++ FM))) := by
        rw [← hG5]
        exact u2.trans (Upd.set G4 H.next _ (F := [H.next]) (by simp)) (fun j hj => by simp at hj; subst hj; right; omega)
      have n5 : G5.next = G4.next := by rw [← hG5]; simp
      clear hG5
      repeat refine AW_seq ?_
      refine AW_reg [4, 5] fun K hK => ?_ -- region 24
      simp [init_eq, aload, w1, astore, w2, V.cells, take_cells]
      refine hK _ _ ?_; clear hK K
      refine AW_ret (end_ret (ares_cell_tmp (v := .agg { c with signers := s }.cells) ?_) ⟨⟨s, hs, ?_⟩, _, ?_, ?_, fun j hj => (hFG j hj).imp id (by omega)⟩)
      · simp [aload, AH.get_set, take_cells, show H.next + 1 < G5.next by omega]
      · rw [if_pos ⟨he, g4⟩, he]; rfl
      · rw [if_pos he]; exact hkeep _ _ _ _ _ hR5 hFG (.inr rfl)
      · exact u5.trans (Upd.set G5 (H.next + 1) _ (F := [H.next + 1]) (by simp)) (fun j hj => by simp at hj; subst hj; right; omega)
end Go.Proofs.Ytdioggohbfgnfaa
