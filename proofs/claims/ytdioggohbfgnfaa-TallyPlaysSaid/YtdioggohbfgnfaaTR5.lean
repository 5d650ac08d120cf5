/-
  The document's tally: Timeout.
-/
import Derived.Test.YtdioggohbfgnfaaTR4
set_option linter.unusedVariables false
set_option linter.unusedSimpArgs false
namespace Go.Proofs.Ytdioggohbfgnfaa
open Go Go.Abs Go.Proofs
set_option maxRecDepth 100000
attribute [local irreducible] AEnd AW ACalls

theorem app_tmos : App Try.prog 50 50 10 72 := App.mk' qelem_50 qsize_34 qbytes_34 qzero_34 qsrc_50 rfl (by decide)
def tbad (f : Int) (x : Tmo) : Bool := !replB f x.signer || decide (x.view < 1) || decide (1048576 < x.view)
def sameT (x y : Tmo) : Bool := decide (y.view = x.view) && decide (y.signer = x.signer)
def terr (f fr : Int) (ts : List Tmo) (x : Tmo) : Int := if tbad f x = true then 121 else if keptE fr x.view ≠ 0 then keptE fr x.view else if ts.any (sameT x) = true then 100 else 0
def selT (view : Int) (k : Nat) (t : Tmo) : Bool := decide (t.view = view) && decide (t.signer = (k : Int))
/-- The timeouts of a view, by signers. -/
def tallTo (ts : List Tmo) (view : Int) (n : Nat) : List Tmo := (List.range n).flatMap fun k => ts.filter (selT view k)
def tall (f : Int) (ts : List Tmo) (view : Int) : List Tmo := tallTo ts view (qtimes 3 f).toNat
theorem tallTo_succ (ts : List Tmo) (view : Int) (n : Nat) : tallTo ts view (n + 1) = tallTo ts view n ++ ts.filter (selT view n) := by
  unfold tallTo; rw [List.range_succ, List.flatMap_append]; simp
theorem tallTo_len (ts : List Tmo) (view : Int) (n : Nat) : (tallTo ts view n).length ≤ n * ts.length := by
  induction n with
  | zero => simp [tallTo]
  | succ n ih =>
    rw [tallTo_succ, List.length_append, Nat.succ_mul]
    have := List.length_filter_le (selT view n) ts
    omega
theorem tmo_at (G : AH) {tv : V} {ts : List Tmo} (h : RS G tv 10 (ts.map Tmo.cells)) (i : Nat) (hi : i < ts.length) :
    ∃ ax a0 a1, aindexAddr Try.prog 50 tv (.i .i64 i) = some ax ∧ aload Try.prog G 34 ax = some (.agg ts[i].cells) ∧ afieldAddr Try.prog 34 0 ax = some a0 ∧ aload Try.prog G 3 a0 = some (.i .i64 ts[i].signer) ∧
      afieldAddr Try.prog 34 1 ax = some a1 ∧ aload Try.prog G 3 a1 = some (.i .i64 ts[i].view) := by
  obtain ⟨ax, h1, h2⟩ := h.at (P := Try.prog) (t := 50) (by decide) qelem_50 qsize_34 (k := .i64) i (l := ts[i].cells) (by simp [hi])
  obtain ⟨a0, h3, h4⟩ := h2.fld (P := Try.prog) (t := 34) (ft := 3) (f := 0) (o := 0) (b := false) (x := .i .i64 ts[i].signer) (by simp) qagg_3 qsize_3 (by simp)
  obtain ⟨a1, h5, h6⟩ := h2.fld (P := Try.prog) (t := 34) (ft := 3) (f := 1) (o := 1) (b := false) (x := .i .i64 ts[i].view) (by simp) qagg_3 qsize_3 (by simp)
  exact ⟨ax, a0, a1, h1, h2.load qagg_34 (by simp), h3, h4, h5, h6⟩
theorem rtimeout_ok (H : AH) {m : Nat} {F : List Nat} {f fr : Int} {vs : List Cert} {ts : List Tmo} {ms : List Mrk} (hR : RAt H m F f fr vs ts ms) (hfr : 1 ≤ fr) (hl : ts.length ≤ 10000) (x : Tmo) :
    ACalls Try.prog 16 [.p (some (m, 0, 0)), .agg x.cells] H fun r H' =>
      (∃ lv, r = .tup [lv, .i .i64 (terr f fr ts x)] ∧ RS H' lv 10 ((if terr f fr ts x = 0 ∧ qtimes 2 f ≤ (tall f (ts ++ [x]) x.view).length then tall f (ts ++ [x]) x.view else []).map Tmo.cells)) ∧
      ∃ F', RAt H' m F' f fr vs (if terr f fr ts x = 0 then ts ++ [x] else ts) ms ∧ Upd H H' F ∧ ∀ j ∈ F', j ∈ F ∨ H.next ≤ j := by
  have hRR := hR
  obtain ⟨vv, tv, mv, FV, FT, FM, rfl, h2, h3, h4, h5, h6⟩ := hR
  have hR : RAt H m (m :: (FV ++ (FT ++ FM))) f fr vs ts ms := hRR
  refine ACalls_body Try.func16 rfl rfl ?_
  repeat refine AW_seq ?_
  refine AW_reg [0, 3] fun K hK => ?_ -- region 0
  simp [init_eq, V.cells]
  generalize hH1 : H.new (.cells x.cells 0 false 0) = H1
  have x1 : H1.get H.next = some (.cells x.cells 0 false 0) := by rw [← hH1]; simp [AH.get_new]
  have n1 : H1.next = H.next + 1 := by rw [← hH1]; simp
  have o1 : ∀ j, j < H.next → H1.get j = H.get j := fun j hj => by rw [← hH1, AH.get_new, if_neg (by omega)]
  clear hH1
  refine hK _ _ ?_; clear hK K
  have u1 : Upd H H1 [] := ⟨by omega, fun j hj _ => o1 j hj⟩
  have hR1 := hR.upd u1 (by simp)
  have m1 := (o1 m (AH.get_lt h3)).trans h3
  have hrs1 : RS H1 tv 10 (ts.map Tmo.cells) := (h5.rsR (by decide) fun _ => rfl).same o1
  have ldX : aload Try.prog H1 34 (.p (some (H.next, 0, 0))) = some (.agg x.cells) := by simp [aload, x1, tmo_take]
  have hlt := hR.lt
  -- ends that tell of nothing
  have hend : ∀ (e : Int) (ρ : Env) (G : AH) (F' : List Nat), RAt G m F' f fr vs (if terr f fr ts x = 0 then ts ++ [x] else ts) ms → Upd H G (m :: (FV ++ (FT ++ FM))) → (∀ j ∈ F', j ∈ (m :: (FV ++ (FT ++ FM))) ∨ H.next ≤ j) → ρ.get 4 = .sl none 0 false → ρ.get 5 = .i .i64 e →
      terr f fr ts x = e → (¬ (terr f fr ts x = 0 ∧ qtimes 2 f ≤ (tall f (ts ++ [x]) x.view).length)) →
      AEnd Try.prog Try.f16 (fun r H' => (∃ lv, r = .tup [lv, .i .i64 (terr f fr ts x)] ∧ RS H' lv 10 ((if terr f fr ts x = 0 ∧ qtimes 2 f ≤ (tall f (ts ++ [x]) x.view).length then tall f (ts ++ [x]) x.view else []).map Tmo.cells)) ∧
      ∃ F', RAt H' m F' f fr vs (if terr f fr ts x = 0 then ts ++ [x] else ts) ms ∧ Upd H H' (m :: (FV ++ (FT ++ FM))) ∧ ∀ j ∈ F', j ∈ (m :: (FV ++ (FT ++ FM))) ∨ H.next ≤ j) .ret ρ G := fun e ρ G F' h1 h2 h3 h5 h6 h7 h8 => by
    refine end_ret (r := .tup [.sl none 0 false, .i .i64 e]) (by simp [ares1, ares, h5, h6]) ⟨⟨.sl none 0 false, by rw [h7], ?_⟩, F', h1, h2, h3⟩
    rw [if_neg h8]; exact RS.nil ..
  repeat refine AW_seq ?_
  refine AW_regto [0, 3, 25] ⟨136, [(0, .p (some (m, 0, 0))), (3, .p (some (H.next, 0, 0))), (25, .b (tbad f x))]⟩ H1 (fun K hk => ?_) ?_ -- region 1
  · simp [init_eq, afieldAddr, aload, x1]
    refine ACalls.mono (rrepl_ok H1 m1 x.signer) fun r G ⟨hr, e⟩ => ?_ -- replica
    subst hr e
    cases g1 : replB f x.signer
    · simpa [tbad, g1] using hk
    · by_cases g2 : x.view < 1
      · simpa [tbad, g1, g2, afieldAddr, aload, x1] using hk
      · simpa [tbad, g1, g2, afieldAddr, aload, x1] using hk
  refine AW_cond' rfl rfl (fun hc => ?_) (fun hc => ?_)
  · have g : tbad f x = true := hc
    have he : terr f fr ts x = 121 := by unfold terr; rw [if_pos g]
    repeat refine AW_seq ?_
    refine AW_reg [4, 5] fun K hK => ?_ -- region 2
    simp [init_eq]
    refine hK _ _ ?_; clear hK K
    exact AW_ret (hend 121 _ _ _ (by rw [if_neg (by rw [he]; decide)]; exact hR1) (u1.mono (by simp)) (fun j hj => .inl hj) rfl rfl he (by rw [he]; simp))
  have g : tbad f x = false := hc
  have hxv : x.view ≤ 1048576 := by
    unfold tbad at g
    simp only [Bool.or_eq_false_iff, decide_eq_false_iff_not] at g
    omega
  refine AW_skip ?_
  repeat refine AW_seq ?_
  refine AW_reg [0, 3, 6] fun K hK => ?_ -- region 3
  simp [init_eq, afieldAddr, aload, x1]
  refine ACalls.mono (rkept_ok H1 m1 hfr (by omega)) fun r G ⟨hr, e⟩ => ?_ -- kept
  subst hr e
  try simp
  refine hK _ _ ?_; clear hK K
  repeat refine AW_seq ?_
  refine AW_reg [0, 3, 6, 31] fun K hK => ?_ -- region 4
  simp [init_eq]
  refine hK _ _ ?_; clear hK K
  refine AW_cond' rfl rfl (fun hc => ?_) (fun hc => ?_)
  · have g2 : ¬ keptE fr x.view = 0 := by simpa using hc
    have he : terr f fr ts x = keptE fr x.view := by unfold terr; rw [if_neg (by simp [g]), if_pos g2]
    repeat refine AW_seq ?_
    refine AW_reg [4, 5] fun K hK => ?_ -- region 5
    simp [init_eq]
    refine hK _ _ ?_; clear hK K
    exact AW_ret (hend _ _ _ _ (by rw [if_neg (by rw [he]; exact g2)]; exact hR1) (u1.mono (by simp)) (fun j hj => .inl hj) rfl rfl he (by rw [he]; simp [g2]))
  have g2 : keptE fr x.view = 0 := by simpa using hc
  refine AW_skip ?_
  have lx := hrs1.alen (P := Try.prog) qelem_50 G
  have fa3 : afieldAddr Try.prog 68 3 (.p (some (m, 0, 0))) = some (.p (some (m, 0, 3))) := by simp [afieldAddr]
  have fx0 : afieldAddr Try.prog 34 0 (.p (some (H.next, 0, 0))) = some (.p (some (H.next, 0, 0))) := by simp [afieldAddr]
  have fx1 : afieldAddr Try.prog 34 1 (.p (some (H.next, 0, 0))) = some (.p (some (H.next, 0, 1))) := by simp [afieldAddr]
  have ldT : aload Try.prog G 50 (.p (some (m, 0, 3))) = some tv := by simp [aload, m1]
  have ldx0 : ∀ G' : AH, G'.get H.next = some (.cells x.cells 0 false 0) → aload Try.prog G' 3 (.p (some (H.next, 0, 0))) = some (.i .i64 x.signer) := fun G' h => by simp [aload, h]
  have ldx1 : ∀ G' : AH, G'.get H.next = some (.cells x.cells 0 false 0) → aload Try.prog G' 3 (.p (some (H.next, 0, 1))) = some (.i .i64 x.view) := fun G' h => by simp [aload, h]
  repeat refine AW_seq ?_
  refine AW_reg [0, 3, 7] fun K hK => ?_ -- region 6
  simp [init_eq]
  refine hK _ _ ?_; clear hK K
  refine AW_block ?_
  refine AW_loopx (fun i : Nat => ⟨136, [(0, .p (some (m, 0, 0))), (3, .p (some (H.next, 0, 0))), (7, .i .i64 i)]⟩) (fun i G' => G' = G ∧ i ≤ ts.length ∧ (ts.take i).any (sameT x) = false) (fun i => ts.length - i) 0 (by simp) ⟨rfl, by simp, by simp⟩ fun i G' hM => ?_ -- loop
  obtain ⟨rfl, hi0, hno⟩ := hM
  repeat refine AW_seq ?_
  refine AW_reg [0, 3, 7, 39] fun K hK => ?_ -- region 7
  simp [init_eq, fa3, ldT, lx]
  refine hK _ _ ?_; clear hK K
  refine AW_cond' rfl rfl (fun hc => ?_) (fun hc => ?_)
  · have hi : i < ts.length := by simpa using hc
    obtain ⟨ax, a0, a1, px, qx, p0, q0, p1, q1⟩ := tmo_at G' hrs1 i hi
    refine AW_skip ?_
    repeat refine AW_seq ?_
    refine AW_block ?_
    repeat refine AW_seq ?_
    refine AW_regdto [0, 3, 7, 65] pl_16_9 pe_16_9 ⟨136, [(0, .p (some (m, 0, 0))), (3, .p (some (H.next, 0, 0))), (7, .i .i64 i), (65, .b (sameT x ts[i]))]⟩ G' (by kernel_rfl) (by kernel_rfl) (by decide) (fun K hk => ?_) ?_ -- region 9
    · by_cases g5 : ts[i].view = x.view
      · simpa [init_eq, pl_16_9, fa3, ldT, px, p1, q1, fx1, ldx1 G' x1, g5, p0, q0, fx0, ldx0 G' x1, sameT] using hk
      · simpa [init_eq, pl_16_9, fa3, ldT, px, p1, q1, fx1, ldx1 G' x1, g5, sameT] using hk
    refine AW_cond' rfl rfl (fun hc => ?_) (fun hc => ?_)
    · have g6 : ts.any (sameT x) = true := List.any_eq_true.2 ⟨ts[i], List.getElem_mem hi, hc⟩
      have he : terr f fr ts x = 100 := by unfold terr; rw [if_neg (by simp [g]), if_neg (by simp [g2]), if_pos g6]
      repeat refine AW_seq ?_
      refine AW_reg [4, 5] fun K hK => ?_ -- region 10
      simp [init_eq]
      refine hK _ _ ?_; clear hK K
      exact AW_ret (hend _ _ _ _ (by rw [if_neg (by rw [he]; decide)]; exact hR1) (u1.mono (by simp)) (fun j hj => .inl hj) rfl rfl he (by rw [he]; simp))
    · have g6 : sameT x ts[i] = false := hc
      refine AW_skip ?_
      refine bend (rend ?_)
      refine AW_reg [0, 3, 7] fun K hK => ?_ -- region 8
      simp [init_eq, wrap_id (x := (i : Int) + 1) (by omega) (by omega)]
      refine hK _ _ ?_; clear hK K
      exact rend ⟨i + 1, by simp, ⟨rfl, by omega, by rw [List.take_succ_eq_append_getElem hi, any_snoc, hno, g6]; rfl⟩, by omega⟩ -- round's end
  have hi : i = ts.length := by have : ¬ i < ts.length := by simpa using hc
                                omega
  subst hi
  rw [List.take_length] at hno
  have he : terr f fr ts x = 0 := by unfold terr; rw [if_neg (by simp [g]), if_neg (by simp [g2]), if_neg (by simp [hno])]
  refine AW_exit (then_exit (then_exit (block_here ?_)))
  -- the timeout is put behind the others
  obtain ⟨Ha, v', H4, F4, q1, q2, q3, q4, q5⟩ := (h5.upd u1 (by simp)).pushR (P := Try.prog) (f := Tmo.cells) (t := 50) app_tmos qelem_50 qsize_34 qzero_34 rfl rfl (by decide) (fun _ => rfl) (x := .agg x.cells) x rfl (by simp [roomOk]; omega)
  have hnd : m ∉ FV ∧ m ∉ FT ∧ m ∉ FM ∧ FV.Nodup ∧ FM.Nodup ∧ (∀ j ∈ FT, j ∉ FM) ∧ (∀ j ∈ FV, j ∉ FT) ∧ ∀ j ∈ FV, j ∉ FM := by
    simp only [List.nodup_cons, List.mem_append, not_or, List.nodup_append] at h2
    exact ⟨h2.1.1, h2.1.2.1, h2.1.2.2, h2.2.1, h2.2.2.1.2.1, fun j hj hj' => h2.2.2.1.2.2 j hj j hj' rfl, fun j hj hj' => h2.2.2.2 j hj j (.inl hj') rfl, fun j hj hj' => h2.2.2.2 j hj j (.inr hj') rfl⟩
  have m4 := q4.keep hnd.2.1 m1
  have hltT : ∀ j ∈ FT, j < H.next := fun j hj => hlt j (by simp [hj])
  have hltM : ∀ j ∈ FM, j < H.next := fun j hj => hlt j (by simp [hj])
  have hltV : ∀ j ∈ FV, j < H.next := fun j hj => hlt j (by simp [hj])
  have hltm := hlt m (by simp)
  have hF4 : m ∉ F4 ∧ (∀ j ∈ F4, j ∉ FV) ∧ ∀ j ∈ F4, j ∉ FM :=
    ⟨fun h => (q5 _ h).elim hnd.2.1 (by omega), fun j hj hj' => (q5 j hj).elim (fun h => hnd.2.2.2.2.2.2.1 j hj' h) (fun h => by have := hltV j hj'; omega), fun j hj hj' => (q5 j hj).elim (fun h => hnd.2.2.2.2.2.1 j h hj') (fun h => by have := hltM j hj'; omega)⟩
  have hst : astore Try.prog H4 50 (.p (some (m, 0, 3))) v' = some (H4.set m (.cells [.i .i64 f, .i .i64 fr, vv, v', mv] 0 false 0)) := by simp [astore, m4, q3.cells, splice]
  have hn4 := q4.1
  refine AW_seq ?_
  refine AW_regd [0, 3] pl_16_11 pe_16_11 (by kernel_rfl) (by kernel_rfl) (by decide) fun K hK => ?_ -- region 11
  simp [init_eq, pl_16_11, fa3, ldT, ldX, q1, q2, hst]
  refine ⟨bslice_ext qelem_50 qsize_34 qzero_34 rfl rfl (by decide) (by decide) rfl (xl := x.cells) rfl q1, ?_⟩
  refine hK _ _ ?_; clear hK K
  have u5 : Upd H4 (H4.set m (.cells [.i .i64 f, .i .i64 fr, vv, v', mv] 0 false 0)) [m] := Upd.set _ _ _ (by simp)
  generalize hG : H4.set m (.cells [.i .i64 f, .i .i64 fr, vv, v', mv] 0 false 0) = G at u5
  have mG : G.get m = some (.cells [.i .i64 f, .i .i64 fr, vv, v', mv] 0 false 0) := by rw [← hG, AH.get_set]; simp; omega
  clear hG
  have hRG : RAt G m (m :: (FV ++ (F4 ++ FM))) f fr vs (ts ++ [x]) ms := by
    refine ⟨vv, v', mv, FV, F4, FM, rfl, ?_, mG, ((h4.upd u1 (by simp)).upd q4 fun j hj => fun h => hnd.2.2.2.2.2.2.1 j hj h).upd u5 fun j hj => by simp; exact fun e => hnd.1 (e ▸ hj), q3.upd u5 fun j hj => by simp; exact fun e => hF4.1 (e ▸ hj), ((h6.upd u1 (by simp)).upd q4 fun j hj => fun h => hnd.2.2.2.2.2.1 j h hj).upd u5 fun j hj => by simp; exact fun e => hnd.2.2.1 (e ▸ hj)⟩
    simp only [List.nodup_cons, List.mem_append, not_or, List.nodup_append]
    exact ⟨⟨hnd.1, hF4.1, hnd.2.2.1⟩, hnd.2.2.2.1, ⟨own_nodup q3, hnd.2.2.2.2.1, fun a ha b hb e => hF4.2.2 a ha (e ▸ hb)⟩, fun a ha b hb e => hb.elim (fun h => hF4.2.1 b h (e ▸ ha)) (fun h => hnd.2.2.2.2.2.2.2 a ha (e ▸ h))⟩
  have uG : Upd H G (m :: (FV ++ (FT ++ FM))) := ((u1.mono (by simp) : Upd H G' (m :: (FV ++ (FT ++ FM)))).trans (q4.mono (fun j hj => by simp [hj]) : Upd G' H4 (m :: (FV ++ (FT ++ FM)))) (fun j hj => .inl hj)).trans (u5.mono (by simp)) (fun j hj => .inl hj)
  have nG : H.next + 1 ≤ G.next := by have := u5.1; omega
  have hFG : ∀ j ∈ (m :: (FV ++ (F4 ++ FM))), j ∈ (m :: (FV ++ (FT ++ FM))) ∨ H.next ≤ j := fun j hj => by
    simp only [List.mem_cons, List.mem_append] at hj ⊢
    rcases hj with rfl | hj | hj | hj
    · simp
    · simp [hj]
    · rcases q5 j hj with h | h
      · simp [h]
      · right; omega
    · simp [hj]
  have y1 : G.get H.next = some (.cells x.cells 0 false 0) := u5.keep (by simp; omega) (q4.keep (fun h => by have := hltT _ h; omega) x1)
  have hrsG : RS G v' 10 ((ts ++ [x]).map Tmo.cells) := (q3.upd u5 fun j hj => by simp; exact fun e => hF4.1 (e ▸ hj)).rsR (by decide) fun _ => rfl
  generalize hws : ts ++ [x] = ws at *
  have hwl : ws.length ≤ 10001 := by rw [← hws]; simp; omega
  clear q1 q2 q3 q4 q5 hst u5 m4 hn4 hF4
  repeat refine AW_seq ?_
  refine AW_reg [0, 3, 8] fun K hK => ?_ -- region 12
  simp [init_eq]
  refine hK _ _ ?_; clear hK K
  repeat refine AW_seq ?_
  refine AW_reg [0, 3, 8, 9] fun K hK => ?_ -- region 13
  simp [init_eq]
  refine hK _ _ ?_; clear hK K
  refine AW_block ?_
  have hN : 0 ≤ qtimes 3 f ∧ qtimes 3 f ≤ 10 := by rcases qtimes3 f with h | h | h | h <;> omega
  refine AW_loopx (fun y : Nat × V => ⟨136, [(0, .p (some (m, 0, 0))), (3, .p (some (H.next, 0, 0))), (8, y.2), (9, .i .i64 y.1)]⟩)
    (fun y Gk => Upd G Gk [] ∧ y.1 ≤ (qtimes 3 f).toNat ∧ ∃ Fl, Own Gk y.2 10 ((tallTo ws x.view y.1).map Tmo.cells).flatten Fl ∧ ∀ j ∈ Fl, G.next ≤ j) (fun y => (qtimes 3 f).toNat - y.1) (0, .sl none 0 false) (by simp) ⟨Upd.refl .., Nat.zero_le _, [], by simpa [tallTo] using Own.nil .., by simp⟩ fun y Gk hM => ?_ -- loop
  obtain ⟨k, lv⟩ := y
  obtain ⟨uk, hk0, Fl, ol, lF⟩ := hM
  simp only at hk0 ol ⊢
  have mk := uk.keep (by simp) mG
  have ldf : aload Try.prog Gk 3 (.p (some (m, 0, 0))) = some (.i .i64 f) := by simp [aload, mk]
  repeat refine AW_seq ?_
  refine AW_reg [0, 3, 8, 9, 82] fun K hK => ?_ -- region 14
  simp [init_eq, afieldAddr, ldf]
  refine ACalls.mono (rall_ok Gk f) fun r G2 ⟨hr, e⟩ => ?_ -- hallmoot/hallmootref04.All
  subst hr e
  try simp
  refine hK _ _ ?_; clear hK K
  refine AW_cond' rfl rfl (fun hc => ?_) (fun hc => ?_)
  · have hk : k < (qtimes 3 f).toNat := by
      have : (k : Int) < qtimes 3 f := by simpa using hc
      omega
    have hkl := tallTo_len ws x.view k
    have hkl2 : (tallTo ws x.view k).length ≤ 10 * 10001 := Nat.le_trans hkl (Nat.mul_le_mul (by omega) hwl)
    refine AW_skip ?_
    repeat refine AW_seq ?_
    refine AW_block ?_
    repeat refine AW_seq ?_
    refine AW_reg [0, 3, 8, 9, 10] fun K hK => ?_ -- region 16
    simp [init_eq]
    refine hK _ _ ?_; clear hK K
    refine AW_block ?_
    refine AW_loopx (fun y : Nat × V => ⟨136, [(0, .p (some (m, 0, 0))), (3, .p (some (H.next, 0, 0))), (8, y.2), (9, .i .i64 k), (10, .i .i64 y.1)]⟩)
      (fun y G3 => Upd G G3 [] ∧ y.1 ≤ ws.length ∧ ∃ Fl, Own G3 y.2 10 ((tallTo ws x.view k ++ (ws.take y.1).filter (selT x.view k)).map Tmo.cells).flatten Fl ∧ ∀ j ∈ Fl, G.next ≤ j) (fun y => ws.length - y.1) (0, lv) (by simp) ⟨uk, Nat.zero_le _, Fl, by simpa using ol, lF⟩ fun y G3 hM => ?_ -- loop
    obtain ⟨i, lw⟩ := y
    obtain ⟨u3, hi0, Fm, om, lM⟩ := hM
    simp only at hi0 om ⊢
    have mk3 := u3.keep (by simp) mG
    have z3 := u3.keep (by simp) y1
    have hrs3 : RS G3 v' 10 (ws.map Tmo.cells) := hrsG.same fun j hj => u3.2 j hj (by simp)
    have lw3 := hrs3.alen (P := Try.prog) qelem_50 G3
    have ldW : aload Try.prog G3 50 (.p (some (m, 0, 3))) = some v' := by simp [aload, mk3]
    repeat refine AW_seq ?_
    refine AW_reg [0, 3, 8, 9, 10, 91] fun K hK => ?_ -- region 17
    simp [init_eq, fa3, ldW, lw3]
    refine hK _ _ ?_; clear hK K
    refine AW_cond' rfl rfl (fun hc => ?_) (fun hc => ?_)
    · have hi : i < ws.length := by simpa using hc
      obtain ⟨ax, a0, a1, px, qx, p0, q0, p1, q1⟩ := tmo_at G3 hrs3 i hi
      have hst : (ws.take (i + 1)).filter (selT x.view k) = (ws.take i).filter (selT x.view k) ++ (if selT x.view k ws[i] = true then [ws[i]] else []) := by
        rw [List.take_succ_eq_append_getElem hi, List.filter_append]
        cases h : selT x.view k ws[i] <;> simp [h]
      refine AW_skip ?_
      repeat refine AW_seq ?_
      refine AW_block ?_
      repeat refine AW_seq ?_
      refine AW_regdto [0, 3, 8, 9, 10, 116] pl_16_19 pe_16_19 ⟨136, [(0, .p (some (m, 0, 0))), (3, .p (some (H.next, 0, 0))), (8, lw), (9, .i .i64 k), (10, .i .i64 i), (116, .b (selT x.view k ws[i]))]⟩ G3 (by kernel_rfl) (by kernel_rfl) (by decide) (fun K hk => ?_) ?_ -- region 19
      · by_cases g5 : ws[i].view = x.view
        · simpa [init_eq, pl_16_19, fa3, ldW, px, p1, q1, fx1, ldx1 G3 z3, g5, p0, q0, selT] using hk
        · simpa [init_eq, pl_16_19, fa3, ldW, px, p1, q1, fx1, ldx1 G3 z3, g5, selT] using hk
      refine AW_cond' rfl rfl (fun hc => ?_) (fun hc => ?_)
      · have g6 : selT x.view k ws[i] = true := hc
        obtain ⟨Hb, w', H5, F5, b1, b2, b3, b4, b5⟩ := om.pushR (P := Try.prog) (f := Tmo.cells) (t := 50) app_tmos qelem_50 qsize_34 qzero_34 rfl rfl (by decide) (fun _ => rfl) (x := .agg ws[i].cells) ws[i] rfl (by
          have h1 := List.length_filter_le (selT x.view k) (ws.take i)
          simp at h1
          simp [roomOk]; omega)
        refine AW_reg [0, 3, 8, 9, 10] fun K hK => ?_ -- region 20
        simp [init_eq, fa3, ldW, px, qx, b1, b2]
        refine hK _ _ ?_; clear hK K
        refine bend (rend ?_)
        refine AW_reg [0, 3, 8, 9, 10] fun K hK => ?_ -- region 18
        simp [init_eq, wrap_id (x := (i : Int) + 1) (by omega) (by omega)]
        refine hK _ _ ?_; clear hK K
        refine rend ⟨(i + 1, w'), by simp, ⟨u3.trans b4 (fun j hj => .inr (lM j hj)), (show i + 1 ≤ ws.length by omega), F5, by rw [hst, if_pos g6, ← List.append_assoc]; exact b3, fun j hj => ?_⟩, by simp; omega⟩ -- round's end
        rcases b5 j hj with h | h
        · exact lM j h
        · have := u3.1; omega
      · have g6 : selT x.view k ws[i] = false := hc
        refine AW_skip ?_
        refine bend (rend ?_)
        refine AW_reg [0, 3, 8, 9, 10] fun K hK => ?_ -- region 18
        simp [init_eq, wrap_id (x := (i : Int) + 1) (by omega) (by omega)]
        refine hK _ _ ?_; clear hK K
        exact rend ⟨(i + 1, lw), by simp, ⟨u3, (show i + 1 ≤ ws.length by omega), Fm, by rw [hst, g6]; simpa using om, lM⟩, by simp; omega⟩ -- round's end
    · have hi : i = ws.length := by have : ¬ i < ws.length := by simpa using hc
                                    omega
      subst hi
      rw [List.take_length, ← tallTo_succ] at om
      refine AW_exit (then_exit (then_exit (block_here ?_)))
      refine bend (rend ?_)
      refine AW_reg [0, 3, 8, 9] fun K hK => ?_ -- region 15
      simp [init_eq, wrap_id (x := (k : Int) + 1) (by omega) (by omega)]
      refine hK _ _ ?_; clear hK K
      exact rend ⟨(k + 1, lw), by simp, ⟨u3, (show k + 1 ≤ _ by omega), Fm, om, lM⟩, by simp; omega⟩ -- round's end
  · have hk : k = (qtimes 3 f).toNat := by
      have : ¬ (k : Int) < qtimes 3 f := by simpa using hc
      omega
    subst hk
    have ht : tallTo ws x.view (qtimes 3 f).toNat = tall f ws x.view := rfl
    rw [ht] at ol
    have hrl : RS G2 lv 10 ((tall f ws x.view).map Tmo.cells) := ol.rsR (by decide) fun _ => rfl
    have ll := hrl.alen (P := Try.prog) qelem_50 G2
    have u2 : Upd H G2 (m :: (FV ++ (FT ++ FM))) := uG.trans uk (by simp)
    have hR2 := hRG.upd uk (by simp)
    refine AW_exit (then_exit (then_exit (block_here ?_)))
    repeat refine AW_seq ?_
    refine AW_reg [8, 134] fun K hK => ?_ -- region 21
    simp [init_eq, ll, afieldAddr, ldf]
    refine ACalls.mono (rquorum_ok G2 f) fun r G3 ⟨hr, e⟩ => ?_ -- hallmoot/hallmootref04.Quorum
    subst hr e
    try simp
    refine hK _ _ ?_; clear hK K
    refine AW_cond' rfl rfl (fun hc => ?_) (fun hc => ?_)
    · have g4 : ((tall f ws x.view).length : Int) < qtimes 2 f := by simpa using hc
      repeat refine AW_seq ?_
      refine AW_reg [4, 5] fun K hK => ?_ -- region 22
      simp [init_eq]
      refine hK _ _ ?_; clear hK K
      exact AW_ret (hend 0 _ _ _ (by rw [if_pos he]; exact hR2) u2 hFG rfl rfl he (fun h => by have := h.2; omega))
    · have g4 : qtimes 2 f ≤ (tall f ws x.view).length := by
        have : ¬ ((tall f ws x.view).length : Int) < qtimes 2 f := by simpa using hc
        omega
      refine AW_skip ?_
      repeat refine AW_seq ?_
      refine AW_reg [4, 5] fun K hK => ?_ -- region 23
      simp [init_eq]
      refine hK _ _ ?_; clear hK K
      exact AW_ret (end_ret rfl ⟨⟨lv, by rw [he]; rfl, by rw [if_pos ⟨he, g4⟩]; exact hrl⟩, _, by rw [if_pos he]; exact hR2, u2, hFG⟩)
end Go.Proofs.Ytdioggohbfgnfaa
