/-
  The document's tally: marks, Coin, Done.
-/
import Derived.Test.YtdioggohbfgnfaaTR5
set_option linter.unusedVariables false
set_option linter.unusedSimpArgs false
namespace Go.Proofs.Ytdioggohbfgnfaa
open Go Go.Abs Go.Proofs
set_option maxRecDepth 100000
attribute [local irreducible] AEnd AW ACalls

theorem app_mrks : App Try.prog 66 66 3 24 := App.mk' qelem_66 qsize_105 qbytes_105 qzero_105 qsrc_66 rfl (by decide)
def merr (f fr : Int) (x : Mrk) : Int := if replB f x.who = false then 40 else keptE fr x.view
def isM (kind view : Int) (k : Nat) (t : Mrk) : Bool := decide (t = ⟨kind, view, (k : Int)⟩)
/-- Who is marked so. -/
def whoM (f : Int) (ms : List Mrk) (kind view : Int) : List Nat := (List.range (qtimes 3 f).toNat).filter fun k => ms.any (isM kind view k)
theorem mrk_eql (x y : Mrk) : abin Try.prog .eql 105 (.agg x.cells) (.agg y.cells) = some (.b (decide (x = y))) := by
  show (Go.Abs.aeq ..).map _ = _; rw [Mrk.aeq]; rfl
theorem mrk_at (G : AH) {mv : V} {ms : List Mrk} (h : RS G mv 3 (ms.map Mrk.cells)) (i : Nat) (hi : i < ms.length) :
    ∃ ax, aindexAddr Try.prog 66 mv (.i .i64 i) = some ax ∧ aload Try.prog G 105 ax = some (.agg ms[i].cells) := by
  obtain ⟨ax, h1, h2⟩ := h.at (P := Try.prog) (t := 66) (by decide) qelem_66 qsize_105 (k := .i64) i (l := ms[i].cells) (by simp [hi])
  exact ⟨ax, h1, h2.load qagg_105 (by simp)⟩
theorem rmark_ok (H : AH) {m : Nat} {F : List Nat} {f fr : Int} {vs : List Cert} {ts : List Tmo} {ms : List Mrk} (hR : RAt H m F f fr vs ts ms) (hfr : 1 ≤ fr) (hl : ms.length ≤ 10000) (x : Mrk) (hxv : x.view ≤ 9223372036854775807) :
    ACalls Try.prog 56 [.p (some (m, 0, 0)), .agg x.cells] H fun r H' =>
      (∃ lv, r = .tup [lv, .i .i64 (merr f fr x)] ∧ RS H' lv 1 ((if merr f fr x = 0 then whoM f (ms ++ [x]) x.kind x.view else []).map cntC)) ∧
      ∃ F', RAt H' m F' f fr vs ts (if merr f fr x = 0 then ms ++ [x] else ms) ∧ Upd H H' F ∧ ∀ j ∈ F', j ∈ F ∨ H.next ≤ j := by
  have hRR := hR
  obtain ⟨vv, tv, mv, FV, FT, FM, rfl, h2, h3, h4, h5, h6⟩ := hR
  have hR : RAt H m (m :: (FV ++ (FT ++ FM))) f fr vs ts ms := hRR
  refine ACalls_body Try.func56 rfl rfl ?_
  repeat refine AW_seq ?_
  refine AW_reg [0, 3] fun K hK => ?_ -- region 0
  simp [init_eq, V.cells]
  generalize hH1 : H.new (.cells x.cells 0 false 0) = H1
  have x1 : H1.get H.next = some (.cells x.cells 0 false 0) := by rw [← hH1]; simp [AH.get_new]
  have n1 : H1.next = H.next + 1 := by rw [← hH1]; simp
  have o1 : ∀ j, j < H.next → H1.get j = H.get j := fun j hj => by rw [← hH1, AH.get_new, if_neg (by omega)]
  clear hH1
  refine hK _ _ ?_; clear hK K
  have u1 : Upd H H1 [] := ⟨by omega, fun j hj _ => o1 j hj⟩
  have hR1 := hR.upd u1 (by simp)
  have m1 := (o1 m (AH.get_lt h3)).trans h3
  have hrs1 : RS H1 mv 3 (ms.map Mrk.cells) := (h6.rsR (by decide) fun _ => rfl).same o1
  have hlt := hR.lt
  -- ends that tell of nothing
  have hend : ∀ (e : Int) (ρ : Env) (G : AH), RAt G m (m :: (FV ++ (FT ++ FM))) f fr vs ts ms → Upd H G (m :: (FV ++ (FT ++ FM))) → ρ.get 4 = .sl none 0 false → ρ.get 5 = .i .i64 e →
      merr f fr x = e → e ≠ 0 →
      AEnd Try.prog Try.f56 (fun r H' => (∃ lv, r = .tup [lv, .i .i64 (merr f fr x)] ∧ RS H' lv 1 ((if merr f fr x = 0 then whoM f (ms ++ [x]) x.kind x.view else []).map cntC)) ∧
      ∃ F', RAt H' m F' f fr vs ts (if merr f fr x = 0 then ms ++ [x] else ms) ∧ Upd H H' (m :: (FV ++ (FT ++ FM))) ∧ ∀ j ∈ F', j ∈ (m :: (FV ++ (FT ++ FM))) ∨ H.next ≤ j) .ret ρ G := fun e ρ G h1 h2 h5 h6 h7 h8 => by
    have h9 : ¬ merr f fr x = 0 := by rw [h7]; exact h8
    refine end_ret (r := .tup [.sl none 0 false, .i .i64 e]) (by simp [ares1, ares, h5, h6]) ⟨⟨.sl none 0 false, by rw [h7], ?_⟩, _, by rw [if_neg h9]; exact h1, h2, fun j hj => .inl hj⟩
    rw [if_neg h9]; exact RS.nil ..
  have fx : ∀ n, afieldAddr Try.prog 105 0 (.p (some (n, 0, 0))) = some (.p (some (n, 0, 0))) ∧ afieldAddr Try.prog 105 1 (.p (some (n, 0, 0))) = some (.p (some (n, 0, 1))) ∧ afieldAddr Try.prog 105 2 (.p (some (n, 0, 0))) = some (.p (some (n, 0, 2))) := fun n => by simp [afieldAddr]
  have ldx : ∀ G' : AH, G'.get H.next = some (.cells x.cells 0 false 0) → aload Try.prog G' 3 (.p (some (H.next, 0, 0))) = some (.i .i64 x.kind) ∧ aload Try.prog G' 3 (.p (some (H.next, 0, 1))) = some (.i .i64 x.view) ∧ aload Try.prog G' 3 (.p (some (H.next, 0, 2))) = some (.i .i64 x.who) ∧ aload Try.prog G' 105 (.p (some (H.next, 0, 0))) = some (.agg x.cells) := fun G' h => by
    refine ⟨?_, ?_, ?_, ?_⟩ <;> simp [aload, h, Mrk.take]
    rfl
  repeat refine AW_seq ?_
  refine AW_reg [0, 3, 15] fun K hK => ?_ -- region 1
  simp [init_eq, fx, ldx H1 x1]
  refine ACalls.mono (rrepl_ok H1 m1 x.who) fun r G ⟨hr, e⟩ => ?_ -- replica
  subst hr e
  try simp
  refine hK _ _ ?_; clear hK K
  refine AW_cond' rfl rfl (fun hc => ?_) (fun hc => ?_)
  · have g : replB f x.who = false := by simpa using hc
    have he : merr f fr x = 40 := by unfold merr; rw [if_pos g]
    repeat refine AW_seq ?_
    refine AW_reg [4, 5] fun K hK => ?_ -- region 2
    simp [init_eq]
    refine hK _ _ ?_; clear hK K
    exact AW_ret (hend 40 _ _ hR1 (u1.mono (by simp)) rfl rfl he (by decide))
  have g : replB f x.who = true := by simpa using hc
  have hme : merr f fr x = keptE fr x.view := by unfold merr; rw [if_neg (by simp [g])]
  refine AW_skip ?_
  repeat refine AW_seq ?_
  refine AW_reg [0, 3, 6] fun K hK => ?_ -- region 3
  simp [init_eq, fx, ldx G x1]
  refine ACalls.mono (rkept_ok G m1 hfr hxv) fun r G' ⟨hr, e⟩ => ?_ -- kept
  subst hr e
  try simp
  refine hK _ _ ?_; clear hK K
  repeat refine AW_seq ?_
  refine AW_reg [0, 3, 6, 21] fun K hK => ?_ -- region 4
  simp [init_eq]
  refine hK _ _ ?_; clear hK K
  refine AW_cond' rfl rfl (fun hc => ?_) (fun hc => ?_)
  · have g2 : ¬ keptE fr x.view = 0 := by simpa using hc
    repeat refine AW_seq ?_
    refine AW_reg [4, 5] fun K hK => ?_ -- region 5
    simp [init_eq]
    refine hK _ _ ?_; clear hK K
    exact AW_ret (hend _ _ _ hR1 (u1.mono (by simp)) rfl rfl hme g2)
  have g2 : keptE fr x.view = 0 := by simpa using hc
  have he : merr f fr x = 0 := by rw [hme, g2]
  refine AW_skip ?_
  have fa4 : afieldAddr Try.prog 68 4 (.p (some (m, 0, 0))) = some (.p (some (m, 0, 4))) := by simp [afieldAddr]
  have ldM : aload Try.prog G' 66 (.p (some (m, 0, 4))) = some mv := by simp [aload, m1]
  -- the mark is put behind the others
  obtain ⟨Ha, v', H4, F4, q1, q2, q3, q4, q5⟩ := (h6.upd u1 (by simp)).pushR (P := Try.prog) (f := Mrk.cells) (t := 66) app_mrks qelem_66 qsize_105 qzero_105 rfl rfl (by decide) (fun _ => rfl) (x := .agg x.cells) x rfl (by simp [roomOk]; omega)
  have hnd : m ∉ FV ∧ m ∉ FT ∧ m ∉ FM ∧ FV.Nodup ∧ FT.Nodup ∧ (∀ j ∈ FT, j ∉ FM) ∧ (∀ j ∈ FV, j ∉ FT) ∧ ∀ j ∈ FV, j ∉ FM := by
    simp only [List.nodup_cons, List.mem_append, not_or, List.nodup_append] at h2
    exact ⟨h2.1.1, h2.1.2.1, h2.1.2.2, h2.2.1, h2.2.2.1.1, fun j hj hj' => h2.2.2.1.2.2 j hj j hj' rfl, fun j hj hj' => h2.2.2.2 j hj j (.inl hj') rfl, fun j hj hj' => h2.2.2.2 j hj j (.inr hj') rfl⟩
  have m4 := q4.keep hnd.2.2.1 m1
  have hltT : ∀ j ∈ FT, j < H.next := fun j hj => hlt j (by simp [hj])
  have hltM : ∀ j ∈ FM, j < H.next := fun j hj => hlt j (by simp [hj])
  have hltV : ∀ j ∈ FV, j < H.next := fun j hj => hlt j (by simp [hj])
  have hltm := hlt m (by simp)
  have hF4 : m ∉ F4 ∧ (∀ j ∈ F4, j ∉ FV) ∧ ∀ j ∈ F4, j ∉ FT :=
    ⟨fun h => (q5 _ h).elim hnd.2.2.1 (by omega), fun j hj hj' => (q5 j hj).elim (fun h => hnd.2.2.2.2.2.2.2 j hj' h) (fun h => by have := hltV j hj'; omega), fun j hj hj' => (q5 j hj).elim (fun h => hnd.2.2.2.2.2.1 j hj' h) (fun h => by have := hltT j hj'; omega)⟩
  have hst : astore Try.prog H4 66 (.p (some (m, 0, 4))) v' = some (H4.set m (.cells [.i .i64 f, .i .i64 fr, vv, tv, v'] 0 false 0)) := by simp [astore, m4, q3.cells, splice]
  have hn4 := q4.1
  refine AW_seq ?_
  refine AW_regd [0, 3] pl_56_6 pe_56_6 (by kernel_rfl) (by kernel_rfl) (by decide) fun K hK => ?_ -- region 6
  simp [init_eq, pl_56_6, fa4, ldM, ldx G' x1, q1, q2, hst]
  refine ⟨bslice_ext qelem_66 qsize_105 qzero_105 rfl rfl (by decide) (by decide) rfl (xl := x.cells) rfl q1, ?_⟩
  refine hK _ _ ?_; clear hK K
  have u5 : Upd H4 (H4.set m (.cells [.i .i64 f, .i .i64 fr, vv, tv, v'] 0 false 0)) [m] := Upd.set _ _ _ (by simp)
  generalize hG : H4.set m (.cells [.i .i64 f, .i .i64 fr, vv, tv, v'] 0 false 0) = G at u5
  have mG : G.get m = some (.cells [.i .i64 f, .i .i64 fr, vv, tv, v'] 0 false 0) := by rw [← hG, AH.get_set]; simp; omega
  clear hG
  have hRG : RAt G m (m :: (FV ++ (FT ++ F4))) f fr vs ts (ms ++ [x]) := by
    refine ⟨vv, tv, v', FV, FT, F4, rfl, ?_, mG, ((h4.upd u1 (by simp)).upd q4 fun j hj => fun h => hnd.2.2.2.2.2.2.2 j hj h).upd u5 fun j hj => by simp; exact fun e => hnd.1 (e ▸ hj), ((h5.upd u1 (by simp)).upd q4 fun j hj => fun h => hnd.2.2.2.2.2.1 j hj h).upd u5 fun j hj => by simp; exact fun e => hnd.2.1 (e ▸ hj), q3.upd u5 fun j hj => by simp; exact fun e => hF4.1 (e ▸ hj)⟩
    simp only [List.nodup_cons, List.mem_append, not_or, List.nodup_append]
    exact ⟨⟨hnd.1, hnd.2.1, hF4.1⟩, hnd.2.2.2.1, ⟨hnd.2.2.2.2.1, own_nodup q3, fun a ha b hb e => hF4.2.2 b hb (e ▸ ha)⟩, fun a ha b hb e => hb.elim (fun h => hnd.2.2.2.2.2.2.1 a ha (e ▸ h)) (fun h => hF4.2.1 b h (e ▸ ha))⟩
  have uG : Upd H G (m :: (FV ++ (FT ++ FM))) := ((u1.mono (by simp) : Upd H G' (m :: (FV ++ (FT ++ FM)))).trans (q4.mono (fun j hj => by simp [hj]) : Upd G' H4 (m :: (FV ++ (FT ++ FM)))) (fun j hj => .inl hj)).trans (u5.mono (by simp)) (fun j hj => .inl hj)
  have nG : H.next + 1 ≤ G.next := by have := u5.1; omega
  have hFG : ∀ j ∈ (m :: (FV ++ (FT ++ F4))), j ∈ (m :: (FV ++ (FT ++ FM))) ∨ H.next ≤ j := fun j hj => by
    simp only [List.mem_cons, List.mem_append] at hj ⊢
    rcases hj with rfl | hj | hj | hj
    · simp
    · simp [hj]
    · simp [hj]
    · rcases q5 j hj with h | h
      · simp [h]
      · right; omega
  have y1 : G.get H.next = some (.cells x.cells 0 false 0) := u5.keep (by simp; omega) (q4.keep (fun h => by have := hltM _ h; omega) x1)
  have hrsG : RS G v' 3 ((ms ++ [x]).map Mrk.cells) := (q3.upd u5 fun j hj => by simp; exact fun e => hF4.1 (e ▸ hj)).rsR (by decide) fun _ => rfl
  generalize hws : ms ++ [x] = ws at *
  have hwl : ws.length ≤ 10001 := by rw [← hws]; simp; omega
  clear q1 q2 q3 q4 q5 hst u5 m4 hn4 hF4
  repeat refine AW_seq ?_
  refine AW_reg [0, 3, 7] fun K hK => ?_ -- region 7
  simp [init_eq]
  refine hK _ _ ?_; clear hK K
  repeat refine AW_seq ?_
  refine AW_reg [0, 3, 7, 8] fun K hK => ?_ -- region 8
  simp [init_eq]
  refine hK _ _ ?_; clear hK K
  refine AW_block ?_
  have hN : 0 ≤ qtimes 3 f ∧ qtimes 3 f ≤ 10 := by rcases qtimes3 f with h | h | h | h <;> omega
  generalize hp : (fun k => ws.any (isM x.kind x.view k)) = p
  have hpk : ∀ k, p k = ws.any (isM x.kind x.view k) := fun k => by rw [← hp]
  refine AW_loopx (fun y : Nat × V => ⟨74, [(0, .p (some (m, 0, 0))), (3, .p (some (H.next, 0, 0))), (7, y.2), (8, .i .i64 y.1)]⟩)
    (fun y Gk => Upd G Gk [] ∧ y.1 ≤ (qtimes 3 f).toNat ∧ ∃ Fl, Own Gk y.2 1 (((List.range y.1).filter p).map cntC).flatten Fl ∧ ∀ j ∈ Fl, G.next ≤ j) (fun y => (qtimes 3 f).toNat - y.1) (0, .sl none 0 false) (by simp) ⟨Upd.refl .., Nat.zero_le _, [], Own.nil .., by simp⟩ fun y Gk hM => ?_ -- loop
  obtain ⟨k, lv⟩ := y
  obtain ⟨uk, hk0, Fl, ol, lF⟩ := hM
  simp only at hk0 ol ⊢
  have mk := uk.keep (by simp) mG
  have z1 := uk.keep (by simp) y1
  have hrsk : RS Gk v' 3 (ws.map Mrk.cells) := hrsG.same fun j hj => uk.2 j hj (by simp)
  have lw := hrsk.alen (P := Try.prog) qelem_66 Gk
  have ldW : aload Try.prog Gk 66 (.p (some (m, 0, 4))) = some v' := by simp [aload, mk]
  have ldf : aload Try.prog Gk 3 (.p (some (m, 0, 0))) = some (.i .i64 f) := by simp [aload, mk]
  repeat refine AW_seq ?_
  refine AW_reg [0, 3, 7, 8, 39] fun K hK => ?_ -- region 9
  simp [init_eq, afieldAddr, ldf]
  refine ACalls.mono (rall_ok Gk f) fun r G2 ⟨hr, e⟩ => ?_ -- hallmoot/hallmootref04.All
  subst hr e
  try simp
  refine hK _ _ ?_; clear hK K
  refine AW_cond' rfl rfl (fun hc => ?_) (fun hc => ?_)
  · have hk : k < (qtimes 3 f).toNat := by
      have : (k : Int) < qtimes 3 f := by simpa using hc
      omega
    have hbd : abuild Try.prog 105 [(0, .i .i64 x.kind), (1, .i .i64 x.view), (2, .i .i64 (k : Int))] = some (.agg (Mrk.cells ⟨x.kind, x.view, (k : Int)⟩)) := by simp [abuild, afill, V.cells, splice, Mrk.cells]
    refine AW_skip ?_
    repeat refine AW_seq ?_
    refine AW_block ?_
    repeat refine AW_seq ?_
    refine AW_reg [0, 3, 7, 8, 9] fun K hK => ?_ -- region 11
    simp [init_eq]
    refine hK _ _ ?_; clear hK K
    repeat refine AW_seq ?_
    refine AW_reg [0, 3, 7, 8, 9, 10] fun K hK => ?_ -- region 12
    simp [init_eq]
    refine hK _ _ ?_; clear hK K
    refine AW_block ?_
    refine AW_loopx (fun i : Nat => ⟨74, [(0, .p (some (m, 0, 0))), (3, .p (some (H.next, 0, 0))), (7, lv), (8, .i .i64 k), (9, .b ((ws.take i).any (isM x.kind x.view k))), (10, .i .i64 i)]⟩) (fun i G3 => G3 = G2 ∧ i ≤ ws.length) (fun i => ws.length - i) 0 (by simp) ⟨rfl, by simp⟩ fun i G3 hM => ?_ -- loop
    obtain ⟨rfl, hi0⟩ := hM
    repeat refine AW_seq ?_
    refine AW_reg [0, 3, 7, 8, 9, 10, 48] fun K hK => ?_ -- region 13
    simp [init_eq, fa4, ldW, lw]
    refine hK _ _ ?_; clear hK K
    refine AW_cond' rfl rfl (fun hc => ?_) (fun hc => ?_)
    · have hi : i < ws.length := by simpa using hc
      obtain ⟨ax, px, qx⟩ := mrk_at G3 hrsk i hi
      have hst : (ws.take (i + 1)).any (isM x.kind x.view k) = ((ws.take i).any (isM x.kind x.view k) || isM x.kind x.view k ws[i]) := by rw [List.take_succ_eq_append_getElem hi, any_snoc]
      refine AW_skip ?_
      repeat refine AW_seq ?_
      refine AW_block ?_
      refine AW_regdto [0, 3, 7, 8, 9, 10] pl_56_15 pe_56_15 ⟨74, [(0, .p (some (m, 0, 0))), (3, .p (some (H.next, 0, 0))), (7, lv), (8, .i .i64 k), (9, .b ((ws.take (i + 1)).any (isM x.kind x.view k))), (10, .i .i64 i)]⟩ G3 (by kernel_rfl) (by kernel_rfl) (by decide) (fun K hk => ?_) ?_ -- region 15
      · rw [hst] at hk
        cases hb : (ws.take i).any (isM x.kind x.view k)
        · rw [hb] at hk
          simpa [init_eq, pl_56_15, fa4, ldW, px, qx, fx, ldx G3 z1, hbd, mrk_eql, isM] using hk
        · rw [hb] at hk
          simpa [init_eq, pl_56_15] using hk
      refine bend (rend ?_)
      refine AW_reg [0, 3, 7, 8, 9, 10] fun K hK => ?_ -- region 14
      simp [init_eq, wrap_id (x := (i : Int) + 1) (by omega) (by omega)]
      refine hK _ _ ?_; clear hK K
      exact rend ⟨i + 1, by simp, ⟨rfl, by omega⟩, by omega⟩ -- round's end
    · have hi : i = ws.length := by have : ¬ i < ws.length := by simpa using hc
                                    omega
      subst hi
      rw [List.take_length, ← hpk]
      refine AW_exit (then_exit (then_exit (block_here ?_)))
      have hw : (List.range (k + 1)).filter p = (List.range k).filter p ++ (if p k = true then [k] else []) := by
        rw [List.range_succ, List.filter_append]
        cases h : p k <;> simp [h]
      have hnext : ∀ (G4 : AH) (lv' : V) (Fl' : List Nat), Upd G G4 [] → Own G4 lv' 1 (((List.range (k + 1)).filter p).map cntC).flatten Fl' → (∀ j ∈ Fl', G.next ≤ j) → Upd G G4 [] ∧ ((k + 1, lv') : Nat × V).1 ≤ (qtimes 3 f).toNat ∧ ∃ Fl, Own G4 ((k + 1, lv') : Nat × V).2 1 (((List.range ((k + 1, lv') : Nat × V).1).filter p).map cntC).flatten Fl ∧ ∀ j ∈ Fl, G.next ≤ j := fun G4 lv' Fl' h1 h2 h3 => ⟨h1, (show k + 1 ≤ _ by omega), Fl', h2, h3⟩
      repeat refine AW_seq ?_
      refine AW_reg [0, 3, 7, 8, 68] fun K hK => ?_ -- region 16
      simp [init_eq]
      refine hK _ _ ?_; clear hK K
      refine AW_cond' rfl rfl (fun hc => ?_) (fun hc => ?_)
      · have hb : p k = true := hc
        obtain ⟨Hb, w', H5, F5, b1, b2, b3, b4, b5⟩ := ol.pushR (P := Try.prog) (f := cntC) (t := 95) app_ints qelem_95 qsize_3 qzero_3 rfl rfl (by decide) cntC_len (x := .i .i64 (k : Int)) k rfl (by
          have h1 := List.length_filter_le p (List.range k)
          simp at h1
          simp [roomOk]; omega)
        refine AW_reg [0, 3, 7, 8] fun K hK => ?_ -- region 17
        simp [init_eq, b1, b2]
        refine hK _ _ ?_; clear hK K
        refine bend (rend ?_)
        refine AW_reg [0, 3, 7, 8] fun K hK => ?_ -- region 10
        simp [init_eq, wrap_id (x := (k : Int) + 1) (by omega) (by omega)]
        refine hK _ _ ?_; clear hK K
        refine rend ⟨(k + 1, w'), by simp, hnext _ _ F5 (uk.trans b4 (fun j hj => .inr (lF j hj))) (by rw [hw, if_pos hb]; exact b3) (fun j hj => ?_), by simp; omega⟩ -- round's end
        rcases b5 j hj with h | h
        · exact lF j h
        · have := uk.1; omega
      · have hb : p k = false := hc
        refine AW_skip ?_
        refine bend (rend ?_)
        refine AW_reg [0, 3, 7, 8] fun K hK => ?_ -- region 10
        simp [init_eq, wrap_id (x := (k : Int) + 1) (by omega) (by omega)]
        refine hK _ _ ?_; clear hK K
        exact rend ⟨(k + 1, lv), by simp, hnext _ _ Fl uk (by rw [hw, hb]; simpa using ol) lF, by simp; omega⟩ -- round's end
  · have hk : k = (qtimes 3 f).toNat := by
      have : ¬ (k : Int) < qtimes 3 f := by simpa using hc
      omega
    subst hk
    have hwho : (List.range (qtimes 3 f).toNat).filter p = whoM f ws x.kind x.view := by rw [← hp]; rfl
    rw [hwho] at ol
    refine AW_exit (then_exit (then_exit (block_here ?_)))
    repeat refine AW_seq ?_
    refine AW_reg [4, 5] fun K hK => ?_ -- region 18
    simp [init_eq]
    refine hK _ _ ?_; clear hK K
    exact AW_ret (end_ret rfl ⟨⟨lv, by rw [he]; rfl, by rw [if_pos he]; exact ol.rsR (by decide) cntC_len⟩, _, by rw [if_pos he]; exact hRG.upd uk (by simp), uG.trans uk (by simp), hFG⟩)
end Go.Proofs.Ytdioggohbfgnfaa
