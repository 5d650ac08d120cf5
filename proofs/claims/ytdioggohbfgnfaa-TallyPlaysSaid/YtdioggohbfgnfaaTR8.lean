/-
  The document's tally: Forget.
-/
import Derived.Test.YtdioggohbfgnfaaTR7
set_option linter.unusedVariables false
set_option linter.unusedSimpArgs false
namespace Go.Proofs.Ytdioggohbfgnfaa
open Go Go.Abs Go.Proofs
set_option maxRecDepth 100000
attribute [local irreducible] AEnd AW ACalls

theorem aappend_next {P : Program} {H H' : AH} {t t2 : TypeId} {s x v' : V} (h : aappend P H t t2 s x = some (v', H')) : H.next ≤ H'.next := by
  unfold aappend at h
  repeat' split at h
  all_goals first
    | (cases h; done)
    | (simp only [Option.some.injEq, Prod.mk.injEq] at h; obtain ⟨_, rfl⟩ := h; simp)
theorem RAt.pushV {G : AH} {q : Nat} {F : List Nat} {f fr : Int} {vs : List Cert} {ts : List Tmo} {ms : List Mrk} (h : RAt G q F f fr vs ts ms) (hl : vs.length ≤ 10000) (c : Cert) :
    ∃ w Ha v' H4 G' F', aload Try.prog G 29 (.p (some (q, 0, 2))) = some w ∧ abuildSlice Try.prog G 29 1 [(0, .agg c.cells)] = some (.sl (some (G.next, 0, 0)) 1 false, Ha) ∧ G.ext Ha ∧ aappend Try.prog Ha 29 29 w (.sl (some (G.next, 0, 0)) 1 false) = some (v', H4) ∧ astore Try.prog H4 29 (.p (some (q, 0, 2))) v' = some G' ∧
      RAt G' q F' f fr (vs ++ [c]) ts ms ∧ Upd G G' F ∧ (∀ j ∈ F', j ∈ F ∨ G.next ≤ j) ∧ Ha.next ≤ H4.next ∧ ∀ j, j < G.next → (j = q ∨ j ∉ F) → H4.get j = G.get j := by
  have hlt := h.lt
  obtain ⟨vv, tv, mv, FV, FT, FM, rfl, h2, h3, h4, h5, h6⟩ := h
  obtain ⟨Ha, v', H4, F4, q1, q2, q3, q4, q5⟩ := h4.pushR (P := Try.prog) (f := Cert.cells) (t := 29) app_certs qelem_29 qsize_32 qzero_32 rfl rfl (by decide) (fun _ => rfl) (x := .agg c.cells) c rfl (by simp [roomOk]; omega)
  have hnd : q ∉ FV ∧ q ∉ FT ∧ q ∉ FM ∧ FV.Nodup ∧ FT.Nodup ∧ FM.Nodup ∧ (∀ j ∈ FT, j ∉ FM) ∧ (∀ j ∈ FV, j ∉ FT) ∧ ∀ j ∈ FV, j ∉ FM := by
    simp only [List.nodup_cons, List.mem_append, not_or, List.nodup_append] at h2
    exact ⟨h2.1.1, h2.1.2.1, h2.1.2.2, h2.2.1, h2.2.2.1.1, h2.2.2.1.2.1, fun j hj hj' => h2.2.2.1.2.2 j hj j hj' rfl, fun j hj hj' => h2.2.2.2 j hj j (.inl hj') rfl, fun j hj hj' => h2.2.2.2 j hj j (.inr hj') rfl⟩
  have m4 := q4.keep hnd.1 h3
  have hltT : ∀ j ∈ FT, j < G.next := fun j hj => hlt j (by simp [hj])
  have hltM : ∀ j ∈ FM, j < G.next := fun j hj => hlt j (by simp [hj])
  have hltV : ∀ j ∈ FV, j < G.next := fun j hj => hlt j (by simp [hj])
  have hltm := hlt q (by simp)
  have hn4 := q4.1
  have hnot : q ∉ FV := hnd.1
  have hF4 : q ∉ F4 ∧ (∀ j ∈ F4, j ∉ FT) ∧ ∀ j ∈ F4, j ∉ FM := ⟨fun h => (q5 _ h).elim hnd.1 (fun h => by have := hltm; omega), fun j hj hj' => (q5 j hj).elim (fun h => hnd.2.2.2.2.2.2.2.1 j h hj') (fun h => by have := hltT j hj'; omega), fun j hj hj' => (q5 j hj).elim (fun h => hnd.2.2.2.2.2.2.2.2 j h hj') (fun h => by have := hltM j hj'; omega)⟩
  have hst : astore Try.prog H4 29 (.p (some (q, 0, 2))) v' = some (H4.set q (.cells [.i .i64 f, .i .i64 fr, v', tv, mv] 0 false 0)) := by simp [astore, m4, q3.cells, splice]
  have u5 : Upd H4 (H4.set q (.cells [.i .i64 f, .i .i64 fr, v', tv, mv] 0 false 0)) [q] := Upd.set _ _ _ (by simp)
  refine ⟨vv, Ha, v', H4, _, q :: (F4 ++ (FT ++ FM)), by simp [aload, h3], q1, bslice_ext qelem_29 qsize_32 qzero_32 rfl rfl (by decide) (by decide) rfl (xl := c.cells) rfl q1, q2, hst, ⟨v', tv, mv, F4, FT, FM, rfl, ?_, by rw [AH.get_set]; simp; omega, q3.upd u5 fun j hj => by simp; exact fun e => hF4.1 (e ▸ hj), (h5.upd q4 fun j hj => fun h => hnd.2.2.2.2.2.2.2.1 j h hj).upd u5 fun j hj => by simp; exact fun e => hnd.2.1 (e ▸ hj), (h6.upd q4 fun j hj => fun h => hnd.2.2.2.2.2.2.2.2 j h hj).upd u5 fun j hj => by simp; exact fun e => hnd.2.2.1 (e ▸ hj)⟩, (q4.mono (fun j hj => by simp [hj]) : Upd G H4 (q :: (FV ++ (FT ++ FM)))).trans (u5.mono (by simp)) (fun j hj => .inl hj), fun j hj => ?_, aappend_next q2, fun j hj h => q4.2 j hj (fun hm => h.elim (fun e => hnot (e ▸ hm)) (fun h => h (by simp [hm])))⟩
  · simp only [List.nodup_cons, List.mem_append, not_or, List.nodup_append]
    exact ⟨⟨hF4.1, hnd.2.1, hnd.2.2.1⟩, own_nodup q3, ⟨hnd.2.2.2.2.1, hnd.2.2.2.2.2.1, fun a ha b hb e => hnd.2.2.2.2.2.2.1 a ha (e ▸ hb)⟩, fun a ha b hb e => hb.elim (fun h => hF4.2.1 a ha (e ▸ h)) (fun h => hF4.2.2 a ha (e ▸ h))⟩
  · simp only [List.mem_cons, List.mem_append] at hj ⊢
    rcases hj with rfl | hj | hj
    · simp
    · rcases q5 j hj with h | h
      · simp [h]
      · exact .inr h
    · simp [hj]
theorem RAt.pushT {G : AH} {q : Nat} {F : List Nat} {f fr : Int} {vs : List Cert} {ts : List Tmo} {ms : List Mrk} (h : RAt G q F f fr vs ts ms) (hl : ts.length ≤ 10000) (c : Tmo) :
    ∃ w Ha v' H4 G' F', aload Try.prog G 50 (.p (some (q, 0, 3))) = some w ∧ abuildSlice Try.prog G 50 1 [(0, .agg c.cells)] = some (.sl (some (G.next, 0, 0)) 1 false, Ha) ∧ G.ext Ha ∧ aappend Try.prog Ha 50 50 w (.sl (some (G.next, 0, 0)) 1 false) = some (v', H4) ∧ astore Try.prog H4 50 (.p (some (q, 0, 3))) v' = some G' ∧
      RAt G' q F' f fr vs (ts ++ [c]) ms ∧ Upd G G' F ∧ (∀ j ∈ F', j ∈ F ∨ G.next ≤ j) ∧ Ha.next ≤ H4.next ∧ ∀ j, j < G.next → (j = q ∨ j ∉ F) → H4.get j = G.get j := by
  have hlt := h.lt
  obtain ⟨vv, tv, mv, FV, FT, FM, rfl, h2, h3, h4, h5, h6⟩ := h
  obtain ⟨Ha, v', H4, F4, q1, q2, q3, q4, q5⟩ := h5.pushR (P := Try.prog) (f := Tmo.cells) (t := 50) app_tmos qelem_50 qsize_34 qzero_34 rfl rfl (by decide) (fun _ => rfl) (x := .agg c.cells) c rfl (by simp [roomOk]; omega)
  have hnd : q ∉ FV ∧ q ∉ FT ∧ q ∉ FM ∧ FV.Nodup ∧ FT.Nodup ∧ FM.Nodup ∧ (∀ j ∈ FT, j ∉ FM) ∧ (∀ j ∈ FV, j ∉ FT) ∧ ∀ j ∈ FV, j ∉ FM := by
    simp only [List.nodup_cons, List.mem_append, not_or, List.nodup_append] at h2
    exact ⟨h2.1.1, h2.1.2.1, h2.1.2.2, h2.2.1, h2.2.2.1.1, h2.2.2.1.2.1, fun j hj hj' => h2.2.2.1.2.2 j hj j hj' rfl, fun j hj hj' => h2.2.2.2 j hj j (.inl hj') rfl, fun j hj hj' => h2.2.2.2 j hj j (.inr hj') rfl⟩
  have m4 := q4.keep hnd.2.1 h3
  have hltT : ∀ j ∈ FT, j < G.next := fun j hj => hlt j (by simp [hj])
  have hltM : ∀ j ∈ FM, j < G.next := fun j hj => hlt j (by simp [hj])
  have hltV : ∀ j ∈ FV, j < G.next := fun j hj => hlt j (by simp [hj])
  have hltm := hlt q (by simp)
  have hn4 := q4.1
  have hnot : q ∉ FT := hnd.2.1
  have hF4 : q ∉ F4 ∧ (∀ j ∈ F4, j ∉ FV) ∧ ∀ j ∈ F4, j ∉ FM := ⟨fun h => (q5 _ h).elim hnd.2.1 (fun h => by have := hltm; omega), fun j hj hj' => (q5 j hj).elim (fun h => hnd.2.2.2.2.2.2.2.1 j hj' h) (fun h => by have := hltV j hj'; omega), fun j hj hj' => (q5 j hj).elim (fun h => hnd.2.2.2.2.2.2.1 j h hj') (fun h => by have := hltM j hj'; omega)⟩
  have hst : astore Try.prog H4 50 (.p (some (q, 0, 3))) v' = some (H4.set q (.cells [.i .i64 f, .i .i64 fr, vv, v', mv] 0 false 0)) := by simp [astore, m4, q3.cells, splice]
  have u5 : Upd H4 (H4.set q (.cells [.i .i64 f, .i .i64 fr, vv, v', mv] 0 false 0)) [q] := Upd.set _ _ _ (by simp)
  refine ⟨tv, Ha, v', H4, _, q :: (FV ++ (F4 ++ FM)), by simp [aload, h3], q1, bslice_ext qelem_50 qsize_34 qzero_34 rfl rfl (by decide) (by decide) rfl (xl := c.cells) rfl q1, q2, hst, ⟨vv, v', mv, FV, F4, FM, rfl, ?_, by rw [AH.get_set]; simp; omega, (h4.upd q4 fun j hj => fun h => hnd.2.2.2.2.2.2.2.1 j hj h).upd u5 fun j hj => by simp; exact fun e => hnd.1 (e ▸ hj), q3.upd u5 fun j hj => by simp; exact fun e => hF4.1 (e ▸ hj), (h6.upd q4 fun j hj => fun h => hnd.2.2.2.2.2.2.1 j h hj).upd u5 fun j hj => by simp; exact fun e => hnd.2.2.1 (e ▸ hj)⟩, (q4.mono (fun j hj => by simp [hj]) : Upd G H4 (q :: (FV ++ (FT ++ FM)))).trans (u5.mono (by simp)) (fun j hj => .inl hj), fun j hj => ?_, aappend_next q2, fun j hj h => q4.2 j hj (fun hm => h.elim (fun e => hnot (e ▸ hm)) (fun h => h (by simp [hm])))⟩
  · simp only [List.nodup_cons, List.mem_append, not_or, List.nodup_append]
    exact ⟨⟨hnd.1, hF4.1, hnd.2.2.1⟩, hnd.2.2.2.1, ⟨own_nodup q3, hnd.2.2.2.2.2.1, fun a ha b hb e => hF4.2.2 a ha (e ▸ hb)⟩, fun a ha b hb e => hb.elim (fun h => hF4.2.1 b h (e ▸ ha)) (fun h => hnd.2.2.2.2.2.2.2.2 a ha (e ▸ h))⟩
  · simp only [List.mem_cons, List.mem_append] at hj ⊢
    rcases hj with rfl | hj | hj | hj
    · simp
    · simp [hj]
    · rcases q5 j hj with h | h
      · simp [h]
      · exact .inr h
    · simp [hj]
theorem RAt.pushM {G : AH} {q : Nat} {F : List Nat} {f fr : Int} {vs : List Cert} {ts : List Tmo} {ms : List Mrk} (h : RAt G q F f fr vs ts ms) (hl : ms.length ≤ 10000) (c : Mrk) :
    ∃ w Ha v' H4 G' F', aload Try.prog G 66 (.p (some (q, 0, 4))) = some w ∧ abuildSlice Try.prog G 66 1 [(0, .agg c.cells)] = some (.sl (some (G.next, 0, 0)) 1 false, Ha) ∧ G.ext Ha ∧ aappend Try.prog Ha 66 66 w (.sl (some (G.next, 0, 0)) 1 false) = some (v', H4) ∧ astore Try.prog H4 66 (.p (some (q, 0, 4))) v' = some G' ∧
      RAt G' q F' f fr vs ts (ms ++ [c]) ∧ Upd G G' F ∧ (∀ j ∈ F', j ∈ F ∨ G.next ≤ j) ∧ Ha.next ≤ H4.next ∧ ∀ j, j < G.next → (j = q ∨ j ∉ F) → H4.get j = G.get j := by
  have hlt := h.lt
  obtain ⟨vv, tv, mv, FV, FT, FM, rfl, h2, h3, h4, h5, h6⟩ := h
  obtain ⟨Ha, v', H4, F4, q1, q2, q3, q4, q5⟩ := h6.pushR (P := Try.prog) (f := Mrk.cells) (t := 66) app_mrks qelem_66 qsize_105 qzero_105 rfl rfl (by decide) (fun _ => rfl) (x := .agg c.cells) c rfl (by simp [roomOk]; omega)
  have hnd : q ∉ FV ∧ q ∉ FT ∧ q ∉ FM ∧ FV.Nodup ∧ FT.Nodup ∧ FM.Nodup ∧ (∀ j ∈ FT, j ∉ FM) ∧ (∀ j ∈ FV, j ∉ FT) ∧ ∀ j ∈ FV, j ∉ FM := by
    simp only [List.nodup_cons, List.mem_append, not_or, List.nodup_append] at h2
    exact ⟨h2.1.1, h2.1.2.1, h2.1.2.2, h2.2.1, h2.2.2.1.1, h2.2.2.1.2.1, fun j hj hj' => h2.2.2.1.2.2 j hj j hj' rfl, fun j hj hj' => h2.2.2.2 j hj j (.inl hj') rfl, fun j hj hj' => h2.2.2.2 j hj j (.inr hj') rfl⟩
  have m4 := q4.keep hnd.2.2.1 h3
  have hltT : ∀ j ∈ FT, j < G.next := fun j hj => hlt j (by simp [hj])
  have hltM : ∀ j ∈ FM, j < G.next := fun j hj => hlt j (by simp [hj])
  have hltV : ∀ j ∈ FV, j < G.next := fun j hj => hlt j (by simp [hj])
  have hltm := hlt q (by simp)
  have hn4 := q4.1
  have hnot : q ∉ FM := hnd.2.2.1
  have hF4 : q ∉ F4 ∧ (∀ j ∈ F4, j ∉ FV) ∧ ∀ j ∈ F4, j ∉ FT := ⟨fun h => (q5 _ h).elim hnd.2.2.1 (fun h => by have := hltm; omega), fun j hj hj' => (q5 j hj).elim (fun h => hnd.2.2.2.2.2.2.2.2 j hj' h) (fun h => by have := hltV j hj'; omega), fun j hj hj' => (q5 j hj).elim (fun h => hnd.2.2.2.2.2.2.1 j hj' h) (fun h => by have := hltT j hj'; omega)⟩
  have hst : astore Try.prog H4 66 (.p (some (q, 0, 4))) v' = some (H4.set q (.cells [.i .i64 f, .i .i64 fr, vv, tv, v'] 0 false 0)) := by simp [astore, m4, q3.cells, splice]
  have u5 : Upd H4 (H4.set q (.cells [.i .i64 f, .i .i64 fr, vv, tv, v'] 0 false 0)) [q] := Upd.set _ _ _ (by simp)
  refine ⟨mv, Ha, v', H4, _, q :: (FV ++ (FT ++ F4)), by simp [aload, h3], q1, bslice_ext qelem_66 qsize_105 qzero_105 rfl rfl (by decide) (by decide) rfl (xl := c.cells) rfl q1, q2, hst, ⟨vv, tv, v', FV, FT, F4, rfl, ?_, by rw [AH.get_set]; simp; omega, (h4.upd q4 fun j hj => fun h => hnd.2.2.2.2.2.2.2.2 j hj h).upd u5 fun j hj => by simp; exact fun e => hnd.1 (e ▸ hj), (h5.upd q4 fun j hj => fun h => hnd.2.2.2.2.2.2.1 j hj h).upd u5 fun j hj => by simp; exact fun e => hnd.2.1 (e ▸ hj), q3.upd u5 fun j hj => by simp; exact fun e => hF4.1 (e ▸ hj)⟩, (q4.mono (fun j hj => by simp [hj]) : Upd G H4 (q :: (FV ++ (FT ++ FM)))).trans (u5.mono (by simp)) (fun j hj => .inl hj), fun j hj => ?_, aappend_next q2, fun j hj h => q4.2 j hj (fun hm => h.elim (fun e => hnot (e ▸ hm)) (fun h => h (by simp [hm])))⟩
  · simp only [List.nodup_cons, List.mem_append, not_or, List.nodup_append]
    exact ⟨⟨hnd.1, hnd.2.1, hF4.1⟩, hnd.2.2.2.1, ⟨hnd.2.2.2.2.1, own_nodup q3, fun a ha b hb e => hF4.2.2 b hb (e ▸ ha)⟩, fun a ha b hb e => hb.elim (fun h => hnd.2.2.2.2.2.2.2.1 a ha (e ▸ h)) (fun h => hF4.2.1 b h (e ▸ ha))⟩
  · simp only [List.mem_cons, List.mem_append] at hj ⊢
    rcases hj with rfl | hj | hj | hj
    · simp
    · simp [hj]
    · simp [hj]
    · rcases q5 j hj with h | h
      · simp [h]
      · exact .inr h
def laterV (view : Int) (c : Cert) : Bool := decide (view ≤ c.view)
def laterT (view : Int) (c : Tmo) : Bool := decide (view ≤ c.view)
def laterM (view : Int) (c : Mrk) : Bool := decide (view ≤ c.view)
theorem filter_take {α : Type} (p : α → Bool) (l : List α) {i : Nat} (hi : i < l.length) : (l.take (i + 1)).filter p = (l.take i).filter p ++ (if p l[i] = true then [l[i]] else []) := by
  rw [List.take_succ_eq_append_getElem hi, List.filter_append]
  cases h : p l[i] <;> simp [h]
theorem cert_view (G : AH) {v : V} {l : List Cert} (h : RS G v 8 (l.map Cert.cells)) (i : Nat) (hi : i < l.length) :
    ∃ ax a1, aindexAddr Try.prog 29 v (.i .i64 i) = some ax ∧ aload Try.prog G 32 ax = some (.agg l[i].cells) ∧ afieldAddr Try.prog 32 2 ax = some a1 ∧ aload Try.prog G 3 a1 = some (.i .i64 l[i].view) := by
  obtain ⟨ax, h1, h2⟩ := h.at (P := Try.prog) (t := 29) (by decide) qelem_29 qsize_32 (k := .i64) i (l := l[i].cells) (by simp [hi])
  obtain ⟨a1, h5, h6⟩ := h2.fld (P := Try.prog) (t := 32) (ft := 3) (f := 2) (o := 2) (b := false) (x := .i .i64 l[i].view) (by simp) qagg_3 qsize_3 (by simp)
  exact ⟨ax, a1, h1, h2.load qagg_32 (by simp), h5, h6⟩
theorem tmo_view (G : AH) {v : V} {l : List Tmo} (h : RS G v 10 (l.map Tmo.cells)) (i : Nat) (hi : i < l.length) :
    ∃ ax a1, aindexAddr Try.prog 50 v (.i .i64 i) = some ax ∧ aload Try.prog G 34 ax = some (.agg l[i].cells) ∧ afieldAddr Try.prog 34 1 ax = some a1 ∧ aload Try.prog G 3 a1 = some (.i .i64 l[i].view) := by
  obtain ⟨ax, h1, h2⟩ := h.at (P := Try.prog) (t := 50) (by decide) qelem_50 qsize_34 (k := .i64) i (l := l[i].cells) (by simp [hi])
  obtain ⟨a1, h5, h6⟩ := h2.fld (P := Try.prog) (t := 34) (ft := 3) (f := 1) (o := 1) (b := false) (x := .i .i64 l[i].view) (by simp) qagg_3 qsize_3 (by simp)
  exact ⟨ax, a1, h1, h2.load qagg_34 (by simp), h5, h6⟩
theorem mrk_view (G : AH) {v : V} {l : List Mrk} (h : RS G v 3 (l.map Mrk.cells)) (i : Nat) (hi : i < l.length) :
    ∃ ax a1, aindexAddr Try.prog 66 v (.i .i64 i) = some ax ∧ aload Try.prog G 105 ax = some (.agg l[i].cells) ∧ afieldAddr Try.prog 105 1 ax = some a1 ∧ aload Try.prog G 3 a1 = some (.i .i64 l[i].view) := by
  obtain ⟨ax, h1, h2⟩ := h.at (P := Try.prog) (t := 66) (by decide) qelem_66 qsize_105 (k := .i64) i (l := l[i].cells) (by simp [hi])
  obtain ⟨a1, h5, h6⟩ := h2.fld (P := Try.prog) (t := 105) (ft := 3) (f := 1) (o := 1) (b := false) (x := .i .i64 l[i].view) (by simp) qagg_3 qsize_3 (by simp)
  exact ⟨ax, a1, h1, h2.load qagg_105 (by simp), h5, h6⟩
set_option maxHeartbeats 1600000 in
theorem rforget_ok (H : AH) {m : Nat} {F : List Nat} {f fr : Int} {vs : List Cert} {ts : List Tmo} {ms : List Mrk} (hR : RAt H m F f fr vs ts ms) (l1 : vs.length ≤ 9000) (l2 : ts.length ≤ 9000) (l3 : ms.length ≤ 9000) (view : Int) :
    ACalls Try.prog 22 [.p (some (m, 0, 0)), .i .i64 view] H fun r H' => r = .tup [] ∧
      ∃ F', RAt H' m F' f (if view ≤ fr then fr else view) (if view ≤ fr then vs else vs.filter (laterV view)) (if view ≤ fr then ts else ts.filter (laterT view)) (if view ≤ fr then ms else ms.filter (laterM view)) ∧ Upd H H' F ∧ ∀ j ∈ F', j ∈ F ∨ H.next ≤ j := by
  have hRR := hR
  have hlt := hR.lt
  obtain ⟨vv, tv, mv, FV, FT, FM, rfl, h2, h3, h4, h5, h6⟩ := hR
  have hR : RAt H m (m :: (FV ++ (FT ++ FM))) f fr vs ts ms := hRR
  have hltm := hlt m (by simp)
  have hrV : RS H vv 8 (vs.map Cert.cells) := h4.rsR (by decide) fun _ => rfl
  have hrT : RS H tv 10 (ts.map Tmo.cells) := h5.rsR (by decide) fun _ => rfl
  have hrM : RS H mv 3 (ms.map Mrk.cells) := h6.rsR (by decide) fun _ => rfl
  have fa : ∀ n, afieldAddr Try.prog 68 0 (.p (some (n, 0, 0))) = some (.p (some (n, 0, 0))) ∧ afieldAddr Try.prog 68 1 (.p (some (n, 0, 0))) = some (.p (some (n, 0, 1))) ∧ afieldAddr Try.prog 68 2 (.p (some (n, 0, 0))) = some (.p (some (n, 0, 2))) ∧ afieldAddr Try.prog 68 3 (.p (some (n, 0, 0))) = some (.p (some (n, 0, 3))) ∧ afieldAddr Try.prog 68 4 (.p (some (n, 0, 0))) = some (.p (some (n, 0, 4))) := fun n => by simp [afieldAddr]
  have ldm : ∀ G : AH, Upd H G [] → aload Try.prog G 3 (.p (some (m, 0, 0))) = some (.i .i64 f) ∧ aload Try.prog G 3 (.p (some (m, 0, 1))) = some (.i .i64 fr) ∧ aload Try.prog G 29 (.p (some (m, 0, 2))) = some vv ∧ aload Try.prog G 50 (.p (some (m, 0, 3))) = some tv ∧ aload Try.prog G 66 (.p (some (m, 0, 4))) = some mv := fun G h => by
    have := h.keep (by simp) h3
    refine ⟨?_, ?_, ?_, ?_, ?_⟩ <;> simp [aload, this]
  refine ACalls_body Try.func22 rfl rfl ?_
  repeat refine AW_seq ?_
  refine AW_reg [0, 1, 13] fun K hK => ?_ -- region 0
  simp [init_eq, fa, ldm H (Upd.refl ..)]
  refine hK _ _ ?_; clear hK K
  refine AW_cond' rfl rfl (fun hc => ?_) (fun hc => ?_)
  · have g : view ≤ fr := by simpa using hc
    refine AW_ret (end_ret rfl ⟨rfl, _, ?_, Upd.refl .., fun j hj => .inl hj⟩)
    simp only [if_pos g]; exact hR
  have g : ¬ view ≤ fr := by simpa using hc
  simp only [if_neg g]
  have hbd : abuild Try.prog 68 [(0, .i .i64 f), (1, .i .i64 view)] = some (.agg [.i .i64 f, .i .i64 view, .sl none 0 false, .sl none 0 false, .sl none 0 false]) := by simp [abuild, afill, V.cells, splice]
  refine AW_skip ?_
  repeat refine AW_seq ?_
  refine AW_reg [0, 1, 4] fun K hK => ?_ -- region 1
  simp [init_eq, fa, ldm H (Upd.refl ..), hbd, V.cells]
  refine hK _ _ ?_; clear hK K
  generalize hH1 : H.new (.cells [.i .i64 f, .i .i64 view, .sl none 0 false, .sl none 0 false, .sl none 0 false] 0 false 0) = H1
  have x1 : H1.get H.next = some (.cells [.i .i64 f, .i .i64 view, .sl none 0 false, .sl none 0 false, .sl none 0 false] 0 false 0) := by rw [← hH1]; simp [AH.get_new]
  have u1 : Upd H H1 [] := by rw [← hH1]; exact Upd.new ..
  clear hH1
  generalize hq : H.next = q at *
  have hR1 : RAt H1 q [q] f view [] [] [] := ⟨_, _, _, [], [], [], rfl, by simp, x1, Own.nil .., Own.nil .., Own.nil ..⟩
  -- vs
  repeat refine AW_seq ?_
  refine AW_reg [0, 1, 4, 5] fun K hK => ?_ -- region 2
  simp [init_eq]
  refine hK _ _ ?_; clear hK K
  refine AW_block ?_
  refine AW_loopx (fun i : Nat => ⟨131, [(0, .p (some (m, 0, 0))), (1, .i .i64 view), (4, .p (some (q, 0, 0))), (5, .i .i64 i)]⟩) (fun i G => Upd H G [] ∧ i ≤ vs.length ∧ ∃ Fq, RAt G q Fq f view ((vs.take i).filter (laterV view)) [] [] ∧ ∀ j ∈ Fq, q ≤ j) (fun i => vs.length - i) 0 (by simp) ⟨u1, by simp, [q], by simpa using hR1, (fun j hj => by simp at hj; omega)⟩ fun i G hM => ?_ -- loop
  obtain ⟨uG, hi0, Fq, RG, hFq⟩ := hM
  have rsG := hrV.same fun j hj => uG.2 j hj (by simp)
  have lx := rsG.alen (P := Try.prog) qelem_29 G
  repeat refine AW_seq ?_
  refine AW_reg [0, 1, 4, 5, 27] fun K hK => ?_ -- region 3
  simp [init_eq, fa, ldm G uG, lx]
  refine hK _ _ ?_; clear hK K
  refine AW_cond' rfl rfl (fun hc => ?_) (fun hc => ?_)
  · have hi : i < vs.length := by simpa using hc
    obtain ⟨ax, a1, px, qx, p1, q1⟩ := cert_view G rsG i hi
    have hst := filter_take (laterV view) vs hi
    refine AW_skip ?_
    repeat refine AW_seq ?_
    refine AW_block ?_
    repeat refine AW_seq ?_
    refine AW_reg [0, 1, 4, 5, 39] fun K hK => ?_ -- region 5
    simp [init_eq, fa, ldm G uG, px, p1, q1]
    refine hK _ _ ?_; clear hK K
    refine AW_cond' rfl rfl (fun hc => ?_) (fun hc => ?_)
    · have hp : laterV view vs[i] = true := hc
      have hlen := List.length_filter_le (laterV view) (vs.take i)
      simp only [List.length_take] at hlen
      obtain ⟨w, Ha, v', H4, G', F', b0, b1, b2, b3, b4, b5, b6, b7, b8, b9⟩ := RG.pushV (by omega) vs[i]
      obtain ⟨ax', px', hrec⟩ := hrV.at (P := Try.prog) (t := 29) (by decide) qelem_29 qsize_32 (k := .i64) i (l := vs[i].cells) (by simp [hi])
      obtain ⟨idc, gc, oc, cc, roc, eszc, rfl, w1, w2, w3⟩ := hrec
      rw [px] at px'
      cases px'
      have hidc := AH.get_lt w1
      have hG1 := uG.1
      have e1 : ∀ j, j < H.next → (∃ o, H.get j = some o) → Ha.get j = G.get j ∧ H4.get j = Ha.get j := fun j hj ⟨o, ho⟩ => by
        have g1 := uG.keep (by simp) ho
        have g2 := b2.get j o g1
        exact ⟨by rw [g2, g1], by rw [b9 j (by omega) (.inr fun h => by have := hFq j h; omega), g2, g1]⟩
      have eq1 : Ha.get q = G.get q ∧ H4.get q = Ha.get q := by
        obtain ⟨o, ho⟩ : ∃ o, G.get q = some o := by obtain ⟨_, _, _, _, _, _, _, _, h, _⟩ := RG; exact ⟨_, h⟩
        have g2 := b2.get q o ho
        exact ⟨by rw [g2, ho], by rw [b9 q (AH.get_lt ho) (.inl rfl), g2, ho]⟩
      have em := e1 m (by omega) ⟨_, h3⟩
      have ec := e1 idc hidc ⟨_, w1⟩
      refine AW_regm (.only [q, m, idc]) [0, 1, 4, 5] pl_22_6 pe_22_6 (by kernel_rfl) (by kernel_rfl) (by decide) fun K hK => ?_ -- region 6
      simp [init_eq, pl_22_6, APlan_takem, through, tkOk, rid, fa, ldm G uG, b0, px, qx, b1, b3, b4]
      refine ⟨⟨b2.next, fun _ => eq1.1, fun _ => em.1, fun _ => ec.1⟩, ⟨b8, fun _ => eq1.2, fun _ => em.2, fun _ => ec.2⟩, hK _ _ ?_⟩; clear hK K
      refine bend (rend ?_)
      refine AW_reg [0, 1, 4, 5] fun K hK => ?_ -- region 4
      simp [init_eq, wrap_id (x := (i : Int) + 1) (by omega) (by omega)]
      refine hK _ _ ?_; clear hK K
      refine rend ⟨i + 1, by simp, ⟨uG.trans b6 (fun j hj => .inr (by rw [hq]; exact hFq j hj)), by omega, F', by rw [hst, if_pos hp]; exact b5, fun j hj => ?_⟩, by omega⟩ -- round's end
      rcases b7 j hj with h | h
      · exact hFq j h
      · have := uG.1; omega
    · have hp : laterV view vs[i] = false := hc
      refine AW_skip ?_
      refine bend (rend ?_)
      refine AW_reg [0, 1, 4, 5] fun K hK => ?_ -- region 4
      simp [init_eq, wrap_id (x := (i : Int) + 1) (by omega) (by omega)]
      refine hK _ _ ?_; clear hK K
      exact rend ⟨i + 1, by simp, ⟨uG, by omega, Fq, by rw [hst, hp]; simpa using RG, hFq⟩, by omega⟩ -- round's end
  have hi : i = vs.length := by
    have : ¬ i < vs.length := by simpa using hc
    omega
  subst hi
  rw [List.take_length] at RG
  refine AW_exit (then_exit (then_exit (block_here ?_)))
  clear rsG lx hc hi0
  have RV := RG
  have uV := uG
  have FVq := hFq
  clear RG uG hFq
  -- ts
  repeat refine AW_seq ?_
  refine AW_reg [0, 1, 4, 6] fun K hK => ?_ -- region 7
  simp [init_eq]
  refine hK _ _ ?_; clear hK K
  refine AW_block ?_
  refine AW_loopx (fun i : Nat => ⟨131, [(0, .p (some (m, 0, 0))), (1, .i .i64 view), (4, .p (some (q, 0, 0))), (6, .i .i64 i)]⟩) (fun i G => Upd H G [] ∧ i ≤ ts.length ∧ ∃ Fq, RAt G q Fq f view (vs.filter (laterV view)) ((ts.take i).filter (laterT view)) [] ∧ ∀ j ∈ Fq, q ≤ j) (fun i => ts.length - i) 0 (by simp) ⟨uV, by simp, _, by simpa using RV, FVq⟩ fun i G hM => ?_ -- loop
  obtain ⟨uG, hi0, Fq, RG, hFq⟩ := hM
  have rsG := hrT.same fun j hj => uG.2 j hj (by simp)
  have lx := rsG.alen (P := Try.prog) qelem_50 G
  repeat refine AW_seq ?_
  refine AW_reg [0, 1, 4, 6, 62] fun K hK => ?_ -- region 8
  simp [init_eq, fa, ldm G uG, lx]
  refine hK _ _ ?_; clear hK K
  refine AW_cond' rfl rfl (fun hc => ?_) (fun hc => ?_)
  · have hi : i < ts.length := by simpa using hc
    obtain ⟨ax, a1, px, qx, p1, q1⟩ := tmo_view G rsG i hi
    have hst := filter_take (laterT view) ts hi
    refine AW_skip ?_
    repeat refine AW_seq ?_
    refine AW_block ?_
    repeat refine AW_seq ?_
    refine AW_reg [0, 1, 4, 6, 74] fun K hK => ?_ -- region 10
    simp [init_eq, fa, ldm G uG, px, p1, q1]
    refine hK _ _ ?_; clear hK K
    refine AW_cond' rfl rfl (fun hc => ?_) (fun hc => ?_)
    · have hp : laterT view ts[i] = true := hc
      have hlen := List.length_filter_le (laterT view) (ts.take i)
      simp only [List.length_take] at hlen
      obtain ⟨w, Ha, v', H4, G', F', b0, b1, b2, b3, b4, b5, b6, b7, b8, b9⟩ := RG.pushT (by omega) ts[i]
      obtain ⟨ax', px', hrec⟩ := hrT.at (P := Try.prog) (t := 50) (by decide) qelem_50 qsize_34 (k := .i64) i (l := ts[i].cells) (by simp [hi])
      obtain ⟨idc, gc, oc, cc, roc, eszc, rfl, w1, w2, w3⟩ := hrec
      rw [px] at px'
      cases px'
      have hidc := AH.get_lt w1
      have hG1 := uG.1
      have e1 : ∀ j, j < H.next → (∃ o, H.get j = some o) → Ha.get j = G.get j ∧ H4.get j = Ha.get j := fun j hj ⟨o, ho⟩ => by
        have g1 := uG.keep (by simp) ho
        have g2 := b2.get j o g1
        exact ⟨by rw [g2, g1], by rw [b9 j (by omega) (.inr fun h => by have := hFq j h; omega), g2, g1]⟩
      have eq1 : Ha.get q = G.get q ∧ H4.get q = Ha.get q := by
        obtain ⟨o, ho⟩ : ∃ o, G.get q = some o := by obtain ⟨_, _, _, _, _, _, _, _, h, _⟩ := RG; exact ⟨_, h⟩
        have g2 := b2.get q o ho
        exact ⟨by rw [g2, ho], by rw [b9 q (AH.get_lt ho) (.inl rfl), g2, ho]⟩
      have em := e1 m (by omega) ⟨_, h3⟩
      have ec := e1 idc hidc ⟨_, w1⟩
      refine AW_regm (.only [q, m, idc]) [0, 1, 4, 6] pl_22_11 pe_22_11 (by kernel_rfl) (by kernel_rfl) (by decide) fun K hK => ?_ -- region 11
      simp [init_eq, pl_22_11, APlan_takem, through, tkOk, rid, fa, ldm G uG, b0, px, qx, b1, b3, b4]
      refine ⟨⟨b2.next, fun _ => eq1.1, fun _ => em.1, fun _ => ec.1⟩, ⟨b8, fun _ => eq1.2, fun _ => em.2, fun _ => ec.2⟩, hK _ _ ?_⟩; clear hK K
      refine bend (rend ?_)
      refine AW_reg [0, 1, 4, 6] fun K hK => ?_ -- region 9
      simp [init_eq, wrap_id (x := (i : Int) + 1) (by omega) (by omega)]
      refine hK _ _ ?_; clear hK K
      refine rend ⟨i + 1, by simp, ⟨uG.trans b6 (fun j hj => .inr (by rw [hq]; exact hFq j hj)), by omega, F', by rw [hst, if_pos hp]; exact b5, fun j hj => ?_⟩, by omega⟩ -- round's end
      rcases b7 j hj with h | h
      · exact hFq j h
      · have := uG.1; omega
    · have hp : laterT view ts[i] = false := hc
      refine AW_skip ?_
      refine bend (rend ?_)
      refine AW_reg [0, 1, 4, 6] fun K hK => ?_ -- region 9
      simp [init_eq, wrap_id (x := (i : Int) + 1) (by omega) (by omega)]
      refine hK _ _ ?_; clear hK K
      exact rend ⟨i + 1, by simp, ⟨uG, by omega, Fq, by rw [hst, hp]; simpa using RG, hFq⟩, by omega⟩ -- round's end
  have hi : i = ts.length := by
    have : ¬ i < ts.length := by simpa using hc
    omega
  subst hi
  rw [List.take_length] at RG
  refine AW_exit (then_exit (then_exit (block_here ?_)))
  clear rsG lx hc hi0
  have RT := RG
  have uT := uG
  have FTq := hFq
  clear RG uG hFq
  -- ms
  repeat refine AW_seq ?_
  refine AW_reg [0, 1, 4, 7] fun K hK => ?_ -- region 12
  simp [init_eq]
  refine hK _ _ ?_; clear hK K
  refine AW_block ?_
  refine AW_loopx (fun i : Nat => ⟨131, [(0, .p (some (m, 0, 0))), (1, .i .i64 view), (4, .p (some (q, 0, 0))), (7, .i .i64 i)]⟩) (fun i G => Upd H G [] ∧ i ≤ ms.length ∧ ∃ Fq, RAt G q Fq f view (vs.filter (laterV view)) (ts.filter (laterT view)) ((ms.take i).filter (laterM view)) ∧ ∀ j ∈ Fq, q ≤ j) (fun i => ms.length - i) 0 (by simp) ⟨uT, by simp, _, by simpa using RT, FTq⟩ fun i G hM => ?_ -- loop
  obtain ⟨uG, hi0, Fq, RG, hFq⟩ := hM
  have rsG := hrM.same fun j hj => uG.2 j hj (by simp)
  have lx := rsG.alen (P := Try.prog) qelem_66 G
  repeat refine AW_seq ?_
  refine AW_reg [0, 1, 4, 7, 97] fun K hK => ?_ -- region 13
  simp [init_eq, fa, ldm G uG, lx]
  refine hK _ _ ?_; clear hK K
  refine AW_cond' rfl rfl (fun hc => ?_) (fun hc => ?_)
  · have hi : i < ms.length := by simpa using hc
    obtain ⟨ax, a1, px, qx, p1, q1⟩ := mrk_view G rsG i hi
    have hst := filter_take (laterM view) ms hi
    refine AW_skip ?_
    repeat refine AW_seq ?_
    refine AW_block ?_
    repeat refine AW_seq ?_
    refine AW_reg [0, 1, 4, 7, 109] fun K hK => ?_ -- region 15
    simp [init_eq, fa, ldm G uG, px, p1, q1]
    refine hK _ _ ?_; clear hK K
    refine AW_cond' rfl rfl (fun hc => ?_) (fun hc => ?_)
    · have hp : laterM view ms[i] = true := hc
      have hlen := List.length_filter_le (laterM view) (ms.take i)
      simp only [List.length_take] at hlen
      obtain ⟨w, Ha, v', H4, G', F', b0, b1, b2, b3, b4, b5, b6, b7, b8, b9⟩ := RG.pushM (by omega) ms[i]
      obtain ⟨ax', px', hrec⟩ := hrM.at (P := Try.prog) (t := 66) (by decide) qelem_66 qsize_105 (k := .i64) i (l := ms[i].cells) (by simp [hi])
      obtain ⟨idc, gc, oc, cc, roc, eszc, rfl, w1, w2, w3⟩ := hrec
      rw [px] at px'
      cases px'
      have hidc := AH.get_lt w1
      have hG1 := uG.1
      have e1 : ∀ j, j < H.next → (∃ o, H.get j = some o) → Ha.get j = G.get j ∧ H4.get j = Ha.get j := fun j hj ⟨o, ho⟩ => by
        have g1 := uG.keep (by simp) ho
        have g2 := b2.get j o g1
        exact ⟨by rw [g2, g1], by rw [b9 j (by omega) (.inr fun h => by have := hFq j h; omega), g2, g1]⟩
      have eq1 : Ha.get q = G.get q ∧ H4.get q = Ha.get q := by
        obtain ⟨o, ho⟩ : ∃ o, G.get q = some o := by obtain ⟨_, _, _, _, _, _, _, _, h, _⟩ := RG; exact ⟨_, h⟩
        have g2 := b2.get q o ho
        exact ⟨by rw [g2, ho], by rw [b9 q (AH.get_lt ho) (.inl rfl), g2, ho]⟩
      have em := e1 m (by omega) ⟨_, h3⟩
      have ec := e1 idc hidc ⟨_, w1⟩
      refine AW_regm (.only [q, m, idc]) [0, 1, 4, 7] pl_22_16 pe_22_16 (by kernel_rfl) (by kernel_rfl) (by decide) fun K hK => ?_ -- region 16
      simp [init_eq, pl_22_16, APlan_takem, through, tkOk, rid, fa, ldm G uG, b0, px, qx, b1, b3, b4]
      refine ⟨⟨b2.next, fun _ => eq1.1, fun _ => em.1, fun _ => ec.1⟩, ⟨b8, fun _ => eq1.2, fun _ => em.2, fun _ => ec.2⟩, hK _ _ ?_⟩; clear hK K
      refine bend (rend ?_)
      refine AW_reg [0, 1, 4, 7] fun K hK => ?_ -- region 14
      simp [init_eq, wrap_id (x := (i : Int) + 1) (by omega) (by omega)]
      refine hK _ _ ?_; clear hK K
      refine rend ⟨i + 1, by simp, ⟨uG.trans b6 (fun j hj => .inr (by rw [hq]; exact hFq j hj)), by omega, F', by rw [hst, if_pos hp]; exact b5, fun j hj => ?_⟩, by omega⟩ -- round's end
      rcases b7 j hj with h | h
      · exact hFq j h
      · have := uG.1; omega
    · have hp : laterM view ms[i] = false := hc
      refine AW_skip ?_
      refine bend (rend ?_)
      refine AW_reg [0, 1, 4, 7] fun K hK => ?_ -- region 14
      simp [init_eq, wrap_id (x := (i : Int) + 1) (by omega) (by omega)]
      refine hK _ _ ?_; clear hK K
      exact rend ⟨i + 1, by simp, ⟨uG, by omega, Fq, by rw [hst, hp]; simpa using RG, hFq⟩, by omega⟩ -- round's end
  have hi : i = ms.length := by
    have : ¬ i < ms.length := by simpa using hc
    omega
  subst hi
  rw [List.take_length] at RG
  refine AW_exit (then_exit (then_exit (block_here ?_)))
  clear rsG lx hc hi0
  have RM := RG
  have uM := uG
  have FMq := hFq
  clear RG uG hFq
  obtain ⟨vv', tv', mv', FV', FT', FM', rfl, k2, k3, k4, k5, k6⟩ := RM
  have mG := uM.keep (by simp) h3
  have hge : ∀ j, j ∈ FV' ∨ j ∈ FT' ∨ j ∈ FM' → j ≠ m := fun j hj => by
    have : q ≤ j := FMq j (by rcases hj with h | h | h <;> simp [h])
    omega
  have us : ∀ o : O, Upd G (G.set m o) [m] := fun o => Upd.set _ _ _ (by simp)
  have hmG := AH.get_lt mG
  refine AW_reg [] fun K hK => ?_ -- region 17
  simp [init_eq, aload, k3, astore, mG, V.cells, splice]
  refine hK _ _ ?_; clear hK K
  refine end_normal rfl ⟨rfl, m :: (FV' ++ (FT' ++ FM')), ⟨vv', tv', mv', FV', FT', FM', rfl, ?_, by rw [AH.get_set]; simp [hmG], k4.upd (us _) fun j hj => by simp; exact hge j (.inl hj), k5.upd (us _) fun j hj => by simp; exact hge j (.inr (.inl hj)), k6.upd (us _) fun j hj => by simp; exact hge j (.inr (.inr hj))⟩, (uM.mono (by simp) : Upd H G (m :: (FV ++ (FT ++ FM)))).trans (us _) (fun j hj => by simp at hj; simp [hj]), fun j hj => ?_⟩
  · simp only [List.nodup_cons, List.mem_append, not_or] at k2 ⊢
    exact ⟨⟨fun h => hge m (.inl h) rfl, fun h => hge m (.inr (.inl h)) rfl, fun h => hge m (.inr (.inr h)) rfl⟩, k2.2⟩
  · rcases List.mem_cons.1 hj with h | h
    · exact .inl (by rw [h]; simp)
    · exact .inr (FMq j (by simp at h; simp [h]))
end Go.Proofs.Ytdioggohbfgnfaa
