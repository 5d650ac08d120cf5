/-
  Ranging over maps.
-/
import Derived.Test.YtnfnkmodcjkabaaDoorAbsSim4
set_option linter.unusedVariables false
set_option linter.unusedSimpArgs false
namespace Go.Abs
open Go Go.RowKit

section
variable {C : Ctx} {P : Program} {S : Loc} {H : AH} {w : World}

theorem VRs.toArray2 {S : Loc} {a b : V} {c d : Value} (h1 : VR S a c) (h2 : VR S b d) : VR S (.tup [a, b]) (.tuple #[c, d]) := VR.tup [a, b] [c, d] (.cons _ _ _ _ h1 (.cons _ _ _ _ h2 .nil))
theorem VRs.toArray3 {S : Loc} {a b e : V} {c d f : Value} (h1 : VR S a c) (h2 : VR S b d) (h3 : VR S e f) : VR S (.tup [a, b, e]) (.tuple #[c, d, f]) := VR.tup [a, b, e] [c, d, f] (.cons _ _ _ _ h1 (.cons _ _ _ _ h2 (.cons _ _ _ _ h3 .nil)))

theorem sim_range (hH : HR C S H w) {t : TypeId} {x v : V} {cx : Value} {H' : AH} (hx : VR S x cx) (h : arange P H t x = some (v, H')) :
    ∃ S' cv w', (Instr.range t cx).run P w = .ok cv w' ∧ S.le S' ∧ VR S' v cv ∧ HR C S' H' w' := by
  unfold arange at h
  split at h
  · rename_i kt hq
    cases h
    obtain ⟨kt, et⟩ := kt
    have hu := qmap_spec hq
    cases hx
    refine ⟨S.add w.heap.size 0 0 0, .pointer (some ⟨w.heap.size, 0, none⟩), { w with heap := w.heap.push (.mapIter none 0 #[] 0) }, ?_, Loc.le_add .., ?_, ?_⟩
    · unfold Instr.range
      simp only [Sem.run_bind, run_underlying hu, Result.andThen_ok, Sem.run_pure, run_newObj]
    · rw [hH.next]; exact .p _ _ _ _ (by simp [Loc.add]) (by simp [Loc.add]) (fun _ => by simp [Loc.add])
    · exact hH.new _ _ _ _ ⟨by simp [Loc.add], by simp [Loc.add], by simp [Loc.add], none, .mnil, by simp [Loc.add]⟩
  · rename_i kt m hq
    obtain ⟨kt, et⟩ := kt
    have hu := qmap_spec hq
    split at h
    · rename_i es clock hg
      cases h
      cases hx with
      | m _ r h1 h2 =>
        obtain ⟨g0, hown, ces, hh, e1, e2, e3⟩ := hH.obj m _ hg
        have := h2 g0
        subst this
        have hget : (getObj (S.blk m)).run P w = .ok (.map ces clock) w := by simp [getObj, Sem.run, hh]
        refine ⟨S.add w.heap.size 0 0 0, .pointer (some ⟨w.heap.size, 0, none⟩), { w with heap := w.heap.push (.mapIter (some (S.blk m)) clock #[] clock) }, ?_, Loc.le_add .., ?_, ?_⟩
        · unfold Instr.range
          simp only [Sem.run_bind, run_underlying hu, Result.andThen_ok, Sem.run_pure, hget, run_newObj]
        · rw [hH.next]; exact .p _ _ _ _ (by simp [Loc.add]) (by simp [Loc.add]) (fun _ => by simp [Loc.add])
        · refine hH.new _ _ _ _ ⟨by simp [Loc.add], by simp [Loc.add], by simp [Loc.add], some (S.blk m), ?_, by simp [Loc.add]⟩
          exact (VR.m (S := S) m (S.blk m) h1 (fun _ => rfl)).mono (Loc.le_add ..)
    · cases h
  · rename_i l hne
    split at h
    · rename_i hs
      cases h
      have hu := qstr_spec hs
      cases hx with
      | s _ c hc =>
        refine ⟨S.add w.heap.size 0 0 0, .pointer (some ⟨w.heap.size, 0, none⟩), { w with heap := w.heap.push (.stringIter c 0) }, ?_, Loc.le_add .., ?_, ?_⟩
        · unfold Instr.range
          simp only [Sem.run_bind, run_underlying hu, Result.andThen_ok, Sem.run_pure, run_newObj]
        · rw [hH.next]; exact .p _ _ _ _ (by simp [Loc.add]) (by simp [Loc.add]) (fun _ => by simp [Loc.add])
        · exact hH.new _ _ _ _ ⟨by simp [Loc.add], by simp [Loc.add], by simp [Loc.add], c, hc, by simp [Loc.add]⟩
    · cases h
  · cases h

/-- The next letter of a text. -/
theorem sim_nextS (hH : HR C S H w) {x v : V} {cx : Value} {t : TypeId} {H' : AH} (hx : VR S x cx) (h : anextS H x = some (v, H')) :
    ∃ S' cv w', (Instr.next cx true t).run P w = .ok cv w' ∧ S.le S' ∧ VR S' v cv ∧ HR C S' H' w' := by
  unfold anextS at h
  split at h
  · rename_i id
    split at h
    · rename_i s pos hg
      obtain ⟨g0, hown, b0, cs, hcs, hh⟩ := hH.obj id _ hg
      cases hx with
      | p _ _ _ a h1 h2 h3 =>
        have ha := h3 g0.symm
        rw [b0] at ha
        subst ha
        have hce : cs = ⟨s.toArray⟩ := by rw [← hcs]
        have hsz : cs.size = s.length := by rw [hce]; rfl
        have g1 : (getObj (S.blk id)).run P w = .ok (.stringIter cs pos) w := by simp [getObj, Sem.run, hh]
        have hlt : S.blk id < w.heap.size := (Array.getElem?_eq_some_iff.1 hh).1
        split at h
        · rename_i hp
          cases h
          have hset : ∀ o : Obj, (setObj (S.blk id) o).run P w = .ok () { w with heap := w.heap.setIfInBounds (S.blk id) o } := by
            intro o; simp [setObj, Sem.run, hh]
          refine ⟨S, .tuple #[.bool true, .int .i64 pos, .int .i32 (Utf8.decode cs pos).1], { w with heap := w.heap.setIfInBounds (S.blk id) (.stringIter cs (pos + (Utf8.decode cs pos).2)) }, ?_, Loc.le.refl S, ?_, ?_⟩
          · unfold Instr.next
            simp only [Sem.run_bind, g1, Result.andThen_ok, hsz, hp, if_true, hset, Sem.run_pure]
            rfl
          · rw [hce]; exact VRs.toArray3 (.b _) (.i _ _) (.i _ _)
          · refine hH.write id h1 hown _ _ ⟨g0, hown, b0, cs, hcs, ?_⟩
            rw [hce]; simp [hlt]
        · rename_i hp
          cases h
          refine ⟨S, .tuple #[.bool false], w, ?_, Loc.le.refl S, .tup [.b false] [.bool false] (.cons _ _ _ _ (.b _) .nil), hH⟩
          unfold Instr.next
          simp only [Sem.run_bind, g1, Result.andThen_ok, hsz, hp, if_false, Sem.run_pure]
    · cases h
  · cases h

/-- The iterator behind a pointer. -/
theorem iter_ptr (hH : HR C S H w) {id : Nat} {cv : Value} (hv : VR S (.p (some (id, 0, 0))) cv) {m : Option Nat} {since stepped : Nat} {seen : List Nat} (hg : H.get id = some (.mapIter m since seen stepped)) :
    cv = .pointer (some ⟨S.blk id, 0, none⟩) ∧ ∃ cm, VR S (.m m) (.map cm) ∧ w.heap[S.blk id]? = some (.mapIter cm since seen.toArray stepped) := by
  obtain ⟨g0, hown, b0, cm, hm, hh⟩ := hH.obj id _ hg
  cases hv with
  | p _ _ _ a h1 h2 h3 =>
    have := h3 g0.symm
    rw [b0] at this
    exact ⟨by rw [this], cm, hm, hh⟩

theorem sim_entry (hH : HR C S H w) {x v : V} {cx : Value} (hx : VR S x cx) (h : aentry H x = some v) : ∃ cv, (Instr.entry cx).run P w = .ok cv w ∧ VR S v cv := by
  unfold aentry at h
  split at h
  · rename_i id
    split at h
    · rename_i m since seen stepped hg
      split at h
      · rename_i stamp es clock hs hgm
        split at h
        · rename_i hc
          subst hc
          simp only [Option.map_eq_some_iff] at h
          obtain ⟨e, he, rfl⟩ := h
          obtain ⟨rfl, cm, hm, hh⟩ := iter_ptr hH hx hg
          obtain ⟨g0, hown, ces, hhm, e1, e2, e3⟩ := hH.obj m _ hgm
          cases hm with
          | m _ r h1 h2 =>
            have := h2 g0
            subst this
            have hfind : ∃ ce, ces.find? (fun e => e.born == stamp) = some ce ∧ VR S e.1 ce.key ∧ VR S e.2.1 ce.val := by
              rw [← Array.find?_toList]
              generalize ces.toList = l at e1 e2 e3
              clear hhm hgm
              induction es generalizing l with
              | nil => cases he
              | cons a es ih =>
                cases l with
                | nil => simp at e3
                | cons b l =>
                  simp only [List.map_cons] at e1 e2 e3
                  cases e1 with
                  | cons _ _ _ _ k1 k2 =>
                    cases e2 with
                    | cons _ _ _ _ j1 j2 =>
                      have e3 := List.cons.inj e3
                      simp only [List.find?_cons] at he ⊢
                      rw [← e3.1]
                      cases hb : (a.2.2 == stamp) with
                      | true =>
                        rw [hb] at he
                        cases he
                        exact ⟨b, rfl, k1, j1⟩
                      | false =>
                        rw [hb] at he
                        exact ih he l k2 j2 e3.2
            obtain ⟨ce, hce, hk, hv⟩ := hfind
            refine ⟨.tuple #[ce.key, ce.val], ?_, VRs.toArray2 hk hv⟩
            have hb : seen.toArray.back? = some stamp := by simpa using hs
            have g1 : (getObj (S.blk id)).run P w = .ok (.mapIter (some (S.blk m)) since seen.toArray clock) w := by simp [getObj, Sem.run, hh]
            have g2 : (getObj (S.blk m)).run P w = .ok (.map ces clock) w := by simp [getObj, Sem.run, hhm]
            unfold Instr.entry
            simp only [Sem.run_bind, g1, Result.andThen_ok, hb, g2, bne_self_eq_false, Bool.false_eq_true, if_false, hce, Sem.run_pure]
        · cases h
      · cases h
    · cases h
  · cases h

/-- What 'next' does. -/
theorem sim_next (hH : HR C S H w) {x : V} {cx : Value} {t : TypeId} {K : V → AH → Prop} (hx : VR S x cx) (h : ANext H x K) :
    ∃ v cv H' w', (Instr.next cx false t).run P w = .ok cv w' ∧ VR S v cv ∧ HR C S H' w' ∧ K v H' := by
  unfold ANext at h
  split at h
  · rename_i id
    split at h
    · rename_i since seen stepped hg
      obtain ⟨rfl, cm, hm, hh⟩ := iter_ptr hH hx hg
      cases hm
      have g1 : (getObj (S.blk id)).run P w = .ok (.mapIter none since seen.toArray stepped) w := by simp [getObj, Sem.run, hh]
      refine ⟨_, .tuple #[.bool false], H, w, ?_, .tup [.b false] [.bool false] (.cons _ _ _ _ (.b _) .nil), hH, h⟩
      unfold Instr.next
      simp only [Sem.run_bind, g1, Result.andThen_ok, Sem.run_pure]
    · rename_i m since seen stepped hg
      obtain ⟨rfl, cm, hm, hh⟩ := iter_ptr hH hx hg
      obtain ⟨ig0, iown, ib0, _⟩ := hH.obj id _ hg
      split at h
      · rename_i es clock hgm
        obtain ⟨hnew, hcome, hover⟩ := h
        obtain ⟨g0, hown, ces, hhm, e1, e2, e3⟩ := hH.obj m _ hgm
        cases hm with
        | m _ r h1 h2 =>
          have := h2 g0
          subst this
          have g1 : (getObj (S.blk id)).run P w = .ok (.mapIter (some (S.blk m)) since seen.toArray stepped) w := by simp [getObj, Sem.run, hh]
          have g2 : (getObj (S.blk m)).run P w = .ok (.map ces clock) w := by simp [getObj, Sem.run, hhm]
          -- the entries on both sides
          have hmem : ∀ ce ∈ ces.toList, ∃ e ∈ es, e.2.2 = ce.born ∧ VR S e.1 ce.key ∧ VR S e.2.1 ce.val := by
            clear hhm hgm hnew hcome hover g2
            generalize ces.toList = l at e1 e2 e3
            induction es generalizing l with
            | nil => cases l with
              | nil => simp
              | cons _ _ => simp at e3
            | cons a es ih =>
              cases l with
              | nil => simp
              | cons b l =>
                simp only [List.map_cons] at e1 e2 e3
                cases e1 with
                | cons _ _ _ _ k1 k2 =>
                  cases e2 with
                  | cons _ _ _ _ j1 j2 =>
                    have e3 := List.cons.inj e3
                    intro ce hce
                    rcases List.mem_cons.1 hce with rfl | hce
                    · exact ⟨a, by simp, e3.1, k1, j1⟩
                    · obtain ⟨e, he, h⟩ := ih l k2 j2 e3.2 ce hce
                      exact ⟨e, by simp [he], h⟩
          have hborn : ∀ e ∈ es, ∃ ce ∈ ces.toList, ce.born = e.2.2 := by
            intro e he
            have : e.2.2 ∈ es.map (·.2.2) := List.mem_map_of_mem he
            rw [e3] at this
            obtain ⟨ce, h1, h2⟩ := List.mem_map.1 this
            exact ⟨ce, h1, h2⟩
          have hguard : (!seen.toArray.isEmpty && !ces.isEmpty && ces.all (·.born ≥ stepped)) = false := by
            rcases hnew with rfl | rfl | ⟨e, he, hlt⟩
            · rfl
            · have : ces.toList = [] := by simpa using e3.symm
              have : ces = #[] := Array.ext' this
              subst this; simp
            · obtain ⟨ce, h1, h2⟩ := hborn e he
              have : ces.all (·.born ≥ stepped) = false := by
                rw [Bool.eq_false_iff]
                intro hall
                have := Array.all_eq_true_iff_forall_mem.1 hall ce (by simpa using h1)
                simp at this; omega
              rw [this]; simp
          let left := ces.filter fun e => !seen.toArray.contains e.born
          let old := left.filter fun e => decide (e.born < since)
          let new := left.filter fun e => decide (e.born ≥ since)
          let cands : Array (Option MapEntry) := (if old.isEmpty then #[none] else #[]) ++ (old ++ new).map some
          have hpos : 0 < cands.size := by
            simp only [cands, Array.size_append, Array.size_map]
            by_cases ho : old.isEmpty = true
            · simp [ho]; omega
            · simp [ho]
              have : old.size ≠ 0 := fun e => ho (by simpa using e)
              omega
          have hnone : none ∈ cands → old.isEmpty = true := by
            intro hm
            simp only [cands, Array.mem_append] at hm
            rcases hm with hm | hm
            · by_cases ho : old.isEmpty = true
              · exact ho
              · simp [ho] at hm
            · simp at hm
          have hsome : ∀ e, some e ∈ cands → e ∈ ces ∧ e.born ∉ seen := by
            intro e hm
            simp only [cands, Array.mem_append] at hm
            have hl : e ∈ left := by
              rcases hm with hm | hm
              · split at hm <;> simp at hm
              · simp only [Array.mem_map, Array.mem_append] at hm
                obtain ⟨e', he', h⟩ := hm
                cases h
                rcases he' with h | h
                · exact (Array.mem_filter.1 h).1
                · exact (Array.mem_filter.1 h).1
            have := Array.mem_filter.1 hl
            exact ⟨this.1, by simpa using this.2⟩
          have hold : old.isEmpty = true → ∀ e ∈ es, e.2.2 ∉ seen → since ≤ e.2.2 := by
            intro ho e he hn
            obtain ⟨ce, k1, k2⟩ := hborn e he
            refine Nat.le_of_not_lt fun hlt => ?_
            have : ce ∈ old := Array.mem_filter.2 ⟨Array.mem_filter.2 ⟨by simpa using k1, by simpa [k2] using hn⟩, by simp [k2, hlt]⟩
            have h0 : old = #[] := by simpa using ho
            rw [h0] at this; simp at this
          have hk : ∀ k, k < cands.size → ∀ w1, HR C S H w1 → w1.heap = w.heap → ∃ v cv H' w', ((match cands[k]? with
              | some (some e) => do setObj (S.blk id) (.mapIter (some (S.blk m)) since (seen.toArray.push e.born) clock); pure (.tuple #[.bool true, e.key, e.val])
              | some none => pure (.tuple #[.bool false])
              | none => stuck "Next: no such candidate" : Sem Value)).run P w1 = .ok cv w' ∧ VR S v cv ∧ HR C S H' w' ∧ K v H' := by
            intro k hk w1 hH1 hw1
            have hmk : cands[k] ∈ cands := Array.getElem_mem hk
            rw [Array.getElem?_eq_getElem hk]
            generalize cands[k] = x at hmk
            cases x with
            | none => exact ⟨_, .tuple #[.bool false], H, w1, by simp, .tup [.b false] [.bool false] (.cons _ _ _ _ (.b _) .nil), hH1, hover (hold (hnone hmk))⟩
            | some ce =>
              obtain ⟨c1, c2⟩ := hsome ce hmk
              obtain ⟨e, he, hb, hke, hve⟩ := hmem ce (by simpa using c1)
              have hlt : S.blk id < w1.heap.size := by rw [hw1]; exact (Array.getElem?_eq_some_iff.1 hh).1
              have hset : (setObj (S.blk id) (.mapIter (some (S.blk m)) since (seen.toArray.push ce.born) clock)).run P w1 = .ok () { w1 with heap := w1.heap.setIfInBounds (S.blk id) (.mapIter (some (S.blk m)) since (seen.toArray.push ce.born) clock) } := by
                simp [setObj, Sem.run, hw1, hh]
              refine ⟨.tup [.b true, e.1, e.2.1], .tuple #[.bool true, ce.key, ce.val], H.set id (.mapIter (some m) since (seen ++ [e.2.2]) clock), { w1 with heap := w1.heap.setIfInBounds (S.blk id) (.mapIter (some (S.blk m)) since (seen.toArray.push ce.born) clock) }, ?_, VRs.toArray3 (.b _) hke hve, ?_, hcome e he (by rw [hb]; exact c2)⟩
              · simp only [Sem.run_bind, hset, Result.andThen_ok, Sem.run_pure]
              · refine hH1.write id (by rw [← hH.next]; exact AH.get_lt hg) iown _ _ ⟨ig0, iown, ib0, some (S.blk m), .m m (S.blk m) h1 (fun _ => rfl), ?_⟩
                simp [hlt, hb]
          have hrun : ∀ w1 k, (choose (.mapNext cands.size)).run P w = .ok k w1 → k < cands.size ∧ HR C S H w1 ∧ w1.heap = w.heap := by
            intro w1 k hc
            rw [run_choose] at hc
            split at hc
            · cases hc; exact ⟨hpos, hH, rfl⟩
            · cases hc; exact ⟨Nat.mod_lt _ hpos, hH.drew, rfl⟩
          have hex : ∃ k w1, (choose (.mapNext cands.size)).run P w = .ok k w1 := by
            rw [run_choose]; split <;> exact ⟨_, _, rfl⟩
          obtain ⟨k, w1, hc⟩ := hex
          obtain ⟨k1, k2, k3⟩ := hrun w1 k hc
          obtain ⟨v, cv, H', w', r1, r2, r3, r4⟩ := hk k k1 w1 k2 k3
          refine ⟨v, cv, H', w', ?_, r2, r3, r4⟩
          unfold Instr.next
          simp only [Sem.run_bind, g1, Result.andThen_ok, g2, hguard, Bool.false_eq_true, if_false]
          change ((choose (.mapNext cands.size)).run P w).andThen _ = _
          rw [hc]
          exact r1
      · exact h.elim
    · exact h.elim
  · exact h.elim
end
end Go.Abs
