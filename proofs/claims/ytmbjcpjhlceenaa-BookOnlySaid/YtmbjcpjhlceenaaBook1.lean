import Derived.Test.YtmbjcpjhlceenaaAbsLib
import Derived.Test.YtmbjcpjhlceenaaBookFacts
set_option linter.unusedVariables false
set_option linter.unusedSimpArgs false
namespace Go.Proofs.Ytmbjcpjhlceenaa
open Go Go.Abs Go.Proofs
set_option maxRecDepth 100000
attribute [local irreducible] AEnd AW ACalls

/-- A book's contents. -/
def entries (l : List (List UInt8)) : List (V × V) := l.zipIdx.map fun p => (.s p.1, .i .i64 (p.2 + 1))
def BookAt (H : AH) (b : V) (l : List (List UInt8)) (F : List Nat) : Prop :=
  ∃ bid mid sv es clock Fs, b = .p (some (bid, 0, 0)) ∧ H.get bid = some (.cells [.m (some mid), sv] 0 false 0) ∧ H.get mid = some (.map es clock) ∧ Own H sv 1 (l.map .s) Fs ∧
    es.map (fun e => (e.1, e.2.1)) = entries l ∧ bid ≠ mid ∧ bid ∉ Fs ∧ mid ∉ Fs ∧ F = bid :: mid :: Fs ∧ l.Nodup
def enter (l : List (List UInt8)) (s : List UInt8) : List (List UInt8) := if s ∈ l then l else l ++ [s]

theorem enter_nil (H : AH) (s : List UInt8) : ACalls Try.prog 8 [.p none, .s s] H fun r H' => r = .tup [.i .i64 0, .i .i64 3] ∧ H' = H := by
  refine ACalls_body Try.func8 rfl rfl ?_
  refine AW_seq ?_
  refine AW_reg [0, 1] fun K hK => ?_ -- region 0
  simp [init_eq]
  refine hK _ _ ?_; clear hK K
  refine AW_seq ?_
  refine AW_block ?_
  refine AW_seq ?_
  refine AW_reg [0, 1, 8] fun K hK => ?_ -- region 1
  simp [init_eq]
  refine hK _ _ ?_; clear hK K
  refine AW_cond' rfl rfl (fun hc => ?_) (fun hc => ?_)
  · refine AW_seq ?_
    refine AW_reg [4, 5] fun K hK => ?_ -- region 2
    simp [init_eq]
    refine hK _ _ ?_; clear hK K
    refine AW_ret (end_ret rfl ?_)
    simp
  · cases hc

theorem entries_fst (l : List (List UInt8)) : (entries l).map (·.1) = l.map .s := by
  unfold entries
  rw [List.map_map]
  apply List.ext_getElem?
  intro i
  simp
  cases l[i]? <;> simp
theorem entries_get (l : List (List UInt8)) {i : Nat} (h : i < l.length) : (entries l)[i]? = some (.s l[i], .i .i64 ((i : Nat) + 1)) := by
  simp [entries, h]
theorem entries_snoc (l : List (List UInt8)) (s : List UInt8) : entries (l ++ [s]) = entries l ++ [(.s s, .i .i64 ((l.length : Nat) + 1))] := by
  simp [entries, List.zipIdx_append]
theorem keys {es : List (V × V × Nat)} {l : List (List UInt8)} (he : es.map (fun e => (e.1, e.2.1)) = entries l) : es.map (·.1) = l.map .s := by
  rw [← entries_fst, ← he, List.map_map]; rfl
theorem find_out {es : List (V × V × Nat)} {l : List (List UInt8)} {s : List UInt8} (he : es.map (fun e => (e.1, e.2.1)) = entries l) (hs : s ∉ l) : afind Try.prog 9 (.s s) es 0 = some none :=
  afind_out qstr_9 es l 0 (keys he) hs
theorem find_in {es : List (V × V × Nat)} {l : List (List UInt8)} {s : List UInt8} (he : es.map (fun e => (e.1, e.2.1)) = entries l) (hs : s ∈ l) : afind Try.prog 9 (.s s) es 0 = some (some (l.idxOf s, .i .i64 ((l.idxOf s : Nat) + 1))) := by
  obtain ⟨e, h1, h2⟩ := afind_in qstr_9 es l 0 (keys he) hs
  have hlt : l.idxOf s < l.length := List.idxOf_lt_length_of_mem hs
  have h3 : ((es.map fun e => (e.1, e.2.1))[l.idxOf s]?) = some (e.1, e.2.1) := by simp [h1]
  rw [he, entries_get l hlt] at h3
  simp at h3
  rw [h2, ← h3.2]; simp

theorem app22 : App Try.prog 22 22 1 16 := App.mk' qelem_22 qsize_9 qbytes_9 qzero_9 qsrc_22 rfl (by decide)

theorem enter_ok {H : AH} {b : V} {l : List (List UInt8)} {F : List Nat} (h : BookAt H b l F) (hl : l.length ≤ 1000000) (s : List UInt8) : ACalls Try.prog 8 [b, .s s] H fun r H' =>
    if 65536 < s.length then r = .tup [.i .i64 0, .i .i64 2] ∧ H' = H
    else ∃ F', r = .tup [.i .i64 (((enter l s).idxOf s : Nat) + 1), .i .i64 0] ∧ BookAt H' b (enter l s) F' ∧ Upd H H' F ∧ ∀ j ∈ F', j ∈ F ∨ H.next ≤ j := by
  have h0 := h
  obtain ⟨bid, mid, sv, es, clock, Fs, rfl, hb, hm, ho, he, h1, h2, h3, rfl, hn⟩ := h
  refine ACalls_body Try.func8 rfl rfl ?_
  refine AW_seq ?_
  refine AW_reg [0, 1] fun K hK => ?_ -- region 0
  simp [init_eq]
  refine hK _ _ ?_; clear hK K
  refine AW_seq ?_
  refine AW_block ?_
  refine AW_seq ?_
  refine AW_reg [0, 1, 8] fun K hK => ?_ -- region 1
  simp [init_eq]
  refine hK _ _ ?_; clear hK K
  refine AW_cond' rfl rfl (fun hc => ?_) (fun hc => ?_)
  · cases hc
  · refine AW_seq ?_
    refine AW_reg [0, 1, 11] fun K hK => ?_ -- region 3
    simp [init_eq, alen]
    refine hK _ _ ?_; clear hK K
    refine AW_cond' rfl rfl (fun hc => ?_) (fun hc => ?_)
    · refine AW_seq ?_
      refine AW_reg [4, 5] fun K hK => ?_ -- region 4
      simp [init_eq]
      refine hK _ _ ?_; clear hK K
      refine AW_ret (end_ret rfl ?_)
      simp at hc
      have : 65536 < s.length := by omega
      simp [this]
    · refine AW_skip ?_
      have hc' : ¬ 65536 < s.length := by simp at hc; omega
      simp only [hc', if_false]
      by_cases hs : s ∈ l
      · have hf := find_in he hs
        have hlk := alookup_hit (ok := true) qmap_47 qkey_9 (kf_9 _) hm hf
        refine AW_seq ?_
        refine AW_seq ?_
        refine AW_reg [0, 1, 6, 7] fun K hK => ?_ -- region 5
        simp [init_eq, afieldAddr, aload, hb, hlk]
        refine hK _ _ ?_; clear hK K
        refine AW_seq ?_
        refine AW_reg [0, 1, 6, 24] fun K hK => ?_ -- region 6
        simp [init_eq]
        refine hK _ _ ?_; clear hK K
        refine AW_cond' rfl rfl (fun hc => ?_) (fun hc => ?_)
        · refine AW_seq ?_
          refine AW_reg [4, 5] fun K hK => ?_ -- region 7
          simp [init_eq]
          refine hK _ _ ?_; clear hK K
          refine AW_ret (end_ret rfl ?_)
          have e : enter l s = l := if_pos hs
          rw [e]
          exact ⟨_, rfl, h0, Upd.refl _ _, fun j hj => .inl hj⟩
        · cases hc
      · have hf := find_out he hs
        have hlk := alookup_miss (ok := true) qmap_47 qkey_9 (kf_9 _) qzero_3 hm hf
        refine AW_seq ?_
        refine AW_seq ?_
        refine AW_reg [0, 1, 6, 7] fun K hK => ?_ -- region 5
        simp [init_eq, afieldAddr, aload, hb, hlk]
        refine hK _ _ ?_; clear hK K
        refine AW_seq ?_
        refine AW_reg [0, 1, 6, 24] fun K hK => ?_ -- region 6
        simp [init_eq]
        refine hK _ _ ?_; clear hK K
        refine AW_cond' rfl rfl (fun hc => ?_) (fun hc => ?_)
        · cases hc
        · refine AW_skip ?_
          refine AW_seq ?_
          refine AW_reg [0, 1] fun K hK => ?_ -- region 8
          simp [init_eq, afieldAddr, aload, hb, abuildSlice, afill, splice, V.cells]
          generalize hH1 : H.new (.cells [.s s] 0 false 1) = H1
          have u1 : Upd H H1 [] := hH1 ▸ Upd.new ..
          have hx : asource Try.prog H1 1 (.sl (some (H.next, 0, 0)) 1 false) = some ([.s s], 1) := by simp [asource, ← hH1, AH.get_new_same]
          have ho1 : Own H1 sv 1 (l.map .s) Fs := ho.upd u1 (by simp)
          obtain ⟨v', H2, F', ea, ho2, u2, hF⟩ := Own.append app22 ho1 hx (by simp) (by simp [roomOk]; omega)
          have hb2 := u2.keep h2 (u1.keep (by simp) hb)
          have hm2 := u2.keep h3 (u1.keep (by simp) hm)
          have lt1 := AH.get_lt hb
          have lt2 := AH.get_lt hm
          have hF1 : ∀ j ∈ F', j ≠ bid ∧ j ≠ mid := fun j hj => by
            rcases hF j hj with h | h
            · exact ⟨fun e => h2 (e ▸ h), fun e => h3 (e ▸ h)⟩
            · have := u1.1; exact ⟨by omega, by omega⟩
          rw [ea]
          simp [astore, hb2, ho2.cells, splice]
          generalize hH3 : H2.set bid (.cells [.m (some mid), v'] 0 false 0) = H3
          have u3 : Upd H2 H3 [bid] := hH3 ▸ Upd.set _ _ _ (by simp)
          have hb3 : H3.get bid = some (.cells [.m (some mid), v'] 0 false 0) := by rw [← hH3, AH.get_set_same (AH.get_lt hb2)]
          have hm3 := u3.keep (by simp; omega) hm2
          have ho3 : Own H3 v' 1 ((l ++ [s]).map .s) F' := by simpa using ho2.upd u3 (fun j hj => by simp [(hF1 j hj).1])
          refine hK _ _ ?_; clear hK K
          refine AW_seq ?_
          refine AW_regd [0] pl_8_9 pe_8_9 (by kernel_rfl) (by kernel_rfl) (by decide) fun K hK => ?_
          simp [init_eq, pl_8_9, afieldAddr, aload, hb3, ho3.len (P := Try.prog) (by decide) qelem_22, amapUpdate_miss qmap_47 qkey_9 (kf_9 _) hm3 hf]
          generalize hH4 : H3.set mid (.map (es ++ [(.s s, .i .i64 ((l.length : Nat) + 1), clock)]) (clock + 1)) = H4
          have u4 : Upd H3 H4 [mid] := hH4 ▸ Upd.set _ _ _ (by simp)
          have hb4 := u4.keep (by simp; omega) hb3
          have hm4 : H4.get mid = some (.map (es ++ [(.s s, .i .i64 ((l.length : Nat) + 1), clock)]) (clock + 1)) := by rw [← hH4, AH.get_set_same (AH.get_lt hm3)]
          have ho4 : Own H4 v' 1 ((l ++ [s]).map .s) F' := ho3.upd u4 (fun j hj => by simp [(hF1 j hj).2])
          refine hK _ _ ?_; clear hK K
          refine AW_seq ?_
          refine AW_reg [4, 5] fun K hK => ?_ -- region 10
          simp [init_eq, afieldAddr, aload, hb4, ho4.len (P := Try.prog) (by decide) qelem_22]
          refine hK _ _ ?_; clear hK K
          refine AW_ret (end_ret rfl ?_)
          have e : enter l s = l ++ [s] := if_neg hs
          rw [e]
          have e2 : (l ++ [s]).idxOf s = l.length := by rw [List.idxOf_append, if_neg hs]; simp
          rw [e2]
          have n1 := u1.1; have n2 := u2.1; have n3 := u3.1
          refine ⟨bid :: mid :: F', by simp, ⟨bid, mid, v', _, _, F', rfl, hb4, hm4, ho4, ?_, h1, fun h => (hF1 _ h).1 rfl, fun h => (hF1 _ h).2 rfl, rfl, ?_⟩, ?_, ?_⟩
          · rw [entries_snoc, List.map_append, he]; rfl
          · exact List.nodup_append.2 ⟨hn, by simp, fun a ha b hb => by simp at hb; subst hb; exact fun e => hs (e ▸ ha)⟩
          · refine Upd.trans (Upd.trans (Upd.trans (u1.mono (G := bid :: mid :: Fs) (by simp)) (u2.mono (G := bid :: mid :: Fs) (fun j hj => by simp [hj])) (fun j hj => .inl hj)) (u3.mono (G := bid :: mid :: Fs) (fun j hj => by simp at hj; simp [hj])) (fun j hj => .inl hj)) (u4.mono (G := bid :: mid :: Fs) (fun j hj => by simp at hj; simp [hj])) (fun j hj => .inl hj)
          · intro j hj
            simp at hj
            rcases hj with rfl | rfl | hj
            · simp
            · simp
            · rcases hF j hj with h | h
              · exact .inl (by simp [h])
              · exact .inr (by omega)
end Go.Proofs.Ytmbjcpjhlceenaa
