import Derived.Test.YtmbjcpjhlceenaaBook3
set_option linter.unusedVariables false
set_option linter.unusedSimpArgs false
namespace Go.Proofs.Ytmbjcpjhlceenaa
open Go Go.Abs Go.Proofs
set_option maxRecDepth 100000
attribute [local irreducible] AEnd AW ACalls

/-- The document's book. -/
def RefAt (H : AH) (b : V) (l : List (List UInt8)) (F : List Nat) : Prop :=
  ∃ bid sv Fs, b = .p (some (bid, 0, 0)) ∧ H.get bid = some (.cells [sv] 0 false 0) ∧ Own H sv 1 (l.map .s) Fs ∧ bid ∉ Fs ∧ F = bid :: Fs

theorem ref_look {H : AH} {b : V} {l : List (List UInt8)} {F : List Nat} (h : RefAt H b l F) (hl : l.length ≤ 1000000) (s : List UInt8) : ACalls Try.prog 12 [b, .s s] H fun r H' =>
    r = .i .i64 (if s ∈ l then (l.idxOf s : Nat) + 1 else 0) ∧ H' = H := by
  obtain ⟨bid, sv, Fs, rfl, hb, ho, h1, rfl⟩ := h
  have hlen := ho.len (P := Try.prog) (H' := H) (by decide) qelem_22
  have l1 : aload Try.prog H 22 (.p (some (bid, 0, 0))) = some sv := by simp [aload, hb]
  refine ACalls_body Try.func12 rfl rfl ?_
  refine AW_seq ?_
  refine AW_reg [0, 1] fun K hK => ?_ -- region 0
  simp [init_eq]
  refine hK _ _ ?_; clear hK K
  refine AW_seq ?_
  refine AW_seq ?_
  refine AW_reg [0, 1, 5] fun K hK => ?_ -- region 1
  simp [init_eq]
  refine hK _ _ ?_; clear hK K
  refine AW_block ?_
  refine AW_loopx (fun i : Nat => ⟨26, [(0, .p (some (bid, 0, 0))), (1, .s s), (5, .i .i64 i)]⟩) (fun i H' => H' = H ∧ i ≤ l.length ∧ s ∉ l.take i) (fun i => l.length - i) 0 (by simp) ⟨rfl, by omega, by simp⟩ fun i H' hM => ?_ -- loop
  obtain ⟨rfl, hi, hns⟩ := hM
  refine AW_seq ?_
  refine AW_seq ?_
  refine AW_reg [0, 1, 5, 12] fun K hK => ?_ -- region 2
  simp [init_eq, afieldAddr, l1, hlen]
  refine hK _ _ ?_; clear hK K
  refine AW_cond' rfl rfl (fun hc => ?_) (fun hc => ?_)
  · have hlt : i < l.length := by simpa using hc
    obtain ⟨a, ha, hl0⟩ := ho.sl.at1 (P := Try.prog) (k := .i64) (i := i) qelem_22 qsize_9 qagg_9 (by omega) (by simpa using hlt)
    have hl' : aload Try.prog H' 9 a = some (.s l[i]) := by rw [hl0]; simp [hlt]
    refine AW_skip ?_
    refine AW_seq ?_
    refine AW_block ?_
    refine AW_seq ?_
    refine AW_reg [0, 1, 5, 23] fun K hK => ?_ -- region 4
    simp [init_eq, afieldAddr, l1, ha, hl']
    refine hK _ _ ?_; clear hK K
    refine AW_cond' rfl rfl (fun hc => ?_) (fun hc => ?_)
    · have he : l[i] = s := by simpa using hc
      refine AW_seq ?_
      refine AW_reg [4] fun K hK => ?_ -- region 5
      simp [init_eq, wrap_id (x := (i : Int) + 1) (by omega) (by omega)]
      refine hK _ _ ?_; clear hK K
      refine AW_ret (end_ret rfl ?_)
      have hm : s ∈ l := he ▸ List.getElem_mem hlt
      have hix : l.idxOf s = i := by
        have e : l = l.take i ++ l[i] :: l.drop (i + 1) := by simp
        rw [e, List.idxOf_append, if_neg hns, he]
        simp; omega
      simp [hm, hix]
    · have he : l[i] ≠ s := by simpa using hc
      refine AW_skip ?_
      refine AW_reg [0, 1, 5] fun K hK => ?_ -- region 3
      simp [init_eq, wrap_id (x := (i : Int) + 1) (by omega) (by omega)]
      refine hK _ _ ?_; clear hK K
      refine rend ⟨i + 1, by simp, ⟨rfl, by omega, ?_⟩, by omega⟩ -- round's end
      rw [List.take_succ_eq_append_getElem hlt, List.mem_append, not_or]
      exact ⟨hns, fun e => he (by simpa using (List.mem_singleton.1 e).symm)⟩
  · have hge : i = l.length := by
      have : ¬ i < l.length := by simpa using hc
      omega
    refine AW_exit (then_exit (then_exit (block_here ?_)))
    refine AW_seq ?_
    refine AW_reg [4] fun K hK => ?_ -- region 6
    simp [init_eq]
    refine hK _ _ ?_; clear hK K
    refine AW_ret (end_ret rfl ?_)
    rw [hge] at hns
    simp at hns
    simp [hns]

theorem ref_content {H : AH} {b : V} {l : List (List UInt8)} {F : List Nat} (h : RefAt H b l F) (hl : l.length ≤ 1000000) (n : Int) : ACalls Try.prog 13 [b, .i .i64 n] H fun r H' =>
    r = (match (if 1 ≤ n then l[(n - 1).toNat]? else none) with | some s => .tup [.s s, .b true] | none => .tup [.s [], .b false]) ∧ H' = H := by
  obtain ⟨bid, sv, Fs, rfl, hb, ho, h1, rfl⟩ := h
  have hlen := ho.len (P := Try.prog) (H' := H) (by decide) qelem_22
  have l1 : aload Try.prog H 22 (.p (some (bid, 0, 0))) = some sv := by simp [aload, hb]
  refine ACalls_body Try.func13 rfl rfl ?_
  refine AW_seq ?_
  refine AW_reg [0, 1] fun K hK => ?_ -- region 0
  simp [init_eq]
  refine hK _ _ ?_; clear hK K
  refine AW_seq ?_
  refine AW_seq ?_
  refine AW_reg [0, 1, 6] fun K hK => ?_ -- region 1
  simp [init_eq]
  refine hK _ _ ?_; clear hK K
  refine AW_block ?_
  refine AW_loopx (fun i : Nat => ⟨27, [(0, .p (some (bid, 0, 0))), (1, .i .i64 n), (6, .i .i64 i)]⟩) (fun i H' => H' = H ∧ i ≤ l.length ∧ ¬ (1 ≤ n ∧ n ≤ i)) (fun i => l.length - i) 0 (by simp) ⟨rfl, by omega, by omega⟩ fun i H' hM => ?_ -- loop
  obtain ⟨rfl, hi, hns⟩ := hM
  refine AW_seq ?_
  refine AW_seq ?_
  refine AW_reg [0, 1, 6, 13] fun K hK => ?_ -- region 2
  simp [init_eq, afieldAddr, l1, hlen]
  refine hK _ _ ?_; clear hK K
  refine AW_cond' rfl rfl (fun hc => ?_) (fun hc => ?_)
  · have hlt : i < l.length := by simpa using hc
    obtain ⟨a, ha, hl0⟩ := ho.sl.at1 (P := Try.prog) (k := .i64) (i := i) qelem_22 qsize_9 qagg_9 (by omega) (by simpa using hlt)
    have hl' : aload Try.prog H' 9 a = some (.s l[i]) := by rw [hl0]; simp [hlt]
    refine AW_skip ?_
    refine AW_seq ?_
    refine AW_block ?_
    refine AW_seq ?_
    refine AW_reg [0, 1, 6, 19] fun K hK => ?_ -- region 4
    simp [init_eq, wrap_id (x := (i : Int) + 1) (by omega) (by omega)]
    refine hK _ _ ?_; clear hK K
    refine AW_cond' rfl rfl (fun hc => ?_) (fun hc => ?_)
    · have he : (i : Int) + 1 = n := by simpa using hc
      refine AW_seq ?_
      refine AW_reg [4, 5] fun K hK => ?_ -- region 5
      simp [init_eq, afieldAddr, l1, ha, hl']
      refine hK _ _ ?_; clear hK K
      refine AW_ret (end_ret rfl ?_)
      have e1 : 1 ≤ n := by omega
      have e2 : (n - 1).toNat = i := by omega
      rw [if_pos e1, e2, List.getElem?_eq_getElem hlt]
      exact ⟨rfl, rfl⟩
    · have he : (i : Int) + 1 ≠ n := by simpa using hc
      refine AW_skip ?_
      refine AW_reg [0, 1, 6] fun K hK => ?_ -- region 3
      simp [init_eq, wrap_id (x := (i : Int) + 1) (by omega) (by omega)]
      refine hK _ _ ?_; clear hK K
      exact rend ⟨i + 1, by simp, ⟨rfl, by omega, by omega⟩, by omega⟩ -- round's end
  · have hge : i = l.length := by
      have : ¬ i < l.length := by simpa using hc
      omega
    refine AW_exit (then_exit (then_exit (block_here ?_)))
    refine AW_seq ?_
    refine AW_reg [4, 5] fun K hK => ?_ -- region 6
    simp [init_eq]
    refine hK _ _ ?_; clear hK K
    refine AW_ret (end_ret rfl ?_)
    by_cases h1n : 1 ≤ n
    · have e : l[(n - 1).toNat]? = none := List.getElem?_eq_none (by omega)
      rw [if_pos h1n, e]
      exact ⟨rfl, rfl⟩
    · rw [if_neg h1n]
      exact ⟨rfl, rfl⟩

theorem ref_enter {H : AH} {b : V} {l : List (List UInt8)} {F : List Nat} (h : RefAt H b l F) (hl : l.length ≤ 1000000) (s : List UInt8) : ACalls Try.prog 11 [b, .s s] H fun r H' =>
    if 65536 < s.length then r = .tup [.i .i64 0, .i .i64 2] ∧ H' = H
    else ∃ F', r = .tup [.i .i64 (((enter l s).idxOf s : Nat) + 1), .i .i64 0] ∧ RefAt H' b (enter l s) F' ∧ Upd H H' F ∧ ∀ j ∈ F', j ∈ F ∨ H.next ≤ j := by
  have h0 := h
  obtain ⟨bid, sv, Fs, rfl, hb, ho, h1, rfl⟩ := h
  have l1 : aload Try.prog H 22 (.p (some (bid, 0, 0))) = some sv := by simp [aload, hb]
  refine ACalls_body Try.func11 rfl rfl ?_
  refine AW_seq ?_
  refine AW_reg [0, 1] fun K hK => ?_ -- region 0
  simp [init_eq]
  refine hK _ _ ?_; clear hK K
  refine AW_seq ?_
  refine AW_seq ?_
  refine AW_reg [0, 1, 9] fun K hK => ?_ -- region 1
  simp [init_eq, alen]
  refine hK _ _ ?_; clear hK K
  refine AW_cond' rfl rfl (fun hc => ?_) (fun hc => ?_)
  · refine AW_seq ?_
    refine AW_reg [4, 5] fun K hK => ?_ -- region 2
    simp [init_eq]
    refine hK _ _ ?_; clear hK K
    refine AW_ret (end_ret rfl ?_)
    have : 65536 < s.length := by simp at hc; omega
    simp [this]
  · have hc' : ¬ 65536 < s.length := by simp at hc; omega
    simp only [hc', if_false]
    refine AW_skip ?_
    refine AW_seq ?_
    refine AW_reg [0, 1, 6] fun K hK => ?_ -- region 3
    simp [init_eq]
    refine ACalls.mono (ref_look h0 hl s) fun r H' ⟨hr, e⟩ => ?_ -- (*hallmoot/hallmootref05.Book).Look
    subst hr e
    try simp
    refine hK _ _ ?_; clear hK K
    by_cases hs : s ∈ l
    · simp only [hs, if_true]
      refine AW_seq ?_
      refine AW_seq ?_
      refine AW_reg [0, 1, 6, 14] fun K hK => ?_ -- region 4
      simp [init_eq]
      refine hK _ _ ?_; clear hK K
      refine AW_cond' rfl rfl (fun hc => ?_) (fun hc => ?_)
      · simp at hc; omega
      · refine AW_skip ?_
        refine AW_seq ?_
        refine AW_reg [4, 5] fun K hK => ?_ -- region 7
        simp [init_eq]
        refine hK _ _ ?_; clear hK K
        refine AW_ret (end_ret rfl ?_)
        have e : enter l s = l := if_pos hs
        rw [e]
        exact ⟨_, rfl, h0, Upd.refl _ _, fun j hj => .inl hj⟩
    · simp only [hs, if_false]
      refine AW_seq ?_
      refine AW_seq ?_
      refine AW_reg [0, 1, 6, 14] fun K hK => ?_ -- region 4
      simp [init_eq]
      refine hK _ _ ?_; clear hK K
      refine AW_cond' rfl rfl (fun hc => ?_) (fun hc => ?_)
      · refine AW_seq ?_
        refine AW_reg [0] fun K hK => ?_ -- region 5
        simp [init_eq, abuildSlice, afill, splice, V.cells, afieldAddr]
        generalize hH1 : H'.new (.cells [] 0 false 1) = H1
        have u1 : Upd H' H1 [] := hH1 ▸ Upd.new ..
        have o1 : Own H1 (.sl (some (H'.next, 0, 0)) 0 false) 1 [] [H'.next] := .inr ⟨_, _, _, rfl, by rw [← hH1, AH.get_new_same], by simp, rfl⟩
        have hb1 := u1.keep (by simp) hb
        have ho1 : Own H1 sv 1 (l.map .s) Fs := ho.upd u1 (by simp)
        have l2 : aload Try.prog H1 22 (.p (some (bid, 0, 0))) = some sv := by simp [aload, hb1]
        obtain ⟨v2, H2, F2, e2, o2, u2, f2⟩ := Own.append app22 o1 (ho1.sl.asource (by decide)) (by simp) (by simp [roomOk]; omega)
        have lt0 := AH.get_lt hb
        have n1 := u1.1; have n2 := u2.1
        have hb2 := u2.keep (by simp; omega) hb1
        simp [l2, e2]
        generalize hH3 : H2.new (.cells [.s s] 0 false 1) = H3
        have u3 : Upd H2 H3 [] := hH3 ▸ Upd.new ..
        have hx : asource Try.prog H3 1 (.sl (some (H2.next, 0, 0)) 1 false) = some ([.s s], 1) := by simp [asource, ← hH3, AH.get_new_same]
        obtain ⟨v4, H4, F4, e4, o4, u4, f4⟩ := Own.append app22 (o2.upd u3 (by simp)) hx (by simp) (by simp [roomOk]; omega)
        have n3 := u3.1; have n4 := u4.1
        have hF2 : ∀ j ∈ F2, H'.next ≤ j := fun j hj => by
          rcases f2 j hj with h | h
          · simp at h; omega
          · omega
        have hF4 : ∀ j ∈ F4, H'.next ≤ j := fun j hj => by
          rcases f4 j hj with h | h
          · exact hF2 j h
          · omega
        have hb3 := u3.keep (by simp) hb2
        have hb4 := u4.keep (fun h => by have := hF2 _ h; omega) hb3
        simp [e4, astore, hb4, o4.cells, splice]
        generalize hH5 : H4.set bid (.cells [v4] 0 false 0) = H5
        have u5 : Upd H4 H5 [bid] := hH5 ▸ Upd.set _ _ _ (by simp)
        have hb5 : H5.get bid = some (.cells [v4] 0 false 0) := by rw [← hH5, AH.get_set_same (AH.get_lt hb4)]
        have o5 : Own H5 v4 1 ((l ++ [s]).map .s) F4 := by simpa using o4.upd u5 (fun j hj => by have := hF4 j hj; simp; omega)
        refine hK _ _ ?_; clear hK K
        refine AW_reg [6] fun K hK => ?_ -- region 6
        simp [init_eq, afieldAddr, aload, hb5, o5.len (P := Try.prog) (by decide) qelem_22]
        refine hK _ _ ?_; clear hK K
        refine AW_seq ?_
        refine AW_reg [4, 5] fun K hK => ?_ -- region 7
        simp [init_eq]
        refine hK _ _ ?_; clear hK K
        refine AW_ret (end_ret rfl ?_)
        have e : enter l s = l ++ [s] := if_neg hs
        have ee : (l ++ [s]).idxOf s = l.length := by rw [List.idxOf_append, if_neg hs]; simp
        rw [e, ee]
        refine ⟨bid :: F4, by simp, ⟨bid, v4, F4, rfl, hb5, o5, fun h => by have := hF4 _ h; omega, rfl⟩, ?_, fun j hj => ?_⟩
        · refine Upd.trans (Upd.trans (Upd.trans (Upd.trans (u1.mono (G := bid :: Fs) (by simp)) u2 (fun j hj => .inr (by simp at hj; omega))) u3 (by simp)) u4 (fun j hj => .inr (hF2 j hj))) u5 (fun j hj => .inl (by simp at hj; simp [hj]))
        · simp at hj
          rcases hj with rfl | hj
          · exact .inl (by simp)
          · exact .inr (hF4 j hj)
      · cases hc
end Go.Proofs.Ytmbjcpjhlceenaa
