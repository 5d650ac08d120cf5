import Derived.Test.YtmbjcpjhlceenaaBook1
set_option linter.unusedVariables false
set_option linter.unusedSimpArgs false
namespace Go.Proofs.Ytmbjcpjhlceenaa
open Go Go.Abs Go.Proofs
set_option maxRecDepth 100000
attribute [local irreducible] AEnd AW ACalls

theorem new_ok (H : AH) : ACalls Try.prog 7 [] H fun r H' => ∃ F, BookAt H' r [] F ∧ Upd H H' [] ∧ ∀ j ∈ F, H.next ≤ j := by
  refine ACalls_body Try.func7 rfl rfl ?_
  refine AW_seq ?_
  refine AW_reg [] fun K hK => ?_ -- region 0
  simp [init_eq]
  refine hK _ _ ?_; clear hK K
  refine AW_seq ?_
  refine AW_reg [0] fun K hK => ?_ -- region 1
  simp [init_eq, abuild, afill, splice, V.cells]
  refine hK _ _ ?_; clear hK K
  refine AW_ret (end_ret rfl ?_)
  generalize hH1 : H.new (.map [] 0) = H1
  have u1 : Upd H H1 [] := hH1 ▸ Upd.new ..
  have e1 : H1.next = H.next + 1 := by rw [← hH1]; rfl
  have g1 : H1.get H.next = some (.map [] 0) := by rw [← hH1, AH.get_new_same]
  generalize hH2 : H1.new (.cells [.m (some H.next), .sl none 0 false] 0 false 0) = H2
  have u2 : Upd H1 H2 [] := hH2 ▸ Upd.new ..
  refine ⟨[H.next + 1, H.next], ⟨H.next + 1, H.next, .sl none 0 false, [], 0, [], rfl, ?_, u2.keep (by simp) g1, Own.nil _ _ _, rfl, by omega, by simp, by simp, rfl, by simp⟩, u1.trans u2 (by simp), by simp⟩
  rw [← hH2, ← e1, AH.get_new_same]

theorem look_nil (H : AH) (s : List UInt8) : ACalls Try.prog 9 [.p none, .s s] H fun r H' => r = .tup [.i .i64 0, .i .i64 3] ∧ H' = H := by
  refine ACalls_body Try.func9 rfl rfl ?_
  refine AW_seq ?_
  refine AW_reg [0, 1] fun K hK => ?_ -- region 0
  simp [init_eq]
  refine hK _ _ ?_; clear hK K
  refine AW_seq ?_
  refine AW_seq ?_
  refine AW_reg [0, 1, 9] fun K hK => ?_ -- region 1
  simp [init_eq]
  refine hK _ _ ?_; clear hK K
  refine AW_cond' rfl rfl (fun hc => ?_) (fun hc => ?_)
  · refine AW_seq ?_
    refine AW_reg [4, 5] fun K hK => ?_ -- region 2
    simp [init_eq]
    refine hK _ _ ?_; clear hK K
    refine AW_ret (end_ret rfl ?_)
    simp
  · cases hc

theorem look_ok {H : AH} {b : V} {l : List (List UInt8)} {F : List Nat} (h : BookAt H b l F) (s : List UInt8) : ACalls Try.prog 9 [b, .s s] H fun r H' =>
    r = (if s ∈ l then .tup [.i .i64 ((l.idxOf s : Nat) + 1), .i .i64 0] else .tup [.i .i64 0, .i .i64 50]) ∧ H' = H := by
  obtain ⟨bid, mid, sv, es, clock, Fs, rfl, hb, hm, ho, he, h1, h2, h3, rfl, hn⟩ := h
  refine ACalls_body Try.func9 rfl rfl ?_
  refine AW_seq ?_
  refine AW_reg [0, 1] fun K hK => ?_ -- region 0
  simp [init_eq]
  refine hK _ _ ?_; clear hK K
  refine AW_seq ?_
  refine AW_seq ?_
  refine AW_reg [0, 1, 9] fun K hK => ?_ -- region 1
  simp [init_eq]
  refine hK _ _ ?_; clear hK K
  refine AW_cond' rfl rfl (fun hc => ?_) (fun hc => ?_)
  · cases hc
  · refine AW_skip ?_
    by_cases hs : s ∈ l
    · have hlk := alookup_hit (ok := true) qmap_47 qkey_9 (kf_9 _) hm (find_in he hs)
      refine AW_seq ?_
      refine AW_reg [6, 7] fun K hK => ?_ -- region 3
      simp [init_eq, afieldAddr, aload, hb, hlk]
      refine hK _ _ ?_; clear hK K
      refine AW_seq ?_
      refine AW_seq ?_
      refine AW_reg [6, 20] fun K hK => ?_ -- region 4
      simp [init_eq]
      refine hK _ _ ?_; clear hK K
      refine AW_cond' rfl rfl (fun hc => ?_) (fun hc => ?_)
      · cases hc
      · refine AW_skip ?_
        refine AW_seq ?_
        refine AW_reg [4, 5] fun K hK => ?_ -- region 6
        simp [init_eq]
        refine hK _ _ ?_; clear hK K
        refine AW_ret (end_ret rfl ?_)
        simp [hs]
    · have hlk := alookup_miss (ok := true) qmap_47 qkey_9 (kf_9 _) qzero_3 hm (find_out he hs)
      refine AW_seq ?_
      refine AW_reg [6, 7] fun K hK => ?_ -- region 3
      simp [init_eq, afieldAddr, aload, hb, hlk]
      refine hK _ _ ?_; clear hK K
      refine AW_seq ?_
      refine AW_seq ?_
      refine AW_reg [6, 20] fun K hK => ?_ -- region 4
      simp [init_eq]
      refine hK _ _ ?_; clear hK K
      refine AW_cond' rfl rfl (fun hc => ?_) (fun hc => ?_)
      · refine AW_seq ?_
        refine AW_reg [4, 5] fun K hK => ?_ -- region 5
        simp [init_eq]
        refine hK _ _ ?_; clear hK K
        refine AW_ret (end_ret rfl ?_)
        simp [hs]
      · cases hc

theorem content_nil (H : AH) (n : Int) : ACalls Try.prog 10 [.p none, .i .i64 n] H fun r H' => r = .tup [.s [], .i .i64 3] ∧ H' = H := by
  refine ACalls_body Try.func10 rfl rfl ?_
  refine AW_seq ?_
  refine AW_reg [0, 1] fun K hK => ?_ -- region 0
  simp [init_eq]
  refine hK _ _ ?_; clear hK K
  refine AW_seq ?_
  refine AW_block ?_
  refine AW_seq ?_
  refine AW_reg [0, 1, 6] fun K hK => ?_ -- region 1
  simp [init_eq]
  refine hK _ _ ?_; clear hK K
  refine AW_cond' rfl rfl (fun hc => ?_) (fun hc => ?_)
  · refine AW_seq ?_
    refine AW_reg [4, 5] fun K hK => ?_ -- region 2
    simp [init_eq]
    refine hK _ _ ?_; clear hK K
    refine AW_ret (end_ret rfl ?_)
    simp
  · cases hc

theorem content_ok {H : AH} {b : V} {l : List (List UInt8)} {F : List Nat} (h : BookAt H b l F) (hl : l.length ≤ 1000000) (n : Int) : ACalls Try.prog 10 [b, .i .i64 n] H fun r H' =>
    r = (match (if 1 ≤ n then l[(n - 1).toNat]? else none) with | some s => .tup [.s s, .i .i64 0] | none => .tup [.s [], .i .i64 50]) ∧ H' = H := by
  obtain ⟨bid, mid, sv, es, clock, Fs, rfl, hb, hm, ho, he, h1, h2, h3, rfl, hn⟩ := h
  have hlen := ho.len (P := Try.prog) (H' := H) (by decide) qelem_22
  refine ACalls_body Try.func10 rfl rfl ?_
  refine AW_seq ?_
  refine AW_reg [0, 1] fun K hK => ?_ -- region 0
  simp [init_eq]
  refine hK _ _ ?_; clear hK K
  refine AW_seq ?_
  refine AW_block ?_
  refine AW_seq ?_
  refine AW_reg [0, 1, 6] fun K hK => ?_ -- region 1
  simp [init_eq]
  refine hK _ _ ?_; clear hK K
  refine AW_cond' rfl rfl (fun hc => ?_) (fun hc => ?_)
  · cases hc
  · refine AW_seq ?_
    by_cases hn1 : n < 1
    · refine AW_reg [0, 1, 9] fun K hK => ?_ -- region 3
      simp [init_eq, hn1]
      refine hK _ _ ?_; clear hK K
      refine AW_cond' rfl rfl (fun hc => ?_) (fun hc => ?_)
      · refine AW_seq ?_
        refine AW_reg [4, 5] fun K hK => ?_ -- region 4
        simp [init_eq]
        refine hK _ _ ?_; clear hK K
        refine AW_ret (end_ret rfl ?_)
        have : ¬ 1 ≤ n := by omega
        simp [this]
      · cases hc
    · by_cases hn2 : l.length < n
      · refine AW_reg [0, 1, 9] fun K hK => ?_ -- region 3
        simp [init_eq, hn1, afieldAddr, aload, hb, hlen, hn2]
        refine hK _ _ ?_; clear hK K
        refine AW_cond' rfl rfl (fun hc => ?_) (fun hc => ?_)
        · refine AW_seq ?_
          refine AW_reg [4, 5] fun K hK => ?_ -- region 4
          simp [init_eq]
          refine hK _ _ ?_; clear hK K
          refine AW_ret (end_ret rfl ?_)
          have e : l[(n - 1).toNat]? = none := List.getElem?_eq_none (by omega)
          have : 1 ≤ n := by omega
          rw [if_pos this, e]
          exact ⟨rfl, rfl⟩
        · cases hc
      · refine AW_reg [0, 1, 9] fun K hK => ?_ -- region 3
        simp [init_eq, hn1, afieldAddr, aload, hb, hlen, hn2]
        refine hK _ _ ?_; clear hK K
        refine AW_cond' rfl rfl (fun hc => ?_) (fun hc => ?_)
        · cases hc
        · refine AW_skip ?_
          refine AW_seq ?_
          refine AW_reg [4, 5] fun K hK => ?_ -- region 5
          obtain ⟨a, ha, hl⟩ := ho.sl.at1 (P := Try.prog) (k := .i64) (i := n - 1) qelem_22 qsize_9 qagg_9 (by omega) (by simp; omega)
          have hlt : (n - 1).toNat < l.length := by omega
          have l1 : aload Try.prog H 22 (.p (some (bid, 0, 1))) = some sv := by simp [aload, hb]
          have hl' : aload Try.prog H 9 a = some (.s l[(n - 1).toNat]) := by rw [hl]; simp [hlt]
          simp [init_eq, afieldAddr, l1, wrap_id (x := n - 1) (by omega) (by omega), ha, hl']
          refine hK _ _ ?_; clear hK K
          refine AW_ret (end_ret rfl ?_)
          have : 1 ≤ n := by omega
          have e5 : (n - 1).toNat = n.toNat - 1 := by omega
          rw [if_pos this, List.getElem?_eq_getElem hlt]
          simp [e5]

theorem len_nil (H : AH) : ACalls Try.prog 14 [.p none] H fun r H' => r = .i .i64 0 ∧ H' = H := by
  refine ACalls_body Try.func14 rfl rfl ?_
  refine AW_seq ?_
  refine AW_reg [0] fun K hK => ?_ -- region 0
  simp [init_eq]
  refine hK _ _ ?_; clear hK K
  refine AW_seq ?_
  refine AW_seq ?_
  refine AW_reg [0, 4] fun K hK => ?_ -- region 1
  simp [init_eq]
  refine hK _ _ ?_; clear hK K
  refine AW_cond' rfl rfl (fun hc => ?_) (fun hc => ?_)
  · refine AW_seq ?_
    refine AW_reg [2] fun K hK => ?_ -- region 2
    simp [init_eq]
    refine hK _ _ ?_; clear hK K
    refine AW_ret (end_ret rfl ?_)
    simp
  · cases hc

theorem len_ok {H : AH} {b : V} {l : List (List UInt8)} {F : List Nat} (h : BookAt H b l F) : ACalls Try.prog 14 [b] H fun r H' => r = .i .i64 l.length ∧ H' = H := by
  obtain ⟨bid, mid, sv, es, clock, Fs, rfl, hb, hm, ho, he, h1, h2, h3, rfl, hn⟩ := h
  have hlen := ho.len (P := Try.prog) (H' := H) (by decide) qelem_22
  refine ACalls_body Try.func14 rfl rfl ?_
  refine AW_seq ?_
  refine AW_reg [0] fun K hK => ?_ -- region 0
  simp [init_eq]
  refine hK _ _ ?_; clear hK K
  refine AW_seq ?_
  refine AW_seq ?_
  refine AW_reg [0, 4] fun K hK => ?_ -- region 1
  simp [init_eq]
  refine hK _ _ ?_; clear hK K
  refine AW_cond' rfl rfl (fun hc => ?_) (fun hc => ?_)
  · cases hc
  · refine AW_skip ?_
    refine AW_seq ?_
    refine AW_reg [2] fun K hK => ?_ -- region 3
    simp [init_eq, afieldAddr, aload, hb, hlen]
    refine hK _ _ ?_; clear hK K
    refine AW_ret (end_ret rfl ?_)
    simp
end Go.Proofs.Ytmbjcpjhlceenaa
