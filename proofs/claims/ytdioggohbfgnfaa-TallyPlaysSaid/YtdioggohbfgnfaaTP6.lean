/-
  The program's tally: DeleteFunc for filled maps, Forget.
-/
import Derived.Test.YtdioggohbfgnfaaTP5
set_option linter.unusedVariables false
set_option linter.unusedSimpArgs false
namespace Go.Proofs.Ytdioggohbfgnfaa
open Go Go.Abs Go.Proofs
set_option maxRecDepth 100000
attribute [local irreducible] AEnd AW ACalls

theorem wf_mapT {H : AH} (h : H.wf) (k : Nat) (es : Turns) (clk : Nat) : (H.set k (.map (ents tke tve es) clk)).wf := by
  intro id o ho
  rw [AH.get_set] at ho
  rw [AH.next_set]
  split at ho
  · split at ho
    · cases ho
      simp only [O.lt]
      constructor <;> refine V.lts_iff.2 fun x hx => ?_
      · simp only [ents, List.map_map, List.mem_map, Function.comp] at hx
        obtain ⟨e, _, rfl⟩ := hx
        simp [tke]
      · simp only [ents, List.map_map, List.mem_map, Function.comp] at hx
        obtain ⟨e, _, rfl⟩ := hx
        simp [tve]
    · cases ho
  · exact h id o ho
theorem wf_mapI {H : AH} (h : H.wf) (k : Nat) (es : Sets) (clk : Nat) : (H.set k (.map (ents keyI u32 es) clk)).wf := by
  intro id o ho
  rw [AH.get_set] at ho
  rw [AH.next_set]
  split at ho
  · split at ho
    · cases ho
      simp only [O.lt]
      constructor <;> refine V.lts_iff.2 fun x hx => ?_
      · simp only [ents, List.map_map, List.mem_map, Function.comp] at hx
        obtain ⟨e, _, rfl⟩ := hx
        simp [keyI]
      · simp only [ents, List.map_map, List.mem_map, Function.comp] at hx
        obtain ⟨e, _, rfl⟩ := hx
        simp
    · cases ho
  · exact h id o ho
theorem delT_ok (H : AH) {m : Nat} {es : Turns} {clk : Nat} (hm : H.get m = some (.map (ents tke tve es) clk)) (hok : MOk es clk) {df : FuncId} {caps : List V} (p : Int × Int → Bool)
    (hdel : ∀ H', (∀ j, j < H.next → j ≠ m → H'.get j = H.get j) → ∀ (k : Int × Int) (s : Tmo), ACalls Try.prog df ([tke k, tve s] ++ caps) H' fun r H'' => r = .b (p k) ∧ H'' = H') :
    ACalls Try.prog 35 [.m (some m), .fn (.func df) [] caps] H fun r H' => r = .tup [] ∧ H' = H.set m (.map (ents tke tve (es.filter fun e => !p e.1)) clk) := by
  have hml := AH.get_lt hm
  refine ACalls.wf (fun hw _ => ACalls.gcTo (Q := fun r H' => r = .tup [] ∧ H' = H.set m (.map (ents tke tve (es.filter fun e => !p e.1)) clk)) ?_) ⟨_, Try.func35, rfl, rfl⟩
  refine ACalls_body Try.func35 rfl rfl ?_
  refine AW_seq ?_
  refine AW_reg [0, 1, 7] fun K hK => ?_ -- region 0
  simp [init_eq, arange, hm]
  generalize hH1 : H.new (.mapIter (some m) clk [] clk) = H1
  have hn1 : H1.next = H.next + 1 := by rw [← hH1]; simp
  have hi1 : H1.get H.next = some (.mapIter (some m) clk [] clk) := by rw [← hH1]; simp [AH.get_new]
  have ho1 : ∀ j, j < H.next → H1.get j = H.get j := fun j hj => by rw [← hH1]; simp [AH.get_new]; omega
  refine hK _ _ ?_; clear hK K
  refine AW_block ?_
  refine AW_loopx (fun _ : List Nat => ⟨19, [(0, .m (some m)), (1, .fn (.func df) [] caps), (7, .p (some (H.next, 0, 0)))]⟩)
    (fun seen G => H.next < G.next ∧ G.get H.next = some (.mapIter (some m) clk seen clk) ∧ G.get m = some (.map (ents tke tve (Go.Abs.leftOf es seen p)) clk) ∧ (∀ j, j < H.next → j ≠ m → G.get j = H.get j))
    (fun seen => unseen es seen) [] (by simp) ⟨by omega, hi1, ?_, fun j hj _ => ho1 j hj⟩ fun seen G hM => ?_ -- loop
  · rw [ho1 m hml, hm]; rw [leftOf_nil]
  obtain ⟨g1, g2, g3, g4⟩ := hM
  have hlo : MOk (Go.Abs.leftOf es seen p) clk := hok.filter _
  refine AW_seq ?_
  refine AW_reg [0, 1, 7, 9] fun K hK => ?_ -- region 1
  simp [init_eq]
  unfold ANext
  simp only [g2, g3]
  refine ⟨?_, fun e he hns => ?_, fun hall => ?_⟩
  · rcases hl : Go.Abs.leftOf es seen p with _ | ⟨e, l⟩
    · exact .inr (.inl rfl)
    · refine .inr (.inr ⟨(tke e.1, tve e.2.1, e.2.2), by simp [ents], ?_⟩)
      exact hlo.past e (by rw [hl]; simp)
  · -- another round
    simp only [ents, List.mem_map] at he
    obtain ⟨e, he, rfl⟩ := he
    simp only at hns ⊢
    have hees : e ∈ es := (List.mem_filter.1 he).1
    simp
    refine hK _ _ ?_; clear hK K
    generalize hG1 : G.set H.next _ = G1
    have n1 : G1.next = G.next := by rw [← hG1]; simp
    have hmn : m ≠ H.next := by omega
    have a2 : G1.get H.next = some (.mapIter (some m) clk (seen ++ [e.2.2]) clk) := by rw [← hG1]; simp [AH.get_set, g1]
    have a3 : G1.get m = some (.map (ents tke tve (Go.Abs.leftOf es seen p)) clk) := by rw [← hG1]; simp [AH.get_set, hmn, g3]
    have a4 : ∀ j, j < H.next → j ≠ m → G1.get j = H.get j := fun j hj hm' => by rw [← hG1]; simp [AH.get_set, show j ≠ H.next by omega, g4 j hj hm']
    clear hG1
    refine AW_seq ?_
    refine AW_cond' rfl rfl (fun hc => ?_) (fun hc => ?_)
    · refine AW_skip ?_
      refine AW_block ?_
      refine AW_seq ?_
      have hent := aentry_ents (ke := tke) (ve := tve) hlo he a2 a3
      refine AW_reg [0, 1, 4, 5, 7] fun K hK => ?_ -- region 2
      simp [init_eq, hent, V.cells, tke, tve, astore, AH.get_new, AH.get_set]
      refine hK _ _ ?_; clear hK K
      generalize hG2 : AH.set _ (G1.next + 1) _ = G2
      have n2 : G2.next = G1.next + 2 := by rw [← hG2]; simp
      have b1 : G2.get G1.next = some (.cells [.i .i64 e.1.1, .i .i64 e.1.2] 0 false 0) := by
        rw [← hG2]; simp [AH.get_set, AH.get_new, splice]; exact if_pos (by omega)
      have b1' : G2.get (G1.next + 1) = some (.cells e.2.1.cells 0 false 0) := by
        rw [← hG2]; simp [AH.get_set, AH.get_new]; rfl
      have b0 : ∀ j, j < G1.next → G2.get j = G1.get j := fun j hj => by rw [← hG2]; simp [AH.get_set, AH.get_new, show j ≠ G1.next by omega, show j ≠ G1.next + 1 by omega]
      have b2 := (b0 H.next (by omega)).trans a2
      have b3 := (b0 m (by omega)).trans a3
      have b4 : ∀ j, j < H.next → j ≠ m → G2.get j = H.get j := fun j hj hm' => (b0 j (by omega)).trans (a4 j hj hm')
      clear hG2
      refine AW_seq ?_
      refine AW_reg [0, 1, 4, 7, 16] fun K hK => ?_ -- region 3
      simp [init_eq, aload, b1, b1', tmo_take]
      refine ACalls.mono (hdel G2 b4 e.1 e.2.1) fun r H' ⟨hr, eq⟩ => ?_
      subst hr eq
      try simp
      refine hK _ _ ?_; clear hK K
      refine AW_cond' rfl rfl (fun hc => ?_) (fun hc => ?_)
      · have hdl := adelete_ents (P := Try.prog) (ke := tke) (ve := tve) qmap_72 qkey_87 tke_fits tke_keq hlo.keys b3 e.1
        simp only [tke] at hdl
        refine AW_reg [0, 1, 7] fun K hK => ?_ -- region 4
        simp [init_eq, aload, b1, hdl]
        refine hK _ _ ?_; clear hK K
        refine bend (rend ⟨seen ++ [e.2.2], by simp, ⟨by simp; omega, ?_, ?_, fun j hj hm' => ?_⟩, unseen_lt hees hns⟩)
        · simp [AH.get_set, Ne.symm hmn, b2]
        · rw [leftOf_del hok hees hc]
          simp [AH.get_set, show m < H'.next by omega]
        · simp [AH.get_set, hm', b4 j hj hm']
      · refine AW_skip ?_
        refine bend (rend ⟨seen ++ [e.2.2], by simp, ⟨by omega, b2, ?_, b4⟩, unseen_lt hees hns⟩)
        rw [leftOf_keep hok hees hc]; exact b3
    · cases hc
  · simp
    refine hK _ _ ?_; clear hK K
    refine AW_seq ?_
    refine AW_cond' rfl rfl (fun hc => ?_) (fun hc => ?_)
    · cases hc
    · refine AW_exit (then_exit (then_exit (block_here ?_)))
      refine end_normal rfl ?_
      have hfin := leftOf_all hok (seen := seen) (p := p) fun e he hns => hall (tke e.1, tve e.2.1, e.2.2) (by simp only [ents, List.mem_map]; exact ⟨e, he, rfl⟩) hns
      refine ⟨_, by simp; omega, by simp, fun j hj => ?_, wf_mapT hw _ _ _, by simp, rfl, rfl⟩
      rw [AH.next_set] at hj
      rw [AH.get_set]
      by_cases hj' : j = m
      · subst hj'; simp [hj, g3, hfin]
      · simp [hj', g4 j hj hj']
theorem delI_ok (H : AH) {m : Nat} {es : Sets} {clk : Nat} (hm : H.get m = some (.map (ents keyI u32 es) clk)) (hok : MOk es clk) {df : FuncId} {caps : List V} (p : Int → Bool)
    (hdel : ∀ H', (∀ j, j < H.next → j ≠ m → H'.get j = H.get j) → ∀ (k : Int) (s : BitVec 32), ACalls Try.prog df ([keyI k, u32 s] ++ caps) H' fun r H'' => r = .b (p k) ∧ H'' = H') :
    ACalls Try.prog 37 [.m (some m), .fn (.func df) [] caps] H fun r H' => r = .tup [] ∧ H' = H.set m (.map (ents keyI u32 (es.filter fun e => !p e.1)) clk) := by
  have hml := AH.get_lt hm
  refine ACalls.wf (fun hw _ => ACalls.gcTo (Q := fun r H' => r = .tup [] ∧ H' = H.set m (.map (ents keyI u32 (es.filter fun e => !p e.1)) clk)) ?_) ⟨_, Try.func37, rfl, rfl⟩
  refine ACalls_body Try.func37 rfl rfl ?_
  refine AW_seq ?_
  refine AW_reg [0, 1, 7] fun K hK => ?_ -- region 0
  simp [init_eq, arange, hm]
  generalize hH1 : H.new (.mapIter (some m) clk [] clk) = H1
  have hn1 : H1.next = H.next + 1 := by rw [← hH1]; simp
  have hi1 : H1.get H.next = some (.mapIter (some m) clk [] clk) := by rw [← hH1]; simp [AH.get_new]
  have ho1 : ∀ j, j < H.next → H1.get j = H.get j := fun j hj => by rw [← hH1]; simp [AH.get_new]; omega
  refine hK _ _ ?_; clear hK K
  refine AW_block ?_
  refine AW_loopx (fun _ : List Nat => ⟨19, [(0, .m (some m)), (1, .fn (.func df) [] caps), (7, .p (some (H.next, 0, 0)))]⟩)
    (fun seen G => H.next < G.next ∧ G.get H.next = some (.mapIter (some m) clk seen clk) ∧ G.get m = some (.map (ents keyI u32 (Go.Abs.leftOf es seen p)) clk) ∧ (∀ j, j < H.next → j ≠ m → G.get j = H.get j))
    (fun seen => unseen es seen) [] (by simp) ⟨by omega, hi1, ?_, fun j hj _ => ho1 j hj⟩ fun seen G hM => ?_ -- loop
  · rw [ho1 m hml, hm]; rw [leftOf_nil]
  obtain ⟨g1, g2, g3, g4⟩ := hM
  have hlo : MOk (Go.Abs.leftOf es seen p) clk := hok.filter _
  refine AW_seq ?_
  refine AW_reg [0, 1, 7, 9] fun K hK => ?_ -- region 1
  simp [init_eq]
  unfold ANext
  simp only [g2, g3]
  refine ⟨?_, fun e he hns => ?_, fun hall => ?_⟩
  · rcases hl : Go.Abs.leftOf es seen p with _ | ⟨e, l⟩
    · exact .inr (.inl rfl)
    · refine .inr (.inr ⟨(keyI e.1, u32 e.2.1, e.2.2), by simp [ents], ?_⟩)
      exact hlo.past e (by rw [hl]; simp)
  · -- another round
    simp only [ents, List.mem_map] at he
    obtain ⟨e, he, rfl⟩ := he
    simp only at hns ⊢
    have hees : e ∈ es := (List.mem_filter.1 he).1
    simp
    refine hK _ _ ?_; clear hK K
    generalize hG1 : G.set H.next _ = G1
    have n1 : G1.next = G.next := by rw [← hG1]; simp
    have hmn : m ≠ H.next := by omega
    have a2 : G1.get H.next = some (.mapIter (some m) clk (seen ++ [e.2.2]) clk) := by rw [← hG1]; simp [AH.get_set, g1]
    have a3 : G1.get m = some (.map (ents keyI u32 (Go.Abs.leftOf es seen p)) clk) := by rw [← hG1]; simp [AH.get_set, hmn, g3]
    have a4 : ∀ j, j < H.next → j ≠ m → G1.get j = H.get j := fun j hj hm' => by rw [← hG1]; simp [AH.get_set, show j ≠ H.next by omega, g4 j hj hm']
    clear hG1
    refine AW_seq ?_
    refine AW_cond' rfl rfl (fun hc => ?_) (fun hc => ?_)
    · refine AW_skip ?_
      refine AW_block ?_
      refine AW_seq ?_
      have hent := aentry_ents (ke := keyI) (ve := u32) hlo he a2 a3
      refine AW_reg [0, 1, 4, 5, 7] fun K hK => ?_ -- region 2
      simp [init_eq, hent]
      refine hK _ _ ?_; clear hK K
      have n2 : G1.next = G1.next := rfl
      have b2 := a2
      have b3 := a3
      have b4 := a4
      refine AW_seq ?_
      refine AW_reg [0, 1, 4, 7, 16] fun K hK => ?_ -- region 3
      simp [init_eq]
      refine ACalls.mono (hdel G1 b4 e.1 e.2.1) fun r H' ⟨hr, eq⟩ => ?_
      subst hr eq
      try simp
      refine hK _ _ ?_; clear hK K
      refine AW_cond' rfl rfl (fun hc => ?_) (fun hc => ?_)
      · have hdl := adelete_ents (P := Try.prog) (ke := keyI) (ve := u32) qmap_73 qkey_3 int_fits int_keq hlo.keys b3 e.1
        refine AW_reg [0, 1, 7] fun K hK => ?_ -- region 4
        simp [init_eq, hdl]
        refine hK _ _ ?_; clear hK K
        refine bend (rend ⟨seen ++ [e.2.2], by simp, ⟨by simp; omega, ?_, ?_, fun j hj hm' => ?_⟩, unseen_lt hees hns⟩)
        · simp [AH.get_set, Ne.symm hmn, b2]
        · rw [leftOf_del hok hees hc]
          simp [AH.get_set, show m < H'.next by omega]
        · simp [AH.get_set, hm', b4 j hj hm']
      · refine AW_skip ?_
        refine bend (rend ⟨seen ++ [e.2.2], by simp, ⟨by omega, b2, ?_, b4⟩, unseen_lt hees hns⟩)
        rw [leftOf_keep hok hees hc]; exact b3
    · cases hc
  · simp
    refine hK _ _ ?_; clear hK K
    refine AW_seq ?_
    refine AW_cond' rfl rfl (fun hc => ?_) (fun hc => ?_)
    · cases hc
    · refine AW_exit (then_exit (then_exit (block_here ?_)))
      refine end_normal rfl ?_
      have hfin := leftOf_all hok (seen := seen) (p := p) fun e he hns => hall (keyI e.1, u32 e.2.1, e.2.2) (by simp only [ents, List.mem_map]; exact ⟨e, he, rfl⟩) hns
      refine ⟨_, by simp; omega, by simp, fun j hj => ?_, wf_mapI hw _ _ _, by simp, rfl, rfl⟩
      rw [AH.next_set] at hj
      rw [AH.get_set]
      by_cases hj' : j = m
      · subst hj'; simp [hj, g3, hfin]
      · simp [hj', g4 j hj hj']
theorem oldt_ok (H : AH) {q q' : Nat} {w : Int} (hq : H.get q = some (.cells [.i .i64 w] 0 false 0)) (hq' : H.get q' = some (.cells [.fn (.func 32) [] [.p (some (q, 0, 0))]] 0 false 0)) (k : Int × Int) (s : Tmo) :
    ACalls Try.prog 36 [tke k, tve s, .p (some (q', 0, 0))] H fun r H' => r = .b (decide (k.1 < w)) ∧ H' = H := by
  refine ACalls.pure (Q := fun r => r = .b (decide (k.1 < w))) ⟨_, Try.func36, rfl, rfl⟩ ?_
  refine ACalls_body Try.func36 rfl rfl ?_
  refine AW_seq ?_
  refine AW_reg [2, 3] fun K hK => ?_ -- region 0
  simp [init_eq, V.cells, tke, tve]
  obtain ⟨H1, e1, hp1, hp2, hn, ho⟩ := H.boxed2 [.i .i64 k.1, .i .i64 k.2] s.cells
  rw [e1]
  have hq1 := (ho _ (AH.get_lt hq)).trans hq
  have hq2 := (ho _ (AH.get_lt hq')).trans hq'
  refine hK _ _ ?_; clear hK K
  refine AW_seq ?_
  refine AW_reg [5] fun K hK => ?_ -- region 1
  simp [init_eq, aload, afieldAddr, hq2, hp1]
  refine ACalls.mono (old_ok H1 hq1 _) fun r H' ⟨hr, e⟩ => ?_
  subst hr e
  try simp
  refine hK _ _ ?_; clear hK K
  exact AW_ret (end_ret rfl ⟨rfl, by simp, by omega, ho⟩)
theorem oldi4_ok (H : AH) {q q' : Nat} {w : Int} (hq : H.get q = some (.cells [.i .i64 w] 0 false 0)) (hq' : H.get q' = some (.cells [.fn (.func 32) [] [.p (some (q, 0, 0))]] 0 false 0)) (k : Int) (s : BitVec 32) :
    ACalls Try.prog 38 [keyI k, u32 s, .p (some (q', 0, 0))] H fun r H' => r = .b (decide (k < w)) ∧ H' = H := by
  refine ACalls_body Try.func38 rfl rfl ?_
  refine AW_seq ?_
  refine AW_reg [0, 2] fun K hK => ?_ -- region 0
  simp [init_eq]
  refine hK _ _ ?_; clear hK K
  refine AW_seq ?_
  refine AW_reg [5] fun K hK => ?_ -- region 1
  simp [init_eq, aload, afieldAddr, hq', keyI]
  refine ACalls.mono (old_ok H hq _) fun r H' ⟨hr, e⟩ => ?_
  subst hr e
  try simp
  refine hK _ _ ?_; clear hK K
  exact AW_ret (end_ret rfl ⟨rfl, rfl⟩)
theorem oldi5_ok (H : AH) {q q' : Nat} {w : Int} (hq : H.get q = some (.cells [.i .i64 w] 0 false 0)) (hq' : H.get q' = some (.cells [.fn (.func 32) [] [.p (some (q, 0, 0))]] 0 false 0)) (k : Int) (s : BitVec 32) :
    ACalls Try.prog 39 [keyI k, u32 s, .p (some (q', 0, 0))] H fun r H' => r = .b (decide (k < w)) ∧ H' = H := by
  refine ACalls_body Try.func39 rfl rfl ?_
  refine AW_seq ?_
  refine AW_reg [0, 2] fun K hK => ?_ -- region 0
  simp [init_eq]
  refine hK _ _ ?_; clear hK K
  refine AW_seq ?_
  refine AW_reg [5] fun K hK => ?_ -- region 1
  simp [init_eq, aload, afieldAddr, hq', keyI]
  refine ACalls.mono (old_ok H hq _) fun r H' ⟨hr, e⟩ => ?_
  subst hr e
  try simp
  refine hK _ _ ?_; clear hK K
  exact AW_ret (end_ret rfl ⟨rfl, rfl⟩)
/-- The program's tally in memory: five objects behind each other. -/
structure PT (G : AH) (B : Nat) (f fr : Int) (es : Votes) (ts : Turns) (cs ds : Sets) (c1 c2 c3 c4 : Nat) : Prop where
  t : G.get (B + 4) = some (.cells [.i .i64 f, .i .i64 fr, .m (some B), .m (some (B + 1)), .m (some (B + 2)), .m (some (B + 3))] 0 false 0)
  v : G.get B = some (.map (ents cke u32 es) c1)
  u : G.get (B + 1) = some (.map (ents tke tve ts) c2)
  c : G.get (B + 2) = some (.map (ents keyI u32 cs) c3)
  d : G.get (B + 3) = some (.map (ents keyI u32 ds) c4)
  ov : MOk es c1
  ou : MOk ts c2
  oc : MOk cs c3
  od : MOk ds c4
def ptF (B : Nat) : List Nat := [B, B + 1, B + 2, B + 3, B + 4]
theorem PT.upd {G G' : AH} {B : Nat} {f fr : Int} {es : Votes} {ts : Turns} {cs ds : Sets} {c1 c2 c3 c4 : Nat} (h : PT G B f fr es ts cs ds c1 c2 c3 c4) {F : List Nat} (hu : Upd G G' F) (hd : ∀ j ∈ ptF B, j ∉ F) : PT G' B f fr es ts cs ds c1 c2 c3 c4 :=
  ⟨hu.keep (hd _ (by simp [ptF])) h.t, hu.keep (hd _ (by simp [ptF])) h.v, hu.keep (hd _ (by simp [ptF])) h.u, hu.keep (hd _ (by simp [ptF])) h.c, hu.keep (hd _ (by simp [ptF])) h.d, h.ov, h.ou, h.oc, h.od⟩
def tfor (es : Turns) (fr view : Int) : Turns := if view ≤ fr then es else es.filter fun e => !decide (e.1.1 < view)
def ifor (es : Sets) (fr view : Int) : Sets := if view ≤ fr then es else es.filter fun e => !decide (e.1 < view)
theorem forget2_ok (H : AH) {B : Nat} {f fr : Int} {es : Votes} {ts : Turns} {cs ds : Sets} {c1 c2 c3 c4 : Nat} (hT : PT H B f fr es ts cs ds c1 c2 c3 c4) (view : Int) :
    ACalls Try.prog 12 [.p (some (B + 4, 0, 0)), .i .i64 view] H fun r H' => r = .tup [] ∧
      PT H' B f (max fr view) (vfor es fr view) (tfor ts fr view) (ifor cs fr view) (ifor ds fr view) c1 c2 c3 c4 ∧ Upd H H' (ptF B) := by
  have htl := AH.get_lt hT.t
  have htg := hT.t
  have hvg := hT.v
  have hug := hT.u
  have hcg := hT.c
  have hdg := hT.d
  refine ACalls_body Try.func12 rfl rfl ?_
  refine AW_seq ?_
  refine AW_reg [0, 3] fun K hK => ?_ -- region 0
  simp [init_eq, V.cells]
  generalize hH1 : H.new (.cells [.i .i64 view] 0 false 0) = H1
  have n1 : H1.next = H.next + 1 := by rw [← hH1]; simp
  have h31 : H1.get H.next = some (.cells [.i .i64 view] 0 false 0) := by rw [← hH1]; simp [AH.get_new]
  have u1 : Upd H H1 [] := by rw [← hH1]; exact Upd.new ..
  have t1 := u1.keep (by simp) htg
  clear hH1
  refine hK _ _ ?_; clear hK K
  refine AW_seq ?_
  refine AW_seq ?_
  refine AW_regd [0, 3, 14] pl_12_1 pe_12_1 (by kernel_rfl) (by kernel_rfl) (by decide) fun K hK => ?_
  simp [init_eq, pl_12_1, aload, afieldAddr, h31, t1]
  refine hK _ _ ?_; clear hK K
  refine AW_cond' rfl rfl (fun hc' => ?_) (fun hc' => ?_)
  · have hle : view ≤ fr := by simpa using hc'
    refine AW_ret (end_ret rfl ⟨rfl, ?_, u1.mono (by simp)⟩)
    unfold vfor tfor ifor
    rw [Int.max_eq_left hle, if_pos hle, if_pos hle, if_pos hle, if_pos hle]
    exact hT.upd u1 (by simp)
  have hle : ¬ view ≤ fr := by simpa using hc'
  refine AW_skip ?_
  refine AW_seq ?_
  refine AW_reg [0, 3] fun K hK => ?_ -- region 2
  simp [init_eq, aload, afieldAddr, astore, h31, t1, V.cells, splice]
  refine hK _ _ ?_; clear hK K
  have u2 : Upd H1 (H1.set (B + 4) (.cells [.i .i64 f, .i .i64 view, .m (some B), .m (some (B + 1)), .m (some (B + 2)), .m (some (B + 3))] 0 false 0)) [B + 4] := Upd.set _ _ _ (by simp)
  generalize hH2 : H1.set (B + 4) _ = H2 at u2 ⊢
  have n2 : H2.next = H.next + 1 := by rw [← hH2]; simp [n1]
  have t2 : H2.get (B + 4) = some (.cells [.i .i64 f, .i .i64 view, .m (some B), .m (some (B + 1)), .m (some (B + 2)), .m (some (B + 3))] 0 false 0) := by rw [← hH2]; simp [AH.get_set, n1]; omega
  clear hH2
  refine AW_seq ?_
  refine AW_reg [0, 4] fun K hK => ?_ -- region 3
  simp [init_eq, astore, AH.get_new, V.cells, splice, evs]
  refine hK _ _ ?_; clear hK K
  generalize hH3 : (H2.new _).set H2.next _ = H3
  have n3 : H3.next = H.next + 2 := by rw [← hH3]; simp [n2]
  have h33 : H3.get (H.next + 1) = some (.cells [.fn (.func 32) [] [.p (some (H.next, 0, 0))]] 0 false 0) := by rw [← hH3]; simp [AH.get_set, n2]
  have u3 : Upd H2 H3 [] := by
    rw [← hH3]
    exact ⟨by simp, fun j hj _ => by rw [AH.get_set_ne (by omega), AH.get_new, if_neg (by omega)]⟩
  clear hH3
  have uB : Upd H H3 [B + 4] := ((u1.mono (by simp) : Upd H H1 [B + 4]).trans u2 (fun j hj => .inl hj)).trans u3 (by simp)
  have t3 := u3.keep (by simp) t2
  have p3 : H3.get H.next = some (.cells [.i .i64 view] 0 false 0) := u3.keep (by simp) (u2.keep (by simp; omega) h31)
  have v3 := uB.keep (by simp) hvg
  have w3 := uB.keep (by simp) hug
  have x3 := uB.keep (by simp) hcg
  have y3 := uB.keep (by simp) hdg
  rw [n2]
  -- votes
  refine AW_seq ?_
  refine AW_reg [0, 4] fun K hK => ?_ -- region 4
  simp [init_eq, aload, afieldAddr, t3, evs]
  have hdel := delf_ok H3 v3 hT.ov (df := 34) (caps := [.p (some (H.next + 1, 0, 0))]) (fun k => decide (k.view < view)) fun H' hs k s' => by
    have e1 := (hs H.next (by omega) (by omega)).trans p3
    have e2 := (hs (H.next + 1) (by omega) (by omega)).trans h33
    exact oldc_ok H' e1 e2 k s'
  refine ACalls.mono hdel fun r H4 ⟨hr, e⟩ => ?_
  have u4 : Upd H3 H4 [B] := by rw [e]; exact Upd.set _ _ _ (by simp)
  have v4 : H4.get B = some (.map (ents cke u32 (es.filter fun e => !decide (e.1.view < view))) c1) := by rw [e]; simp [AH.get_set, n3]; omega
  have n4 : H4.next = H.next + 2 := by rw [e]; simp [n3]
  clear e hdel
  subst hr
  try simp
  refine hK _ _ ?_; clear hK K
  have t4 := u4.keep (by simp) t3
  have p4 := u4.keep (by simp; omega) p3
  have q4 := u4.keep (by simp; omega) h33
  have w4 := u4.keep (by simp) w3
  have x4 := u4.keep (by simp) x3
  have y4 := u4.keep (by simp) y3
  -- timeouts
  refine AW_seq ?_
  refine AW_reg [0, 4] fun K hK => ?_ -- region 5
  simp [init_eq, aload, afieldAddr, t4, evs]
  have hdel := delT_ok H4 w4 hT.ou (df := 36) (caps := [.p (some (H.next + 1, 0, 0))]) (fun k => decide (k.1 < view)) fun H' hs k s' => by
    have e1 := (hs H.next (by omega) (by omega)).trans p4
    have e2 := (hs (H.next + 1) (by omega) (by omega)).trans q4
    exact oldt_ok H' e1 e2 k s'
  refine ACalls.mono hdel fun r H5 ⟨hr, e⟩ => ?_
  have u5 : Upd H4 H5 [B + 1] := by rw [e]; exact Upd.set _ _ _ (by simp)
  have w5 : H5.get (B + 1) = some (.map (ents tke tve (ts.filter fun e => !decide (e.1.1 < view))) c2) := by rw [e]; simp [AH.get_set, n4]; omega
  have n5 : H5.next = H.next + 2 := by rw [e]; simp [n4]
  clear e hdel
  subst hr
  try simp
  refine hK _ _ ?_; clear hK K
  have t5 := u5.keep (by simp) t4
  have p5 := u5.keep (by simp; omega) p4
  have q5 := u5.keep (by simp; omega) q4
  have v5 := u5.keep (by simp) v4
  have x5 := u5.keep (by simp) x4
  have y5 := u5.keep (by simp) y4
  -- coins
  refine AW_seq ?_
  refine AW_reg [0, 4] fun K hK => ?_ -- region 6
  simp [init_eq, aload, afieldAddr, t5, evs]
  have hdel := delI_ok H5 x5 hT.oc (df := 38) (caps := [.p (some (H.next + 1, 0, 0))]) (fun k => decide (k < view)) fun H' hs k s' => by
    have e1 := (hs H.next (by omega) (by omega)).trans p5
    have e2 := (hs (H.next + 1) (by omega) (by omega)).trans q5
    exact oldi4_ok H' e1 e2 k s'
  refine ACalls.mono hdel fun r H6 ⟨hr, e⟩ => ?_
  have u6 : Upd H5 H6 [B + 2] := by rw [e]; exact Upd.set _ _ _ (by simp)
  have x6 : H6.get (B + 2) = some (.map (ents keyI u32 (cs.filter fun e => !decide (e.1 < view))) c3) := by rw [e]; simp [AH.get_set, n5]; omega
  have n6 : H6.next = H.next + 2 := by rw [e]; simp [n5]
  clear e hdel
  subst hr
  try simp
  refine hK _ _ ?_; clear hK K
  have t6 := u6.keep (by simp) t5
  have p6 := u6.keep (by simp; omega) p5
  have q6 := u6.keep (by simp; omega) q5
  have v6 := u6.keep (by simp) v5
  have w6 := u6.keep (by simp) w5
  have y6 := u6.keep (by simp) y5
  -- what is done
  refine AW_reg [] fun K hK => ?_ -- region 7
  simp [init_eq, aload, afieldAddr, t6, evs]
  have hdel := delI_ok H6 y6 hT.od (df := 39) (caps := [.p (some (H.next + 1, 0, 0))]) (fun k => decide (k < view)) fun H' hs k s' => by
    have e1 := (hs H.next (by omega) (by omega)).trans p6
    have e2 := (hs (H.next + 1) (by omega) (by omega)).trans q6
    exact oldi5_ok H' e1 e2 k s'
  refine ACalls.mono hdel fun r H7 ⟨hr, e⟩ => ?_
  have u7 : Upd H6 H7 [B + 3] := by rw [e]; exact Upd.set _ _ _ (by simp)
  have y7 : H7.get (B + 3) = some (.map (ents keyI u32 (ds.filter fun e => !decide (e.1 < view))) c4) := by rw [e]; simp [AH.get_set, n6]; omega
  clear e hdel
  subst hr
  try simp
  refine hK _ _ ?_; clear hK K
  refine end_normal rfl ⟨rfl, ?_, ?_⟩
  · unfold vfor tfor ifor
    rw [Int.max_eq_right (by omega), if_neg hle, if_neg hle, if_neg hle, if_neg hle]
    exact ⟨u7.keep (by simp) t6, u7.keep (by simp) v6, u7.keep (by simp) w6, u7.keep (by simp) x6, y7, hT.ov.filter _, hT.ou.filter _, hT.oc.filter _, hT.od.filter _⟩
  · exact ((((uB.mono (by simp [ptF])).trans u4 (by simp [ptF])).trans u5 (by simp [ptF])).trans u6 (by simp [ptF])).trans u7 (by simp [ptF])
end Go.Proofs.Ytdioggohbfgnfaa
