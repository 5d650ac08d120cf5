/-
  Package tally: Forget.
-/
import Derived.Test.YtdioggohbfgnfaaTally2
set_option linter.unusedVariables false
set_option linter.unusedSimpArgs false
namespace Go.Proofs.Ytdioggohbfgnfaa
open Go Go.Abs Go.Proofs
set_option maxRecDepth 100000
attribute [local irreducible] AEnd AW ACalls

theorem delf_ok (H : AH) {m : Nat} {es : Votes} {clk : Nat} (hm : H.get m = some (.map (ents cke u32 es) clk)) (hok : MOk es clk) {df : FuncId} {caps : List V} (p : Cert → Bool)
    (hdel : ∀ H', (∀ j, j < H.next → j ≠ m → H'.get j = H.get j) → ∀ (k : Cert) (s : BitVec 32), ACalls Try.prog df ([.agg k.cells, u32 s] ++ caps) H' fun r H'' => r = .b (p k) ∧ H'' = H') :
    ACalls Try.prog 33 [.m (some m), .fn (.func df) [] caps] H fun r H' => r = .tup [] ∧ H' = H.set m (.map (ents cke u32 (es.filter fun e => !p e.1)) clk) := by
  have hml := AH.get_lt hm
  refine ACalls.wf (fun hw _ => ACalls.gcTo (Q := fun r H' => r = .tup [] ∧ H' = H.set m (.map (ents cke u32 (es.filter fun e => !p e.1)) clk)) ?_) ⟨_, Try.func33, rfl, rfl⟩
  refine ACalls_body Try.func33 rfl rfl ?_
  refine AW_seq ?_
  refine AW_reg [0, 1, 7] fun K hK => ?_ -- region 0
  simp [init_eq, arange, hm]
  generalize hH1 : H.new (.mapIter (some m) clk [] clk) = H1
  have hn1 : H1.next = H.next + 1 := by rw [← hH1]; simp
  have hi1 : H1.get H.next = some (.mapIter (some m) clk [] clk) := by rw [← hH1]; simp [AH.get_new]
  have ho1 : ∀ j, j < H.next → H1.get j = H.get j := fun j hj => by rw [← hH1]; simp [AH.get_new]; omega
  refine hK _ _ ?_; clear hK K
  refine AW_block ?_
  refine AW_loopx (fun _ : List Nat => ⟨19, [(0, .m (some m)), (1, .fn (.func df) [] caps), (7, .p (some (H.next, 0, 0)))]⟩)
    (fun seen G => H.next < G.next ∧ G.get H.next = some (.mapIter (some m) clk seen clk) ∧ G.get m = some (.map (ents cke u32 (Go.Abs.leftOf es seen p)) clk) ∧ (∀ j, j < H.next → j ≠ m → G.get j = H.get j))
    (fun seen => unseen es seen) [] (by simp) ⟨by omega, hi1, ?_, fun j hj _ => ho1 j hj⟩ fun seen G hM => ?_ -- loop
  · rw [ho1 m hml, hm]; rw [leftOf_nil]
  obtain ⟨g1, g2, g3, g4⟩ := hM
  have hlo : MOk (Go.Abs.leftOf es seen p) clk := hok.filter _
  refine AW_seq ?_
  refine AW_reg [0, 1, 7, 9] fun K hK => ?_ -- region 1
  simp [init_eq]
  unfold ANext
  simp only [g2, g3]
  refine ⟨?_, fun e he hns => ?_, fun hall => ?_⟩
  · rcases hl : Go.Abs.leftOf es seen p with _ | ⟨e, l⟩
    · exact .inr (.inl rfl)
    · refine .inr (.inr ⟨(cke e.1, u32 e.2.1, e.2.2), by simp [ents], ?_⟩)
      exact hlo.past e (by rw [hl]; simp)
  · -- another round
    simp only [ents, List.mem_map] at he
    obtain ⟨e, he, rfl⟩ := he
    simp only at hns ⊢
    have hees : e ∈ es := (List.mem_filter.1 he).1
    simp
    refine hK _ _ ?_; clear hK K
    generalize hG1 : G.set H.next _ = G1
    have n1 : G1.next = G.next := by rw [← hG1]; simp
    have hmn : m ≠ H.next := by omega
    have a2 : G1.get H.next = some (.mapIter (some m) clk (seen ++ [e.2.2]) clk) := by rw [← hG1]; simp [AH.get_set, g1]
    have a3 : G1.get m = some (.map (ents cke u32 (Go.Abs.leftOf es seen p)) clk) := by rw [← hG1]; simp [AH.get_set, hmn, g3]
    have a4 : ∀ j, j < H.next → j ≠ m → G1.get j = H.get j := fun j hj hm' => by rw [← hG1]; simp [AH.get_set, show j ≠ H.next by omega, g4 j hj hm']
    clear hG1
    refine AW_seq ?_
    refine AW_cond' rfl rfl (fun hc => ?_) (fun hc => ?_)
    · refine AW_skip ?_
      refine AW_block ?_
      refine AW_seq ?_
      have hent := aentry_ents (ke := cke) (ve := u32) hlo he a2 a3
      refine AW_reg [0, 1, 4, 5, 7] fun K hK => ?_ -- region 2
      simp [init_eq, hent, V.cells, cke, astore, AH.get_new]
      refine hK _ _ ?_; clear hK K
      generalize hG2 : (G1.new _).set G1.next _ = G2
      have n2 : G2.next = G1.next + 1 := by rw [← hG2]; simp
      have b1 : G2.get G1.next = some (.cells e.1.cells 0 false 0) := by rw [← hG2]; simp [AH.get_set]
      have b0 : ∀ j, j < G1.next → G2.get j = G1.get j := fun j hj => by rw [← hG2]; simp [AH.get_set, AH.get_new, show j ≠ G1.next by omega]
      have b2 := (b0 H.next (by omega)).trans a2
      have b3 := (b0 m (by omega)).trans a3
      have b4 : ∀ j, j < H.next → j ≠ m → G2.get j = H.get j := fun j hj hm' => (b0 j (by omega)).trans (a4 j hj hm')
      clear hG2
      refine AW_seq ?_
      refine AW_reg [0, 1, 4, 7, 16] fun K hK => ?_ -- region 3
      simp [init_eq, aload, b1, take_cells]
      refine ACalls.mono (hdel G2 b4 e.1 e.2.1) fun r H' ⟨hr, eq⟩ => ?_
      subst hr eq
      try simp
      refine hK _ _ ?_; clear hK K
      refine AW_cond' rfl rfl (fun hc => ?_) (fun hc => ?_)
      · have hdl := adelete_ents (P := Try.prog) (ke := cke) (ve := u32) qmap_71 qkey_32 cke_fits cke_keq hlo.keys b3 e.1
        simp only [cke] at hdl
        refine AW_reg [0, 1, 7] fun K hK => ?_ -- region 4
        simp [init_eq, aload, b1, take_cells, hdl]
        refine hK _ _ ?_; clear hK K
        refine bend (rend ⟨seen ++ [e.2.2], by simp, ⟨by simp; omega, ?_, ?_, fun j hj hm' => ?_⟩, unseen_lt hees hns⟩)
        · simp [AH.get_set, Ne.symm hmn, b2]
        · rw [leftOf_del hok hees hc]
          simp [AH.get_set, show m < H'.next by omega]
        · simp [AH.get_set, hm', b4 j hj hm']
      · refine AW_skip ?_
        refine bend (rend ⟨seen ++ [e.2.2], by simp, ⟨by omega, b2, ?_, b4⟩, unseen_lt hees hns⟩)
        rw [leftOf_keep hok hees hc]; exact b3
    · cases hc
  · simp
    refine hK _ _ ?_; clear hK K
    refine AW_seq ?_
    refine AW_cond' rfl rfl (fun hc => ?_) (fun hc => ?_)
    · cases hc
    · refine AW_exit (then_exit (then_exit (block_here ?_)))
      refine end_normal rfl ?_
      have hfin := leftOf_all hok (seen := seen) (p := p) fun e he hns => hall (cke e.1, u32 e.2.1, e.2.2) (by simp only [ents, List.mem_map]; exact ⟨e, he, rfl⟩) hns
      refine ⟨_, by simp; omega, by simp, fun j hj => ?_, wf_map hw _ _ _, by simp, rfl, rfl⟩
      rw [AH.next_set] at hj
      rw [AH.get_set]
      by_cases hj' : j = m
      · subst hj'; simp [hj, g3, hfin]
      · simp [hj', g4 j hj hj']
theorem delf_turn (H : AH) {m : Nat} {clk : Nat} (hm : H.get m = some (.map [] clk)) (g : V) :
    ACalls Try.prog 35 [.m (some m), g] H fun r H' => r = .tup [] ∧ H' = H := by
  refine ACalls.pure (Q := fun r => r = .tup []) ⟨_, Try.func35, rfl, rfl⟩ ?_
  refine ACalls_body Try.func35 rfl rfl ?_
  refine AW_seq ?_
  refine AW_reg [0, 1, 7] fun K hK => ?_ -- region 0
  simp [init_eq, arange, hm]
  have hml := AH.get_lt hm
  generalize hH1 : H.new (.mapIter (some m) clk [] clk) = H1
  have hn1 : H1.next = H.next + 1 := by rw [← hH1]; simp
  have hi1 : H1.get H.next = some (.mapIter (some m) clk [] clk) := by rw [← hH1]; simp [AH.get_new]
  have ho1 : ∀ j, j < H.next → H1.get j = H.get j := fun j hj => by rw [← hH1]; simp [AH.get_new]; omega
  have hm1 := (ho1 m hml).trans hm
  refine hK _ _ ?_; clear hK K
  refine AW_block ?_
  refine AW_loopx (fun _ : Nat => ⟨19, [(0, .m (some m)), (1, g), (7, .p (some (H.next, 0, 0)))]⟩) (fun _ G => G = H1) (fun _ => 0) 0 (by simp) rfl fun i G hM => ?_ -- loop
  subst hM
  refine AW_seq ?_
  refine AW_reg [0, 1, 7, 9] fun K hK => ?_ -- region 1
  simp [init_eq]
  unfold ANext
  simp only [hi1, hm1]
  refine ⟨.inl trivial, by simp, fun _ => ?_⟩
  simp
  refine hK _ _ ?_; clear hK K
  refine AW_seq ?_
  refine AW_cond' rfl rfl (fun hc => ?_) (fun hc => ?_)
  · cases hc
  · refine AW_exit (then_exit (then_exit (block_here ?_)))
    exact end_normal rfl ⟨rfl, by simp, by omega, ho1⟩
theorem delf_int (H : AH) {m : Nat} {clk : Nat} (hm : H.get m = some (.map [] clk)) (g : V) :
    ACalls Try.prog 37 [.m (some m), g] H fun r H' => r = .tup [] ∧ H' = H := by
  refine ACalls.pure (Q := fun r => r = .tup []) ⟨_, Try.func37, rfl, rfl⟩ ?_
  refine ACalls_body Try.func37 rfl rfl ?_
  refine AW_seq ?_
  refine AW_reg [0, 1, 7] fun K hK => ?_ -- region 0
  simp [init_eq, arange, hm]
  have hml := AH.get_lt hm
  generalize hH1 : H.new (.mapIter (some m) clk [] clk) = H1
  have hn1 : H1.next = H.next + 1 := by rw [← hH1]; simp
  have hi1 : H1.get H.next = some (.mapIter (some m) clk [] clk) := by rw [← hH1]; simp [AH.get_new]
  have ho1 : ∀ j, j < H.next → H1.get j = H.get j := fun j hj => by rw [← hH1]; simp [AH.get_new]; omega
  have hm1 := (ho1 m hml).trans hm
  refine hK _ _ ?_; clear hK K
  refine AW_block ?_
  refine AW_loopx (fun _ : Nat => ⟨19, [(0, .m (some m)), (1, g), (7, .p (some (H.next, 0, 0)))]⟩) (fun _ G => G = H1) (fun _ => 0) 0 (by simp) rfl fun i G hM => ?_ -- loop
  subst hM
  refine AW_seq ?_
  refine AW_reg [0, 1, 7, 9] fun K hK => ?_ -- region 1
  simp [init_eq]
  unfold ANext
  simp only [hi1, hm1]
  refine ⟨.inl trivial, by simp, fun _ => ?_⟩
  simp
  refine hK _ _ ?_; clear hK K
  refine AW_seq ?_
  refine AW_cond' rfl rfl (fun hc => ?_) (fun hc => ?_)
  · cases hc
  · refine AW_exit (then_exit (then_exit (block_here ?_)))
    exact end_normal rfl ⟨rfl, by simp, by omega, ho1⟩
theorem old_ok (H : AH) {q : Nat} {w : Int} (hq : H.get q = some (.cells [.i .i64 w] 0 false 0)) (x : Int) :
    ACalls Try.prog 32 [.i .i64 x, .p (some (q, 0, 0))] H fun r H' => r = .b (decide (x < w)) ∧ H' = H := by
  refine ACalls_body Try.func32 rfl rfl ?_
  refine AW_seq ?_
  refine AW_reg [0, 1] fun K hK => ?_ -- region 0
  simp [init_eq]
  refine hK _ _ ?_; clear hK K
  refine AW_seq ?_
  refine AW_reg [3] fun K hK => ?_ -- region 1
  simp [init_eq, aload, hq]
  refine hK _ _ ?_; clear hK K
  exact AW_ret (end_ret rfl ⟨rfl, rfl⟩)
theorem oldc_ok (H : AH) {q q' : Nat} {w : Int} (hq : H.get q = some (.cells [.i .i64 w] 0 false 0)) (hq' : H.get q' = some (.cells [.fn (.func 32) [] [.p (some (q, 0, 0))]] 0 false 0)) (c : Cert) (s : BitVec 32) :
    ACalls Try.prog 34 [.agg c.cells, u32 s, .p (some (q', 0, 0))] H fun r H' => r = .b (decide (c.view < w)) ∧ H' = H := by
  refine ACalls.pure (Q := fun r => r = .b (decide (c.view < w))) ⟨_, Try.func34, rfl, rfl⟩ ?_
  refine ACalls_body Try.func34 rfl rfl ?_
  refine AW_seq ?_
  refine AW_reg [2, 3] fun K hK => ?_ -- region 0
  simp [init_eq, V.cells]
  generalize hH1 : H.new (.cells c.cells 0 false 0) = H1
  have hn1 : H1.next = H.next + 1 := by rw [← hH1]; simp
  have h3 : H1.get H.next = some (.cells c.cells 0 false 0) := by rw [← hH1]; simp [AH.get_new]
  have ho1 : ∀ j, j < H.next → H1.get j = H.get j := fun j hj => by rw [← hH1]; simp [AH.get_new]; omega
  have hq1 := (ho1 _ (AH.get_lt hq)).trans hq
  have hq2 := (ho1 _ (AH.get_lt hq')).trans hq'
  refine hK _ _ ?_; clear hK K
  refine AW_seq ?_
  refine AW_reg [5] fun K hK => ?_ -- region 1
  simp [init_eq, aload, afieldAddr, hq2, h3]
  refine ACalls.mono (old_ok H1 hq1 _) fun r H' ⟨hr, e⟩ => ?_
  subst hr e
  try simp
  refine hK _ _ ?_; clear hK K
  exact AW_ret (end_ret rfl ⟨rfl, by simp, by omega, ho1⟩)
theorem wf_cells {H : AH} (h : H.wf) (k : Nat) (cs : List V) (hc : V.lts H.next cs = true) : (H.set k (.cells cs 0 false 0)).wf := by
  intro id o ho
  rw [AH.get_set] at ho
  rw [AH.next_set]
  split at ho
  · split at ho
    · cases ho; exact hc
    · cases ho
  · exact h id o ho
/-- What a forgetting leaves. -/
def vfor (es : Votes) (fr view : Int) : Votes := if view ≤ fr then es else es.filter fun e => !decide (e.1.view < view)
theorem forget_ok (H : AH) {t v a b c : Nat} {f fr : Int} {es : Votes} {clk ca cb cc : Nat} (hT : TS H t v [.m (some a), .m (some b), .m (some c)] f fr es clk) (hok : MOk es clk)
    (ha : H.get a = some (.map [] ca)) (hb : H.get b = some (.map [] cb)) (hc : H.get c = some (.map [] cc)) (hva : v ≠ a ∧ v ≠ b ∧ v ≠ c) (view : Int) :
    ACalls Try.prog 12 [.p (some (t, 0, 0)), .i .i64 view] H fun r H' => r = .tup [] ∧
      H' = (H.set t (.cells [.i .i64 f, .i .i64 (max fr view), .m (some v), .m (some a), .m (some b), .m (some c)] 0 false 0)).set v (.map (ents cke u32 (vfor es fr view)) clk) := by
  have htl := AH.get_lt hT.ht
  have hvl := AH.get_lt hT.hv
  have hal := AH.get_lt ha
  have hbl := AH.get_lt hb
  have hcl := AH.get_lt hc
  have hne := hT.ne
  have htg := hT.ht
  have hvg := hT.hv
  simp only [List.cons_append, List.nil_append] at htg
  have hta : t ≠ a ∧ t ≠ b ∧ t ≠ c := by
    refine ⟨fun e => ?_, fun e => ?_, fun e => ?_⟩ <;> subst e <;> simp_all
  refine ACalls.wf (fun hw _ => ACalls.gcTo (Q := fun r H' => r = .tup [] ∧ H' = (H.set t (.cells [.i .i64 f, .i .i64 (max fr view), .m (some v), .m (some a), .m (some b), .m (some c)] 0 false 0)).set v (.map (ents cke u32 (vfor es fr view)) clk)) ?_) ⟨_, Try.func12, rfl, rfl⟩
  have fin : ∀ (r : V) (H' : AH), r = .tup [] → H.next ≤ H'.next → (∀ j, j < H.next → H'.get j = if j = v then some (.map (ents cke u32 (vfor es fr view)) clk) else if j = t then some (.cells [.i .i64 f, .i .i64 (max fr view), .m (some v), .m (some a), .m (some b), .m (some c)] 0 false 0) else H.get j) →
      ∃ H'', H''.next ≤ H'.next ∧ H.next ≤ H''.next ∧ (∀ j, j < H''.next → H''.get j = H'.get j) ∧ H''.wf ∧ V.lt H''.next r = true ∧ r = .tup [] ∧ H'' = (H.set t (.cells [.i .i64 f, .i .i64 (max fr view), .m (some v), .m (some a), .m (some b), .m (some c)] 0 false 0)).set v (.map (ents cke u32 (vfor es fr view)) clk) := by
    intro r H' hr hn hg
    refine ⟨_, by simpa using hn, by simp, fun j hj => ?_, wf_map (wf_cells hw _ _ (by simp [hvl, hal, hbl, hcl])) _ _ _, by subst hr; simp, hr, rfl⟩
    simp at hj
    rw [hg j hj, AH.get_set, AH.get_set]
    simp [hvl, htl]
  refine ACalls_body Try.func12 rfl rfl ?_
  refine AW_seq ?_
  refine AW_reg [0, 3] fun K hK => ?_ -- region 0
  simp [init_eq, V.cells]
  generalize hH1 : H.new (.cells [.i .i64 view] 0 false 0) = H1
  have n1 : H1.next = H.next + 1 := by rw [← hH1]; simp
  have h31 : H1.get H.next = some (.cells [.i .i64 view] 0 false 0) := by rw [← hH1]; simp [AH.get_new]
  have o1 : ∀ j, j < H.next → H1.get j = H.get j := fun j hj => by rw [← hH1]; simp [AH.get_new]; omega
  have t1 := (o1 t htl).trans htg
  clear hH1
  refine hK _ _ ?_; clear hK K
  refine AW_seq ?_
  refine AW_seq ?_
  refine AW_regd [0, 3, 14] pl_12_1 pe_12_1 (by kernel_rfl) (by kernel_rfl) (by decide) fun K hK => ?_
  simp [init_eq, pl_12_1, aload, afieldAddr, h31, t1]
  refine hK _ _ ?_; clear hK K
  refine AW_cond' rfl rfl (fun hc' => ?_) (fun hc' => ?_)
  · have hle : view ≤ fr := by simpa using hc'
    refine AW_ret (end_ret rfl ?_)
    refine fin _ _ rfl (by omega) fun j hj => ?_
    rw [o1 j hj, Int.max_eq_left hle]
    by_cases h1 : j = v
    · subst h1; simp [vfor, hle, hvg]
    · by_cases h2 : j = t
      · subst h2; simp [h1, htg]
      · simp [h1, h2]
  have hle : ¬ view ≤ fr := by simpa using hc'
  refine AW_skip ?_
  refine AW_seq ?_
  refine AW_reg [0, 3] fun K hK => ?_ -- region 2
  simp [init_eq, aload, afieldAddr, astore, h31, t1, V.cells, splice]
  refine hK _ _ ?_; clear hK K
  generalize hH2 : H1.set t _ = H2
  have n2 : H2.next = H.next + 1 := by rw [← hH2]; simp [n1]
  have t2 : H2.get t = some (.cells [.i .i64 f, .i .i64 view, .m (some v), .m (some a), .m (some b), .m (some c)] 0 false 0) := by rw [← hH2]; simp [AH.get_set, n1]; omega
  have o2 : ∀ j, j < H.next + 1 → j ≠ t → H2.get j = H1.get j := fun j hj hjt => by rw [← hH2]; simp [AH.get_set, hjt]
  clear hH2
  refine AW_seq ?_
  refine AW_reg [0, 4] fun K hK => ?_ -- region 3
  simp [init_eq, astore, AH.get_new, V.cells, splice, evs]
  refine hK _ _ ?_; clear hK K
  generalize hH3 : (H2.new _).set H2.next _ = H3
  have n3 : H3.next = H.next + 2 := by rw [← hH3]; simp [n2]
  have h33 : H3.get (H.next + 1) = some (.cells [.fn (.func 32) [] [.p (some (H.next, 0, 0))]] 0 false 0) := by rw [← hH3]; simp [AH.get_set, n2]
  have o3 : ∀ j, j < H.next + 1 → H3.get j = H2.get j := fun j hj => by rw [← hH3]; simp [AH.get_set, AH.get_new, n2, show j ≠ H.next + 1 by omega]
  clear hH3
  have t3 := (o3 t (by omega)).trans t2
  have p3 : H3.get H.next = some (.cells [.i .i64 view] 0 false 0) := by rw [o3 _ (by omega), o2 _ (by omega) (by omega), h31]
  have q3 : ∀ j, j < H.next → j ≠ t → H3.get j = H.get j := fun j hj hjt => by rw [o3 _ (by omega), o2 _ (by omega) hjt, o1 _ hj]
  rw [n2]
  have v3 := (q3 v hvl (Ne.symm hne)).trans hvg
  refine AW_seq ?_
  refine AW_reg [0, 4] fun K hK => ?_ -- region 4
  simp [init_eq, aload, afieldAddr, t3, evs]
  have hdel := delf_ok H3 v3 hok (df := 34) (caps := [.p (some (H.next + 1, 0, 0))]) (fun k => decide (k.view < view)) fun H' hs k s' => by
    have e1 := (hs H.next (by omega) (by omega)).trans p3
    have e2 := (hs (H.next + 1) (by omega) (by omega)).trans h33
    exact oldc_ok H' e1 e2 k s'
  refine ACalls.mono hdel fun r H' ⟨hr, e⟩ => ?_
  have n4 : H'.next = H.next + 2 := by rw [e]; simp [n3]
  have v4 : H'.get v = some (.map (ents cke u32 (es.filter fun e => !decide (e.1.view < view))) clk) := by rw [e]; simp [AH.get_set, n3]; omega
  have q4 : ∀ j, j ≠ v → H'.get j = H3.get j := fun j hj => by rw [e]; simp [AH.get_set, hj]
  clear e
  subst hr
  try simp
  refine hK _ _ ?_; clear hK K
  have t4 := (q4 t hne).trans t3
  have a4 := (q4 a (Ne.symm hva.1)).trans ((q3 a hal (Ne.symm hta.1)).trans ha)
  have b4 := (q4 b (Ne.symm hva.2.1)).trans ((q3 b hbl (Ne.symm hta.2.1)).trans hb)
  have c4 := (q4 c (Ne.symm hva.2.2)).trans ((q3 c hcl (Ne.symm hta.2.2)).trans hc)
  refine AW_seq ?_
  refine AW_reg [0, 4] fun K hK => ?_ -- region 5
  simp [init_eq, aload, afieldAddr, t4, evs]
  refine ACalls.mono (delf_turn H' a4 _) fun r H5 ⟨hr, e⟩ => ?_
  subst hr e
  try simp
  refine hK _ _ ?_; clear hK K
  refine AW_seq ?_
  refine AW_reg [0, 4] fun K hK => ?_ -- region 6
  simp [init_eq, aload, afieldAddr, t4, evs]
  refine ACalls.mono (delf_int H5 b4 _) fun r H6 ⟨hr, e⟩ => ?_
  subst hr e
  try simp
  refine hK _ _ ?_; clear hK K
  refine AW_reg [] fun K hK => ?_ -- region 7
  simp [init_eq, aload, afieldAddr, t4, evs]
  refine ACalls.mono (delf_int H6 c4 _) fun r H7 ⟨hr, e⟩ => ?_
  subst hr e
  try simp
  refine hK _ _ ?_; clear hK K
  refine end_normal rfl ?_
  refine fin _ _ rfl (by omega) fun j hj => ?_
  rw [Int.max_eq_right (by omega)]
  by_cases h1 : j = v
  · subst h1; simp [vfor, hle, v4]
  · by_cases h2 : j = t
    · subst h2; simp [h1, t4]
    · simp [h1, h2, q4 j h1, q3 j hj h2]
end Go.Proofs.Ytdioggohbfgnfaa
