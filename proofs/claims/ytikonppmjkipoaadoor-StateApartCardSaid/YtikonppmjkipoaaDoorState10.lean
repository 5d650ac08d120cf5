/-
  The keys' places, sorted: maps.Keys, slices.Collect, slices.SortedFunc.
-/
import Derived.Test.YtikonppmjkipoaaDoorState9
set_option linter.unusedVariables false
set_option linter.unusedSimpArgs false
namespace Go.Proofs.YtikonppmjkipoaaDoor
open Go Go.Abs Go.Proofs
set_option maxRecDepth 100000
attribute [local irreducible] AEnd AW ACalls

theorem plc_new (M : AH) (z : List V) (hz : z.length = 2) (x : Plc) : ∃ N, astore Tryd.prog (M.new (.cells z 0 false 0)) 65 (.p (some (M.next, 0, 0))) (kP x) = some N ∧ N.get M.next = some (.cells (Plc.cells x) 0 false 0) ∧ Upd M N [] ∧ N.next = M.next + 1 :=
  ⟨(M.new (.cells z 0 false 0)).set M.next (.cells (Plc.cells x) 0 false 0), by rcases z with _ | ⟨a, _ | ⟨b, _ | ⟨c, z⟩⟩⟩ <;> simp at hz <;> simp [astore, AH.get_new_same, kP, V.cells, Plc.cells, splice], AH.get_set_same (by simp), ⟨by simp, fun j hj _ => by rw [AH.get_set_ne (by omega), AH.get_new, if_neg (by omega)]⟩, by simp⟩
theorem app_plcs : App Tryd.prog 84 84 2 32 := App.mk' qelem_84 qsize_65 qbytes_65 qzero_65 qsrc_84 rfl (by decide)
set_option maxHeartbeats 1000000 in
theorem appendSeqP_ok (H : AH) {am : Nat} {es : Vals} {clk : Nat} (hm : H.get am = some (.map (ents kP vT es) clk)) (ok : MOk es clk) (hl : es.length ≤ 1000000000) {bid : Nat} (hb : H.get bid = some (.cells [.m (some am)] 0 false 0)) :
    ACalls Tryd.prog 71 [.sl none 0 false, .fn (.func 57) [] [.p (some (bid, 0, 0))]] H fun r H' => ∃ (ks : List Plc) (F : List Nat), ks.Perm (es.map (·.1)) ∧ Own H' r 2 (ks.map Plc.cells).flatten F ∧ Upd H H' [] ∧ (∀ j ∈ F, H.next ≤ j) ∧ (ks = [] → r = .sl none 0 false) := by
  refine ACalls_body Tryd.func71 rfl rfl ?_
  refine AW_seq ?_
  refine AW_reg [1, 2] fun K hK => ?_ -- region 0
  simp [init_eq, V.cells]
  obtain ⟨G, e1, g0, gn, go⟩ := H.boxed [.sl none 0 false]
  rw [e1]
  refine hK _ _ ?_; clear hK K
  have u0 : Upd H G [] := ⟨by omega, fun j hj _ => go j hj⟩
  refine AW_seq ?_
  refine AW_seq ?_
  refine AW_reg [2, 6] fun K hK => ?_ -- region 1
  simp [init_eq]
  refine hK _ _ ?_; clear hK K
  refine AW_block ?_
  refine AW_rangeFunc 0 (first := []) (caps := [.p (some (bid, 0, 0))]) rfl ⟨_, Tryd.func57, rfl, rfl⟩ ?_
  generalize hρ : (Env.mk 13 _ : Env) = ρ0
  generalize hA : (Code.region 2 _ false : Code) = asg
  generalize hB : (Code.block 1 _ : Code) = body
  generalize hX : G.new (.loop 0 .ready none ρ0 #[7] asg body) = X
  have x0 : X.get G.next = some (.loop 0 .ready none ρ0 #[7] asg body) := by rw [← hX]; exact AH.get_new_same ..
  have u1 : Upd G X [] := by rw [← hX]; exact Upd.new ..
  have xn : X.next = H.next + 2 := by rw [← hX]; simp [gn]
  clear hX
  rw [gn] at x0 ⊢
  have uX : Upd H X [] := u0.trans u1 (by simp)
  have hmX := uX.keep (by simp) hm
  have hbX := uX.keep (by simp) hb
  have x1 := u1.keep (by simp) g0
  refine ACalls_body Tryd.func57 rfl rfl ?_
  have hrg : arange Tryd.prog X 53 (.m (some am)) = some (.p (some (X.next, 0, 0)), X.new (.mapIter (some am) clk [] clk)) := by
    simp [arange, hmX]
  have lb : aload Tryd.prog X 53 (.p (some (bid, 0, 0))) = some (.m (some am)) := by simp [aload, hbX]
  refine AW_seq ?_
  refine AW_reg [0, 5] fun K hK => ?_ -- region 0
  simp [init_eq, lb, hrg]
  refine hK _ _ ?_; clear hK K
  refine AW_block ?_
  refine AW_loopx (fun x : List Nat => ⟨14, [(0, .yl (H.next + 1)), (5, .p (some (X.next, 0, 0)))]⟩)
    (fun x M => Upd H M [] ∧ M.get X.next = some (.mapIter (some am) clk x clk) ∧ M.get (H.next + 1) = some (.loop 0 .ready none ρ0 #[7] asg body) ∧ ∃ (sv : V) (ks : List Plc) (F : List Nat), M.get H.next = some (.cells [sv] 0 false 0) ∧ Own M sv 2 (ks.map Plc.cells).flatten F ∧ ks.Perm (seenKeys es x) ∧ (∀ j ∈ F, H.next + 2 < j) ∧ (ks = [] → sv = .sl none 0 false)) (fun x => unseen es x) [] (by simp)
    ⟨uX.trans (Upd.new (F := []) ..) (by simp), AH.get_new_same .., AH.get_new_old x0, _, [], [], AH.get_new_old x1, Own.nil .., seenKeys_nil es ▸ .nil, by simp, fun _ => rfl⟩ fun x M ⟨u, hit, hlp, sv, ks, F, hsv, hown, hpm, hF, hnil⟩ => ?_ -- loop
  have hmM := u.keep (by simp) hm
  have hlt := AH.get_lt hit
  rw [xn] at hit hlt ⊢
  refine AW_seq ?_
  refine AW_reg [0, 5, 7] fun K hK => ?_ -- region 1
  simp [init_eq]
  unfold ANext
  simp only [hit, hmM]
  refine ⟨?_, fun e he hns => ?_, fun hall => ?_⟩
  · rcases hl : es with _ | ⟨e, l⟩
    · exact .inr (.inl rfl)
    · exact .inr (.inr ⟨(kP e.1, vT e.2.1, e.2.2), by simp [ents], ok.past e (by rw [hl]; simp)⟩)
  · simp only [ents, List.mem_map] at he
    obtain ⟨e, he, rfl⟩ := he
    simp only at hns ⊢
    simp
    refine hK _ _ ?_; clear hK K
    generalize hG1 : M.set (H.next + 2) _ = N
    have uN : Upd M N [H.next + 2] := by rw [← hG1]; exact Upd.set _ _ _ (by simp)
    have a2 : N.get (H.next + 2) = some (.mapIter (some am) clk (x ++ [e.2.2]) clk) := by rw [← hG1]; exact AH.get_set_same hlt
    have lam := AH.get_lt hm
    have lbid := AH.get_lt hb
    have a3 := uN.keep (by simp; omega) hmM
    clear hG1
    have nlp := uN.keep (by simp) hlp
    have nsv := uN.keep (by simp) hsv
    have nown := hown.upd uN (fun j hj h => by have := hF j hj; simp at h; omega)
    refine AW_seq ?_
    refine AW_cond' rfl rfl (fun hc => ?_) (fun hc => by cases hc)
    refine AW_skip ?_
    refine AW_block ?_
    refine AW_seq ?_
    have hent := aentry_ents (ke := kP) (ve := vT) ok he a2 a3
    obtain ⟨Nq, r1, r2, r3, r4⟩ := plc_new N [.s [], .s []] rfl e.1
    refine AW_reg [0, 3, 5] fun K hK => ?_ -- region 2
    simp [init_eq, hent, V.cells]
    refine ⟨Nq, r1, ?_⟩
    refine hK _ _ ?_; clear hK K
    replace nlp := r3.keep (by simp) nlp
    replace a2 := r3.keep (by simp) a2
    replace nsv := r3.keep (by simp) nsv
    replace nown := nown.upd r3 (by simp)
    replace uN := uN.trans r3 (by simp)
    have lk : aload Tryd.prog Nq 65 (.p (some (N.next, 0, 0))) = some (kP e.1) := by simp [aload, r2, kP, Plc.cells]
    clear r1 r3 a3 hent
    have lNo := AH.get_lt r2
    have hkl : ks.length ≤ es.length := by
      rw [hpm.length_eq]; unfold seenKeys; rw [List.length_map]; exact List.length_filter_le ..
    refine AW_seq ?_
    refine AW_reg [0, 5, 13] fun K hK => ?_ -- region 3
    simp [init_eq, lk]
    rw [AOp_yield (id := H.next + 1) (by simp)]
    unfold ARound
    rw [nlp]
    refine ⟨rfl, fun l => ?_⟩
    rw [← hA, ← hρ]
    obtain ⟨Np, p1, p2, p3, p4⟩ := plc_new Nq [.s [], .s []] rfl e.1
    refine AW_reg [2, 5] fun K2 hK2 => ?_ -- region 2 of the loop
    simp [init_eq, Env.puts, V.cells]
    refine ⟨Np, p1, ?_⟩
    refine hK2 _ _ ?_; clear hK2 K2
    replace nlp := p3.keep (by simp) nlp
    replace a2 := p3.keep (by simp) a2
    replace nsv := p3.keep (by simp) nsv
    replace nown := nown.upd p3 (by simp)
    have uNp := uN.trans p3 (by simp)
    simp only [AThen, nlp]
    generalize hN1 : Np.set (H.next + 1) _ = N1
    have lN := AH.get_lt nlp
    have lNn : H.next + 2 < Nq.next := by have := uN.1; omega
    have uN1 : Upd Np N1 [H.next + 1] := by rw [← hN1]; exact Upd.set _ _ _ (by simp)
    have q1 : N1.get (H.next + 1) = some (.loop 0 .busy none ρ0 #[7] asg body) := by rw [← hN1]; exact AH.get_set_same lN
    clear hN1
    have q2 := uN1.keep (by simp) a2
    have q3 := uN1.keep (by simp; omega) p2
    have lp : aload Tryd.prog N1 65 (.p (some (Nq.next, 0, 0))) = some (kP e.1) := by simp [aload, q3, kP, Plc.cells]
    have qsv := uN1.keep (by simp) nsv
    have qown := nown.upd uN1 (fun j hj h => by have := hF j hj; simp at h; omega)
    rw [← hB]
    obtain ⟨Nm, sv', N2, F', b1, b2, own2, u2, f2⟩ := qown.pushR (P := Tryd.prog) app_plcs qelem_84 qsize_65 qzero_65 rfl rfl (by decide) (fun _ => rfl) (x := kP e.1) e.1 rfl (by simp only [roomOk]; simp; omega)
    have hFn : H.next ∉ F := fun h => by have := hF _ h; omega
    have hFl : H.next + 1 ∉ F := fun h => by have := hF _ h; omega
    have hFi : H.next + 2 ∉ F := fun h => by have := hF _ h; omega
    have b3 := u2.keep hFn qsv
    have lb : aload Tryd.prog N1 84 (.p (some (H.next, 0, 0))) = some sv := by simp [aload, qsv]
    refine AW_block ?_
    refine AW_reg [2] fun K2 hK2 => ?_ -- region 3 of the loop
    have lst : ∀ {K3 : AH → Prop}, K3 (N2.set H.next (.cells [sv'] 0 false 0)) → ∃ H', astore Tryd.prog N2 84 (.p (some (H.next, 0, 0))) sv' = some H' ∧ K3 H' := fun h => ⟨_, by simp [astore, b3, own2.cells, splice], h⟩
    simp [init_eq, lb, lp, b1, b2]
    refine lst ?_
    generalize hN3 : N2.set H.next _ = N3
    have u3 : Upd N2 N3 [H.next] := by rw [← hN3]; exact Upd.set _ _ _ (by simp)
    have c1 : N3.get H.next = some (.cells [sv'] 0 false 0) := by rw [← hN3]; exact AH.get_set_same (AH.get_lt b3)
    clear hN3
    have hF1 : ∀ j ∈ F', H.next + 2 < j := fun j hj => by
      rcases f2 j hj with h | h
      · exact hF j h
      · have := uN1.1; have := p3.1; have := uN.1; omega
    have own3 := own2.upd u3 (fun j hj h => by have := hF1 j hj; simp at h; omega)
    have c2 := u3.keep (by simp) (u2.keep hFi q2)
    have c3 := u3.keep (by simp) (u2.keep hFl q1)
    refine hK2 _ _ ?_; clear hK2 K2
    simp only [ABlock, ARoundPost, ARoundEnd, c3]
    generalize hN4 : N3.set (H.next + 1) _ = N4
    have u4 : Upd N3 N4 [H.next + 1] := by rw [← hN4]; exact Upd.set _ _ _ (by simp)
    have d1 : N4.get (H.next + 1) = some (.loop 0 .ready none ρ0 #[7] asg body) := by rw [← hN4]; exact AH.get_set_same (AH.get_lt c3)
    clear hN4
    simp
    refine hK _ _ ?_; clear hK K
    refine AW_cond' rfl rfl (fun hc => by cases hc) (fun hc => ?_)
    refine AW_skip ?_
    have uu : Upd H N4 [] := ((((u.trans uNp (fun j hj => .inr (by simp at hj; omega))).trans uN1 (fun j hj => .inr (by simp at hj; omega))).trans u2 (fun j hj => .inr (by have := hF j hj; omega))).trans u3 (fun j hj => .inr (by simp at hj; omega))).trans u4 (fun j hj => .inr (by simp at hj; omega))
    refine ⟨x ++ [e.2.2], by simp, ⟨uu, u4.keep (by simp) c2, d1, sv', ks ++ [e.1], F', u4.keep (by simp) c1, own3.upd u4 (fun j hj h => by have := hF1 j hj; simp at h; omega), (hpm.append_right _).trans (seenKeys_step ok.stamps he hns).symm, hF1, fun h => by simp at h⟩, unseen_lt he hns⟩
  · simp
    refine hK _ _ ?_; clear hK K
    refine AW_seq ?_
    refine AW_cond' rfl rfl (fun hc => by cases hc) (fun hc => ?_)
    have hall' : ∀ e ∈ es, e.2.2 ∈ x := fun e he => by
      apply Classical.byContradiction
      intro hns
      have := hall (kP e.1, vT e.2.1, e.2.2) (by simp only [ents]; exact List.mem_map_of_mem he) hns
      have := ok.past e he
      dsimp only at *
      omega
    rw [seenKeys_all hall'] at hpm
    refine AW_exit (then_exit (then_exit (block_here (end_normal rfl ?_))))
    simp only [hlp]
    refine ⟨by simp, ?_⟩
    refine bend (rend ?_)
    generalize hM1 : M.set (H.next + 1) _ = M1
    have uM1 : Upd M M1 [H.next + 1] := by rw [← hM1]; exact Upd.set _ _ _ (by simp)
    clear hM1
    have z1 := uM1.keep (by simp) hsv
    have own' := hown.upd uM1 (fun j hj h => by have := hF j hj; simp at h; omega)
    have lb' : aload Tryd.prog M1 84 (.p (some (H.next, 0, 0))) = some sv := by simp [aload, z1]
    refine AW_seq ?_
    refine AW_reg [4] fun K hK => ?_ -- region 4
    simp [init_eq, lb', ← hρ]
    refine hK _ _ ?_; clear hK K
    exact AW_ret (end_ret rfl ⟨ks, F, hpm, own', u.trans uM1 (fun j hj => .inr (by simp at hj; omega)), fun j hj => by have := hF j hj; omega, hnil⟩)
theorem keysP_ok (H : AH) {am : Nat} : ACalls Tryd.prog 34 [.m (some am)] H fun r H' => r = .fn (.func 57) [] [.p (some (H.next, 0, 0))] ∧ H' = H.new (.cells [.m (some am)] 0 false 0) := by
  refine ACalls_body Tryd.func34 rfl rfl ?_
  refine AW_seq ?_
  refine AW_reg [1, 2] fun K hK => ?_ -- region 0
  simp [init_eq, V.cells]
  refine hK _ _ ?_; clear hK K
  refine AW_seq ?_
  refine AW_reg [2] fun K hK => ?_ -- region 1
  simp [init_eq]
  refine hK _ _ ?_; clear hK K
  exact AW_ret (end_ret rfl ⟨rfl, rfl⟩)
theorem collectP_ok (H : AH) {am : Nat} {es : Vals} {clk : Nat} (hm : H.get am = some (.map (ents kP vT es) clk)) (ok : MOk es clk) (hl : es.length ≤ 1000000000) {bid : Nat} (hb : H.get bid = some (.cells [.m (some am)] 0 false 0)) :
    ACalls Tryd.prog 55 [.fn (.func 57) [] [.p (some (bid, 0, 0))]] H fun r H' => ∃ (ks : List Plc) (F : List Nat), ks.Perm (es.map (·.1)) ∧ Own H' r 2 (ks.map Plc.cells).flatten F ∧ Upd H H' [] ∧ (∀ j ∈ F, H.next ≤ j) ∧ (ks = [] → r = .sl none 0 false) := by
  refine ACalls_body Tryd.func55 rfl rfl ?_
  refine AW_seq ?_
  refine AW_reg [0, 2] fun K hK => ?_ -- region 0
  simp [init_eq]
  refine hK _ _ ?_; clear hK K
  refine AW_seq ?_
  refine AW_reg [2] fun K hK => ?_ -- region 1
  simp [init_eq]
  refine ACalls.mono (appendSeqP_ok H hm ok hl hb) fun r H' h => ?_
  try simp
  refine hK _ _ ?_; clear hK K
  exact AW_ret (end_ret rfl h)
theorem sortedP_ok (H : AH) {am : Nat} {es : Vals} {clk : Nat} (hm : H.get am = some (.map (ents kP vT es) clk)) (ok : MOk es clk) (hl : es.length ≤ 1000000000) (hn : ∀ e ∈ es, e.1.1.length ≤ 1000000000 ∧ e.1.2.length ≤ 1000000000) {bid : Nat} (hb : H.get bid = some (.cells [.m (some am)] 0 false 0)) :
    ACalls Tryd.prog 33 [.fn (.func 57) [] [.p (some (bid, 0, 0))], .fn (.func 32) [] []] H fun r H' => ∃ (ks : List Plc) (F : List Nat), ks.Perm (es.map (·.1)) ∧ (ks.Pairwise fun a b => placeLt b a = false) ∧ Own H' r 2 (ks.map Plc.cells).flatten F ∧ Upd H H' [] ∧ (∀ j ∈ F, H.next ≤ j) := by
  refine ACalls_body Tryd.func33 rfl rfl ?_
  refine AW_seq ?_
  refine AW_reg [0, 1, 4] fun K hK => ?_ -- region 0
  simp [init_eq]
  refine hK _ _ ?_; clear hK K
  refine AW_seq ?_
  refine AW_reg [1, 4, 5] fun K hK => ?_ -- region 1
  simp [init_eq]
  refine ACalls.mono (collectP_ok H hm ok hl hb) fun r H1 ⟨ks, F, hp, hown, u, hF, hnil⟩ => ?_
  try simp
  refine hK _ _ ?_; clear hK K
  refine AW_seq ?_
  refine AW_reg [4, 5] fun K hK => ?_ -- region 2
  simp [init_eq]
  refine ACalls.mono (sort_places H1 hown hnil (fun k hk => ?_) ?_) fun r2 H2 ⟨hr, ys, hp2, hs, own2, u2⟩ => ?_
  · obtain ⟨e, he, rfl⟩ := List.mem_map.1 (hp.mem_iff.1 hk)
    exact hn e he
  · have := hp.length_eq; simp at this; omega
  try simp
  refine hK _ _ ?_; clear hK K
  refine AW_seq ?_
  refine AW_reg [4] fun K hK => ?_ -- region 3
  simp [init_eq]
  refine hK _ _ ?_; clear hK K
  exact AW_ret (end_ret rfl ⟨ys, F, hp2.trans hp, hs, own2, u.trans u2 (fun j hj => .inr (hF j hj)), hF⟩)
end Go.Proofs.YtikonppmjkipoaaDoor
