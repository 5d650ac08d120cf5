/-
  The keys of the accounts, collected: maps.Keys, slices.Collect.
-/
import Derived.Test.YtikonppmjkipoaaDoorState7
import Derived.Test.YtikonppmjkipoaaDoorSort1
set_option linter.unusedVariables false
set_option linter.unusedSimpArgs false
namespace Go.Proofs.YtikonppmjkipoaaDoor
open Go Go.Abs Go.Proofs
set_option maxRecDepth 100000
attribute [local irreducible] AEnd AW ACalls

theorem AOp_yield {P : Program} [Laid P] {ρ : Env} {H : AH} {K : V → AH → Prop} {d : Option Tmp} {ty : TypeId} {pos : String} {aft : Array Edge} {g : Option (Nat × Bool)} {x : Operand} {args : Array Operand} {ts : Array TypeId} {id : Nat} (hx : aev ρ x = .yl id) :
    AOp P ⟨d, .call { callee := .value x, args := args, argTypes := ts }, ty, pos, aft, g⟩ ρ H K = ARound P id (args.toList.map (aev ρ)) H K := by
  unfold AOp
  simp only [hx, evs]
def seenKeys {α β : Type} (es : List (α × β × Nat)) (seen : List Nat) : List α := (es.filter fun e => decide (e.2.2 ∈ seen)).map (·.1)
theorem seenKeys_nil {α β : Type} (es : List (α × β × Nat)) : seenKeys es [] = [] := by
  unfold seenKeys
  rw [List.filter_eq_nil_iff.2 (by simp)]; rfl
theorem seenKeys_step {α β : Type} : ∀ {es : List (α × β × Nat)} {seen : List Nat} {e : α × β × Nat}, (es.map (·.2.2)).Nodup → e ∈ es → e.2.2 ∉ seen → (seenKeys es (seen ++ [e.2.2])).Perm (seenKeys es seen ++ [e.1])
  | [], _, _, _, h, _ => by cases h
  | a :: l, seen, e, hn, he, hs => by
    rw [List.map_cons, List.nodup_cons] at hn
    unfold seenKeys
    by_cases h : e.2.2 = a.2.2
    · have h1 : ∀ x ∈ l, x.2.2 ≠ e.2.2 := fun x hx k => hn.1 (by rw [← h, ← k]; exact List.mem_map_of_mem hx)
      have he' : e = a := by
        rcases List.mem_cons.1 he with h2 | h2
        · exact h2
        · exact absurd rfl (h1 e h2)
      subst he'
      have h2 : (l.filter fun x => decide (x.2.2 ∈ seen ++ [e.2.2])) = l.filter fun x => decide (x.2.2 ∈ seen) := by
        apply List.filter_congr
        intro x hx
        simp [h1 x hx]
      rw [List.filter_cons, List.filter_cons, h2]
      simp only [List.mem_append, List.mem_singleton, or_true, decide_true, if_true, hs, decide_false, Bool.false_eq_true, if_false, List.map_cons]
      exact (List.perm_append_comm (l₁ := [e.1])).trans (List.Perm.refl _)
    · have he' : e ∈ l := by
        rcases List.mem_cons.1 he with h2 | h2
        · exact absurd (by rw [h2]) h
        · exact h2
      have ih := seenKeys_step hn.2 he' hs
      unfold seenKeys at ih
      rw [List.filter_cons, List.filter_cons]
      have hne : ¬ a.2.2 = e.2.2 := fun k => h k.symm
      by_cases h3 : a.2.2 ∈ seen
      · rw [if_pos (by simp [h3]), if_pos (by simp [h3]), List.map_cons, List.map_cons, List.cons_append]
        exact ih.cons _
      · rw [if_neg (by simp [h3, hne]), if_neg (by simp [h3])]
        exact ih
theorem seenKeys_all {α β : Type} {es : List (α × β × Nat)} {seen : List Nat} (h : ∀ e ∈ es, e.2.2 ∈ seen) : seenKeys es seen = es.map (·.1) := by
  unfold seenKeys
  rw [List.filter_eq_self.2 (fun e he => by simpa using h e he)]
theorem app_strs : App Tryd.prog 72 72 1 16 := App.mk' qelem_72 qsize_9 qbytes_9 qzero_9 qsrc_72 rfl (by decide)
set_option maxHeartbeats 1000000 in
theorem appendSeqS_ok (H : AH) {am : Nat} {es : Accs} {clk : Nat} (hm : H.get am = some (.map (ents kS vA es) clk)) (ok : MOk es clk) (hl : es.length ≤ 1000000000) {bid : Nat} (hb : H.get bid = some (.cells [.m (some am)] 0 false 0)) :
    ACalls Tryd.prog 66 [.sl none 0 false, .fn (.func 52) [] [.p (some (bid, 0, 0))]] H fun r H' => ∃ (ks : List (List UInt8)) (F : List Nat), ks.Perm (es.map (·.1)) ∧ Own H' r 1 (ks.map strK).flatten F ∧ Upd H H' [] ∧ (∀ j ∈ F, H.next ≤ j) ∧ (ks = [] → r = .sl none 0 false) := by
  refine ACalls_body Tryd.func66 rfl rfl ?_
  refine AW_seq ?_
  refine AW_reg [1, 2] fun K hK => ?_ -- region 0
  simp [init_eq, V.cells]
  obtain ⟨G, e1, g0, gn, go⟩ := H.boxed [.sl none 0 false]
  rw [e1]
  refine hK _ _ ?_; clear hK K
  have u0 : Upd H G [] := ⟨by omega, fun j hj _ => go j hj⟩
  refine AW_seq ?_
  refine AW_seq ?_
  refine AW_reg [2, 6] fun K hK => ?_ -- region 1
  simp [init_eq]
  refine hK _ _ ?_; clear hK K
  refine AW_block ?_
  refine AW_rangeFunc 0 (first := []) (caps := [.p (some (bid, 0, 0))]) rfl ⟨_, Tryd.func52, rfl, rfl⟩ ?_
  generalize hρ : (Env.mk 13 _ : Env) = ρ0
  generalize hA : (Code.region 2 _ false : Code) = asg
  generalize hB : (Code.block 1 _ : Code) = body
  generalize hX : G.new (.loop 0 .ready none ρ0 #[7] asg body) = X
  have x0 : X.get G.next = some (.loop 0 .ready none ρ0 #[7] asg body) := by rw [← hX]; exact AH.get_new_same ..
  have u1 : Upd G X [] := by rw [← hX]; exact Upd.new ..
  have xn : X.next = H.next + 2 := by rw [← hX]; simp [gn]
  clear hX
  rw [gn] at x0 ⊢
  have uX : Upd H X [] := u0.trans u1 (by simp)
  have hmX := uX.keep (by simp) hm
  have hbX := uX.keep (by simp) hb
  have x1 := u1.keep (by simp) g0
  refine ACalls_body Tryd.func52 rfl rfl ?_
  have hrg : arange Tryd.prog X 52 (.m (some am)) = some (.p (some (X.next, 0, 0)), X.new (.mapIter (some am) clk [] clk)) := by
    simp [arange, hmX]
  have lb : aload Tryd.prog X 52 (.p (some (bid, 0, 0))) = some (.m (some am)) := by simp [aload, hbX]
  refine AW_seq ?_
  refine AW_reg [0, 5] fun K hK => ?_ -- region 0
  simp [init_eq, lb, hrg]
  refine hK _ _ ?_; clear hK K
  refine AW_block ?_
  refine AW_loopx (fun x : List Nat => ⟨14, [(0, .yl (H.next + 1)), (5, .p (some (X.next, 0, 0)))]⟩)
    (fun x M => Upd H M [] ∧ M.get X.next = some (.mapIter (some am) clk x clk) ∧ M.get (H.next + 1) = some (.loop 0 .ready none ρ0 #[7] asg body) ∧ ∃ (sv : V) (ks : List (List UInt8)) (F : List Nat), M.get H.next = some (.cells [sv] 0 false 0) ∧ Own M sv 1 (ks.map strK).flatten F ∧ ks.Perm (seenKeys es x) ∧ (∀ j ∈ F, H.next + 2 < j) ∧ (ks = [] → sv = .sl none 0 false)) (fun x => unseen es x) [] (by simp)
    ⟨uX.trans (Upd.new (F := []) ..) (by simp), AH.get_new_same .., AH.get_new_old x0, _, [], [], AH.get_new_old x1, Own.nil .., seenKeys_nil es ▸ .nil, by simp, fun _ => rfl⟩ fun x M ⟨u, hit, hlp, sv, ks, F, hsv, hown, hpm, hF, hnil⟩ => ?_ -- loop
  have hmM := u.keep (by simp) hm
  have hlt := AH.get_lt hit
  rw [xn] at hit hlt ⊢
  refine AW_seq ?_
  refine AW_reg [0, 5, 7] fun K hK => ?_ -- region 1
  simp [init_eq]
  unfold ANext
  simp only [hit, hmM]
  refine ⟨?_, fun e he hns => ?_, fun hall => ?_⟩
  · rcases hl : es with _ | ⟨e, l⟩
    · exact .inr (.inl rfl)
    · exact .inr (.inr ⟨(kS e.1, vA e.2.1, e.2.2), by simp [ents], ok.past e (by rw [hl]; simp)⟩)
  · simp only [ents, List.mem_map] at he
    obtain ⟨e, he, rfl⟩ := he
    simp only at hns ⊢
    simp
    refine hK _ _ ?_; clear hK K
    generalize hG1 : M.set (H.next + 2) _ = N
    have uN : Upd M N [H.next + 2] := by rw [← hG1]; exact Upd.set _ _ _ (by simp)
    have a2 : N.get (H.next + 2) = some (.mapIter (some am) clk (x ++ [e.2.2]) clk) := by rw [← hG1]; exact AH.get_set_same hlt
    have lam := AH.get_lt hm
    have lbid := AH.get_lt hb
    have a3 := uN.keep (by simp; omega) hmM
    clear hG1
    have nlp := uN.keep (by simp) hlp
    have nsv := uN.keep (by simp) hsv
    have nown := hown.upd uN (fun j hj h => by have := hF j hj; simp at h; omega)
    refine AW_seq ?_
    refine AW_cond' rfl rfl (fun hc => ?_) (fun hc => by cases hc)
    refine AW_skip ?_
    refine AW_block ?_
    refine AW_seq ?_
    have hent := aentry_ents (ke := kS) (ve := vA) ok he a2 a3
    refine AW_reg [0, 3, 5] fun K hK => ?_ -- region 2
    simp [init_eq, hent]
    refine hK _ _ ?_; clear hK K
    have hkl : ks.length ≤ es.length := by
      rw [hpm.length_eq]; unfold seenKeys; rw [List.length_map]; exact List.length_filter_le ..
    refine AW_seq ?_
    refine AW_reg [0, 5, 13] fun K hK => ?_ -- region 3
    simp [init_eq]
    rw [AOp_yield (id := H.next + 1) (by simp)]
    unfold ARound
    rw [nlp]
    refine ⟨rfl, fun l => ?_⟩
    rw [← hA, ← hρ]
    refine AW_reg [2, 5] fun K2 hK2 => ?_ -- region 2 of the loop
    simp [init_eq, Env.puts]
    refine hK2 _ _ ?_; clear hK2 K2
    simp only [AThen, nlp]
    generalize hN1 : N.set (H.next + 1) _ = N1
    have lN := AH.get_lt nlp
    have uN1 : Upd N N1 [H.next + 1] := by rw [← hN1]; exact Upd.set _ _ _ (by simp)
    have q1 : N1.get (H.next + 1) = some (.loop 0 .busy none ρ0 #[7] asg body) := by rw [← hN1]; exact AH.get_set_same lN
    clear hN1
    have q2 := uN1.keep (by simp) a2
    have qsv := uN1.keep (by simp) nsv
    have qown := nown.upd uN1 (fun j hj h => by have := hF j hj; simp at h; omega)
    rw [← hB]
    obtain ⟨Nm, sv', N2, F', b1, b2, own2, u2, f2⟩ := qown.pushR (P := Tryd.prog) app_strs qelem_72 qsize_9 qzero_9 rfl rfl (by decide) (fun _ => rfl) (x := kS e.1) e.1 rfl (by simp only [roomOk]; simp; omega)
    have hFn : H.next ∉ F := fun h => by have := hF _ h; omega
    have hFl : H.next + 1 ∉ F := fun h => by have := hF _ h; omega
    have hFi : H.next + 2 ∉ F := fun h => by have := hF _ h; omega
    have b3 := u2.keep hFn qsv
    have lb : aload Tryd.prog N1 72 (.p (some (H.next, 0, 0))) = some sv := by simp [aload, qsv]
    refine AW_block ?_
    refine AW_reg [2] fun K2 hK2 => ?_ -- region 3 of the loop
    have lst : ∀ {K3 : AH → Prop}, K3 (N2.set H.next (.cells [sv'] 0 false 0)) → ∃ H', astore Tryd.prog N2 72 (.p (some (H.next, 0, 0))) sv' = some H' ∧ K3 H' := fun h => ⟨_, by simp [astore, b3, own2.cells, splice], h⟩
    simp [init_eq, lb, b1, b2]
    refine lst ?_
    generalize hN3 : N2.set H.next _ = N3
    have u3 : Upd N2 N3 [H.next] := by rw [← hN3]; exact Upd.set _ _ _ (by simp)
    have c1 : N3.get H.next = some (.cells [sv'] 0 false 0) := by rw [← hN3]; exact AH.get_set_same (AH.get_lt b3)
    clear hN3
    have hF1 : ∀ j ∈ F', H.next + 2 < j := fun j hj => by
      rcases f2 j hj with h | h
      · exact hF j h
      · have := uN1.1; have := uN.1; omega
    have own3 := own2.upd u3 (fun j hj h => by have := hF1 j hj; simp at h; omega)
    have c2 := u3.keep (by simp) (u2.keep hFi q2)
    have c3 := u3.keep (by simp) (u2.keep hFl q1)
    refine hK2 _ _ ?_; clear hK2 K2
    simp only [ABlock, ARoundPost, ARoundEnd, c3]
    generalize hN4 : N3.set (H.next + 1) _ = N4
    have u4 : Upd N3 N4 [H.next + 1] := by rw [← hN4]; exact Upd.set _ _ _ (by simp)
    have d1 : N4.get (H.next + 1) = some (.loop 0 .ready none ρ0 #[7] asg body) := by rw [← hN4]; exact AH.get_set_same (AH.get_lt c3)
    clear hN4
    simp
    refine hK _ _ ?_; clear hK K
    refine AW_cond' rfl rfl (fun hc => by cases hc) (fun hc => ?_)
    refine AW_skip ?_
    have uu : Upd H N4 [] := ((((u.trans uN (fun j hj => .inr (by simp at hj; omega))).trans uN1 (fun j hj => .inr (by simp at hj; omega))).trans u2 (fun j hj => .inr (by have := hF j hj; omega))).trans u3 (fun j hj => .inr (by simp at hj; omega))).trans u4 (fun j hj => .inr (by simp at hj; omega))
    refine ⟨x ++ [e.2.2], by simp, ⟨uu, u4.keep (by simp) c2, d1, sv', ks ++ [e.1], F', u4.keep (by simp) c1, own3.upd u4 (fun j hj h => by have := hF1 j hj; simp at h; omega), (hpm.append_right _).trans (seenKeys_step ok.stamps he hns).symm, hF1, fun h => by simp at h⟩, unseen_lt he hns⟩
  · simp
    refine hK _ _ ?_; clear hK K
    refine AW_seq ?_
    refine AW_cond' rfl rfl (fun hc => by cases hc) (fun hc => ?_)
    have hall' : ∀ e ∈ es, e.2.2 ∈ x := fun e he => by
      apply Classical.byContradiction
      intro hns
      have := hall (kS e.1, vA e.2.1, e.2.2) (by simp only [ents]; exact List.mem_map_of_mem he) hns
      have := ok.past e he
      dsimp only at *
      omega
    rw [seenKeys_all hall'] at hpm
    refine AW_exit (then_exit (then_exit (block_here (end_normal rfl ?_))))
    simp only [hlp]
    refine ⟨by simp, ?_⟩
    refine bend (rend ?_)
    generalize hM1 : M.set (H.next + 1) _ = M1
    have uM1 : Upd M M1 [H.next + 1] := by rw [← hM1]; exact Upd.set _ _ _ (by simp)
    clear hM1
    have z1 := uM1.keep (by simp) hsv
    have own' := hown.upd uM1 (fun j hj h => by have := hF j hj; simp at h; omega)
    have lb' : aload Tryd.prog M1 72 (.p (some (H.next, 0, 0))) = some sv := by simp [aload, z1]
    refine AW_seq ?_
    refine AW_reg [4] fun K hK => ?_ -- region 4
    simp [init_eq, lb', ← hρ]
    refine hK _ _ ?_; clear hK K
    exact AW_ret (end_ret rfl ⟨ks, F, hpm, own', u.trans uM1 (fun j hj => .inr (by simp at hj; omega)), fun j hj => by have := hF j hj; omega, hnil⟩)
end Go.Proofs.YtikonppmjkipoaaDoor
