/-
  The document reads transactions.
-/
import Derived.Test.YtoccjilbfkhmoaaGreatDoorRTake3
set_option linter.unusedVariables false
set_option linter.unusedSimpArgs false
namespace Go.Proofs.YtoccjilbfkhmoaaGreatDoor
open Go Go.Abs Go.Proofs
set_option maxRecDepth 100000
attribute [local irreducible] AEnd AW ACalls

theorem spl_t1 (k : Int) (f d y v : List UInt8) (a n : Int) (x : List UInt8) : splice (Tx.cells ⟨k, f, d, y, v, a, n⟩) 1 [.s x] = Tx.cells ⟨k, x, d, y, v, a, n⟩ := rfl
theorem spl_t2 (k : Int) (f d y v : List UInt8) (a n : Int) (x : List UInt8) : splice (Tx.cells ⟨k, f, d, y, v, a, n⟩) 2 [.s x] = Tx.cells ⟨k, f, x, y, v, a, n⟩ := rfl
theorem spl_t3 (k : Int) (f d y v : List UInt8) (a n : Int) (x : List UInt8) : splice (Tx.cells ⟨k, f, d, y, v, a, n⟩) 3 [.s x] = Tx.cells ⟨k, f, d, x, v, a, n⟩ := rfl
theorem spl_t4 (k : Int) (f d y v : List UInt8) (a n : Int) (x : List UInt8) : splice (Tx.cells ⟨k, f, d, y, v, a, n⟩) 4 [.s x] = Tx.cells ⟨k, f, d, y, x, a, n⟩ := rfl
theorem spl_t5 (k : Int) (f d y v : List UInt8) (a n : Int) (x : Int) : splice (Tx.cells ⟨k, f, d, y, v, a, n⟩) 5 [.i .i64 x] = Tx.cells ⟨k, f, d, y, v, x, n⟩ := rfl
theorem spl_t6 (k : Int) (f d y v : List UInt8) (a n : Int) (x : Int) : splice (Tx.cells ⟨k, f, d, y, v, a, n⟩) 6 [.i .i64 x] = Tx.cells ⟨k, f, d, y, v, a, x⟩ := rfl
/-- The blocks while a record is read: the reader, what is answered, the record. -/
structure TR (H G : AH) (z : List V) (t : St) (l : List V) : Prop where
  nx : G.next = H.next + 4
  old : ∀ j, j < H.next → G.get j = H.get j
  rd : G.get H.next = some (.cells (rdC t) 0 false 0)
  r1 : G.get (H.next + 1) = some (.cells z 0 false 0)
  r2 : G.get (H.next + 2) = some (.cells (rdC ([], 0)) 0 false 0)
  c : G.get (H.next + 3) = some (.cells l 0 false 0)
theorem TR.put {H G : AH} {z l : List V} {t : St} (h : TR H G z t l) (t' : St) (l' : List V) : TR H ((G.set (H.next + 3) (.cells l' 0 false 0)).set H.next (.cells (rdC t') 0 false 0)) z t' l' := by
  have hn := h.nx
  exact ⟨by simp; exact h.nx, fun j hj => by rw [AH.get_set_ne (by omega), AH.get_set_ne (by omega)]; exact h.old j hj, by rw [AH.get_set_same (by simp only [AH.next_set]; omega)],
    by rw [AH.get_set_ne (by omega), AH.get_set_ne (by omega)]; exact h.r1, by rw [AH.get_set_ne (by omega), AH.get_set_ne (by omega)]; exact h.r2, by rw [AH.get_set_ne (by omega), AH.get_set_same (by omega)]⟩
theorem rtext_len' (s : St) : (rtext s).1.length ≤ 65536 := by
  unfold rtext
  split
  · simp
  · simp only [List.length_take]
    have : (rmost 65536 s).1 ≤ 65536 := by
      unfold rmost; split
      · simp
      · omega
    omega
theorem takeTx_def (s : St) : takeTx s = if (rnum s).1 = 1 ∨ (rnum s).1 = 2 then (if (if (rawTx (rnum s).1 (rnum s).2).1.ok then (rawTx (rnum s).1 (rnum s).2).2 else rfail 80 (rawTx (rnum s).1 (rnum s).2).2).2 = 0 then (rawTx (rnum s).1 (rnum s).2).1 else Tx.zero, if (rawTx (rnum s).1 (rnum s).2).1.ok then (rawTx (rnum s).1 (rnum s).2).2 else rfail 80 (rawTx (rnum s).1 (rnum s).2).2) else (Tx.zero, rfail 80 (rnum s).2) := rfl
theorem rawTx_1 (k : Nat) (s : St) (h : k = 1) : rawTx k s = (⟨k, (rtext (rnum s).2).1, (rtext (rtext (rnum s).2).2).1, [], [], ((rnum (rtext (rtext (rnum s).2).2).2).1 : Nat), ((rnum s).1 : Nat)⟩, (rnum (rtext (rtext (rnum s).2).2).2).2) := by unfold rawTx; simp only [h, if_true]
theorem rawTx_2 (k : Nat) (s : St) (h : ¬ k = 1) : rawTx k s = (⟨k, (rtext (rnum s).2).1, [], (rtext (rtext (rnum s).2).2).1, (rtext (rtext (rtext (rnum s).2).2).2).1, 0, ((rnum s).1 : Nat)⟩, (rtext (rtext (rtext (rnum s).2).2).2).2) := by unfold rawTx; simp only [h, if_false]
theorem rdTx_ok (H : AH) (s : St) : ACalls Tryz.prog 100 [rdV s] H fun r H' => r = .tup [.agg (takeTx s).1.cells, rdV (takeTx s).2] ∧ H' = H := by
  refine ACalls.pure (Q := fun r => r = .tup [.agg (takeTx s).1.cells, rdV (takeTx s).2]) ⟨_, Tryz.func100, rfl, rfl⟩ ?_
  refine ACalls_body Tryz.func100 rfl rfl ?_
  have hz : abuild Tryz.prog 150 [] = some (.agg Tx.zero.cells) := by first | (simp [abuild, afill]; done) | (simp [abuild, afill]; rfl)
  repeat refine AW_seq ?_
  refine AW_reg [1, 2, 3] fun K hK => ?_ -- region 0
  simp [init_eq, V.cells, rdV]
  refine hK _ _ ?_; clear hK K
  obtain ⟨H1, e1, hp, hp2, hp3, hn, ho⟩ := H.boxed3 (rdC s) Tx.zero.cells (rdC ([], 0))
  show AThen _ _ _ _ (((H.new (O.cells (rdC s) 0 false 0)).new (O.cells Tx.zero.cells 0 false 0)).new (O.cells (rdC ([], 0)) 0 false 0))
  rw [e1]
  clear e1
  have hend : ∀ (G : AH) (x : Tx) (u : St) (ρ : Env), H.next + 3 ≤ G.next → (∀ j, j < H.next → G.get j = H.get j) → ρ.get 2 = .p (some (H.next + 1, 0, 0)) → ρ.get 3 = .p (some (H.next + 2, 0, 0)) → (x, u) = takeTx s → AEnd Tryz.prog Tryz.f100 (fun r H' => r = .tup [.agg (takeTx s).1.cells, rdV (takeTx s).2] ∧ V.lt H.next r = true ∧ H.next ≤ H'.next ∧ ∀ j, j < H.next → H'.get j = H.get j) .ret ρ ((G.set (H.next + 1) (.cells x.cells 0 false 0)).set (H.next + 2) (.cells (rdC u) 0 false 0)) := fun G x u ρ hG hG2 h1 h2 h3 =>
    end_ret (ares_cc (v := .agg x.cells) (w := rdV u) (by rw [h1]; simp [aload, AH.get_set, show H.next + 1 < G.next by omega, tx_take]) (by rw [h2]; simp [aload, AH.get_set, show H.next + 2 < G.next by omega, rdV])) ⟨by rw [← h3], by rfl, by simp; omega, fun j hj => by rw [AH.get_set_ne (by omega), AH.get_set_ne (by omega)]; exact hG2 j hj⟩
  have hs1 : ∀ (G : AH) (x : Tx), G.get (H.next + 1) = some (.cells Tx.zero.cells 0 false 0) → astore Tryz.prog G 150 (.p (some (H.next + 1, 0, 0))) (.agg x.cells) = some (G.set (H.next + 1) (.cells x.cells 0 false 0)) := fun G x h => by simp [astore, h, V.cells, show splice Tx.zero.cells 0 x.cells = x.cells from rfl]
  have hs2 : ∀ (G : AH) (x : Tx) (u : St), G.get (H.next + 2) = some (.cells (rdC ([], 0)) 0 false 0) → astore Tryz.prog (G.set (H.next + 1) (.cells x.cells 0 false 0)) 82 (.p (some (H.next + 2, 0, 0))) (rdV u) = some ((G.set (H.next + 1) (.cells x.cells 0 false 0)).set (H.next + 2) (.cells (rdC u) 0 false 0)) := fun G x u h => by simp [astore, AH.get_set, h, V.cells, rdV, rdC_spl2]
  repeat refine AW_seq ?_
  refine AW_reg [1, 2, 3, 4] fun K hK => ?_ -- region 1
  have hld : aload Tryz.prog H1 82 (.p (some (H.next, 0, 0))) = some (rdV s) := by simp [aload, hp, rdV]
  simp [init_eq, hld]
  refine ACalls.mono (rdNum_ok H1 s) fun r G' ⟨hr, e⟩ => ?_ -- (hallmoot/hallmootref03.Reader).Num
  subst hr e
  simp [astore, hp, V.cells, rdV, rdC_spl2]
  refine hK _ _ ?_; clear hK K hld
  have hT := takeTx_def s
  generalize rnum s = k at *
  have q1 : (G'.set H.next (.cells (rdC k.2) 0 false 0)).get H.next = some (.cells (rdC k.2) 0 false 0) := AH.get_set_same (by omega)
  have q2 : (G'.set H.next (.cells (rdC k.2) 0 false 0)).get (H.next + 1) = some (.cells Tx.zero.cells 0 false 0) := by rw [AH.get_set_ne (by omega)]; exact hp2
  have q3 : (G'.set H.next (.cells (rdC k.2) 0 false 0)).get (H.next + 2) = some (.cells (rdC ([], 0)) 0 false 0) := by rw [AH.get_set_ne (by omega)]; exact hp3
  have q4 : (G'.set H.next (.cells (rdC k.2) 0 false 0)).next = H.next + 3 := hn
  have q5 : ∀ j, j < H.next → (G'.set H.next (.cells (rdC k.2) 0 false 0)).get j = H.get j := fun j hj => by rw [AH.get_set_ne (by omega)]; exact ho j hj
  generalize (G'.set H.next (.cells (rdC k.2) 0 false 0)) = G at *
  clear hp hp2 hp3 hn ho
  repeat refine AW_seq ?_
  refine AW_regto [1, 2, 3, 4, 16] ⟨73, [(1, .p (some (H.next, 0, 0))), (2, .p (some (H.next + 1, 0, 0))), (3, .p (some (H.next + 2, 0, 0))), (4, .i .i64 (k.1 : Nat)), (16, .b (decide (¬ (k.1 = 1 ∨ k.1 = 2))))]⟩ G (fun K hk => ?_) ?_ -- region 2
  · by_cases g1 : k.1 = 1
    · simpa [init_eq, g1] using hk
    · have g1' : ¬ (k.1 : Int) = 1 := by omega
      by_cases g2 : k.1 = 2
      · simpa [init_eq, g2] using hk
      · have g2' : ¬ (k.1 : Int) = 2 := by omega
        simpa [init_eq, g1, g1', g2, g2'] using hk
  refine AW_cond' rfl rfl (fun hc => ?_) (fun hc => ?_)
  · have g : ¬ (k.1 = 1 ∨ k.1 = 2) := by simpa using hc
    have hld : aload Tryz.prog G 82 (.p (some (H.next, 0, 0))) = some (rdV k.2) := by simp [aload, q1, rdV]
    repeat refine AW_seq ?_
    refine AW_reg [2, 3] fun K hK => ?_ -- region 3
    simp [init_eq, hz, hld]
    refine ACalls.mono (rdFail_ok ..) fun r G' ⟨hr, e⟩ => ?_ -- (hallmoot/hallmootref03.Reader).Fail
    subst hr e
    simp [hs1 _ _ q2, hs2 _ _ _ q3]
    refine hK _ _ ?_; clear hK K
    exact AW_ret (hend _ _ _ _ (by omega) q5 rfl rfl (by rw [hT, if_neg g]))
  have g : k.1 = 1 ∨ k.1 = 2 := by
    by_cases h : k.1 = 1
    · exact .inl h
    · right; simpa [h] using hc
  rw [if_pos g] at hT
  clear hc
  refine AW_skip ?_
  refine AW_seq ?_
  refine AW_reg [1, 2, 3, 4, 5] fun K hK => ?_ -- region 4
  obtain ⟨H2, e2, hp4, hn2, ho2⟩ := AH.boxedS G Tx.zero.cells (Tx.cells ⟨(k.1 : Nat), [], [], [], [], 0, 0⟩)
  have hab : abuild Tryz.prog 150 [(0, .i .i64 (k.1 : Nat))] = some (.agg (Tx.cells ⟨(k.1 : Nat), [], [], [], [], 0, 0⟩)) := by simp [abuild, afill, V.cells, splice, Tx.cells]
  simp [init_eq, hab, V.cells, astore, AH.get_new]
  refine hK _ _ ?_; clear hK K
  show AThen _ _ _ _ ((G.new (O.cells Tx.zero.cells 0 false 0)).set G.next (O.cells (Tx.cells ⟨(k.1 : Nat), [], [], [], [], 0, 0⟩) 0 false 0))
  rw [e2, q4]
  have T : TR H H2 Tx.zero.cells k.2 (Tx.cells ⟨(k.1 : Nat), [], [], [], [], 0, 0⟩) := ⟨by omega, fun j hj => by rw [ho2 j (by omega), q5 j hj], by rw [ho2 _ (by omega)]; exact q1, by rw [ho2 _ (by omega)]; exact q2, by rw [ho2 _ (by omega)]; exact q3, by rw [q4] at hp4; exact hp4⟩
  clear e2 hp4 hn2 ho2 q1 q2 q3 q4 q5
  refine AW_seq ?_
  refine AW_reg [1, 2, 3, 4, 5] fun K hK => ?_ -- region 5
  have hld : aload Tryz.prog H2 82 (.p (some (H.next, 0, 0))) = some (rdV k.2) := by simp [aload, T.rd, rdV]
  simp [init_eq, hld]
  refine ACalls.mono (rdNum_ok H2 k.2) fun r G' ⟨hr, e⟩ => ?_
  subst hr e
  simp [afieldAddr, astore, T.c, T.rd, T.nx, V.cells, rdV, AH.get_set, spl_t6, rdC_spl2]
  refine hK _ _ ?_; clear hK K hld
  have T1 := T.put (rnum k.2).2 (Tx.cells ⟨(k.1 : Nat), [], [], [], [], 0, ((rnum k.2).1 : Nat)⟩)
  generalize (AH.set _ H.next _ : AH) = G1 at T1 ⊢
  clear T
  refine AW_seq ?_
  refine AW_reg [1, 2, 3, 4, 5] fun K hK => ?_ -- region 6
  have hld : aload Tryz.prog G1 82 (.p (some (H.next, 0, 0))) = some (rdV (rnum k.2).2) := by simp [aload, T1.rd, rdV]
  simp [init_eq, hld]
  refine ACalls.mono (rdText_ok G1 (rnum k.2).2) fun r G' ⟨hr, e⟩ => ?_
  subst hr e
  simp [afieldAddr, astore, T1.c, T1.rd, T1.nx, V.cells, rdV, AH.get_set, spl_t1, rdC_spl2]
  refine hK _ _ ?_; clear hK K hld
  have T2 := T1.put (rtext (rnum k.2).2).2 (Tx.cells ⟨(k.1 : Nat), (rtext (rnum k.2).2).1, [], [], [], 0, ((rnum k.2).1 : Nat)⟩)
  generalize (AH.set _ H.next _ : AH) = G2 at T2 ⊢
  clear T1
  refine AW_cut (fun ρ G => ρ = ⟨73, [(1, .p (some (H.next, 0, 0))), (2, .p (some (H.next + 1, 0, 0))), (3, .p (some (H.next + 2, 0, 0))), (5, .p (some (H.next + 3, 0, 0)))]⟩ ∧ TR H G Tx.zero.cells (rawTx k.1 k.2).2 (rawTx k.1 k.2).1.cells) ?_ fun ρ G ⟨e1, T3⟩ => ?_
  · refine AW_seq ?_
    refine AW_reg [1, 2, 3, 5, 35] fun K hK => ?_ -- region 7
    simp [init_eq]
    refine hK _ _ ?_; clear hK K
    refine AW_cond' rfl rfl (fun hc => ?_) (fun hc => ?_)
    · have g1 : k.1 = 1 := by have : (k.1 : Int) = 1 := by simpa using hc
                              omega
      rw [rawTx_1 _ _ g1]
      clear hc
      refine AW_seq ?_
      refine AW_reg [1, 2, 3, 5] fun K hK => ?_ -- region 8
      have hld : aload Tryz.prog G2 82 (.p (some (H.next, 0, 0))) = some (rdV ((rtext (rnum k.2).2).2)) := by simp [aload, T2.rd, rdV]
      simp [init_eq, hld]
      refine ACalls.mono (rdText_ok G2 ((rtext (rnum k.2).2).2)) fun r G' ⟨hr, e⟩ => ?_
      subst hr e
      simp [afieldAddr, astore, T2.c, T2.rd, T2.nx, V.cells, rdV, AH.get_set, spl_t2, rdC_spl2]
      refine hK _ _ ?_; clear hK K hld
      have T3 := T2.put (rtext ((rtext (rnum k.2).2).2)).2 (Tx.cells ⟨(k.1 : Nat), (rtext (rnum k.2).2).1, (rtext (rtext (rnum k.2).2).2).1, [], [], 0, ((rnum k.2).1 : Nat)⟩)
      generalize (AH.set _ H.next _ : AH) = G3 at T3 ⊢
      clear T2
      refine AW_reg [1, 2, 3, 5] fun K hK => ?_ -- region 9
      have hld : aload Tryz.prog G3 82 (.p (some (H.next, 0, 0))) = some (rdV ((rtext (rtext (rnum k.2).2).2).2)) := by simp [aload, T3.rd, rdV]
      simp [init_eq, hld]
      refine ACalls.mono (rdNum_ok G3 ((rtext (rtext (rnum k.2).2).2).2)) fun r G' ⟨hr, e⟩ => ?_
      subst hr e
      simp [afieldAddr, astore, T3.c, T3.rd, T3.nx, V.cells, rdV, AH.get_set, spl_t5, rdC_spl2]
      refine hK _ _ ?_; clear hK K hld
      have T4 := T3.put (rnum ((rtext (rtext (rnum k.2).2).2).2)).2 (Tx.cells ⟨(k.1 : Nat), (rtext (rnum k.2).2).1, (rtext (rtext (rnum k.2).2).2).1, [], [], ((rnum (rtext (rtext (rnum k.2).2).2).2).1 : Nat), ((rnum k.2).1 : Nat)⟩)
      generalize (AH.set _ H.next _ : AH) = G4 at T4 ⊢
      clear T3
      exact rend ⟨_, by simp, rfl, T4⟩
    · have g1 : ¬ k.1 = 1 := fun h => by
        have : ¬ (k.1 : Int) = 1 := by simpa using hc
        omega
      rw [rawTx_2 _ _ g1]
      clear hc
      refine AW_seq ?_
      refine AW_reg [1, 2, 3, 5] fun K hK => ?_ -- region 10
      have hld : aload Tryz.prog G2 82 (.p (some (H.next, 0, 0))) = some (rdV ((rtext (rnum k.2).2).2)) := by simp [aload, T2.rd, rdV]
      simp [init_eq, hld]
      refine ACalls.mono (rdText_ok G2 ((rtext (rnum k.2).2).2)) fun r G' ⟨hr, e⟩ => ?_
      subst hr e
      simp [afieldAddr, astore, T2.c, T2.rd, T2.nx, V.cells, rdV, AH.get_set, spl_t3, rdC_spl2]
      refine hK _ _ ?_; clear hK K hld
      have T3 := T2.put (rtext ((rtext (rnum k.2).2).2)).2 (Tx.cells ⟨(k.1 : Nat), (rtext (rnum k.2).2).1, [], (rtext (rtext (rnum k.2).2).2).1, [], 0, ((rnum k.2).1 : Nat)⟩)
      generalize (AH.set _ H.next _ : AH) = G3 at T3 ⊢
      clear T2
      refine AW_reg [1, 2, 3, 5] fun K hK => ?_ -- region 11
      have hld : aload Tryz.prog G3 82 (.p (some (H.next, 0, 0))) = some (rdV ((rtext (rtext (rnum k.2).2).2).2)) := by simp [aload, T3.rd, rdV]
      simp [init_eq, hld]
      refine ACalls.mono (rdText_ok G3 ((rtext (rtext (rnum k.2).2).2).2)) fun r G' ⟨hr, e⟩ => ?_
      subst hr e
      simp [afieldAddr, astore, T3.c, T3.rd, T3.nx, V.cells, rdV, AH.get_set, spl_t4, rdC_spl2]
      refine hK _ _ ?_; clear hK K hld
      have T4 := T3.put (rtext ((rtext (rtext (rnum k.2).2).2).2)).2 (Tx.cells ⟨(k.1 : Nat), (rtext (rnum k.2).2).1, [], (rtext (rtext (rnum k.2).2).2).1, (rtext (rtext (rtext (rnum k.2).2).2).2).1, 0, ((rnum k.2).1 : Nat)⟩)
      generalize (AH.set _ H.next _ : AH) = G4 at T4 ⊢
      clear T3
      exact rend ⟨_, by simp, rfl, T4⟩
  subst e1
  clear T2
  have hsm : (rawTx k.1 k.2).1.small := by
    by_cases g1 : k.1 = 1
    · rw [rawTx_1 _ _ g1]
      have l1 := rtext_len' (rnum k.2).2
      have l2 := rtext_len' (rtext (rnum k.2).2).2
      exact ⟨by simp only; omega, by simp only; omega, by simp, by simp⟩
    · rw [rawTx_2 _ _ g1]
      have l1 := rtext_len' (rnum k.2).2
      have l2 := rtext_len' (rtext (rnum k.2).2).2
      have l3 := rtext_len' (rtext (rtext (rnum k.2).2).2).2
      exact ⟨by simp only; omega, by simp, by simp only; omega, by simp only; omega⟩
  generalize rawTx k.1 k.2 = y at *
  obtain ⟨x, t⟩ := y
  simp only at hT T3 hsm
  have hnx := T3.nx
  have hld : aload Tryz.prog G 82 (.p (some (H.next, 0, 0))) = some (rdV t) := by simp [aload, T3.rd, rdV]
  have hlc : aload Tryz.prog G 150 (.p (some (H.next + 3, 0, 0))) = some (.agg x.cells) := by simp [aload, T3.c, tx_take]
  repeat refine AW_seq ?_
  refine AW_regto [1, 2, 3, 5, 67] ⟨73, [(1, .p (some (H.next, 0, 0))), (2, .p (some (H.next + 1, 0, 0))), (3, .p (some (H.next + 2, 0, 0))), (5, .p (some (H.next + 3, 0, 0))), (67, .b (decide (¬ t.2 = 0 ∨ x.ok = false)))]⟩ G (fun K hk => ?_) ?_ -- region 12
  · by_cases g1 : t.2 = 0
    · have hle : aload Tryz.prog G 3 (.p (some (H.next, 0, 1))) = some (.i .i64 t.2) := by simp [aload, T3.rd]
      simp [init_eq, afieldAddr, hle, g1, hlc]
      refine ACalls.mono (rtxCheck_ok G x hsm) fun r G' ⟨hr, e⟩ => ?_ -- hallmoot/hallmootref08.Check
      subst hr e
      cases g2 : x.ok
      · simpa [g1, g2] using hk
      · simpa [g1, g2] using hk
    · simpa [init_eq, afieldAddr, aload, T3.rd, g1] using hk
  refine AW_cond' rfl rfl (fun hc => ?_) (fun hc => ?_)
  · have g1 : ¬ t.2 = 0 ∨ x.ok = false := by simpa using hc
    have hT2 : takeTx s = (Tx.zero, rfail 80 t) := by
      rw [hT]
      by_cases g2 : x.ok = true
      · have g3 : ¬ t.2 = 0 := by rcases g1 with g | g
                                  · exact g
                                  · rw [g2] at g; cases g
        rw [if_pos g2, if_neg g3, rfail_err g3]
      · rw [if_neg g2, if_neg (rfail_ne (by decide))]
    repeat refine AW_seq ?_
    refine AW_reg [2, 3] fun K hK => ?_ -- region 13
    simp [init_eq, hz, hld]
    refine ACalls.mono (rdFail_ok ..) fun r G' ⟨hr, e⟩ => ?_ -- (hallmoot/hallmootref03.Reader).Fail
    subst hr e
    simp [hs1 _ _ T3.r1, hs2 _ _ _ T3.r2]
    refine hK _ _ ?_; clear hK K
    exact AW_ret (hend _ _ _ _ (by omega) T3.old rfl rfl hT2.symm)
  · have g1 : t.2 = 0 ∧ x.ok = true := by simpa using hc
    have hT2 : takeTx s = (x, t) := by rw [hT, if_pos g1.2, if_pos g1.1]
    refine AW_skip ?_
    repeat refine AW_seq ?_
    refine AW_regm (.only [H.next, H.next + 3]) [2, 3] pl_100_14 pe_100_14 (by kernel_rfl) (by kernel_rfl) (by decide) fun K hK => ?_
    simp [init_eq, pl_100_14, APlan_takem, through, tkOk, rid, hlc, hld, hs1 _ _ T3.r1, hs2 _ _ _ T3.r2]
    refine ⟨⟨fun _ => by rw [AH.get_set_ne (by omega)], fun _ => by rw [AH.get_set_ne (by omega)]⟩, ?_⟩
    refine hK _ _ ?_; clear hK K
    exact AW_ret (hend _ _ _ _ (by omega) T3.old rfl rfl hT2.symm)
end Go.Proofs.YtoccjilbfkhmoaaGreatDoor
