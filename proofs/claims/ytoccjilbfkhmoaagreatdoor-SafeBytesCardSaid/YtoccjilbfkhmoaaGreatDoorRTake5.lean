/-
  The document reads blocks.
-/
import Derived.Test.YtoccjilbfkhmoaaGreatDoorRTake4
import Derived.Test.YtoccjilbfkhmoaaGreatDoorRead8
set_option linter.unusedVariables false
set_option linter.unusedSimpArgs false
namespace Go.Proofs.YtoccjilbfkhmoaaGreatDoor
open Go Go.Abs Go.Proofs
set_option maxRecDepth 100000
attribute [local irreducible] AEnd AW ACalls

/-- The blocks while a block is read: the reader, what is answered, the block. -/
structure TL (H G : AH) (t : St) (l : List V) : Prop where
  nx : H.next + 5 ≤ G.next
  old : ∀ j, j < H.next → G.get j = H.get j
  rd : G.get H.next = some (.cells (rdC t) 0 false 0)
  r1 : G.get (H.next + 1) = some (.cells (Blk.zero.cells nilSl nilSl) 0 false 0)
  r2 : G.get (H.next + 2) = some (.cells (rdC ([], 0)) 0 false 0)
  c : G.get (H.next + 3) = some (.cells l 0 false 0)
section
variable {H G : AH} {t : St} {l : List V}
theorem TL.setR (h : TL H G t l) (t' : St) : TL H (G.set H.next (.cells (rdC t') 0 false 0)) t' l := by
  have hn := h.nx
  exact ⟨by simp; exact h.nx, fun j hj => by rw [AH.get_set_ne (by omega)]; exact h.old j hj, by rw [AH.get_set_same (by omega)],
    by rw [AH.get_set_ne (by omega)]; exact h.r1, by rw [AH.get_set_ne (by omega)]; exact h.r2, by rw [AH.get_set_ne (by omega)]; exact h.c⟩
theorem TL.setC (h : TL H G t l) (l' : List V) : TL H (G.set (H.next + 3) (.cells l' 0 false 0)) t l' := by
  have hn := h.nx
  exact ⟨by simp; exact h.nx, fun j hj => by rw [AH.get_set_ne (by omega)]; exact h.old j hj, by rw [AH.get_set_ne (by omega)]; exact h.rd,
    by rw [AH.get_set_ne (by omega)]; exact h.r1, by rw [AH.get_set_ne (by omega)]; exact h.r2, by rw [AH.get_set_same (by omega)]⟩
theorem TL.upd (h : TL H G t l) {G' : AH} {F : List Nat} (hu : Upd G G' F) (hF : ∀ j ∈ F, H.next + 4 ≤ j) : TL H G' t l := by
  have hn := h.nx
  have h4 : ∀ j, j < H.next + 4 → G'.get j = G.get j := fun j hj => hu.2 j (by omega) fun hm => by have := hF j hm; omega
  exact ⟨by have := hu.1; omega, fun j hj => by rw [h4 j (by omega)]; exact h.old j hj, by rw [h4 _ (by omega)]; exact h.rd, by rw [h4 _ (by omega)]; exact h.r1, by rw [h4 _ (by omega)]; exact h.r2, by rw [h4 _ (by omega)]; exact h.c⟩
theorem TL.ld (h : TL H G t l) : aload Tryz.prog G 82 (.p (some (H.next, 0, 0))) = some (rdV t) := by simp [aload, h.rd, rdV]
theorem TL.st (h : TL H G t l) (t' : St) : astore Tryz.prog G 82 (.p (some (H.next, 0, 0))) (rdV t') = some (G.set H.next (.cells (rdC t') 0 false 0)) := by simp [astore, h.rd, V.cells, rdV, rdC_spl2]
end
/-- The numbers that are read first. -/
def stN (s : St) : Nat → St
  | 0 => s
  | i + 1 => (rnum (stN s i)).2
def arrN (s : St) (i : Nat) : List V := (List.range 4).map fun j => if j < i then .i .i64 ((rnum (stN s j)).1 : Nat) else .i .i64 0
theorem tmo_s0 (k v : Int) (c : Cert) (x : Int) : splice (Tmo.cells ⟨k, v, c⟩) 0 [.i .i64 x] = Tmo.cells ⟨x, v, c⟩ := rfl
theorem tmo_s2 (k v : Int) (c d : Cert) : splice (Tmo.cells ⟨k, v, c⟩) 2 d.cells = Tmo.cells ⟨k, v, d⟩ := rfl
theorem rawTx_small (k : Nat) (s : St) : (rawTx k s).1.small := by
  by_cases g1 : k = 1
  · rw [rawTx_1 _ _ g1]
    have l1 := rtext_len' (rnum s).2
    have l2 := rtext_len' (rtext (rnum s).2).2
    exact ⟨by simp only; omega, by simp only; omega, by simp, by simp⟩
  · rw [rawTx_2 _ _ g1]
    have l1 := rtext_len' (rnum s).2
    have l2 := rtext_len' (rtext (rnum s).2).2
    have l3 := rtext_len' (rtext (rtext (rnum s).2).2).2
    exact ⟨by simp only; omega, by simp, by simp only; omega, by simp only; omega⟩
theorem takeTx_small (s : St) : (takeTx s).1.small := by
  have hz : Tx.zero.small := ⟨by decide, by decide, by decide, by decide⟩
  have h := rawTx_small (rnum s).1 (rnum s).2
  rw [takeTx_def]
  by_cases g1 : (rnum s).1 = 1 ∨ (rnum s).1 = 2
  · rw [if_pos g1]
    generalize rawTx (rnum s).1 (rnum s).2 = y at *
    by_cases g2 : (if y.1.ok = true then y.2 else rfail 80 y.2).2 = 0
    · rw [if_pos g2]; exact h
    · rw [if_neg g2]; exact hz
  · rw [if_neg g1]; exact hz
theorem own_moved {G G' : AH} {v : V} {sz : Nat} {cs : List V} {F : List Nat} (h : Own G v sz cs F) (hg : ∀ j ∈ F, G'.get j = G.get j) : Own G' v sz cs F := by
  rcases h with h | ⟨id, g, len, e1, e2, e3, e4⟩
  · exact .inl h
  · exact .inr ⟨id, g, len, e1, by rw [hg id (by rw [e4]; simp)]; exact e2, e3, e4⟩
/-- A block whose lists are new. -/
def BlkNew (H H' : AH) (b : Blk) (pv tv : V) : Prop := ∀ G', (∀ j, H.next ≤ j → j < H'.next → G'.get j = H'.get j) → H'.next ≤ G'.next → BlkAt G' b pv tv
theorem BlkNew.here {H H' : AH} {b : Blk} {pv tv : V} (h : BlkNew H H' b pv tv) : BlkAt H' b pv tv := h H' (fun _ _ _ => rfl) (Nat.le_refl _)
theorem rdBlk_ok (H : AH) (s : St) : ACalls Tryz.prog 64 [rdV s] H fun r H' => ∃ pv tv, r = .tup [.agg ((rtakeBlk s).1.cells pv tv), rdV (rtakeBlk s).2] ∧ BlkNew H H' (rtakeBlk s).1 pv tv ∧ Upd H H' [] := by
  refine ACalls_body Tryz.func64 rfl rfl ?_
  have hz : abuild Tryz.prog 68 [] = some (.agg (Blk.zero.cells nilSl nilSl)) := by first | (simp [abuild, afill]; done) | (simp [abuild, afill]; rfl)
  repeat refine AW_seq ?_
  refine AW_reg [1, 2, 3] fun K hK => ?_ -- region 0
  simp [init_eq, V.cells, rdV]
  refine hK _ _ ?_; clear hK K
  obtain ⟨H1, e1, hp, hp2, hp3, hn, ho⟩ := H.boxed3 (rdC s) (Blk.zero.cells nilSl nilSl) (rdC ([], 0))
  show AThen _ _ _ _ (((H.new (O.cells (rdC s) 0 false 0)).new (O.cells (Blk.zero.cells nilSl nilSl) 0 false 0)).new (O.cells (rdC ([], 0)) 0 false 0))
  rw [e1]
  clear e1
  refine AW_seq ?_
  refine AW_reg [1, 2, 3, 4] fun K hK => ?_ -- region 1
  obtain ⟨H2, e2, hp4, hn2, ho2⟩ := AH.boxedS H1 (Blk.zero.cells nilSl nilSl) (Blk.zero.cells nilSl nilSl)
  simp [init_eq, hz, V.cells, astore, AH.get_new]
  refine hK _ _ ?_; clear hK K
  show AThen _ _ _ _ ((H1.new (O.cells (Blk.zero.cells nilSl nilSl) 0 false 0)).set H1.next (O.cells (Blk.zero.cells nilSl nilSl) 0 false 0))
  rw [e2, hn]
  clear e2
  refine AW_seq ?_
  refine AW_reg [1, 2, 3, 4, 5] fun K hK => ?_ -- region 2
  simp [init_eq, V.cells]
  refine hK _ _ ?_; clear hK K
  obtain ⟨H3, e3, hp5, hn3, ho3⟩ := H2.boxed [.i .i64 0, .i .i64 0, .i .i64 0, .i .i64 0]
  rw [e3, hn2, hn]
  have T : TL H H3 s (Blk.cells ⟨0, 0, 0, 0, Cert.zero, [], []⟩ nilSl nilSl) := ⟨by omega, fun j hj => by rw [ho3 j (by omega), ho2 j (by omega), ho j hj], by rw [ho3 _ (by omega), ho2 _ (by omega)]; exact hp, by rw [ho3 _ (by omega), ho2 _ (by omega)]; exact hp2, by rw [ho3 _ (by omega), ho2 _ (by omega)]; exact hp3, by rw [ho3 _ (by omega), show H.next + 3 = H1.next by omega]; exact hp4⟩
  have hl0 : H3.get (H.next + 4) = some (.cells (arrN s 0) 0 false 0) := by rw [show H.next + 4 = H2.next by omega]; exact hp5
  clear e3 hp hp2 hp3 hp4 hp5 hn hn2 hn3 ho ho2 ho3
  -- the numbers
  refine AW_seq ?_
  refine AW_seq ?_
  refine AW_reg [1, 2, 3, 4, 5, 6] fun K hK => ?_ -- region 3
  simp [init_eq]
  refine hK _ _ ?_; clear hK K
  refine AW_block ?_
  refine AW_loopx (fun i : Nat => ⟨113, [(1, .p (some (H.next, 0, 0))), (2, .p (some (H.next + 1, 0, 0))), (3, .p (some (H.next + 2, 0, 0))), (4, .p (some (H.next + 3, 0, 0))), (5, .p (some (H.next + 4, 0, 0))), (6, .i .i64 i)]⟩)
    (fun i G => i ≤ 4 ∧ TL H G (stN s i) (Blk.cells ⟨0, 0, 0, 0, Cert.zero, [], []⟩ nilSl nilSl) ∧ G.get (H.next + 4) = some (.cells (arrN s i) 0 false 0)) (fun i => 4 - i) 0 (by simp) ⟨by simp, T, hl0⟩ fun i G hM => ?_ -- loop
  clear T hl0
  obtain ⟨hi4, T, hl⟩ := hM
  refine AW_seq ?_
  refine AW_seq ?_
  refine AW_reg [1, 2, 3, 4, 5, 6, 16] fun K hK => ?_ -- region 4
  simp [init_eq]
  refine hK _ _ ?_; clear hK K
  refine AW_cond' rfl rfl (fun hc => ?_) (fun hc => ?_)
  · have hi : i < 4 := by have : (i : Int) < 4 := by simpa using hc
                          omega
    clear hc
    have hspl : splice (arrN s i) i [.i .i64 ((rnum (stN s i)).1 : Nat)] = arrN s (i + 1) := by
      rcases i with _ | _ | _ | _ | i
      · rfl
      · rfl
      · rfl
      · rfl
      · omega
    have hll : (arrN s i).length = 4 := by simp [arrN]
    refine AW_skip ?_
    refine AW_seq ?_
    refine AW_block ?_
    refine AW_reg [1, 2, 3, 4, 5, 6] fun K hK => ?_ -- region 6
    simp [init_eq, T.ld]
    refine ACalls.mono (rdNum_ok G (stN s i)) fun r G' ⟨hr, e⟩ => ?_ -- (hallmoot/hallmootref03.Reader).Num
    subst hr e
    have hlt : H.next + 4 < G'.next := AH.get_lt hl
    have hT1 : TL H (G'.set (H.next + 4) (.cells (arrN s (i + 1)) 0 false 0)) (stN s i) (Blk.cells ⟨0, 0, 0, 0, Cert.zero, [], []⟩ nilSl nilSl) := T.upd (Upd.set (F := [H.next + 4]) _ _ _ (by simp)) (by simp)
    have hai : aindexAddr Tryz.prog 145 (.p (some (H.next + 4, 0, 0))) (.i .i64 i) = some (.p (some (H.next + 4, 0, i))) := by simp [aindexAddr]; omega
    have hst1 := hT1.st (rnum (stN s i)).2
    have hstA : astore Tryz.prog G' 2 (.p (some (H.next + 4, 0, i))) (.i .i64 ((rnum (stN s i)).1 : Nat)) = some (G'.set (H.next + 4) (.cells (arrN s (i + 1)) 0 false 0)) := by simp [astore, hl, V.cells, hspl, hll]; omega
    have hgA : (G'.set (H.next + 4) (.cells (arrN s (i + 1)) 0 false 0)).get (H.next + 4) = some (.cells (arrN s (i + 1)) 0 false 0) := AH.get_set_same hlt
    have hlt2 : H.next < (G'.set (H.next + 4) (.cells (arrN s (i + 1)) 0 false 0)).next := by simp; omega
    generalize (G'.set (H.next + 4) (.cells (arrN s (i + 1)) 0 false 0)) = G1 at *
    simp [hai, hstA, hst1]
    refine hK _ _ ?_; clear hK K
    refine bend (rend ?_)
    refine AW_reg [1, 2, 3, 4, 5, 6] fun K hK => ?_ -- region 5
    simp [init_eq, wrap_id (x := (i : Int) + 1) (by omega) (by omega)]
    refine hK _ _ ?_; clear hK K
    exact rend ⟨i + 1, by simp, ⟨by omega, hT1.setR _, by rw [AH.get_set_ne (by omega)]; exact hgA⟩, by omega⟩
  have hi : i = 4 := by have : ¬ (i : Int) < 4 := by simpa using hc
                        omega
  subst hi
  clear hc hi4
  refine AW_exit (then_exit (then_exit (block_here ?_)))
  have hr : rrawBlk s = (⟨((rnum s).1 : Nat), ((rnum (stN s 1)).1 : Nat), ((rnum (stN s 2)).1 : Nat), ((rnum (stN s 3)).1 : Nat), (takeCert (stN s 4)).1, (takeL (rtakeTmo ((rnum s).1 : Nat)) (rmost 10 (takeCert (stN s 4)).2).1 (rmost 10 (takeCert (stN s 4)).2).2).1,
    (takeL takeTx (rmost 8 (takeL (rtakeTmo ((rnum s).1 : Nat)) (rmost 10 (takeCert (stN s 4)).2).1 (rmost 10 (takeCert (stN s 4)).2).2).2).1 (rmost 8 (takeL (rtakeTmo ((rnum s).1 : Nat)) (rmost 10 (takeCert (stN s 4)).2).1 (rmost 10 (takeCert (stN s 4)).2).2).2).2).1⟩,
    (takeL takeTx (rmost 8 (takeL (rtakeTmo ((rnum s).1 : Nat)) (rmost 10 (takeCert (stN s 4)).2).1 (rmost 10 (takeCert (stN s 4)).2).2).2).1 (rmost 8 (takeL (rtakeTmo ((rnum s).1 : Nat)) (rmost 10 (takeCert (stN s 4)).2).1 (rmost 10 (takeCert (stN s 4)).2).2).2).2).2) := rfl
  have hrt : rtakeBlk s = if (rrawBlk s).2.2 = 0 then (if (rrawBlk s).1.err = 0 then rrawBlk s else (Blk.zero, rfail (rrawBlk s).1.err (rrawBlk s).2)) else (Blk.zero, (rrawBlk s).2) := rfl
  have hl' : G.get (H.next + 4) = some (.cells [.i .i64 ((rnum s).1 : Nat), .i .i64 ((rnum (stN s 1)).1 : Nat), .i .i64 ((rnum (stN s 2)).1 : Nat), .i .i64 ((rnum (stN s 3)).1 : Nat)] 0 false 0) := hl
  clear hl
  generalize hx0 : (rnum s).1 = x0 at *
  generalize (rnum (stN s 1)).1 = x1 at *
  generalize (rnum (stN s 2)).1 = x2 at *
  generalize (rnum (stN s 3)).1 = x3 at *
  generalize stN s 4 = s4 at *
  refine AW_seq ?_
  refine AW_reg [1, 2, 3, 4, 5] fun K hK => ?_ -- region 7
  simp [init_eq, aindexAddr, aload, hl', afieldAddr, astore, T.c, V.cells, Blk.w0]
  refine hK _ _ ?_; clear hK K
  have T1 := T.setC (Blk.cells ⟨(x0 : Nat), 0, 0, 0, Cert.zero, [], []⟩ nilSl nilSl)
  have hl1 := (Upd.set (F := [H.next + 3]) G (H.next + 3) (.cells (Blk.cells ⟨(x0 : Nat), 0, 0, 0, Cert.zero, [], []⟩ nilSl nilSl) 0 false 0) (by simp)).keep (by simp) hl'
  generalize (AH.set _ (H.next + 3) _ : AH) = G1 at T1 hl1 ⊢
  clear T hl'
  refine AW_seq ?_
  refine AW_reg [1, 2, 3, 4, 5] fun K hK => ?_ -- region 8
  simp [init_eq, aindexAddr, aload, hl1, afieldAddr, astore, T1.c, V.cells, Blk.w1]
  refine hK _ _ ?_; clear hK K
  have T2 := T1.setC (Blk.cells ⟨(x0 : Nat), (x1 : Nat), 0, 0, Cert.zero, [], []⟩ nilSl nilSl)
  have hl2 := (Upd.set (F := [H.next + 3]) G1 (H.next + 3) (.cells (Blk.cells ⟨(x0 : Nat), (x1 : Nat), 0, 0, Cert.zero, [], []⟩ nilSl nilSl) 0 false 0) (by simp)).keep (by simp) hl1
  generalize (AH.set _ (H.next + 3) _ : AH) = G2 at T2 hl2 ⊢
  clear T1 hl1
  refine AW_seq ?_
  refine AW_reg [1, 2, 3, 4, 5] fun K hK => ?_ -- region 9
  simp [init_eq, aindexAddr, aload, hl2, afieldAddr, astore, T2.c, V.cells, Blk.w2]
  refine hK _ _ ?_; clear hK K
  have T3 := T2.setC (Blk.cells ⟨(x0 : Nat), (x1 : Nat), (x2 : Nat), 0, Cert.zero, [], []⟩ nilSl nilSl)
  have hl3 := (Upd.set (F := [H.next + 3]) G2 (H.next + 3) (.cells (Blk.cells ⟨(x0 : Nat), (x1 : Nat), (x2 : Nat), 0, Cert.zero, [], []⟩ nilSl nilSl) 0 false 0) (by simp)).keep (by simp) hl2
  generalize (AH.set _ (H.next + 3) _ : AH) = G3 at T3 hl3 ⊢
  clear T2 hl2
  refine AW_seq ?_
  refine AW_reg [1, 2, 3, 4] fun K hK => ?_ -- region 10
  simp [init_eq, aindexAddr, aload, hl3, afieldAddr, astore, T3.c, V.cells, Blk.w3]
  refine hK _ _ ?_; clear hK K
  have T4 := T3.setC (Blk.cells ⟨(x0 : Nat), (x1 : Nat), (x2 : Nat), (x3 : Nat), Cert.zero, [], []⟩ nilSl nilSl)
  have hl4 := (Upd.set (F := [H.next + 3]) G3 (H.next + 3) (.cells (Blk.cells ⟨(x0 : Nat), (x1 : Nat), (x2 : Nat), (x3 : Nat), Cert.zero, [], []⟩ nilSl nilSl) 0 false 0) (by simp)).keep (by simp) hl3
  generalize (AH.set _ (H.next + 3) _ : AH) = G4 at T4 hl4 ⊢
  clear T3 hl3
  clear hl4
  -- the parent
  refine AW_seq ?_
  refine AW_reg [1, 2, 3, 4] fun K hK => ?_ -- region 11
  simp [init_eq, T4.ld]
  refine ACalls.mono (rdCert_ok G4 s4) fun r G' ⟨hr', e⟩ => ?_ -- hallmoot/hallmootref11.Take
  subst hr' e
  rw [rtakeCert_eq]
  simp [afieldAddr, astore, T4.c, T4.rd, V.cells, rdV, AH.get_set, Blk.w4, rdC_spl2]
  refine hK _ _ ?_; clear hK K
  have T5 := (T4.setC (Blk.cells ⟨(x0 : Nat), (x1 : Nat), (x2 : Nat), (x3 : Nat), (takeCert s4).1, [], []⟩ nilSl nilSl)).setR (takeCert s4).2
  generalize (AH.set _ H.next _ : AH) = G5 at T5 ⊢
  clear T4
  generalize takeCert s4 = ce at *
  obtain ⟨ce, s5⟩ := ce
  simp only at T5 hr ⊢
  refine AW_seq ?_
  refine AW_reg [1, 2, 3, 4] fun K hK => ?_ -- region 12
  simp [init_eq]
  refine hK _ _ ?_; clear hK K
  refine AW_seq ?_
  refine AW_reg [1, 2, 3, 4, 7] fun K hK => ?_ -- region 13
  simp [init_eq, T5.ld]
  refine ACalls.mono (rdSmall_ok G5 s5 10 (by decide)) fun r G' ⟨hr', e⟩ => ?_ -- (hallmoot/hallmootref03.Reader).Small
  subst hr' e
  simp [T5.st]
  refine hK _ _ ?_; clear hK K
  have hle := rmost_le 10 s5
  have T6 := T5.setR (rmost 10 s5).2
  generalize (AH.set _ H.next _ : AH) = G6 at T6 ⊢
  clear T5
  generalize rmost 10 s5 = q at *
  obtain ⟨n, s6⟩ := q
  simp only at T6 hr hle ⊢
  -- the proof
  refine AW_seq ?_
  refine AW_seq ?_
  refine AW_reg [1, 2, 3, 4, 7, 8] fun K hK => ?_ -- region 14
  simp [init_eq]
  refine hK _ _ ?_; clear hK K
  refine AW_block ?_
  refine AW_loopx (fun x : List Tmo × V × Nat × St => ⟨113, [(1, .p (some (H.next, 0, 0))), (2, .p (some (H.next + 1, 0, 0))), (3, .p (some (H.next + 2, 0, 0))), (4, .p (some (H.next + 3, 0, 0))), (7, .i .i64 (n : Int)), (8, .i .i64 (x.1.length : Int))]⟩)
    (fun x G => x.1.length + x.2.2.1 = n ∧ takeL (rtakeTmo (x0 : Nat)) n s6 = (x.1 ++ (takeL (rtakeTmo (x0 : Nat)) x.2.2.1 x.2.2.2).1, (takeL (rtakeTmo (x0 : Nat)) x.2.2.1 x.2.2.2).2) ∧ TL H G x.2.2.2 (Blk.cells ⟨(x0 : Nat), (x1 : Nat), (x2 : Nat), (x3 : Nat), ce, [], []⟩ x.2.1 nilSl) ∧ ∃ F, Own G x.2.1 10 (x.1.map Tmo.cells).flatten F ∧ ∀ j ∈ F, H.next + 5 ≤ j)
    (fun x => x.2.2.1) ([], nilSl, n, s6) (by simp) ⟨by simp, by simp, T6, [], Own.nil .., by simp⟩ fun x G hM => ?_ -- loop
  clear T6
  obtain ⟨ps, pv, k, st⟩ := x
  obtain ⟨m1, m2, T, F, o, hF⟩ := hM
  simp only at m1 m2 T o ⊢
  refine AW_seq ?_
  refine AW_seq ?_
  refine AW_reg [1, 2, 3, 4, 7, 8, 51] fun K hK => ?_ -- region 15
  simp [init_eq]
  refine hK _ _ ?_; clear hK K
  refine AW_cond' rfl rfl (fun hc => ?_) (fun hc => ?_)
  · have k1 : 0 < k := by have : ps.length < n := by simpa using hc
                          omega
    obtain ⟨k', rfl⟩ : ∃ k', k = k' + 1 := ⟨k - 1, by omega⟩
    clear hc
    refine AW_skip ?_
    refine AW_seq ?_
    refine AW_block ?_
    refine AW_seq ?_
    refine AW_reg [1, 2, 3, 4, 7, 8] fun K hK => ?_ -- region 17
    simp [init_eq]
    refine hK _ _ ?_; clear hK K
    refine AW_seq ?_
    refine AW_reg [1, 2, 3, 4, 7, 8, 10] fun K hK => ?_ -- region 18
    have hab : abuild Tryz.prog 148 [(1, .i .i64 (x0 : Nat))] = some (.agg (Tmo.cells ⟨0, (x0 : Nat), Cert.zero⟩)) := by first | (simp [abuild, afill, V.cells, splice_zero, splice_succ, splice]; done) | (simp [abuild, afill, V.cells, splice_zero, splice_succ, splice]; rfl)
    obtain ⟨G1, e1, hm, hmn, hmo⟩ := AH.boxedS G (Tmo.cells ⟨0, 0, Cert.zero⟩) (Tmo.cells ⟨0, (x0 : Nat), Cert.zero⟩)
    simp [init_eq, afieldAddr, aload, T.c, hab, V.cells, astore, AH.get_new]
    refine hK _ _ ?_; clear hK K
    show AThen _ _ _ _ ((G.new (O.cells (Tmo.cells ⟨0, 0, Cert.zero⟩) 0 false 0)).set G.next (O.cells (Tmo.cells ⟨0, (x0 : Nat), Cert.zero⟩) 0 false 0))
    rw [e1]
    have u1 : Upd G G1 [] := ⟨by omega, fun j hj _ => hmo j hj⟩
    have T1 := T.upd u1 (by simp)
    have o1 := o.upd u1 (by simp)
    have hm5 := T.nx
    generalize hmid : G.next = m at *
    have o1lt : ∀ j ∈ F, j < m := fun j hj => by have := o.lt j hj; omega
    clear e1 hmo T o
    refine AW_seq ?_
    refine AW_reg [1, 2, 3, 4, 7, 8, 9, 10] fun K hK => ?_ -- region 19
    simp [init_eq, T1.ld]
    refine ACalls.mono (rdNum_ok G1 st) fun r G' ⟨hr', e⟩ => ?_ -- (hallmoot/hallmootref03.Reader).Num
    subst hr' e
    simp [T1.st]
    refine hK _ _ ?_; clear hK K
    have u2 : Upd G' (G'.set H.next (.cells (rdC (rnum st).2) 0 false 0)) [H.next] := Upd.set _ _ _ (by simp)
    have T2 := T1.setR (rnum st).2
    have o2 := o1.upd u2 (fun j hj => by have := hF j hj; simp; omega)
    have hm2 := u2.keep (by simp; omega) hm
    have hn2 : m < (G'.set H.next (.cells (rdC (rnum st).2) 0 false 0)).next := by simp; omega
    generalize (G'.set H.next (.cells (rdC (rnum st).2) 0 false 0)) = G2 at *
    clear T1 o1 hm
    refine AW_seq ?_
    refine AW_reg [1, 2, 3, 4, 7, 8, 10] fun K hK => ?_ -- region 20
    simp [init_eq, afieldAddr, astore, hm2, V.cells, tmo_s0]
    refine hK _ _ ?_; clear hK K
    have u3 : Upd G2 (G2.set m (.cells (Tmo.cells ⟨((rnum st).1 : Nat), (x0 : Nat), Cert.zero⟩) 0 false 0)) [m] := Upd.set _ _ _ (by simp)
    have T3 := T2.upd u3 (by simp; omega)
    have o3 := o2.upd u3 (fun j hj => by have := o1lt j hj; simp; omega)
    have hm3 : (G2.set m (.cells (Tmo.cells ⟨((rnum st).1 : Nat), (x0 : Nat), Cert.zero⟩) 0 false 0)).get m = some (.cells (Tmo.cells ⟨((rnum st).1 : Nat), (x0 : Nat), Cert.zero⟩) 0 false 0) := AH.get_set_same hn2
    have hn3 : m < (G2.set m (.cells (Tmo.cells ⟨((rnum st).1 : Nat), (x0 : Nat), Cert.zero⟩) 0 false 0)).next := by simp; omega
    generalize (G2.set m (.cells (Tmo.cells ⟨((rnum st).1 : Nat), (x0 : Nat), Cert.zero⟩) 0 false 0)) = G3 at *
    clear T2 o2 hm2
    refine AW_seq ?_
    refine AW_reg [1, 2, 3, 4, 7, 8, 10] fun K hK => ?_ -- region 21
    simp [init_eq, T3.ld]
    refine ACalls.mono (rdCert_ok G3 (rnum st).2) fun r G'' ⟨hr', e⟩ => ?_ -- hallmoot/hallmootref11.Take
    subst hr' e
    rw [rtakeCert_eq]
    have e3 : rtakeTmo (x0 : Nat) st = (⟨((rnum st).1 : Nat), (x0 : Nat), (takeCert (rnum st).2).1⟩, (takeCert (rnum st).2).2) := rfl
    generalize takeCert (rnum st).2 = c2 at *
    obtain ⟨c2, st2⟩ := c2
    simp only at e3 ⊢
    have u4 : Upd G'' (G''.set m (.cells (Tmo.cells ⟨((rnum st).1 : Nat), (x0 : Nat), c2⟩) 0 false 0)) [m] := Upd.set _ _ _ (by simp)
    have T4 := T3.upd u4 (by simp; omega)
    have o4 := o3.upd u4 (fun j hj => by have := o1lt j hj; simp; omega)
    have hm4 : (G''.set m (.cells (Tmo.cells ⟨((rnum st).1 : Nat), (x0 : Nat), c2⟩) 0 false 0)).get m = some (.cells (Tmo.cells ⟨((rnum st).1 : Nat), (x0 : Nat), c2⟩) 0 false 0) := AH.get_set_same hn3
    have hs4 : astore Tryz.prog G'' 24 (.p (some (m, 0, 2))) (.agg c2.cells) = some (G''.set m (.cells (Tmo.cells ⟨((rnum st).1 : Nat), (x0 : Nat), c2⟩) 0 false 0)) := by simp [astore, hm3, V.cells, tmo_s2]
    generalize (G''.set m (.cells (Tmo.cells ⟨((rnum st).1 : Nat), (x0 : Nat), c2⟩) 0 false 0)) = G4 at *
    simp [afieldAddr, hs4, T4.st]
    refine hK _ _ ?_; clear hK K
    have u5 : Upd G4 (G4.set H.next (.cells (rdC st2) 0 false 0)) [H.next] := Upd.set _ _ _ (by simp)
    have T5 := T4.setR st2
    have o5 := o4.upd u5 (fun j hj => by have := hF j hj; simp; omega)
    have hm5' := u5.keep (by simp; omega) hm4
    generalize (G4.set H.next (.cells (rdC st2) 0 false 0)) = G5 at *
    clear T3 T4 o3 o4 hm3 hm4 hs4 u1 u2 u3 u4 u5
    generalize hnum : ((rnum st).1 : Int) = num at *
    obtain ⟨G6, v', G7, F', b1, b2, b3, b4, b5⟩ := o5.pushR (f := Tmo.cells) app_tmos qelem_65 qsize_148 qzero_148 rfl rfl (by decide) (fun _ => rfl) (⟨num, (x0 : Nat), c2⟩ : Tmo) (x := .agg (Tmo.cells ⟨num, (x0 : Nat), c2⟩)) rfl (by simp [roomOk]; omega)
    have T7 := T5.upd b4 (fun j hj => by have := hF j hj; omega)
    have hlc : aload Tryz.prog G5 65 (.p (some (H.next + 3, 0, 12))) = some pv := by simp [aload, T5.c]
    have hlm : aload Tryz.prog G5 148 (.p (some (m, 0, 0))) = some (.agg (Tmo.cells ⟨num, (x0 : Nat), c2⟩)) := by simp [aload, hm5', tmo_take]
    refine AW_reg [1, 2, 3, 4, 7, 8] fun K hK => ?_ -- region 22
    simp [init_eq, afieldAddr, hlc, hlm, b1, b2, astore, T7.c, b3.cells, Blk.w12]
    refine hK _ _ ?_; clear hK K
    have T8 := T7.setC (Blk.cells ⟨(x0 : Nat), (x1 : Nat), (x2 : Nat), (x3 : Nat), ce, [], []⟩ v' nilSl)
    have u8 : Upd G7 (G7.set (H.next + 3) (.cells (Blk.cells ⟨(x0 : Nat), (x1 : Nat), (x2 : Nat), (x3 : Nat), ce, [], []⟩ v' nilSl) 0 false 0)) [H.next + 3] := Upd.set _ _ _ (by simp)
    have hF' : ∀ j ∈ F', H.next + 5 ≤ j := fun j hj => (b5 j hj).elim (hF j) (fun h => by have := T5.nx; omega)
    have o8 := b3.upd u8 (fun j hj => by have := hF' j hj; simp; omega)
    generalize (G7.set (H.next + 3) (.cells (Blk.cells ⟨(x0 : Nat), (x1 : Nat), (x2 : Nat), (x3 : Nat), ce, [], []⟩ v' nilSl) 0 false 0)) = G8 at *
    refine bend (rend ?_)
    refine AW_reg [1, 2, 3, 4, 7, 8] fun K hK => ?_ -- region 16
    simp [init_eq, wrap_id (x := (ps.length : Int) + 1) (by omega) (by omega)]
    refine hK _ _ ?_; clear hK K
    refine rend ⟨(ps ++ [⟨num, (x0 : Nat), c2⟩], v', k', st2), by simp, ⟨by simp; omega, ?_, T8, F', o8, hF'⟩, by simp⟩
    have e4 : takeL (rtakeTmo (x0 : Nat)) (k' + 1) st = ((rtakeTmo (x0 : Nat) st).1 :: (takeL (rtakeTmo (x0 : Nat)) k' (rtakeTmo (x0 : Nat) st).2).1, (takeL (rtakeTmo (x0 : Nat)) k' (rtakeTmo (x0 : Nat) st).2).2) := rfl
    rw [m2, e4, e3]; simp
  have k1 : k = 0 := by
    have : ¬ ps.length < n := by simpa using hc
    omega
  subst k1
  clear hc
  have e : takeL (rtakeTmo (x0 : Nat)) n s6 = (ps, st) := by rw [m2]; simp [takeL]
  rw [e] at hr
  simp only at hr
  have hpl : ps.length ≤ 10 := by omega
  clear e m2 m1
  refine AW_exit (then_exit (then_exit (block_here ?_)))
  -- the transactions
  refine AW_seq ?_
  refine AW_reg [1, 2, 3, 4, 7] fun K hK => ?_ -- region 23
  simp [init_eq, T.ld]
  refine ACalls.mono (rdSmall_ok G st 8 (by decide)) fun r G' ⟨hr', e⟩ => ?_ -- (hallmoot/hallmootref03.Reader).Small
  subst hr' e
  simp [T.st]
  refine hK _ _ ?_; clear hK K
  have hle2 := rmost_le 8 st
  have u6 : Upd G' (G'.set H.next (.cells (rdC (rmost 8 st).2) 0 false 0)) [H.next] := Upd.set _ _ _ (by simp)
  have T6 := T.setR (rmost 8 st).2
  have o6 := o.upd u6 (fun j hj => by have := hF j hj; simp; omega)
  generalize (AH.set _ H.next _ : AH) = G6 at T6 o6 u6 ⊢
  clear T o u6
  generalize rmost 8 st = q at *
  obtain ⟨n2, s7⟩ := q
  simp only at T6 hr hle2 ⊢
  have hFlt := o6.lt
  refine AW_seq ?_
  refine AW_seq ?_
  refine AW_reg [1, 2, 3, 4, 7, 11] fun K hK => ?_ -- region 24
  simp [init_eq]
  refine hK _ _ ?_; clear hK K
  refine AW_block ?_
  refine AW_loopx (fun x : List Tx × V × Nat × St => ⟨113, [(1, .p (some (H.next, 0, 0))), (2, .p (some (H.next + 1, 0, 0))), (3, .p (some (H.next + 2, 0, 0))), (4, .p (some (H.next + 3, 0, 0))), (7, .i .i64 (n2 : Int)), (11, .i .i64 (x.1.length : Int))]⟩)
    (fun x G => x.1.length + x.2.2.1 = n2 ∧ takeL takeTx n2 s7 = (x.1 ++ (takeL takeTx x.2.2.1 x.2.2.2).1, (takeL takeTx x.2.2.1 x.2.2.2).2) ∧ (∀ t ∈ x.1, t.small) ∧ TL H G x.2.2.2 (Blk.cells ⟨(x0 : Nat), (x1 : Nat), (x2 : Nat), (x3 : Nat), ce, [], []⟩ pv x.2.1) ∧ Own G pv 10 (ps.map Tmo.cells).flatten F ∧ G6.next ≤ G.next ∧ ∃ F2, Own G x.2.1 7 (x.1.map Tx.cells).flatten F2 ∧ ∀ j ∈ F2, G6.next ≤ j)
    (fun x => x.2.2.1) ([], nilSl, n2, s7) (by simp) ⟨by simp, by simp, by simp, T6, o6, Nat.le_refl _, [], Own.nil .., by simp⟩ fun x G hM => ?_ -- loop
  have hn6 := T6.nx
  clear T6 o6
  obtain ⟨ts, tv, k, st⟩ := x
  obtain ⟨m1, m2, msm, T, o, hnG, F2, o2, hF2⟩ := hM
  simp only at m1 m2 T o o2 msm ⊢
  refine AW_seq ?_
  refine AW_seq ?_
  refine AW_reg [1, 2, 3, 4, 7, 11, 83] fun K hK => ?_ -- region 25
  simp [init_eq]
  refine hK _ _ ?_; clear hK K
  refine AW_cond' rfl rfl (fun hc => ?_) (fun hc => ?_)
  · have k1 : 0 < k := by have : ts.length < n2 := by simpa using hc
                          omega
    obtain ⟨k', rfl⟩ : ∃ k', k = k' + 1 := ⟨k - 1, by omega⟩
    clear hc
    refine AW_skip ?_
    refine AW_seq ?_
    refine AW_block ?_
    refine AW_seq ?_
    refine AW_reg [1, 2, 3, 4, 7, 11, 12] fun K hK => ?_ -- region 27
    have hzt : abuild Tryz.prog 150 [] = some (.agg Tx.zero.cells) := by first | (simp [abuild, afill]; done) | (simp [abuild, afill]; rfl)
    obtain ⟨G1, e1, hm, hmn, hmo⟩ := AH.boxedS G Tx.zero.cells Tx.zero.cells
    simp [init_eq, hzt, V.cells, astore, AH.get_new]
    refine hK _ _ ?_; clear hK K
    show AThen _ _ _ _ ((G.new (O.cells Tx.zero.cells 0 false 0)).set G.next (O.cells Tx.zero.cells 0 false 0))
    rw [e1]
    have u1 : Upd G G1 [] := ⟨by omega, fun j hj _ => hmo j hj⟩
    have T1 := T.upd u1 (by simp)
    have o1 := o.upd u1 (by simp)
    have oo1 := o2.upd u1 (by simp)
    have hm5 := T.nx
    have oF : ∀ j ∈ F, j < G.next := o.lt
    have oF2 : ∀ j ∈ F2, j < G.next := o2.lt
    generalize hmid : G.next = m at *
    clear e1 hmo T o o2
    refine AW_seq ?_
    refine AW_reg [1, 2, 3, 4, 7, 11, 12] fun K hK => ?_ -- region 28
    simp [init_eq, T1.ld]
    refine ACalls.mono (rdTx_ok G1 st) fun r G' ⟨hr', e⟩ => ?_ -- hallmoot/hallmootref08.Take
    subst hr' e
    have e3 : takeL takeTx (k' + 1) st = ((takeTx st).1 :: (takeL takeTx k' (takeTx st).2).1, (takeL takeTx k' (takeTx st).2).2) := rfl
    rw [e3] at m2
    have hsm := takeTx_small st
    generalize takeTx st = y at *
    obtain ⟨y, st2⟩ := y
    simp only at m2 hsm ⊢
    have u4 : Upd G' (G'.set m (.cells y.cells 0 false 0)) [m] := Upd.set _ _ _ (by simp)
    have T4 := T1.upd u4 (by simp; omega)
    have o4 := o1.upd u4 (fun j hj => by have := oF j hj; simp; omega)
    have oo4 := oo1.upd u4 (fun j hj => by have := oF2 j hj; simp; omega)
    have hm4 : (G'.set m (.cells y.cells 0 false 0)).get m = some (.cells y.cells 0 false 0) := AH.get_set_same (by omega)
    have hs4 : astore Tryz.prog G' 150 (.p (some (m, 0, 0))) (.agg y.cells) = some (G'.set m (.cells y.cells 0 false 0)) := by simp [astore, hm, V.cells, show splice Tx.zero.cells 0 y.cells = y.cells from rfl]
    generalize (G'.set m (.cells y.cells 0 false 0)) = G4 at *
    simp [hs4, T4.st]
    refine hK _ _ ?_; clear hK K
    have u5 : Upd G4 (G4.set H.next (.cells (rdC st2) 0 false 0)) [H.next] := Upd.set _ _ _ (by simp)
    have T5 := T4.setR st2
    have o5 := o4.upd u5 (fun j hj => by have := hF j hj; simp; omega)
    have oo5 := oo4.upd u5 (fun j hj => by have := hF2 j hj; simp; omega)
    have hm5' := u5.keep (by simp; omega) hm4
    generalize (G4.set H.next (.cells (rdC st2) 0 false 0)) = G5 at *
    have hn5 : m < G5.next := AH.get_lt hm5'
    clear T1 T4 o1 oo1 o4 oo4 hm hm4 hs4 u1 u4 u5
    obtain ⟨G6', v', G7, F', b1, b2, b3, b4, b5⟩ := oo5.pushR (f := Tx.cells) app_txs qelem_66 qsize_150 qzero_150 rfl rfl (by decide) (fun _ => rfl) y (x := .agg y.cells) rfl (by simp [roomOk]; omega)
    have T7 := T5.upd b4 (fun j hj => by have := hF2 j hj; omega)
    have o7 := o5.upd b4 (fun j hj hj' => by have := hF2 j hj'; have := hFlt j hj; omega)
    have hlc : aload Tryz.prog G5 66 (.p (some (H.next + 3, 0, 13))) = some tv := by simp [aload, T5.c]
    have hlm : aload Tryz.prog G5 150 (.p (some (m, 0, 0))) = some (.agg y.cells) := by simp [aload, hm5', tx_take]
    refine AW_reg [1, 2, 3, 4, 7, 11] fun K hK => ?_ -- region 29
    simp [init_eq, afieldAddr, hlc, hlm, b1, b2, astore, T7.c, b3.cells, Blk.w13]
    refine hK _ _ ?_; clear hK K
    have T8 := T7.setC (Blk.cells ⟨(x0 : Nat), (x1 : Nat), (x2 : Nat), (x3 : Nat), ce, [], []⟩ pv v')
    have u8 : Upd G7 (G7.set (H.next + 3) (.cells (Blk.cells ⟨(x0 : Nat), (x1 : Nat), (x2 : Nat), (x3 : Nat), ce, [], []⟩ pv v') 0 false 0)) [H.next + 3] := Upd.set _ _ _ (by simp)
    have hF' : ∀ j ∈ F', G6.next ≤ j := fun j hj => (b5 j hj).elim (hF2 j) (fun h => by omega)
    have o8 := b3.upd u8 (fun j hj => by have := hF' j hj; simp; omega)
    have oo8 := o7.upd u8 (fun j hj => by have := hF j hj; simp; omega)
    have hn8 : G6.next ≤ (G7.set (H.next + 3) (.cells (Blk.cells ⟨(x0 : Nat), (x1 : Nat), (x2 : Nat), (x3 : Nat), ce, [], []⟩ pv v') 0 false 0)).next := by have := b4.1; simp; omega
    generalize (G7.set (H.next + 3) (.cells (Blk.cells ⟨(x0 : Nat), (x1 : Nat), (x2 : Nat), (x3 : Nat), ce, [], []⟩ pv v') 0 false 0)) = G8 at *
    refine bend (rend ?_)
    refine AW_reg [1, 2, 3, 4, 7, 11] fun K hK => ?_ -- region 26
    simp [init_eq, wrap_id (x := (ts.length : Int) + 1) (by omega) (by omega)]
    refine hK _ _ ?_; clear hK K
    refine rend ⟨(ts ++ [y], v', k', st2), by simp, ⟨by simp; omega, ?_, fun t ht => ?_, T8, oo8, hn8, F', o8, hF'⟩, by simp⟩
    · rw [m2]; simp
    · rcases List.mem_append.1 ht with h | h
      · exact msm t h
      · simp at h; subst h; exact hsm
  have k1 : k = 0 := by
    have : ¬ ts.length < n2 := by simpa using hc
    omega
  subst k1
  clear hc
  have e : takeL takeTx n2 s7 = (ts, st) := by rw [m2]; simp [takeL]
  rw [e] at hr
  simp only at hr
  have htl : ts.length ≤ 8 := by omega
  clear e m2 m1
  rw [hr] at hrt
  simp only at hrt
  refine AW_exit (then_exit (then_exit (block_here ?_)))
  -- is it one?
  obtain ⟨b, hb⟩ : ∃ b : Blk, b = ⟨(x0 : Nat), (x1 : Nat), (x2 : Nat), (x3 : Nat), ce, ps, ts⟩ := ⟨_, rfl⟩
  have Tb : TL H G st (b.cells pv tv) := by rw [hb]; exact T
  have hps : b.proof = ps := by rw [hb]
  have hts : b.txs = ts := by rw [hb]
  rw [← hb] at hrt
  have hbs : b.small := ⟨by rw [hps]; omega, by rw [hts]; omega, by rw [hts]; exact msm⟩
  have hba : BlkAt G b pv tv := ⟨by rw [hps]; exact o.rsR (by decide) (fun _ => rfl), by rw [hts]; exact o2.rsR (by decide) (fun _ => rfl)⟩
  clear T hb
  have hnx := Tb.nx
  have hs1 : ∀ (x : Blk) (v w : V), astore Tryz.prog G 68 (.p (some (H.next + 1, 0, 0))) (.agg (x.cells v w)) = some (G.set (H.next + 1) (.cells (x.cells v w) 0 false 0)) := fun x v w => by simp [astore, Tb.r1, V.cells, show splice (Blk.zero.cells nilSl nilSl) 0 (x.cells v w) = x.cells v w from rfl]
  have hs2 : ∀ (x : Blk) (v w : V) (u : St), astore Tryz.prog (G.set (H.next + 1) (.cells (x.cells v w) 0 false 0)) 82 (.p (some (H.next + 2, 0, 0))) (rdV u) = some ((G.set (H.next + 1) (.cells (x.cells v w) 0 false 0)).set (H.next + 2) (.cells (rdC u) 0 false 0)) := fun x v w u => by simp [astore, AH.get_set, Tb.r2, V.cells, rdV, rdC_spl2]
  have hlb : aload Tryz.prog G 68 (.p (some (H.next + 3, 0, 0))) = some (.agg (b.cells pv tv)) := by simp [aload, Tb.c, blk_take]
  have huE : ∀ (x : Blk) (v w : V) (u : St), Upd G ((G.set (H.next + 1) (.cells (x.cells v w) 0 false 0)).set (H.next + 2) (.cells (rdC u) 0 false 0)) [H.next + 1, H.next + 2] := fun x v w u => (Upd.set (F := [H.next + 1, H.next + 2]) _ _ _ (by simp)).trans (Upd.set (F := [H.next + 1, H.next + 2]) _ _ _ (by simp)) (fun j hj => .inl hj)
  have hend : ∀ (x : Blk) (v w : V) (u : St) (ρ : Env), ρ.get 2 = .p (some (H.next + 1, 0, 0)) → ρ.get 3 = .p (some (H.next + 2, 0, 0)) → (x, u) = rtakeBlk s → BlkNew H ((G.set (H.next + 1) (.cells (x.cells v w) 0 false 0)).set (H.next + 2) (.cells (rdC u) 0 false 0)) x v w → AEnd Tryz.prog Tryz.f64 (fun r H' => ∃ pv tv, r = .tup [.agg ((rtakeBlk s).1.cells pv tv), rdV (rtakeBlk s).2] ∧ BlkNew H H' (rtakeBlk s).1 pv tv ∧ Upd H H' []) .ret ρ ((G.set (H.next + 1) (.cells (x.cells v w) 0 false 0)).set (H.next + 2) (.cells (rdC u) 0 false 0)) := fun x v w u ρ h1 h2 h3 h4 =>
    end_ret (ares_cc (v := .agg (x.cells v w)) (w := rdV u) (by rw [h1]; simp [aload, AH.get_set, show H.next + 1 < G.next by omega, blk_take]) (by rw [h2]; simp [aload, AH.get_set, show H.next + 2 < G.next by omega, rdV])) ⟨v, w, by rw [← h3], by rw [← h3]; exact h4, by simp; omega, fun j hj _ => by rw [AH.get_set_ne (by omega), AH.get_set_ne (by omega)]; exact Tb.old j hj⟩
  have hzB : ∀ G : AH, BlkNew H G Blk.zero nilSl nilSl := fun G _ _ _ => ⟨RS.nil .., RS.nil ..⟩
  refine AW_seq ?_
  refine AW_seq ?_
  refine AW_reg [1, 2, 3, 4, 100] fun K hK => ?_ -- region 30
  simp [init_eq, afieldAddr, aload, Tb.rd]
  refine hK _ _ ?_; clear hK K
  refine AW_cond' rfl rfl (fun hc => ?_) (fun hc => ?_)
  · have g : ¬ st.2 = 0 := by simpa using hc
    refine AW_seq ?_
    refine AW_regm (.only [H.next]) [2, 3] pl_64_31 pe_64_31 (by kernel_rfl) (by kernel_rfl) (by decide) fun K hK => ?_
    simp [init_eq, pl_64_31, APlan_takem, through, tkOk, rid, hz, Tb.ld, hs1, hs2]
    refine ⟨fun _ => by rw [AH.get_set_ne (by omega)], ?_⟩
    refine hK _ _ ?_; clear hK K
    exact AW_ret (hend _ _ _ _ _ rfl rfl (by rw [hrt, if_neg g]) (hzB _))
  have g : st.2 = 0 := by simpa using hc
  rw [if_pos g] at hrt
  refine AW_skip ?_
  refine AW_seq ?_
  refine AW_reg [1, 2, 3, 4, 13] fun K hK => ?_ -- region 32
  simp [init_eq, hlb]
  refine ACalls.mono (rcheckBlk_ok G hba hbs) fun r G' ⟨hr', e⟩ => ?_ -- hallmoot/hallmootref12.Check
  subst hr' e
  try simp
  refine hK _ _ ?_; clear hK K
  refine AW_seq ?_
  refine AW_seq ?_
  refine AW_reg [1, 2, 3, 4, 13, 106] fun K hK => ?_ -- region 33
  simp [init_eq]
  refine hK _ _ ?_; clear hK K
  refine AW_cond' rfl rfl (fun hc => ?_) (fun hc => ?_)
  · have g2 : ¬ b.err = 0 := by simpa using hc
    refine AW_seq ?_
    refine AW_reg [2, 3] fun K hK => ?_ -- region 34
    simp [init_eq, hz, Tb.ld]
    refine ACalls.mono (rdFail_ok ..) fun r G'' ⟨hr', e⟩ => ?_ -- (hallmoot/hallmootref03.Reader).Fail
    subst hr' e
    simp [hs1, hs2]
    refine hK _ _ ?_; clear hK K
    exact AW_ret (hend _ _ _ _ _ rfl rfl (by rw [hrt, if_neg g2]) (hzB _))
  · have g2 : b.err = 0 := by simpa using hc
    refine AW_skip ?_
    refine AW_seq ?_
    refine AW_regm (.only [H.next, H.next + 3]) [2, 3] pl_64_35 pe_64_35 (by kernel_rfl) (by kernel_rfl) (by decide) fun K hK => ?_
    simp [init_eq, pl_64_35, APlan_takem, through, tkOk, rid, hlb, Tb.ld, hs1, hs2]
    refine ⟨⟨fun _ => by rw [AH.get_set_ne (by omega)], fun _ => by rw [AH.get_set_ne (by omega)]⟩, ?_⟩
    refine hK _ _ ?_; clear hK K
    refine AW_ret (hend _ _ _ _ _ rfl rfl (by rw [hrt, if_pos g2]) fun G' hg hn => ?_)
    have q1 := o.upd (huE b pv tv st) (fun j hj => by have := hF j hj; simp; omega)
    have q2 := o2.upd (huE b pv tv st) (fun j hj => by have := hF2 j hj; simp; omega)
    exact ⟨by rw [hps]; exact (own_moved q1 fun j hj => hg j (by have := hF j hj; omega) (q1.lt j hj)).rsR (by decide) (fun _ => rfl), by rw [hts]; exact (own_moved q2 fun j hj => hg j (by have := hF2 j hj; omega) (q2.lt j hj)).rsR (by decide) (fun _ => rfl)⟩
/-- The document's parsing: what it makes is what the program makes. -/
theorem rparse_ok (H : AH) (l : List UInt8) : ACalls Tryz.prog 26 [.s l] H fun r H' => ∃ pv tv, r = .tup [.agg ((rparseBlk l).1.cells pv tv), .i .i64 (rparseBlk l).2] ∧ BlkNew H H' (rparseBlk l).1 pv tv ∧ Upd H H' [] := by
  refine ACalls_body Tryz.func26 rfl rfl ?_
  have hz : abuild Tryz.prog 68 [] = some (.agg (Blk.zero.cells nilSl nilSl)) := by first | (simp [abuild, afill]; done) | (simp [abuild, afill]; rfl)
  have hzB : ∀ G : AH, BlkNew H G Blk.zero nilSl nilSl := fun G _ _ _ => ⟨RS.nil .., RS.nil ..⟩
  have hrp : rparseBlk l = if rdone (rtakeBlk (l, 0)).2 = 0 then ((rtakeBlk (l, 0)).1, 0) else (Blk.zero, rdone (rtakeBlk (l, 0)).2) := rfl
  refine AW_seq ?_
  refine AW_reg [0, 2] fun K hK => ?_ -- region 0
  simp [init_eq, V.cells]
  obtain ⟨H1, e1, hp, hn, ho⟩ := H.boxed (Blk.zero.cells nilSl nilSl)
  refine hK _ _ ?_; clear hK K
  show AThen _ _ _ _ (H.new (O.cells (Blk.zero.cells nilSl nilSl) 0 false 0))
  rw [e1]
  have u1 : Upd H H1 [] := ⟨by omega, fun j hj _ => ho j hj⟩
  refine AW_seq ?_
  refine AW_reg [2, 4, 5] fun K hK => ?_ -- region 1
  have hab : abuild Tryz.prog 82 [(0, .s l)] = some (rdV (l, 0)) := by simp [abuild, afill, V.cells, splice, rdV, rdC]
  simp [init_eq, hab]
  refine ACalls.mono (rdBlk_ok H1 (l, 0)) fun r H2 ⟨pv, tv, hr, hb, u2⟩ => ?_ -- hallmoot/hallmootref12.Take
  subst hr
  generalize rtakeBlk (l, 0) = y at *
  obtain ⟨b, t⟩ := y
  simp only at hb hrp ⊢
  simp [V.cells, astore, AH.get_new, AH.get_set, rdV, rdC_splz]
  refine hK _ _ ?_; clear hK K
  generalize hG : AH.set _ (H2.next + 1) _ = G
  have q1 : G.get H2.next = some (.cells (b.cells pv tv) 0 false 0) := by
    rw [← hG, AH.get_set_ne (by omega), AH.get_set_same (by simp; omega)]; rfl
  have q2 : G.get (H2.next + 1) = some (.cells (rdC t) 0 false 0) := by rw [← hG, AH.get_set_same (by simp)]
  have ko : ∀ j, j < H2.next → G.get j = H2.get j := fun j hj => by rw [← hG]; simp [AH.get_set, AH.get_new, show j ≠ H2.next by omega, show j ≠ H2.next + 1 by omega]
  have kn : G.next = H2.next + 2 := by rw [← hG]; simp
  clear hG
  have u3 : Upd H2 G [] := ⟨by omega, fun j hj _ => ko j hj⟩
  have hpG := u3.keep (by simp) (u2.keep (by simp) hp)
  have uG : Upd H G [] := (u1.trans u2 (by simp)).trans u3 (by simp)
  have hld : aload Tryz.prog G 82 (.p (some (H2.next + 1, 0, 0))) = some (rdV t) := by simp [aload, q2, rdV]
  have hlb : aload Tryz.prog G 68 (.p (some (H2.next, 0, 0))) = some (.agg (b.cells pv tv)) := by simp [aload, q1, blk_take]
  have hs1 : ∀ (x : Blk) (v w : V), astore Tryz.prog G 68 (.p (some (H.next, 0, 0))) (.agg (x.cells v w)) = some (G.set H.next (.cells (x.cells v w) 0 false 0)) := fun x v w => by simp [astore, hpG, V.cells, show splice (Blk.zero.cells nilSl nilSl) 0 (x.cells v w) = x.cells v w from rfl]
  have hlt := AH.get_lt hpG
  have hbG : BlkNew H (G.set H.next (.cells (b.cells pv tv) 0 false 0)) b pv tv := fun G' hg hn => hb G' (fun j h1 h2 => by rw [hg j (by omega) (by simp; omega), AH.get_set_ne (by omega)]; exact ko j h2) (by simp at hn; omega)
  have hend : ∀ (x : Blk) (v w : V) (e : Int) (ρ : Env), ρ.get 2 = .p (some (H.next, 0, 0)) → ρ.get 3 = .i .i64 e → (x, e) = rparseBlk l → BlkNew H (G.set H.next (.cells (x.cells v w) 0 false 0)) x v w → AEnd Tryz.prog Tryz.f26 (fun r H' => ∃ pv tv, r = .tup [.agg ((rparseBlk l).1.cells pv tv), .i .i64 (rparseBlk l).2] ∧ BlkNew H H' (rparseBlk l).1 pv tv ∧ Upd H H' []) .ret ρ (G.set H.next (.cells (x.cells v w) 0 false 0)) := fun x v w e ρ h1 h2 h3 h4 =>
    end_ret (ares_cell_tmp (v := .agg (x.cells v w)) (by rw [h1]; simp [aload, AH.get_set, hlt, blk_take])) ⟨v, w, by rw [← h3, h2], by rw [← h3]; exact h4, uG.1, fun j hj hn => by rw [AH.get_set_ne (by omega)]; exact uG.2 j hj hn⟩
  refine AW_seq ?_
  refine AW_reg [2, 4, 6] fun K hK => ?_ -- region 2
  simp [init_eq, hld]
  refine ACalls.mono (rdDone_ok G t) fun r G' ⟨hr, e⟩ => ?_ -- (hallmoot/hallmootref03.Reader).Done
  subst hr e
  try simp
  refine hK _ _ ?_; clear hK K
  refine AW_seq ?_
  refine AW_seq ?_
  refine AW_reg [2, 4, 6, 16] fun K hK => ?_ -- region 3
  simp [init_eq]
  refine hK _ _ ?_; clear hK K
  refine AW_cond' rfl rfl (fun hc => ?_) (fun hc => ?_)
  · have g : ¬ rdone t = 0 := by simpa using hc
    refine AW_seq ?_
    refine AW_reg [2, 3] fun K hK => ?_ -- region 4
    simp [init_eq, hz, hs1]
    refine hK _ _ ?_; clear hK K
    exact AW_ret (hend _ _ _ _ _ rfl rfl (by rw [hrp, if_neg g]) (hzB _))
  · have g : rdone t = 0 := by simpa using hc
    refine AW_skip ?_
    refine AW_seq ?_
    refine AW_reg [2, 3] fun K hK => ?_ -- region 5
    simp [init_eq, hlb, hs1]
    refine hK _ _ ?_; clear hK K
    exact AW_ret (hend _ _ _ _ _ rfl rfl (by rw [hrp, if_pos g]) hbG)
end Go.Proofs.YtoccjilbfkhmoaaGreatDoor
