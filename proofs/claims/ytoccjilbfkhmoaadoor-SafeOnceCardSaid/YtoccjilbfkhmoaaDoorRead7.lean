/-
  A block is read.
-/
import Derived.Test.YtoccjilbfkhmoaaDoorRead6
set_option linter.unusedVariables false
set_option linter.unusedSimpArgs false
namespace Go.Proofs.YtoccjilbfkhmoaaDoor
open Go Go.Abs Go.Proofs
set_option maxRecDepth 100000
attribute [local irreducible] AEnd AW ACalls

abbrev nilSl : V := .sl none 0 false
/-- Under way: the reader, the box, the block so far. -/
structure TB (H0 H G : AH) (id : Nat) (s : St) (b : Blk) (pv tv : V) : Prop where
  rd : Rd H0 G id s
  bx : G.get H.next = some (.cells [.p (some (id, 0, 0))] 0 false 0)
  rs : G.get (H.next + 1) = some (.cells (Blk.zero.cells nilSl nilSl) 0 false 0)
  cc : G.get (H.next + 2) = some (.cells (b.cells pv tv) 0 false 0)
  nx : H.next + 3 ≤ G.next
  old : ∀ j, j < H.next → j ≠ id → G.get j = H.get j
theorem TB.upd {H0 H G G' : AH} {id : Nat} {s s' : St} {b : Blk} {pv tv : V} (h : TB H0 H G id s b pv tv) (hid : id < H.next) (hr : Rd H0 G' id s') (u : Upd G G' [id]) : TB H0 H G' id s' b pv tv := by
  refine ⟨hr, u.keep (by simp; omega) h.bx, u.keep (by simp; omega) h.rs, u.keep (by simp; omega) h.cc, Nat.le_trans h.nx u.1, fun j hj hn => ?_⟩
  rw [u.2 j (by have := h.nx; omega) (by simpa using hn), h.old j hj hn]
theorem TB.set {H0 H G : AH} {id : Nat} {s : St} {b b' : Blk} {pv tv pv' tv' : V} {l : List V} (h : TB H0 H G id s b pv tv) (hid : id < H.next) (hl : l = b'.cells pv' tv') : TB H0 H (G.set (H.next + 2) (.cells l 0 false 0)) id s b' pv' tv' := by
  subst hl
  have hn := h.nx
  refine ⟨h.rd.upd (Upd.set (F := [H.next + 2]) _ _ _ (by simp)) (fun j hj => by simp at hj; omega), ?_, ?_, ?_, hn, fun j hj hne => ?_⟩
  · rw [AH.get_set_ne (by omega)]; exact h.bx
  · rw [AH.get_set_ne (by omega)]; exact h.rs
  · simp [AH.get_set]; omega
  · rw [AH.get_set_ne (by omega)]; exact h.old j hj hne
theorem Blk.w0 (b : Blk) (pv tv : V) (x : Int) : splice (b.cells pv tv) 0 [.i .i64 x] = ({ b with view := x }).cells pv tv := rfl
theorem Blk.w1 (b : Blk) (pv tv : V) (x : Int) : splice (b.cells pv tv) 1 [.i .i64 x] = ({ b with round := x }).cells pv tv := rfl
theorem Blk.w2 (b : Blk) (pv tv : V) (x : Int) : splice (b.cells pv tv) 2 [.i .i64 x] = ({ b with height := x }).cells pv tv := rfl
theorem Blk.w3 (b : Blk) (pv tv : V) (x : Int) : splice (b.cells pv tv) 3 [.i .i64 x] = ({ b with author := x }).cells pv tv := rfl
theorem Blk.w4 (b : Blk) (pv tv : V) (c : Cert) : splice (b.cells pv tv) 4 c.cells = ({ b with parent := c }).cells pv tv := rfl
theorem Blk.w12 (b : Blk) (pv tv w : V) : splice (b.cells pv tv) 12 [w] = b.cells w tv := rfl
theorem Blk.w13 (b : Blk) (pv tv w : V) : splice (b.cells pv tv) 13 [w] = b.cells pv w := rfl
theorem takeL_32 {α : Type} {f : St → α × St} (hf : ∀ s, s.2 ≠ 32 → (f s).2.2 ≠ 32) : ∀ (n : Nat) (s : St), s.2 ≠ 32 → (takeL f n s).2.2 ≠ 32
  | 0, s, h => h
  | n + 1, s, h => takeL_32 hf n _ (hf s h)
theorem takeTx_fits (s : St) : (takeTx s).1.fits := by
  have hz : Tx.zero.fits := ⟨by decide, by decide, by decide, by decide⟩
  unfold takeTx
  split
  · simp only
    repeat' split
    all_goals first | exact rawTx_fits _ _ | exact hz
  · exact hz
theorem blkTake_ok {H0 H : AH} {id : Nat} {s : St} (h : Rd H0 H id s) (h32 : s.2 ≠ 32) : ACalls Tryd.prog 48 [.p (some (id, 0, 0))] H fun r H' => ∃ pv tv, r = .agg ((takeBlk s).1.cells pv tv) ∧ (∀ G', (∀ j, H.next ≤ j → j < H'.next → G'.get j = H'.get j) → H'.next ≤ G'.next → BlkAt G' (takeBlk s).1 pv tv) ∧ Rd H0 H' id (takeBlk s).2 ∧ Upd H H' [id] := by
  have hid := h.mem
  refine ACalls_body Tryd.func48 rfl rfl ?_
  refine AW_seq ?_
  refine AW_reg [1, 2] fun K hK => ?_ -- region 0
  simp [init_eq, V.cells]
  refine hK _ _ ?_; clear hK K
  refine AW_seq ?_
  refine AW_reg [1, 2, 3] fun K hK => ?_ -- region 1
  simp [init_eq, V.cells]
  refine hK _ _ ?_; clear hK K
  obtain ⟨G, e1, g1, g2, g3, gn, go⟩ := H.boxed3 [.p (some (id, 0, 0))] (Blk.zero.cells nilSl nilSl) (Blk.zero.cells nilSl nilSl)
  have T0 : TB H0 H G id s Blk.zero nilSl nilSl := ⟨h.upd (F := []) ⟨by omega, fun j hj _ => go j hj⟩ (by simp), g1, g2, g3, by omega, fun j hj _ => go j hj⟩
  show AThen _ _ _ _ (((H.new (O.cells [V.p (some (id, 0, 0))] 0 false 0)).new (O.cells (Blk.zero.cells nilSl nilSl) 0 false 0)).new (O.cells (Blk.zero.cells nilSl nilSl) 0 false 0))
  rw [e1, show H.next + 1 + 1 = H.next + 2 from rfl]
  clear e1 g1 g2 g3 gn go
  refine AW_seq ?_
  refine AW_regm (.only [H.next]) [1, 2, 3] pl_48_2 pe_48_2 (by kernel_rfl) (by kernel_rfl) (by decide) fun K hK => ?_ -- region 2
  simp [init_eq, pl_48_2, APlan_takem, through, tkOk, rid, aload, T0.bx, afieldAddr]
  refine ACalls.mono (small_ok T0.rd) fun r G1 ⟨hr, h1, u1⟩ => ?_ -- hallmoot/block.small
  subst hr
  have T1 := T0.upd hid h1 u1
  refine ⟨⟨u1.1, fun _ => T1.bx⟩, ?_⟩
  refine ACalls.mono (small_ok T1.rd) fun r G2 ⟨hr, h2, u2⟩ => ?_ -- hallmoot/block.small
  subst hr
  have T2 := T1.upd hid h2 u2
  refine ⟨⟨u2.1, fun _ => T2.bx.trans T1.bx.symm⟩, ?_⟩
  refine ACalls.mono (small_ok T2.rd) fun r G3 ⟨hr, h3, u3⟩ => ?_ -- hallmoot/block.small
  subst hr
  have T3 := T2.upd hid h3 u3
  refine ⟨⟨u3.1, fun _ => T3.bx.trans T2.bx.symm⟩, ?_⟩
  refine ACalls.mono (small_ok T3.rd) fun r G4 ⟨hr, h4, u4⟩ => ?_ -- hallmoot/block.small
  subst hr
  have T4 := T3.upd hid h4 u4
  refine ⟨⟨u4.1, fun _ => T4.bx.trans T3.bx.symm⟩, ?_⟩
  have hlt : H.next + 2 < G4.next := by have := T4.nx; omega
  simp [astore, T4.cc, V.cells, AH.get_set, hlt, Blk.w0, Blk.w1, Blk.w2, Blk.w3, RM]
  refine hK _ _ ?_; clear hK K
  have e : rawBlk s = (⟨(rsmall s).1, (rsmall (rsmall s).2).1, (rsmall (rsmall (rsmall s).2).2).1, (rsmall (rsmall (rsmall (rsmall s).2).2).2).1, (takeCert (rsmall (rsmall (rsmall (rsmall s).2).2).2).2).1, _, _⟩, _) := rfl
  have s32 : (rsmall (rsmall (rsmall (rsmall s).2).2).2).2.2 ≠ 32 := rnum_32 (rnum_32 (rnum_32 (rnum_32 h32)))
  unfold takeBlk
  rw [e]
  have T5 := (((T4.set hid (pv' := nilSl) (tv' := nilSl) (b' := { Blk.zero with view := (rsmall s).1 }) rfl).set hid (pv' := nilSl) (tv' := nilSl) (b' := { Blk.zero with view := (rsmall s).1, round := (rsmall (rsmall s).2).1 }) rfl).set hid (pv' := nilSl) (tv' := nilSl) (b' := { Blk.zero with view := (rsmall s).1, round := (rsmall (rsmall s).2).1, height := (rsmall (rsmall (rsmall s).2).2).1 }) rfl).set hid (pv' := nilSl) (tv' := nilSl) (b' := { Blk.zero with view := (rsmall s).1, round := (rsmall (rsmall s).2).1, height := (rsmall (rsmall (rsmall s).2).2).1, author := (rsmall (rsmall (rsmall (rsmall s).2).2).2).1 }) rfl
  generalize AH.set _ (H.next + 2) _ = G5 at T5 ⊢
  clear e T0 T1 T2 T3 T4 h1 h2 h3 h4 u1 u2 u3 u4
  generalize (rsmall (rsmall (rsmall (rsmall s).2).2).2).2 = w at *
  generalize (rsmall (rsmall (rsmall (rsmall s).2).2).2).1 = d at *
  generalize (rsmall (rsmall (rsmall s).2).2).1 = c at *
  generalize (rsmall (rsmall s).2).1 = b at *
  generalize (rsmall s).1 = a at *
  have T5 : TB H0 H G5 id w ⟨a, b, c, d, Cert.zero, [], []⟩ nilSl nilSl := T5
  refine AW_seq ?_
  refine AW_reg [1, 2, 3] fun K hK => ?_ -- region 3
  simp [init_eq, aload, T5.bx]
  refine ACalls.mono (certTake_ok T5.rd s32) fun r G6 ⟨hr, h6, u6⟩ => ?_ -- hallmoot/cert.Take
  subst hr
  have T6 := T5.upd hid h6 u6
  simp [afieldAddr, astore, T6.cc, V.cells, Blk.w4]
  refine hK _ _ ?_; clear hK K
  have T7 := T6.set hid (pv' := nilSl) (tv' := nilSl) (b' := ⟨a, b, c, d, (takeCert w).1, [], []⟩) rfl
  generalize AH.set _ (H.next + 2) _ = G7 at T7 ⊢
  have w32 := takeCert_32 s32
  clear T5 T6 h6 u6
  generalize takeCert w = q at *
  obtain ⟨ce, w2⟩ := q
  simp only at T7 w32 ⊢
  refine AW_seq ?_
  refine AW_reg [1, 2, 3] fun K hK => ?_ -- region 4
  simp [init_eq, evs, aload, T7.bx]
  refine ACalls.mono (listTmo_ok (bx := H.next) (bb := H.next + 2) T7.cc (by omega) T7.rd T7.bx (by omega) w32 10 (by omega)) fun r G8 ⟨F1, o1, l1, h8, u8⟩ => ?_ -- hallmoot/block.list[hallmoot/api.Timeout]
  have T8 := T7.upd hid h8 u8
  have p32 : (takeL (takeTmo a) (rmost 10 w2).1 (rmost 10 w2).2).2.2 ≠ 32 := takeL_32 (f := takeTmo (a : Int)) (fun s h => takeCert_32 (s := (rsmall s).2) (rnum_32 h)) _ _ (rmost_32 w32)
  simp [afieldAddr, astore, T8.cc, o1.cells, Blk.w12]
  refine hK _ _ ?_; clear hK K
  have hF1 : ∀ j ∈ F1, H.next + 3 ≤ j := fun j hj => Nat.le_trans T7.nx (l1 j hj)
  have T9 := T8.set hid (pv' := r) (tv' := nilSl) (b' := ⟨a, b, c, d, ce, [], []⟩) rfl
  have o9 := o1.upd (Upd.set (F := [H.next + 2]) G8 (H.next + 2) (.cells (Blk.cells ⟨a, b, c, d, ce, [], []⟩ r nilSl) 0 false 0) (by simp)) (fun j hj => by have := hF1 j hj; simp; omega)
  generalize AH.set _ (H.next + 2) _ = G9 at T9 o9 ⊢
  dsimp only at T9 o9
  have n1 : (takeL (takeTmo (a : Int)) (rmost 10 w2).1 (rmost 10 w2).2).1.length ≤ 10 := by rw [takeL_len]; exact rmost_le _ _
  clear o1 h8 T8 u8 T7
  generalize takeL (takeTmo (a : Int)) (rmost 10 w2).1 (rmost 10 w2).2 = q2 at *
  obtain ⟨ps, w3⟩ := q2
  simp only at T9 o9 p32 n1 ⊢
  refine AW_seq ?_
  refine AW_reg [1, 2, 3] fun K hK => ?_ -- region 5
  simp [init_eq, evs, aload, T9.bx]
  refine ACalls.mono (listTx_ok (bx := H.next) T9.rd T9.bx (by omega) p32 8 (by omega)) fun r2 G10 ⟨F2, o2, l2, h10, u10⟩ => ?_ -- hallmoot/block.list[hallmoot/api.Tx]
  have T10 := T9.upd hid h10 u10
  have o10 := o9.upd u10 (fun j hj => by have := hF1 j hj; simp; omega)
  have t32 : (takeL takeTx (rmost 8 w3).1 (rmost 8 w3).2).2.2 ≠ 32 := takeL_32 (fun s h => takeTx_32 h) _ _ (rmost_32 p32)
  have n2 : (takeL takeTx (rmost 8 w3).1 (rmost 8 w3).2).1.length ≤ 8 := by rw [takeL_len]; exact rmost_le _ _
  have n3 : ∀ t ∈ (takeL takeTx (rmost 8 w3).1 (rmost 8 w3).2).1, t.fits := takeL_all (p := Tx.fits) takeTx_fits _ _
  simp [afieldAddr, astore, T10.cc, o2.cells, Blk.w13]
  refine hK _ _ ?_; clear hK K
  have hF2 : ∀ j ∈ F2, H.next + 3 ≤ j := fun j hj => Nat.le_trans T9.nx (l2 j hj)
  have us := fun o => Upd.set (F := [H.next + 2]) G10 (H.next + 2) o (by simp)
  have T11 := T10.set hid (pv' := r) (tv' := r2) (b' := ⟨a, b, c, d, ce, ps, (takeL takeTx (rmost 8 w3).1 (rmost 8 w3).2).1⟩) rfl
  have o11 := o10.upd (us (.cells (Blk.cells ⟨a, b, c, d, ce, ps, (takeL takeTx (rmost 8 w3).1 (rmost 8 w3).2).1⟩ r r2) 0 false 0)) (fun j hj => by have := hF1 j hj; simp; omega)
  have x11 := o2.upd (us (.cells (Blk.cells ⟨a, b, c, d, ce, ps, (takeL takeTx (rmost 8 w3).1 (rmost 8 w3).2).1⟩ r r2) 0 false 0)) (fun j hj => by have := hF2 j hj; simp; omega)
  have T11b : TB H0 H (G10.set (H.next + 2) (.cells (Blk.cells ⟨a, b, c, d, ce, [], []⟩ r r2) 0 false 0)) id (takeL takeTx (rmost 8 w3).1 (rmost 8 w3).2).2 ⟨a, b, c, d, ce, ps, (takeL takeTx (rmost 8 w3).1 (rmost 8 w3).2).1⟩ r r2 := T11
  have o12 : Own (G10.set (H.next + 2) (.cells (Blk.cells ⟨a, b, c, d, ce, [], []⟩ r r2) 0 false 0)) r 10 (ps.map Tmo.cells).flatten F1 := o11
  have x12 : Own (G10.set (H.next + 2) (.cells (Blk.cells ⟨a, b, c, d, ce, [], []⟩ r r2) 0 false 0)) r2 7 ((takeL takeTx (rmost 8 w3).1 (rmost 8 w3).2).1.map Tx.cells).flatten F2 := x11
  clear T9 T10 T11 o9 o10 o11 x11 us h10
  clear o2
  generalize AH.set _ (H.next + 2) _ = G11 at T11b o12 x12 ⊢
  generalize takeL takeTx (rmost 8 w3).1 (rmost 8 w3).2 = q3 at *
  obtain ⟨ts, w4⟩ := q3
  simp only at T11b x12 t32 n2 n3 ⊢
  have hfit : Blk.fits ⟨a, b, c, d, ce, ps, ts⟩ := ⟨Nat.le_trans n1 (by decide), Nat.le_trans n2 (by decide), n3⟩
  have o13 : Own G11 r 10 ((Blk.mk a b c d ce ps ts).proof.map Tmo.cells).flatten F1 := o12
  have x13 : Own G11 r2 7 ((Blk.mk a b c d ce ps ts).txs.map Tx.cells).flatten F2 := x12
  generalize (⟨a, b, c, d, ce, ps, ts⟩ : Blk) = B at *
  have hb := rdone_bad t32
  have hlt1 : ∀ G', H.next + 3 ≤ AH.next G' → H.next + 1 < G'.next := fun G' h => by omega
  have hat : ∀ G', (∀ j, H.next + 3 ≤ j → j < G11.next → G'.get j = G11.get j) → G11.next ≤ G'.next → BlkAt G' B r r2 := fun G' hg hn => by
    have u : ∀ F : List Nat, (∀ j ∈ F, H.next + 3 ≤ j) → Upd G11 G' (List.range (H.next + 3)) := fun F _ => ⟨hn, fun j hj hx => hg j (by simpa using hx) hj⟩
    exact ⟨Own.rsR (f := Tmo.cells) (o13.upd (u F1 hF1) (fun j hj => by have := hF1 j hj; simpa using this)) (by decide) (fun _ => rfl), Own.rsR (f := Tx.cells) (x13.upd (u F2 hF2) (fun j hj => by have := hF2 j hj; simpa using this)) (by decide) (fun _ => rfl)⟩
  have fin : ∀ {G' : AH} {w' : St} {B' : Blk}, TB H0 H G' id w' B' r r2 → ∀ l, Rd H0 (G'.set (H.next + 1) (.cells l 0 false 0)) id w' ∧ Upd H (G'.set (H.next + 1) (.cells l 0 false 0)) [id] := fun {G' w' B'} T l =>
    ⟨T.rd.upd (Upd.set (F := [H.next + 1]) _ _ _ (by simp)) (fun j hj => by simp at hj; omega), (show Upd H G' [id] from ⟨by have := T.nx; omega, fun j hj hn => T.old j hj (by simpa using hn)⟩).trans (Upd.set (F := [H.next + 1]) _ _ _ (by simp)) (fun j hj => .inr (by simp at hj; omega))⟩
  have hab : abuild Tryd.prog 61 [] = some (.agg (Blk.zero.cells nilSl nilSl)) := by simp [abuild, afill]; rfl
  have hz : ∀ G', BlkAt G' Blk.zero nilSl nilSl := fun G' => ⟨RS.nil .., RS.nil ..⟩
  refine AW_seq ?_
  refine AW_seq ?_
  refine AW_reg [1, 2, 3, 4] fun K hK => ?_ -- region 6
  simp [init_eq, aload, T11b.bx]
  refine ACalls.mono (done_ok T11b.rd) fun r' H' ⟨hr, e⟩ => ?_ -- (*hallmoot/wire.Reader).Done
  subst hr e
  try simp
  refine hK _ _ ?_; clear hK K
  refine AW_seq ?_
  refine AW_regto [1, 2, 3, 36] ⟨47, [(1, .p (some (H.next, 0, 0))), (2, .p (some (H.next + 1, 0, 0))), (3, .p (some (H.next + 2, 0, 0))), (36, .b (decide (w4.2 ≠ 0)))]⟩ H' (fun K hk => ?_) ?_ -- region 7
  · by_cases k1 : rdone w4 = 0
    · have k2 : w4.2 = 0 := Classical.byContradiction fun hn => (hb.2 hn).1 k1
      simpa [init_eq, k1, k2] using hk
    · by_cases k2 : rdone w4 = 32
      · have k3 : w4.2 = 0 := Classical.byContradiction fun hn => (hb.2 hn).2 k2
        simpa [init_eq, k1, k2, k3] using hk
      · have k3 : ¬ w4.2 = 0 := hb.1 ⟨k1, k2⟩
        simpa [init_eq, k1, k2, k3] using hk
  refine AW_cond' rfl rfl (fun hc => ?_) (fun hc => ?_)
  · have k1 : ¬ w4.2 = 0 := by simpa using hc
    rw [if_neg k1]
    refine AW_seq ?_
    refine AW_reg [2] fun K hK => ?_ -- region 8
    simp [init_eq, hab, astore, T11b.rs, V.cells]
    refine hK _ _ ?_; clear hK K
    refine AW_ret (end_ret (ares_cell (v := .agg (Blk.zero.cells nilSl nilSl)) ?_) ⟨nilSl, nilSl, rfl, fun G' _ _ => hz G', fin T11b _⟩)
    simp [aload, AH.get_set, hlt1 _ T11b.nx]
    rw [splice_all (c := Blk.zero.cells nilSl nilSl) (l := Blk.zero.cells nilSl nilSl) rfl]; simp [blk_take]
  · have k1 : w4.2 = 0 := by simpa using hc
    rw [if_pos k1]
    refine AW_skip ?_
    refine AW_seq ?_
    refine AW_seq ?_
    refine AW_reg [1, 2, 3, 5] fun K hK => ?_ -- region 9
    simp [init_eq, aload, T11b.cc, blk_take]
    refine ACalls.mono (bcheck_ok _ (hat _ (fun _ _ _ => rfl) (Nat.le_refl _)) hfit) fun r' H' ⟨hr, e⟩ => ?_ -- hallmoot/block.Check
    subst hr e
    try simp
    refine hK _ _ ?_; clear hK K
    refine AW_seq ?_
    refine AW_reg [1, 2, 3, 5, 41] fun K hK => ?_ -- region 10
    simp [init_eq]
    refine hK _ _ ?_; clear hK K
    refine AW_cond' rfl rfl (fun hc => ?_) (fun hc => ?_)
    · have k2 : ¬ B.err = 0 := by simpa using hc
      rw [if_neg k2]
      refine AW_seq ?_
      refine AW_reg [2] fun K hK => ?_ -- region 11
      simp [init_eq, aload, T11b.bx]
      refine ACalls.mono (fail_ok T11b.rd B.err) fun r' G12 ⟨h12, u12⟩ => ?_ -- (*hallmoot/wire.Reader).Fail
      try simp
      refine hK _ _ ?_; clear hK K
      have T12 := T11b.upd hid h12 u12
      refine AW_seq ?_
      refine AW_reg [2] fun K hK => ?_ -- region 12
      simp [init_eq, hab, astore, T12.rs, V.cells]
      refine hK _ _ ?_; clear hK K
      refine AW_ret (end_ret (ares_cell (v := .agg (Blk.zero.cells nilSl nilSl)) ?_) ⟨nilSl, nilSl, rfl, fun G' _ _ => hz G', fin T12 _⟩)
      simp [aload, AH.get_set, hlt1 _ T12.nx]
      rw [splice_all (c := Blk.zero.cells nilSl nilSl) (l := Blk.zero.cells nilSl nilSl) rfl]; simp [blk_take]
    · have k2 : B.err = 0 := by simpa using hc
      rw [if_pos k2]
      refine AW_skip ?_
      refine AW_seq ?_
      refine AW_reg [2] fun K hK => ?_ -- region 13
      simp [init_eq, aload, T11b.cc, blk_take, astore, T11b.rs, V.cells]
      refine hK _ _ ?_; clear hK K
      refine AW_ret (end_ret (ares_cell (v := .agg (B.cells r r2)) ?_) ⟨r, r2, rfl, fun G' hg hn => hat G' (fun j h1 h2 => by rw [hg j (by omega) (by simpa using h2), AH.get_set_ne (by omega)]) (by simpa using hn), fin T11b _⟩)
      simp [aload, AH.get_set, hlt1 _ T11b.nx]
      rw [splice_all (c := Blk.zero.cells nilSl nilSl) (l := B.cells r r2) rfl]; simp [blk_take]
end Go.Proofs.YtoccjilbfkhmoaaDoor
