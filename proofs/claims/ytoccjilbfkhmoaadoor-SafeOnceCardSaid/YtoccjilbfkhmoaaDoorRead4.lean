/-
  A transaction is read.
-/
import Derived.Test.YtoccjilbfkhmoaaDoorRead3
set_option linter.unusedVariables false
set_option linter.unusedSimpArgs false
namespace Go.Proofs.YtoccjilbfkhmoaaDoor
open Go Go.Abs Go.Proofs
set_option maxRecDepth 100000
attribute [local irreducible] AEnd AW ACalls

theorem rmost_32 {m : Nat} {s : St} (h : s.2 ≠ 32) : (rmost m s).2.2 ≠ 32 := by
  unfold rmost
  split
  · exact rfail_32 (by decide) (rnum_32 h)
  · exact rnum_32 h
theorem rmost_le (m : Nat) (s : St) : (rmost m s).1 ≤ m := by
  unfold rmost
  split
  · exact Nat.zero_le _
  · omega
theorem rtext_32 {s : St} (h : s.2 ≠ 32) : (rtext s).2.2 ≠ 32 := by
  have := rmost_32 (m := 65536) h
  unfold rtext
  split
  · exact rfail_32 (by decide) this
  · exact this
theorem rtext_len (s : St) : (rtext s).1.length ≤ 65536 := by
  have := rmost_le 65536 s
  unfold rtext
  split
  · simp
  · simp only [List.length_take]; omega
theorem rawTx_32 {k : Nat} {s : St} (h : s.2 ≠ 32) : (rawTx k s).2.2 ≠ 32 := by
  unfold rawTx
  simp only
  split
  · exact rnum_32 (rtext_32 (rtext_32 (rnum_32 h)))
  · exact rtext_32 (rtext_32 (rtext_32 (rnum_32 h)))
theorem rawTx_fits (k : Nat) (s : St) : (rawTx k s).1.fits := by
  unfold rawTx
  simp only
  have h := fun s => Nat.le_trans (rtext_len s) (by decide : 65536 ≤ 140737488351232)
  split
  · exact ⟨h _, h _, by simp, by simp⟩
  · exact ⟨h _, by simp, h _, h _⟩
theorem takeTx_32 {s : St} (h : s.2 ≠ 32) : (takeTx s).2.2 ≠ 32 := by
  unfold takeTx
  split
  · simp only
    split
    · exact rawTx_32 (rnum_32 h)
    · exact rfail_32 (by decide) (rawTx_32 (rnum_32 h))
  · exact rfail_32 (by decide) (rnum_32 h)
/-- Under way: the reader, the transaction so far. -/
structure TT (H0 H G : AH) (id : Nat) (s : St) (t : Tx) : Prop where
  rd : Rd H0 G id s
  rs : G.get H.next = some (.cells Tx.zero.cells 0 false 0)
  cc : G.get (H.next + 1) = some (.cells t.cells 0 false 0)
  nx : H.next + 2 ≤ G.next
  old : ∀ j, j < H.next → j ≠ id → G.get j = H.get j
theorem TT.upd {H0 H G G' : AH} {id : Nat} {s s' : St} {t : Tx} (h : TT H0 H G id s t) (hid : id < H.next) (hr : Rd H0 G' id s') (u : Upd G G' [id]) : TT H0 H G' id s' t := by
  refine ⟨hr, u.keep (by simp; omega) h.rs, u.keep (by simp; omega) h.cc, Nat.le_trans h.nx u.1, fun j hj hn => ?_⟩
  rw [u.2 j (by have := h.nx; omega) (by simpa using hn), h.old j hj hn]
theorem TT.set {H0 H G : AH} {id : Nat} {s : St} {t t' : Tx} {l : List V} (h : TT H0 H G id s t) (hid : id < H.next) (hl : l = t'.cells) : TT H0 H (G.set (H.next + 1) (.cells l 0 false 0)) id s t' := by
  subst hl
  have hn := h.nx
  refine ⟨h.rd.upd (Upd.set (F := [H.next + 1]) _ _ _ (by simp)) (fun j hj => by simp at hj; omega), ?_, ?_, hn, fun j hj hne => ?_⟩
  · rw [AH.get_set_ne (by omega)]; exact h.rs
  · simp [AH.get_set]; omega
  · rw [AH.get_set_ne (by omega)]; exact h.old j hj hne
theorem Tx.w0 (t : Tx) (x : Int) : splice t.cells 0 [.i .i64 x] = ({ t with kind := x }).cells := rfl
theorem Tx.w1 (t : Tx) (x : List UInt8) : splice t.cells 1 [.s x] = ({ t with src := x }).cells := rfl
theorem Tx.w2 (t : Tx) (x : List UInt8) : splice t.cells 2 [.s x] = ({ t with dst := x }).cells := rfl
theorem Tx.w3 (t : Tx) (x : List UInt8) : splice t.cells 3 [.s x] = ({ t with key := x }).cells := rfl
theorem Tx.w4 (t : Tx) (x : List UInt8) : splice t.cells 4 [.s x] = ({ t with val := x }).cells := rfl
theorem Tx.w5 (t : Tx) (x : Int) : splice t.cells 5 [.i .i64 x] = ({ t with amount := x }).cells := rfl
theorem Tx.w6 (t : Tx) (x : Int) : splice t.cells 6 [.i .i64 x] = ({ t with nonce := x }).cells := rfl
theorem txTake_ok {H0 H : AH} {id : Nat} {s : St} (h : Rd H0 H id s) (h32 : s.2 ≠ 32) : ACalls Tryd.prog 68 [.p (some (id, 0, 0))] H fun r H' => r = .agg (takeTx s).1.cells ∧ Rd H0 H' id (takeTx s).2 ∧ Upd H H' [id] := by
  have hid := h.mem
  have hab : abuild Tryd.prog 108 [] = some (.agg Tx.zero.cells) := by simp [abuild, afill]; rfl
  have fin : ∀ {G : AH} {w : St} {t : Tx}, TT H0 H G id w t → ∀ l, Rd H0 (G.set H.next (.cells l 0 false 0)) id w ∧ Upd H (G.set H.next (.cells l 0 false 0)) [id] := fun {G w t} T l =>
    ⟨T.rd.upd (Upd.set (F := [H.next]) _ _ _ (by simp)) (fun j hj => by simp at hj; omega), (show Upd H G [id] from ⟨by have := T.nx; omega, fun j hj hn => T.old j hj (by simpa using hn)⟩).trans (Upd.set (F := [H.next]) _ _ _ (by simp)) (fun j hj => .inr (by simp at hj; omega))⟩
  refine ACalls_body Tryd.func68 rfl rfl ?_
  refine AW_seq ?_
  refine AW_reg [0, 2] fun K hK => ?_ -- region 0
  simp [init_eq, V.cells]
  refine hK _ _ ?_; clear hK K
  refine AW_seq ?_
  refine AW_reg [0, 2, 3] fun K hK => ?_ -- region 1
  simp [init_eq, V.cells]
  refine hK _ _ ?_; clear hK K
  obtain ⟨G, e1, g1, g2, gn, go⟩ := H.boxed2 Tx.zero.cells Tx.zero.cells
  have T0 : TT H0 H G id s Tx.zero := ⟨h.upd (F := []) ⟨by omega, fun j hj _ => go j hj⟩ (by simp), g1, g2, by omega, fun j hj _ => go j hj⟩
  show AThen _ _ _ _ ((H.new (O.cells Tx.zero.cells 0 false 0)).new (O.cells Tx.zero.cells 0 false 0))
  rw [e1]
  clear e1 g1 g2 gn go
  have hq := rnum_32 h32
  unfold takeTx
  generalize hk : rnum s = q at *
  obtain ⟨k, s1⟩ := q
  simp only at hq ⊢
  refine AW_cut (fun ρ G => ρ = ⟨52, [(0, .p (some (id, 0, 0))), (2, .p (some (H.next, 0, 0))), (3, .p (some (H.next + 1, 0, 0)))]⟩ ∧ (k = 1 ∨ k = 2) ∧ TT H0 H G id s1 ⟨k, [], [], [], [], 0, 0⟩) ?_ ?_
  · refine AW_seq ?_
    refine AW_reg [0, 2, 3] fun K hK => ?_ -- region 2
    simp [init_eq]
    refine ACalls.mono (rdnum_ok T0.rd) fun r G1 ⟨hr, h1, u1⟩ => ?_ -- (*hallmoot/wire.Reader).Num
    subst hr
    rw [hk] at h1 ⊢
    have T1 := T0.upd hid h1 u1
    simp only at T1
    simp [afieldAddr, astore, T1.cc, V.cells, Tx.w0]
    refine hK _ _ ?_; clear hK K
    have T2 := T1.set hid (t' := { Tx.zero with kind := k }) rfl
    generalize AH.set _ (H.next + 1) _ = G2 at T2 ⊢
    have T2 : TT H0 H G2 id s1 ⟨k, [], [], [], [], 0, 0⟩ := T2
    refine AW_seq ?_
    refine AW_reg [0, 2, 3, 9] fun K hK => ?_ -- region 3
    simp [init_eq, afieldAddr, aload, T2.cc]
    refine hK _ _ ?_; clear hK K
    refine AW_block ?_
    refine AW_cutto ⟨52, [(0, .p (some (id, 0, 0))), (2, .p (some (H.next, 0, 0))), (3, .p (some (H.next + 1, 0, 0))), (9, .i .i64 (k : Nat)), (13, .b (decide (k = 1 ∨ k = 2)))]⟩ G2 ?_ ?_
    · refine AW_seq ?_
      refine AW_regto [0, 2, 3, 9, 13] ⟨52, [(0, .p (some (id, 0, 0))), (2, .p (some (H.next, 0, 0))), (3, .p (some (H.next + 1, 0, 0))), (9, .i .i64 (k : Nat)), (13, .b (decide (k = 1)))]⟩ G2 (fun K hk => ?_) ?_ -- region 6
      · by_cases k1 : k = 1
        · simpa [init_eq, k1] using hk
        · have k2 : ¬ (k : Int) = 1 := by omega
          simpa [init_eq, k1, k2] using hk
      refine AW_cond' rfl rfl (fun hc => ?_) (fun hc => ?_)
      · have k1 : k = 1 := by simpa using hc
        refine AW_skip ?_
        exact rend ⟨by simp [k1], rfl⟩
      · have k1 : ¬ k = 1 := by simpa using hc
        refine AW_regto [0, 2, 3, 9, 13] ⟨52, [(0, .p (some (id, 0, 0))), (2, .p (some (H.next, 0, 0))), (3, .p (some (H.next + 1, 0, 0))), (9, .i .i64 (k : Nat)), (13, .b (decide (k = 1 ∨ k = 2)))]⟩ G2 (fun K hk => ?_) (rend ⟨rfl, rfl⟩) -- region 7
        by_cases k2 : k = 2
        · simpa [init_eq, k2] using hk
        · have k3 : ¬ (k : Int) = 2 := by omega
          simpa [init_eq, k1, k2, k3] using hk
    · refine AW_cond' rfl rfl (fun hc => ?_) (fun hc => ?_)
      · have k1 : k = 1 ∨ k = 2 := by simpa using hc
        refine AW_skip ?_
        exact bend (rend ⟨_, by simp, rfl, k1, T2⟩)
      · have k1 : ¬ (k = 1 ∨ k = 2) := by simpa using hc
        rw [if_neg k1]
        refine AW_seq ?_
        refine AW_reg [2] fun K hK => ?_ -- region 4
        simp [init_eq]
        refine ACalls.mono (fail_ok T2.rd 80) fun r G3 ⟨h3, u3⟩ => ?_ -- (*hallmoot/wire.Reader).Fail
        try simp
        refine hK _ _ ?_; clear hK K
        have T3 := T2.upd hid h3 u3
        have hlt1 : H.next < G3.next := by have := T3.nx; omega
        refine AW_seq ?_
        refine AW_reg [2] fun K hK => ?_ -- region 5
        simp [init_eq, hab, astore, T3.rs, V.cells]
        refine hK _ _ ?_; clear hK K
        refine AW_ret (end_ret (ares_cell (v := .agg Tx.zero.cells) ?_) ⟨rfl, fin T3 _⟩)
        simp [aload, AH.get_set, hlt1]
        rw [splice_all (c := Tx.zero.cells) (l := Tx.zero.cells) rfl]; simp [tx_take]
  · rintro ρ G1 ⟨rfl, hk12, T1⟩
    clear T0
    rw [if_pos hk12]
    have e : rawTx k s1 = (if k = 1 then (⟨k, (rtext (rnum s1).2).1, (rtext (rtext (rnum s1).2).2).1, [], [], (rnum (rtext (rtext (rnum s1).2).2).2).1, (rnum s1).1⟩, (rnum (rtext (rtext (rnum s1).2).2).2).2)
      else (⟨k, (rtext (rnum s1).2).1, [], (rtext (rtext (rnum s1).2).2).1, (rtext (rtext (rtext (rnum s1).2).2).2).1, 0, (rnum s1).1⟩, (rtext (rtext (rtext (rnum s1).2).2).2).2)) := rfl
    have hf := rawTx_fits k s1
    have h33 := rawTx_32 (k := k) hq
    refine AW_seq ?_
    refine AW_reg [0, 2, 3] fun K hK => ?_ -- region 8
    simp [init_eq]
    refine ACalls.mono (rdnum_ok T1.rd) fun r G2 ⟨hr, h2, u2⟩ => ?_ -- (*hallmoot/wire.Reader).Num
    subst hr
    have T2 := T1.upd hid h2 u2
    try simp
    refine ACalls.mono (text_ok' T2.rd) fun r G3 ⟨hr, h3, u3⟩ => ?_ -- (*hallmoot/wire.Reader).Text
    subst hr
    have T3 := T2.upd hid h3 u3
    have hlt : H.next + 1 < G3.next := by have := T3.nx; omega
    simp [afieldAddr, astore, T3.cc, V.cells, AH.get_set, hlt, Tx.w6, Tx.w1]
    refine hK _ _ ?_; clear hK K
    generalize ha : rnum s1 = a at *
    generalize hb : rtext a.2 = b at *
    have T4 := (T3.set hid (t' := ⟨k, [], [], [], [], 0, a.1⟩) rfl).set hid (t' := ⟨k, b.1, [], [], [], 0, a.1⟩) rfl
    generalize AH.set _ (H.next + 1) _ = G4 at T4 ⊢
    refine AW_cut (fun ρ G => ρ = ⟨52, [(0, .p (some (id, 0, 0))), (2, .p (some (H.next, 0, 0))), (3, .p (some (H.next + 1, 0, 0)))]⟩ ∧ TT H0 H G id (rawTx k s1).2 (rawTx k s1).1) ?_ ?_
    · refine AW_seq ?_
      refine AW_regto [0, 2, 3, 24] ⟨52, [(0, .p (some (id, 0, 0))), (2, .p (some (H.next, 0, 0))), (3, .p (some (H.next + 1, 0, 0))), (24, .b (decide (k = 1)))]⟩ G4 (fun K hk => ?_) ?_ -- region 9
      · by_cases k1 : k = 1
        · simpa [init_eq, afieldAddr, aload, T4.cc, k1] using hk
        · have k2 : ¬ (k : Int) = 1 := by omega
          simpa [init_eq, afieldAddr, aload, T4.cc, k1, k2] using hk
      refine AW_cond' rfl rfl (fun hc => ?_) (fun hc => ?_)
      · have k1 : k = 1 := by simpa using hc
        rw [e, if_pos k1]
        refine AW_reg [0, 2, 3] fun K hK => ?_ -- region 10
        simp [init_eq]
        refine ACalls.mono (text_ok' T4.rd) fun r G5 ⟨hr, h5, u5⟩ => ?_ -- (*hallmoot/wire.Reader).Text
        subst hr
        have T5 := T4.upd hid h5 u5
        try simp
        refine ACalls.mono (rdnum_ok T5.rd) fun r G6 ⟨hr, h6, u6⟩ => ?_ -- (*hallmoot/wire.Reader).Num
        subst hr
        have T6 := T5.upd hid h6 u6
        have hlt : H.next + 1 < G6.next := by have := T6.nx; omega
        simp [afieldAddr, astore, T6.cc, V.cells, AH.get_set, hlt, Tx.w2, Tx.w5]
        refine hK _ _ ?_; clear hK K
        exact rend ⟨_, by simp, rfl, (T6.set hid (t' := ⟨k, b.1, (rtext b.2).1, [], [], 0, a.1⟩) rfl).set hid (t' := ⟨k, b.1, (rtext b.2).1, [], [], (rnum (rtext b.2).2).1, a.1⟩) rfl⟩
      · have k1 : ¬ k = 1 := by simpa using hc
        rw [e, if_neg k1]
        refine AW_reg [0, 2, 3] fun K hK => ?_ -- region 11
        simp [init_eq]
        refine ACalls.mono (text_ok' T4.rd) fun r G5 ⟨hr, h5, u5⟩ => ?_ -- (*hallmoot/wire.Reader).Text
        subst hr
        have T5 := T4.upd hid h5 u5
        try simp
        refine ACalls.mono (text_ok' T5.rd) fun r G6 ⟨hr, h6, u6⟩ => ?_ -- (*hallmoot/wire.Reader).Text
        subst hr
        have T6 := T5.upd hid h6 u6
        have hlt : H.next + 1 < G6.next := by have := T6.nx; omega
        simp [afieldAddr, astore, T6.cc, V.cells, AH.get_set, hlt, Tx.w3, Tx.w4]
        refine hK _ _ ?_; clear hK K
        exact rend ⟨_, by simp, rfl, (T6.set hid (t' := ⟨k, b.1, [], (rtext b.2).1, [], 0, a.1⟩) rfl).set hid (t' := ⟨k, b.1, [], (rtext b.2).1, (rtext (rtext b.2).2).1, 0, a.1⟩) rfl⟩
    · rintro ρ G5 ⟨rfl, T5⟩
      clear T1 T2 T3 T4 e
      generalize rawTx k s1 = y at *
      obtain ⟨t, w⟩ := y
      simp only at T5 hf h33 ⊢
      have h34 : (if t.ok = true then w else rfail 80 w).2 ≠ 32 := by
        split
        · exact h33
        · exact rfail_32 (by decide) h33
      refine AW_cut (fun ρ G => ρ = ⟨52, [(0, .p (some (id, 0, 0))), (2, .p (some (H.next, 0, 0))), (3, .p (some (H.next + 1, 0, 0)))]⟩ ∧ TT H0 H G id (if t.ok = true then w else rfail 80 w) t) ?_ ?_
      · refine AW_seq ?_
        refine AW_regto [0, 2, 3, 39] ⟨52, [(0, .p (some (id, 0, 0))), (2, .p (some (H.next, 0, 0))), (3, .p (some (H.next + 1, 0, 0))), (39, .b (!t.ok))]⟩ G5 (fun K hk => ?_) ?_ -- region 12
        · simp [init_eq, aload, T5.cc, tx_take]
          refine ACalls.mono (txCheck_ok _ _ hf) fun r H' ⟨hr, e⟩ => ?_ -- hallmoot/tx.Check
          subst hr e
          cases k1 : t.ok
          · simpa [k1] using hk
          · simpa [k1] using hk
        refine AW_cond' rfl rfl (fun hc => ?_) (fun hc => ?_)
        · have k1 : t.ok = false := by simpa using hc
          refine AW_reg [0, 2, 3] fun K hK => ?_ -- region 13
          simp [init_eq]
          refine ACalls.mono (fail_ok T5.rd 80) fun r G6 ⟨h6, u6⟩ => ?_ -- (*hallmoot/wire.Reader).Fail
          try simp
          refine hK _ _ ?_; clear hK K
          refine rend ⟨_, by simp, rfl, ?_⟩
          simp only [k1]
          exact T5.upd hid h6 u6
        · have k1 : t.ok = true := by simpa using hc
          refine AW_skip ?_
          refine rend ⟨_, by simp, rfl, ?_⟩
          simp only [k1, if_true]
          exact T5
      · rintro ρ G6 ⟨rfl, T6⟩
        generalize (if t.ok = true then w else rfail 80 w) = w' at *
        have hb := rdone_bad h34
        have hlt1 : H.next < G6.next := by have := T6.nx; omega
        refine AW_seq ?_
        refine AW_seq ?_
        refine AW_reg [2, 3, 4] fun K hK => ?_ -- region 14
        simp [init_eq]
        refine ACalls.mono (done_ok T6.rd) fun r H' ⟨hr, e⟩ => ?_ -- (*hallmoot/wire.Reader).Done
        subst hr e
        try simp
        refine hK _ _ ?_; clear hK K
        refine AW_seq ?_
        refine AW_regto [2, 3, 49] ⟨52, [(2, .p (some (H.next, 0, 0))), (3, .p (some (H.next + 1, 0, 0))), (49, .b (decide (w'.2 ≠ 0)))]⟩ H' (fun K hk => ?_) ?_ -- region 15
        · by_cases k1 : rdone w' = 0
          · have k2 : w'.2 = 0 := Classical.byContradiction fun hn => (hb.2 hn).1 k1
            simpa [init_eq, k1, k2] using hk
          · by_cases k2 : rdone w' = 32
            · have k3 : w'.2 = 0 := Classical.byContradiction fun hn => (hb.2 hn).2 k2
              simpa [init_eq, k1, k2, k3] using hk
            · have k3 : ¬ w'.2 = 0 := hb.1 ⟨k1, k2⟩
              simpa [init_eq, k1, k2, k3] using hk
        refine AW_cond' rfl rfl (fun hc => ?_) (fun hc => ?_)
        · have k1 : ¬ w'.2 = 0 := by simpa using hc
          rw [if_neg k1]
          refine AW_seq ?_
          refine AW_reg [2] fun K hK => ?_ -- region 16
          simp [init_eq, hab, astore, T6.rs, V.cells]
          refine hK _ _ ?_; clear hK K
          refine AW_ret (end_ret (ares_cell (v := .agg Tx.zero.cells) ?_) ⟨rfl, fin T6 _⟩)
          simp [aload, AH.get_set, hlt1]
          rw [splice_all (c := Tx.zero.cells) (l := Tx.zero.cells) rfl]; simp [tx_take]
        · have k1 : w'.2 = 0 := by simpa using hc
          rw [if_pos k1]
          refine AW_skip ?_
          refine AW_seq ?_
          refine AW_reg [2] fun K hK => ?_ -- region 17
          simp [init_eq, aload, T6.cc, tx_take, astore, T6.rs, V.cells]
          refine hK _ _ ?_; clear hK K
          refine AW_ret (end_ret (ares_cell (v := .agg t.cells) ?_) ⟨rfl, fin T6 _⟩)
          simp [aload, AH.get_set, hlt1]
          rw [splice_all (c := Tx.zero.cells) (l := t.cells) rfl]; simp [tx_take]
end Go.Proofs.YtoccjilbfkhmoaaDoor
