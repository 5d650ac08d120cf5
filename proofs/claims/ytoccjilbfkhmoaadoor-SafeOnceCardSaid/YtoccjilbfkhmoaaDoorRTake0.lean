/-
  What the document reads of bytes: certificates, transactions, blocks; it is what the program reads.
-/
import Derived.Test.YtoccjilbfkhmoaaDoorParse0
set_option linter.unusedVariables false
set_option linter.unusedSimpArgs false
namespace Go.Proofs.YtoccjilbfkhmoaaDoor
open Go Go.Abs Go.Proofs
set_option maxRecDepth 100000

/-- The next number of a certificate, not above, as the document reads it. -/
def rnext (m : Nat) (s : St) : Nat × St := if m < (rnum s).1 then (0, rfail 110 (rnum s).2) else rnum s
theorem rnext_st (m : Nat) (s : St) : (rnext m s).2 = (tnext m s).2 := by unfold rnext tnext; split <;> rfl
theorem rnext_eq {m : Nat} {s : St} (h : (tnext m s).2.2 = 0) : rnext m s = tnext m s := by
  have := (tnext_inv h).2.2
  have e : (tnext m s).1 = (rnum s).1 := rfl
  unfold rnext
  rw [if_neg (by omega)]
  unfold tnext
  rw [if_neg (by omega)]
theorem rnext_bad {m : Nat} {s : St} (h : (tnext m s).2.2 ≠ 0) : (rnext m s).1 = 0 := by
  unfold rnext
  split
  · rfl
  · rename_i h1
    unfold tnext at h
    rw [if_neg h1] at h
    simp only at h
    by_cases h0 : s.2 = 0
    · unfold rnum at h ⊢
      rw [if_pos h0] at h ⊢
      split at h
      · rename_i x e; rfl
      · exact absurd rfl h
    · rw [rnum_err h0]
theorem tnext_err {m : Nat} {s : St} (h : s.2 ≠ 0) : tnext m s = (0, s) := by
  unfold tnext; rw [rnum_err h]; simp
def rC1 (s : St) : (Nat × Nat × Nat × Nat) × St :=
  let a := rnext 2147483647 s
  let b := rnext 1048576 a.2
  let c := rnext 1073741824 b.2
  let d := rnext 1023 c.2
  ((a.1, b.1, c.1, d.1), d.2)
def rC2 (s : St) : (Nat × Nat × Nat) × St :=
  let a := rnext 3 s
  let b := rnext 9 a.2
  let c := rnext 1023 b.2
  ((a.1, b.1, c.1), c.2)
theorem rC1_st (s : St) : (rC1 s).2 = (takeC1 s).2 := by simp only [rC1, takeC1, rnext_st]
theorem rC2_st (s : St) : (rC2 s).2 = (takeC2 s).2 := by simp only [rC2, takeC2, rnext_st]
theorem rC1_eq {s : St} (h : (takeC1 s).2.2 = 0) : rC1 s = takeC1 s ∧ s.2 = 0 := by
  simp only [takeC1] at h
  have h3 := (tnext_inv h).1
  have h2 := (tnext_inv h3).1
  have h1 := (tnext_inv h2).1
  refine ⟨?_, (tnext_inv h1).1⟩
  simp only [rC1, takeC1, rnext_eq h1, rnext_eq h2, rnext_eq h3, rnext_eq h]
theorem rC2_eq {s : St} (h : (takeC2 s).2.2 = 0) : rC2 s = takeC2 s ∧ s.2 = 0 := by
  simp only [takeC2] at h
  have h2 := (tnext_inv h).1
  have h1 := (tnext_inv h2).1
  refine ⟨?_, (tnext_inv h1).1⟩
  simp only [rC2, takeC2, rnext_eq h1, rnext_eq h2, rnext_eq h]
theorem takeC1_err {s : St} (h : s.2 ≠ 0) : (takeC1 s).2 = s := by simp only [takeC1, tnext_err h]
theorem takeC2_err {s : St} (h : s.2 ≠ 0) : (takeC2 s).2 = s := by simp only [takeC2, tnext_err h]
/-- The three parts of a certificate. -/
def mkC (k : Nat) (x : Nat × Nat × Nat × Nat) (y : Nat × Nat × Nat) : Cert := ⟨k, x.1, x.2.1, x.2.2.1, y.1, y.2.1, BitVec.ofNat 32 x.2.2.2, BitVec.ofNat 32 y.2.2⟩
def rraw1 (s : St) : (Nat × Nat × Nat × Nat) × St := if 0 < (rnext 2 s).1 then rC1 (rnext 2 s).2 else ((0, 0, 0, 0), (rnext 2 s).2)
def rraw2 (s : St) : (Nat × Nat × Nat) × St := if (rnext 2 s).1 = 2 then rC2 (rraw1 s).2 else ((0, 0, 0), (rraw1 s).2)
def rtakeCert (s : St) : Cert × St :=
  if (rraw2 s).2.2 ≠ 0 then (Cert.zero, (rraw2 s).2)
  else if (mkC (rnext 2 s).1 (rraw1 s).1 (rraw2 s).1).ok then (mkC (rnext 2 s).1 (rraw1 s).1 (rraw2 s).1, (rraw2 s).2) else (Cert.zero, rfail 110 (rraw2 s).2)
theorem rawCert_eq (s : St) : rawCert s = (mkC (tnext 2 s).1 (if (tnext 2 s).1 = 0 then ((0, 0, 0, 0), (tnext 2 s).2) else takeC1 (tnext 2 s).2).1
    (if (tnext 2 s).1 = 2 then takeC2 (if (tnext 2 s).1 = 0 then ((0, 0, 0, 0), (tnext 2 s).2) else takeC1 (tnext 2 s).2).2 else ((0, 0, 0), (if (tnext 2 s).1 = 0 then ((0, 0, 0, 0), (tnext 2 s).2) else takeC1 (tnext 2 s).2).2)).1,
    (if (tnext 2 s).1 = 2 then takeC2 (if (tnext 2 s).1 = 0 then ((0, 0, 0, 0), (tnext 2 s).2) else takeC1 (tnext 2 s).2).2 else ((0, 0, 0), (if (tnext 2 s).1 = 0 then ((0, 0, 0, 0), (tnext 2 s).2) else takeC1 (tnext 2 s).2).2)).2) := rfl
theorem rtakeCert_eq (s : St) : rtakeCert s = takeCert s := by
  have hT : takeCert s = (if (if (rawCert s).1.ok then (rawCert s).2 else rfail 110 (rawCert s).2).2 = 0 then (rawCert s).1 else Cert.zero, if (rawCert s).1.ok then (rawCert s).2 else rfail 110 (rawCert s).2) := rfl
  by_cases hk : (tnext 2 s).2.2 = 0
  · have e0 := rnext_eq hk
    generalize hkk : tnext 2 s = k at *
    -- the states are the same
    have s1 : (rraw1 s).2 = (if k.1 = 0 then ((0, 0, 0, 0), k.2) else takeC1 k.2).2 := by
      unfold rraw1; rw [e0]
      by_cases h : k.1 = 0
      · rw [if_pos h, if_neg (by omega)]
      · rw [if_neg h, if_pos (by omega), rC1_st]
    have s2 : (rraw2 s).2 = (rawCert s).2 := by
      rw [rawCert_eq, hkk]; simp only
      unfold rraw2; rw [e0, s1]
      by_cases h : k.1 = 2
      · rw [if_pos h, if_pos h, rC2_st]
      · rw [if_neg h, if_neg h]
    by_cases hE : (rawCert s).2.2 = 0
    · -- no error: the same certificate
      have e1 : rraw1 s = (if k.1 = 0 then ((0, 0, 0, 0), k.2) else takeC1 k.2) ∧ rraw2 s = (if k.1 = 2 then takeC2 (if k.1 = 0 then ((0, 0, 0, 0), k.2) else takeC1 k.2).2 else ((0, 0, 0), (if k.1 = 0 then ((0, 0, 0, 0), k.2) else takeC1 k.2).2)) := by
        rw [rawCert_eq, hkk] at hE; simp only at hE
        have h1 : rraw1 s = (if k.1 = 0 then ((0, 0, 0, 0), k.2) else takeC1 k.2) := by
          unfold rraw1; rw [e0]
          by_cases h : k.1 = 0
          · rw [if_pos h, if_neg (by omega)]
          · rw [if_neg h, if_pos (by omega)]
            rw [if_neg h] at hE
            have : (takeC1 k.2).2.2 = 0 := by
              by_cases h2 : k.1 = 2
              · rw [if_pos h2] at hE; exact (rC2_eq hE).2
              · rw [if_neg h2] at hE; exact hE
            exact (rC1_eq this).1
        refine ⟨h1, ?_⟩
        unfold rraw2; rw [e0, h1]
        by_cases h2 : k.1 = 2
        · rw [if_pos h2, if_pos h2]
          rw [if_pos h2] at hE; exact (rC2_eq hE).1
        · rw [if_neg h2, if_neg h2]
      have e2 : mkC (rnext 2 s).1 (rraw1 s).1 (rraw2 s).1 = (rawCert s).1 := by rw [rawCert_eq, hkk, e0, e1.1, e1.2]
      rw [hT]
      unfold rtakeCert
      rw [s2, e2, if_neg (by simp [hE])]
      by_cases ho : (rawCert s).1.ok = true
      · rw [if_pos ho, if_pos ho, if_pos hE]
      · rw [if_neg ho, if_neg ho, if_neg (rfail_ne (by decide))]
    · rw [hT]
      have : (if (rawCert s).1.ok = true then (rawCert s).2 else rfail 110 (rawCert s).2) = (rawCert s).2 := by
        split
        · rfl
        · exact rfail_err hE
      rw [this, if_neg hE]
      unfold rtakeCert
      rw [s2, if_pos hE]
  · have e0 := rnext_bad hk
    have es := rnext_st 2 s
    have s1 : rraw1 s = ((0, 0, 0, 0), (tnext 2 s).2) := by unfold rraw1; rw [e0, es]; rfl
    have s2 : rraw2 s = ((0, 0, 0), (tnext 2 s).2) := by unfold rraw2; rw [e0, s1]; rfl
    have s3 : (rawCert s).2 = (tnext 2 s).2 := by
      rw [rawCert_eq]; simp only
      have h1 : (if (tnext 2 s).1 = 0 then ((0, 0, 0, 0), (tnext 2 s).2) else takeC1 (tnext 2 s).2).2 = (tnext 2 s).2 := by
        split
        · rfl
        · exact takeC1_err hk
      rw [h1]
      split
      · exact takeC2_err hk
      · rfl
    rw [hT]
    have : (if (rawCert s).1.ok = true then (rawCert s).2 else rfail 110 (rawCert s).2) = (tnext 2 s).2 := by
      rw [s3]
      split
      · rfl
      · exact rfail_err hk
    rw [this, if_neg hk]
    unfold rtakeCert
    rw [s2, if_pos hk]
/-! Blocks. -/
def rtakeTmo (v : Int) (s : St) : Tmo × St :=
  (⟨(rnum s).1, v, (takeCert (rnum s).2).1⟩, (takeCert (rnum s).2).2)
def rrawBlk (s : St) : Blk × St :=
  let a := rnum s
  let b := rnum a.2
  let c := rnum b.2
  let d := rnum c.2
  let e := takeCert d.2
  let n := rmost 10 e.2
  let p := takeL (rtakeTmo a.1) n.1 n.2
  let m := rmost 8 p.2
  let t := takeL takeTx m.1 m.2
  (⟨a.1, b.1, c.1, d.1, e.1, p.1, t.1⟩, t.2)
def rtakeBlk (s : St) : Blk × St :=
  if (rrawBlk s).2.2 = 0 then (if (rrawBlk s).1.err = 0 then rrawBlk s else (Blk.zero, rfail (rrawBlk s).1.err (rrawBlk s).2)) else (Blk.zero, (rrawBlk s).2)
def rparseBlk (l : List UInt8) : Blk × Int :=
  if rdone (rtakeBlk (l, 0)).2 = 0 then ((rtakeBlk (l, 0)).1, 0) else (Blk.zero, rdone (rtakeBlk (l, 0)).2)
theorem takeL_st {α β : Type} {f : St → α × St} {g : St → β × St} (h : ∀ s, (f s).2 = (g s).2) : ∀ (n : Nat) (s : St), (takeL f n s).2 = (takeL g n s).2
  | 0, s => rfl
  | n + 1, s => by simp only [takeL]; rw [h s, takeL_st h n]
theorem takeL_map {α β : Type} {f : St → α × St} {g : St → β × St} {u : α → β} (h : ∀ s, ((g s).1 = u (f s).1) ∧ (g s).2 = (f s).2) : ∀ (n : Nat) (s : St), (takeL g n s).1 = (takeL f n s).1.map u
  | 0, s => rfl
  | n + 1, s => by simp only [takeL, List.map_cons]; rw [(h s).1, (h s).2, takeL_map h n]
/-- The program's block: its numbers are cut. -/
def Blk.cut (b : Blk) : Blk := ⟨min b.view 1099511627776, min b.round 1099511627776, min b.height 1099511627776, min b.author 1099511627776, b.parent, b.proof.map fun t => ⟨min t.signer 1099511627776, min t.view 1099511627776, t.high⟩, b.txs⟩
theorem rawBlk_cut (s : St) : rawBlk s = ((rrawBlk s).1.cut, (rrawBlk s).2) := by
  have e : ∀ s, rsmall s = (min (rnum s).1 1099511627776, (rnum s).2) := fun _ => rfl
  have c : ∀ n : Nat, ((min n 1099511627776 : Nat) : Int) = min (n : Int) 1099511627776 := fun n => by omega
  have hst : ∀ v w s, (takeTmo v s).2 = (rtakeTmo w s).2 := fun v w s => rfl
  have hm : ∀ (v : Nat) s, ((takeTmo ((min v 1099511627776 : Nat) : Int) s).1 = (fun t : Tmo => (⟨min t.signer 1099511627776, min t.view 1099511627776, t.high⟩ : Tmo)) (rtakeTmo v s).1) ∧ (takeTmo ((min v 1099511627776 : Nat) : Int) s).2 = (rtakeTmo v s).2 := fun v s => by
    refine ⟨?_, rfl⟩
    simp only [takeTmo, rtakeTmo, e, c]
  simp only [rawBlk, rrawBlk, Blk.cut, e]
  rw [takeL_st (hst _ ((rnum s).1 : Int)), takeL_map (f := rtakeTmo ((rnum s).1 : Int)) (u := fun t : Tmo => (⟨min t.signer 1099511627776, min t.view 1099511627776, t.high⟩ : Tmo)) (hm (rnum s).1)]
  simp only [c]
theorem cut_same {b : Blk} (h1 : b.view ≤ 1099511627776) (h2 : b.round ≤ 1099511627776) (h3 : b.height ≤ 1099511627776) (h4 : b.author ≤ 1099511627776) (h5 : ∀ t ∈ b.proof, t.signer ≤ 1099511627776 ∧ t.view ≤ 1099511627776) : b.cut = b := by
  have h6 : ∀ t ∈ b.proof, (⟨min t.signer 1099511627776, min t.view 1099511627776, t.high⟩ : Tmo) = t := fun t ht => by
    have := h5 t ht
    rw [show min t.signer 1099511627776 = t.signer by omega, show min t.view 1099511627776 = t.view by omega]
  unfold Blk.cut
  have e1 : b.proof.map (fun t : Tmo => (⟨min t.signer 1099511627776, min t.view 1099511627776, t.high⟩ : Tmo)) = b.proof := by
    rw [List.map_congr_left h6]; simp
  rw [e1, show min b.view 1099511627776 = b.view by omega, show min b.round 1099511627776 = b.round by omega, show min b.height 1099511627776 = b.height by omega, show min b.author 1099511627776 = b.author by omega]
theorem cut_ok {b : Blk} (h : b.err = 0) : b.cut = b := by
  have hR := b.rng h
  have h1 := hR.view; have h2 := hR.round; have h3 := hR.height; have h4 := hR.author
  refine cut_same (by omega) (by omega) (by omega) (by omega) fun t ht => ?_
  have := (hR.tmos t ht).1
  have h6 := Blk.tmo_view h t ht
  omega
theorem cut_inv {b : Blk} (h : b.cut.err = 0) : b.cut = b := by
  have hR := b.cut.rng h
  have h1 := hR.view; have h2 := hR.round; have h3 := hR.height; have h4 := hR.author
  simp only [Blk.cut] at h1 h2 h3 h4
  refine cut_same (by omega) (by omega) (by omega) (by omega) fun t ht => ?_
  have hm : (⟨min t.signer 1099511627776, min t.view 1099511627776, t.high⟩ : Tmo) ∈ b.cut.proof := List.mem_map.2 ⟨t, ht, rfl⟩
  have h5 := (hR.tmos _ hm).1
  have h6 := Blk.tmo_view h _ hm
  simp only [Blk.cut] at h5 h6
  omega
/-- What the document parses is what the program parses; neither or both are wrong. -/
theorem rparseBlk_eq (l : List UInt8) : (rparseBlk l).1 = (parseBlk l).1 ∧ ((rparseBlk l).2 = 0 ↔ (parseBlk l).2 = 0) := by
  have hc := rawBlk_cut (l, 0)
  generalize hs : rrawBlk (l, 0) = x at hc
  have e1 : takeBlk (l, 0) = if x.2.2 = 0 then (if x.1.cut.err = 0 then (x.1.cut, x.2) else (Blk.zero, rfail x.1.cut.err x.2)) else (Blk.zero, x.2) := by unfold takeBlk; rw [hc]
  have e2 : rtakeBlk (l, 0) = if x.2.2 = 0 then (if x.1.err = 0 then x else (Blk.zero, rfail x.1.err x.2)) else (Blk.zero, x.2) := by unfold rtakeBlk; rw [hs]
  have bad : ∀ e : Int, e ≠ 0 → rdone (rfail e x.2) ≠ 0 := fun e he h => (rfail_ne (s := x.2) he) (rdone_zero h).1
  unfold rparseBlk parseBlk
  rw [e1, e2]
  by_cases h0 : x.2.2 = 0
  · rw [if_pos h0, if_pos h0]
    by_cases h1 : x.1.err = 0
    · have hk := cut_ok h1
      rw [hk, if_pos h1]
      exact ⟨rfl, Iff.rfl⟩
    · have h2 : ¬ x.1.cut.err = 0 := fun h => h1 (by rw [cut_inv h] at h; exact h)
      rw [if_neg h1, if_neg h2, if_neg (bad _ h1), if_neg (bad _ h2)]
      exact ⟨rfl, iff_of_false (bad _ h1) (bad _ h2)⟩
  · rw [if_neg h0, if_neg h0]
    exact ⟨rfl, Iff.rfl⟩
end Go.Proofs.YtoccjilbfkhmoaaDoor
