/-
  A certificate is read.
-/
import Derived.Test.YtoccjilbfkhmoaaDoorRead2
set_option linter.unusedVariables false
set_option linter.unusedSimpArgs false
namespace Go.Proofs.YtoccjilbfkhmoaaDoor
open Go Go.Abs Go.Proofs
set_option maxRecDepth 100000
attribute [local irreducible] AEnd AW ACalls

/-! The error 'tail' is never inside. -/
theorem rfail_32 {x : Int} {s : St} (hx : x ≠ 32) (h : s.2 ≠ 32) : (rfail x s).2 ≠ 32 := by
  unfold rfail
  split
  · exact hx
  · exact h
theorem numGo_32 : ∀ (l : List UInt8) (i a : Nat) (x : Int), numGo i a l = .inl x → x ≠ 32
  | [], _, _, x, h => by cases h; decide
  | c :: l, i, a, x, h => by
    rw [numGo_cons] at h
    split at h
    · cases h; decide
    · split at h
      · cases h
      · exact numGo_32 l _ _ _ h
theorem rnum_32 {s : St} (h : s.2 ≠ 32) : (rnum s).2.2 ≠ 32 := by
  unfold rnum
  split
  · cases e : numGo 0 0 s.1 with
    | inl x => exact numGo_32 _ _ _ _ e
    | inr p => obtain ⟨n, r⟩ := p; exact (by decide : (0 : Int) ≠ 32)
  · exact h
theorem tnext_32 {m : Nat} {s : St} (h : s.2 ≠ 32) : (tnext m s).2.2 ≠ 32 := by
  unfold tnext
  split
  · exact rfail_32 (by decide) (rnum_32 h)
  · exact rnum_32 h
theorem rdone_bad {s : St} (h : s.2 ≠ 32) : (rdone s ≠ 0 ∧ rdone s ≠ 32) ↔ s.2 ≠ 0 := by
  unfold rdone
  split
  · rename_i h1; constructor
    · rintro ⟨_, h2⟩; exact absurd rfl h2
    · intro h2; exact absurd h1.1 h2
  · exact ⟨fun h1 => h1.1, fun h1 => ⟨h1, h⟩⟩
theorem tnext_le (m : Nat) (s : St) : (tnext m s).1 ≤ 4611686018427387904 := rnum_le s
theorem tnextc_ok {H0 H : AH} {id bx : Nat} {s : St} (h : Rd H0 H id s) (hb : H.get bx = some (.cells [.p (some (id, 0, 0))] 0 false 0)) (hne : bx ≠ id) (m : Nat) :
    ACalls Tryd.prog 77 [.i .i64 (m : Int), .p (some (bx, 0, 0))] H fun r H' => r = .i .i64 ((tnext m s).1 : Nat) ∧ Rd H0 H' id (tnext m s).2 ∧ Upd H H' [id] := by
  refine ACalls_body Tryd.func77 rfl rfl ?_
  refine AW_seq ?_
  refine AW_reg [0, 1] fun K hK => ?_ -- region 0
  simp [init_eq]
  refine hK _ _ ?_; clear hK K
  refine AW_seq ?_
  refine AW_reg [0, 1, 4] fun K hK => ?_ -- region 1
  simp [init_eq, aload, hb]
  refine ACalls.mono (rdnum_ok h) fun r H1 ⟨hr, h1, u1⟩ => ?_ -- (*hallmoot/wire.Reader).Num
  subst hr
  try simp
  refine hK _ _ ?_; clear hK K
  have hb1 := u1.keep (by simpa using hne) hb
  unfold tnext
  generalize rnum s = q at *
  obtain ⟨n, t⟩ := q
  simp only at h1 ⊢
  refine AW_cut (fun ρ G => ρ = ⟨13, [(4, .i .i64 (n : Int))]⟩ ∧ Rd H0 G id (if m < n then rfail 110 t else t) ∧ Upd H G [id]) ?_ ?_
  · refine AW_seq ?_
    refine AW_regto [1, 4, 9] ⟨13, [(1, .p (some (bx, 0, 0))), (4, .i .i64 (n : Int)), (9, .b (decide (m < n)))]⟩ H1 (fun K hk => ?_) ?_ -- region 2
    · by_cases k1 : m < n
      · have k2 : (m : Int) < n := by omega
        simpa [init_eq, k1, k2] using hk
      · have k2 : ¬ (m : Int) < n := by omega
        simpa [init_eq, k1, k2] using hk
    refine AW_cond' rfl rfl (fun hc => ?_) (fun hc => ?_)
    · have k1 : m < n := by simpa using hc
      rw [if_pos k1]
      refine AW_reg [4] fun K hK => ?_ -- region 3
      simp [init_eq, aload, hb1]
      refine ACalls.mono (fail_ok h1 110) fun r H2 ⟨h2, u2⟩ => ?_ -- (*hallmoot/wire.Reader).Fail
      try simp
      refine hK _ _ ?_; clear hK K
      exact rend ⟨_, by simp, rfl, h2, u1.trans u2 (fun j hj => .inl hj)⟩
    · have k1 : ¬ m < n := by simpa using hc
      rw [if_neg k1]
      refine AW_skip ?_
      exact rend ⟨_, by simp, rfl, h1, u1⟩
  · rintro ρ G ⟨rfl, h2, u2⟩
    refine AW_seq ?_
    refine AW_reg [3] fun K hK => ?_ -- region 4
    simp [init_eq]
    refine hK _ _ ?_; clear hK K
    refine AW_ret (end_ret rfl ?_)
    exact ⟨rfl, h2, u2⟩
/-- Under way: the reader, the box, the certificate so far. -/
structure TC (H0 H G : AH) (id : Nat) (s : St) (c : Cert) : Prop where
  rd : Rd H0 G id s
  bx : G.get H.next = some (.cells [.p (some (id, 0, 0))] 0 false 0)
  rs : G.get (H.next + 1) = some (.cells Cert.zero.cells 0 false 0)
  cc : G.get (H.next + 2) = some (.cells c.cells 0 false 0)
  nx : H.next + 3 ≤ G.next
  old : ∀ j, j < H.next → j ≠ id → G.get j = H.get j
theorem TC.next {H0 H G : AH} {id : Nat} {s : St} {c : Cert} (h : TC H0 H G id s c) (hid : id < H.next) (m : Nat) :
    ACalls Tryd.prog 77 [.i .i64 (m : Int), .p (some (H.next, 0, 0))] G fun r G' => r = .i .i64 ((tnext m s).1 : Nat) ∧ TC H0 H G' id (tnext m s).2 c := by
  refine (tnextc_ok h.rd h.bx (by omega) m).mono fun r G' ⟨h1, h2, u⟩ => ⟨h1, h2, u.keep (by simp; omega) h.bx, u.keep (by simp; omega) h.rs, u.keep (by simp; omega) h.cc, Nat.le_trans h.nx u.1, fun j hj hn => ?_⟩
  rw [u.2 j (by have := h.nx; omega) (by simpa using hn), h.old j hj hn]
theorem TC.set {H0 H G : AH} {id : Nat} {s : St} {c c' : Cert} {l : List V} (h : TC H0 H G id s c) (hid : id < H.next) (hl : l = c'.cells) : TC H0 H (G.set (H.next + 2) (.cells l 0 false 0)) id s c' := by
  subst hl
  have hn := h.nx
  refine ⟨h.rd.upd (Upd.set (F := [H.next + 2]) _ _ _ (by simp)) (fun j hj => by simp at hj; omega), ?_, ?_, ?_, hn, fun j hj hne => ?_⟩
  · rw [AH.get_set_ne (by omega)]; exact h.bx
  · rw [AH.get_set_ne (by omega)]; exact h.rs
  · simp [AH.get_set]; omega
  · rw [AH.get_set_ne (by omega)]; exact h.old j hj hne
def stA (s : St) : (Nat × Nat × Nat × Nat) × St := if (tnext 2 s).1 = 0 then ((0, 0, 0, 0), (tnext 2 s).2) else takeC1 (tnext 2 s).2
def cA (s : St) : Cert := ⟨(tnext 2 s).1, (stA s).1.1, (stA s).1.2.1, (stA s).1.2.2.1, 0, 0, BitVec.ofNat 32 (stA s).1.2.2.2, 0#32⟩
theorem u32_ofNat (n : Nat) : V.i .u32 (IntKind.u32.wrap (n : Int)) = u32 (BitVec.ofNat 32 n) := by
  unfold u32
  rw [IntKind.wrap_u32, BitVec.toNat_ofNat]
  congr 1
theorem stA_32 {s : St} (h : s.2 ≠ 32) : (stA s).2.2 ≠ 32 := by
  unfold stA
  split
  · exact tnext_32 h
  · exact tnext_32 (tnext_32 (tnext_32 (tnext_32 (tnext_32 h))))
theorem rawCert_32 {s : St} (h : s.2 ≠ 32) : (rawCert s).2.2 ≠ 32 := by
  have := stA_32 h
  unfold rawCert
  simp only
  split
  · exact tnext_32 (tnext_32 (tnext_32 this))
  · exact this
theorem takeCert_32 {s : St} (h : s.2 ≠ 32) : (takeCert s).2.2 ≠ 32 := by
  have := rawCert_32 h
  unfold takeCert
  simp only
  split
  · exact this
  · exact rfail_32 (by decide) this
theorem Cert.w0 (c : Cert) (x : Int) : splice c.cells 0 [.i .i64 x] = ({ c with kind := x }).cells := rfl
theorem Cert.w1 (c : Cert) (x : Int) : splice c.cells 1 [.i .i64 x] = ({ c with block := x }).cells := rfl
theorem Cert.w2 (c : Cert) (x : Int) : splice c.cells 2 [.i .i64 x] = ({ c with view := x }).cells := rfl
theorem Cert.w3 (c : Cert) (x : Int) : splice c.cells 3 [.i .i64 x] = ({ c with round := x }).cells := rfl
theorem Cert.w4 (c : Cert) (x : Int) : splice c.cells 4 [.i .i64 x] = ({ c with height := x }).cells := rfl
theorem Cert.w5 (c : Cert) (x : Int) : splice c.cells 5 [.i .i64 x] = ({ c with author := x }).cells := rfl
theorem Cert.w6 (c : Cert) (x : BitVec 32) : splice c.cells 6 [u32 x] = ({ c with signers := x }).cells := rfl
theorem Cert.w7 (c : Cert) (x : BitVec 32) : splice c.cells 7 [u32 x] = ({ c with coin := x }).cells := rfl
theorem certTake_ok {H0 H : AH} {id : Nat} {s : St} (h : Rd H0 H id s) (h32 : s.2 ≠ 32) : ACalls Tryd.prog 63 [.p (some (id, 0, 0))] H fun r H' => r = .agg (takeCert s).1.cells ∧ Rd H0 H' id (takeCert s).2 ∧ Upd H H' [id] := by
  have hid := h.mem
  refine ACalls_body Tryd.func63 rfl rfl ?_
  refine AW_seq ?_
  refine AW_reg [1, 2] fun K hK => ?_ -- region 0
  simp [init_eq, V.cells]
  refine hK _ _ ?_; clear hK K
  refine AW_seq ?_
  refine AW_reg [1, 2, 3] fun K hK => ?_ -- region 1
  simp [init_eq, V.cells]
  refine hK _ _ ?_; clear hK K
  obtain ⟨G, e1, g1, g2, g3, gn, go⟩ := H.boxed3 [.p (some (id, 0, 0))] Cert.zero.cells Cert.zero.cells
  have T0 : TC H0 H G id s Cert.zero := ⟨h.upd (F := []) ⟨by omega, fun j hj _ => go j hj⟩ (by simp), g1, g2, g3, by omega, fun j hj _ => go j hj⟩
  rw [show (((H.new (O.cells [V.p (some (id, 0, 0))] 0 false 0)).new (O.cells Cert.zero.cells 0 false 0)).new (O.cells Cert.zero.cells 0 false 0)) = G from e1]
  clear e1 g1 g2 g3 gn go
  refine AW_seq ?_
  refine AW_reg [1, 2, 3, 4] fun K hK => ?_ -- region 2
  simp [init_eq, evs]
  refine hK _ _ ?_; clear hK K
  refine AW_cut (fun ρ G => ρ = ⟨53, [(1, .p (some (H.next, 0, 0))), (2, .p (some (H.next + 1, 0, 0))), (3, .p (some (H.next + 2, 0, 0))), (4, .fn (.func 77) [] [.p (some (H.next, 0, 0))])]⟩ ∧ TC H0 H G id (stA s).2 (cA s)) ?_ ?_
  · refine AW_seq ?_
    refine AW_reg [1, 2, 3, 4] fun K hK => ?_ -- region 3
    simp [init_eq, AOp_callv (f := 77) (first := []) (caps := [.p (some (H.next, 0, 0))])]
    refine ACalls.mono (T0.next hid 2) fun r G1 ⟨hr, T1⟩ => ?_
    subst hr
    simp [afieldAddr, astore, T1.cc, V.cells]
    refine hK _ _ ?_; clear hK K
    have T2 := T1.set hid (c' := ⟨(tnext 2 s).1, 0, 0, 0, 0, 0, 0#32, 0#32⟩) (l := splice Cert.zero.cells 0 [.i .i64 ((tnext 2 s).1 : Nat)]) rfl
    generalize hk : (tnext 2 s).1 = k at *
    generalize G1.set (H.next + 2) _ = G2 at T2 ⊢
    refine AW_seq ?_
    refine AW_regto [1, 2, 3, 4, 11] ⟨53, [(1, .p (some (H.next, 0, 0))), (2, .p (some (H.next + 1, 0, 0))), (3, .p (some (H.next + 2, 0, 0))), (4, .fn (.func 77) [] [.p (some (H.next, 0, 0))]), (11, .b (decide (k ≠ 0)))]⟩ G2 (fun K hk => ?_) ?_ -- region 4
    · by_cases k1 : k = 0
      · simpa [init_eq, afieldAddr, aload, T2.cc, k1] using hk
      · have k2 : ¬ (k : Int) = 0 := by omega
        simpa [init_eq, afieldAddr, aload, T2.cc, k1, k2] using hk
    refine AW_cond' rfl rfl (fun hc => ?_) (fun hc => ?_)
    · have k1 : k ≠ 0 := by simpa using hc
      have eA : stA s = takeC1 (tnext 2 s).2 := by unfold stA; rw [hk, if_neg k1]
      refine AW_seq ?_
      refine AW_reg [1, 2, 3, 4] fun K hK => ?_ -- region 5
      simp [init_eq, AOp_callv (f := 77) (first := []) (caps := [.p (some (H.next, 0, 0))])]
      refine ACalls.mono (T2.next hid 2147483647) fun r G3 ⟨hr, T3⟩ => ?_
      subst hr
      refine ACalls.mono (T3.next hid 1048576) fun r G4 ⟨hr, T4⟩ => ?_
      subst hr
      refine ACalls.mono (T4.next hid 1073741824) fun r G5 ⟨hr, T5⟩ => ?_
      subst hr
      have hlt : H.next + 2 < G5.next := by have := T5.nx; omega
      simp [afieldAddr, astore, T5.cc, V.cells, AH.get_set, hlt, Cert.w1, Cert.w2, Cert.w3]
      refine hK _ _ ?_; clear hK K
      generalize ha : tnext 2147483647 (tnext 2 s).2 = a at *
      generalize hb : tnext 1048576 a.2 = b at *
      generalize hcc : tnext 1073741824 b.2 = c at *
      have T6 := ((T5.set hid (c' := ⟨k, a.1, 0, 0, 0, 0, 0#32, 0#32⟩) rfl).set hid (c' := ⟨k, a.1, b.1, 0, 0, 0, 0#32, 0#32⟩) rfl).set hid (c' := ⟨k, a.1, b.1, c.1, 0, 0, 0#32, 0#32⟩) rfl
      generalize AH.set _ (H.next + 2) _ = G6 at T6 ⊢
      refine rend ?_
      refine AW_reg [1, 2, 3, 4] fun K hK => ?_ -- region 6
      simp [init_eq, AOp_callv (f := 77) (first := []) (caps := [.p (some (H.next, 0, 0))])]
      refine ACalls.mono (T6.next hid 1023) fun r G7 ⟨hr, T7⟩ => ?_
      subst hr
      generalize hd : tnext 1023 c.2 = d at *
      have cv : ∀ G, aconvert Tryd.prog G 3 25 (.i .i64 (d.1 : Nat)) = some (u32 (BitVec.ofNat 32 d.1), G) := fun G => by
        rw [conv_int qthere_3 qint_25, u32_ofNat]
      have hlt7 : H.next + 2 < G7.next := by have := T7.nx; omega
      have cu : (u32 (BitVec.ofNat 32 d.1)).cells = some [u32 (BitVec.ofNat 32 d.1)] := rfl
      simp [cv, cu, afieldAddr, astore, T7.cc, AH.get_set, hlt7, Cert.w6]
      refine hK _ _ ?_; clear hK K
      have T8 := T7.set hid (c' := ⟨k, a.1, b.1, c.1, 0, 0, BitVec.ofNat 32 d.1, 0#32⟩) rfl
      refine rend ⟨_, by simp, rfl, ?_⟩
      have e1 : stA s = ((a.1, b.1, c.1, d.1), d.2) := by rw [eA]; simp only [takeC1, ha, hb, hcc, hd]
      have e2 : cA s = ⟨k, a.1, b.1, c.1, 0, 0, BitVec.ofNat 32 d.1, 0#32⟩ := by unfold cA; rw [e1, hk]
      rw [e1, e2]
      exact T8
    · have k1 : k = 0 := by simpa using hc
      have eA : stA s = ((0, 0, 0, 0), (tnext 2 s).2) := by unfold stA; rw [hk, if_pos k1]
      refine AW_skip ?_
      refine rend ⟨_, by simp, rfl, ?_⟩
      have : cA s = ⟨k, 0, 0, 0, 0, 0, 0#32, 0#32⟩ := by unfold cA; rw [eA, hk]; rfl
      rw [this, eA]
      exact T2
  · rintro ρ G1 ⟨rfl, T1⟩
    clear T0
    have hr : rawCert s = (⟨(cA s).kind, (cA s).block, (cA s).view, (cA s).round, (if (cA s).kind = 2 then (takeC2 (stA s).2).1.1 else 0), (if (cA s).kind = 2 then (takeC2 (stA s).2).1.2.1 else 0), (cA s).signers, (if (cA s).kind = 2 then BitVec.ofNat 32 (takeC2 (stA s).2).1.2.2 else 0#32)⟩, (if (cA s).kind = 2 then (takeC2 (stA s).2).2 else (stA s).2)) := by
      have e : ((cA s).kind = 2) ↔ (tnext 2 s).1 = 2 := by unfold cA; simp; omega
      unfold rawCert
      by_cases k2 : (tnext 2 s).1 = 2
      · simp only [if_pos (e.2 k2), if_pos k2]; rfl
      · simp only [if_neg (fun h => k2 (e.1 h)), if_neg k2]; rfl
    have hz : (cA s).height = 0 ∧ (cA s).author = 0 ∧ (cA s).coin = 0#32 := ⟨rfl, rfl, rfl⟩
    generalize cA s = c at *
    generalize stA s = q at *
    obtain ⟨z1, z2, z3⟩ := hz
    refine AW_cut (fun ρ G => ρ = ⟨53, [(1, .p (some (H.next, 0, 0))), (2, .p (some (H.next + 1, 0, 0))), (3, .p (some (H.next + 2, 0, 0)))]⟩ ∧ TC H0 H G id (rawCert s).2 (rawCert s).1) ?_ ?_
    · refine AW_seq ?_
      refine AW_regto [1, 2, 3, 4, 27] ⟨53, [(1, .p (some (H.next, 0, 0))), (2, .p (some (H.next + 1, 0, 0))), (3, .p (some (H.next + 2, 0, 0))), (4, .fn (.func 77) [] [.p (some (H.next, 0, 0))]), (27, .b (decide (c.kind = 2)))]⟩ G1 (fun K hk => ?_) ?_ -- region 7
      · simpa [init_eq, afieldAddr, aload, T1.cc] using hk
      refine AW_cond' rfl rfl (fun hc => ?_) (fun hc => ?_)
      · have k1 : c.kind = 2 := by simpa using hc
        refine AW_seq ?_
        refine AW_reg [1, 2, 3, 4] fun K hK => ?_ -- region 8
        simp [init_eq, AOp_callv (f := 77) (first := []) (caps := [.p (some (H.next, 0, 0))])]
        refine ACalls.mono (T1.next hid 3) fun r G2 ⟨hr, T2⟩ => ?_
        subst hr
        refine ACalls.mono (T2.next hid 9) fun r G3 ⟨hr, T3⟩ => ?_
        subst hr
        have hlt : H.next + 2 < G3.next := by have := T3.nx; omega
        simp [afieldAddr, astore, T3.cc, V.cells, AH.get_set, hlt, Cert.w4, Cert.w5]
        refine hK _ _ ?_; clear hK K
        generalize ha : tnext 3 q.2 = a at *
        generalize hb : tnext 9 a.2 = b at *
        have T4 := (T3.set hid (c' := { c with height := a.1 }) rfl).set hid (c' := { c with height := a.1, author := b.1 }) rfl
        generalize AH.set _ (H.next + 2) _ = G4 at T4 ⊢
        refine rend ?_
        refine AW_reg [1, 2, 3] fun K hK => ?_ -- region 9
        simp [init_eq, AOp_callv (f := 77) (first := []) (caps := [.p (some (H.next, 0, 0))])]
        refine ACalls.mono (T4.next hid 1023) fun r G7 ⟨hr, T7⟩ => ?_
        subst hr
        generalize hd : tnext 1023 b.2 = d at *
        have cv : ∀ G, aconvert Tryd.prog G 3 25 (.i .i64 (d.1 : Nat)) = some (u32 (BitVec.ofNat 32 d.1), G) := fun G => by
          rw [conv_int qthere_3 qint_25, u32_ofNat]
        have hlt7 : H.next + 2 < G7.next := by have := T7.nx; omega
        have cu : (u32 (BitVec.ofNat 32 d.1)).cells = some [u32 (BitVec.ofNat 32 d.1)] := rfl
        simp [cv, cu, afieldAddr, astore, T7.cc, AH.get_set, hlt7, Cert.w7]
        refine hK _ _ ?_; clear hK K
        have T8 := T7.set hid (c' := { c with height := a.1, author := b.1, coin := BitVec.ofNat 32 d.1 }) rfl
        refine rend ⟨_, by simp, rfl, ?_⟩
        have e1 : takeC2 q.2 = ((a.1, b.1, d.1), d.2) := by simp only [takeC2, ha, hb, hd]
        rw [hr]
        simp only [if_pos k1, e1]
        exact T8
      · have k1 : ¬ c.kind = 2 := by simpa using hc
        refine AW_skip ?_
        refine rend ⟨_, by simp, rfl, ?_⟩
        rw [hr]
        simp only [if_neg k1]
        have e : c = ⟨c.kind, c.block, c.view, c.round, 0, 0, c.signers, 0#32⟩ := by
          obtain ⟨x0, x1, x2, x3, x4, x5, x6, x7⟩ := c
          simp only at z1 z2 z3
          simp only [z1, z2, z3]
        rw [← e]
        exact T1
    · rintro ρ G2 ⟨rfl, T2⟩
      have h33 := rawCert_32 h32
      have et : takeCert s = (if (if (rawCert s).1.ok = true then (rawCert s).2 else rfail 110 (rawCert s).2).2 = 0 then (rawCert s).1 else Cert.zero, if (rawCert s).1.ok = true then (rawCert s).2 else rfail 110 (rawCert s).2) := rfl
      have h34 := takeCert_32 h32
      clear T1 hr
      generalize rawCert s = y at *
      obtain ⟨c', t⟩ := y
      simp only at T2 et h33
      refine AW_cut (fun ρ G => ρ = ⟨53, [(1, .p (some (H.next, 0, 0))), (2, .p (some (H.next + 1, 0, 0))), (3, .p (some (H.next + 2, 0, 0)))]⟩ ∧ TC H0 H G id (if c'.ok = true then t else rfail 110 t) c') ?_ ?_
      · refine AW_seq ?_
        refine AW_regto [1, 2, 3, 40] ⟨53, [(1, .p (some (H.next, 0, 0))), (2, .p (some (H.next + 1, 0, 0))), (3, .p (some (H.next + 2, 0, 0))), (40, .b (!c'.ok))]⟩ G2 (fun K hk => ?_) ?_ -- region 10
        · simp [init_eq, aload, T2.cc, take_cells]
          refine ACalls.mono (check_ok ..) fun r H' ⟨hr, e⟩ => ?_ -- hallmoot/cert.Check
          subst hr e
          cases k1 : c'.ok
          · simpa [Cert.check, k1] using hk
          · simpa [Cert.check, k1] using hk
        refine AW_cond' rfl rfl (fun hc => ?_) (fun hc => ?_)
        · have k1 : c'.ok = false := by simpa using hc
          refine AW_reg [1, 2, 3] fun K hK => ?_ -- region 11
          simp [init_eq, aload, T2.bx]
          refine ACalls.mono (fail_ok T2.rd 110) fun r G3 ⟨h3, u⟩ => ?_ -- (*hallmoot/wire.Reader).Fail
          try simp
          refine hK _ _ ?_; clear hK K
          refine rend ⟨_, by simp, rfl, ?_⟩
          simp only [k1]
          refine ⟨h3, u.keep (by simp; omega) T2.bx, u.keep (by simp; omega) T2.rs, u.keep (by simp; omega) T2.cc, Nat.le_trans T2.nx u.1, fun j hj hn => ?_⟩
          rw [u.2 j (by have := T2.nx; omega) (by simpa using hn), T2.old j hj hn]
        · have k1 : c'.ok = true := by simpa using hc
          refine AW_skip ?_
          refine rend ⟨_, by simp, rfl, ?_⟩
          simp only [k1, if_true]
          exact T2
      · rintro ρ G3 ⟨rfl, T3⟩
        rw [et] at h34
        simp only at h34
        rw [et]
        generalize (if c'.ok = true then t else rfail 110 t) = w at *
        have hb := rdone_bad h34
        refine AW_seq ?_
        refine AW_seq ?_
        refine AW_regto [2, 3, 50] ⟨53, [(2, .p (some (H.next + 1, 0, 0))), (3, .p (some (H.next + 2, 0, 0))), (50, .b (decide (w.2 ≠ 0)))]⟩ G3 (fun K hk => ?_) ?_ -- region 12
        · simp [init_eq, aload, T3.bx]
          refine ACalls.mono (done_ok T3.rd) fun r H' ⟨hr, e⟩ => ?_ -- (*hallmoot/wire.Reader).Done
          subst hr e
          by_cases k1 : rdone w = 0
          · have k2 : w.2 = 0 := Classical.byContradiction fun hn => (hb.2 hn).1 k1
            simpa [k1, k2] using hk
          · simp [k1, aload, T3.bx]
            refine ACalls.mono (done_ok T3.rd) fun r H2 ⟨hr, e⟩ => ?_ -- (*hallmoot/wire.Reader).Done
            subst hr e
            by_cases k2 : rdone w = 32
            · have k3 : w.2 = 0 := Classical.byContradiction fun hn => (hb.2 hn).2 k2
              simpa [k1, k2, k3] using hk
            · have k3 : ¬ w.2 = 0 := hb.1 ⟨k1, k2⟩
              simpa [k1, k2, k3] using hk
        have hu : Upd H G3 [id] := ⟨by have := T3.nx; omega, fun j hj hn => T3.old j hj (by simpa using hn)⟩
        have hlt1 : H.next + 1 < G3.next := by have := T3.nx; omega
        have fin : ∀ l, Rd H0 (G3.set (H.next + 1) (.cells l 0 false 0)) id w ∧ Upd H (G3.set (H.next + 1) (.cells l 0 false 0)) [id] := fun l =>
          ⟨T3.rd.upd (Upd.set (F := [H.next + 1]) _ _ _ (by simp)) (fun j hj => by simp at hj; omega), hu.trans (Upd.set (F := [H.next + 1]) _ _ _ (by simp)) (fun j hj => .inr (by simp at hj; omega))⟩
        refine AW_cond' rfl rfl (fun hc => ?_) (fun hc => ?_)
        · have k1 : ¬ w.2 = 0 := by simpa using hc
          rw [if_neg k1]
          refine AW_seq ?_
          refine AW_reg [2] fun K hK => ?_ -- region 13
          have hab : abuild Tryd.prog 27 [] = some (.agg Cert.zero.cells) := by simp [abuild, afill]
          simp [init_eq, hab, astore, T3.rs, V.cells]
          refine hK _ _ ?_; clear hK K
          refine AW_ret (end_ret (ares_cell (v := .agg Cert.zero.cells) ?_) ⟨rfl, fin _⟩)
          simp [aload, AH.get_set, hlt1]
          rw [splice_all (c := Cert.zero.cells) (l := Cert.zero.cells) rfl]; simp [take_cells]
        · have k1 : w.2 = 0 := by simpa using hc
          rw [if_pos k1]
          refine AW_skip ?_
          refine AW_seq ?_
          refine AW_reg [2] fun K hK => ?_ -- region 14
          simp [init_eq, aload, T3.cc, take_cells, astore, T3.rs, V.cells]
          refine hK _ _ ?_; clear hK K
          refine AW_ret (end_ret (ares_cell (v := .agg c'.cells) ?_) ⟨rfl, fin _⟩)
          simp [aload, AH.get_set, hlt1]
          rw [splice_all (c := Cert.zero.cells) (l := c'.cells) rfl]; simp [take_cells]
end Go.Proofs.YtoccjilbfkhmoaaDoor
