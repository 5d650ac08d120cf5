/-
  Package safe: the bytes of a record.
-/
import Derived.Test.YtoccjilbfkhmoaaGreatDoorSafe2
import Derived.Test.YtoccjilbfkhmoaaGreatDoorBytes3
set_option linter.unusedVariables false
set_option linter.unusedSimpArgs false
namespace Go.Proofs.YtoccjilbfkhmoaaGreatDoor
open Go Go.Abs Go.Proofs
set_option maxRecDepth 100000
attribute [local irreducible] AEnd AW ACalls

/-- The bytes under way, and cells that stay. -/
def Ow (B G : AH) (box : Nat) (ps : List (Nat × O)) (l : List UInt8) : Prop := ∃ v F, Out B G box v F l ∧ ∀ p ∈ ps, G.get p.1 = some p.2 ∧ p.1 ≠ box ∧ p.1 ∉ F
theorem Ow.keep {B G G' : AH} {box : Nat} {ps : List (Nat × O)} {l : List UInt8} (h : Ow B G box ps l) (u : Upd G G' []) : Ow B G' box ps l := by
  obtain ⟨v, F, h1, h2⟩ := h
  exact ⟨v, F, h1.keep u, fun p hp => ⟨u.keep (by simp) (h2 p hp).1, (h2 p hp).2⟩⟩
theorem Ow.more {B G G' : AH} {box : Nat} {ps : List (Nat × O)} {l : List UInt8} (h : Ow B G box ps l) (u : Upd G G' []) {k : Nat} {o : O} (hk : G'.get k = some o) (hn : G.next ≤ k) : Ow B G' box ((k, o) :: ps) l := by
  obtain ⟨v, F, h1, h2⟩ := h
  refine ⟨v, F, h1.keep u, fun p hp => ?_⟩
  rcases List.mem_cons.1 hp with rfl | hp
  · refine ⟨hk, ?_, fun hj => ?_⟩
    · have := AH.get_lt h1.get; simp only; omega
    · have := h1.own.lt _ hj; simp only at this; omega
  · exact ⟨u.keep (by simp) (h2 p hp).1, (h2 p hp).2⟩
theorem Ow.old {B G : AH} {box : Nat} {ps : List (Nat × O)} {l : List UInt8} (h : Ow B G box ps l) : Upd B G [] := by obtain ⟨v, F, h1, h2⟩ := h; exact h1.upd
theorem Ow.at {B G : AH} {box : Nat} {ps : List (Nat × O)} {l : List UInt8} (h : Ow B G box ps l) {p : Nat × O} (hp : p ∈ ps) : G.get p.1 = some p.2 := by obtain ⟨v, F, h1, h2⟩ := h; exact (h2 p hp).1
theorem Ow.less {B G : AH} {box : Nat} {ps qs : List (Nat × O)} {l : List UInt8} (h : Ow B G box ps l) (hq : ∀ p ∈ qs, p ∈ ps) : Ow B G box qs l := by obtain ⟨v, F, h1, h2⟩ := h; exact ⟨v, F, h1, fun p hp => h2 p (hq p hp)⟩
theorem sadd_ok {B G : AH} {box : Nat} {ps : List (Nat × O)} {l m : List UInt8} {x e : V} (h : Ow B G box ps l) (hx : Sl G x 1 (bytesV m)) (hr : l.length + m.length ≤ 100000000) :
    ACalls Tryz.prog 21 [x, e, .p (some (box, 0, 0))] G fun r G' => r = .tup [] ∧ Ow B G' box ps (l ++ m) ∧ G.next ≤ G'.next ∧ ∀ j, j < G.next → (∃ o, (j, o) ∈ ps) → G'.get j = G.get j := by
  obtain ⟨v, F, h, hps⟩ := h
  have hb := AH.get_lt h.get
  obtain ⟨v', H2, F', b1, b2, b3, b4⟩ := h.own.appendB app_bytes (sl_asource hx) (by omega)
  have hg2 : H2.get box = some (.cells [v] 0 false 0) := b3.keep h.nin h.get
  refine ACalls_body Tryz.func21 rfl rfl ?_
  refine AW_reg [] fun K hK => ?_ -- region 0
  have hst : astore Tryz.prog H2 29 (.p (some (box, 0, 0))) v' = some (H2.set box (.cells [v'] 0 false 0)) := by
    simp [astore, hg2, b2.cells, splice]
  simp [init_eq, aload, h.get, b1, hst]
  refine hK _ _ ?_; clear hK K
  have hn : box ∉ F' := fun hj => by
    rcases b4 box hj with h1 | h1
    · exact h.nin h1
    · omega
  have hu : Upd H2 (H2.set box (.cells [v'] 0 false 0)) [box] := Upd.set _ _ _ (by simp)
  have hu2 : Upd G (H2.set box (.cells [v'] 0 false 0)) (box :: F) := (b3.mono (fun j hj => List.mem_cons_of_mem _ hj)).trans hu (by simp)
  refine end_normal rfl ⟨rfl, ⟨v', F', ⟨?_, b2.upd hu (fun j hj he => hn (by simp at he; exact he ▸ hj)), hn, h.lo, fun j hj => ?_, h.upd.trans hu2 (fun j hj => ?_)⟩, fun p hp => ⟨?_, (hps p hp).2.1, fun hj => ?_⟩⟩, hu2.1, ?_⟩
  · rw [AH.get_set_same (by have := b3.1; omega)]
  · rcases b4 j hj with h1 | h1
    · exact h.loF j h1
    · have := h.upd.1; omega
  · rcases List.mem_cons.1 hj with rfl | h1
    · exact .inr h.lo
    · exact .inr (h.loF j h1)
  · exact hu2.keep (by simp [(hps p hp).2.1, (hps p hp).2.2]) (hps p hp).1
  · rcases b4 _ hj with h1 | h1
    · exact (hps p hp).2.2 h1
    · have := AH.get_lt (hps p hp).1; omega
  · rintro j hj ⟨o, ho⟩
    exact hu2.2 j hj (by simp [(hps _ ho).2.1, (hps _ ho).2.2])
theorem one_num (G : AH) (n : Nat) : abuildSlice Tryz.prog G 111 1 [(0, .i .i64 (n : Int))] = some (.sl (some (G.next, 0, 0)) 1 false, G.new (.cells [.i .i64 (n : Int)] 0 false 1)) ∧ RS (G.new (.cells [.i .i64 (n : Int)] 0 false 1)) (.sl (some (G.next, 0, 0)) 1 false) 1 ([n].map natC) ∧ Upd G (G.new (.cells [.i .i64 (n : Int)] 0 false 1)) [] :=
  ⟨by simp [abuildSlice, afill, V.cells, splice_zero], ⟨by simp [natC], .inr ⟨G.next, 0, 0, _, _, _, rfl, AH.get_new_same .., .inr rfl, by simp, by simp [natC]⟩⟩, Upd.new ..⟩
theorem two_nums (G : AH) (n k : Nat) : abuildSlice Tryz.prog G 111 2 [(0, .i .i64 (n : Int)), (1, .i .i64 (k : Int))] = some (.sl (some (G.next, 0, 0)) 2 false, G.new (.cells [.i .i64 (n : Int), .i .i64 (k : Int)] 0 false 1)) ∧ RS (G.new (.cells [.i .i64 (n : Int), .i .i64 (k : Int)] 0 false 1)) (.sl (some (G.next, 0, 0)) 2 false) 1 ([n, k].map natC) ∧ Upd G (G.new (.cells [.i .i64 (n : Int), .i .i64 (k : Int)] 0 false 1)) [] :=
  ⟨by simp [abuildSlice, afill, V.cells, splice_zero, splice_succ], ⟨by simp [natC], .inr ⟨G.next, 0, 0, _, _, _, rfl, AH.get_new_same .., .inr rfl, by simp, by simp [natC]⟩⟩, Upd.new ..⟩

/-- What a record that may be is made of. -/
structure SRec.Rng (r : SRec) : Prop where
  kind : 1 ≤ r.kind ∧ r.kind ≤ 10
  certs : kclass r.kind = .cc → r.cert.ok = true ∧ r.parent.ok = true
  cert : kclass r.kind = .c → r.cert.ok = true
  sa : kclass r.kind = .sa → 0 ≤ r.author ∧ r.author ≤ 9
  nb : kclass r.kind = .nb → (0 ≤ r.count ∧ r.count ≤ 2147483647) ∧ 0 ≤ r.block ∧ r.block ≤ 2147483647
theorem SRec.rng {r : SRec} (h : r.form = 0) : r.Rng := by
  obtain ⟨hb, ho⟩ := form_only h
  have hk : ¬ (r.kind < 1 ∨ 10 < r.kind) := fun k => hb (kclass_bad k)
  unfold SRec.form at h
  rw [if_neg (by simp [hb, ← ho])] at h
  refine ⟨by omega, fun hc => ?_, fun hc => ?_, fun hc => ?_, fun hc => ?_⟩
  · rw [hc] at h
    simp only at h
    have h1 : r.certified = true := by
      cases h1 : r.certified
      · simp [h1] at h
      · rfl
    have hkk : r.kind = 1 ∨ r.kind = 4 := by
      rcases kinds r.kind with k | k | k | k | k | k | k | k | k | k | k
      · exact .inl k
      · rw [k] at hc; cases hc
      · rw [k] at hc; cases hc
      · exact .inr k
      all_goals first | (rw [k] at hc; cases hc) | exact absurd k hk
    unfold SRec.certified at h1
    rcases hkk with k | k <;> rw [k] at h1 <;> simp at h1
    · exact ⟨h1.1, h1.2.2⟩
    · exact ⟨h1.1, h1.2.2⟩
  · rw [hc] at h
    simp only at h
    have h1 : r.certified = true := by
      cases h1 : r.certified
      · simp [h1] at h
      · rfl
    unfold SRec.certified at h1
    exact (Bool.and_eq_true _ _ ▸ h1).1
  · rw [hc] at h
    simp only at h
    have h1 : r.setBad = false := by
      cases h1 : r.setBad
      · rfl
      · simp [h1] at h
    simp [SRec.setBad] at h1
    omega
  · rw [hc] at h
    simp only at h
    have h1 : r.numBad = false := by
      cases h1 : r.numBad
      · rfl
      · simp [h1] at h
    simp [SRec.numBad] at h1
    omega
def scfn (box : Nat) : V := .fn (.func 21) [] [.p (some (box, 0, 0))]
theorem Ow.fresh {H B G : AH} {box : Nat} {ps : List (Nat × O)} {l : List UInt8} (h : Ow B G box ps l) (hu : Upd H B []) : ∃ w, aload Tryz.prog G 29 (.p (some (box, 0, 0))) = some w ∧ Fresh H G w l := by
  obtain ⟨v, F, h1, h2⟩ := h
  refine ⟨v, by simp [aload, h1.get], F, h1.own, hu.trans h1.upd (by simp), fun j hj => ?_⟩
  have := h1.loF j hj
  have := hu.1
  omega
set_option maxHeartbeats 8000000 in
theorem sbytes_ok (H : AH) (r : SRec) (hl : r.text.length ≤ 65536) : ACalls Tryz.prog 7 [.agg r.cells] H fun v H' => ∃ w, v = .tup [w, .i .i64 r.form] ∧ Upd H H' [] ∧ (if r.form = 0 then Fresh H H' w r.bytes else w = .sl none 0 false) := by
  refine ACalls_body Tryz.func7 rfl rfl ?_
  refine AW_seq ?_
  refine AW_reg [1] fun K hK => ?_ -- region 0
  simp [init_eq, V.cells]
  refine hK _ _ ?_; clear hK K
  obtain ⟨G, e1, hp, gn, go⟩ := H.boxed r.cells
  rw [e1]
  have uG : Upd H G [] := ⟨by omega, fun j hj _ => go j hj⟩
  clear e1 go
  refine AW_seq ?_
  refine AW_seq ?_
  refine AW_reg [1, 4] fun K hK => ?_ -- region 1
  simp [init_eq, aload, hp, SRec.take]
  refine ACalls.mono (form_ok G r (by omega)) fun v H' ⟨hr, e⟩ => ?_ -- safe.form
  subst hr e
  try simp
  refine hK _ _ ?_; clear hK K
  refine AW_seq ?_
  refine AW_reg [1, 4, 11] fun K hK => ?_ -- region 2
  simp [init_eq]
  refine hK _ _ ?_; clear hK K
  refine AW_cond' rfl rfl (fun hc => ?_) (fun hc => ?_)
  · have h0 : ¬ r.form = 0 := by simpa using hc
    repeat refine AW_seq ?_
    refine AW_reg [2, 3] fun K hK => ?_ -- region 3
    simp [init_eq]
    refine hK _ _ ?_; clear hK K
    exact AW_ret (end_ret rfl ⟨.sl none 0 false, rfl, uG, by rw [if_neg h0]⟩)
  have h0 : r.form = 0 := by simpa using hc
  rw [h0]
  have hR := SRec.rng h0
  have hkr := hR.kind
  have lk := numB_len9 (n := r.kind.toNat) (by omega)
  refine AW_skip ?_
  refine AW_seq ?_
  obtain ⟨q1, q2, q3⟩ := one_num H' r.kind.toNat
  rw [Int.toNat_of_nonneg (by omega)] at q1 q2 q3
  generalize hG2 : H'.new (.cells [.i .i64 r.kind] 0 false 1) = H2 at q1 q2 q3
  clear hG2
  refine AW_reg [1, 5] fun K hK => ?_ -- region 4
  simp [init_eq, afieldAddr, rec_at hp, q1]
  refine ACalls.mono (nums_ok H2 q2 (by intro n hn; simp at hn; omega) (by simp)) fun v H3 h => ?_ -- hallmoot/wire.Nums
  obtain ⟨v3, rfl, F3, o3, u3, l3⟩ := h
  have hz : V.cells (.sl none 0 false) = some [.sl none 0 false] := rfl
  simp [astore, AH.get_new, hz, o3.cells, splice_zero]
  refine hK _ _ ?_; clear hK K
  have O4 : Ow H' ((H3.new (.cells [.sl none 0 false] 0 false 0)).set H3.next (.cells [v3] 0 false 0)) H3.next [] (numB r.kind.toNat) := by
    have hu : Upd H3 ((H3.new (.cells [.sl none 0 false] 0 false 0)).set H3.next (.cells [v3] 0 false 0)) [] := ⟨by simp, fun j hj _ => by simp [AH.get_set, AH.get_new, show j ≠ H3.next by omega]⟩
    refine ⟨v3, F3, ⟨by simp [AH.get_set], by simpa using o3.upd hu (by simp), fun hj => ?_, by have := u3.1; have := q3.1; omega, fun j hj => by have := l3 j hj; have := q3.1; omega, (q3.trans u3 (by simp)).trans hu (by simp)⟩, by simp⟩
    have := o3.lt _ hj; omega
  generalize (H3.new (.cells [.sl none 0 false] 0 false 0)).set H3.next (.cells [v3] 0 false 0) = G4 at O4 ⊢
  generalize H3.next = box at O4 ⊢
  clear o3 u3 l3 H3 q1 q2 q3 H2 v3 F3
  refine AW_seq ?_
  refine AW_reg [1, 5, 7] fun K hK => ?_ -- region 5
  simp [init_eq, evs]
  refine hK _ _ ?_; clear hK K
  have hpo : ∀ {G : AH} {ps : List (Nat × O)} {l : List UInt8}, Ow H' G box ps l → G.get H.next = some (.cells r.cells 0 false 0) := fun h => h.old.keep (by simp) hp
  have p4 := hpo O4
  have fa : ∀ k o n b, qfield Tryz.prog 33 k = some (o, n + 1, b) → afieldAddr Tryz.prog 33 k (.p (some (H.next, 0, 0))) = some (.p (some (H.next, 0, o))) := fun k o n b hq => by simp [afieldAddr, hq]
  have f0 := fa 0 0 0 false (by simp)
  have f1 := fa 1 1 7 true (by simp)
  have f2 := fa 2 9 7 true (by simp)
  have f3 := fa 3 17 0 false (by simp)
  have f4 := fa 4 18 0 false (by simp)
  have f5 := fa 5 19 0 false (by simp)
  have f6 := fa 6 20 0 false (by simp)
  have f7 := fa 7 21 0 false (by simp)
  clear fa
  have fin : ∀ (w : V) (X : AH) (l : List UInt8), l = r.bytes → Fresh H X w l → ∃ w', (V.tup [w, .i .i64 0] : V) = .tup [w', .i .i64 0] ∧ Upd H X [] ∧ (if (0 : Int) = 0 then Fresh H X w' r.bytes else w' = .sl none 0 false) := fun w X l hl hf => by
    subst hl
    exact ⟨w, rfl, by obtain ⟨_, _, hu, _⟩ := hf; exact hu, by rw [if_pos rfl]; exact hf⟩
  -- the end, behind what was added
  refine AW_cut (fun ρ G => ρ = ⟨84, [(5, .p (some (box, 0, 0)))]⟩ ∧ ∃ ps, Ow H' G box ps r.bytes) ?_ ?_
  rotate_left
  · rintro ρ X ⟨rfl, ps, O⟩
    obtain ⟨w, hw, hf⟩ := O.fresh uG
    refine AW_seq ?_
    refine AW_reg [2, 3] fun K hK => ?_ -- region 20
    simp [init_eq, hw]
    refine hK _ _ ?_; clear hK K
    exact AW_ret (end_ret rfl (fin _ _ _ rfl hf))
  refine AW_seq ?_
  refine AW_reg [1, 5, 7, 22] fun K hK => ?_ -- region 6
  simp [init_eq, f0, rec_at p4]
  refine hK _ _ ?_; clear hK K
  have hsx : ∀ {G : AH} {w : V} {l : List UInt8} {F : List Nat}, Own G w 1 (bytesV l) F → Sl G w 1 (bytesV l) := fun h => h.sl
  rcases kinds r.kind with hk | hk | hk | hk | hk | hk | hk | hk | hk | hk | hk
  case inl | inr.inr.inr.inl =>
    all_goals
      have hkc : kclass r.kind = .cc := by rw [hk]; rfl
      have hby : r.bytes = numB r.kind.toNat ++ r.cert.bytes ++ r.parent.bytes := by simp [SRec.bytes, hkc, natB]
      obtain ⟨c1, c2⟩ := hR.certs hkc
      have lc1 := Cert.bytes_len (Cert.rng c1)
      have lc2 := Cert.bytes_len (Cert.rng c2)
      repeat (first
        | refine AW_seq ?_
        | refine AW_block ?_
        | refine AW_skip ?_
        | refine AW_condT rfl ?_
        | refine AW_condF rfl ?_
        | (refine AW_reg [1, 5, 7, 22, 23, 40, 49, 62, 74] fun K hK => ?_
           simp [init_eq, hk]
           refine hK _ _ ?_; clear hK K))
      refine AW_reg [1, 5, 7] fun K hK => ?_ -- region 9
      simp [init_eq, f1, rec_at p4]
      refine ACalls.mono (certBytes_ok _ _ c1) fun v G5 h => ?_ -- hallmoot/cert.Bytes
      obtain ⟨w5, rfl, F5, o5, u5, l5⟩ := h
      have O5 := O4.keep u5
      simp [AOp_callv (f := 21) (first := []) (caps := [.p (some (box, 0, 0))])]
      refine ACalls.mono (sadd_ok O5 o5.sl (by omega)) fun v G6 ⟨hr, O6, _, _⟩ => ?_ -- hallmoot/safe.Bytes$1
      subst hr
      try simp
      refine hK _ _ ?_; clear hK K
      have p6 := hpo O6
      refine AW_reg [1, 5, 7] fun K hK => ?_ -- region 10
      simp [init_eq, f2, rec_at p6]
      refine ACalls.mono (certBytes_ok _ _ c2) fun v G7 h => ?_ -- hallmoot/cert.Bytes
      obtain ⟨w7, rfl, F7, o7, u7, l7⟩ := h
      have O7 := O6.keep u7
      simp [AOp_callv (f := 21) (first := []) (caps := [.p (some (box, 0, 0))])]
      refine ACalls.mono (sadd_ok O7 o7.sl (by simp only [List.length_append]; omega)) fun v G8 ⟨hr, O8, _, _⟩ => ?_ -- hallmoot/safe.Bytes$1
      subst hr
      try simp
      refine hK _ _ ?_; clear hK K
      refine bend (rend ⟨_, by simp, rfl, [], ?_⟩)
      rw [hby]; exact O8
  case inr.inr.inr.inr.inl =>
    have hkc : kclass r.kind = .c := by rw [hk]; rfl
    have hby : r.bytes = numB r.kind.toNat ++ r.cert.bytes := by simp [SRec.bytes, hkc, natB]
    have c1 := hR.cert hkc
    have lc1 := Cert.bytes_len (Cert.rng c1)
    repeat (first
      | refine AW_seq ?_
      | refine AW_block ?_
      | refine AW_skip ?_
      | refine AW_condT rfl ?_
      | refine AW_condF rfl ?_
      | (refine AW_reg [1, 5, 7, 22, 23, 40, 49, 62, 74] fun K hK => ?_
         simp [init_eq, hk]
         refine hK _ _ ?_; clear hK K))
    refine AW_reg [1, 5, 7] fun K hK => ?_ -- region 12
    simp [init_eq, f1, rec_at p4]
    refine ACalls.mono (certBytes_ok _ _ c1) fun v G5 h => ?_ -- hallmoot/cert.Bytes
    obtain ⟨w5, rfl, F5, o5, u5, l5⟩ := h
    have O5 := O4.keep u5
    simp [AOp_callv (f := 21) (first := []) (caps := [.p (some (box, 0, 0))])]
    refine ACalls.mono (sadd_ok O5 o5.sl (by omega)) fun v G6 ⟨hr, O6, _, _⟩ => ?_ -- hallmoot/safe.Bytes$1
    subst hr
    try simp
    refine hK _ _ ?_; clear hK K
    refine bend (rend ⟨_, by simp, rfl, [], ?_⟩)
    rw [hby]; exact O6
  case inr.inr.inr.inr.inr.inr.inl =>
    have hkc : kclass r.kind = .sa := by rw [hk]; rfl
    have hby : r.bytes = numB r.kind.toNat ++ (numB r.set.toNat ++ numB r.author.toNat) := by simp [SRec.bytes, hkc, natB]
    have c1 := hR.sa hkc
    have hsl := r.set.isLt
    have l1 := numB_len9 (n := r.set.toNat) (by omega)
    have l2 := numB_len9 (n := r.author.toNat) (by omega)
    have cv : ∀ G, aconvert Tryz.prog G 22 2 (u32 r.set) = some (.i .i64 r.set.toNat, G) := fun G => by
      unfold u32
      rw [conv_int qthere_22 qint_2, wrap_id (by omega) (by omega)]
    repeat (first
      | refine AW_seq ?_
      | refine AW_block ?_
      | refine AW_skip ?_
      | refine AW_condT rfl ?_
      | refine AW_condF rfl ?_
      | (refine AW_reg [1, 5, 7, 22, 23, 40, 49, 62, 74] fun K hK => ?_
         simp [init_eq, hk]
         refine hK _ _ ?_; clear hK K))
    obtain ⟨q1, q2, q3⟩ := two_nums G4 r.set.toNat r.author.toNat
    rw [Int.toNat_of_nonneg (by omega)] at q1 q2 q3
    generalize hG2 : G4.new (.cells [.i .i64 (r.set.toNat : Int), .i .i64 r.author] 0 false 1) = H2 at q1 q2 q3
    clear hG2
    refine AW_reg [1, 5, 7] fun K hK => ?_ -- region 14
    simp [init_eq, f3, f4, rec_at p4, cv, q1]
    refine ACalls.mono (nums_ok H2 q2 (by intro n hn; simp at hn; omega) (by simp)) fun v H3 h => ?_ -- hallmoot/wire.Nums
    obtain ⟨v3, rfl, F3, o3, u3, l3⟩ := h
    have O5 := (O4.keep q3).keep u3
    simp [AOp_callv (f := 21) (first := []) (caps := [.p (some (box, 0, 0))])]
    refine ACalls.mono (sadd_ok O5 (m := numB r.set.toNat ++ numB r.author.toNat) (by simpa using o3.sl) (by simp only [List.length_append]; omega)) fun v G6 ⟨hr, O6, _, _⟩ => ?_ -- hallmoot/safe.Bytes$1
    subst hr
    try simp
    refine hK _ _ ?_; clear hK K
    refine bend (rend ⟨_, by simp, rfl, [], ?_⟩)
    rw [hby]; exact O6
  case inr.inr.inr.inr.inr.inr.inr.inl =>
    have hkc : kclass r.kind = .nb := by rw [hk]; rfl
    have hby : r.bytes = numB r.kind.toNat ++ (numB r.count.toNat ++ numB r.block.toNat) := by simp [SRec.bytes, hkc, natB]
    obtain ⟨c1, c2⟩ := hR.nb hkc
    have l1 := numB_len9 (n := r.count.toNat) (by omega)
    have l2 := numB_len9 (n := r.block.toNat) (by omega)
    repeat (first
      | refine AW_seq ?_
      | refine AW_block ?_
      | refine AW_skip ?_
      | refine AW_condT rfl ?_
      | refine AW_condF rfl ?_
      | (refine AW_reg [1, 5, 7, 22, 23, 40, 49, 62, 74] fun K hK => ?_
         simp [init_eq, hk]
         refine hK _ _ ?_; clear hK K))
    obtain ⟨q1, q2, q3⟩ := two_nums G4 r.count.toNat r.block.toNat
    rw [Int.toNat_of_nonneg (by omega), Int.toNat_of_nonneg (by omega)] at q1 q2 q3
    generalize hG2 : G4.new (.cells [.i .i64 r.count, .i .i64 r.block] 0 false 1) = H2 at q1 q2 q3
    clear hG2
    refine AW_reg [1, 5, 7] fun K hK => ?_ -- region 16
    simp [init_eq, f5, f6, rec_at p4, q1]
    refine ACalls.mono (nums_ok H2 q2 (by intro n hn; simp at hn; omega) (by simp)) fun v H3 h => ?_ -- hallmoot/wire.Nums
    obtain ⟨v3, rfl, F3, o3, u3, l3⟩ := h
    have O5 := (O4.keep q3).keep u3
    simp [AOp_callv (f := 21) (first := []) (caps := [.p (some (box, 0, 0))])]
    refine ACalls.mono (sadd_ok O5 (m := numB r.count.toNat ++ numB r.block.toNat) (by simpa using o3.sl) (by simp only [List.length_append]; omega)) fun v G6 ⟨hr, O6, _, _⟩ => ?_ -- hallmoot/safe.Bytes$1
    subst hr
    try simp
    refine hK _ _ ?_; clear hK K
    refine bend (rend ⟨_, by simp, rfl, [], ?_⟩)
    rw [hby]; exact O6
  case inr.inr.inr.inr.inr.inr.inr.inr.inl | inr.inr.inr.inr.inr.inr.inr.inr.inr.inl =>
    all_goals
      have hkc : kclass r.kind = .tx := by rw [hk]; rfl
      have hby : r.bytes = numB r.kind.toNat ++ textB r.text := by simp [SRec.bytes, hkc, natB]
      repeat (first
        | refine AW_seq ?_
        | refine AW_block ?_
        | refine AW_skip ?_
        | refine AW_condT rfl ?_
        | refine AW_condF rfl ?_
        | (refine AW_reg [1, 5, 7, 22, 23, 40, 49, 62, 74] fun K hK => ?_
           simp [init_eq, hk]
           refine hK _ _ ?_; clear hK K))
      obtain ⟨w, hw, F, o, u, l⟩ := O4.fresh uG
      refine AW_reg [2, 3] fun K hK => ?_ -- region 19
      simp [init_eq, f7, rec_at p4, hw]
      refine ACalls.mono (text_ok G4 o.sl (by omega) r.text hl) fun v G5 ⟨w5, hr, hf⟩ => ?_ -- hallmoot/wire.Text
      subst hr
      try simp
      refine hK _ _ ?_; clear hK K
      exact AW_ret (end_ret rfl (fin _ _ _ hby.symm (hf.trans u)))
  all_goals
    first
      | exact absurd hkr (by omega)
      | (have hkc : kclass r.kind = .no := by rw [hk]; rfl
         have hby : r.bytes = numB r.kind.toNat := by simp [SRec.bytes, hkc, natB]
         repeat (first
           | refine AW_seq ?_
           | refine AW_block ?_
           | refine AW_skip ?_
           | refine AW_condT rfl ?_
           | refine AW_condF rfl ?_
           | (refine AW_reg [1, 5, 7, 22, 23, 40, 49, 62, 74] fun K hK => ?_
              simp [init_eq, hk]
              refine hK _ _ ?_; clear hK K))
         refine bend (rend ⟨_, by simp, rfl, [], ?_⟩)
         rw [hby]; exact O4)
end Go.Proofs.YtoccjilbfkhmoaaGreatDoor
