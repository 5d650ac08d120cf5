/-
  Bytes of blocks that may be: the program's and the document's.
-/
import Derived.Test.YtmhaimdpfelkpaaGreatDoorBytes2
import Derived.Test.YtmhaimdpfelkpaaGreatDoorCheck2
set_option linter.unusedVariables false
set_option linter.unusedSimpArgs false
namespace Go.Proofs.YtmhaimdpfelkpaaGreatDoor
open Go Go.Abs Go.Proofs
set_option maxRecDepth 100000
attribute [local irreducible] AEnd AW ACalls

def Tmo.bytes (t : Tmo) : List UInt8 := numB t.signer.toNat ++ t.high.bytes
/-- A block's bytes. -/
def Blk.bytes (b : Blk) : List UInt8 :=
  numB b.view.toNat ++ (numB b.round.toNat ++ (numB b.height.toNat ++ (numB b.author.toNat ++ (b.parent.bytes ++ (numB b.proof.length ++ (b.proof.flatMap Tmo.bytes ++ (numB b.txs.length ++ b.txs.flatMap Tx.bytes)))))))
/-- What is in one that may be. -/
structure Blk.Rng (b : Blk) : Prop where
  view : 0 ≤ b.view ∧ b.view ≤ 1048576
  round : 0 ≤ b.round ∧ b.round ≤ 1073741824
  height : 0 ≤ b.height ∧ b.height ≤ 3
  author : 0 ≤ b.author ∧ b.author ≤ 9
  parent : b.parent.ok = true
  proof : b.proof.length ≤ 10
  tmos : ∀ t ∈ b.proof, (0 ≤ t.signer ∧ t.signer ≤ 9) ∧ t.high.ok = true
  txs : b.txs.length ≤ 8
  each : ∀ t ∈ b.txs, t.ok = true
theorem Blk.rng {b : Blk} (h : b.err = 0) : b.Rng := by
  unfold Blk.err at h
  split at h
  case isFalse => cases h
  rename_i h1
  split at h
  case isFalse => cases h
  rename_i h2
  split at h
  case isFalse => cases h
  rename_i h3
  simp only [Bool.and_eq_true, decide_eq_true_eq, Blk.head, inR] at h1
  obtain ⟨⟨g1, g2⟩, ⟨g3, g4⟩, g5⟩ := h1
  have hp : b.parent.ok = true := by
    unfold Blk.parentOk at h2
    split at h2
    · simp [openS] at h2; exact h2.2.1
    · simp at h2; exact h2.2.1.1.1.1.1
  have hr := Cert.rng hp
  have hrd : b.round = b.parent.round + 1 := by
    have : b.round = IntKind.i64.wrap (b.parent.round + 1) := by
      unfold Blk.parentOk at h2
      simp only [Bool.and_eq_true, decide_eq_true_eq] at h2
      exact h2.1.1
    rw [this, wrap_id (by have := hr.round; omega) (by have := hr.round; omega)]
  have hrd2 : b.round ≤ 1073741824 := by
    unfold Blk.parentOk at h2
    simp only [Bool.and_eq_true, decide_eq_true_eq] at h2
    exact h2.1.2
  refine ⟨by omega, ⟨by have := hr.round; omega, hrd2⟩, by omega, by omega, hp, ?_, ?_, g2, fun t ht => List.all_eq_true.1 g1 t ht⟩
  · by_cases hh : b.height = 1
    · rw [proofR_eq hh] at h3
      simp only [Bool.and_eq_true, decide_eq_true_eq] at h3
      exact h3.1.2
    · have : b.proof.length = 0 := by simpa [Blk.proofOk, hh] using h3
      omega
  · by_cases hh : b.height = 1
    · rw [proofR_eq hh] at h3
      simp only [Bool.and_eq_true, decide_eq_true_eq] at h3
      intro t ht
      obtain ⟨i, hi, rfl⟩ := List.getElem_of_mem ht
      have h4 := List.all_eq_true.1 h3.2 i (by simpa using hi)
      rw [pAt_eq hi] at h4
      simp only [Bool.and_eq_true] at h4
      have h5 := h4.1.1
      unfold Tmo.ok openS at h5
      simp only [Bool.and_eq_true] at h5
      have h6 : 0 ≤ b.proof[i].signer ∧ b.proof[i].signer ≤ 9 := of_decide_eq_true h5.1.1
      exact ⟨h6, h5.2.1⟩
    · have : b.proof = [] := by
        have h4 : b.proof.length = 0 := by simpa [Blk.proofOk, hh] using h3
        exact List.length_eq_zero_iff.1 h4
      rw [this]; simp
theorem flat_len {α : Type} {f : α → List UInt8} {k : Nat} : ∀ (xs : List α), (∀ x ∈ xs, (f x).length ≤ k) → (xs.flatMap f).length ≤ k * xs.length
  | [], _ => by simp
  | x :: xs, h => by
    have h1 := h x (by simp)
    have h2 := flat_len xs fun y hy => h y (by simp [hy])
    simp only [List.flatMap_cons, List.length_append, List.length_cons, Nat.mul_succ]
    omega
theorem Tmo.bytes_len {t : Tmo} (h : 0 ≤ t.signer ∧ t.signer ≤ 9) (h2 : t.high.ok = true) : t.bytes.length ≤ 81 := by
  have h1 := numB_len9 (n := t.signer.toNat) (by omega)
  have h3 := Cert.bytes_len (Cert.rng h2)
  simp [Tmo.bytes]; omega
/-- The bytes that are being built, in a cell of their own. -/
structure Out (H1 G : AH) (box : Nat) (v : V) (F : List Nat) (l : List UInt8) : Prop where
  get : G.get box = some (.cells [v] 0 false 0)
  own : Own G v 1 (bytesV l) F
  nin : box ∉ F
  lo : H1.next ≤ box
  loF : ∀ j ∈ F, H1.next ≤ j
  upd : Upd H1 G []
theorem Out.keep {H1 G G' : AH} {box : Nat} {v : V} {F : List Nat} {l : List UInt8} (h : Out H1 G box v F l) (hu : Upd G G' []) : Out H1 G' box v F l :=
  ⟨hu.keep (by simp) h.get, h.own.upd hu (by simp), h.nin, h.lo, h.loF, h.upd.trans hu (by simp)⟩
theorem add_ok {H1 G : AH} {box : Nat} {v : V} {F : List Nat} {l m : List UInt8} {x e : V} (h : Out H1 G box v F l) (hx : Sl G x 1 (bytesV m)) (hr : l.length + m.length ≤ 100000000) :
    ACalls Tryz.prog 114 [x, e, .p (some (box, 0, 0))] G fun r G' => r = .tup [] ∧ ∃ v' F', Out H1 G' box v' F' (l ++ m) ∧ Upd G G' (box :: F) ∧ ∀ j ∈ F', j ∈ F ∨ G.next ≤ j := by
  have hb := AH.get_lt h.get
  obtain ⟨v', H2, F', b1, b2, b3, b4⟩ := h.own.appendB app_bytes (sl_asource hx) (by omega)
  have hg2 : H2.get box = some (.cells [v] 0 false 0) := b3.keep h.nin h.get
  refine ACalls_body Tryz.func114 rfl rfl ?_
  refine AW_reg [] fun K hK => ?_ -- region 0
  have hst : astore Tryz.prog H2 108 (.p (some (box, 0, 0))) v' = some (H2.set box (.cells [v'] 0 false 0)) := by
    simp [astore, hg2, b2.cells, splice]
  simp [init_eq, aload, h.get, b1, hst]
  refine hK _ _ ?_; clear hK K
  have hn : box ∉ F' := fun hj => by
    rcases b4 box hj with h1 | h1
    · exact h.nin h1
    · omega
  have hu : Upd H2 (H2.set box (.cells [v'] 0 false 0)) [box] := Upd.set _ _ _ (by simp)
  have hu2 : Upd G (H2.set box (.cells [v'] 0 false 0)) (box :: F) := (b3.mono (fun j hj => List.mem_cons_of_mem _ hj)).trans hu (by simp)
  refine end_normal rfl ⟨rfl, v', F', ⟨?_, b2.upd hu (fun j hj he => hn (by simp at he; exact he ▸ hj)), hn, h.lo, fun j hj => ?_, h.upd.trans hu2 (fun j hj => ?_)⟩, hu2, b4⟩
  · rw [AH.get_set_same (by have := b3.1; omega)]
  · rcases b4 j hj with h1 | h1
    · exact h.loF j h1
    · have := h.upd.1; omega
  · rcases List.mem_cons.1 hj with rfl | h1
    · exact .inr h.lo
    · exact .inr (h.loF j h1)
theorem flat_succ {α : Type} {f : α → List UInt8} {xs : List α} {i : Nat} (hi : i < xs.length) : (xs.take (i + 1)).flatMap f = (xs.take i).flatMap f ++ f xs[i] := by
  rw [List.take_succ_eq_append_getElem hi, List.flatMap_append]; simp
set_option maxHeartbeats 4000000 in
theorem bbytes_ok (H : AH) {b : Blk} {pv tv : V} (hb : BlkAt H b pv tv) (hs : b.small) : ACalls Tryz.prog 50 [.agg (b.cells pv tv)] H fun r H' =>
    (b.err ≠ 0 ∧ r = .tup [.sl none 0 false, .i .i64 b.err] ∧ Upd H H' []) ∨ (b.err = 0 ∧ ∃ w, r = .tup [w, .i .i64 0] ∧ Fresh H H' w b.bytes) := by
  refine ACalls_body Tryz.func50 rfl rfl ?_
  refine AW_seq ?_
  refine AW_reg [1] fun K hK => ?_ -- region 0
  simp [init_eq, V.cells]
  obtain ⟨H1, e1, hp, hn, ho⟩ := H.boxed (b.cells pv tv)
  rw [e1]
  refine hK _ _ ?_; clear hK K
  have hu1 : Upd H H1 [] := ⟨by omega, fun j hj _ => ho j hj⟩
  have hb1 := hb.same ho
  refine AW_seq ?_
  refine AW_seq ?_
  refine AW_reg [1, 4] fun K hK => ?_ -- region 1
  simp [init_eq, aload, hp, blk_take]
  refine ACalls.mono (bcheck_ok _ hb1 hs.fits) fun r H' ⟨hr, e⟩ => ?_ -- hallmoot/block.Check
  subst hr e
  try simp
  refine hK _ _ ?_; clear hK K
  refine AW_seq ?_
  refine AW_reg [1, 4, 15] fun K hK => ?_ -- region 2
  simp [init_eq]
  refine hK _ _ ?_; clear hK K
  refine AW_cond' rfl rfl (fun hc => ?_) (fun hc => ?_)
  · have he : ¬ b.err = 0 := by simpa using hc
    refine AW_seq ?_
    refine AW_reg [2, 3] fun K hK => ?_ -- region 3
    simp [init_eq]
    refine hK _ _ ?_; clear hK K
    refine AW_ret (end_ret rfl ?_)
    exact .inl ⟨he, rfl, hu1⟩
  have he : b.err = 0 := by simpa using hc
  have hR := Blk.rng he
  have i1 := hR.view; have i2 := hR.round; have i3 := hR.height; have i4 := hR.author; have i5 := hR.proof; have i6 := hR.txs
  have ln1 := numB_len9 (n := b.view.toNat) (by omega)
  have ln2 := numB_len9 (n := b.round.toNat) (by omega)
  have ln3 := numB_len9 (n := b.height.toNat) (by omega)
  have ln4 := numB_len9 (n := b.author.toNat) (by omega)
  have ln5 := numB_len9 (n := b.proof.length) (by omega)
  have ln6 := numB_len9 (n := b.txs.length) (by omega)
  have lc := Cert.bytes_len (Cert.rng hR.parent)
  have lpf : ∀ i, ((b.proof.take i).flatMap Tmo.bytes).length ≤ 81 * b.proof.length := fun i => by
    have := flat_len (f := Tmo.bytes) (k := 81) (b.proof.take i) fun t ht => by
      have := hR.tmos t (List.mem_of_mem_take ht); exact Tmo.bytes_len this.1 this.2
    have h2 : (b.proof.take i).length ≤ b.proof.length := by rw [List.length_take]; exact Nat.min_le_right ..
    omega
  have ltf : ∀ i, ((b.txs.take i).flatMap Tx.bytes).length ≤ 500 * b.txs.length := fun i => by
    have := flat_len (f := Tx.bytes) (k := 500) (b.txs.take i) fun t ht => Tx.bytes_len (Tx.rng (hR.each t (List.mem_of_mem_take ht)))
    have h2 : (b.txs.take i).length ≤ b.txs.length := by rw [List.length_take]; exact Nat.min_le_right ..
    omega
  refine AW_skip ?_
  refine AW_seq ?_
  have b0 : abuildSlice Tryz.prog H' 182 4 [(0, .i .i64 b.view), (1, .i .i64 b.round), (2, .i .i64 b.height), (3, .i .i64 b.author)] = some (.sl (some (H'.next, 0, 0)) 4 false, H'.new (.cells [.i .i64 b.view, .i .i64 b.round, .i .i64 b.height, .i .i64 b.author] 0 false 1)) := by
    simp [abuildSlice, afill, V.cells, splice_zero, splice_succ]
  have f2 : FreshN H' (H'.new (.cells [.i .i64 b.view, .i .i64 b.round, .i .i64 b.height, .i .i64 b.author] 0 false 1)) (.sl (some (H'.next, 0, 0)) 4 false) [b.view.toNat, b.round.toNat, b.height.toNat, b.author.toNat] := by
    refine ⟨[H'.next], .inr ⟨H'.next, 0, 4, rfl, ?_, by simp [natC], rfl⟩, Upd.new .., by simp⟩
    rw [AH.get_new_same]
    simp [natC, Int.toNat_of_nonneg i1.1, Int.toNat_of_nonneg i2.1, Int.toNat_of_nonneg i3.1, Int.toNat_of_nonneg i4.1]
  generalize hH2 : H'.new (.cells [.i .i64 b.view, .i .i64 b.round, .i .i64 b.height, .i .i64 b.author] 0 false 1) = H2 at b0 f2
  have hu2 : Upd H' H2 [] := by obtain ⟨F, _, hu, _⟩ := f2; exact hu
  clear hH2
  refine AW_reg [1, 5] fun K hK => ?_ -- region 4
  simp [init_eq, afieldAddr, aload, hp, b0]
  refine ACalls.mono (nums_ok H2 f2.rs (by intro n hn; simp at hn; omega) (by simp)) fun r H3 h => ?_ -- hallmoot/wire.Nums
  obtain ⟨v3, rfl, F3, o3, u3, l3⟩ := h
  have hz : V.cells (.sl none 0 false) = some [.sl none 0 false] := rfl
  simp [astore, AH.get_new, hz, o3.cells, splice_zero]
  refine hK _ _ ?_; clear hK K
  have O4 : Out H' ((H3.new (.cells [.sl none 0 false] 0 false 0)).set H3.next (.cells [v3] 0 false 0)) H3.next v3 F3 (numB b.view.toNat ++ (numB b.round.toNat ++ (numB b.height.toNat ++ numB b.author.toNat))) := by
    have hu : Upd H3 ((H3.new (.cells [.sl none 0 false] 0 false 0)).set H3.next (.cells [v3] 0 false 0)) [] := ⟨by simp, fun j hj _ => by simp [AH.get_set, AH.get_new, show j ≠ H3.next by omega]⟩
    refine ⟨by simp [AH.get_set], by simpa using o3.upd hu (by simp), fun hj => ?_, by have := u3.1; have := hu2.1; omega, fun j hj => by have := l3 j hj; have := hu2.1; omega, (hu2.trans u3 (by simp)).trans hu (by simp)⟩
    have := o3.lt _ hj; omega
  generalize (H3.new (.cells [.sl none 0 false] 0 false 0)).set H3.next (.cells [v3] 0 false 0) = G4 at O4 ⊢
  generalize H3.next = box at O4 ⊢
  clear o3 u3 l3 H3 f2 hu2 b0 H2
  have hpo : ∀ {G v F l}, Out H' G box v F l → G.get H.next = some (.cells (b.cells pv tv) 0 false 0) := fun h => h.upd.keep (by simp) hp
  have hbo : ∀ {G v F l}, Out H' G box v F l → BlkAt G b pv tv := fun h => ⟨hb1.pf.upd h.upd, hb1.tx.upd h.upd⟩
  refine AW_seq ?_
  refine AW_reg [1, 5, 7] fun K hK => ?_ -- region 5
  simp [init_eq, evs]
  refine hK _ _ ?_; clear hK K
  refine AW_seq ?_
  have hp4 := hpo O4
  refine AW_reg [1, 5, 7] fun K hK => ?_ -- region 6
  simp [init_eq, afieldAddr, aload, hp4, Blk.parent_cells, AOp_callv (f := 114) (first := []) (caps := [.p (some (box, 0, 0))])]
  refine ACalls.mono (certBytes_ok _ _ hR.parent) fun r G5 h => ?_ -- hallmoot/cert.Bytes
  obtain ⟨w5, rfl, F5, o5, u5, l5⟩ := h
  have O5 := O4.keep u5
  simp [AOp_callv (f := 114) (first := []) (caps := [.p (some (box, 0, 0))])]
  refine ACalls.mono (add_ok O5 o5.sl (by simp only [List.length_append]; omega)) fun r G6 h => ?_ -- hallmoot/block.Bytes$1
  obtain ⟨rfl, v6, F6, O6, -, -⟩ := h
  try simp
  refine hK _ _ ?_; clear hK K
  clear o5 l5 O5 hp4 O4 u5
  refine AW_seq ?_
  have hp6 := hpo O6
  have one : ∀ (G : AH) (n : Nat), abuildSlice Tryz.prog G 182 1 [(0, .i .i64 (n : Int))] = some (.sl (some (G.next, 0, 0)) 1 false, G.new (.cells [.i .i64 (n : Int)] 0 false 1)) ∧ RS (G.new (.cells [.i .i64 (n : Int)] 0 false 1)) (.sl (some (G.next, 0, 0)) 1 false) 1 ([n].map natC) ∧ Upd G (G.new (.cells [.i .i64 (n : Int)] 0 false 1)) [] := fun G n =>
    ⟨by simp [abuildSlice, afill, V.cells, splice_zero], ⟨by simp [natC], .inr ⟨G.next, 0, 0, _, _, _, rfl, AH.get_new_same .., .inr rfl, by simp, by simp [natC]⟩⟩, Upd.new ..⟩
  obtain ⟨q1, q2, q3⟩ := one G6 b.proof.length
  have lp6 := (hbo O6).pf.alen (P := Tryz.prog) qelem_30 G6
  generalize G6.new (.cells [.i .i64 (b.proof.length : Int)] 0 false 1) = G7 at q1 q2 q3
  refine AW_reg [1, 5, 7] fun K hK => ?_ -- region 7
  simp [init_eq, afieldAddr, aload, hp6, lp6, q1]
  refine ACalls.mono (nums_ok G7 q2 (by intro n hn; simp at hn; omega) (by simp)) fun r G8 h => ?_ -- hallmoot/wire.Nums
  obtain ⟨w8, rfl, F8, o8, u8, l8⟩ := h
  have O8 := (O6.keep q3).keep u8
  simp [AOp_callv (f := 114) (first := []) (caps := [.p (some (box, 0, 0))])]
  refine ACalls.mono (add_ok O8 (m := numB b.proof.length) (by simpa using o8.sl) (by simp only [List.length_append]; omega)) fun r G9 h => ?_ -- hallmoot/block.Bytes$1
  obtain ⟨rfl, v9, F9, O9, -, -⟩ := h
  try simp
  refine hK _ _ ?_; clear hK K
  clear o8 l8 O8 hp6 O6 u8 q1 q2 q3 G7 lp6
  generalize hbase : numB b.view.toNat ++ (numB b.round.toNat ++ (numB b.height.toNat ++ numB b.author.toNat)) ++ b.parent.bytes ++ numB b.proof.length = B1 at O9
  have lB1 : B1.length ≤ 200 := by rw [← hbase]; simp; omega
  refine AW_seq ?_
  refine AW_seq ?_
  have hp9 := hpo O9
  have lp9 := (hbo O9).pf.alen (P := Tryz.prog) qelem_30 G9
  refine AW_reg [1, 5, 7, 48, 49, 50] fun K hK => ?_ -- region 8
  simp [init_eq, afieldAddr, aload, hp9, lp9]
  refine hK _ _ ?_; clear hK K
  refine AW_block ?_
  refine AW_loopx (fun i : Nat => ⟨97, [(1, .p (some (H.next, 0, 0))), (5, .p (some (box, 0, 0))), (7, .fn (.func 114) [] [.p (some (box, 0, 0))]), (48, pv), (49, .i .i64 b.proof.length), (50, .i .i64 i)]⟩)
    (fun i G => i ≤ b.proof.length ∧ ∃ v F, Out H' G box v F (B1 ++ (b.proof.take i).flatMap Tmo.bytes)) (fun i => b.proof.length - i) 0 (by simp) ⟨by simp, v9, F9, by simpa using O9⟩ fun i G hM => ?_ -- loop
  clear O9 hp9 lp9 G9 v9 F9
  obtain ⟨hi0, v, F, O⟩ := hM
  refine AW_seq ?_
  refine AW_reg [1, 5, 7, 48, 49, 50, 51] fun K hK => ?_ -- region 9
  simp [init_eq]
  refine hK _ _ ?_; clear hK K
  refine AW_seq ?_
  refine AW_cond' rfl rfl (fun hc => ?_) (fun hc => ?_)
  · have hi : i < b.proof.length := by simpa using hc
    have hT := hR.tmos _ (List.getElem_mem hi)
    have lT := Tmo.bytes_len hT.1 hT.2
    have lc2 := Cert.bytes_len (Cert.rng hT.2)
    have lnS := numB_len9 (n := b.proof[i].signer.toNat) (by omega)
    have lpi := lpf i
    obtain ⟨ax, px, qx⟩ := (hbo O).pf.rec Tmo.len (by decide) (P := Tryz.prog) qelem_30 qsize_69 qagg_69 hi
    refine AW_skip ?_
    refine AW_seq ?_
    refine AW_block ?_
    refine AW_seq ?_
    refine AW_reg [1, 5, 7, 9, 48, 49, 50] fun K hK => ?_ -- region 10
    simp [init_eq, px, qx, astore, AH.get_new, V.cells]
    refine hK _ _ ?_; clear hK K
    generalize hG1 : (G.new _).set G.next _ = G1
    have hq : G1.get G.next = some (.cells b.proof[i].cells 0 false 0) := by rw [← hG1]; simp [AH.get_set]; exact splice_all rfl
    have hu : Upd G G1 [] := by rw [← hG1]; exact ⟨by simp, fun j hj _ => by simp [AH.get_set, AH.get_new, show j ≠ G.next by omega]⟩
    have hnG1 : G1.next = G.next + 1 := by rw [← hG1]; simp
    have nb : G.next ≠ box := by have := AH.get_lt O.get; omega
    have nF : G.next ∉ F := fun hj => by have := O.own.lt _ hj; omega
    have O1 := O.keep hu
    clear hG1
    refine AW_seq ?_
    obtain ⟨q1, q2, q3⟩ := one G1 b.proof[i].signer.toNat
    rw [Int.toNat_of_nonneg hT.1.1] at q1 q2 q3
    generalize G1.new (.cells [.i .i64 b.proof[i].signer] 0 false 1) = G2 at q1 q2 q3
    refine AW_reg [1, 5, 7, 9, 48, 49, 50] fun K hK => ?_ -- region 11
    simp [init_eq, afieldAddr, aload, hq, q1]
    refine ACalls.mono (nums_ok G2 q2 (by intro n hn; simp at hn; omega) (by simp)) fun r G3 h => ?_ -- hallmoot/wire.Nums
    obtain ⟨w3, rfl, F3, o3, u3, l3⟩ := h
    have u13 := q3.trans u3 (by simp)
    have O3 := O1.keep u13
    have hq3 := u13.keep (by simp) hq
    simp [AOp_callv (f := 114) (first := []) (caps := [.p (some (box, 0, 0))])]
    refine ACalls.mono (add_ok O3 (m := numB b.proof[i].signer.toNat) (by simpa using o3.sl) (by simp only [List.length_append]; omega)) fun r G4 h => ?_ -- hallmoot/block.Bytes$1
    obtain ⟨rfl, v4, F4, O4, u4, l4⟩ := h
    have hq4 := u4.keep (by simp [nb, nF]) hq3
    try simp
    refine hK _ _ ?_; clear hK K
    have hc4 : aload Tryz.prog G4 29 (.p (some (G.next, 0, 2))) = some (.agg b.proof[i].high.cells) := by
      simp [aload, hq4, Tmo.high_cells]
    refine AW_reg [1, 5, 7, 48, 49, 50] fun K hK => ?_ -- region 12
    simp [init_eq, afieldAddr, hc4]
    refine ACalls.mono (certBytes_ok _ _ hT.2) fun r G5 h => ?_ -- hallmoot/cert.Bytes
    obtain ⟨w5, rfl, F5, o5, u5, l5⟩ := h
    have O5 := O4.keep u5
    simp [AOp_callv (f := 114) (first := []) (caps := [.p (some (box, 0, 0))])]
    refine ACalls.mono (add_ok O5 o5.sl (by simp only [List.length_append]; omega)) fun r G6 h => ?_ -- hallmoot/block.Bytes$1
    obtain ⟨rfl, v6, F6, O6, -, -⟩ := h
    try simp
    refine hK _ _ ?_; clear hK K
    refine bend ?_
    refine AW_reg [1, 5, 7, 48, 49, 50] fun K hK => ?_ -- region 13
    simp [init_eq, wrap_id (x := (i : Int) + 1) (by omega) (by omega)]
    refine hK _ _ ?_; clear hK K
    refine rend ⟨i + 1, by simp, ⟨by omega, v6, F6, ?_⟩, by omega⟩ -- round's end
    rw [flat_succ hi]
    simpa [Tmo.bytes] using O6
  have hi : i = b.proof.length := by
    have : ¬ i < b.proof.length := by simpa using hc
    omega
  subst hi
  rw [List.take_length] at O
  have lpa := lpf b.proof.length
  rw [List.take_length] at lpa
  refine AW_exit (then_exit (then_exit (block_here ?_)))
  refine AW_seq ?_
  have hpa := hpo O
  have lta := (hbo O).tx.alen (P := Tryz.prog) qelem_31 G
  obtain ⟨q1, q2, q3⟩ := one G b.txs.length
  generalize G.new (.cells [.i .i64 (b.txs.length : Int)] 0 false 1) = G7 at q1 q2 q3
  refine AW_reg [1, 5, 7] fun K hK => ?_ -- region 14
  simp [init_eq, afieldAddr, aload, hpa, lta, q1]
  refine ACalls.mono (nums_ok G7 q2 (by intro n hn; simp at hn; omega) (by simp)) fun r G8 h => ?_ -- hallmoot/wire.Nums
  obtain ⟨w8, rfl, F8, o8, u8, l8⟩ := h
  have O8 := (O.keep q3).keep u8
  simp [AOp_callv (f := 114) (first := []) (caps := [.p (some (box, 0, 0))])]
  refine ACalls.mono (add_ok O8 (m := numB b.txs.length) (by simpa using o8.sl) (by simp at lpa ⊢; omega)) fun r G9 h => ?_ -- hallmoot/block.Bytes$1
  obtain ⟨rfl, v9, F9, O9, -, -⟩ := h
  try simp
  refine hK _ _ ?_; clear hK K
  generalize hbase2 : B1 ++ b.proof.flatMap Tmo.bytes ++ numB b.txs.length = B2 at O9
  have lB2 : B2.length ≤ 2000 := by rw [← hbase2]; simp at lpa ⊢; omega
  refine AW_seq ?_
  refine AW_seq ?_
  have hp9 := hpo O9
  have lp9 := (hbo O9).tx.alen (P := Tryz.prog) qelem_31 G9
  refine AW_reg [5, 7, 80, 81, 82] fun K hK => ?_ -- region 15
  simp [init_eq, afieldAddr, aload, hp9, lp9]
  refine hK _ _ ?_; clear hK K
  clear O O8 o8 u8 l8 q1 q2 q3 G7 hpa lta
  refine AW_block ?_
  refine AW_loopx (fun i : Nat => ⟨97, [(5, .p (some (box, 0, 0))), (7, .fn (.func 114) [] [.p (some (box, 0, 0))]), (80, tv), (81, .i .i64 b.txs.length), (82, .i .i64 i)]⟩)
    (fun i G => i ≤ b.txs.length ∧ ∃ v F, Out H' G box v F (B2 ++ (b.txs.take i).flatMap Tx.bytes)) (fun i => b.txs.length - i) 0 (by simp) ⟨by simp, v9, F9, by simpa using O9⟩ fun i G hM => ?_ -- loop
  clear O9 hp9 lp9 G9 v9 F9 v F hi0
  obtain ⟨hi0, v, F, O⟩ := hM
  refine AW_seq ?_
  refine AW_reg [5, 7, 80, 81, 82, 83] fun K hK => ?_ -- region 16
  simp [init_eq]
  refine hK _ _ ?_; clear hK K
  refine AW_seq ?_
  refine AW_cond' rfl rfl (fun hc => ?_) (fun hc => ?_)
  · have hi : i < b.txs.length := by simpa using hc
    have hT := hR.each _ (List.getElem_mem hi)
    have lT := Tx.bytes_len (Tx.rng hT)
    have lpi := ltf i
    obtain ⟨ax, px, qx⟩ := (hbo O).tx.rec Tx.len (by decide) (P := Tryz.prog) qelem_31 qsize_91 qagg_91 hi
    refine AW_skip ?_
    refine AW_seq ?_
    refine AW_block ?_
    refine AW_seq ?_
    refine AW_reg [5, 7, 11, 80, 81, 82] fun K hK => ?_ -- region 17
    simp [init_eq, px, qx, astore, AH.get_new, V.cells]
    refine hK _ _ ?_; clear hK K
    generalize hG1 : (G.new _).set G.next _ = G1
    have hq : G1.get G.next = some (.cells b.txs[i].cells 0 false 0) := by rw [← hG1]; simp [AH.get_set]; exact splice_all rfl
    have hu : Upd G G1 [] := by rw [← hG1]; exact ⟨by simp, fun j hj _ => by simp [AH.get_set, AH.get_new, show j ≠ G.next by omega]⟩
    have O1 := O.keep hu
    clear hG1
    refine AW_reg [5, 7, 80, 81, 82] fun K hK => ?_ -- region 18
    simp [init_eq, aload, hq, tx_take]
    refine ACalls.mono (txBytes_ok _ _ hT) fun r G5 h => ?_ -- hallmoot/tx.Bytes
    obtain ⟨w5, rfl, F5, o5, u5, l5⟩ := h
    have O5 := O1.keep u5
    simp [AOp_callv (f := 114) (first := []) (caps := [.p (some (box, 0, 0))])]
    refine ACalls.mono (add_ok O5 o5.sl (by simp only [List.length_append]; omega)) fun r G6 h => ?_ -- hallmoot/block.Bytes$1
    obtain ⟨rfl, v6, F6, O6, -, -⟩ := h
    try simp
    refine hK _ _ ?_; clear hK K
    refine bend ?_
    refine AW_reg [5, 7, 80, 81, 82] fun K hK => ?_ -- region 19
    simp [init_eq, wrap_id (x := (i : Int) + 1) (by omega) (by omega)]
    refine hK _ _ ?_; clear hK K
    refine rend ⟨i + 1, by simp, ⟨by omega, v6, F6, ?_⟩, by omega⟩ -- round's end
    rw [flat_succ hi]
    simpa using O6
  have hi : i = b.txs.length := by
    have : ¬ i < b.txs.length := by simpa using hc
    omega
  subst hi
  rw [List.take_length] at O
  have lta := ltf b.txs.length
  rw [List.take_length] at lta
  have hfin : B2 ++ b.txs.flatMap Tx.bytes = b.bytes := by
    rw [← hbase2, ← hbase]; simp [Blk.bytes]
  rw [hfin] at O
  have hlen : b.bytes.length ≤ 65536 := by rw [← hfin]; simp at lta ⊢; omega
  have hal : alen Tryz.prog G 108 v = some (.i .i64 b.bytes.length) := by
    have := O.own.len (P := Tryz.prog) (H' := G) (by decide) qelem_108
    simpa using this
  have hlv : aload Tryz.prog G 108 (.p (some (box, 0, 0))) = some v := by simp [aload, O.get]
  have hno : ¬ (65536 : Int) < b.bytes.length := by omega
  refine AW_exit (then_exit (then_exit (block_here ?_)))
  refine AW_seq ?_
  refine AW_seq ?_
  refine AW_reg [5, 95] fun K hK => ?_ -- region 20
  simp [init_eq, hlv, hal, hno]
  refine hK _ _ ?_; clear hK K
  refine AW_cond' rfl rfl (fun hc => ?_) (fun hc => ?_)
  · cases hc
  · refine AW_skip ?_
    refine AW_seq ?_
    refine AW_reg [2, 3] fun K hK => ?_ -- region 22
    simp [init_eq, hlv]
    refine hK _ _ ?_; clear hK K
    refine AW_ret (end_ret rfl ?_)
    exact .inr ⟨he, v, rfl, F, O.own, hu1.trans O.upd (by simp), fun j hj => by have := O.loF j hj; omega⟩
end Go.Proofs.YtmhaimdpfelkpaaGreatDoor
