/-
  ValidNil: what no registers answer.
-/
import Derived.Test.YtmhaimdpfelkpaaGreatDoorValid1
import Derived.Test.YtmhaimdpfelkpaaGreatDoorValidAlive
import Derived.Test.YtmhaimdpfelkpaaGreatDoorArgBlk
set_option linter.unusedVariables false
set_option linter.unusedSimpArgs false
namespace Go.Proofs.YtmhaimdpfelkpaaGreatDoor
open Go Go.Abs Go.Proofs
set_option maxRecDepth 100000
attribute [local irreducible] AEnd AW ACalls

@[simp] theorem noLaw_take : noLaw.take 3 = noLaw := rfl
@[simp] theorem noLaw_len : noLaw.length = 3 := rfl
theorem three_fns (G : AH) (a b c : Chk) : ∃ G1, abuildSlice Tryz.prog G 161 3 [(0, a.fn), (1, b.fn), (2, c.fn)] = some (.sl (some (G.next, 0, 0)) 3 false, G1) ∧ RS G1 (.sl (some (G.next, 0, 0)) 3 false) 1 ([a, b, c].map fun c => [c.fn]) ∧ G1.next = G.next + 1 ∧ ∀ j, j < G.next → G1.get j = G.get j :=
  ⟨G.new (.cells [a.fn, b.fn, c.fn] 0 false 1), by simp [abuildSlice, afill, V.cells, splice_zero, splice_succ, List.replicate, Chk.fn], ⟨by simp, .inr ⟨G.next, 0, 0, _, _, _, rfl, AH.get_new_same .., .inr rfl, by simp, by simp⟩⟩, by simp, fun j hj => by rw [AH.get_new, if_neg (by omega)]⟩
theorem certF1_nil (H : AH) {i j : Nat} {c : Cert} (hi : H.get i = some (.cells noLaw 0 false 0)) (hj : H.get j = some (.cells c.cells 0 false 0)) :
    ACalls Tryz.prog 65 [.p (some (i, 0, 0)), .p (some (j, 0, 0))] H fun r H' => r = .i .i64 3 ∧ H' = H := by
  refine ACalls.pure (Q := fun r => r = .i .i64 3) ⟨_, Tryz.func65, rfl, rfl⟩ ?_
  refine ACalls_body Tryz.func65 rfl rfl ?_
  refine AW_seq ?_
  refine AW_reg [0, 1] fun K hK => ?_ -- region 0
  simp [init_eq]
  refine hK _ _ ?_; clear hK K
  refine AW_seq ?_
  refine AW_reg [1, 3, 4] fun K hK => ?_ -- region 1
  have hlt := AH.get_lt hi
  simp [init_eq, afieldAddr, aload, hi, hj, noLaw]
  refine ACalls.mono (lawContent_nil ..) fun r H' ⟨hr, e⟩ => ?_ -- (hallmoot/valid.Law).Content
  subst hr e
  simp [astore, AH.get_new, V.cells]
  refine hK _ _ ?_; clear hK K
  refine AW_seq ?_
  refine AW_seq ?_
  refine AW_reg [4, 19] fun K hK => ?_ -- region 2
  simp [init_eq]
  refine hK _ _ ?_; clear hK K
  refine AW_condF rfl ?_
  refine AW_skip ?_
  refine AW_seq ?_
  refine AW_reg [2] fun K hK => ?_ -- region 4
  simp [init_eq]
  refine hK _ _ ?_; clear hK K
  refine AW_ret (end_ret rfl ⟨rfl, rfl, by simp, fun k hk => ?_⟩)
  rw [AH.get_set_ne (by omega), AH.get_new, if_neg (by omega)]
theorem cert_nil (H : AH) (c : Cert) : ACalls Tryz.prog 16 [.agg noLaw, .agg c.cells] H fun r H' => r = .i .i64 (if c.check ≠ 0 then c.check else if c.kind = 0 then 0 else 3) ∧ H' = H := by
  refine ACalls.pure (Q := fun r => r = .i .i64 (if c.check ≠ 0 then c.check else if c.kind = 0 then 0 else 3)) ⟨_, Tryz.func16, rfl, rfl⟩ ?_
  refine ACalls_body Tryz.func16 rfl rfl ?_
  refine AW_seq ?_
  refine AW_reg [2, 3] fun K hK => ?_ -- region 0
  simp [init_eq, V.cells]
  obtain ⟨H1, e1, hp, hp2, hn, ho⟩ := H.boxed2 noLaw c.cells
  rw [e1]
  refine hK _ _ ?_; clear hK K
  refine AW_seq ?_
  refine AW_seq ?_
  refine AW_reg [2, 3, 5] fun K hK => ?_ -- region 1
  simp [init_eq, aload, hp2, take_cells]
  refine ACalls.mono (check_ok H1 c) fun r H' ⟨hr, e⟩ => ?_ -- hallmoot/cert.Check
  subst hr e
  try simp
  refine hK _ _ ?_; clear hK K
  by_cases g1 : c.check = 0
  case neg =>
    refine AW_seq ?_
    refine AW_reg [2, 3, 5, 14] fun K hK => ?_ -- region 2
    simp [init_eq, g1]
    refine hK _ _ ?_; clear hK K
    refine AW_condT rfl ?_
    refine AW_seq ?_
    refine AW_reg [4] fun K hK => ?_ -- region 3
    simp [init_eq]
    refine hK _ _ ?_; clear hK K
    exact AW_ret (end_ret rfl (pure_end hn ho (by simp [g1]) rfl))
  by_cases g2 : c.kind = 0
  · refine AW_seq ?_
    refine AW_reg [2, 3, 5, 14] fun K hK => ?_ -- region 2
    simp [init_eq, g1, g2, afieldAddr, aload, hp2]
    refine hK _ _ ?_; clear hK K
    refine AW_condT rfl ?_
    refine AW_seq ?_
    refine AW_reg [4] fun K hK => ?_ -- region 3
    simp [init_eq]
    refine hK _ _ ?_; clear hK K
    exact AW_ret (end_ret rfl (pure_end hn ho (by simp [g1, g2]) rfl))
  · refine AW_seq ?_
    refine AW_reg [2, 3, 5, 14] fun K hK => ?_ -- region 2
    simp [init_eq, g1, g2, afieldAddr, aload, hp2]
    refine hK _ _ ?_; clear hK K
    refine AW_condF rfl ?_
    refine AW_skip ?_
    obtain ⟨G1, b1, b2, b3, b4⟩ := three_fns H' (⟨65, [.p (some (H.next, 0, 0)), .p (some (H.next + 1, 0, 0))], 3⟩ : Chk) ⟨67, [.p (some (H.next, 0, 0)), .p (some (H.next + 1, 0, 0))], 0⟩ ⟨71, [.p (some (H.next, 0, 0)), .p (some (H.next + 1, 0, 0))], 0⟩
    refine AW_seq ?_
    refine AW_reg [4] fun K hK => ?_ -- region 4
    simp only [Chk.fn] at b1
    simp [init_eq, evs, b1]
    refine ACalls.mono (first_ok G1 (by simp) b2 fun i hi hz => ?_) fun r G2 ⟨hr, e⟩ => ?_ -- hallmoot/valid.first
    · rcases i with _ | i
      · exact certF1_nil G1 (by rw [b4 _ (by omega)]; exact hp) (by rw [b4 _ (by omega)]; exact hp2)
      · exact absurd (hz 0 (by omega)) (by simp)
    subst hr e
    try simp
    refine hK _ _ ?_; clear hK K
    refine AW_ret (end_ret rfl ⟨by simp [g1, g2, firstOf], rfl, by omega, fun j hj => by rw [b4 j (by omega), ho j hj]⟩)
theorem timeF1_ok (H : AH) {i : Nat} {t : Tmo} (hi : H.get i = some (.cells t.cells 0 false 0)) :
    ACalls Tryz.prog 85 [.p (some (i, 0, 0))] H fun r H' => r = .i .i64 (if t.ok then 0 else 121) ∧ H' = H := by
  refine ACalls_body Tryz.func85 rfl rfl ?_
  refine AW_seq ?_
  refine AW_reg [0] fun K hK => ?_ -- region 0
  simp [init_eq]
  refine hK _ _ ?_; clear hK K
  refine AW_seq ?_
  refine AW_reg [1] fun K hK => ?_ -- region 1
  simp [init_eq, aload, hi, tmo_take]
  refine ACalls.mono (btimeout_ok ..) fun r H' ⟨hr, e⟩ => ?_ -- hallmoot/block.Timeout
  subst hr e
  try simp
  refine hK _ _ ?_; clear hK K
  exact AW_ret (end_ret rfl ⟨rfl, rfl⟩)
theorem timeF2_nil (H : AH) {i j : Nat} {t : Tmo} (hi : H.get i = some (.cells noLaw 0 false 0)) (hj : H.get j = some (.cells t.cells 0 false 0)) :
    ACalls Tryz.prog 87 [.p (some (i, 0, 0)), .p (some (j, 0, 0))] H fun r H' => r = .i .i64 3 ∧ H' = H := by
  refine ACalls.pure (Q := fun r => r = .i .i64 3) ⟨_, Tryz.func87, rfl, rfl⟩ ?_
  refine ACalls_body Tryz.func87 rfl rfl ?_
  refine AW_seq ?_
  refine AW_reg [0, 1] fun K hK => ?_ -- region 0
  simp [init_eq]
  refine hK _ _ ?_; clear hK K
  refine AW_seq ?_
  refine AW_regd [2] pl_87_1 pe_87_1 (by kernel_rfl) (by kernel_rfl) (by decide) fun K hK => ?_
  simp [init_eq, pl_87_1, afieldAddr, aload, hi, hj, noLaw, tmo_take]
  refine ACalls.mono (bsigned_ok ..) fun r H' ⟨hr, e⟩ => ?_ -- hallmoot/block.Signed
  subst hr e
  simp [abuild, afill, V.cells, splice_zero, splice_succ, Tmo.signed]
  refine ACalls.mono (counts_nil ..) fun r H' ⟨hr, e⟩ => ?_ -- (*hallmoot/sign.Sign).Counts
  subst hr e
  try simp
  refine hK _ _ ?_; clear hK K
  exact AW_ret (end_ret rfl (same_end rfl rfl))
theorem timeout_nil (H : AH) (t : Tmo) (ht : t.ok = true) : ACalls Tryz.prog 28 [.agg noLaw, .agg t.cells] H fun r H' => r = .i .i64 3 ∧ H' = H := by
  refine ACalls.pure (Q := fun r => r = .i .i64 3) ⟨_, Tryz.func28, rfl, rfl⟩ ?_
  refine ACalls_body Tryz.func28 rfl rfl ?_
  refine AW_seq ?_
  refine AW_reg [2, 3] fun K hK => ?_ -- region 0
  simp [init_eq, V.cells]
  obtain ⟨H1, e1, hp, hp2, hn, ho⟩ := H.boxed2 noLaw t.cells
  rw [e1]
  refine hK _ _ ?_; clear hK K
  obtain ⟨G1, b1, b2, b3, b4⟩ := three_fns H1 (⟨85, [.p (some (H.next + 1, 0, 0))], 0⟩ : Chk) ⟨87, [.p (some (H.next, 0, 0)), .p (some (H.next + 1, 0, 0))], 3⟩ ⟨89, [.p (some (H.next, 0, 0)), .p (some (H.next + 1, 0, 0))], 0⟩
  refine AW_seq ?_
  refine AW_reg [4] fun K hK => ?_ -- region 1
  simp only [Chk.fn] at b1
  simp [init_eq, evs, b1]
  refine ACalls.mono (first_ok G1 (by simp) b2 fun i hi hz => ?_) fun r G2 ⟨hr, e⟩ => ?_ -- hallmoot/valid.first
  · rcases i with _ | _ | i
    · have := timeF1_ok G1 (i := H.next + 1) (t := t) (by rw [b4 _ (by omega)]; exact hp2)
      simpa [ht] using this
    · exact timeF2_nil G1 (by rw [b4 _ (by omega)]; exact hp) (by rw [b4 _ (by omega)]; exact hp2)
    · exact absurd (hz 1 (by omega)) (by simp)
  subst hr e
  try simp
  refine hK _ _ ?_; clear hK K
  refine AW_ret (end_ret rfl ⟨by simp [firstOf], rfl, by omega, fun j hj => by rw [b4 j (by omega), ho j hj]⟩)
theorem block_nil (H : AH) {b : Blk} {pv tv : V} (hb : BlkAt H b pv tv) (hs : b.small) : ACalls Tryz.prog 14 [.agg noLaw, .agg (b.cells pv tv)] H fun r H' => r = .tup [.i .i64 0, .i .i64 (if b.err = 0 then 3 else b.err)] ∧ H' = H := by
  refine ACalls.pure (Q := fun r => r = .tup [.i .i64 0, .i .i64 (if b.err = 0 then 3 else b.err)]) ⟨_, Tryz.func14, rfl, rfl⟩ ?_
  refine ACalls_body Tryz.func14 rfl rfl ?_
  refine AW_seq ?_
  refine AW_reg [2, 3] fun K hK => ?_ -- region 0
  simp [init_eq, V.cells]
  obtain ⟨H1, e1, hp, hp2, hn, ho⟩ := H.boxed2 noLaw (b.cells pv tv)
  rw [e1]
  refine hK _ _ ?_; clear hK K
  have hb1 := hb.same ho
  have h3 : ¬ (if b.err = 0 then (3 : Int) else b.err) = 0 := by split <;> simp_all
  refine AW_seq ?_
  refine AW_reg [2, 3, 6, 7] fun K hK => ?_ -- region 1
  simp [init_eq, aload, hp, hp2, blk_take]
  refine ACalls.mono (number_nil H1 hb1 hs) fun r H' ⟨hr, e⟩ => ?_ -- (hallmoot/valid.Law).Number
  subst hr e
  generalize hE : (if b.err = 0 then (3 : Int) else b.err) = E at *
  simp [V.cells, astore, AH.get_new]
  refine hK _ _ ?_; clear hK K
  refine AW_seq ?_
  refine AW_seq ?_
  refine AW_reg [2, 3, 6, 7, 15] fun K hK => ?_ -- region 2
  simp [init_eq, h3]
  refine hK _ _ ?_; clear hK K
  refine AW_condT rfl ?_
  refine AW_seq ?_
  refine AW_reg [4, 5] fun K hK => ?_ -- region 3
  simp [init_eq]
  refine hK _ _ ?_; clear hK K
  refine AW_ret (end_ret rfl ⟨rfl, rfl, by simp; omega, fun k hk => ?_⟩)
  rw [AH.get_set_ne (by omega), AH.get_new, if_neg (by omega), ho k hk]
theorem validnil_law (H : AH) (c : Cert) (t : Tmo) {b : Blk} {pv tv : V} (hb : BlkAt H b pv tv) : ACalls Tryz.prog 5 [.agg c.cells, .agg t.cells, .agg (b.cells pv tv)] H fun r H' => r = .b true := by
  refine ACalls_body Tryz.func5 rfl rfl ?_
  refine AW_seq ?_
  refine AW_reg [3, 4, 5] fun K hK => ?_ -- region 0
  simp [init_eq, V.cells]
  obtain ⟨H1, e1, hp, hp2, hp3, hn, ho⟩ := H.boxed3 c.cells t.cells (b.cells pv tv)
  rw [e1]
  refine hK _ _ ?_; clear hK K
  have hb1 := hb.same ho
  clear ho e1
  generalize hic : H.next = ic at *
  refine AW_seq ?_
  refine AW_seq ?_
  refine AW_reg [3, 4, 5, 17] fun K hK => ?_ -- region 1
  simp [init_eq]
  refine ACalls.mono (alive_ok ..) fun r H' ⟨hr, e⟩ => ?_ -- hallmoot/hallmootlaw13.alive
  subst hr e
  try simp
  refine hK _ _ ?_; clear hK K
  refine AW_condF rfl ?_
  refine AW_skip ?_
  refine AW_seq ?_
  refine AW_seq ?_
  refine AW_reg [3, 4, 5, 19] fun K hK => ?_ -- region 3
  simp [init_eq, aload, hp3, blk_take]
  refine ACalls.mono (greatBlk_ok H' hb1) fun r H2 ⟨hr, e⟩ => ?_ -- hallmoot/hallmootref12.Great
  subst hr e
  try simp
  refine hK _ _ ?_; clear hK K
  refine AW_cond' rfl rfl (fun hc => ?_) (fun hc => ?_)
  · refine AW_seq ?_
    refine AW_reg [6] fun K hK => ?_ -- region 4
    simp [init_eq]
    refine hK _ _ ?_; clear hK K
    exact AW_ret (end_ret rfl rfl)
  have hs : b.small := Blk.small_of (by simpa using hc)
  refine AW_skip ?_
  refine AW_seq ?_
  refine AW_reg [3, 4, 5, 7] fun K hK => ?_ -- region 5
  simp [init_eq, V.cells]
  refine hK _ _ ?_; clear hK K
  obtain ⟨G, e1, q4, gn, go⟩ := H2.boxed noLaw
  show AW _ _ _ _ _ (H2.new (O.cells noLaw 0 false 0))
  rw [e1]
  have q1 : G.get ic = some (.cells c.cells 0 false 0) := by rw [go _ (by omega)]; exact hp
  have q2 : G.get (ic + 1) = some (.cells t.cells 0 false 0) := by rw [go _ (by omega)]; exact hp2
  have q3 : G.get (ic + 2) = some (.cells (b.cells pv tv) 0 false 0) := by rw [go _ (by omega)]; exact hp3
  have hb2 := hb1.same go
  generalize hil : H2.next = il at *
  clear hp hp2 hp3 hb1 go e1
  refine AW_seq ?_
  refine AW_reg [3, 4, 5, 7, 9] fun K hK => ?_ -- region 6
  simp [init_eq, afieldAddr, aload, q1, q4]
  refine ACalls.mono (lawContent_nil ..) fun r H' ⟨hr, e⟩ => ?_ -- (hallmoot/valid.Law).Content
  subst hr e
  simp [V.cells, astore, AH.get_new]
  refine hK _ _ ?_; clear hK K
  generalize hG2 : AH.set _ H'.next _ = G2
  have go : ∀ j, j < H'.next → G2.get j = H'.get j := fun j hj => by rw [← hG2, AH.get_set_ne (by omega), AH.get_new, if_neg (by omega)]
  have r1 : G2.get ic = some (.cells c.cells 0 false 0) := by rw [go _ (by omega)]; exact q1
  have r2 : G2.get (ic + 1) = some (.cells t.cells 0 false 0) := by rw [go _ (by omega)]; exact q2
  have r3 : G2.get (ic + 2) = some (.cells (b.cells pv tv) 0 false 0) := by rw [go _ (by omega)]; exact q3
  have r4 : G2.get il = some (.cells noLaw 0 false 0) := by rw [go _ (by omega)]; exact q4
  have hb3 := hb2.same go
  clear hG2 go q1 q2 q3 q4 hb2
  refine AW_seq ?_
  refine AW_reg [3, 4, 5, 7, 9, 10, 11] fun K hK => ?_ -- region 7
  simp [init_eq, aload, r3, r4, blk_take]
  refine ACalls.mono (block_nil G2 hb3 hs) fun r H3 ⟨hr, e⟩ => ?_ -- (hallmoot/valid.Law).Block
  subst hr e
  try simp
  refine hK _ _ ?_; clear hK K
  refine AW_seq ?_
  refine AW_reg [3, 4, 5, 7, 9, 10, 11, 13] fun K hK => ?_ -- region 8
  simp [init_eq, aload, r3, r4, blk_take]
  refine ACalls.mono (number_nil H3 hb3 hs) fun r H4 ⟨hr, e⟩ => ?_ -- (hallmoot/valid.Law).Number
  subst hr e
  try simp
  refine hK _ _ ?_; clear hK K
  refine AW_seq ?_
  refine AW_reg [3, 4, 5, 7, 9, 10, 11, 13, 14] fun K hK => ?_ -- region 9
  simp [init_eq]
  refine hK _ _ ?_; clear hK K
  generalize hE : (if b.err = 0 then (3 : Int) else b.err) = E at *
  refine AW_cut (fun ρ G => ρ = ⟨86, [(3, .p (some (ic, 0, 0))), (4, .p (some (ic + 1, 0, 0))), (7, .p (some (il, 0, 0))), (9, .i .i64 3), (10, .i .i64 0), (11, .i .i64 E), (13, .i .i64 E), (14, .i .i64 E)]⟩ ∧ G = H4) ?_ fun ρ G ⟨h1, h2⟩ => ?_
  · refine AW_seq ?_
    refine AW_reg [3, 4, 5, 7, 9, 10, 11, 13, 14, 41] fun K hK => ?_ -- region 10
    simp [init_eq, aload, r3, blk_take]
    refine ACalls.mono (rcheckBlk_ok H4 hb3 hs) fun r H5 ⟨hr, e⟩ => ?_ -- hallmoot/hallmootref12.Check
    subst hr e
    try simp
    refine hK _ _ ?_; clear hK K
    refine AW_cond' rfl rfl (fun hc => ?_) (fun hc => ?_)
    · have h0 : ¬ b.err = 0 := by simpa using hc
      refine AW_reg [3, 4, 7, 9, 10, 11, 13, 14] fun K hK => ?_ -- region 11
      simp [init_eq, aload, r3, blk_take]
      refine ACalls.mono (rcheckBlk_ok H5 hb3 hs) fun r H6 ⟨hr, e⟩ => ?_ -- hallmoot/hallmootref12.Check
      subst hr e
      try simp
      refine hK _ _ ?_; clear hK K
      have hE' : E = b.err := by rw [← hE, if_neg h0]
      refine rend ⟨_, ?_, rfl, rfl⟩
      simp [hE']
    · have h0 : b.err = 0 := by simpa using hc
      have hE' : E = 3 := by rw [← hE, if_pos h0]
      refine AW_skip (rend ⟨_, ?_, rfl, rfl⟩)
      simp [hE']
  subst h1 h2
  refine AW_seq ?_
  refine AW_reg [3, 4, 7, 9, 10, 11, 13, 14, 15] fun K hK => ?_ -- region 12
  simp [init_eq, aload, r1, r4, take_cells]
  refine ACalls.mono (cert_nil ..) fun r H' ⟨hr, e⟩ => ?_ -- (hallmoot/valid.Law).Cert
  subst hr e
  try simp
  refine hK _ _ ?_; clear hK K
  refine AW_seq ?_
  refine AW_seq ?_
  refine AW_regto [4, 7, 9, 10, 11, 13, 14, 58] ⟨86, [(4, .p (some (ic + 1, 0, 0))), (7, .p (some (il, 0, 0))), (9, .i .i64 3), (10, .i .i64 0), (11, .i .i64 E), (13, .i .i64 E), (14, .i .i64 E), (58, .b false)]⟩ H' (fun K hk => ?_) ?_ -- region 13
  · simp [init_eq, aload, r1, take_cells]
    refine ACalls.mono (check_ok ..) fun r H' ⟨hr, e⟩ => ?_ -- hallmoot/cert.Check
    subst hr e
    by_cases g1 : c.check = 0
    · by_cases g2 : c.kind = 0
      · simpa [g1, g2, afieldAddr, aload, r1] using hk
      · simpa [g1, g2, afieldAddr, aload, r1] using hk
    · simpa [g1] using hk
  refine AW_condF rfl ?_
  refine AW_skip ?_
  refine AW_seq ?_
  refine AW_regto [6] ⟨86, [(6, .b true)]⟩ H' (fun K hk => ?_) ?_ -- region 15
  · simp [init_eq, aload, r2, tmo_take]
    refine ACalls.mono (rtimeout_ok ..) fun r H' ⟨hr, e⟩ => ?_ -- hallmoot/hallmootref12.Timeout
    subst hr e
    cases ht : t.ok
    · simpa using hk
    · simp [aload, r2, r4, tmo_take]
      refine ACalls.mono (timeout_nil _ t ht) fun r H' ⟨hr, e⟩ => ?_ -- (hallmoot/valid.Law).Timeout
      subst hr e
      simpa using hk
  exact AW_ret (end_ret rfl rfl)
theorem validNil_law (H : AH) (vs : List V) (hv : TVals Tryz.prog H Tryz.f5.params.toList vs) : ACalls Tryz.prog 5 vs H fun r _ => r = .b true := by
  have hv' : TVals Tryz.prog H [29, 69, 33] vs := hv
  clear hv
  rcases vs with _ | ⟨a, _ | ⟨b, _ | ⟨d, _ | ⟨z, r⟩⟩⟩⟩
  · exact hv'.elim
  · exact hv'.2.elim
  · exact hv'.2.2.elim
  · obtain ⟨l, rfl, _, h⟩ := hv'.1.struct Tryz.underlying29 cellsOf_29
    obtain ⟨c, rfl⟩ := tv_cert h
    obtain ⟨l, rfl, _, h⟩ := hv'.2.1.struct Tryz.underlying69 cellsOf_69
    obtain ⟨t, rfl⟩ := tv_tmo h
    obtain ⟨l, rfl, _, h⟩ := hv'.2.2.1.struct Tryz.underlying33 cellsOf_33
    obtain ⟨x, pa, ta, rfl, hb⟩ := tv_blk h
    exact validnil_law H c t hb
  · exact hv'.2.2.2.elim
end Go.Proofs.YtmhaimdpfelkpaaGreatDoor
