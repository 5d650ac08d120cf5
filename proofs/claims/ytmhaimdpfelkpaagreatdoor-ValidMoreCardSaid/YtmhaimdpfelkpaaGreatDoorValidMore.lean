/-
  ValidMore: the law says true.
-/
import Derived.Test.YtmhaimdpfelkpaaGreatDoorValid16
import Derived.Test.YtmhaimdpfelkpaaGreatDoorValid17
import Derived.Test.YtmhaimdpfelkpaaGreatDoorTxtG
import Derived.Test.YtmhaimdpfelkpaaGreatDoorValidAlive
set_option linter.unusedVariables false
set_option linter.unusedSimpArgs false
namespace Go.Proofs.YtmhaimdpfelkpaaGreatDoor
open Go Go.Abs Go.Proofs
set_option maxRecDepth 100000
attribute [local irreducible] AEnd AW ACalls

theorem validmore_law (H : AH) {i : InD} {l : List V} (hi : InAt H i l) (c : Cert) (k : Int) : ACalls Tryz.prog 7 [.agg l, .agg c.cells, .i .i64 k] H fun r H' => r = .b true := by
  refine ACalls_body Tryz.func7 rfl rfl ?_
  repeat refine AW_seq ?_
  refine AW_reg [2, 3, 4] fun K hK => ?_ -- region 0
  simp [init_eq, V.cells]
  obtain ⟨H1, e1, hp, hp2, hn, ho⟩ := H.boxed2 l c.cells
  rw [e1]
  refine hK _ _ ?_; clear hK K
  have hi1 := hi.same ho
  have hl6 : l.length = 6 := by obtain ⟨vb, vc, vs, vk, e, _⟩ := hi.ex; rw [e]; rfl
  have hlt6 : l.take 6 = l := List.take_of_length_le (by omega)
  clear e1
  generalize ha : H.next = a at *
  repeat refine AW_seq ?_
  refine AW_reg [2, 3, 4, 13] fun K hK => ?_ -- region 1
  simp [init_eq]
  refine ACalls.mono (alive_ok ..) fun r H' ⟨hr, e⟩ => ?_ -- hallmoot/hallmootlaw13.alive
  subst hr e
  try simp
  refine hK _ _ ?_; clear hK K
  refine AW_condF rfl ?_
  refine AW_skip ?_
  repeat refine AW_seq ?_
  refine AW_regto [2, 3, 4, 23] ⟨66, [(2, .i .i64 k), (3, .p (some (a, 0, 0))), (4, .p (some (a + 1, 0, 0))), (23, .b (farB i || decide (k < 0 ∨ 31 < k)))]⟩ H' (fun K hk => ?_) ?_ -- region 3
  · simp [init_eq, aload, hp, hl6, hlt6]
    refine ACalls.mono (far_ok H' hi1) fun r H2 ⟨hr, e⟩ => ?_ -- hallmoot/hallmootlaw13.Far
    subst hr e
    cases g1 : farB i
    · by_cases g2 : k < 0
      · simpa [g1, g2] using hk
      · simpa [g1, g2] using hk
    · simpa [g1] using hk
  refine AW_cond' rfl rfl (fun hc => ?_) (fun hc => ?_)
  · repeat refine AW_seq ?_
    refine AW_reg [6] fun K hK => ?_ -- region 4
    simp [init_eq]
    refine hK _ _ ?_; clear hK K
    exact AW_ret (end_ret rfl rfl)
  have hfar : farB i = false := by simp at hc; exact hc.1
  have hk0 : 0 ≤ k ∧ k < 32 := by simp at hc; omega
  obtain ⟨n, rfl⟩ : ∃ n : Nat, k = n := ⟨k.toNat, by omega⟩
  have hn32 : n < 32 := by omega
  clear hc
  refine AW_skip ?_
  repeat refine AW_seq ?_
  refine AW_reg [2, 4, 7, 9] fun K hK => ?_ -- region 5
  simp [init_eq, aload, hp, hl6, hlt6]
  refine ACalls.mono (laws_ok H' hi1 hfar) fun r H2 hr => ?_ -- hallmoot/hallmootlaw13.Laws
  rcases hr with ⟨rfl, u2⟩ | ⟨ib, is, ic, jb, js, jc, FB, FS, FC, GB, GS, GC, rfl, L⟩
  · simp [V.cells, astore, AH.get_new, AH.get_set]
    refine hK _ _ ?_; clear hK K
    repeat refine AW_seq ?_
    refine AW_reg [2, 4, 7, 42] fun K hK => ?_ -- region 6
    simp [init_eq]
    refine hK _ _ ?_; clear hK K
    refine AW_condT rfl ?_
    repeat refine AW_seq ?_
    refine AW_reg [6] fun K hK => ?_ -- region 7
    simp [init_eq]
    refine hK _ _ ?_; clear hK K
    exact AW_ret (end_ret rfl rfl)
  simp [V.cells, astore, AH.get_new, AH.get_set]
  refine hK _ _ ?_; clear hK K
  generalize hG : AH.set _ (H2.next + 1) _ = G
  have x1 : G.get H2.next = some (.cells (lawV ib is ic) 0 false 0) := by
    rw [← hG, AH.get_set_ne (by omega), AH.get_set_same (by simp; omega)]; rfl
  have ko : ∀ j, j < H2.next → G.get j = H2.get j := fun j hj => by rw [← hG]; simp [AH.get_set, AH.get_new, show j ≠ H2.next by omega, show j ≠ H2.next + 1 by omega]
  have kn : G.next = H2.next + 2 := by rw [← hG]; simp
  clear hG
  have u3 : Upd H2 G [] := ⟨by omega, fun j hj _ => ko j hj⟩
  have hL := L.law.upd u3
  have hpc : G.get (a + 1) = some (.cells c.cells 0 false 0) := (L.upd.trans u3 (by simp)).keep (by simp) hp2
  have hFC : ∀ j ∈ FC, H'.next ≤ j ∧ j < H2.next := fun j hj => ⟨L.new FC (by simp) j hj, L.law.coin.lt j hj⟩
  generalize regOf i = d at hL
  clear ko
  generalize hy : H2.next = y at *
  have hd1 : aload Tryz.prog G 41 (.p (some (y, 0, 0))) = some (.agg (lawV ib is ic)) := by simp [aload, x1]
  have hd2 : aload Tryz.prog G 29 (.p (some (a + 1, 0, 0))) = some (.agg c.cells) := by simp [aload, hpc, take_cells]
  repeat refine AW_seq ?_
  refine AW_reg [2, 4, 7, 42] fun K hK => ?_ -- region 6
  simp [init_eq, hd1, hd2]
  refine ACalls.mono (lawCert_ok G hL c) fun r G1 ⟨hr, hL1, uc⟩ => ?_ -- (hallmoot/valid.Law).Cert
  subst hr
  have hya : y ∉ FC := fun h => by have := hFC _ h; omega
  have haa : a + 1 ∉ FC := fun h => by have := hFC _ h; omega
  have y1 := uc.keep hya x1
  have c1 := uc.keep haa hpc
  by_cases g1 : (certR d c).1 = 0
  case neg =>
    simp [g1]
    refine hK _ _ ?_; clear hK K
    refine AW_condT rfl ?_
    repeat refine AW_seq ?_
    refine AW_reg [6] fun K hK => ?_ -- region 7
    simp [init_eq]
    refine hK _ _ ?_; clear hK K
    exact AW_ret (end_ret rfl rfl)
  by_cases g2 : c.kind = 0
  · simp [g1, afieldAddr, aload, c1, g2]
    refine hK _ _ ?_; clear hK K
    refine AW_condT rfl ?_
    repeat refine AW_seq ?_
    refine AW_reg [6] fun K hK => ?_ -- region 7
    simp [init_eq]
    refine hK _ _ ?_; clear hK K
    exact AW_ret (end_ret rfl rfl)
  simp [g1, afieldAddr, aload, c1, g2]
  refine hK _ _ ?_; clear hK K
  refine AW_condF rfl ?_
  refine AW_skip ?_
  have hd3 : aload Tryz.prog G1 29 (.p (some (a + 1, 0, 0))) = some (.agg c.cells) := by simp [aload, c1, take_cells]
  repeat refine AW_seq ?_
  refine AW_reg [2, 4, 7, 10] fun K hK => ?_ -- region 8
  simp [init_eq, hd3, V.cells, astore, AH.get_new]
  refine hK _ _ ?_; clear hK K
  generalize hG2 : AH.set _ G1.next _ = G2
  have m1 : G2.get G1.next = some (.cells c.cells 0 false 0) := by rw [← hG2]; simp [AH.get_set]; exact splice_all rfl
  have mo : ∀ j, j < G1.next → G2.get j = G1.get j := fun j hj => by rw [← hG2, AH.get_set_ne (by omega), AH.get_new, if_neg (by omega)]
  have mn : G2.next = G1.next + 1 := by rw [← hG2]; simp
  clear hG2
  have u4 : Upd G1 G2 [] := ⟨by omega, fun j hj _ => mo j hj⟩
  have hL2 := hL1.upd u4
  have y2 := u4.keep (by simp) y1
  have c2 := u4.keep (by simp) c1
  have hbm : G1.next < G2.next := by omega
  generalize hm : G1.next = m at *
  repeat refine AW_seq ?_
  refine AW_reg [2, 4, 7, 10] fun K hK => ?_ -- region 9
  simp [init_eq, afieldAddr, aload, c2]
  refine ACalls.mono (put_ok G2 c.signers n) fun r G3 ⟨hr, e⟩ => ?_ -- hallmoot/quorum.Put
  rw [if_pos (by omega)] at hr
  subst hr e
  have hsp : splice c.cells 6 [u32 (c.signers ||| 1#32 <<< n)] = (c.more n).cells := rfl
  simp [astore, m1, u32_cells, hsp]
  refine hK _ _ ?_; clear hK K
  generalize hG4 : G3.set m _ = G4
  have v1 : G4.get m = some (.cells (c.more n).cells 0 false 0) := by rw [← hG4, AH.get_set]; simp [hbm]
  have u5 : Upd G3 G4 [m] := by rw [← hG4]; exact Upd.set _ _ _ (by simp)
  clear hG4
  have hmF : ∀ A ∈ [FB, FS, FC], ∀ j ∈ A, j ∉ [m] := fun A hA j hj => by
    have : j < m := by
      rw [← hm]
      simp only [List.mem_cons, List.not_mem_nil, or_false] at hA
      rcases hA with rfl | rfl | rfl
      · exact hL1.book.lt j hj
      · exact hL1.sign.lt j hj
      · exact hL1.coin.lt j hj
    simp; omega
  have hL4 : LawAt G4 ib is ic FB FS FC { d with co := (certR d c).2 } := ⟨hL2.book.upd u5 (hmF _ (by simp)), hL2.sign.upd u5 (hmF _ (by simp)), hL2.coin.upd u5 (hmF _ (by simp)), hL2.bs, hL2.bc, hL2.sc, hL2.len, hL2.txt⟩
  have hym : y ≠ m := by have := AH.get_lt y1; omega
  have ham : a + 1 ≠ m := by have := AH.get_lt c1; omega
  have y3 := u5.keep (by simpa using hym) y2
  have c3 := u5.keep (by simpa using ham) c2
  have hd5 : aload Tryz.prog G4 29 (.p (some (a + 1, 0, 0))) = some (.agg c.cells) := by simp [aload, c3, take_cells]
  have hd6 : aload Tryz.prog G4 29 (.p (some (m, 0, 0))) = some (.agg (c.more n).cells) := by simp [aload, v1, take_cells]
  have hd7 : aload Tryz.prog G4 41 (.p (some (y, 0, 0))) = some (.agg (lawV ib is ic)) := by simp [aload, y3]
  have hd8 : aload Tryz.prog G4 38 (.p (some (y, 0, 1))) = some (.p (some (is, 0, 0))) := by simp [aload, y3]
  have hab : abuild Tryz.prog 60 [(0, .i .i64 (n : Int)), (1, .agg c.stm.cells)] = some (.agg (Shr.cells ⟨(n : Int), c.stm⟩)) := by
    simp [abuild, afill, V.cells, splice_zero, splice_succ, Stm.cells, Shr.cells, splice]
  repeat refine AW_seq ?_
  refine AW_regd [7, 10, 11] pl_7_10 pe_7_10 (by kernel_rfl) (by kernel_rfl) (by decide) fun K hK => ?_
  simp [init_eq, pl_7_10, afieldAddr, hd8, hd5]
  refine ACalls.mono (certStmt_ok ..) fun r G5 ⟨hr, e⟩ => ⟨e ▸ AH.ext.refl _, ?_⟩ -- hallmoot/cert.Stmt
  subst hr e
  simp [hab]
  refine ACalls.mono (counts_ok G5 hL4.sign _) fun r G6 ⟨hr, e⟩ => ?_ -- (*hallmoot/sign.Sign).Counts
  subst hr e
  try simp
  refine hK _ _ ?_; clear hK K
  repeat refine AW_seq ?_
  refine AW_reg [6] fun K hK => ?_ -- region 11
  simp [init_eq, hd7, hd6]
  refine ACalls.mono (lawCert_ok G6 hL4 (c.more n)) fun r G7 ⟨hr, hL7, uc7⟩ => ?_ -- (hallmoot/valid.Law).Cert
  subst hr
  have hlaw := more_law d c hn32 g2 g1
  try simp
  refine hK _ _ ?_; clear hK K
  refine AW_ret (end_ret rfl ?_)
  by_cases g3 : cntsE d.f d.bad d.sh ⟨(n : Int), c.stm⟩ = 0
  · have g4 := hlaw.2 g3
    simp [g3, g4]
  · have g4 : ¬ (certR { d with co := (certR d c).2 } (c.more n)).1 = 0 := fun h => g3 (hlaw.1 h)
    simp [g3, g4]
theorem validMore_law (H : AH) (vs : List V) (hv : TVals Tryz.prog H Tryz.f7.params.toList vs) : ACalls Tryz.prog 7 vs H fun r _ => r = .b true := by
  have hv' : TVals Tryz.prog H [27, 29, 3] vs := hv
  clear hv
  rcases vs with _ | ⟨a, _ | ⟨b, _ | ⟨d, _ | ⟨z, r⟩⟩⟩⟩
  · exact hv'.elim
  · exact hv'.2.elim
  · exact hv'.2.2.elim
  · obtain ⟨l, rfl, _, h⟩ := hv'.1.struct Tryz.underlying27 cellsOf_27
    obtain ⟨i, hi⟩ := tv_in h
    obtain ⟨l, rfl, _, h⟩ := hv'.2.1.struct Tryz.underlying29 cellsOf_29
    obtain ⟨c, rfl⟩ := tv_cert h
    obtain ⟨n, rfl, _⟩ := hv'.2.2.1.i Tryz.underlying3
    exact validmore_law H hi c n
  · exact hv'.2.2.2.elim
end Go.Proofs.YtmhaimdpfelkpaaGreatDoor
