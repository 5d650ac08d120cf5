/-
  BlockBack: the law says true of every block and every text.
-/
import Derived.Test.YtnfnkmodcjkabaaDoorRead8
import Derived.Test.YtnfnkmodcjkabaaDoorArgBlk
import Derived.Test.YtnfnkmodcjkabaaDoorBytes4
import Derived.Test.YtnfnkmodcjkabaaDoorBlockAlive
set_option linter.unusedVariables false
set_option linter.unusedSimpArgs false
namespace Go.Proofs.YtnfnkmodcjkabaaDoor
open Go Go.Abs Go.Proofs
set_option maxRecDepth 100000
attribute [local irreducible] AEnd AW ACalls

theorem small_of_err {b : Blk} (h : b.err = 0) : b.small := by
  have hR := Blk.rng h
  exact ⟨by have := hR.proof; omega, by have := hR.txs; omega, fun t ht => (Tx.rng (hR.each t ht)).small⟩
theorem bytes_small {b : Blk} (h : b.err = 0) : b.bytes.length ≤ 100000000000 := by
  have hR := Blk.rng h
  have i1 := hR.view; have i2 := hR.round; have i3 := hR.height; have i4 := hR.author; have i5 := hR.proof; have i6 := hR.txs
  have ln1 := numB_len9 (n := b.view.toNat) (by omega)
  have ln2 := numB_len9 (n := b.round.toNat) (by omega)
  have ln3 := numB_len9 (n := b.height.toNat) (by omega)
  have ln4 := numB_len9 (n := b.author.toNat) (by omega)
  have ln5 := numB_len9 (n := b.proof.length) (by omega)
  have ln6 := numB_len9 (n := b.txs.length) (by omega)
  have lc := Cert.bytes_len (Cert.rng hR.parent)
  have lp := flat_len (f := Tmo.bytes) (k := 81) b.proof fun t ht => by
    have := hR.tmos t ht; exact Tmo.bytes_len this.1 this.2
  have lt := flat_len (f := Tx.bytes) (k := 500) b.txs fun t ht => Tx.bytes_len (Tx.rng (hR.each t ht))
  unfold Blk.bytes
  simp only [List.length_append]
  omega
theorem zero_small : Blk.zero.small := ⟨by decide, by decide, by simp [Blk.zero]⟩
set_option maxHeartbeats 4000000 in
theorem back_law (H : AH) {b : Blk} {pv tv : V} (hb : BlkAt H b pv tv) (s : List UInt8) : ACalls Tryd.prog 5 [.agg (b.cells pv tv), .s s] H fun r H' => r = .b true := by
  have hab : abuild Tryd.prog 28 [] = some (.agg (Blk.zero.cells nilSl nilSl)) := by simp [abuild, afill]; rfl
  refine ACalls_body Tryd.func5 rfl rfl ?_
  refine AW_seq ?_
  refine AW_reg [1, 2] fun K hK => ?_ -- region 0
  simp [init_eq, V.cells]
  obtain ⟨H1, e1, hp, hn, ho⟩ := H.boxed (b.cells pv tv)
  rw [e1]
  refine hK _ _ ?_; clear hK K
  have hb1 := hb.same ho
  refine AW_seq ?_
  refine AW_seq ?_
  refine AW_reg [1, 2, 14] fun K hK => ?_ -- region 1
  simp [init_eq]
  refine ACalls.mono (alive_ok ..) fun r H' ⟨hr, e⟩ => ?_ -- hallmoot/hallmootlaw12.alive
  subst hr e
  simp
  refine hK _ _ ?_; clear hK K
  refine AW_cond' rfl rfl (fun hc => ?_) (fun hc => ?_)
  · cases hc
  refine AW_skip ?_
  refine AW_seq ?_
  refine AW_seq ?_
  refine AW_regto [1, 2, 21] ⟨66, [(1, .s s), (2, .p (some (H.next, 0, 0))), (21, .b (b.great || decide (6000 < s.length)))]⟩ H' (fun K hk => ?_) ?_ -- region 3
  · simp [init_eq, aload, hp, blk_take]
    refine ACalls.mono (greatBlk_ok H' hb1) fun r H2 ⟨hr, e⟩ => ?_
    subst hr e
    cases h1 : b.great
    · by_cases k : 6000 < s.length
      · have k2 : (6000 : Int) < s.length := by omega
        simpa [h1, k, k2, alen] using hk
      · have k2 : ¬ (6000 : Int) < s.length := by omega
        simpa [h1, k, k2, alen] using hk
    · simpa [h1] using hk
  refine AW_cond' rfl rfl (fun hc => ?_) (fun hc => ?_)
  · refine AW_seq ?_
    refine AW_reg [4] fun K hK => ?_ -- region 4
    simp [init_eq]
    refine hK _ _ ?_; clear hK K
    refine AW_ret (end_ret rfl ?_)
    simp
  have hg : b.great = false ∧ s.length ≤ 6000 := by simpa using hc
  have hs : b.small := Blk.small_of hg.1
  refine AW_skip ?_
  refine AW_seq ?_
  refine AW_reg [1, 2, 5, 6] fun K hK => ?_ -- region 5
  simp [init_eq, aload, hp, blk_take]
  refine ACalls.mono (bbytes_ok H' hb1 hs) fun r H2 hr => ?_ -- hallmoot/block.Bytes
  have key : ∃ w x, r = .tup [w, .i .i64 x] ∧ Upd H' H2 [] ∧ x = b.err ∧ (b.err = 0 → Sl H2 w 1 (bytesV b.bytes)) := by
    rcases hr with ⟨h1, h2, h3⟩ | ⟨h1, w, h2, F, h3, h4, h5⟩
    · exact ⟨_, _, h2, h3, rfl, fun h => absurd h h1⟩
    · exact ⟨_, _, h2, h4, h1.symm, fun _ => h3.sl⟩
  clear hr
  obtain ⟨w, x, rfl, hu, rfl, k2⟩ := key
  try simp
  refine hK _ _ ?_; clear hK K
  have hp2 := hu.keep (by simp) hp
  have hb2 : BlkAt H2 b pv tv := ⟨hb1.pf.upd hu, hb1.tx.upd hu⟩
  refine AW_cut (fun ρ G => ρ = ⟨66, [(1, .s s)]⟩) ?_ ?_
  · refine AW_seq ?_
    refine AW_reg [1, 2, 5, 28] fun K hK => ?_ -- region 6
    simp [init_eq]
    refine hK _ _ ?_; clear hK K
    refine AW_cond' rfl rfl (fun hc => ?_) (fun hc => ?_)
    · have h0 : b.err = 0 := by simpa using hc
      have hcv : aconvert Tryd.prog H2 33 9 w = some (.s b.bytes, H2) := conv_text qbs_33 qstr_9 (k2 h0)
      have hlen := bytes_small h0
      refine AW_seq ?_
      refine AW_reg [1, 2, 7, 8] fun K hK => ?_ -- region 7
      simp [init_eq, hcv]
      refine ACalls.mono (parse_ok H2 b.bytes hlen) fun r H3 hr => ?_ -- hallmoot/block.Parse
      rw [parseBlk_ok h0] at hr
      obtain ⟨pv', tv', rfl, hb3, u3⟩ := hr
      have hp3 := u3.keep (by simp) hp2
      have hbm : BlkAt H3 b pv tv := ⟨hb2.pf.upd u3, hb2.tx.upd u3⟩
      simp [astore, AH.get_new, V.cells]
      refine hK _ _ ?_; clear hK K
      generalize hG : AH.set _ H3.next _ = G
      have k5 : G.get H3.next = some (.cells (b.cells pv' tv') 0 false 0) := by
        rw [← hG]; simp [AH.get_set]; first | exact splice_all rfl | done
      have ug : Upd H3 G [] := ⟨by rw [← hG]; simp, fun j hj _ => by rw [← hG, AH.get_set_ne (by omega), AH.get_new, if_neg (by omega)]⟩
      have hp4 := ug.keep (by simp) hp3
      have hbG : BlkAt G b pv tv := ⟨hbm.pf.upd ug, hbm.tx.upd ug⟩
      have hbG' : BlkAt G b pv' tv' := ⟨hb3.pf.upd ug, hb3.tx.upd ug⟩
      refine AW_seq ?_
      refine AW_regto [1, 42] ⟨66, [(1, .s s), (42, .b false)]⟩ G (fun K hk => ?_) ?_ -- region 8
      · simp [init_eq, aload, hp4, k5, blk_take]
        refine ACalls.mono (sameBlk_ok G hbG hbG' hs.pf hs.tx) fun r H4 ⟨hr, e⟩ => ?_
        subst hr e
        simpa using hk
      refine AW_cond' rfl rfl (fun hc => ?_) (fun hc => ?_)
      · cases hc
      · refine AW_skip ?_
        exact rend ⟨_, by simp, rfl⟩
    · refine AW_skip ?_
      exact rend ⟨_, by simp, rfl⟩
  · rintro ρ G rfl
    refine AW_seq ?_
    refine AW_reg [1, 9, 10] fun K hK => ?_ -- region 10
    simp [init_eq]
    refine ACalls.mono (parse_ok G s (by omega)) fun r H3 hr => ?_ -- hallmoot/block.Parse
    obtain ⟨pv', tv', rfl, hb3, u3⟩ := hr
    have hbad := parseBlk_bad (l := s)
    have hinv := parseBlk_inv (l := s)
    generalize parseBlk s = q at *
    obtain ⟨B, x⟩ := q
    simp only at hb3 hbad hinv ⊢
    simp [astore, AH.get_new, V.cells]
    refine hK _ _ ?_; clear hK K
    generalize hG : AH.set _ H3.next _ = G2
    have k5 : G2.get H3.next = some (.cells (B.cells pv' tv') 0 false 0) := by
      rw [← hG]; simp [AH.get_set]; first | exact splice_all rfl | done
    have ug : Upd H3 G2 [] := ⟨by rw [← hG]; simp, fun j hj _ => by rw [← hG, AH.get_set_ne (by omega), AH.get_new, if_neg (by omega)]⟩
    have hbG : BlkAt G2 B pv' tv' := ⟨hb3.pf.upd ug, hb3.tx.upd ug⟩
    refine AW_seq ?_
    refine AW_seq ?_
    refine AW_reg [1, 9, 49] fun K hK => ?_ -- region 11
    simp [init_eq]
    refine hK _ _ ?_; clear hK K
    refine AW_cond' rfl rfl (fun hc => ?_) (fun hc => ?_)
    · have k1 : x ≠ 0 := by simpa using hc
      rw [hbad k1] at k5 hbG
      refine AW_seq ?_
      refine AW_reg [4] fun K hK => ?_ -- region 12
      simp [init_eq, aload, k5, blk_take, hab]
      refine ACalls.mono (sameBlk_ok G2 hbG (⟨RS.nil .., RS.nil ..⟩ : BlkAt G2 Blk.zero nilSl nilSl) (by decide) (by decide)) fun r H4 ⟨hr, e⟩ => ?_
      subst hr e
      try simp
      refine hK _ _ ?_; clear hK K
      refine AW_ret (end_ret rfl ?_)
      simp
    · have k1 : x = 0 := by simpa using hc
      have hi := hinv k1
      refine AW_skip ?_
      refine AW_seq ?_
      refine AW_reg [1, 11, 12] fun K hK => ?_ -- region 13
      simp [init_eq, aload, k5, blk_take]
      refine ACalls.mono (bbytes_ok G2 hbG (small_of_err hi.1)) fun r H4 hr => ?_ -- hallmoot/block.Bytes
      rcases hr with ⟨h1, h2, h3⟩ | ⟨h1, w', rfl, F, h3, h4, h5⟩
      · exact absurd hi.1 h1
      rw [hi.2] at h3
      have hcv : aconvert Tryd.prog H4 33 9 w' = some (.s s, H4) := conv_text qbs_33 qstr_9 h3.sl
      try simp
      refine hK _ _ ?_; clear hK K
      refine AW_seq ?_
      refine AW_reg [4] fun K hK => ?_ -- region 14
      simp [init_eq, hcv]
      refine hK _ _ ?_; clear hK K
      refine AW_ret (end_ret rfl ?_)
      simp
theorem blockBack_law (H : AH) (vs : List V) (hv : TVals Tryd.prog H Tryd.f5.params.toList vs) : ACalls Tryd.prog 5 vs H fun r _ => r = .b true := by
  have hv' : TVals Tryd.prog H [28, 9] vs := hv
  clear hv
  rcases vs with _ | ⟨a, _ | ⟨b, _ | ⟨z, r⟩⟩⟩
  · exact hv'.elim
  · exact hv'.2.elim
  · obtain ⟨l, rfl, _, h⟩ := hv'.1.struct Tryd.underlying28 cellsOf_28
    obtain ⟨x, pa, ta, rfl, ha⟩ := tv_blk h
    obtain ⟨s, rfl, _⟩ := hv'.2.1.s Tryd.underlying9
    exact back_law H ha s
  · exact hv'.2.2.elim
end Go.Proofs.YtnfnkmodcjkabaaDoor
