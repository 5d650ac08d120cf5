/-
  MsgFirst: the law says true of every message, every cut and every text behind it.
-/
import Derived.Test.YtfhbdbjgmcopjaaDoorMsgBack
set_option linter.unusedVariables false
set_option linter.unusedSimpArgs false
namespace Go.Proofs.YtfhbdbjgmcopjaaDoor
open Go Go.Abs Go.Proofs
set_option maxRecDepth 100000
attribute [local irreducible] AEnd AW ACalls

theorem first_byte {m : Msg} (h : m.ok = true) : ∃ (b0 : UInt8) (r : List UInt8), m.bytes = b0 :: r ∧ (b0.toNat : Int) = m.kind := by
  unfold Msg.ok at h
  simp only [Bool.and_eq_true] at h
  have hk := Msg.kind_rng h.1
  refine ⟨UInt8.ofNat m.kind.toNat, m.bodyBytes, ?_, ?_⟩
  · unfold Msg.bytes; rw [numB_lt (by omega)]; rfl
  · have : (UInt8.ofNat m.kind.toNat).toNat = m.kind.toNat := by
      simp
      omega
    rw [this]; omega
set_option maxHeartbeats 4000000 in
theorem first_law (H : AH) {m : Msg} {lv pv tv : V} (hm : MsgAt H m lv pv tv) (cut : Int) (hcut : 0 ≤ cut ∧ cut ≤ 65535) (rest : List UInt8) : ACalls Tryd.prog 5 [.agg (m.cells lv pv tv), .i .u16 cut, .s rest] H fun r H' => r = .b true := by
  refine ACalls_body Tryd.func5 rfl rfl ?_
  refine AW_seq ?_
  refine AW_reg [1, 2, 3] fun K hK => ?_ -- region 0
  simp [init_eq, V.cells]
  obtain ⟨H1, e1, hp, hn, ho⟩ := H.boxed (m.cells lv pv tv)
  rw [e1]
  refine hK _ _ ?_; clear hK K
  have hm1 := hm.same ho
  refine AW_seq ?_
  refine AW_seq ?_
  refine AW_reg [1, 2, 3, 14] fun K hK => ?_ -- region 1
  simp [init_eq]
  refine ACalls.mono (alive_ok ..) fun r H' ⟨hr, e⟩ => ?_ -- hallmoot/hallmootlaw14.alive
  subst hr e
  simp
  refine hK _ _ ?_; clear hK K
  refine AW_cond' rfl rfl (fun hc => ?_) (fun hc => ?_)
  · cases hc
  refine AW_skip ?_
  refine AW_seq ?_
  refine AW_seq ?_
  refine AW_regto [1, 2, 3, 21] ⟨67, [(1, .i .u16 cut), (2, .s rest), (3, .p (some (H.next, 0, 0))), (21, .b (m.great || decide (1000 < rest.length)))]⟩ H' (fun K hk => ?_) ?_ -- region 3
  · simp [init_eq, aload, hp, msg_take]
    refine ACalls.mono (greatMsg_ok H' hm1) fun r H2 ⟨hr, e⟩ => ?_
    subst hr e
    cases h1 : m.great
    · by_cases k : 1000 < rest.length
      · have k2 : (1000 : Int) < rest.length := by omega
        simpa [h1, k, k2, alen] using hk
      · have k2 : ¬ (1000 : Int) < rest.length := by omega
        simpa [h1, k, k2, alen] using hk
    · simpa [h1] using hk
  refine AW_cond' rfl rfl (fun hc => ?_) (fun hc => ?_)
  · refine AW_seq ?_
    refine AW_reg [6] fun K hK => ?_ -- region 4
    simp [init_eq]
    refine hK _ _ ?_; clear hK K
    refine AW_ret (end_ret rfl ?_)
    simp
  have hg : m.great = false ∧ rest.length ≤ 1000 := by simpa using hc
  have hf := great_fit hg.1
  refine AW_skip ?_
  refine AW_seq ?_
  refine AW_reg [1, 2, 3, 7, 8] fun K hK => ?_ -- region 5
  simp [init_eq, aload, hp, msg_take]
  refine ACalls.mono (mbytes_ok H' hm1 hf) fun r H2 ⟨hr, e⟩ => ?_ -- hallmoot/msg.Bytes
  subst hr e
  try simp
  refine hK _ _ ?_; clear hK K
  refine AW_seq ?_
  refine AW_seq ?_
  refine AW_reg [1, 2, 3, 7, 28] fun K hK => ?_ -- region 6
  simp [init_eq]
  refine hK _ _ ?_; clear hK K
  refine AW_cond' rfl rfl (fun hc => ?_) (fun hc => ?_)
  · refine AW_seq ?_
    refine AW_reg [6] fun K hK => ?_ -- region 7
    simp [init_eq]
    refine hK _ _ ?_; clear hK K
    refine AW_ret (end_ret rfl ?_)
    simp
  obtain ⟨hok, hlen, hw⟩ := wr_ok (m := m) (by simpa using hc)
  rw [hw]
  obtain ⟨b0, r0, hb, hk0⟩ := first_byte hok
  have hless := @parseMsg_less m hok
  have hmore := @parseMsg_more m hok
  have hsame := parseMsg_ok hok hlen
  generalize m.bytes = s at *
  have hpos : 0 < s.length := by rw [hb]; simp
  have hne : ¬ (s.length : Int) = 0 := by omega
  have hne2 : ¬ s = [] := fun h => by rw [h] at hpos; cases hpos
  have hidx : aindex Tryd.prog 9 (.s s) (.i .i64 0) = some (.i .u8 b0.toNat) := by
    rw [hb]; simp [aindex, qstr_9]
  have hcv1 : aconvert Tryd.prog H2 5 3 (.i .u8 b0.toNat) = some (.i .i64 m.kind, H2) := by
    rw [hk0]
    have hkk : b0.toNat < 256 := UInt8.toNat_lt _
    simp [aconvert, Tryd.underlying5, Tryd.underlying3, wrap_id (x := m.kind) (by omega) (by omega)]
  refine AW_skip ?_
  refine AW_seq ?_
  refine AW_seq ?_
  refine AW_regdto [1, 2, 7, 39] pl_5_8 pe_5_8 ⟨67, [(1, .i .u16 cut), (2, .s rest), (7, .s s), (39, .b false)]⟩ H2 (by kernel_rfl) (by kernel_rfl) (by decide) (fun K hk => ?_) ?_
  · simpa [init_eq, pl_5_8, alen, hne, hne2, hidx, hcv1, afieldAddr, aload, hp] using hk
  refine AW_cond' rfl rfl (fun hc => ?_) (fun hc => ?_)
  · cases hc
  -- the beginning
  have hq0 : 0 ≤ cut.tmod s.length ∧ cut.tmod s.length < s.length := by
    rw [Int.tmod_eq_emod_of_nonneg hcut.1]
    exact ⟨Int.emod_nonneg _ (by omega), Int.emod_lt_of_pos _ (by omega)⟩
  obtain ⟨c, hc1⟩ : ∃ c : Nat, cut.tmod s.length = c := ⟨(cut.tmod s.length).toNat, by omega⟩
  have hcl : c < s.length := by omega
  have hcv2 : aconvert Tryd.prog H2 46 3 (.i .u16 cut) = some (.i .i64 cut, H2) := by
    simp [aconvert, Tryd.underlying46, Tryd.underlying3, wrap_id (x := cut) (by omega) (by omega)]
  have hrem : aint .rem .i64 cut s.length = some (.i .i64 (c : Int)) := by unfold aint; simp only []; rw [if_neg hne, hc1]
  have hsl : aslice Tryd.prog H2 9 (.s s) none (some (.i .i64 c)) none = some (.s (s.take c)) := by
    have h3 : c ≤ s.length := by omega
    have h4 : (c : Int) ≤ s.length := by omega
    simp [aslice, abound, h3, h4, qstr_9]
  refine AW_skip ?_
  refine AW_seq ?_
  refine AW_reg [2, 7, 10] fun K hK => ?_ -- region 10
  simp [init_eq, hcv2, alen, hrem, hsl]
  refine ACalls.mono (mparse_ok H2 (s.take c)) fun r H3 hr => ?_ -- hallmoot/msg.Parse
  obtain ⟨lv', pv', tv', rfl, hm3, u3⟩ := hr
  have hbad : (parseMsg (s.take c)).2 ≠ 0 := hless (l := s.take c) (r := s.drop c) (List.take_append_drop c s).symm (fun h => by
    have := congrArg List.length h
    simp at this
    omega)
  generalize parseMsg (s.take c) = q at *
  obtain ⟨B, x⟩ := q
  simp only at hbad hm3 ⊢
  simp [astore, AH.get_new, V.cells]
  refine hK _ _ ?_; clear hK K
  generalize AH.set _ H3.next _ = G
  -- what goes on behind its end
  have hcat : astr .add s rest = some (.s (s ++ rest)) := cat_ok (by omega)
  refine AW_seq ?_
  refine AW_reg [2, 10, 12] fun K hK => ?_ -- region 11
  simp [init_eq, abin, hcat]
  refine ACalls.mono (mparse_ok G (s ++ rest)) fun r H4 hr => ?_ -- hallmoot/msg.Parse
  obtain ⟨lw, pw, tw, rfl, hm4, u4⟩ := hr
  have hiff : (parseMsg (s ++ rest)).2 = 0 ↔ rest = [] := by
    constructor
    · intro h0
      apply Classical.byContradiction
      intro hr
      exact hmore hr h0
    · rintro rfl
      rw [List.append_nil, hsame]
  generalize parseMsg (s ++ rest) = q at *
  obtain ⟨C, y⟩ := q
  simp only at hiff hm4 ⊢
  simp [astore, AH.get_new, V.cells]
  refine hK _ _ ?_; clear hK K
  generalize AH.set _ H4.next _ = G2
  refine AW_seq ?_
  refine AW_regto [6] ⟨67, [(6, .b true)]⟩ G2 (fun K hk => ?_) (AW_ret (end_ret rfl rfl)) -- region 12
  by_cases h1 : rest = []
  · have h2 : y = 0 := hiff.2 h1
    simpa [init_eq, hbad, h1, h2] using hk
  · have h2 : ¬ y = 0 := fun h => h1 (hiff.1 h)
    simpa [init_eq, hbad, h1, h2] using hk
theorem msgFirst_law (H : AH) (vs : List V) (hv : TVals Tryd.prog H Tryd.f5.params.toList vs) : ACalls Tryd.prog 5 vs H fun r _ => r = .b true := by
  have hv' : TVals Tryd.prog H [34, 46, 9] vs := hv
  clear hv
  rcases vs with _ | ⟨a, _ | ⟨b, _ | ⟨c, _ | ⟨z, r⟩⟩⟩⟩
  · exact hv'.elim
  · exact hv'.2.elim
  · exact hv'.2.2.elim
  · obtain ⟨l, rfl, _, h⟩ := hv'.1.struct Tryd.underlying34 cellsOf_34
    obtain ⟨x, la, pa, ta, rfl, ha⟩ := tv_msg h
    obtain ⟨k, rfl, k1, k2⟩ := hv'.2.1.i Tryd.underlying46
    obtain ⟨s, rfl, _⟩ := hv'.2.2.1.s Tryd.underlying9
    exact first_law H ha k ⟨k1, k2⟩ s
  · exact hv'.2.2.2.elim
end Go.Proofs.YtfhbdbjgmcopjaaDoor
