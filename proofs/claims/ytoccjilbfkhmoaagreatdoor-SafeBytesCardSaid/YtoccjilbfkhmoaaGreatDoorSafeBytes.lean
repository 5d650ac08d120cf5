/-
  SafeBytes: the walk.
-/
import Derived.Test.YtoccjilbfkhmoaaGreatDoorSafeAlive
import Derived.Test.YtoccjilbfkhmoaaGreatDoorSafe4
import Derived.Test.YtoccjilbfkhmoaaGreatDoorSafe7
set_option linter.unusedVariables false
set_option linter.unusedSimpArgs false
namespace Go.Proofs.YtoccjilbfkhmoaaGreatDoor
open Go Go.Abs Go.Proofs
set_option maxRecDepth 100000
attribute [local irreducible] AEnd AW ACalls

theorem tv_srec {H : AH} {n : Nat} {l : List V} (h : TV Tryz.prog H (n + 3) 26 l) : ∃ r : SRec, l = r.cells := by
  obtain ⟨x0, e0, _⟩ := (h.fld Tryz.underlying26 0 rfl rfl rfl cellsOf_3).int Tryz.underlying3
  obtain ⟨c1, e1⟩ := tv_cert (h.fld Tryz.underlying26 1 rfl rfl rfl cellsOf_24)
  obtain ⟨c2, e2⟩ := tv_cert (h.fld Tryz.underlying26 2 rfl rfl rfl cellsOf_24)
  obtain ⟨x3, e3, b3⟩ := (h.fld Tryz.underlying26 3 rfl rfl rfl cellsOf_22).int Tryz.underlying22
  obtain ⟨x4, e4, _⟩ := (h.fld Tryz.underlying26 4 rfl rfl rfl cellsOf_3).int Tryz.underlying3
  obtain ⟨x5, e5, _⟩ := (h.fld Tryz.underlying26 5 rfl rfl rfl cellsOf_3).int Tryz.underlying3
  obtain ⟨x6, e6, _⟩ := (h.fld Tryz.underlying26 6 rfl rfl rfl cellsOf_3).int Tryz.underlying3
  obtain ⟨x7, e7, _⟩ := (h.fld Tryz.underlying26 7 rfl rfl rfl cellsOf_9).str Tryz.underlying9
  obtain ⟨s3, g3⟩ := u32_of b3.1 b3.2
  have hl := h.size Tryz.underlying26 cellsOf_26
  refine ⟨⟨x0, c1, c2, s3, x4, x5, x6, x7⟩, ?_⟩
  have hl : l.length = 22 := hl
  have e0 : (l.drop 0).take 1 = [.i .i64 x0] := e0
  have e1 : (l.drop 1).take 8 = c1.cells := e1
  have e2 : (l.drop 9).take 8 = c2.cells := e2
  have e3 : (l.drop 17).take 1 = [.i .u32 x3] := e3
  have e4 : (l.drop 18).take 1 = [.i .i64 x4] := e4
  have e5 : (l.drop 19).take 1 = [.i .i64 x5] := e5
  have e6 : (l.drop 20).take 1 = [.i .i64 x6] := e6
  have e7 : (l.drop 21).take 1 = [.s x7] := e7
  have cut : ∀ n m, l.drop n = (l.drop n).take m ++ l.drop (n + m) := fun n m => by
    rw [← List.drop_drop, List.take_append_drop]
  have d22 : l.drop 22 = [] := List.drop_eq_nil_of_le (by omega)
  have d : l = l.drop 0 := rfl
  rw [d, cut 0 1, cut (0 + 1) 8, cut (0 + 1 + 8) 8, cut (0 + 1 + 8 + 8) 1, cut (0 + 1 + 8 + 8 + 1) 1, cut (0 + 1 + 8 + 8 + 1 + 1) 1, cut (0 + 1 + 8 + 8 + 1 + 1 + 1) 1, cut (0 + 1 + 8 + 8 + 1 + 1 + 1 + 1) 1]
  show (l.drop 0).take 1 ++ ((l.drop 1).take 8 ++ ((l.drop 9).take 8 ++ ((l.drop 17).take 1 ++ ((l.drop 18).take 1 ++ ((l.drop 19).take 1 ++ ((l.drop 20).take 1 ++ ((l.drop 21).take 1 ++ l.drop 22))))))) = _
  rw [e0, e1, e2, e3, e4, e5, e6, e7, d22, g3]
  rfl
theorem safeBytes_walk (H : AH) (r : SRec) (l : List UInt8) : ACalls Tryz.prog 3 [.agg r.cells, .s l] H fun v H' => v = .b true := by
  refine ACalls_body Tryz.func3 rfl rfl ?_
  refine AW_seq ?_
  refine AW_reg [1, 2] fun K hK => ?_ -- region 0
  simp [init_eq, V.cells]
  refine hK _ _ ?_; clear hK K
  obtain ⟨G, e1, g1, gn, go⟩ := H.boxed r.cells
  rw [e1]
  have ldr : ∀ X : AH, Upd G X [] → aload Tryz.prog X 26 (.p (some (H.next, 0, 0))) = some (.agg r.cells) := fun X hX => by simp [aload, hX.keep (by simp) g1, SRec.take]
  refine AW_seq ?_
  refine AW_seq ?_
  refine AW_reg [1, 2, 13] fun K hK => ?_ -- region 1
  simp [init_eq]
  refine ACalls.mono (alive_ok G) fun v X ⟨hr, e⟩ => ?_ -- alive
  subst hr e
  try simp
  refine hK _ _ ?_; clear hK K
  refine AW_cond' rfl rfl (fun hc => by cases hc) (fun hc => ?_)
  refine AW_skip ?_
  refine AW_seq ?_
  refine AW_seq ?_
  refine AW_regto [1, 2, 20] ⟨70, [(1, .s l), (2, .p (some (H.next, 0, 0))), (20, .b (decide (5000 < r.text.length) || decide (6000 < l.length)))]⟩ X (fun K hK => ?_) ?_ -- region 3
  · simp [init_eq, ldr X (Upd.refl ..)]
    refine ACalls.mono (rgreat_ok X r) fun v X' ⟨hr, e⟩ => ?_ -- Great
    subst hr e
    by_cases h1 : 5000 < r.text.length
    · simpa [h1] using hK
    · have e6 : decide ((6000 : Int) < (l.length : Int)) = decide (6000 < l.length) := by
        rw [Bool.eq_iff_iff]; simp; omega
      simpa [h1, alen, e6] using hK
  refine AW_cond' rfl rfl (fun hc => ?_) (fun hc => ?_)
  · repeat refine AW_seq ?_
    refine AW_reg [4] fun K hK => ?_ -- region 4
    simp [init_eq]
    refine hK _ _ ?_; clear hK K
    exact AW_ret (end_ret rfl rfl)
  have hb : r.text.length ≤ 5000 ∧ l.length ≤ 6000 := by simp at hc; omega
  refine AW_skip ?_
  refine AW_seq ?_
  refine AW_reg [1, 2, 5, 6] fun K hK => ?_ -- region 5
  simp [init_eq, ldr X (Upd.refl ..)]
  refine ACalls.mono (sbytes_ok X r (by omega)) fun v X1 ⟨w, hr, u1, hw⟩ => ?_ -- safe.Bytes
  subst hr
  try simp
  refine hK _ _ ?_; clear hK K
  refine AW_seq ?_
  refine AW_reg [1, 2, 5, 6, 7] fun K hK => ?_ -- region 6
  simp [init_eq, ldr X1 u1]
  refine ACalls.mono (rform_ok X1 r) fun v X2 ⟨hr, e⟩ => ?_ -- Form
  subst hr e
  try simp
  refine hK _ _ ?_; clear hK K
  refine AW_seq ?_
  refine AW_seq ?_
  refine AW_regdto [1, 50] pl_3_7 pe_3_7 ⟨70, [(1, .s l), (50, .b false)]⟩ X2 (by kernel_rfl) (by kernel_rfl) (by decide) (fun K hK => ?_) ?_ -- region 7
  · by_cases h0 : r.form = 0
    · rw [if_pos h0] at hw
      obtain ⟨F, o, _, _⟩ := hw
      have hcv := conv_text (P := Tryz.prog) qbs_29 qstr_9 o.sl
      simp [init_eq, pl_3_7, h0, ldr X2 u1, hcv]
      refine ACalls.mono (rsbytes_ok X2 r h0 (by omega)) fun v X3 ⟨hr, e⟩ => ?_ -- Bytes
      subst hr e
      try refine ⟨AH.ext.refl _, ?_⟩
      simpa [h0] using hK
    · rw [if_neg h0] at hw
      subst hw
      simpa [init_eq, pl_3_7, h0, alen] using hK
  refine AW_cond' rfl rfl (fun hc => by cases hc) (fun hc => ?_)
  refine AW_skip ?_
  have hsl : Sl (X2.new (.cells (bytesV l) 0 false 1)) (.sl (some (X2.next, 0, 0)) l.length false) 1 (bytesV l) :=
    .inr ⟨X2.next, 0, 0, l.length, false, bytesV l, false, 1, rfl, by simp [AH.get_new], by simp, by simp [List.take_of_length_le]⟩
  refine AW_seq ?_
  refine AW_reg [1, 8, 9] fun K hK => ?_ -- region 9
  simp [init_eq, conv_bytes qthere_9 qbs_29]
  refine ACalls.mono (sparse_ok _ hsl (by omega)) fun v X3 ⟨hr, u3⟩ => ?_ -- safe.Parse
  subst hr
  simp [V.cells, astore, AH.get_new]
  refine hK _ _ ?_; clear hK K
  generalize hX4 : AH.set _ X3.next _ = X4
  have c4 : X4.get X3.next = some (.cells (parseRec l).1.cells 0 false 0) := by rw [← hX4]; simp [AH.get_set]; first | done | exact splice_all rfl
  clear hX4
  refine AW_seq ?_
  refine AW_reg [8, 9, 10, 11] fun K hK => ?_ -- region 10
  simp [init_eq]
  refine ACalls.mono (rsparse_ok X4 l) fun v X5 ⟨hr, e⟩ => ?_ -- Parse
  rw [parse_same] at hr
  subst hr e
  simp [V.cells, astore, AH.get_new]
  refine hK _ _ ?_; clear hK K
  generalize hX6 : AH.set _ X5.next _ = X6
  have c6 : X6.get X5.next = some (.cells (parseRec l).1.cells 0 false 0) := by rw [← hX6]; simp [AH.get_set]; first | done | exact splice_all rfl
  have u6 : Upd X5 X6 [] := by
    rw [← hX6]
    exact ⟨by simp, fun j hj _ => by rw [AH.get_set_ne (by omega), AH.get_new, if_neg (by omega)]⟩
  clear hX6
  have c4 := u6.keep (by simp) c4
  have ld : ∀ (z t : Nat), X6.get z = some (.cells (parseRec l).1.cells 0 false 0) → qagg Tryz.prog t = some true → qsize Tryz.prog t = some 22 → aload Tryz.prog X6 t (.p (some (z, 0, 0))) = some (.agg (parseRec l).1.cells) := fun z t h h1 h2 => by
    simp [aload, h, h1, h2, SRec.take]
  have l1 := ld _ 33 c4 (by simp) (by simp)
  have l2 := ld _ 26 c6 (by simp) (by simp)
  refine AW_seq ?_
  refine AW_reg [4] fun K hK => ?_ -- region 11
  simp [init_eq, l1, l2, SRec.aeqR]
  refine hK _ _ ?_; clear hK K
  exact AW_ret (end_ret rfl rfl)
theorem safeBytes_law (H : AH) (vs : List V) (hv : TVals Tryz.prog H Tryz.f3.params.toList vs) : ACalls Tryz.prog 3 vs H fun r _ => r = .b true := by
  have hv' : TVals Tryz.prog H [26, 9] vs := hv
  clear hv
  rcases vs with _ | ⟨a, _ | ⟨b, _ | ⟨c, r⟩⟩⟩
  · exact hv'.elim
  · exact hv'.2.elim
  · obtain ⟨l, rfl, hl, ht⟩ := hv'.1.struct Tryz.underlying26 cellsOf_26
    obtain ⟨r, rfl⟩ := tv_srec ht
    obtain ⟨s, rfl, _⟩ := hv'.2.1.s Tryz.underlying9
    exact safeBytes_walk H r s
  · exact hv'.2.2.elim
end Go.Proofs.YtoccjilbfkhmoaaGreatDoor
