/-
  Which texts are values: the program's and the document's.
-/
import Derived.Test.YtikonppmjkipoaaDoorName3
import Derived.Test.YtikonppmjkipoaaDoorAbsC
set_option linter.unusedVariables false
set_option linter.unusedSimpArgs false
namespace Go.Proofs.YtikonppmjkipoaaDoor
open Go Go.Abs Go.Proofs
set_option maxRecDepth 100000
attribute [local irreducible] AEnd AW ACalls

def lays197_ren : Go.Shelf.Ren := ⟨fun | 197 => 74 | 260 => 94 | n => n, fun | 9 => 9 | 21 => 21 | 3 => 3 | 4 => 4 | 5 => 5 | 105 => 133 | 119 => 161 | 0 => 0 | 46 => 124 | 139 => 164 | 138 => 163 | n => n, fun | 3 => 0 | 4 => 1 | n => n⟩
theorem lays197 : Go.Proofs.Lays.n197 Tryd.prog lays197_ren := {
  mixed := by kernel_rfl
  f197 := Tryd.func74.trans (congrArg some (by kernel_rfl))
  f260 := Tryd.func94.trans (congrArg some (by kernel_rfl))
  t0 := Tryd.underlying0
  a0 := Tryd.isAgg0
  z0 := Tryd.sizeOf0
  v0 := Tryd.zeroValue0
  t3 := Tryd.underlying3
  a3 := Tryd.isAgg3
  z3 := Tryd.sizeOf3
  v3 := Tryd.zeroValue3
  t4 := Tryd.underlying4
  a4 := Tryd.isAgg4
  z4 := Tryd.sizeOf4
  v4 := Tryd.zeroValue4
  t5 := Tryd.underlying5
  a5 := Tryd.isAgg5
  z5 := Tryd.sizeOf5
  v5 := Tryd.zeroValue5
  t9 := Tryd.underlying9
  a9 := Tryd.isAgg9
  z9 := Tryd.sizeOf9
  v9 := Tryd.zeroValue9
  t21 := Tryd.underlying21
  a21 := Tryd.isAgg21
  z21 := Tryd.sizeOf21
  v21 := Tryd.zeroValue21
  t46 := Tryd.underlying124
  a46 := Tryd.isAgg124
  z46 := Tryd.sizeOf124
  v46 := Tryd.zeroValue124
  t105 := Tryd.underlying133
  a105 := Tryd.isAgg133
  z105 := Tryd.sizeOf133
  v105 := Tryd.zeroValue133
  t119 := Tryd.underlying161
  a119 := Tryd.isAgg161
  z119 := Tryd.sizeOf161
  t138 := Tryd.underlying163
  a138 := Tryd.isAgg163
  z138 := Tryd.sizeOf163
  v138 := Tryd.zeroValue163
  t139 := Tryd.underlying164
  a139 := Tryd.isAgg164
  z139 := Tryd.sizeOf164
  v139 := Tryd.zeroValue164
  g3 := by kernel_rfl
  g4 := by kernel_rfl }


theorem decodeStr_ok (H : AH) (l : List UInt8) : ACalls Tryd.prog 74 [.s l] H fun r H' => r = .tup [.i .i32 (decG l).1, .i .i64 (decG l).2] ∧ H' = H :=
  decode_call (ρ := lays197_ren) lays197 (fun _ h => by first | exact h | exact List.mem_append_left _ h) ⟨_, Tryd.func74, rfl, rfl⟩ H l
theorem broken_ok (H : AH) (s : List UInt8) (p : Nat) (hp : p ≤ s.length) (c : Int) : ACalls Tryd.prog 65 [.s s, .i .i64 p, .i .i32 c] H fun r H' => r = .b (decide (c = 65533) && decide ((decG (s.drop p)).2 = 1)) ∧ H' = H := by
  refine ACalls_body Tryd.func65 rfl rfl ?_
  refine AW_seq ?_
  refine AW_reg [0, 1, 2] fun K hK => ?_ -- region 0
  simp [init_eq]
  refine hK _ _ ?_; clear hK K
  refine AW_seq ?_
  refine AW_seq ?_
  refine AW_reg [0, 1, 10] fun K hK => ?_ -- region 1
  simp [init_eq]
  refine hK _ _ ?_; clear hK K
  refine AW_cond' rfl rfl (fun hc => ?_) (fun hc => ?_)
  · have hn : ¬ c = 65533 := by simpa using hc
    refine AW_seq ?_
    refine AW_reg [6] fun K hK => ?_ -- region 2
    simp [init_eq]
    refine hK _ _ ?_; clear hK K
    refine AW_ret (end_ret rfl ?_)
    simp [hn]
  · have hn : c = 65533 := by simpa using hc
    refine AW_skip ?_
    have hsl : aslice Tryd.prog H 9 (.s s) (some (.i .i64 p)) none none = some (.s (s.drop p)) := by
      have h3 : (p : Int) ≤ s.length := by omega
      simp [aslice, abound, h3]
    refine AW_seq ?_
    refine AW_reg [7, 8] fun K hK => ?_ -- region 3
    simp [init_eq, hsl]
    refine ACalls.mono (decodeStr_ok ..) fun r H' ⟨hr, e⟩ => ?_ -- unicode/utf8.DecodeRuneInString
    subst hr e
    try simp
    refine hK _ _ ?_; clear hK K
    refine AW_seq ?_
    refine AW_reg [6] fun K hK => ?_ -- region 4
    simp [init_eq]
    refine hK _ _ ?_; clear hK K
    refine AW_ret (end_ret rfl ?_)
    have : (((decG (s.drop p)).2 : Int) = 1) = ((decG (s.drop p)).2 = 1) := propext (by omega)
    simp [hn, this]
def valB (y : Nat × Bool) : Bool := y.2 && !(decide (y.1 < 32) || decide (y.1 = 127))
theorem valOk_eq (s : List UInt8) : valOk s = ((letsOf s).all valB && decide ((letsOf s).length ≤ 32)) := rfl
theorem valOk_bad {l : List UInt8} {x : Nat × Bool} (hx : x ∈ letsOf l) (h : valB x = false) : valOk l = false := by
  rw [valOk_eq]
  have : (letsOf l).all valB = false := by rw [List.all_eq_false]; exact ⟨x, hx, by simp [h]⟩
  rw [this, Bool.false_and]
theorem value_ok (H : AH) (s : List UInt8) (hl : s.length ≤ 140737488351232) : ACalls Tryd.prog 48 [.s s] H fun r H' => r = .i .i64 (if valOk s then 0 else 20) ∧ H' = H := by
  refine ACalls.pure (Q := fun r => r = .i .i64 (if valOk s then 0 else 20)) ⟨_, Tryd.func48, rfl, rfl⟩ ?_
  refine ACalls_body Tryd.func48 rfl rfl ?_
  refine AW_seq ?_
  refine AW_reg [0] fun K hK => ?_ -- region 0
  simp [init_eq]
  refine hK _ _ ?_; clear hK K
  refine AW_seq ?_
  refine AW_reg [0, 3] fun K hK => ?_ -- region 1
  simp [init_eq]
  refine hK _ _ ?_; clear hK K
  refine AW_seq ?_
  refine AW_seq ?_
  have hrg : arange Tryd.prog H 9 (.s s) = some (.p (some (H.next, 0, 0)), H.new (.strIter s 0)) := by
    unfold arange
    have : qmap Tryd.prog 9 = none := by kernel_rfl
    simp [this]
  refine AW_reg [0, 3, 7] fun K hK => ?_ -- region 2
  simp [init_eq, hrg]
  refine hK _ _ ?_; clear hK K
  refine AW_block ?_
  refine AW_loopx (fun x : List (Nat × Bool) × Nat => ⟨28, [(0, .s s), (3, .i .i64 x.1.length), (7, .p (some (H.next, 0, 0)))]⟩)
    (fun x H' => H'.get H.next = some (.strIter s x.2) ∧ H'.next = H.next + 1 ∧ (∀ j, j < H.next → H'.get j = H.get j) ∧ x.2 ≤ s.length ∧ letsOf s = x.1 ++ letsOf (s.drop x.2) ∧ x.1.all valB = true) (fun x => s.length - x.2) ([], 0) (by simp)
    ⟨by simp [AH.get_new], by simp, fun j hj => by simp [AH.get_new]; omega, by simp, by simp, by simp⟩ fun x H1 hM => ?_ -- loop
  obtain ⟨dn, p⟩ := x
  obtain ⟨hg, hn, ho, hp, h1, h2⟩ := hM
  simp only at hg h1 h2 hp
  have hdl : dn.length ≤ s.length := by have := letsOf_len s; rw [h1] at this; simp at this; omega
  refine AW_seq ?_
  by_cases hps : p < s.length
  · have hne : s.drop p ≠ [] := by
      intro e; have := congrArg List.length e; simp at this; omega
    have hcons := letsOf_cons hne
    have hd1 := dec_pos (s.drop p)
    have hd2 := dec_le (s.drop p) hne
    rw [List.length_drop] at hd2
    rw [hcons, List.drop_drop] at h1
    have hnx : anextS H1 (.p (some (H.next, 0, 0))) = some (.tup [.b true, .i .i64 p, .i .i32 (dec (s.drop p)).1], H1.set H.next (.strIter s (p + (dec (s.drop p)).2))) := by
      simp [anextS, hg, hps, decode_dec]
    generalize hG : H1.set H.next (.strIter s (p + (dec (s.drop p)).2)) = G at hnx
    have hgG : G.get H.next = some (.strIter s (p + (dec (s.drop p)).2)) := by rw [← hG]; simp [AH.get_set, hn]
    have hnG : G.next = H.next + 1 := by rw [← hG]; simp [hn]
    have hoG : ∀ j, j < H.next → G.get j = H.get j := fun j hj => by rw [← hG]; simp [AH.get_set, show j ≠ H.next by omega, ho j hj]
    clear hG
    refine AW_reg [0, 3, 7, 8, 9] fun K hK => ?_ -- region 3
    simp [init_eq, hnx]
    refine hK _ _ ?_; clear hK K
    refine AW_seq ?_
    refine AW_cond' rfl rfl (fun hc => ?_) (fun hc => ?_)
    · refine AW_skip ?_
      refine AW_block ?_
      refine AW_seq ?_
      refine AW_reg [0, 3, 4, 5, 7] fun K hK => ?_ -- region 4
      simp [init_eq]
      refine hK _ _ ?_; clear hK K
      have hbr : decOk (s.drop p) = !(decide ((dec (s.drop p)).1 = 65533) && decide ((decG (s.drop p)).2 = 1)) := by
        unfold decOk decG
        rw [if_neg hne]
        simp only [Prod.ext_iff, Bool.decide_and]
      generalize hcd : (dec (s.drop p)).1 = c at *
      generalize hsz : (dec (s.drop p)).2 = sz at *
      have c1 : ((c : Int) = 127) = (c = 127) := propext (by omega)
      have c2 : ((c : Int) < 32) = (c < 32) := propext (by omega)
      have c3 : ((c : Int) = 65533) = (c = 65533) := propext (by omega)
      refine AW_seq ?_
      refine AW_seq ?_
      refine AW_regto [0, 3, 7, 23] ⟨28, [(0, .s s), (3, .i .i64 dn.length), (7, .p (some (H.next, 0, 0))), (23, .b (!valB (c, decOk (s.drop p))))]⟩ G (fun K hk => ?_) ?_ -- region 5
      · by_cases k1 : c < 32
        · simpa [init_eq, c1, c2, k1, valB] using hk
        · by_cases k2 : c = 127
          · simpa [init_eq, c1, c2, k1, k2, valB] using hk
          · simp [init_eq, c1, c2, k1, k2]
            refine ACalls.mono (broken_ok _ _ _ hp _) fun r H' ⟨hr, e⟩ => ?_ -- hallmoot/name.broken
            subst hr e
            simpa [valB, k1, k2, hbr, c3] using hk
      refine AW_cond' rfl rfl (fun hc => ?_) (fun hc => ?_)
      · have hb : valB (c, decOk (s.drop p)) = false := by simpa using hc
        refine AW_seq ?_
        refine AW_reg [2] fun K hK => ?_ -- region 6
        simp [init_eq]
        refine hK _ _ ?_; clear hK K
        refine AW_ret (end_ret rfl (pure_end hnG hoG ?_ rfl))
        have : valOk s = false := valOk_bad (x := (c, decOk (s.drop p))) (by rw [h1]; simp) hb
        simp [this]
      · have hb : valB (c, decOk (s.drop p)) = true := by simpa using hc
        refine AW_skip ?_
        refine AW_reg [0, 3, 7] fun K hK => ?_ -- region 7
        simp [init_eq, wrap_id (x := (dn.length : Int) + 1) (by omega) (by omega)]
        refine hK _ _ ?_; clear hK K
        refine bend (rend ⟨(dn ++ [(c, decOk (s.drop p))], p + sz), by simp, ⟨hgG, hnG, hoG, by (show p + sz ≤ s.length); omega, by simp [h1], by simp [h2, hb]⟩, by (show s.length - (p + sz) < s.length - p); omega⟩) -- round's end
    · cases hc
  · have hpe : p = s.length := by omega
    subst hpe
    rw [List.drop_length, letsOf_nil, List.append_nil] at h1
    have hnx : anextS H1 (.p (some (H.next, 0, 0))) = some (.tup [.b false], H1) := by
      simp [anextS, hg]
    refine AW_reg [0, 3, 7, 8, 9] fun K hK => ?_ -- region 3
    simp [init_eq, hnx]
    refine hK _ _ ?_; clear hK K
    refine AW_seq ?_
    refine AW_cond' rfl rfl (fun hc => ?_) (fun hc => ?_)
    · cases hc
    refine AW_exit (then_exit (then_exit (block_here ?_)))
    refine AW_seq ?_
    refine AW_seq ?_
    have d2 : ((32 : Int) < dn.length) = (32 < dn.length) := propext (by omega)
    have hv : valOk s = decide (dn.length ≤ 32) := by rw [valOk_eq, h1, h2, Bool.true_and]
    refine AW_reg [27] fun K hK => ?_ -- region 8
    simp [init_eq, d2]
    refine hK _ _ ?_; clear hK K
    refine AW_cond' rfl rfl (fun hc => ?_) (fun hc => ?_)
    · have hk : ¬ dn.length ≤ 32 := by simpa using hc
      refine AW_seq ?_
      refine AW_reg [2] fun K hK => ?_ -- region 9
      simp [init_eq]
      refine hK _ _ ?_; clear hK K
      refine AW_ret (end_ret rfl (pure_end hn ho ?_ rfl))
      simp [hv, hk]
    · have hk : dn.length ≤ 32 := by simpa using hc
      refine AW_skip ?_
      refine AW_seq ?_
      refine AW_reg [2] fun K hK => ?_ -- region 10
      simp [init_eq]
      refine hK _ _ ?_; clear hK K
      refine AW_ret (end_ret rfl (pure_end hn ho ?_ rfl))
      simp [hv, hk]
theorem rvalue_ok (H : AH) (s : List UInt8) (hl : s.length ≤ 1000000000) : ACalls Tryd.prog 61 [.s s] H fun r H' => r = .b (valOk s) ∧ H' = H := by
  refine ACalls.pure (Q := fun r => r = .b (valOk s)) ⟨_, Tryd.func61, rfl, rfl⟩ ?_
  refine ACalls_body Tryd.func61 rfl rfl ?_
  refine AW_seq ?_
  refine AW_reg [0] fun K hK => ?_ -- region 0
  simp [init_eq]
  refine hK _ _ ?_; clear hK K
  refine AW_seq ?_
  refine AW_reg [3, 4] fun K hK => ?_ -- region 1
  simp [init_eq]
  refine ACalls.mono (runes_ok _ _ hl) fun r H1 h => ?_ -- hallmoot/hallmootref02.Runes
  obtain ⟨v, F, hr, hv, hu⟩ := h
  subst hr
  try simp
  refine hK _ _ ?_; clear hK K
  have fin : ∀ b : Bool, b = valOk s → V.b b = V.b (valOk s) ∧ V.lt H.next (V.b b) = true ∧ H.next ≤ H1.next ∧ ∀ j, j < H.next → H1.get j = H.get j := fun b hb => ⟨by rw [hb], rfl, hu.1, fun j hj => hu.2 j hj (by simp)⟩
  have hR := hv.rsR (f := letC) (by decide) (fun _ => rfl)
  have hlen := hR.alen (P := Tryd.prog) qelem_111 H1
  have hat : ∀ i (hi : i < (letsOf s).length), ∃ a, aindexAddr Tryd.prog 111 v (.i .i64 i) = some a ∧ aload Tryd.prog H1 3 a = some (.i .i64 ((letsOf s)[i]).1) := fun i hi =>
    hR.at1 qelem_111 qsize_3 qagg_3 i (by simp [hi, letC])
  have hle := letsOf_len s
  have c0 : ((32 : Int) < (letsOf s).length) = (32 < (letsOf s).length) := propext (by omega)
  refine AW_seq ?_
  refine AW_seq ?_
  refine AW_regto [3, 17] ⟨36, [(3, v), (17, .b (!(letsOf s).all (·.2) || decide (32 < (letsOf s).length)))]⟩ H1 (fun K hk => ?_) ?_ -- region 2
  · cases hall : (letsOf s).all (·.2)
    · simpa [init_eq, hall] using hk
    · simpa [init_eq, hall, hlen, c0] using hk
  refine AW_cond' rfl rfl (fun hc => ?_) (fun hc => ?_)
  · refine AW_seq ?_
    refine AW_reg [2] fun K hK => ?_ -- region 3
    simp [init_eq]
    refine hK _ _ ?_; clear hK K
    refine AW_ret (end_ret rfl (fin _ ?_))
    cases hall : (letsOf s).all (·.2)
    · rw [List.all_eq_false] at hall
      obtain ⟨x, hx, h2⟩ := hall
      rw [valOk_bad hx (by simp [valB] at h2 ⊢; simp [h2])]
    · rw [hall] at hc
      have : ¬ (letsOf s).length ≤ 32 := by simp at hc; omega
      simp [valOk_eq, this]
  · have hall : (letsOf s).all (·.2) = true := by
      cases h : (letsOf s).all (·.2)
      · rw [h] at hc; simp at hc
      · rfl
    have h32 : (letsOf s).length ≤ 32 := by rw [hall] at hc; simp at hc; omega
    refine AW_skip ?_
    refine AW_seq ?_
    refine AW_seq ?_
    refine AW_reg [3, 5] fun K hK => ?_ -- region 4
    simp [init_eq]
    refine hK _ _ ?_; clear hK K
    refine AW_block ?_
    refine AW_loop0 (fun i : Nat => ⟨36, [(3, v), (5, .i .i64 i)]⟩) (fun i => i ≤ (letsOf s).length ∧ ((letsOf s).take i).all valB = true) (fun i => (letsOf s).length - i) 0 (by simp) (by simp) (hu.1) fun hw i hM => ?_ -- loop
    refine AW_seq ?_
    refine AW_seq ?_
    refine AW_reg [3, 5, 21] fun K hK => ?_ -- region 5
    simp [init_eq, hlen]
    refine hK _ _ ?_; clear hK K
    refine AW_cond' rfl rfl (fun hc => ?_) (fun hc => ?_)
    · have hi : i < (letsOf s).length := by simpa using hc
      obtain ⟨a, p1, p2⟩ := hat i hi
      have hx2 : ((letsOf s)[i]).2 = true := List.all_eq_true.1 hall _ (List.getElem_mem hi)
      have c1 : (((letsOf s)[i].1 : Int) = 127) = ((letsOf s)[i].1 = 127) := propext (by omega)
      have c2 : (((letsOf s)[i].1 : Int) < 32) = ((letsOf s)[i].1 < 32) := propext (by omega)
      refine AW_skip ?_
      refine AW_seq ?_
      refine AW_block ?_
      refine AW_seq ?_
      refine AW_regto [3, 5, 35] ⟨36, [(3, v), (5, .i .i64 i), (35, .b (!valB (letsOf s)[i]))]⟩ H1 (fun K hk => ?_) ?_ -- region 7
      · by_cases k1 : (letsOf s)[i].1 < 32
        · simpa [init_eq, p1, p2, c1, c2, k1, valB, hx2] using hk
        · simpa [init_eq, p1, p2, c1, c2, k1, valB, hx2] using hk
      refine AW_cond' rfl rfl (fun hc => ?_) (fun hc => ?_)
      · have hg : valB (letsOf s)[i] = false := by simpa using hc
        refine AW_seq ?_
        refine AW_reg [2] fun K hK => ?_ -- region 8
        simp [init_eq]
        refine hK _ _ ?_; clear hK K
        refine AW_ret (end_ret rfl (fin _ ?_))
        rw [valOk_bad (List.getElem_mem hi) hg]
      · have hg : valB (letsOf s)[i] = true := by simpa using hc
        refine AW_skip ?_
        refine AW_reg [3, 5] fun K hK => ?_ -- region 6
        simp [init_eq, wrap_id (x := (i : Int) + 1) (by omega) (by omega)]
        refine hK _ _ ?_; clear hK K
        refine rend ⟨i + 1, by simp, ⟨by omega, ?_⟩, by omega, .inl rfl⟩ -- round's end
        rw [List.take_succ_eq_append_getElem hi, List.all_append, hM.2]; simp [hg]
    · have hi : i = (letsOf s).length := by
        have : ¬ i < (letsOf s).length := by simpa using hc
        omega
      subst hi
      refine AW_exit (then_exit (then_exit (block_here ?_)))
      refine AW_seq ?_
      refine AW_reg [2] fun K hK => ?_ -- region 9
      simp [init_eq]
      refine hK _ _ ?_; clear hK K
      refine AW_ret (end_ret rfl (fin _ ?_))
      have h2 := hM.2
      rw [List.take_length] at h2
      simp [valOk_eq, h2, h32]
end Go.Proofs.YtikonppmjkipoaaDoor
