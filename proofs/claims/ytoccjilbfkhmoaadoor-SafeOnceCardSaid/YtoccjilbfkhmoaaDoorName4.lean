/-
  Which texts are values: the program's and the document's.
-/
import Derived.Test.YtoccjilbfkhmoaaDoorName3
import Derived.Test.YtoccjilbfkhmoaaDoorAbsC
set_option linter.unusedVariables false
set_option linter.unusedSimpArgs false
namespace Go.Proofs.YtoccjilbfkhmoaaDoor
open Go Go.Abs Go.Proofs
set_option maxRecDepth 100000
attribute [local irreducible] AEnd AW ACalls

def lays197_ren : Go.Shelf.Ren := ⟨fun | 197 => 97 | 260 => 98 | n => n, fun | 9 => 9 | 21 => 21 | 3 => 3 | 4 => 4 | 5 => 5 | 105 => 139 | 119 => 141 | 0 => 0 | 46 => 116 | 139 => 144 | 138 => 143 | n => n, fun | 3 => 0 | 4 => 1 | n => n⟩
theorem lays197 : Go.Proofs.Lays.n197 Tryd.prog lays197_ren := {
  mixed := by kernel_rfl
  f197 := Tryd.func97.trans (congrArg some (by kernel_rfl))
  f260 := Tryd.func98.trans (congrArg some (by kernel_rfl))
  t0 := Tryd.underlying0
  a0 := Tryd.isAgg0
  z0 := Tryd.sizeOf0
  v0 := Tryd.zeroValue0
  t3 := Tryd.underlying3
  a3 := Tryd.isAgg3
  z3 := Tryd.sizeOf3
  v3 := Tryd.zeroValue3
  t4 := Tryd.underlying4
  a4 := Tryd.isAgg4
  z4 := Tryd.sizeOf4
  v4 := Tryd.zeroValue4
  t5 := Tryd.underlying5
  a5 := Tryd.isAgg5
  z5 := Tryd.sizeOf5
  v5 := Tryd.zeroValue5
  t9 := Tryd.underlying9
  a9 := Tryd.isAgg9
  z9 := Tryd.sizeOf9
  v9 := Tryd.zeroValue9
  t21 := Tryd.underlying21
  a21 := Tryd.isAgg21
  z21 := Tryd.sizeOf21
  v21 := Tryd.zeroValue21
  t46 := Tryd.underlying116
  a46 := Tryd.isAgg116
  z46 := Tryd.sizeOf116
  v46 := Tryd.zeroValue116
  t105 := Tryd.underlying139
  a105 := Tryd.isAgg139
  z105 := Tryd.sizeOf139
  v105 := Tryd.zeroValue139
  t119 := Tryd.underlying141
  a119 := Tryd.isAgg141
  z119 := Tryd.sizeOf141
  t138 := Tryd.underlying143
  a138 := Tryd.isAgg143
  z138 := Tryd.sizeOf143
  v138 := Tryd.zeroValue143
  t139 := Tryd.underlying144
  a139 := Tryd.isAgg144
  z139 := Tryd.sizeOf144
  v139 := Tryd.zeroValue144
  g3 := by kernel_rfl
  g4 := by kernel_rfl }


theorem decodeStr_ok (H : AH) (l : List UInt8) : ACalls Tryd.prog 97 [.s l] H fun r H' => r = .tup [.i .i32 (decG l).1, .i .i64 (decG l).2] ∧ H' = H :=
  decode_call (ρ := lays197_ren) lays197 (fun _ h => by first | exact h | exact List.mem_append_left _ h) ⟨_, Tryd.func97, rfl, rfl⟩ H l
theorem broken_ok (H : AH) (s : List UInt8) (p : Nat) (hp : p ≤ s.length) (c : Int) : ACalls Tryd.prog 95 [.s s, .i .i64 p, .i .i32 c] H fun r H' => r = .b (decide (c = 65533) && decide ((decG (s.drop p)).2 = 1)) ∧ H' = H := by
  refine ACalls_body Tryd.func95 rfl rfl ?_
  refine AW_seq ?_
  refine AW_reg [0, 1, 2] fun K hK => ?_ -- region 0
  simp [init_eq]
  refine hK _ _ ?_; clear hK K
  refine AW_seq ?_
  refine AW_seq ?_
  refine AW_reg [0, 1, 10] fun K hK => ?_ -- region 1
  simp [init_eq]
  refine hK _ _ ?_; clear hK K
  refine AW_cond' rfl rfl (fun hc => ?_) (fun hc => ?_)
  · have hn : ¬ c = 65533 := by simpa using hc
    refine AW_seq ?_
    refine AW_reg [6] fun K hK => ?_ -- region 2
    simp [init_eq]
    refine hK _ _ ?_; clear hK K
    refine AW_ret (end_ret rfl ?_)
    simp [hn]
  · have hn : c = 65533 := by simpa using hc
    refine AW_skip ?_
    have hsl : aslice Tryd.prog H 9 (.s s) (some (.i .i64 p)) none none = some (.s (s.drop p)) := by
      have h3 : (p : Int) ≤ s.length := by omega
      simp [aslice, abound, h3]
    refine AW_seq ?_
    refine AW_reg [7, 8] fun K hK => ?_ -- region 3
    simp [init_eq, hsl]
    refine ACalls.mono (decodeStr_ok ..) fun r H' ⟨hr, e⟩ => ?_ -- unicode/utf8.DecodeRuneInString
    subst hr e
    try simp
    refine hK _ _ ?_; clear hK K
    refine AW_seq ?_
    refine AW_reg [6] fun K hK => ?_ -- region 4
    simp [init_eq]
    refine hK _ _ ?_; clear hK K
    refine AW_ret (end_ret rfl ?_)
    have : (((decG (s.drop p)).2 : Int) = 1) = ((decG (s.drop p)).2 = 1) := propext (by omega)
    simp [hn, this]
def valB (y : Nat × Bool) : Bool := y.2 && !(decide (y.1 < 32) || decide (y.1 = 127))
theorem valOk_eq (s : List UInt8) : valOk s = ((letsOf s).all valB && decide ((letsOf s).length ≤ 32)) := rfl
theorem valOk_bad {l : List UInt8} {x : Nat × Bool} (hx : x ∈ letsOf l) (h : valB x = false) : valOk l = false := by
  rw [valOk_eq]
  have : (letsOf l).all valB = false := by rw [List.all_eq_false]; exact ⟨x, hx, by simp [h]⟩
  rw [this, Bool.false_and]
theorem value_ok (H : AH) (s : List UInt8) (hl : s.length ≤ 140737488351232) : ACalls Tryd.prog 90 [.s s] H fun r H' => r = .i .i64 (if valOk s then 0 else 20) ∧ H' = H := by
  refine ACalls.pure (Q := fun r => r = .i .i64 (if valOk s then 0 else 20)) ⟨_, Tryd.func90, rfl, rfl⟩ ?_
  refine ACalls_body Tryd.func90 rfl rfl ?_
  refine AW_seq ?_
  refine AW_reg [0] fun K hK => ?_ -- region 0
  simp [init_eq]
  refine hK _ _ ?_; clear hK K
  refine AW_seq ?_
  refine AW_reg [0, 3] fun K hK => ?_ -- region 1
  simp [init_eq]
  refine hK _ _ ?_; clear hK K
  refine AW_seq ?_
  refine AW_seq ?_
  have hrg : arange Tryd.prog H 9 (.s s) = some (.p (some (H.next, 0, 0)), H.new (.strIter s 0)) := by
    unfold arange
    have : qmap Tryd.prog 9 = none := by kernel_rfl
    simp [this]
  refine AW_reg [0, 3, 7] fun K hK => ?_ -- region 2
  simp [init_eq, hrg]
  refine hK _ _ ?_; clear hK K
  refine AW_block ?_
  refine AW_loopx (fun x : List (Nat × Bool) × Nat => ⟨28, [(0, .s s), (3, .i .i64 x.1.length), (7, .p (some (H.next, 0, 0)))]⟩)
    (fun x H' => H'.get H.next = some (.strIter s x.2) ∧ H'.next = H.next + 1 ∧ (∀ j, j < H.next → H'.get j = H.get j) ∧ x.2 ≤ s.length ∧ letsOf s = x.1 ++ letsOf (s.drop x.2) ∧ x.1.all valB = true) (fun x => s.length - x.2) ([], 0) (by simp)
    ⟨by simp [AH.get_new], by simp, fun j hj => by simp [AH.get_new]; omega, by simp, by simp, by simp⟩ fun x H1 hM => ?_ -- loop
  obtain ⟨dn, p⟩ := x
  obtain ⟨hg, hn, ho, hp, h1, h2⟩ := hM
  simp only at hg h1 h2 hp
  have hdl : dn.length ≤ s.length := by have := letsOf_len s; rw [h1] at this; simp at this; omega
  refine AW_seq ?_
  by_cases hps : p < s.length
  · have hne : s.drop p ≠ [] := by
      intro e; have := congrArg List.length e; simp at this; omega
    have hcons := letsOf_cons hne
    have hd1 := dec_pos (s.drop p)
    have hd2 := dec_le (s.drop p) hne
    rw [List.length_drop] at hd2
    rw [hcons, List.drop_drop] at h1
    have hnx : anextS H1 (.p (some (H.next, 0, 0))) = some (.tup [.b true, .i .i64 p, .i .i32 (dec (s.drop p)).1], H1.set H.next (.strIter s (p + (dec (s.drop p)).2))) := by
      simp [anextS, hg, hps, decode_dec]
    generalize hG : H1.set H.next (.strIter s (p + (dec (s.drop p)).2)) = G at hnx
    have hgG : G.get H.next = some (.strIter s (p + (dec (s.drop p)).2)) := by rw [← hG]; simp [AH.get_set, hn]
    have hnG : G.next = H.next + 1 := by rw [← hG]; simp [hn]
    have hoG : ∀ j, j < H.next → G.get j = H.get j := fun j hj => by rw [← hG]; simp [AH.get_set, show j ≠ H.next by omega, ho j hj]
    clear hG
    refine AW_reg [0, 3, 7, 8, 9] fun K hK => ?_ -- region 3
    simp [init_eq, hnx]
    refine hK _ _ ?_; clear hK K
    refine AW_seq ?_
    refine AW_cond' rfl rfl (fun hc => ?_) (fun hc => ?_)
    · refine AW_skip ?_
      refine AW_block ?_
      refine AW_seq ?_
      refine AW_reg [0, 3, 4, 5, 7] fun K hK => ?_ -- region 4
      simp [init_eq]
      refine hK _ _ ?_; clear hK K
      have hbr : decOk (s.drop p) = !(decide ((dec (s.drop p)).1 = 65533) && decide ((decG (s.drop p)).2 = 1)) := by
        unfold decOk decG
        rw [if_neg hne]
        simp only [Prod.ext_iff, Bool.decide_and]
      generalize hcd : (dec (s.drop p)).1 = c at *
      generalize hsz : (dec (s.drop p)).2 = sz at *
      have c1 : ((c : Int) = 127) = (c = 127) := propext (by omega)
      have c2 : ((c : Int) < 32) = (c < 32) := propext (by omega)
      have c3 : ((c : Int) = 65533) = (c = 65533) := propext (by omega)
      refine AW_seq ?_
      refine AW_seq ?_
      refine AW_regto [0, 3, 7, 23] ⟨28, [(0, .s s), (3, .i .i64 dn.length), (7, .p (some (H.next, 0, 0))), (23, .b (!valB (c, decOk (s.drop p))))]⟩ G (fun K hk => ?_) ?_ -- region 5
      · by_cases k1 : c < 32
        · simpa [init_eq, c1, c2, k1, valB] using hk
        · by_cases k2 : c = 127
          · simpa [init_eq, c1, c2, k1, k2, valB] using hk
          · simp [init_eq, c1, c2, k1, k2]
            refine ACalls.mono (broken_ok _ _ _ hp _) fun r H' ⟨hr, e⟩ => ?_ -- hallmoot/name.broken
            subst hr e
            simpa [valB, k1, k2, hbr, c3] using hk
      refine AW_cond' rfl rfl (fun hc => ?_) (fun hc => ?_)
      · have hb : valB (c, decOk (s.drop p)) = false := by simpa using hc
        refine AW_seq ?_
        refine AW_reg [2] fun K hK => ?_ -- region 6
        simp [init_eq]
        refine hK _ _ ?_; clear hK K
        refine AW_ret (end_ret rfl (pure_end hnG hoG ?_ rfl))
        have : valOk s = false := valOk_bad (x := (c, decOk (s.drop p))) (by rw [h1]; simp) hb
        simp [this]
      · have hb : valB (c, decOk (s.drop p)) = true := by simpa using hc
        refine AW_skip ?_
        refine AW_reg [0, 3, 7] fun K hK => ?_ -- region 7
        simp [init_eq, wrap_id (x := (dn.length : Int) + 1) (by omega) (by omega)]
        refine hK _ _ ?_; clear hK K
        refine bend (rend ⟨(dn ++ [(c, decOk (s.drop p))], p + sz), by simp, ⟨hgG, hnG, hoG, by (show p + sz ≤ s.length); omega, by simp [h1], by simp [h2, hb]⟩, by (show s.length - (p + sz) < s.length - p); omega⟩) -- round's end
    · cases hc
  · have hpe : p = s.length := by omega
    subst hpe
    rw [List.drop_length, letsOf_nil, List.append_nil] at h1
    have hnx : anextS H1 (.p (some (H.next, 0, 0))) = some (.tup [.b false], H1) := by
      simp [anextS, hg]
    refine AW_reg [0, 3, 7, 8, 9] fun K hK => ?_ -- region 3
    simp [init_eq, hnx]
    refine hK _ _ ?_; clear hK K
    refine AW_seq ?_
    refine AW_cond' rfl rfl (fun hc => ?_) (fun hc => ?_)
    · cases hc
    refine AW_exit (then_exit (then_exit (block_here ?_)))
    refine AW_seq ?_
    refine AW_seq ?_
    have d2 : ((32 : Int) < dn.length) = (32 < dn.length) := propext (by omega)
    have hv : valOk s = decide (dn.length ≤ 32) := by rw [valOk_eq, h1, h2, Bool.true_and]
    refine AW_reg [27] fun K hK => ?_ -- region 8
    simp [init_eq, d2]
    refine hK _ _ ?_; clear hK K
    refine AW_cond' rfl rfl (fun hc => ?_) (fun hc => ?_)
    · have hk : ¬ dn.length ≤ 32 := by simpa using hc
      refine AW_seq ?_
      refine AW_reg [2] fun K hK => ?_ -- region 9
      simp [init_eq]
      refine hK _ _ ?_; clear hK K
      refine AW_ret (end_ret rfl (pure_end hn ho ?_ rfl))
      simp [hv, hk]
    · have hk : dn.length ≤ 32 := by simpa using hc
      refine AW_skip ?_
      refine AW_seq ?_
      refine AW_reg [2] fun K hK => ?_ -- region 10
      simp [init_eq]
      refine hK _ _ ?_; clear hK K
      refine AW_ret (end_ret rfl (pure_end hn ho ?_ rfl))
      simp [hv, hk]
end Go.Proofs.YtoccjilbfkhmoaaDoor
