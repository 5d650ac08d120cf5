/-
  A text's runes; which name stands ahead (name.runes, name.Less, state.order, the order of keys). Any instance of the tables will do.
-/
import Derived.Test.YtikonppmjkipoaaDoorTx1
set_option linter.unusedVariables false
set_option linter.unusedSimpArgs false
namespace Go.Proofs.YtikonppmjkipoaaDoor
open Go Go.Abs Go.Proofs
set_option maxRecDepth 100000
attribute [local irreducible] AEnd AW ACalls

def runC (x : Nat × Bool) : List V := [.i .i32 x.1]
theorem app_runes : App Tryd.prog 125 125 1 4 := App.mk' qelem_125 qsize_21 qbytes_21 qzero_21 qsrc_125 rfl (by decide)
theorem srunes_ok [Laid Tryd.prog] (H : AH) (s : List UInt8) (hl : s.length ≤ 1000000000) : ACalls Tryd.prog 69 [.s s] H fun r H' => ∃ F, Own H' r 1 ((letsOf s).map runC).flatten F ∧ Upd H H' [] ∧ ∀ j ∈ F, H.next ≤ j := by
  refine ACalls_body Tryd.func69 rfl rfl ?_
  refine AW_seq ?_
  refine AW_reg [0] fun K hK => ?_ -- region 0
  simp [init_eq]
  refine hK _ _ ?_; clear hK K
  refine AW_seq ?_
  refine AW_reg [0, 3] fun K hK => ?_ -- region 1
  simp [init_eq]
  refine hK _ _ ?_; clear hK K
  refine AW_seq ?_
  refine AW_seq ?_
  have hrg : arange Tryd.prog H 9 (.s s) = some (.p (some (H.next, 0, 0)), H.new (.strIter s 0)) := by
    unfold arange
    have : qmap Tryd.prog 9 = none := by kernel_rfl
    simp [this]
  refine AW_reg [3, 7] fun K hK => ?_ -- region 2
  simp [init_eq, hrg]
  refine hK _ _ ?_; clear hK K
  refine AW_block ?_
  refine AW_loopx (fun x : List (Nat × Bool) × Nat × V => ⟨16, [(3, x.2.2), (7, .p (some (H.next, 0, 0)))]⟩)
    (fun x H' => H'.get H.next = some (.strIter s x.2.1) ∧ Upd H H' [] ∧ x.2.1 ≤ s.length ∧ letsOf s = x.1 ++ letsOf (s.drop x.2.1) ∧ ∃ F, Own H' x.2.2 1 (x.1.map runC).flatten F ∧ ∀ j ∈ F, H.next < j) (fun x => s.length - x.2.1) ([], 0, .sl none 0 false) (by simp)
    ⟨by simp [AH.get_new], Upd.new .., by simp, by simp, [], Own.nil .., by simp⟩ fun x H1 hM => ?_ -- loop
  obtain ⟨dn, p, v⟩ := x
  obtain ⟨hg, u1, hp, h1, F, h3, h5⟩ := hM
  simp only at hg h1 hp h3
  have hdl : dn.length ≤ s.length := by have := letsOf_len s; rw [h1] at this; simp at this; omega
  have hn1 : H.next < H1.next := AH.get_lt hg
  refine AW_seq ?_
  by_cases hps : p < s.length
  · have hne : s.drop p ≠ [] := by
      intro e; have := congrArg List.length e; simp at this; omega
    have hcons := letsOf_cons hne
    have hd1 := dec_pos (s.drop p)
    have hd2 := dec_le (s.drop p) hne
    rw [List.length_drop] at hd2
    rw [hcons, List.drop_drop] at h1
    have hnx : anextS H1 (.p (some (H.next, 0, 0))) = some (.tup [.b true, .i .i64 p, .i .i32 (dec (s.drop p)).1], H1.set H.next (.strIter s (p + (dec (s.drop p)).2))) := by
      simp [anextS, hg, hps, decode_dec]
    generalize hG : H1.set H.next (.strIter s (p + (dec (s.drop p)).2)) = G at hnx
    have hgG : G.get H.next = some (.strIter s (p + (dec (s.drop p)).2)) := by rw [← hG]; exact AH.get_set_same hn1
    have uG : Upd H1 G [H.next] := by rw [← hG]; exact Upd.set _ _ _ (by simp)
    clear hG
    refine AW_reg [3, 7, 8, 9] fun K hK => ?_ -- region 3
    simp [init_eq, hnx]
    refine hK _ _ ?_; clear hK K
    refine AW_seq ?_
    refine AW_cond' rfl rfl (fun hc => ?_) (fun hc => ?_)
    · refine AW_skip ?_
      refine AW_block ?_
      refine AW_seq ?_
      refine AW_reg [3, 5, 7] fun K hK => ?_ -- region 4
      simp [init_eq]
      refine hK _ _ ?_; clear hK K
      have h3G := h3.upd uG (fun j hj h => by have := h5 j hj; simp at h; omega)
      obtain ⟨G1, v', G2, F', b1, b2, b3, b4, b5⟩ := h3G.pushR (f := runC) app_runes qelem_125 qsize_21 qzero_21 rfl rfl (by decide) (fun _ => rfl) ((dec (s.drop p)).1, decOk (s.drop p)) (x := .i .i32 (dec (s.drop p)).1) rfl (by simp [roomOk]; omega)
      refine AW_reg [3, 7] fun K hK => ?_ -- region 5
      simp [init_eq, b1, b2]
      refine hK _ _ ?_; clear hK K
      have hnG : H.next < G.next := AH.get_lt hgG
      refine bend (rend ⟨(dn ++ [((dec (s.drop p)).1, decOk (s.drop p))], p + (dec (s.drop p)).2, v'), by simp, ⟨b4.keep (fun h => by have := h5 _ h; omega) hgG, (u1.trans uG (fun j hj => .inr (by simp at hj; omega))).trans b4 (fun j hj => .inr (by have := h5 j hj; omega)), by show p + _ ≤ _; omega, by rw [h1]; simp, F', b3, fun j hj => ?_⟩, by show s.length - (p + _) < s.length - p; omega⟩) -- round's end
      rcases b5 j hj with h | h
      · exact h5 j h
      · omega
    · cases hc
  · have hpe : p = s.length := by omega
    subst hpe
    have hnx : anextS H1 (.p (some (H.next, 0, 0))) = some (.tup [.b false], H1) := by simp [anextS, hg]
    refine AW_reg [3, 7, 8, 9] fun K hK => ?_ -- region 3
    simp [init_eq, hnx]
    refine hK _ _ ?_; clear hK K
    refine AW_seq ?_
    refine AW_cond' rfl rfl (fun hc => ?_) (fun hc => ?_)
    · cases hc
    · refine AW_exit (then_exit (then_exit (block_here ?_)))
      refine AW_seq ?_
      refine AW_reg [2] fun K hK => ?_ -- region 6
      simp [init_eq]
      refine hK _ _ ?_; clear hK K
      refine AW_ret (end_ret rfl ⟨F, ?_, u1, fun j hj => by have := h5 j hj; omega⟩)
      rw [h1, List.drop_length, letsOf_nil, List.append_nil]; exact h3
end Go.Proofs.YtikonppmjkipoaaDoor
