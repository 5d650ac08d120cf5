/-
  The document's list of a set (hallmootref04.List).
-/
import Derived.Test.YtfhbdbjgmcopjaaGreatDoorName2
set_option linter.unusedVariables false
set_option linter.unusedSimpArgs false
namespace Go.Proofs.YtfhbdbjgmcopjaaGreatDoor
open Go Go.Abs Go.Proofs
set_option maxRecDepth 100000
attribute [local irreducible] AEnd AW ACalls

/-- How many of a set's bits below a number are in it. -/
def cntB (s : BitVec 32) (k : Nat) : Nat := ((List.range k).filter fun i => s.getLsbD i).length
theorem cntB_succ (s : BitVec 32) (k : Nat) : cntB s (k + 1) = cntB s k + (if s.getLsbD k then 1 else 0) := by
  unfold cntB
  rw [List.range_succ, List.filter_append, List.length_append]
  cases h : s.getLsbD k <;> simp [h]
theorem cntB_pop (s : BitVec 32) : ∀ (n : Nat) {k : Nat}, k + n = 32 → s >>> k = 0#32 → cntB s k = pop s := by
  intro n
  induction n with
  | zero => intro k hk _; have : k = 32 := by omega
            subst this; rfl
  | succ n ih =>
    intro k hk h
    have h1 : s.getLsbD k = false := by
      have := congrArg (fun x => x.getLsbD 0) h
      simpa using this
    have h2 : s >>> (k + 1) = 0#32 := by
      rw [BitVec.shiftRight_add, h]; rfl
    rw [← ih (k := k + 1) (by omega) h2, cntB_succ, h1]; rfl
def intC (x : Int) : List V := [.i .i64 x]
theorem u32_half {P : Program} {t : TypeId} (x : BitVec 32) : abin P .quo t (u32 x) (u32 2#32) = some (u32 (x >>> 1)) := by
  show (if IntKind.u32 = IntKind.u32 then aint .quo .u32 (x.toNat : Int) ((2#32 : BitVec 32).toNat : Int) else none) = _
  rw [if_pos rfl]
  unfold aint
  simp only []
  rw [show ((2#32 : BitVec 32).toNat : Int) = 2 from rfl, if_neg (by decide), Int.tdiv_eq_ediv_of_nonneg (by omega)]
  have h2 : (x.toNat : Int) / 2 = ((x.toNat / 2 : Nat) : Int) := by omega
  have h1 : (x >>> 1).toNat = x.toNat / 2 := by simp [Nat.shiftRight_eq_div_pow]
  have hlt := x.isLt
  rw [h2, wrap_u32 (by omega)]
  unfold u32
  rw [h1]
theorem u32_odd {P : Program} {t : TypeId} (x : BitVec 32) : abin P .rem t (u32 x) (u32 2#32) = some (u32 (if x.toNat % 2 = 1 then 1#32 else 0#32)) := by
  show (if IntKind.u32 = IntKind.u32 then aint .rem .u32 (x.toNat : Int) ((2#32 : BitVec 32).toNat : Int) else none) = _
  rw [if_pos rfl]
  unfold aint
  simp only []
  rw [show ((2#32 : BitVec 32).toNat : Int) = 2 from rfl, if_neg (by decide), Int.tmod_eq_emod_of_nonneg (by omega)]
  by_cases h : x.toNat % 2 = 1
  · rw [if_pos h, show (x.toNat : Int) % 2 = 1 by omega]; rfl
  · rw [if_neg h, show (x.toNat : Int) % 2 = 0 by omega]; rfl
theorem bit_odd (s x : BitVec 32) (k : Nat) (hx : x = s >>> k) : s.getLsbD k = decide (x.toNat % 2 = 1) := by
  have h1 := BitVec.getLsbD_ushiftRight s k 0
  rw [← hx] at h1
  rw [show k + 0 = k from rfl] at h1
  rw [← h1, BitVec.getLsbD, Nat.testBit_zero]
theorem rlist_ok (H : AH) (s : BitVec 32) : ACalls Tryz.prog 30 [u32 s] H fun r H' => ∃ (l : List Int) (F : List Nat), Own H' r 1 (l.map intC).flatten F ∧ l.length = pop s ∧ Upd H H' [] ∧ ∀ j ∈ F, H.next ≤ j := by
  refine ACalls_body Tryz.func30 rfl rfl ?_
  refine AW_seq ?_
  refine AW_reg [0] fun K hK => ?_ -- region 0
  simp [init_eq]
  refine hK _ _ ?_; clear hK K
  refine AW_seq ?_
  refine AW_reg [0, 3] fun K hK => ?_ -- region 1
  simp [init_eq]
  refine hK _ _ ?_; clear hK K
  refine AW_seq ?_
  refine AW_seq ?_
  refine AW_reg [0, 3, 4] fun K hK => ?_ -- region 2
  simp [init_eq]
  refine hK _ _ ?_; clear hK K
  refine AW_block ?_
  refine AW_loopx (fun x : Nat × BitVec 32 × V => ⟨19, [(0, u32 x.2.1), (3, x.2.2), (4, .i .i64 (x.1 : Int))]⟩)
    (fun x G => x.1 ≤ 32 ∧ x.2.1 = s >>> x.1 ∧ Upd H G [] ∧ ∃ (l : List Int) (F : List Nat), l.length = cntB s x.1 ∧ Own G x.2.2 1 (l.map intC).flatten F ∧ ∀ j ∈ F, H.next ≤ j)
    (fun x => 32 - x.1) (0, s, .sl none 0 false) (by simp) ⟨(show 0 ≤ 32 by decide), (by simp : s = s >>> 0), Upd.refl _ _, [], [], rfl, Own.nil .., by simp⟩ fun x G hM => ?_ -- loop
  obtain ⟨k, x, v⟩ := x
  obtain ⟨hk0, hx, hu, l, F, hl, o, lF⟩ := hM
  simp only at hk0 hx hl o ⊢
  refine AW_seq ?_
  refine AW_seq ?_
  refine AW_reg [0, 3, 4, 6] fun K hK => ?_ -- region 3
  simp [init_eq]
  refine hK _ _ ?_; clear hK K
  refine AW_cond' rfl rfl (fun hc => ?_) (fun hc => ?_)
  · have hpos : 0 < x.toNat := by simpa using hc
    have hk : k < 32 := by
      apply Classical.byContradiction
      intro hn
      have : k = 32 := by omega
      subst this
      have h0 : x = 0#32 := by
        rw [hx]
        apply BitVec.eq_of_toNat_eq
        rw [BitVec.toNat_ushiftRight, Nat.shiftRight_eq_div_pow]
        exact Nat.div_eq_of_lt s.isLt
      rw [h0] at hpos; simp at hpos
    have hb := bit_odd s x k hx
    have hx1 : x >>> 1 = s >>> (k + 1) := by rw [hx, BitVec.shiftRight_add]
    have hll : l.length ≤ k := by
      rw [hl]; unfold cntB
      have := List.length_filter_le (fun i => s.getLsbD i) (List.range k)
      simpa using this
    refine AW_skip ?_
    refine AW_seq ?_
    refine AW_block ?_
    have key : ∀ {v' : V} {G' : AH} {l' : List Int} {F' : List Nat}, l'.length = cntB s (k + 1) → Own G' v' 1 (l'.map intC).flatten F' → Upd H G' [] → (∀ j ∈ F', H.next ≤ j) → (((k + 1, x >>> 1, v').1 : Nat) ≤ 32 ∧ (k + 1, x >>> 1, v').2.1 = s >>> (k + 1) ∧ Upd H G' [] ∧ ∃ (l : List Int) (F : List Nat), l.length = cntB s (k + 1) ∧ Own G' (k + 1, x >>> 1, v').2.2 1 (l.map intC).flatten F ∧ ∀ j ∈ F, H.next ≤ j) :=
      fun h1 h2 h3 h4 => ⟨(show k + 1 ≤ 32 by omega), hx1, h3, _, _, h1, h2, h4⟩
    refine AW_seq ?_
    refine AW_seq ?_
    refine AW_regto [0, 3, 4, 11] ⟨19, [(0, u32 x), (3, v), (4, .i .i64 (k : Int)), (11, .b (decide (x.toNat % 2 = 1)))]⟩ G (fun K hk => ?_) ?_ -- region 5
    · by_cases hodd : x.toNat % 2 = 1
      · simpa [init_eq, u32_odd, hodd] using hk
      · simpa [init_eq, u32_odd, hodd] using hk
    refine AW_cond' rfl rfl (fun hc => ?_) (fun hc => ?_)
    · have hodd : x.toNat % 2 = 1 := by simpa using hc
      obtain ⟨G2, v', G3, F', b1, b2, b3, b4, b5⟩ := o.pushR (f := intC) app_ints qelem_59 qsize_3 qzero_3 rfl rfl (by decide) (fun _ => rfl) (k : Int) (x := .i .i64 (k : Int)) rfl (by simp [roomOk]; omega)
      refine AW_reg [0, 3, 4] fun K hK => ?_ -- region 6
      simp [init_eq, b1, b2]
      refine hK _ _ ?_; clear hK K
      refine AW_reg [0, 3, 4] fun K hK => ?_ -- region 7
      simp [init_eq, u32_half]
      refine hK _ _ ?_; clear hK K
      refine bend (rend ?_)
      refine AW_reg [0, 3, 4] fun K hK => ?_ -- region 4
      simp [init_eq, wrap_id (x := (k : Int) + 1) (by omega) (by omega)]
      refine hK _ _ ?_; clear hK K
      refine rend ⟨(k + 1, x >>> 1, v'), by simp, key (by rw [cntB_succ, hb]; simp [hodd, hl]) b3 (hu.trans b4 (fun j hj => .inr (lF j hj))) (fun j hj => ?_), by simp; omega⟩ -- round's end
      rcases b5 j hj with h | h
      · exact lF j h
      · have := hu.1; omega
    · have hodd : ¬ x.toNat % 2 = 1 := by simpa using hc
      refine AW_skip ?_
      refine AW_reg [0, 3, 4] fun K hK => ?_ -- region 7
      simp [init_eq, u32_half]
      refine hK _ _ ?_; clear hK K
      refine bend (rend ?_)
      refine AW_reg [0, 3, 4] fun K hK => ?_ -- region 4
      simp [init_eq, wrap_id (x := (k : Int) + 1) (by omega) (by omega)]
      refine hK _ _ ?_; clear hK K
      exact rend ⟨(k + 1, x >>> 1, v), by simp, key (by rw [cntB_succ, hb]; simp [hodd, hl]) o hu lF, by simp; omega⟩ -- round's end
  · have h0 : x = 0#32 := by
      have : ¬ 0 < x.toNat := by simpa using hc
      apply BitVec.eq_of_toNat_eq; simp; omega
    have hpop : cntB s k = pop s := cntB_pop s (32 - k) (by omega) (by rw [← hx, h0])
    refine AW_exit (then_exit (then_exit (block_here ?_)))
    refine AW_seq ?_
    refine AW_reg [2] fun K hK => ?_ -- region 8
    simp [init_eq]
    refine hK _ _ ?_; clear hK K
    exact AW_ret (end_ret rfl ⟨l, F, o, by rw [hl, hpop], hu, lF⟩)
end Go.Proofs.YtfhbdbjgmcopjaaGreatDoor
