/-
  The document's sets and counts (chapter 4), without the packages of blocks.
-/
import Derived.Test.YtdioggohbfgnfaaCert
import Derived.Test.YtdioggohbfgnfaaAbsC
set_option linter.unusedVariables false
set_option linter.unusedSimpArgs false
namespace Go.Proofs.Ytdioggohbfgnfaa
open Go Go.Abs Go.Proofs
set_option maxRecDepth 100000
attribute [local irreducible] AEnd AW ACalls

theorem app_ints : App Try.prog 95 95 1 8 := App.mk' qelem_95 qsize_3 qbytes_3 qzero_3 qsrc_95 rfl (by decide)
def cnt (n : Nat) : V := .i .i64 n
def cntC (n : Nat) : List V := [cnt n]
theorem cntC_len (n : Nat) : (cntC n).length = 1 := rfl
/-- The members below a number. -/
def bitsTo (s : BitVec 32) (k : Nat) : List Nat := (List.range k).filter fun i => s.getLsbD i
def bitsOf (s : BitVec 32) : List Nat := bitsTo s 32
theorem bitsTo_succ (s : BitVec 32) (k : Nat) : bitsTo s (k + 1) = bitsTo s k ++ (if s.getLsbD k then [k] else []) := by
  unfold bitsTo
  rw [List.range_succ, List.filter_append]
  cases h : s.getLsbD k <;> simp [h]
theorem mem_bitsOf {s : BitVec 32} {k : Nat} : k ∈ bitsOf s ↔ s.getLsbD k = true := by
  unfold bitsOf bitsTo
  simp only [List.mem_filter, List.mem_range]
  exact ⟨fun h => h.2, fun h => ⟨BitVec.lt_of_getLsbD h, h⟩⟩
theorem bitsTo_stop (s : BitVec 32) : ∀ (n : Nat) {k : Nat}, k + n = 32 → s >>> k = 0#32 → bitsTo s k = bitsOf s
  | 0, k, h, _ => by simp at h; subst h; rfl
  | n + 1, k, h, hs => by
    have h1 : s.getLsbD k = false := by
      have := BitVec.getLsbD_ushiftRight s k 0
      rw [hs] at this; simpa using this.symm
    have h2 : s >>> (k + 1) = 0#32 := by rw [BitVec.shiftRight_add, hs]; simp
    rw [← bitsTo_stop s n (k := k + 1) (by omega) h2, bitsTo_succ, h1]; simp
theorem bitsOf_zero : bitsOf 0#32 = [] := by
  unfold bitsOf bitsTo
  rw [List.filter_eq_nil_iff]; intro i _; simp
theorem bitsOf_len (t : BitVec 32) : (bitsOf t).length ≤ 32 := by
  have := List.length_filter_le (fun i => t.getLsbD i) (List.range 32)
  simpa [bitsOf, bitsTo] using this
theorem u32_half {P : Program} {t : TypeId} (x : BitVec 32) : abin P .quo t (u32 x) (u32 2#32) = some (u32 (x >>> 1)) := by
  show (if IntKind.u32 = IntKind.u32 then aint .quo .u32 (x.toNat : Int) ((2#32 : BitVec 32).toNat : Int) else none) = _
  rw [if_pos rfl]
  unfold aint
  simp only []
  rw [show ((2#32 : BitVec 32).toNat : Int) = 2 from rfl, if_neg (by decide), Int.tdiv_eq_ediv_of_nonneg (by omega)]
  have h2 : (x.toNat : Int) / 2 = ((x.toNat / 2 : Nat) : Int) := by omega
  have h1 : (x >>> 1).toNat = x.toNat / 2 := by simp [Nat.shiftRight_eq_div_pow]
  have hlt := x.isLt
  rw [h2, wrap_u32 (by omega)]
  unfold u32
  rw [h1]
theorem u32_odd {P : Program} {t : TypeId} (x : BitVec 32) : abin P .rem t (u32 x) (u32 2#32) = some (u32 (if x.toNat % 2 = 1 then 1#32 else 0#32)) := by
  show (if IntKind.u32 = IntKind.u32 then aint .rem .u32 (x.toNat : Int) ((2#32 : BitVec 32).toNat : Int) else none) = _
  rw [if_pos rfl]
  unfold aint
  simp only []
  rw [show ((2#32 : BitVec 32).toNat : Int) = 2 from rfl, if_neg (by decide), Int.tmod_eq_emod_of_nonneg (by omega)]
  by_cases h : x.toNat % 2 = 1
  · rw [if_pos h, show (x.toNat : Int) % 2 = 1 by omega]; rfl
  · rw [if_neg h, show (x.toNat : Int) % 2 = 0 by omega]; rfl
theorem bit_odd (s x : BitVec 32) (k : Nat) (hx : x = s >>> k) : s.getLsbD k = decide (x.toNat % 2 = 1) := by
  have h1 := BitVec.getLsbD_ushiftRight s k 0
  rw [← hx] at h1
  rw [show k + 0 = k from rfl] at h1
  rw [← h1, BitVec.getLsbD, Nat.testBit_zero]
theorem rlist_ok (H : AH) (s : BitVec 32) : ACalls Try.prog 61 [u32 s] H fun r H' => ∃ (F : List Nat), Own H' r 1 ((bitsOf s).map cntC).flatten F ∧ Upd H H' [] ∧ ∀ j ∈ F, H.next ≤ j := by
  refine ACalls_body Try.func61 rfl rfl ?_
  refine AW_seq ?_
  refine AW_reg [0] fun K hK => ?_ -- region 0
  simp [init_eq]
  refine hK _ _ ?_; clear hK K
  refine AW_seq ?_
  refine AW_reg [0, 3] fun K hK => ?_ -- region 1
  simp [init_eq]
  refine hK _ _ ?_; clear hK K
  refine AW_seq ?_
  refine AW_seq ?_
  refine AW_reg [0, 3, 4] fun K hK => ?_ -- region 2
  simp [init_eq]
  refine hK _ _ ?_; clear hK K
  refine AW_block ?_
  refine AW_loopx (fun x : Nat × BitVec 32 × V => ⟨19, [(0, u32 x.2.1), (3, x.2.2), (4, .i .i64 (x.1 : Int))]⟩)
    (fun x G => x.1 ≤ 32 ∧ x.2.1 = s >>> x.1 ∧ Upd H G [] ∧ ∃ (l : List Nat) (F : List Nat), l = bitsTo s x.1 ∧ Own G x.2.2 1 (l.map cntC).flatten F ∧ ∀ j ∈ F, H.next ≤ j)
    (fun x => 32 - x.1) (0, s, .sl none 0 false) (by simp) ⟨(show 0 ≤ 32 by decide), (by simp : s = s >>> 0), Upd.refl _ _, [], [], rfl, Own.nil .., by simp⟩ fun x G hM => ?_ -- loop
  obtain ⟨k, x, v⟩ := x
  obtain ⟨hk0, hx, hu, l, F, hl, o, lF⟩ := hM
  simp only at hk0 hx hl o ⊢
  refine AW_seq ?_
  refine AW_seq ?_
  refine AW_reg [0, 3, 4, 6] fun K hK => ?_ -- region 3
  simp [init_eq]
  refine hK _ _ ?_; clear hK K
  refine AW_cond' rfl rfl (fun hc => ?_) (fun hc => ?_)
  · have hpos : 0 < x.toNat := by simpa using hc
    have hk : k < 32 := by
      apply Classical.byContradiction
      intro hn
      have : k = 32 := by omega
      subst this
      have h0 : x = 0#32 := by
        rw [hx]
        apply BitVec.eq_of_toNat_eq
        rw [BitVec.toNat_ushiftRight, Nat.shiftRight_eq_div_pow]
        exact Nat.div_eq_of_lt s.isLt
      rw [h0] at hpos; simp at hpos
    have hb := bit_odd s x k hx
    have hx1 : x >>> 1 = s >>> (k + 1) := by rw [hx, BitVec.shiftRight_add]
    have hll : l.length ≤ k := by
      rw [hl]; unfold bitsTo
      have := List.length_filter_le (fun i => s.getLsbD i) (List.range k)
      simpa using this
    refine AW_skip ?_
    refine AW_seq ?_
    refine AW_block ?_
    have key : ∀ {v' : V} {G' : AH} {l' : List Nat} {F' : List Nat}, l' = bitsTo s (k + 1) → Own G' v' 1 (l'.map cntC).flatten F' → Upd H G' [] → (∀ j ∈ F', H.next ≤ j) → (((k + 1, x >>> 1, v').1 : Nat) ≤ 32 ∧ (k + 1, x >>> 1, v').2.1 = s >>> (k + 1) ∧ Upd H G' [] ∧ ∃ (l : List Nat) (F : List Nat), l = bitsTo s (k + 1) ∧ Own G' (k + 1, x >>> 1, v').2.2 1 (l.map cntC).flatten F ∧ ∀ j ∈ F, H.next ≤ j) :=
      fun h1 h2 h3 h4 => ⟨(show k + 1 ≤ 32 by omega), hx1, h3, _, _, h1, h2, h4⟩
    refine AW_seq ?_
    refine AW_seq ?_
    refine AW_regto [0, 3, 4, 11] ⟨19, [(0, u32 x), (3, v), (4, .i .i64 (k : Int)), (11, .b (decide (x.toNat % 2 = 1)))]⟩ G (fun K hk => ?_) ?_ -- region 5
    · by_cases hodd : x.toNat % 2 = 1
      · simpa [init_eq, u32_odd, hodd] using hk
      · simpa [init_eq, u32_odd, hodd] using hk
    refine AW_cond' rfl rfl (fun hc => ?_) (fun hc => ?_)
    · have hodd : x.toNat % 2 = 1 := by simpa using hc
      obtain ⟨G2, v', G3, F', b1, b2, b3, b4, b5⟩ := o.pushR (f := cntC) app_ints qelem_95 qsize_3 qzero_3 rfl rfl (by decide) (fun _ => rfl) k (x := .i .i64 (k : Int)) rfl (by simp [roomOk]; omega)
      refine AW_reg [0, 3, 4] fun K hK => ?_ -- region 6
      simp [init_eq, b1, b2]
      refine hK _ _ ?_; clear hK K
      refine AW_reg [0, 3, 4] fun K hK => ?_ -- region 7
      simp [init_eq, u32_half]
      refine hK _ _ ?_; clear hK K
      refine bend (rend ?_)
      refine AW_reg [0, 3, 4] fun K hK => ?_ -- region 4
      simp [init_eq, wrap_id (x := (k : Int) + 1) (by omega) (by omega)]
      refine hK _ _ ?_; clear hK K
      refine rend ⟨(k + 1, x >>> 1, v'), by simp, key (by rw [bitsTo_succ, hb]; simp [hodd, hl]) b3 (hu.trans b4 (fun j hj => .inr (lF j hj))) (fun j hj => ?_), by simp; omega⟩ -- round's end
      rcases b5 j hj with h | h
      · exact lF j h
      · have := hu.1; omega
    · have hodd : ¬ x.toNat % 2 = 1 := by simpa using hc
      refine AW_skip ?_
      refine AW_reg [0, 3, 4] fun K hK => ?_ -- region 7
      simp [init_eq, u32_half]
      refine hK _ _ ?_; clear hK K
      refine bend (rend ?_)
      refine AW_reg [0, 3, 4] fun K hK => ?_ -- region 4
      simp [init_eq, wrap_id (x := (k : Int) + 1) (by omega) (by omega)]
      refine hK _ _ ?_; clear hK K
      exact rend ⟨(k + 1, x >>> 1, v), by simp, key (by rw [bitsTo_succ, hb]; simp [hodd, hl]) o hu lF, by simp; omega⟩ -- round's end
  · have h0 : x = 0#32 := by
      have : ¬ 0 < x.toNat := by simpa using hc
      apply BitVec.eq_of_toNat_eq; simp; omega
    have hpop : bitsTo s k = bitsOf s := bitsTo_stop s (32 - k) (by omega) (by rw [← hx, h0])
    refine AW_exit (then_exit (then_exit (block_here ?_)))
    refine AW_seq ?_
    refine AW_reg [2] fun K hK => ?_ -- region 8
    simp [init_eq]
    refine hK _ _ ?_; clear hK K
    rw [hl, hpop] at o
    exact AW_ret (end_ret rfl ⟨F, o, hu, lF⟩)
/-- Is it in a set? -/
def hasB (s : BitVec 32) (k : Int) : Bool := decide (0 ≤ k) && s.getLsbD k.toNat
theorem shr_one (s : BitVec 32) (n : Nat) : ((s >>> n) &&& 1#32 = 1#32) = (s.getLsbD n = true) := by
  have h : ((s >>> n) &&& 1#32 = 1#32) ↔ (s >>> n).getLsbD 0 = true := by
    constructor
    · intro h
      have := congrArg (fun b => BitVec.getLsbD b 0) h
      simpa using this
    · intro h
      apply BitVec.eq_of_getLsbD_eq
      intro i hi
      rw [BitVec.getLsbD_and]
      by_cases h0 : i = 0
      · subst h0; simpa using h
      · have : (1#32).getLsbD i = false := by simp [BitVec.getLsbD_one, h0]
        simp [this]
  exact propext (h.trans (by simp [BitVec.getLsbD_ushiftRight]))
theorem some_ok (H : AH) (f : Int) : ACalls Try.prog 55 [.i .i64 f] H fun r H' => r = .i .i64 (qtimes 1 f) ∧ H' = H := by
  refine ACalls_body Try.func55 rfl rfl ?_
  refine AW_seq ?_
  refine AW_reg [0] fun K hK => ?_ -- region 0
  simp [init_eq]
  refine hK _ _ ?_; clear hK K
  refine AW_seq ?_
  refine AW_reg [2] fun K hK => ?_ -- region 1
  simp [init_eq]
  refine ACalls.mono (times_ok H 1 f (by decide)) fun r H' ⟨hr, e⟩ => ?_ -- hallmoot/quorum.times
  subst hr e
  try simp
  refine hK _ _ ?_; clear hK K
  exact AW_ret (end_ret rfl ⟨rfl, rfl⟩)
theorem qtimes3 (f : Int) : qtimes 3 f = 0 ∨ qtimes 3 f = 4 ∨ qtimes 3 f = 7 ∨ qtimes 3 f = 10 := by
  unfold qtimes
  split
  · exact .inl rfl
  · have : f = 1 ∨ f = 2 ∨ f = 3 := by omega
    rcases this with rfl | rfl | rfl <;> simp
theorem full_bit (f : Int) (h : qtimes 3 f ≠ 0) (i : Nat) (hi : i < 32) : (fullSet f).getLsbD i = decide ((i : Int) < qtimes 3 f) := by
  have h4 : ∀ i : Fin 32, (15#32).getLsbD i = decide (i.val < 4) := by decide
  have h7 : ∀ i : Fin 32, (127#32).getLsbD i = decide (i.val < 7) := by decide
  have h10 : ∀ i : Fin 32, (1023#32).getLsbD i = decide (i.val < 10) := by decide
  rcases qtimes3 f with e | e | e | e
  · exact absurd e h
  · have : fullSet f = 15#32 := by rw [fullSet, e]; rfl
    rw [this, e]
    exact (h4 ⟨i, hi⟩).trans (decide_eq_decide.2 (by simp; omega))
  · have : fullSet f = 127#32 := by rw [fullSet, e]; rfl
    rw [this, e]
    exact (h7 ⟨i, hi⟩).trans (decide_eq_decide.2 (by simp; omega))
  · have : fullSet f = 1023#32 := by rw [fullSet, e]; rfl
    rw [this, e]
    exact (h10 ⟨i, hi⟩).trans (decide_eq_decide.2 (by simp; omega))
theorem qcheck_zero (f : Int) (s : BitVec 32) : qcheck f s = 0 ↔ qtimes 3 f ≠ 0 ∧ ∀ k ∈ bitsOf s, (k : Int) < qtimes 3 f := by
  unfold qcheck
  by_cases h : qtimes 3 f = 0
  · simp [h]
  · rw [if_neg h]
    have key : (s &&& ~~~fullSet f = 0#32) ↔ ∀ k ∈ bitsOf s, (k : Int) < qtimes 3 f := by
      constructor
      · intro e k hk
        have hb := mem_bitsOf.1 hk
        have hlt := BitVec.lt_of_getLsbD hb
        have e2 : (s &&& ~~~fullSet f).getLsbD k = (0#32).getLsbD k := congrArg (fun b => BitVec.getLsbD b k) e
        rw [BitVec.getLsbD_and, BitVec.getLsbD_not, full_bit f h k hlt, hb] at e2
        cases hd : decide ((k : Int) < qtimes 3 f) with
        | true => exact of_decide_eq_true hd
        | false => rw [hd] at e2; simp [hlt] at e2
      · intro hk
        apply BitVec.eq_of_getLsbD_eq
        intro i hi
        rw [BitVec.getLsbD_and, BitVec.getLsbD_not, full_bit f h i hi]
        cases hb : s.getLsbD i with
        | false => simp
        | true =>
          have := hk i (mem_bitsOf.2 hb)
          simp [this]
    rw [← key]
    constructor
    · intro e
      refine ⟨h, ?_⟩
      apply Classical.byContradiction
      intro hn; rw [if_neg hn] at e; simp at e
    · intro e; rw [if_pos e.2]
theorem pop_bits (s : BitVec 32) : pop s = (bitsOf s).length := rfl
theorem rall_ok (H : AH) (f : Int) : ACalls Try.prog 40 [.i .i64 f] H fun r H' => r = .i .i64 (qtimes 3 f) ∧ H' = H := by
  refine ACalls_body Try.func40 rfl rfl ?_
  repeat refine AW_seq ?_
  refine AW_reg [0] fun K hK => ?_ -- region 0
  simp [init_eq]
  refine hK _ _ ?_; clear hK K
  repeat refine AW_seq ?_
  refine AW_regto [0, 8] ⟨15, [(0, .i .i64 f), (8, .b (decide (f < 1 ∨ 3 < f)))]⟩ H (fun K hk => ?_) ?_ -- region 1
  · by_cases g1 : f < 1
    · simpa [init_eq, g1] using hk
    · simpa [init_eq, g1] using hk
  refine AW_cond' rfl rfl (fun hc => ?_) (fun hc => ?_)
  · have g1 : f < 1 ∨ 3 < f := by simpa using hc
    repeat refine AW_seq ?_
    refine AW_reg [2] fun K hK => ?_ -- region 2
    simp [init_eq]
    refine hK _ _ ?_; clear hK K
    exact AW_ret (end_ret rfl ⟨by rw [qtimes, if_pos g1]; rfl, rfl⟩)
  · have g1 : ¬ (f < 1 ∨ 3 < f) := by simpa using hc
    refine AW_skip ?_
    repeat refine AW_seq ?_
    refine AW_reg [2] fun K hK => ?_ -- region 3
    simp [init_eq, wrap_id (x := f + f) (by omega) (by omega), wrap_id (x := f + f + f) (by omega) (by omega), wrap_id (x := f + f + f + 1) (by omega) (by omega)]
    refine hK _ _ ?_; clear hK K
    refine AW_ret (end_ret rfl ⟨?_, rfl⟩)
    rw [qtimes, if_neg g1]
    simp; omega
theorem qcheck_40 {f : Int} {s : BitVec 32} (h : ¬ qtimes 3 f = 0) {k : Nat} (hk : k ∈ bitsOf s) (h2 : qtimes 3 f ≤ k) : qcheck f s = 40 := by
  have hn : ¬ qcheck f s = 0 := fun e => by have := ((qcheck_zero ..).1 e).2 k hk; omega
  unfold qcheck at hn ⊢
  rw [if_neg h] at hn ⊢
  split
  · rename_i h3; rw [if_pos h3] at hn; exact absurd rfl hn
  · rfl
theorem rqcheckE_ok (H : AH) (f : Int) (s : BitVec 32) : ACalls Try.prog 42 [.i .i64 f, u32 s] H fun r H' => r = .i .i64 (qcheck f s) ∧ H' = H := by
  refine ACalls.pure (Q := fun r => r = .i .i64 (qcheck f s)) ⟨_, Try.func42, rfl, rfl⟩ ?_
  refine ACalls_body Try.func42 rfl rfl ?_
  repeat refine AW_seq ?_
  refine AW_reg [0, 1] fun K hK => ?_ -- region 0
  simp [init_eq]
  refine hK _ _ ?_; clear hK K
  repeat refine AW_seq ?_
  refine AW_reg [0, 1, 9] fun K hK => ?_ -- region 1
  simp [init_eq]
  refine ACalls.mono (rall_ok H f) fun r H' ⟨hr, e⟩ => ?_ -- hallmoot/hallmootref04.All
  subst hr e
  try simp
  refine hK _ _ ?_; clear hK K
  refine AW_cond' rfl rfl (fun hc => ?_) (fun hc => ?_)
  · have g : qtimes 3 f = 0 := by simpa using hc
    repeat refine AW_seq ?_
    refine AW_reg [4] fun K hK => ?_ -- region 2
    simp [init_eq]
    refine hK _ _ ?_; clear hK K
    exact AW_ret (end_ret rfl (same_end (by rw [qcheck, if_pos g]; rfl) rfl))
  · have g : ¬ qtimes 3 f = 0 := by simpa using hc
    refine AW_skip ?_
    repeat refine AW_seq ?_
    refine AW_reg [0, 5] fun K hK => ?_ -- region 3
    simp [init_eq]
    refine ACalls.mono (rlist_ok H' s) fun v H2 hr => ?_ -- hallmoot/hallmootref04.List
    obtain ⟨FL, ol, u2, lF⟩ := hr
    have hrs : RS H2 v 1 ((bitsOf s).map cntC) := ol.rsR (by decide) cntC_len
    have lx := hrs.alen (P := Try.prog) qelem_95 H2
    have hle := bitsOf_len s
    try simp
    refine hK _ _ ?_; clear hK K
    repeat refine AW_seq ?_
    refine AW_reg [0, 5, 6] fun K hK => ?_ -- region 4
    simp [init_eq]
    refine hK _ _ ?_; clear hK K
    refine AW_block ?_
    refine AW_loop0 (fun i : Nat => ⟨25, [(0, .i .i64 f), (5, v), (6, .i .i64 i)]⟩) (fun i => i ≤ (bitsOf s).length ∧ ∀ j (hj : j < (bitsOf s).length), j < i → ((bitsOf s)[j] : Int) < qtimes 3 f) (fun i => (bitsOf s).length - i) 0 (by simp) (by simp) (by have := u2.1; dsimp only; omega) fun hw i hM => ?_ -- loop
    repeat refine AW_seq ?_
    refine AW_reg [0, 5, 6, 15] fun K hK => ?_ -- region 5
    simp [init_eq, lx]
    refine hK _ _ ?_; clear hK K
    refine AW_cond' rfl rfl (fun hc => ?_) (fun hc => ?_)
    · have hi : i < (bitsOf s).length := by simpa using hc
      obtain ⟨ax, px, qx⟩ := hrs.at1 (P := Try.prog) (t := 95) (e := 3) qelem_95 qsize_3 qagg_3 (k := .i64) i (x := cnt (bitsOf s)[i]) (by simp [hi, cntC])
      refine AW_skip ?_
      repeat refine AW_seq ?_
      refine AW_block ?_
      repeat refine AW_seq ?_
      refine AW_regd [0, 5, 6, 24] pl_42_7 pe_42_7 (by kernel_rfl) (by kernel_rfl) (by decide) fun K hK => ?_
      simp [init_eq, pl_42_7, px, qx, cnt]
      refine ACalls.mono (rall_ok H2 f) fun r H3 ⟨hr, e⟩ => ?_ -- hallmoot/hallmootref04.All
      subst hr e
      simp [px, qx, cnt]
      refine hK _ _ ?_; clear hK K
      refine AW_cond' rfl rfl (fun hc => ?_) (fun hc => ?_)
      · have g2 : qtimes 3 f ≤ (bitsOf s)[i] := by simpa using hc
        repeat refine AW_seq ?_
        refine AW_reg [4] fun K hK => ?_ -- region 8
        simp [init_eq]
        refine hK _ _ ?_; clear hK K
        refine AW_ret (end_ret rfl ⟨?_, rfl, u2.1, fun j hj => u2.2 j hj (by simp)⟩)
        rw [qcheck_40 g (List.getElem_mem hi) g2]; rfl
      · have g2 : ¬ qtimes 3 f ≤ (bitsOf s)[i] := by simpa using hc
        refine AW_skip ?_
        refine AW_reg [0, 5, 6] fun K hK => ?_ -- region 6
        simp [init_eq, wrap_id (x := (i : Int) + 1) (by omega) (by omega)]
        refine hK _ _ ?_; clear hK K
        exact rend ⟨i + 1, by simp, ⟨by omega, fun j hj hj' => (Nat.lt_or_eq_of_le (Nat.le_of_lt_succ hj')).elim (fun h => hM.2 j hj h) (fun h => by subst h; omega)⟩, by omega, .inl rfl⟩
    · have hi : i = (bitsOf s).length := by have := hM.1
                                            have : ¬ i < (bitsOf s).length := by simpa using hc
                                            omega
      have g2 : qcheck f s = 0 := (qcheck_zero ..).2 ⟨g, fun k hk => by
        obtain ⟨j, hj, e⟩ := List.mem_iff_getElem.1 hk
        have := hM.2 j hj (by omega)
        rw [← e]; exact this⟩
      refine AW_exit (then_exit (then_exit (block_here ?_)))
      repeat refine AW_seq ?_
      refine AW_reg [4] fun K hK => ?_ -- region 9
      simp [init_eq]
      refine hK _ _ ?_; clear hK K
      exact AW_ret (end_ret rfl ⟨by rw [g2]; rfl, rfl, u2.1, fun j hj => u2.2 j hj (by simp)⟩)
theorem hasB_mem (s : BitVec 32) (k : Int) : hasB s k = true ↔ ∃ n ∈ bitsOf s, (n : Int) = k := by
  unfold hasB
  constructor
  · intro h
    simp only [Bool.and_eq_true, decide_eq_true_eq] at h
    exact ⟨k.toNat, mem_bitsOf.2 h.2, by omega⟩
  · rintro ⟨n, hn, rfl⟩
    simp [mem_bitsOf.1 hn]
theorem rsetHas_ok (H : AH) (s : BitVec 32) (k : Int) : ACalls Try.prog 46 [u32 s, .i .i64 k] H fun r H' => r = .b (hasB s k) ∧ H' = H := by
  refine ACalls.pure (Q := fun r => r = .b (hasB s k)) ⟨_, Try.func46, rfl, rfl⟩ ?_
  refine ACalls_body Try.func46 rfl rfl ?_
  repeat refine AW_seq ?_
  refine AW_reg [0, 1] fun K hK => ?_ -- region 0
  simp [init_eq]
  refine hK _ _ ?_; clear hK K
  repeat refine AW_seq ?_
  refine AW_reg [1, 5] fun K hK => ?_ -- region 1
  simp [init_eq]
  refine ACalls.mono (rlist_ok H s) fun v H2 hr => ?_ -- hallmoot/hallmootref04.List
  obtain ⟨FL, ol, u2, lF⟩ := hr
  have hrs : RS H2 v 1 ((bitsOf s).map cntC) := ol.rsR (by decide) cntC_len
  have lx := hrs.alen (P := Try.prog) qelem_95 H2
  have hle := bitsOf_len s
  try simp
  refine hK _ _ ?_; clear hK K
  repeat refine AW_seq ?_
  refine AW_reg [1, 5, 6] fun K hK => ?_ -- region 2
  simp [init_eq]
  refine hK _ _ ?_; clear hK K
  refine AW_block ?_
  refine AW_loop0 (fun i : Nat => ⟨21, [(1, .i .i64 k), (5, v), (6, .i .i64 i)]⟩) (fun i => i ≤ (bitsOf s).length ∧ ∀ j (hj : j < (bitsOf s).length), j < i → ¬ ((bitsOf s)[j] : Int) = k) (fun i => (bitsOf s).length - i) 0 (by simp) (by simp) (by have := u2.1; dsimp only; omega) fun hw i hM => ?_ -- loop
  repeat refine AW_seq ?_
  refine AW_reg [1, 5, 6, 12] fun K hK => ?_ -- region 3
  simp [init_eq, lx]
  refine hK _ _ ?_; clear hK K
  refine AW_cond' rfl rfl (fun hc => ?_) (fun hc => ?_)
  · have hi : i < (bitsOf s).length := by simpa using hc
    obtain ⟨ax, px, qx⟩ := hrs.at1 (P := Try.prog) (t := 95) (e := 3) qelem_95 qsize_3 qagg_3 (k := .i64) i (x := cnt (bitsOf s)[i]) (by simp [hi, cntC])
    refine AW_skip ?_
    repeat refine AW_seq ?_
    refine AW_block ?_
    repeat refine AW_seq ?_
    refine AW_reg [1, 5, 6, 20] fun K hK => ?_ -- region 5
    simp [init_eq, px, qx, cnt]
    refine hK _ _ ?_; clear hK K
    refine AW_cond' rfl rfl (fun hc => ?_) (fun hc => ?_)
    · have g : ((bitsOf s)[i] : Int) = k := by simpa using hc
      have hh : hasB s k = true := (hasB_mem s k).2 ⟨_, List.getElem_mem hi, g⟩
      repeat refine AW_seq ?_
      refine AW_reg [4] fun K hK => ?_ -- region 6
      simp [init_eq]
      refine hK _ _ ?_; clear hK K
      exact AW_ret (end_ret rfl ⟨by rw [hh]; rfl, rfl, u2.1, fun j hj => u2.2 j hj (by simp)⟩)
    · have g : ¬ ((bitsOf s)[i] : Int) = k := by simpa using hc
      refine AW_skip ?_
      refine AW_reg [1, 5, 6] fun K hK => ?_ -- region 4
      simp [init_eq, wrap_id (x := (i : Int) + 1) (by omega) (by omega)]
      refine hK _ _ ?_; clear hK K
      exact rend ⟨i + 1, by simp, ⟨by omega, fun j hj hj' => (Nat.lt_or_eq_of_le (Nat.le_of_lt_succ hj')).elim (fun h => hM.2 j hj h) (fun h => by subst h; exact g)⟩, by omega, .inl rfl⟩
  · have hi : i = (bitsOf s).length := by have := hM.1
                                          have : ¬ i < (bitsOf s).length := by simpa using hc
                                          omega
    have hh : hasB s k = false := by
      rw [Bool.eq_false_iff]; intro h
      obtain ⟨n, hn, e⟩ := (hasB_mem s k).1 h
      obtain ⟨j, hj, e2⟩ := List.mem_iff_getElem.1 hn
      exact hM.2 j hj (by omega) (by rw [e2]; exact e)
    refine AW_exit (then_exit (then_exit (block_here ?_)))
    repeat refine AW_seq ?_
    refine AW_reg [4] fun K hK => ?_ -- region 7
    simp [init_eq]
    refine hK _ _ ?_; clear hK K
    exact AW_ret (end_ret rfl ⟨by rw [hh]; rfl, rfl, u2.1, fun j hj => u2.2 j hj (by simp)⟩)
theorem rquorum_ok (H : AH) (f : Int) : ACalls Try.prog 47 [.i .i64 f] H fun r H' => r = .i .i64 (qtimes 2 f) ∧ H' = H := by
  refine ACalls_body Try.func47 rfl rfl ?_
  repeat refine AW_seq ?_
  refine AW_reg [0] fun K hK => ?_
  simp [init_eq]
  refine hK _ _ ?_; clear hK K
  repeat refine AW_seq ?_
  refine AW_reg [0, 5] fun K hK => ?_
  simp [init_eq]
  refine ACalls.mono (rall_ok H f) fun r H' ⟨hr, e⟩ => ?_ -- hallmoot/hallmootref04.All
  subst hr e
  try simp
  refine hK _ _ ?_; clear hK K
  refine AW_cond' rfl rfl (fun hc => ?_) (fun hc => ?_)
  · have g : qtimes 3 f = 0 := by simpa using hc
    have e : qtimes 2 f = 0 := by
      unfold qtimes at g ⊢
      split
      · rfl
      · rename_i h; rw [if_neg h] at g; omega
    repeat refine AW_seq ?_
    refine AW_reg [2] fun K hK => ?_
    simp [init_eq]
    refine hK _ _ ?_; clear hK K
    exact AW_ret (end_ret rfl ⟨by rw [e]; rfl, rfl⟩)
  · have g : ¬ qtimes 3 f = 0 := by simpa using hc
    have hf : ¬ (f < 1 ∨ 3 < f) := fun h => g (by unfold qtimes; rw [if_pos h])
    have e : qtimes 2 f = f + f + 1 := by unfold qtimes; rw [if_neg hf]; omega
    refine AW_skip ?_
    repeat refine AW_seq ?_
    refine AW_reg [2] fun K hK => ?_
    simp [init_eq, wrap_id (x := f + f) (by omega) (by omega), wrap_id (x := f + f + 1) (by omega) (by omega)]
    refine hK _ _ ?_; clear hK K
    exact AW_ret (end_ret rfl ⟨by rw [e]; rfl, rfl⟩)
end Go.Proofs.Ytdioggohbfgnfaa
