/-
  The document's tally: Of, New, kept, replica, plain.
-/
import Derived.Test.YtdioggohbfgnfaaTR1
import Derived.Test.YtdioggohbfgnfaaTally1
set_option linter.unusedVariables false
set_option linter.unusedSimpArgs false
namespace Go.Proofs.Ytdioggohbfgnfaa
open Go Go.Abs Go.Proofs
set_option maxRecDepth 100000
attribute [local irreducible] AEnd AW ACalls

theorem u32_twice {P : Program} {t : TypeId} (x : BitVec 32) : abin P .mul t (u32 x) (u32 2#32) = some (u32 (x <<< 1)) := by
  show (if IntKind.u32 = IntKind.u32 then aint .mul .u32 (x.toNat : Int) ((2#32 : BitVec 32).toNat : Int) else none) = _
  rw [if_pos rfl]
  unfold aint
  simp only []
  rw [show ((2#32 : BitVec 32).toNat : Int) = 2 from rfl, IntKind.wrap_u32]
  have h1 : (x <<< 1).toNat = x.toNat * 2 % 4294967296 := by
    rw [BitVec.toNat_shiftLeft, Nat.shiftLeft_eq]
  unfold u32
  rw [h1]
  first | rfl | (congr 2; omega) | (congr 2)
theorem even_or (x : BitVec 32) (h : x.getLsbD 0 = false) : x + 1#32 = x ||| 1#32 := by
  refine BitVec.add_eq_or_of_and_eq_zero x 1#32 ?_
  apply BitVec.eq_of_getLsbD_eq
  intro i hi
  rw [BitVec.getLsbD_and]
  by_cases h0 : i = 0
  · subst h0; rw [h]; rfl
  · have : (1#32).getLsbD i = false := by simp [BitVec.getLsbD_one, h0]
    simp [this]
theorem u32_inc {P : Program} {t : TypeId} (x : BitVec 32) (h : x.getLsbD 0 = false) : abin P .add t (u32 x) (u32 1#32) = some (u32 (x ||| 1#32)) := by
  show (if IntKind.u32 = IntKind.u32 then aint .add .u32 (x.toNat : Int) ((1#32 : BitVec 32).toNat : Int) else none) = _
  rw [if_pos rfl]
  unfold aint
  simp only []
  rw [show ((1#32 : BitVec 32).toNat : Int) = 1 from rfl, IntKind.wrap_u32, ← even_or x h]
  have h1 : (x + 1#32).toNat = (x.toNat + 1) % 4294967296 := by rw [BitVec.toNat_add]; rfl
  unfold u32
  rw [h1]
  first | rfl | (congr 2; omega) | (congr 2)
theorem bit0 (x : BitVec 32) : x.getLsbD 0 = decide (x.toNat % 2 = 1) := bit_odd x x 0 (by simp)
/-- A set of numbers. -/
def setOfL (l : List Nat) : BitVec 32 := BitVec.ofNat 32 ((List.range 32).foldr (fun i a => 2 * a + (if i ∈ l then 1 else 0)) 0)
def roSet (x : BitVec 32) (b : Bool) : BitVec 32 := (x <<< 1) ||| (if b then 1#32 else 0#32)
theorem roSet_bit (x : BitVec 32) (b : Bool) (i : Nat) (hi : i < 32) : (roSet x b).getLsbD i = if i = 0 then b else x.getLsbD (i - 1) := by
  unfold roSet
  rw [BitVec.getLsbD_or, BitVec.getLsbD_shiftLeft]
  by_cases h0 : i = 0
  · subst h0; cases b <;> simp
  · have : (1#32).getLsbD i = false := by simp [BitVec.getLsbD_one, h0]
    cases b <;> simp [this, h0, hi, show ¬ i < 1 by omega]
theorem roSet_odd (x : BitVec 32) (b : Bool) : (roSet x b).getLsbD 0 = b := by rw [roSet_bit x b 0 (by decide)]; simp
theorem rof_ok (H : AH) {v : V} {l : List Nat} (hrs : RS H v 1 (l.map cntC)) (hl : l.length ≤ 1000000000) : ACalls Try.prog 48 [v] H fun r H' => (∃ s : BitVec 32, r = u32 s ∧ ∀ i, i < 32 → s.getLsbD i = decide (i ∈ l)) ∧ H' = H := by
  have lx := hrs.alen (P := Try.prog) qelem_95 H
  refine ACalls_body Try.func48 rfl rfl ?_
  repeat refine AW_seq ?_
  refine AW_reg [0] fun K hK => ?_ -- region 0
  simp [init_eq]
  refine hK _ _ ?_; clear hK K
  repeat refine AW_seq ?_
  refine AW_reg [0, 3] fun K hK => ?_ -- region 1
  simp [init_eq]
  refine hK _ _ ?_; clear hK K
  repeat refine AW_seq ?_
  refine AW_reg [0, 3, 4] fun K hK => ?_ -- region 2
  simp [init_eq]
  refine hK _ _ ?_; clear hK K
  refine AW_block ?_
  refine AW_loopx (fun x : Nat × BitVec 32 => ⟨32, [(0, v), (3, u32 x.2), (4, .i .i64 (31 - (x.1 : Int)))]⟩)
    (fun x G => G = H ∧ x.1 ≤ 32 ∧ ∀ i, i < 32 → x.2.getLsbD i = decide (i + (32 - x.1) ∈ l ∧ i + (32 - x.1) < 32)) (fun x => 32 - x.1) (0, 0#32) (by simp) ⟨rfl, by simp, fun i hi => by simp⟩ fun x G hM => ?_ -- loop
  obtain ⟨m, x⟩ := x
  obtain ⟨rfl, hm, hx⟩ := hM
  simp only at hm hx ⊢
  repeat refine AW_seq ?_
  refine AW_reg [0, 3, 4, 7] fun K hK => ?_ -- region 3
  simp [init_eq]
  refine hK _ _ ?_; clear hK K
  refine AW_cond' rfl rfl (fun hc => ?_) (fun hc => ?_)
  · have hm' : m < 32 := by
      have : (0 : Int) ≤ 31 - (m : Int) := by simpa using hc
      omega
    refine AW_skip ?_
    repeat refine AW_seq ?_
    refine AW_block ?_
    repeat refine AW_seq ?_
    refine AW_reg [0, 3, 4] fun K hK => ?_ -- region 5
    simp [init_eq, u32_twice]
    refine hK _ _ ?_; clear hK K
    repeat refine AW_seq ?_
    refine AW_reg [0, 3, 4, 5] fun K hK => ?_ -- region 6
    simp [init_eq]
    refine hK _ _ ?_; clear hK K
    refine AW_block ?_
    refine AW_loopx (fun j : Nat => ⟨32, [(0, v), (3, u32 (roSet x (decide (31 - m ∈ l.take j)))), (4, .i .i64 (31 - (m : Int))), (5, .i .i64 j)]⟩) (fun j G' => G' = G ∧ j ≤ l.length) (fun j => l.length - j) 0 (by simp [roSet]) ⟨rfl, by simp⟩ fun j G' hM => ?_ -- loop
    obtain ⟨rfl, hj⟩ := hM
    repeat refine AW_seq ?_
    refine AW_reg [0, 3, 4, 5, 15] fun K hK => ?_ -- region 7
    simp [init_eq, lx]
    refine hK _ _ ?_; clear hK K
    refine AW_cond' rfl rfl (fun hc => ?_) (fun hc => ?_)
    · have hj' : j < l.length := by simpa using hc
      obtain ⟨ax, px, qx⟩ := hrs.at1 (P := Try.prog) (t := 95) (e := 3) qelem_95 qsize_3 qagg_3 (k := .i64) j (x := cnt l[j]) (by simp [hj', cntC])
      have htk : l.take (j + 1) = l.take j ++ [l[j]] := List.take_succ_eq_append_getElem hj'
      have hodd := roSet_odd x (decide (31 - m ∈ l.take j))
      rw [bit0] at hodd
      have hgr : ((31 : Int) - (m : Int)) = ((31 - m : Nat) : Int) := by omega
      refine AW_skip ?_
      repeat refine AW_seq ?_
      refine AW_block ?_
      repeat refine AW_seq ?_
      refine AW_regto [0, 3, 4, 5, 28] ⟨32, [(0, v), (3, u32 (roSet x (decide (31 - m ∈ l.take j)))), (4, .i .i64 (31 - (m : Int))), (5, .i .i64 j), (28, .b (decide (l[j] = 31 - m) && !decide (31 - m ∈ l.take j)))]⟩ G' (fun K hk => ?_) ?_ -- region 9
      · by_cases g1 : l[j] = 31 - m
        · have g2 : ((l[j] : Int) = 31 - (m : Int)) := by omega
          by_cases g3 : 31 - m ∈ l.take j
          · have h1 : (roSet x (decide (31 - m ∈ l.take j))).toNat % 2 = 1 := by simpa [g3] using hodd
            rw [show (decide (l[j] = 31 - m) && !decide (31 - m ∈ l.take j)) = false by simp [g3]] at hk
            simpa [init_eq, px, qx, cnt, g2, u32_odd, h1] using hk
          · have h1 : ¬ (roSet x (decide (31 - m ∈ l.take j))).toNat % 2 = 1 := by simpa [g3] using hodd
            rw [show (decide (l[j] = 31 - m) && !decide (31 - m ∈ l.take j)) = true by simp [g1, g3]] at hk
            simpa [init_eq, px, qx, cnt, g2, u32_odd, h1] using hk
        · have g2 : ¬ ((l[j] : Int) = 31 - (m : Int)) := by omega
          rw [show (decide (l[j] = 31 - m) && !decide (31 - m ∈ l.take j)) = false by simp [g1]] at hk
          simpa [init_eq, px, qx, cnt, g2] using hk
      refine AW_cond' rfl rfl (fun hc => ?_) (fun hc => ?_)
      · have g : l[j] = 31 - m ∧ ¬ 31 - m ∈ l.take j := by simpa using hc
        have h1 : (roSet x (decide (31 - m ∈ l.take j))).getLsbD 0 = false := by rw [roSet_odd]; simp [g.2]
        refine AW_reg [0, 3, 4, 5] fun K hK => ?_ -- region 10
        simp [init_eq, u32_inc _ h1]
        refine hK _ _ ?_; clear hK K
        refine bend (rend ?_)
        refine AW_reg [0, 3, 4, 5] fun K hK => ?_ -- region 8
        simp [init_eq, wrap_id (x := (j : Int) + 1) (by omega) (by omega)]
        refine hK _ _ ?_; clear hK K
        refine rend ⟨j + 1, ?_, ⟨rfl, by omega⟩, by omega⟩ -- round's end
        have e : decide (31 - m ∈ l.take (j + 1)) = true := by rw [htk, g.1]; simp
        rw [e]; simp [g.2, roSet]
      · have g : ¬ (l[j] = 31 - m ∧ ¬ 31 - m ∈ l.take j) := by simpa using hc
        refine AW_skip ?_
        refine bend (rend ?_)
        refine AW_reg [0, 3, 4, 5] fun K hK => ?_ -- region 8
        simp [init_eq, wrap_id (x := (j : Int) + 1) (by omega) (by omega)]
        refine hK _ _ ?_; clear hK K
        refine rend ⟨j + 1, ?_, ⟨rfl, by omega⟩, by omega⟩ -- round's end
        have : (31 - m ∈ l.take (j + 1)) = (31 - m ∈ l.take j) := by
          by_cases g3 : 31 - m ∈ l.take j
          · exact propext ⟨fun _ => g3, fun _ => by rw [htk]; exact List.mem_append_left _ g3⟩
          · have g4 : ¬ 31 - m = l[j] := fun e => g ⟨e.symm, g3⟩
            refine propext ⟨fun h => ?_, fun h => absurd h g3⟩
            rw [htk] at h
            rcases List.mem_append.1 h with h | h
            · exact h
            · exact absurd (List.mem_singleton.1 h) g4
        simp [this]
    · have hj' : j = l.length := by have : ¬ j < l.length := by simpa using hc
                                    omega
      subst hj'
      refine AW_exit (then_exit (then_exit (block_here ?_)))
      refine bend (rend ?_)
      refine AW_reg [0, 3, 4] fun K hK => ?_ -- region 4
      simp [init_eq, wrap_id (x := (31 : Int) - (m : Int) - 1) (by omega) (by omega)]
      refine hK _ _ ?_; clear hK K
      refine rend ⟨(m + 1, roSet x (decide (31 - m ∈ l))), ?_, ⟨rfl, (show m + 1 ≤ 32 by omega), fun i hi => ?_⟩, by simp; omega⟩ -- round's end
      · simp; omega
      · show (roSet x (decide (31 - m ∈ l))).getLsbD i = decide (i + (32 - (m + 1)) ∈ l ∧ i + (32 - (m + 1)) < 32)
        rw [roSet_bit _ _ _ hi]
        by_cases h0 : i = 0
        · subst h0
          rw [if_pos rfl, show 0 + (32 - (m + 1)) = 31 - m by omega]
          simp [show 31 - m < 32 by omega]
        · rw [if_neg h0, hx (i - 1) (by omega), show i - 1 + (32 - m) = i + (32 - (m + 1)) by omega]
  · have hm' : m = 32 := by
      have : ¬ (0 : Int) ≤ 31 - (m : Int) := by simpa using hc
      omega
    subst hm'
    refine AW_exit (then_exit (then_exit (block_here ?_)))
    repeat refine AW_seq ?_
    refine AW_reg [2] fun K hK => ?_ -- region 11
    simp [init_eq]
    refine hK _ _ ?_; clear hK K
    refine AW_ret (end_ret rfl ⟨⟨x, rfl, fun i hi => ?_⟩, rfl⟩)
    rw [hx i hi]
    exact decide_eq_decide.2 (by simp; intro _; omega)
/-- The document's tally, new. -/
def newR (H : AH) (f : Int) : AH := H.new (.cells [.i .i64 f, .i .i64 1, .sl none 0 false, .sl none 0 false, .sl none 0 false] 0 false 0)
theorem rnew_ok (H : AH) (f : Int) : ACalls Try.prog 13 [.i .i64 f] H fun r H' =>
    (qtimes 3 f = 0 ∧ r = .tup [.p none, .i .i64 1] ∧ H' = H) ∨ (qtimes 3 f ≠ 0 ∧ r = .tup [.p (some (H.next, 0, 0)), .i .i64 0] ∧ H' = newR H f) := by
  refine ACalls_body Try.func13 rfl rfl ?_
  repeat refine AW_seq ?_
  refine AW_reg [0] fun K hK => ?_ -- region 0
  simp [init_eq]
  refine hK _ _ ?_; clear hK K
  repeat refine AW_seq ?_
  refine AW_reg [0, 6] fun K hK => ?_ -- region 1
  simp [init_eq]
  refine ACalls.mono (rall_ok H f) fun r H' ⟨hr, e⟩ => ?_ -- hallmoot/hallmootref04.All
  subst hr e
  try simp
  refine hK _ _ ?_; clear hK K
  refine AW_cond' rfl rfl (fun hc => ?_) (fun hc => ?_)
  · repeat refine AW_seq ?_
    refine AW_reg [2, 3] fun K hK => ?_ -- region 2
    simp [init_eq]
    refine hK _ _ ?_; clear hK K
    exact AW_ret (end_ret rfl (.inl ⟨by simpa using hc, rfl, rfl⟩))
  · refine AW_skip ?_
    repeat refine AW_seq ?_
    refine AW_reg [2, 3] fun K hK => ?_ -- region 3
    simp [init_eq, abuild, afill, splice, V.cells]
    refine hK _ _ ?_; clear hK K
    exact AW_ret (end_ret rfl (.inr ⟨by simpa using hc, rfl, rfl⟩))
theorem rkept_ok (H : AH) {id : Nat} {va vb vc vd : V} {fr view : Int} (h : H.get id = some (.cells [va, .i .i64 fr, vb, vc, vd] 0 false 0)) (hf : 1 ≤ fr) (hv : view ≤ 9223372036854775807) :
    ACalls Try.prog 43 [.p (some (id, 0, 0)), .i .i64 view] H fun r H' => r = .i .i64 (keptE fr view) ∧ H' = H := by
  refine ACalls_body Try.func43 rfl rfl ?_
  repeat refine AW_seq ?_
  refine AW_reg [0, 1] fun K hK => ?_ -- region 0
  simp [init_eq]
  refine hK _ _ ?_; clear hK K
  repeat refine AW_seq ?_
  refine AW_reg [0, 1, 10] fun K hK => ?_ -- region 1
  simp [init_eq, afieldAddr, aload, h]
  refine hK _ _ ?_; clear hK K
  refine AW_cond' rfl rfl (fun hc => ?_) (fun hc => ?_)
  · have h2 : view < fr := by simpa using hc
    repeat refine AW_seq ?_
    refine AW_reg [4] fun K hK => ?_ -- region 2
    simp [init_eq]
    refine hK _ _ ?_; clear hK K
    exact AW_ret (end_ret rfl ⟨by simp [keptE, h2], rfl⟩)
  · have h2 : ¬ view < fr := by simpa using hc
    refine AW_skip ?_
    repeat refine AW_seq ?_
    refine AW_reg [17] fun K hK => ?_ -- region 3
    simp [init_eq, afieldAddr, aload, h, wrap_id (x := view - fr) (by omega) (by omega)]
    refine hK _ _ ?_; clear hK K
    refine AW_cond' rfl rfl (fun hc => ?_) (fun hc => ?_)
    · have h3 : 16 ≤ view - fr := by simpa using hc
      repeat refine AW_seq ?_
      refine AW_reg [4] fun K hK => ?_ -- region 4
      simp [init_eq]
      refine hK _ _ ?_; clear hK K
      exact AW_ret (end_ret rfl ⟨by simp [keptE, h2, h3], rfl⟩)
    · have h3 : ¬ 16 ≤ view - fr := by simpa using hc
      refine AW_skip ?_
      repeat refine AW_seq ?_
      refine AW_reg [4] fun K hK => ?_ -- region 5
      simp [init_eq]
      refine hK _ _ ?_; clear hK K
      exact AW_ret (end_ret rfl ⟨by simp [keptE, h2, h3], rfl⟩)
/-- Is it a replica? -/
def replB (f k : Int) : Bool := decide (0 ≤ k) && decide (k < qtimes 3 f)
theorem rrepl_ok (H : AH) {id : Nat} {f : Int} {va vb vc vd : V} (h : H.get id = some (.cells [.i .i64 f, va, vb, vc, vd] 0 false 0)) (k : Int) :
    ACalls Try.prog 53 [.p (some (id, 0, 0)), .i .i64 k] H fun r H' => r = .b (replB f k) ∧ H' = H := by
  refine ACalls_body Try.func53 rfl rfl ?_
  repeat refine AW_seq ?_
  refine AW_reg [0, 1] fun K hK => ?_ -- region 0
  simp [init_eq]
  refine hK _ _ ?_; clear hK K
  repeat refine AW_seq ?_
  refine AW_regto [4] ⟨16, [(4, .b (replB f k))]⟩ H (fun K hk => ?_) ?_ -- region 1
  · by_cases g : 0 ≤ k
    · simp [init_eq, g, afieldAddr, aload, h]
      refine ACalls.mono (rall_ok H f) fun r H' ⟨hr, e⟩ => ?_ -- hallmoot/hallmootref04.All
      subst hr e
      simpa [replB, g] using hk
    · simpa [init_eq, replB, g] using hk
  exact AW_ret (end_ret rfl ⟨rfl, rfl⟩)
def rplain (c : Cert) : Cert := { c with signers := 0#32 }
theorem rplain_ok (H : AH) (c : Cert) : ACalls Try.prog 45 [.agg c.cells] H fun r H' => r = .agg (rplain c).cells ∧ H' = H := by
  refine ACalls.pure (Q := fun r => r = .agg (rplain c).cells) ⟨_, Try.func45, rfl, rfl⟩ ?_
  refine ACalls_body Try.func45 rfl rfl ?_
  refine AW_seq ?_
  refine AW_reg [1, 2] fun K hK => ?_ -- region 0
  simp [init_eq, V.cells]
  generalize hH1 : (H.new (.cells c.cells 0 false 0)).new (.cells _ 0 false 0) = H1
  have h3 : H1.get H.next = some (.cells c.cells 0 false 0) := by
    rw [← hH1]; simp [AH.get_new]
  have h4 : H1.get (H.next + 1) = some (.cells Cert.zero.cells 0 false 0) := by
    rw [← hH1]; simp [AH.get_new]
  have hn : H1.next = H.next + 2 := by rw [← hH1]; simp
  have ho : ∀ j, j < H.next → H1.get j = H.get j := fun j hj => by
    rw [← hH1, AH.get_new, if_neg (by simp; omega), AH.get_new, if_neg (by omega)]
  refine hK _ _ ?_; clear hK K
  refine AW_seq ?_
  refine AW_reg [1, 2] fun K hK => ?_ -- region 1
  simp [init_eq, afieldAddr, astore, h3, AH.get_set, hn]
  refine hK _ _ ?_; clear hK K
  refine AW_seq ?_
  refine AW_reg [2] fun K hK => ?_ -- region 2
  simp [init_eq, aload, astore, h4, AH.get_set, hn, take_cells, V.cells]
  refine hK _ _ ?_; clear hK K
  refine AW_ret (end_ret (ares_cell (v := .agg (rplain c).cells) ?_) ?_)
  · simp [aload, AH.get_set, hn, take_cells, rplain]
  · refine ⟨rfl, by simp, by simp [hn], fun j hj => ?_⟩
    simp [AH.get_set, hn, show j ≠ H.next by omega, show j ≠ H.next + 1 by omega, ho j hj]
end Go.Proofs.Ytdioggohbfgnfaa
