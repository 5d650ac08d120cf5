/-
  num.Print: a number's digits.
-/
import Derived.Test.YtikonppmjkipoaaDoorYtikonppmjkipoaaDoorFacts
import Derived.Test.YtikonppmjkipoaaDoorAbsC
set_option linter.unusedVariables false
set_option linter.unusedSimpArgs false
namespace Go.Abs
open Go
/-- The last digits of a number, at most so many. -/
def dg : Nat → Nat → List UInt8
  | 0, _ => []
  | f + 1, m => (if m / 10 = 0 then [] else dg f (m / 10)) ++ [UInt8.ofNat (48 + m % 10)]
def printB (n : Int) : List UInt8 := (if n < 0 then [45] else []) ++ dg 19 n.natAbs
theorem dg_len : ∀ f m, (dg f m).length ≤ f
  | 0, _ => Nat.le_refl _
  | f + 1, m => by
    unfold dg
    have := dg_len f (m / 10)
    split <;> simp <;> omega
theorem printB_len (n : Int) : (printB n).length ≤ 20 := by
  have := dg_len 19 n.natAbs
  unfold printB
  split <;> simp <;> omega
/-- A row of bytes filled from behind. -/
def fillB (ds : List UInt8) : List UInt8 := List.replicate (20 - ds.length) 0 ++ ds
theorem fillB_len {ds : List UInt8} (h : ds.length ≤ 20) : (fillB ds).length = 20 := by simp [fillB]; omega
theorem fillB_put {ds : List UInt8} (h : ds.length < 20) (d : UInt8) : splice (bytesV (fillB ds)) (19 - ds.length) [.i .u8 d.toNat] = bytesV (fillB (d :: ds)) := by
  unfold fillB splice bytesV
  have e : 20 - ds.length = (19 - ds.length) + 1 := by omega
  have e2 : 20 - (d :: ds).length = 19 - ds.length := by simp
  rw [e, e2, List.replicate_succ']
  simp only [List.map_append, List.map_replicate, List.map_cons, List.map_nil, List.append_assoc]
  rw [List.take_append_of_le_length (by simp), List.take_of_length_le (by simp), List.drop_append]
  simp
theorem fillB_drop {ds : List UInt8} (h : ds.length ≤ 20) : (fillB ds).drop (20 - ds.length) = ds := by
  unfold fillB
  rw [List.drop_append_of_le_length (by simp), List.drop_of_length_le (by simp), List.nil_append]
end Go.Abs
namespace Go.Proofs.YtikonppmjkipoaaDoor
open Go Go.Abs Go.Proofs
set_option maxRecDepth 100000
attribute [local irreducible] AEnd AW ACalls
theorem dg_round {f L m : Nat} {ds : List UInt8} (h : dg 19 m = dg f L ++ ds) (hf : 1 ≤ f) (hL : L < 10 ^ f) : let d := UInt8.ofNat (48 + L % 10)
    (L / 10 = 0 → dg 19 m = d :: ds) ∧ (L / 10 ≠ 0 → dg 19 m = dg (f - 1) (L / 10) ++ d :: ds ∧ 1 ≤ f - 1 ∧ L / 10 < 10 ^ (f - 1)) := by
  obtain ⟨g, rfl⟩ : ∃ g, f = g + 1 := ⟨f - 1, by omega⟩
  rw [dg.eq_2 L g] at h
  refine ⟨fun h0 => ?_, fun h0 => ?_⟩
  · rw [if_pos h0] at h; simpa using h
  · rw [if_neg h0] at h
    have : L / 10 < 10 ^ g := by rw [Nat.pow_succ] at hL; omega
    refine ⟨by simpa using h, ?_, this⟩
    rcases g with _ | g
    · simp at this; omega
    · omega
theorem neg_tmod (L : Nat) : Int.tmod (-(L : Int)) 10 = -((L % 10 : Nat) : Int) := by
  rw [Int.neg_tmod]; rfl
theorem neg_tdiv (L : Nat) : Int.tdiv (-(L : Int)) 10 = -((L / 10 : Nat) : Int) := by
  rw [Int.neg_tdiv]; rfl
set_option maxHeartbeats 1000000 in
theorem print_ok (H : AH) (n : Int) (h1 : -9223372036854775808 ≤ n) (h2 : n ≤ 9223372036854775807) : ACalls Tryd.prog 31 [.i .i64 n] H fun r H' => r = .s (printB n) ∧ H' = H := by
  refine ACalls.pure (Q := fun r => r = .s (printB n)) ⟨_, Tryd.func31, rfl, rfl⟩ ?_
  refine ACalls_body Tryd.func31 rfl rfl ?_
  refine AW_seq ?_
  refine AW_reg [0] fun K hK => ?_ -- region 0
  simp [init_eq]
  refine hK _ _ ?_; clear hK K
  refine AW_seq ?_
  refine AW_reg [0, 3] fun K hK => ?_ -- region 1
  simp [init_eq, V.cells]
  obtain ⟨G, e1, g0, gn, go⟩ := H.boxed (bytesV (fillB []))
  change K _ (H.new (.cells (bytesV (fillB [])) 0 false 0))
  rw [e1]
  refine hK _ _ ?_; clear hK K
  have u0 : Upd H G [] := ⟨by omega, fun j hj _ => go j hj⟩
  refine AW_seq ?_
  refine AW_reg [0, 3, 4] fun K hK => ?_ -- region 2
  simp [init_eq]
  refine hK _ _ ?_; clear hK K
  refine AW_seq ?_
  refine AW_reg [0, 3, 4, 5] fun K hK => ?_ -- region 3
  simp [init_eq]
  refine hK _ _ ?_; clear hK K
  refine AW_cut (fun ρ' M => ρ' = ⟨35, [(0, .i .i64 n), (3, .p (some (H.next, 0, 0))), (4, .i .i64 20), (5, .i .i64 (-(n.natAbs : Int)))]⟩ ∧ M = G) ?_ ?_
  · refine AW_seq ?_
    refine AW_reg [0, 3, 4, 5, 9] fun K hK => ?_ -- region 4
    simp [init_eq, abin]
    refine hK _ _ ?_; clear hK K
    refine AW_cond' rfl rfl (fun hc => ?_) (fun hc => ?_)
    · have hc : 0 < n := by simpa using hc
      have : IntKind.i64.wrap (-n) = -(n.natAbs : Int) := by rw [wrap_id (by omega) (by omega)]; omega
      refine AW_reg [0, 3, 4, 5] fun K hK => ?_ -- region 5
      simp [init_eq, aunary, this]
      exact hK _ _ (rend ⟨_, by simp, rfl, rfl⟩)
    · have hc : ¬ 0 < n := by simpa using hc
      have : n = -(n.natAbs : Int) := by omega
      refine AW_skip (rend ⟨_, ?_, rfl, rfl⟩)
      rw [← this]; simp
  rintro _ _ ⟨rfl, rfl⟩
  refine AW_seq ?_
  refine AW_seq ?_
  refine AW_reg [0, 3, 4, 5, 6] fun K hK => ?_ -- region 6
  simp [init_eq]
  refine hK _ _ ?_; clear hK K
  refine AW_block ?_
  refine AW_loopx (fun x : Nat × Nat × List UInt8 × Bool => ⟨35, [(0, .i .i64 n), (3, .p (some (H.next, 0, 0))), (4, .i .i64 (20 - (x.2.2.1.length : Int))), (5, .i .i64 (-(x.2.1 : Int))), (6, .b x.2.2.2)]⟩)
    (fun x M => Upd H M [] ∧ M.next = H.next + 1 ∧ M.get H.next = some (.cells (bytesV (fillB x.2.2.1)) 0 false 0) ∧ x.2.2.1.length + x.1 = 19 ∧ x.2.1 ≤ 9223372036854775808 ∧ (x.2.2.2 = false → dg 19 n.natAbs = dg x.1 x.2.1 ++ x.2.2.1 ∧ 1 ≤ x.1 ∧ x.2.1 < 10 ^ x.1) ∧ (x.2.2.2 = true → dg 19 n.natAbs = x.2.2.1)) (fun x => x.1) (19, n.natAbs, [], false) (by simp)
    ⟨u0, gn, g0, rfl, by dsimp only; omega, fun _ => ⟨by simp, by dsimp only; omega, by dsimp only; omega⟩, fun h => by cases h⟩ fun ⟨f, L, ds, done⟩ M ⟨u, mn, mg, hl, hb, hnd, hd⟩ => ?_ -- loop
  dsimp only at *
  have ml : H.next < M.next := by omega
  refine AW_seq ?_
  refine AW_seq ?_
  refine AW_reg [0, 3, 4, 5, 13] fun K hK => ?_ -- region 7
  simp [init_eq]
  refine hK _ _ ?_; clear hK K
  refine AW_cond' rfl rfl (fun hc => ?_) (fun hc => ?_)
  · have hc : done = false := by simpa using hc
    subst hc
    obtain ⟨hdg, hf, hL⟩ := hnd rfl
    have hr := dg_round hdg hf hL
    refine AW_skip ?_
    refine AW_seq ?_
    refine AW_block ?_
    refine AW_seq ?_
    have w1 : IntKind.i64.wrap (20 - (ds.length : Int) - 1) = 19 - (ds.length : Int) := by rw [wrap_id (by omega) (by omega)]; omega
    refine AW_reg [0, 3, 4, 5] fun K hK => ?_ -- region 9
    simp [init_eq, abin, w1]
    refine hK _ _ ?_; clear hK K
    refine AW_seq ?_
    refine AW_reg [0, 3, 4, 5] fun K hK => ?_ -- region 10
    obtain ⟨d, hdd⟩ : ∃ d, d = UInt8.ofNat (48 + L % 10) := ⟨_, rfl⟩
    rw [← hdd] at hr
    have hlt := Nat.mod_lt L (y := 10) (by decide)
    have hd : d.toNat = 48 + L % 10 := by rw [hdd]; simp; omega
    have w2 : IntKind.i64.wrap (48 + (L : Int).tmod 10) = (d.toNat : Int) := by rw [show (L : Int).tmod 10 = ((L % 10 : Nat) : Int) from rfl]; rw [wrap_id (by omega) (by omega)]; omega
    have w3 : IntKind.u8.wrap (d.toNat : Int) = (d.toNat : Int) := by rw [wrap_u8]; omega
    have hix : aindexAddr Tryd.prog 106 (.p (some (H.next, 0, 0))) (.i .i64 (19 - (ds.length : Int))) = some (.p (some (H.next, 0, 19 - ds.length))) := by
      unfold aindexAddr
      simp only [qarr_106, qsize_5]
      rw [if_pos (by omega)]
      congr; omega
    have hst : astore Tryd.prog M 5 (.p (some (H.next, 0, 19 - ds.length))) (.i .u8 d.toNat) = some (M.set H.next (.cells (bytesV (fillB (d :: ds))) 0 false 0)) := by
      have h1 : 19 - ds.length + 1 ≤ 20 := by omega
      rw [← fillB_put (by omega) d]
      simp [astore, mg, V.cells, fillB_len (ds := ds) (by omega), h1]
    simp [init_eq, abin, aint, conv_int qthere_2 qint_5, w2, w3, hix, hst]
    refine hK _ _ ?_; clear hK K
    have q1 : L / 10 ≤ 9223372036854775808 := by omega
    have wq : IntKind.i64.wrap (-(L : Int).tdiv 10) = -((L / 10 : Nat) : Int) := by rw [show (L : Int).tdiv 10 = ((L / 10 : Nat) : Int) from rfl]; rw [wrap_id (by omega) (by omega)]
    refine AW_reg [0, 3, 4, 5] fun K hK => ?_ -- region 11
    simp [init_eq, abin, aint, wq]
    refine hK _ _ ?_; clear hK K
    generalize hN : M.set H.next _ = N
    have uN : Upd M N [H.next] := by rw [← hN]; exact Upd.set _ _ _ (by simp)
    have gN : N.get H.next = some (.cells (bytesV (fillB (d :: ds))) 0 false 0) := by rw [← hN]; exact AH.get_set_same ml
    have nN : N.next = H.next + 1 := by rw [← hN]; exact mn
    clear hN
    have uHN : Upd H N [] := u.trans uN (fun j hj => .inr (by simp at hj; omega))
    refine bend (rend ?_)
    refine AW_reg [0, 3, 4, 5, 6] fun K hK => ?_ -- region 8
    simp [init_eq, abin, Go.Abs.aeq]
    have wq2 : IntKind.i64.wrap (-((L : Int) / 10)) = -((L : Int) / 10) := wrap_id (by omega) (by omega)
    by_cases h0 : L / 10 = 0
    · have : (decide (((L / 10 : Nat) : Int) = 0)) = true := by simp; omega
      refine hK _ _ (rend ⟨(f - 1, L / 10, d :: ds, true), ?_, ⟨uHN, nN, gN, by dsimp only; simp; omega, q1, fun h => by simp at h, fun _ => hr.1 h0⟩, by dsimp only; omega⟩)
      simp [h0]
      exact ⟨by omega, by rw [wq2]; omega⟩
    · refine hK _ _ (rend ⟨(f - 1, L / 10, d :: ds, false), ?_, ⟨uHN, nN, gN, by dsimp only; simp; omega, q1, fun _ => hr.2 h0, fun h => by simp at h⟩, by dsimp only; omega⟩)
      simp [h0]
      exact ⟨by omega, wq2, by rw [wq2]; omega⟩
  · have hc : done = true := by simpa using hc
    subst hc
    have hdg := hd rfl
    refine AW_exit (then_exit (then_exit (block_here ?_)))
    have hln : ds.length ≤ 19 := by omega
    refine rend ?_
    refine AW_cut (fun ρ' N => N.next = H.next + 1 ∧ Upd H N [] ∧ ∃ k : Nat, k ≤ 20 ∧ ρ' = ⟨35, [(3, .p (some (H.next, 0, 0))), (4, .i .i64 (20 - (k : Int)))]⟩ ∧ k = (printB n).length ∧ N.get H.next = some (.cells (bytesV (fillB (printB n))) 0 false 0)) ?_ ?_
    · refine AW_seq ?_
      refine AW_reg [3, 4, 27] fun K hK => ?_ -- region 12
      simp [init_eq, abin]
      refine hK _ _ ?_; clear hK K
      refine AW_cond' rfl rfl (fun hc => ?_) (fun hc => ?_)
      · have hc : n < 0 := by simpa using hc
        have hp : printB n = 45 :: ds := by rw [printB, if_pos hc, hdg]; rfl
        have w1 : IntKind.i64.wrap (20 - (ds.length : Int) - 1) = 19 - (ds.length : Int) := by rw [wrap_id (by omega) (by omega)]; omega
        have hix : aindexAddr Tryd.prog 106 (.p (some (H.next, 0, 0))) (.i .i64 (19 - (ds.length : Int))) = some (.p (some (H.next, 0, 19 - ds.length))) := by
          unfold aindexAddr
          simp only [qarr_106, qsize_5]
          rw [if_pos (by omega)]
          congr; omega
        have hst : astore Tryd.prog M 5 (.p (some (H.next, 0, 19 - ds.length))) (.i .u8 45) = some (M.set H.next (.cells (bytesV (fillB (45 :: ds))) 0 false 0)) := by
          have h1 : 19 - ds.length + 1 ≤ 20 := by omega
          rw [← fillB_put (by omega) 45]
          simp [astore, mg, V.cells, fillB_len (ds := ds) (by omega), h1]
        refine AW_seq ?_
        refine AW_reg [3, 4] fun K hK => ?_ -- region 13
        simp [init_eq, abin, aint, w1]
        refine hK _ _ ?_; clear hK K
        refine AW_reg [3, 4] fun K hK => ?_ -- region 14
        simp [init_eq, hix, hst]
        exact hK _ _ (rend ⟨_, by simp; omega, by simpa using mn, u.trans (Upd.set (F := [H.next]) _ _ _ (by simp)) (fun j hj => .inr (by simp at hj; omega)), ds.length + 1, by omega, rfl, by rw [hp]; rfl, by rw [hp]; exact AH.get_set_same ml⟩)
      · have hc : ¬ n < 0 := by simpa using hc
        have hp : printB n = ds := by rw [printB, if_neg hc, hdg]; rfl
        exact AW_skip (rend ⟨_, by simp, mn, u, ds.length, by omega, rfl, by rw [hp], by rw [hp]; exact mg⟩)
    rintro _ N ⟨nN, uN, k, hk, rfl, hkl, gN⟩
    have hsl : aslice Tryd.prog N 106 (.p (some (H.next, 0, 0))) (some (.i .i64 (20 - (k : Int)))) none none = some (.sl (some (H.next, 0, 20 - k)) k true) := by
      unfold aslice
      have e1 : (20 - (k : Int)).toNat = 20 - k := by omega
      have e2 : 20 - (20 - k) = k := by omega
      have e3 : (20 : Int) - k ≤ 20 := by omega
      have e4 : (0 : Int) ≤ 20 - k := by omega
      have e5 : (k : Int) ≤ 20 := by omega
      simp [gN, abound, fillB_len (ds := printB n) (by omega), e1, e2, e3, e5]
    have hcv : aconvert Tryd.prog N 69 9 (.sl (some (H.next, 0, 20 - k)) k true) = some (.s (printB n), N) := by
      refine conv_text qbs_69 qstr_9 (.inr ⟨H.next, 0, 20 - k, k, true, _, _, _, rfl, gN, ?_, ?_⟩)
      · rw [bytesV, List.length_map, fillB_len (by omega)]; omega
      · rw [bytesV, bytesV, ← List.map_drop, ← List.map_take, hkl, fillB_drop (by omega), Nat.mul_one, List.take_length]
    refine AW_seq ?_
    refine AW_reg [2] fun K hK => ?_ -- region 15
    simp [init_eq, hsl, hcv]
    refine hK _ _ ?_; clear hK K
    exact AW_ret (end_ret rfl ⟨rfl, rfl, uN.1, fun j hj => uN.2 j hj (by simp)⟩)
end Go.Proofs.YtikonppmjkipoaaDoor
