/-
  num.Add.
-/
import Derived.Test.YtikonppmjkipoaaDoorState5
set_option linter.unusedVariables false
set_option linter.unusedSimpArgs false
namespace Go.Proofs.YtikonppmjkipoaaDoor
open Go Go.Abs Go.Proofs
set_option maxRecDepth 100000
attribute [local irreducible] AEnd AW ACalls

def mayN (n : Int) : Bool := inR n (-4611686018427387904) 4611686018427387904
def numC (n : Int) : List V := [.i .i64 n]
theorem nmay_ok (H : AH) {v : V} {ns : List Int} (hv : RS H v 1 (ns.map numC)) (hl : ns.length ≤ 1000) : ACalls Tryd.prog 45 [v] H fun r H' => r = .b (ns.all mayN) ∧ H' = H := by
  refine ACalls.pure (Q := fun r => r = .b (ns.all mayN)) ⟨_, Tryd.func45, rfl, rfl⟩ ?_
  refine ACalls_body Tryd.func45 rfl rfl ?_
  have la := hv.alen (P := Tryd.prog) qelem_119 H
  refine AW_seq ?_
  refine AW_reg [0] fun K hK => ?_ -- region 0
  simp [init_eq]
  refine hK _ _ ?_; clear hK K
  refine AW_seq ?_
  refine AW_seq ?_
  refine AW_reg [5, 6, 7] fun K hK => ?_ -- region 1
  simp [init_eq, la]
  refine hK _ _ ?_; clear hK K
  refine AW_block ?_
  refine AW_loopx (fun i : Nat => ⟨15, [(5, v), (6, .i .i64 ns.length), (7, .i .i64 i)]⟩) (fun i H' => H' = H ∧ i ≤ ns.length ∧ (ns.take i).all mayN = true) (fun i => ns.length - i) 0 (by simp) ⟨rfl, by simp, by simp⟩ fun i H' ⟨hM, hi, hall⟩ => ?_ -- loop
  subst hM
  refine AW_seq ?_
  refine AW_reg [5, 6, 7, 8] fun K hK => ?_ -- region 2
  simp [init_eq]
  refine hK _ _ ?_; clear hK K
  refine AW_seq ?_
  refine AW_cond' rfl rfl (fun hc => ?_) (fun hc => ?_)
  · have hlt : i < ns.length := by simpa using hc
    obtain ⟨ax, q1, q2⟩ := hv.at1 (P := Tryd.prog) qelem_119 qsize_2 qagg_2 (k := .i64) i (x := .i .i64 ns[i]) (by simp [hlt, numC])
    refine AW_skip ?_
    refine AW_seq ?_
    refine AW_block ?_
    refine AW_seq ?_
    refine AW_reg [4, 5, 6, 7] fun K hK => ?_ -- region 3
    simp [init_eq, q1, q2]
    refine hK _ _ ?_; clear hK K
    refine AW_seq ?_
    refine AW_reg [5, 6, 7, 13] fun K hK => ?_ -- region 4
    simp [init_eq]
    refine ACalls.mono (nwithin_ok _ ns[i] (-4611686018427387904) 4611686018427387904) fun r H2 ⟨hr, e⟩ => ?_ -- hallmoot/num.Within
    subst hr e
    try simp
    refine hK _ _ ?_; clear hK K
    refine AW_cond' rfl rfl (fun hb => ?_) (fun hb => ?_)
    · have hb : mayN ns[i] = false := by unfold mayN; simpa using hb
      refine AW_seq ?_
      refine AW_reg [2] fun K hK => ?_ -- region 5
      simp [init_eq]
      refine hK _ _ ?_; clear hK K
      refine AW_ret (end_ret rfl (same_end ?_ rfl))
      have : ns.all mayN = false := by rw [List.all_eq_false]; exact ⟨ns[i], List.getElem_mem hlt, by simp [hb]⟩
      rw [this]; rfl
    · have hb : mayN ns[i] = true := by unfold mayN; simpa using hb
      refine AW_skip ?_
      refine AW_reg [5, 6, 7] fun K hK => ?_ -- region 6
      simp [init_eq, wrap_id (x := (i : Int) + 1) (by omega) (by omega)]
      refine hK _ _ ?_; clear hK K
      refine rend ⟨i + 1, by simp, ⟨rfl, by omega, ?_⟩, by omega⟩ -- round's end
      rw [List.take_succ_eq_append_getElem hlt, List.all_append, hall]; simp [hb]
  · have hi' : i = ns.length := by
      have : ¬ i < ns.length := by simpa using hc
      omega
    subst hi'
    rw [List.take_length] at hall
    refine AW_exit (then_exit (then_exit (block_here ?_)))
    refine AW_seq ?_
    refine AW_reg [2] fun K hK => ?_ -- region 7
    simp [init_eq]
    refine hK _ _ ?_; clear hK K
    refine AW_ret (end_ret rfl (same_end ?_ rfl))
    rw [hall]; rfl
def toldD (n : Int) (ok : Bool) : Int × Int := if ok && mayN n then (n, 0) else (0, 10)
theorem num1 (H : AH) (n : Int) : ∃ H1, abuildSlice Tryd.prog H 119 1 [(0, .i .i64 n)] = some (.sl (some (H.next, 0, 0)) 1 false, H1) ∧ RS H1 (.sl (some (H.next, 0, 0)) 1 false) 1 ([n].map numC) ∧ Upd H H1 [] :=
  ⟨H.new (.cells [.i .i64 n] 0 false 1), by simp [abuildSlice, afill, V.cells, splice], ⟨by simp [numC], .inr ⟨H.next, 0, 0, _, false, 1, rfl, AH.get_new_same .., .inr rfl, by simp, by simp [numC]⟩⟩, Upd.new ..⟩
theorem num2 (H : AH) (n m : Int) : ∃ H1, abuildSlice Tryd.prog H 119 2 [(0, .i .i64 n), (1, .i .i64 m)] = some (.sl (some (H.next, 0, 0)) 2 false, H1) ∧ RS H1 (.sl (some (H.next, 0, 0)) 2 false) 1 ([n, m].map numC) ∧ Upd H H1 [] :=
  ⟨H.new (.cells [.i .i64 n, .i .i64 m] 0 false 1), by simp [abuildSlice, afill, V.cells, splice, List.replicate], ⟨by simp [numC], .inr ⟨H.next, 0, 0, _, false, 1, rfl, AH.get_new_same .., .inr rfl, by simp, by simp [numC]⟩⟩, Upd.new ..⟩
theorem told_ok (H : AH) (n : Int) (ok : Bool) : ACalls Tryd.prog 46 [.i .i64 n, .b ok] H fun r H' => r = .tup [.i .i64 (toldD n ok).1, .i .i64 (toldD n ok).2] ∧ H' = H := by
  refine ACalls.pure (Q := fun r => r = .tup [.i .i64 (toldD n ok).1, .i .i64 (toldD n ok).2]) ⟨_, Tryd.func46, rfl, rfl⟩ ?_
  refine ACalls_body Tryd.func46 rfl rfl ?_
  refine AW_seq ?_
  refine AW_reg [0, 1] fun K hK => ?_ -- region 0
  simp [init_eq]
  refine hK _ _ ?_; clear hK K
  refine AW_seq ?_
  refine AW_cut (fun ρ' M => ρ' = ⟨15, [(0, .i .i64 n), (13, .b (!(ok && mayN n)))]⟩ ∧ Upd H M []) ?_ ?_
  · refine AW_reg [0, 13] fun K hK => ?_ -- region 1
    cases ok
    · simp [init_eq]
      exact hK _ _ (rend ⟨_, by simp, rfl, Upd.refl ..⟩)
    · obtain ⟨H1, b1, b2, b3⟩ := num1 H n
      simp [init_eq, b1]
      refine ACalls.mono (nmay_ok H1 b2 (by simp)) fun r H2 ⟨hr, e⟩ => ?_ -- hallmoot/num.may
      subst hr e
      try simp
      exact hK _ _ (rend ⟨_, by simp, rfl, b3⟩)
  rintro ρ' M ⟨rfl, u⟩
  refine AW_cond' rfl rfl (fun hc => ?_) (fun hc => ?_)
  · have hc : (ok && mayN n) = false := by cases h : (ok && mayN n) <;> simp [h] at hc ⊢
    refine AW_seq ?_
    refine AW_reg [4, 5] fun K hK => ?_ -- region 2
    simp [init_eq]
    refine hK _ _ ?_; clear hK K
    exact AW_ret (end_ret rfl ⟨by unfold toldD; rw [hc]; rfl, rfl, u.1, fun j hj => u.2 j hj (by simp)⟩)
  · have hc : (ok && mayN n) = true := by cases h : (ok && mayN n) <;> simp [h] at hc ⊢
    refine AW_skip ?_
    refine AW_seq ?_
    refine AW_reg [4, 5] fun K hK => ?_ -- region 3
    simp [init_eq]
    refine hK _ _ ?_; clear hK K
    exact AW_ret (end_ret rfl ⟨by unfold toldD; rw [hc]; rfl, rfl, u.1, fun j hj => u.2 j hj (by simp)⟩)
def addD (a b : Int) : Int × Int := if mayN a && mayN b then toldD (IntKind.i64.wrap (a + b)) (!(decide (0 < a) && decide (0 < b) && decide (IntKind.i64.wrap (a + b) < 0))) else (0, 10)
theorem nadd_ok (H : AH) (a b : Int) : ACalls Tryd.prog 23 [.i .i64 a, .i .i64 b] H fun r H' => r = .tup [.i .i64 (addD a b).1, .i .i64 (addD a b).2] ∧ H' = H := by
  refine ACalls.pure (Q := fun r => r = .tup [.i .i64 (addD a b).1, .i .i64 (addD a b).2]) ⟨_, Tryd.func23, rfl, rfl⟩ ?_
  refine ACalls_body Tryd.func23 rfl rfl ?_
  refine AW_seq ?_
  refine AW_reg [0, 1] fun K hK => ?_ -- region 0
  simp [init_eq]
  refine hK _ _ ?_; clear hK K
  obtain ⟨H1, b1, b2, b3⟩ := num2 H a b
  refine AW_seq ?_
  refine AW_seq ?_
  refine AW_reg [0, 1, 11] fun K hK => ?_ -- region 1
  simp [init_eq, b1]
  refine ACalls.mono (nmay_ok H1 b2 (by simp)) fun r G ⟨hr, e⟩ => ?_ -- hallmoot/num.may
  subst hr e
  try simp
  refine hK _ _ ?_; clear hK K
  have hend : ∀ {v w : V}, v = w → v = w ∧ True := fun h => ⟨h, trivial⟩
  refine AW_cond' rfl rfl (fun hc => ?_) (fun hc => ?_)
  · have hc : (mayN a && mayN b) = false := by
      cases h1 : mayN a <;> cases h2 : mayN b <;> simp [h1, h2] at hc ⊢
    refine AW_seq ?_
    refine AW_reg [4, 5] fun K hK => ?_ -- region 2
    simp [init_eq]
    refine ACalls.mono (told_ok _ 0 false) fun r H2 ⟨hr, e⟩ => ?_ -- hallmoot/num.told
    subst hr e
    try simp
    refine hK _ _ ?_; clear hK K
    exact AW_ret (end_ret rfl ⟨by unfold addD; rw [hc]; rfl, rfl, b3.1, fun j hj => b3.2 j hj (by simp)⟩)
  · have hc : (mayN a && mayN b) = true := by
      cases h1 : mayN a <;> cases h2 : mayN b <;> simp [h1, h2] at hc ⊢
    refine AW_skip ?_
    refine AW_seq ?_
    refine AW_reg [0, 1, 6] fun K hK => ?_ -- region 3
    simp [init_eq]
    refine hK _ _ ?_; clear hK K
    refine AW_seq ?_
    refine AW_regto [4, 5] ⟨33, [(4, .i .i64 (addD a b).1), (5, .i .i64 (addD a b).2)]⟩ G (fun K hk => ?_) ?_ -- region 4
    · unfold addD at hk
      rw [hc] at hk
      simp only [if_true] at hk
      have fin : ∀ ok : Bool, ok = (!(decide (0 < a) && decide (0 < b) && decide (IntKind.i64.wrap (a + b) < 0))) → ACalls Tryd.prog 46 [.i .i64 (IntKind.i64.wrap (a + b)), .b ok] G fun r H' => r = .tup [.i .i64 (toldD (IntKind.i64.wrap (a + b)) (!(decide (0 < a) && decide (0 < b) && decide (IntKind.i64.wrap (a + b) < 0)))).1, .i .i64 (toldD (IntKind.i64.wrap (a + b)) (!(decide (0 < a) && decide (0 < b) && decide (IntKind.i64.wrap (a + b) < 0)))).2] ∧ H' = G := by
        intro ok e; rw [e]; exact told_ok _ _ _
      by_cases h1 : 0 < a
      · by_cases h2 : 0 < b
        · simp [init_eq, h1, h2]
          refine ACalls.mono (fin _ (by simp [h1, h2])) fun r H2 ⟨hr, e⟩ => ?_ -- hallmoot/num.told
          subst hr e
          simpa using hk
        · simp [init_eq, h1, h2]
          refine ACalls.mono (fin _ (by simp [h1, h2])) fun r H2 ⟨hr, e⟩ => ?_ -- hallmoot/num.told
          subst hr e
          simpa using hk
      · simp [init_eq, h1]
        refine ACalls.mono (fin _ (by simp [h1])) fun r H2 ⟨hr, e⟩ => ?_ -- hallmoot/num.told
        subst hr e
        simpa using hk
    exact AW_ret (end_ret rfl ⟨rfl, rfl, b3.1, fun j hj => b3.2 j hj (by simp)⟩)
theorem addD_pos {a b : Int} (ha : 0 ≤ a) (hb : 0 ≤ b) : ((addD a b).2 = 0 → (addD a b).1 = a + b ∧ a + b ≤ 4611686018427387904) := by
  unfold addD toldD mayN inR
  intro h
  split at h
  · rename_i h1
    simp only [Bool.and_eq_true, decide_eq_true_eq] at h1
    have hw : a + b < 9223372036854775808 → IntKind.i64.wrap (a + b) = a + b := fun h => wrap_id (by omega) (by omega)
    rw [if_pos (by simpa using h1)]
    split at h
    · rename_i h2
      rw [if_pos h2]
      simp only [Bool.and_eq_true, Bool.not_eq_true', decide_eq_true_eq] at h2
      by_cases h3 : a + b < 9223372036854775808
      · rw [hw h3] at h2 ⊢
        exact ⟨rfl, by omega⟩
      · have e1 : a = 4611686018427387904 := by omega
        have e2 : b = 4611686018427387904 := by omega
        subst e1 e2
        exact absurd h2.1 (by decide)
    · cases h
  · cases h
end Go.Proofs.YtikonppmjkipoaaDoor
