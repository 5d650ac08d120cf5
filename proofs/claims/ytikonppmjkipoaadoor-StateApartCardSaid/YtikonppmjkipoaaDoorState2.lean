/-
  name.Less, state.order, the order of keys. Any instance of the tables will do.
-/
import Derived.Test.YtikonppmjkipoaaDoorState1
import Derived.Test.YtikonppmjkipoaaDoorOrd0
set_option linter.unusedVariables false
set_option linter.unusedSimpArgs false
namespace Go.Proofs.YtikonppmjkipoaaDoor
open Go Go.Abs Go.Proofs
set_option maxRecDepth 100000
attribute [local irreducible] AEnd AW ACalls

theorem lexB_step {x y : List Nat} {i : Nat} (hi : i < x.length) (hy : i < y.length) : lexB (fun a b : Nat => decide (a < b)) (x.drop i) (y.drop i) = (decide (x[i] < y[i]) || (decide (x[i] = y[i]) && lexB (fun a b : Nat => decide (a < b)) (x.drop (i + 1)) (y.drop (i + 1)))) := by
  rw [List.drop_eq_getElem_cons hi, List.drop_eq_getElem_cons hy, lexB]
theorem lexB_drop : ∀ (i : Nat) (x y : List Nat), i ≤ x.length → i ≤ y.length → x.take i = y.take i → lexB (fun a b : Nat => decide (a < b)) x y = lexB (fun a b : Nat => decide (a < b)) (x.drop i) (y.drop i)
  | 0, x, y, _, _, _ => by simp
  | i + 1, [], y, h, _, _ => by simp at h
  | i + 1, _ :: _, [], _, h, _ => by simp at h
  | i + 1, c :: x, d :: y, h1, h2, h3 => by
    simp only [List.take_succ_cons, List.cons.injEq] at h3
    obtain ⟨rfl, h3⟩ := h3
    have : lexB (fun a b : Nat => decide (a < b)) (c :: x) (c :: y) = lexB (fun a b : Nat => decide (a < b)) x y := by simp [lexB]
    rw [this, List.drop_succ_cons, List.drop_succ_cons]
    exact lexB_drop i x y (by simpa using h1) (by simpa using h2) h3
theorem less_ok [Laid Tryd.prog] (H : AH) (a b : List UInt8) (ha : a.length ≤ 1000000000) (hb : b.length ≤ 1000000000) : ACalls Tryd.prog 53 [.s a, .s b] H fun r H' => r = .b (nameLt a b) ∧ H' = H := by
  refine ACalls.pure (Q := fun r => r = .b (nameLt a b)) ⟨_, Tryd.func53, rfl, rfl⟩ ?_
  refine ACalls_body Tryd.func53 rfl rfl ?_
  refine AW_seq ?_
  refine AW_reg [0, 1] fun K hK => ?_ -- region 0
  simp [init_eq]
  refine hK _ _ ?_; clear hK K
  refine AW_seq ?_
  refine AW_reg [0, 1, 5, 6] fun K hK => ?_ -- region 1
  simp [init_eq]
  refine ACalls.mono (srunes_ok _ a ha) fun xv H1 ⟨F1, o1, u1, n1⟩ => ?_ -- hallmoot/name.runes
  try simp
  refine ACalls.mono (srunes_ok _ b hb) fun yv G ⟨F2, o2, u2, n2⟩ => ?_ -- hallmoot/name.runes
  try simp
  refine hK _ _ ?_; clear hK K
  have u : Upd H G [] := u1.trans u2 (by simp)
  have rx : RS G xv 1 ((letsOf a).map runC) := (o1.upd u2 (by simp)).rsR (by decide) (fun _ => rfl)
  have ry : RS G yv 1 ((letsOf b).map runC) := o2.rsR (by decide) (fun _ => rfl)
  have lx := rx.alen (P := Tryd.prog) qelem_125 G
  have ly := ry.alen (P := Tryd.prog) qelem_125 G
  obtain ⟨x, hx⟩ : ∃ x, x = runesL a := ⟨_, rfl⟩
  obtain ⟨y, hy⟩ : ∃ y, y = runesL b := ⟨_, rfl⟩
  have lax : (letsOf a).length = x.length := by rw [hx]; simp [runesL]
  have lby : (letsOf b).length = y.length := by rw [hy]; simp [runesL]
  rw [lax] at lx
  rw [lby] at ly
  have hax : x.length ≤ 1000000000 := by have := letsOf_len a; omega
  have gx : ∀ (i : Nat) (h : i < x.length), ∃ ad, aindexAddr Tryd.prog 125 xv (.i .i64 i) = some ad ∧ aload Tryd.prog G 21 ad = some (.i .i32 x[i]) := fun i h => by
    refine rx.at1 qelem_125 qsize_21 qagg_21 i ?_
    have h2 : i < (letsOf a).length := by omega
    subst hx
    simp [runC, runesL, List.getElem?_eq_getElem h2]
  have gy : ∀ (i : Nat) (h : i < y.length), ∃ ad, aindexAddr Tryd.prog 125 yv (.i .i64 i) = some ad ∧ aload Tryd.prog G 21 ad = some (.i .i32 y[i]) := fun i h => by
    refine ry.at1 qelem_125 qsize_21 qagg_21 i ?_
    have h2 : i < (letsOf b).length := by omega
    subst hy
    simp [runC, runesL, List.getElem?_eq_getElem h2]
  have hres : nameLt a b = (lexB (fun a b : Nat => decide (a < b)) x y || (decide (x = y) && Op.bytesLess a b)) := by subst hx hy; rfl
  rw [hres]
  have fin : ∀ (v : V) (b : Bool), v = .b b → (v = .b b) ∧ V.lt H.next v = true ∧ H.next ≤ G.next ∧ ∀ j, j < H.next → G.get j = H.get j := fun v b e => ⟨e, by rw [e]; rfl, u.1, fun j hj => u.2 j hj (by simp)⟩
  refine AW_seq ?_
  refine AW_seq ?_
  refine AW_reg [0, 1, 5, 6, 13, 14, 15] fun K hK => ?_ -- region 2
  simp [init_eq, lx]
  refine hK _ _ ?_; clear hK K
  refine AW_block ?_
  refine AW_loopx (fun i : Nat => ⟨58, [(0, .s a), (1, .s b), (5, xv), (6, yv), (13, xv), (14, .i .i64 x.length), (15, .i .i64 i)]⟩) (fun i H' => H' = G ∧ i ≤ x.length ∧ x.take i = y.take i ∧ i ≤ y.length) (fun i => x.length - i) 0 (by simp) ⟨rfl, by simp, by simp, by simp⟩ fun i H' ⟨hM, hi, htk, hiy⟩ => ?_ -- loop
  subst hM
  have hdrop := lexB_drop i x y hi hiy htk
  refine AW_seq ?_
  refine AW_reg [0, 1, 5, 6, 13, 14, 15, 16] fun K hK => ?_ -- region 3
  simp [init_eq]
  refine hK _ _ ?_; clear hK K
  refine AW_seq ?_
  refine AW_cond' rfl rfl (fun hc => ?_) (fun hc => ?_)
  · have hlt : i < x.length := by simpa using hc
    obtain ⟨ax, q1, q2⟩ := gx i hlt
    refine AW_skip ?_
    refine AW_seq ?_
    refine AW_block ?_
    refine AW_seq ?_
    refine AW_reg [0, 1, 5, 6, 7, 8, 13, 14, 15] fun K hK => ?_ -- region 4
    simp [init_eq, q1, q2]
    refine hK _ _ ?_; clear hK K
    refine AW_block ?_
    refine AW_seq ?_
    by_cases hyl : i < y.length
    · obtain ⟨ay, q3, q4⟩ := gy i hyl
      have hst := lexB_step hlt hyl
      have hne : ¬ (i : Int) = y.length := by omega
      refine AW_reg [0, 1, 5, 6, 7, 8, 13, 14, 15, 20] fun K hK => ?_ -- region 5
      simp [init_eq, ly, hne, q3, q4]
      refine hK _ _ ?_; clear hK K
      refine AW_cond' rfl rfl (fun hc => ?_) (fun hc => ?_)
      · have hgt : y[i] < x[i] := by simp at hc; omega
        refine AW_seq ?_
        refine AW_reg [4] fun K hK => ?_ -- region 6
        simp [init_eq]
        refine hK _ _ ?_; clear hK K
        refine AW_ret (end_ret rfl (fin _ _ ?_))
        have h1 : lexB (fun a b : Nat => decide (a < b)) x y = false := by
          rw [hdrop, hst]
          have e1 : ¬ x[i] < y[i] := by omega
          have e2 : ¬ x[i] = y[i] := by omega
          simp [e1, e2]
        have h2 : ¬ x = y := fun e => by subst e; omega
        simp [h1, h2]
      · have hng : ¬ y[i] < x[i] := by simp at hc; omega
        refine AW_seq ?_
        refine AW_reg [0, 1, 5, 6, 13, 14, 15, 33] fun K hK => ?_ -- region 7
        simp [init_eq, q3, q4]
        refine hK _ _ ?_; clear hK K
        refine AW_cond' rfl rfl (fun hc => ?_) (fun hc => ?_)
        · have hl : x[i] < y[i] := by simp at hc; omega
          refine AW_seq ?_
          refine AW_reg [4] fun K hK => ?_ -- region 8
          simp [init_eq]
          refine hK _ _ ?_; clear hK K
          refine AW_ret (end_ret rfl (fin _ _ ?_))
          have h1 : lexB (fun a b : Nat => decide (a < b)) x y = true := by
            rw [hdrop, hst]; simp [hl]
          simp [h1]
        · have hnl : ¬ x[i] < y[i] := by simp at hc; omega
          have he : x[i] = y[i] := by omega
          refine AW_skip ?_
          refine AW_reg [0, 1, 5, 6, 13, 14, 15] fun K hK => ?_ -- region 9
          simp [init_eq, wrap_id (x := (i : Int) + 1) (by omega) (by omega)]
          refine hK _ _ ?_; clear hK K
          exact rend ⟨i + 1, by simp, ⟨rfl, by omega, take_succ_eq hlt hyl htk he, by omega⟩, by omega⟩ -- round's end
    · have hye : i = y.length := by omega
      have hne : (i : Int) = y.length := by omega
      refine AW_reg [0, 1, 5, 6, 7, 8, 13, 14, 15, 20] fun K hK => ?_ -- region 5
      simp [init_eq, ly, hne]
      refine hK _ _ ?_; clear hK K
      refine AW_cond' rfl rfl (fun hc => ?_) (fun hc => ?_)
      · refine AW_seq ?_
        refine AW_reg [4] fun K hK => ?_ -- region 6
        simp [init_eq]
        refine hK _ _ ?_; clear hK K
        refine AW_ret (end_ret rfl (fin _ _ ?_))
        have h1 : lexB (fun a b : Nat => decide (a < b)) x y = false := by
          rw [hdrop, hye, List.drop_length]
          cases x.drop y.length <;> rfl
        have h2 : ¬ x = y := fun e => by rw [e] at hlt; omega
        simp [h1, h2]
      · cases hc
  · have hxe : i = x.length := by
      have : ¬ i < x.length := by simpa using hc
      omega
    subst hxe
    rw [List.take_length] at htk
    have hlx : lexB (fun a b : Nat => decide (a < b)) x y = decide (x.length < y.length) := by
      rw [hdrop, List.drop_length]
      by_cases h : x.length < y.length
      · rw [List.drop_eq_getElem_cons h]; simp [lexB, h]
      · rw [List.drop_eq_nil_of_le (by omega)]; simp [lexB, h]
    have hxy : (x = y) ↔ x.length = y.length := ⟨fun e => by rw [e], fun e => by rw [htk, e, List.take_length]⟩
    refine AW_exit (then_exit (then_exit (block_here ?_)))
    refine AW_seq ?_
    refine AW_regto [4] ⟨58, [(4, .b (lexB (fun a b : Nat => decide (a < b)) x y || (decide (x = y) && Op.bytesLess a b)))]⟩ H' (fun K hk => ?_) ?_ -- region 10
    · rw [hlx] at hk
      by_cases h1 : x.length < y.length
      · have h1' : (x.length : Int) < y.length := by omega
        simpa [init_eq, lx, ly, h1, h1'] using hk
      · have h1' : ¬ (x.length : Int) < y.length := by omega
        cases h2 : Op.bytesLess a b
        · simpa [init_eq, lx, ly, h1, h1', h2, abin, astr] using hk
        · by_cases h3 : x.length = y.length
          · have h3' : (x.length : Int) = y.length := by omega
            simpa [init_eq, lx, ly, h1, h1', h2, hxy, h3, h3', abin, astr] using hk
          · have h3' : ¬ (x.length : Int) = y.length := by omega
            simpa [init_eq, lx, ly, h1, h1', h2, hxy, h3, h3', abin, astr] using hk
    refine AW_ret (end_ret rfl (fin _ _ rfl))
theorem order_ok [Laid Tryd.prog] (H : AH) (a b : List UInt8) (ha : a.length ≤ 1000000000) (hb : b.length ≤ 1000000000) : ACalls Tryd.prog 29 [.s a, .s b] H fun r H' => r = .i .i64 (ordI nameLt a b) ∧ H' = H := by
  refine ACalls.pure (Q := fun r => r = .i .i64 (ordI nameLt a b)) ⟨_, Tryd.func29, rfl, rfl⟩ ?_
  refine ACalls_body Tryd.func29 rfl rfl ?_
  refine AW_seq ?_
  refine AW_reg [0, 1] fun K hK => ?_ -- region 0
  simp [init_eq]
  refine hK _ _ ?_; clear hK K
  refine AW_seq ?_
  refine AW_block ?_
  refine AW_seq ?_
  refine AW_reg [0, 1, 5] fun K hK => ?_ -- region 1
  simp [init_eq]
  refine ACalls.mono (less_ok _ a b ha hb) fun r H' ⟨hr, e⟩ => ?_ -- hallmoot/name.Less
  subst hr e
  try simp
  refine hK _ _ ?_; clear hK K
  refine AW_cond' rfl rfl (fun hc => ?_) (fun hc => ?_)
  · have hc : nameLt a b = true := hc
    refine AW_seq ?_
    refine AW_reg [4] fun K hK => ?_ -- region 2
    simp [init_eq]
    refine hK _ _ ?_; clear hK K
    refine AW_ret (end_ret rfl (same_end (by simp [ordI, hc]) rfl))
  · have hc : nameLt a b = false := hc
    refine AW_seq ?_
    refine AW_reg [9] fun K hK => ?_ -- region 3
    simp [init_eq, abin, astr]
    refine hK _ _ ?_; clear hK K
    refine AW_cond' rfl rfl (fun h2 => ?_) (fun h2 => ?_)
    · have h2 : a = b := by simpa using h2
      refine AW_seq ?_
      refine AW_reg [4] fun K hK => ?_ -- region 4
      simp [init_eq]
      refine hK _ _ ?_; clear hK K
      refine AW_ret (end_ret rfl (same_end (by subst h2; simp [ordI, hc]) rfl))
    · have h2 : ¬ a = b := by simpa using h2
      refine AW_skip ?_
      refine AW_seq ?_
      refine AW_reg [4] fun K hK => ?_ -- region 5
      simp [init_eq]
      refine hK _ _ ?_; clear hK K
      refine AW_ret (end_ret rfl (same_end (by simp [ordI, hc, h2]) rfl))
def Plc.cells (p : Plc) : List V := [.s p.1, .s p.2]
theorem byName_ok [Laid Tryd.prog] (H : AH) (a b : Plc) (h1 : a.1.length ≤ 1000000000 ∧ a.2.length ≤ 1000000000) (h2 : b.1.length ≤ 1000000000 ∧ b.2.length ≤ 1000000000) : ACalls Tryd.prog 32 [.agg (Plc.cells a), .agg (Plc.cells b)] H fun r H' => r = .i .i64 (ordI placeLt a b) ∧ H' = H := by
  refine ACalls.pure (Q := fun r => r = .i .i64 (ordI placeLt a b)) ⟨_, Tryd.func32, rfl, rfl⟩ ?_
  refine ACalls_body Tryd.func32 rfl rfl ?_
  refine AW_seq ?_
  refine AW_reg [2, 3] fun K hK => ?_ -- region 0
  simp [init_eq, V.cells]
  obtain ⟨G, e1, ga, gb, gn, go⟩ := H.boxed2 (Plc.cells a) (Plc.cells b)
  change K _ ((H.new (.cells (Plc.cells a) 0 false 0)).new (.cells (Plc.cells b) 0 false 0))
  rw [e1]
  refine hK _ _ ?_; clear hK K
  have pc : ∀ p : Plc, (Plc.cells p)[0]? = some (.s p.1) ∧ (Plc.cells p)[1]? = some (.s p.2) := fun p => ⟨rfl, rfl⟩
  refine AW_seq ?_
  refine AW_seq ?_
  refine AW_reg [2, 3, 5] fun K hK => ?_ -- region 1
  simp [init_eq, afieldAddr, aload, ga, gb, pc]
  refine ACalls.mono (order_ok _ a.1 b.1 h1.1 h2.1) fun r H' ⟨hr, e⟩ => ?_ -- hallmoot/state.order
  subst hr e
  try simp
  refine hK _ _ ?_; clear hK K
  refine AW_seq ?_
  refine AW_reg [2, 3, 5, 12] fun K hK => ?_ -- region 2
  simp [init_eq]
  refine hK _ _ ?_; clear hK K
  refine AW_cond' rfl rfl (fun hc => ?_) (fun hc => ?_)
  · have hc : ordI nameLt a.1 b.1 ≠ 0 := by simpa using hc
    refine AW_seq ?_
    refine AW_reg [4] fun K hK => ?_ -- region 3
    simp [init_eq]
    refine hK _ _ ?_; clear hK K
    refine AW_ret (end_ret rfl (pure_end gn go ?_ rfl))
    have : ¬ a.1 = b.1 := fun e => hc (by unfold ordI; rw [e, nameLt_sto.irrefl]; simp)
    have h3 : ¬ a = b := fun e => this (by rw [e])
    simp [ordI, placeLt, thenB, this, h3]
  · have hc : ordI nameLt a.1 b.1 = 0 := by simpa using hc
    have e0 : a.1 = b.1 := by
      unfold ordI at hc
      split at hc
      · cases hc
      · split at hc
        · assumption
        · cases hc
    refine AW_skip ?_
    refine AW_seq ?_
    refine AW_reg [4] fun K hK => ?_ -- region 4
    simp [init_eq, afieldAddr, aload, ga, gb, pc]
    refine ACalls.mono (order_ok _ a.2 b.2 h1.2 h2.2) fun r H2 ⟨hr, e⟩ => ?_ -- hallmoot/state.order
    subst hr e
    try simp
    refine hK _ _ ?_; clear hK K
    refine AW_ret (end_ret rfl (pure_end gn go ?_ rfl))
    have h3 : (a = b) ↔ a.2 = b.2 := ⟨fun e => by rw [e], fun e => Prod.ext e0 e⟩
    simp [ordI, placeLt, thenB, e0, h3, nameLt_sto.irrefl]
end Go.Proofs.YtikonppmjkipoaaDoor
