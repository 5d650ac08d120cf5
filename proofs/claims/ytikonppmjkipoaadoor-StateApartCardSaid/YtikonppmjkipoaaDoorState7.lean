/-
  state.New.
-/
import Derived.Test.YtikonppmjkipoaaDoorState6
set_option linter.unusedVariables false
set_option linter.unusedSimpArgs false
namespace Go.Proofs.YtikonppmjkipoaaDoor
open Go Go.Abs Go.Proofs
set_option maxRecDepth 100000
attribute [local irreducible] AEnd AW ACalls

structure Acct where
  name : List UInt8
  amount : Int
def Acct.cells (a : Acct) : List V := [.s a.name, .i .i64 a.amount]
def newGo : List Acct → PSt → Int → PSt × Int × Int
  | [], s, all => (s, all, 0)
  | a :: l, s, all =>
    if nameOk a.name = false ∨ a.amount < 0 then (.zero, 0, 1) else
    if (mget s.A a.name).isSome then (.zero, 0, 100) else
    if (addD all a.amount).2 ≠ 0 then (.zero, 0, (addD all a.amount).2) else newGo l (s.putA a.name (a.amount, 0)) (addD all a.amount).1
def newP (l : List Acct) : PSt × Int × Int := newGo l .zero 0
theorem acct_new (M : AH) (z : List V) (hz : z.length = 2) (x : Acct) : ∃ N, astore Tryd.prog (M.new (.cells z 0 false 0)) 51 (.p (some (M.next, 0, 0))) (.agg x.cells) = some N ∧ N.get M.next = some (.cells x.cells 0 false 0) ∧ Upd M N [] ∧ N.next = M.next + 1 :=
  ⟨_, by simp [astore, AH.get_new, V.cells, hz, show x.cells.length = 2 from rfl, show splice z 0 x.cells = x.cells from splice_all (by rw [hz]; rfl)]; rfl, by rw [AH.get_set_same (by simp)], ⟨by simp, fun j hj _ => by rw [AH.get_set_ne (by omega), AH.get_new, if_neg (by omega)]⟩, by simp⟩
set_option maxHeartbeats 1000000 in
theorem new_ok (H : AH) {v : V} (l : List Acct) (hv : RS H v 2 (l.map Acct.cells)) (hl : l.length ≤ 140737488351232) (hs : ∀ a ∈ l, a.name.length ≤ 140737488351232) :
    ACalls Tryd.prog 10 [v] H fun r H' => ∃ p, r = .tup [p, .i .i64 (newP l).2.2] ∧ Upd H H' [] ∧ ((newP l).2.2 ≠ 0 → p = .p none) ∧
      ((newP l).2.2 = 0 → ∃ sid am vm, p = .p (some (sid, 0, 0)) ∧ StAt H' sid am vm (newP l).1 ∧ H.next ≤ sid ∧ H.next ≤ am ∧ H.next ≤ vm) := by
  refine ACalls_body Tryd.func10 rfl rfl ?_
  refine AW_seq ?_
  refine AW_reg [0] fun K hK => ?_ -- region 0
  simp [init_eq]
  refine hK _ _ ?_; clear hK K
  refine AW_seq ?_
  refine AW_reg [0, 4] fun K hK => ?_ -- region 1
  simp [init_eq, state_build, V.cells]
  generalize hG : ((H.new (.map [] 0)).new (.map [] 0)).new (.cells [.m (some H.next), .m (some (H.next + 1))] 0 false 0) = G
  have hst : StAt G (H.next + 2) H.next (H.next + 1) .zero := by
    rw [← hG]
    refine ⟨by simp [AH.get_new], ?_, ?_, MOk.nil _, MOk.nil _, by omega⟩
    · rw [AH.get_new, if_neg (by simp only [AH.next_new]; omega), AH.get_new, if_neg (by simp only [AH.next_new]; omega), AH.get_new, if_pos rfl]; rfl
    · rw [AH.get_new, if_neg (by simp only [AH.next_new]; omega), AH.get_new, if_pos (by simp only [AH.next_new])]; rfl
  have u0 : Upd H G [] := by
    rw [← hG]
    exact ((Upd.new H _ []).trans (Upd.new _ _ []) (by simp)).trans (Upd.new _ _ []) (by simp)
  clear hG
  refine hK _ _ ?_; clear hK K
  refine AW_seq ?_
  refine AW_reg [0, 4, 5] fun K hK => ?_ -- region 2
  simp [init_eq]
  refine hK _ _ ?_; clear hK K
  have la := hv.alen (P := Tryd.prog) qelem_22 G
  refine AW_seq ?_
  refine AW_seq ?_
  refine AW_reg [4, 5, 16, 17, 18] fun K hK => ?_ -- region 3
  simp [init_eq, la]
  refine hK _ _ ?_; clear hK K
  refine AW_block ?_
  refine AW_loopx (fun x : Nat × PSt × Int => ⟨64, [(4, .p (some (H.next + 2, 0, 0))), (5, .i .i64 x.2.2), (16, v), (17, .i .i64 l.length), (18, .i .i64 x.1)]⟩)
    (fun x M => x.1 ≤ l.length ∧ newP l = newGo (l.drop x.1) x.2.1 x.2.2 ∧ Upd H M [] ∧ StAt M (H.next + 2) H.next (H.next + 1) x.2.1) (fun x => l.length - x.1) (0, .zero, 0) (by simp) ⟨by simp, by simp [newP], u0, hst⟩ fun x M ⟨hi, hN, u, hM⟩ => ?_ -- loop
  obtain ⟨i, s, all⟩ := x
  simp only at hi hN hM
  refine AW_seq ?_
  refine AW_reg [4, 5, 16, 17, 18, 19] fun K hK => ?_ -- region 4
  simp [init_eq]
  refine hK _ _ ?_; clear hK K
  refine AW_seq ?_
  refine AW_cond' rfl rfl (fun hc => ?_) (fun hc => ?_)
  · have hlt : i < l.length := by simpa using hc
    rw [List.drop_eq_getElem_cons hlt] at hN
    have hal := hs l[i] (List.getElem_mem hlt)
    obtain ⟨ax, q1, q2⟩ := (hv.upd u).rec (f := Acct.cells) (sz := 2) (fun _ => rfl) (by decide) (P := Tryd.prog) qelem_22 qsize_51 qagg_51 hlt
    generalize l[i] = a at *
    obtain ⟨N, n1, n2, n3, n4⟩ := acct_new M [.s [], .i .i64 0] rfl a
    refine AW_skip ?_
    refine AW_seq ?_
    refine AW_block ?_
    refine AW_seq ?_
    refine AW_reg [4, 5, 7, 16, 17, 18] fun K hK => ?_ -- region 5
    simp [init_eq, q1, q2, V.cells, n1]
    refine hK _ _ ?_; clear hK K
    have hNs := hM.same n3
    have uN := u.trans n3 (by simp)
    have c0 : a.cells[0]? = some (.s a.name) := rfl
    have c1 : a.cells[1]? = some (.i .i64 a.amount) := rfl
    have bad : ∀ (e : Int) (ρ : Env) (X : AH), e ≠ 0 → newP l = (.zero, 0, e) → ρ.get 2 = .p none → ρ.get 3 = .i .i64 e → Upd H X [] → AEnd Tryd.prog Tryd.f10 (fun r H' => ∃ p, r = .tup [p, .i .i64 (newP l).2.2] ∧ Upd H H' [] ∧ ((newP l).2.2 ≠ 0 → p = .p none) ∧
      ((newP l).2.2 = 0 → ∃ sid am vm, p = .p (some (sid, 0, 0)) ∧ StAt H' sid am vm (newP l).1 ∧ H.next ≤ sid ∧ H.next ≤ am ∧ H.next ≤ vm)) .ret ρ X := by
      intro e ρ X he hn h2 h3 hu
      refine end_ret (r := .tup [.p none, .i .i64 e]) ?_ ⟨.p none, by rw [hn], hu, fun _ => rfl, fun h => absurd (by rw [hn] at h; exact h) he⟩
      have : ares1 Tryd.prog X ρ [.tmp 2, .tmp 3] = some (.tup [ρ.get 2, ρ.get 3]) := rfl
      rw [h2, h3] at this
      exact this
    refine AW_seq ?_
    refine AW_seq ?_
    refine AW_regto [4, 5, 7, 16, 17, 18, 30] ⟨64, [(4, .p (some (H.next + 2, 0, 0))), (5, .i .i64 all), (7, .p (some (M.next, 0, 0))), (16, v), (17, .i .i64 l.length), (18, .i .i64 i), (30, .b (!nameOk a.name || decide (a.amount < 0)))]⟩ N (fun K hk => ?_) ?_ -- region 6
    · simp [init_eq, afieldAddr, aload, n2, c0]
      refine ACalls.mono (name_ok N a.name hal) fun r H' ⟨hr, e⟩ => ?_ -- hallmoot/name.Check
      subst hr e
      cases hn : nameOk a.name
      · simpa [hn] using hk
      · simpa [hn, afieldAddr, aload, n2, c1] using hk
    refine AW_cond' rfl rfl (fun hc => ?_) (fun hc => ?_)
    · have hb : nameOk a.name = false ∨ a.amount < 0 := by simpa using hc
      refine AW_seq ?_
      refine AW_reg [2, 3] fun K hK => ?_ -- region 7
      simp [init_eq]
      refine hK _ _ ?_; clear hK K
      exact AW_ret (bad 1 _ _ (by decide) (by rw [hN, newGo, if_pos hb]) rfl rfl uN)
    have hb : ¬ (nameOk a.name = false ∨ a.amount < 0) := by simpa using hc
    refine AW_skip ?_
    have ls : ∀ X : AH, Upd N X [] → aload Tryd.prog X 9 (.p (some (M.next, 0, 0))) = some (.s a.name) := fun X u => by simp [aload, u.keep (by simp) n2, c0]
    refine AW_seq ?_
    refine AW_cut (fun ρ' X => ρ' = ⟨64, [(4, .p (some (H.next + 2, 0, 0))), (5, .i .i64 all), (7, .p (some (M.next, 0, 0))), (9, .b (mget s.A a.name).isSome), (16, v), (17, .i .i64 l.length), (18, .i .i64 i)]⟩ ∧ Upd N X []) ?_ ?_
    · refine AW_regd [4, 5, 7, 9, 16, 17, 18] pl_10_8 pe_10_8 (by kernel_rfl) (by kernel_rfl) (by decide) fun K hK => ?_
      obtain ⟨X, x1, x2, x3, x4⟩ := acc_new N [.i .i64 0, .i .i64 0] rfl (s.acc a.name)
      simp [init_eq, pl_10_8, V.cells, afieldAddr, hNs.la, ls N (Upd.refl ..), hNs.hasA, x1]
      exact hK _ _ (rend ⟨_, by simp, rfl, x3⟩)
    rintro ρ' X ⟨rfl, uX⟩
    have hX := hNs.same uX
    have nX := uX.keep (by simp) n2
    refine AW_seq ?_
    refine AW_reg [4, 5, 7, 16, 17, 18, 41] fun K hK => ?_ -- region 9
    simp [init_eq]
    refine hK _ _ ?_; clear hK K
    refine AW_cond' rfl rfl (fun hc => ?_) (fun hc => ?_)
    · have hh : (mget s.A a.name).isSome = true := hc
      refine AW_seq ?_
      refine AW_reg [2, 3] fun K hK => ?_ -- region 10
      simp [init_eq]
      refine hK _ _ ?_; clear hK K
      exact AW_ret (bad 100 _ _ (by decide) (by rw [hN, newGo, if_neg hb, if_pos hh]) rfl rfl (uN.trans uX (by simp)))
    have hh : ¬ (mget s.A a.name).isSome = true := by
      have : (mget s.A a.name).isSome = false := hc
      simp [this]
    refine AW_skip ?_
    refine AW_seq ?_
    refine AW_reg [4, 7, 10, 11, 16, 17, 18] fun K hK => ?_ -- region 11
    simp [init_eq, afieldAddr, aload, nX, c1]
    refine ACalls.mono (nadd_ok X all a.amount) fun r H' ⟨hr, e⟩ => ?_ -- hallmoot/num.Add
    subst hr e
    try simp
    refine hK _ _ ?_; clear hK K
    refine AW_seq ?_
    refine AW_seq ?_
    refine AW_reg [4, 7, 10, 11, 16, 17, 18, 50] fun K hK => ?_ -- region 12
    simp [init_eq]
    refine hK _ _ ?_; clear hK K
    refine AW_cond' rfl rfl (fun hc => ?_) (fun hc => ?_)
    · have he : (addD all a.amount).2 ≠ 0 := by simpa using hc
      refine AW_seq ?_
      refine AW_reg [2, 3] fun K hK => ?_ -- region 13
      simp [init_eq]
      refine hK _ _ ?_; clear hK K
      exact AW_ret (bad _ _ _ he (by rw [hN, newGo, if_neg hb, if_neg hh, if_pos he]) rfl rfl (uN.trans uX (by simp)))
    have he : ¬ (addD all a.amount).2 ≠ 0 := by simpa using hc
    refine AW_skip ?_
    refine AW_seq ?_
    refine AW_reg [4, 5, 7, 16, 17, 18] fun K hK => ?_ -- region 14
    simp [init_eq]
    refine hK _ _ ?_; clear hK K
    obtain ⟨Y, y1, y2, y3, y4⟩ := hX.setA a.name (a.amount, 0)
    have b1 : abuild Tryd.prog 58 [(0, .i .i64 a.amount)] = some (.agg [.i .i64 a.amount, .i .i64 0]) := by first | (simp [abuild, afill, V.cells, splice]; done) | (simp [abuild, afill, V.cells, splice]; rfl)
    have la2 : aload Tryd.prog H' 2 (.p (some (M.next, 0, 1))) = some (.i .i64 a.amount) := by simp [aload, nX, c1]
    refine AW_regd [4, 5, 16, 17, 18] pl_10_15 pe_10_15 (by kernel_rfl) (by kernel_rfl) (by decide) fun K hK => ?_
    simp [init_eq, pl_10_15, afieldAddr, hX.la, ls H' uX, la2, b1, y1]
    refine hK _ _ ?_; clear hK K
    refine AW_reg [4, 5, 16, 17, 18] fun K hK => ?_ -- region 16
    simp [init_eq, wrap_id (x := (i : Int) + 1) (by omega) (by omega)]
    refine hK _ _ ?_; clear hK K
    refine rend ⟨(i + 1, s.putA a.name (a.amount, 0), (addD all a.amount).1), by simp, ⟨by show i + 1 ≤ _; omega, by rw [hN, newGo, if_neg hb, if_neg hh, if_neg he], (uN.trans uX (by simp)).trans y3 (fun j hj => .inr (by simp at hj; omega)), y2⟩, by show l.length - (i + 1) < l.length - i; omega⟩ -- round's end
  · have hi' : i = l.length := by
      have : ¬ i < l.length := by simpa using hc
      omega
    subst hi'
    rw [List.drop_length, newGo] at hN
    refine AW_exit (then_exit (then_exit (block_here ?_)))
    refine AW_seq ?_
    refine AW_reg [2, 3] fun K hK => ?_ -- region 17
    simp [init_eq]
    refine hK _ _ ?_; clear hK K
    exact AW_ret (end_ret rfl ⟨_, by rw [hN]; rfl, u, fun h => absurd (by rw [hN]) h, fun _ => ⟨_, _, _, rfl, by rw [hN]; exact hM, by omega, by omega, by omega⟩⟩)
end Go.Proofs.YtikonppmjkipoaaDoor
