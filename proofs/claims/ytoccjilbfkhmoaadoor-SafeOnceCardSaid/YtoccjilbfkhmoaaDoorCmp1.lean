/-
  Certificates by rank.
-/
import Derived.Test.YtoccjilbfkhmoaaDoorBlock1
set_option linter.unusedVariables false
set_option linter.unusedSimpArgs false
namespace Go.Proofs.YtoccjilbfkhmoaaDoor
open Go Go.Abs Go.Proofs
set_option maxRecDepth 100000
attribute [local irreducible] AEnd AW ACalls

theorem cndF {r : Fm} {P : Program} [Laid P] {Q : Exit → Env → AH → Prop} {ρ : Env} {H : AH} {c : Operand} {x y : Code} (hv : aev ρ c = .b false) (h : AW r P y Q ρ H) : AW r P (.cond c x y) Q ρ H := AW_cond' hv rfl (fun h => by cases h) (fun _ => h)
def cmpI (x y : Int) : Int := if x < y then -1 else if y < x then 1 else 0
/-- Two lists, number by number. -/
def cmpL : List Int → List Int → Int
  | [], [] => 0
  | [], _ :: _ => -1
  | _ :: _, [] => 1
  | x :: xs, y :: ys => if cmpI x y ≠ 0 then cmpI x y else cmpL xs ys
def Cert.cls (c : Cert) : Int := if c.kind = 2 then 1 else 0
def Cert.rank (c : Cert) : List Int := [c.view, c.cls, c.round]
def cmpC (a b : Cert) : Int := cmpL a.rank b.rank
def maxC (a b : Cert) : Cert := if cmpC a b < 0 then b else a
def intC (x : Int) : List V := [.i .i64 x]
theorem intC_len (x : Int) : (intC x).length = 1 := rfl
theorem cmpI_zero {x y : Int} : cmpI x y = 0 ↔ x = y := by
  unfold cmpI; split
  · simp; omega
  · split
    · simp; omega
    · simp; omega
theorem isNaN_ok (H : AH) (x : Int) : ACalls Tryd.prog 71 [.i .i64 x] H fun r H' => r = .b false ∧ H' = H := by
  refine ACalls_body Tryd.func71 rfl rfl ?_
  repeat refine AW_seq ?_
  refine AW_reg [0] fun K hK => ?_
  simp [init_eq]
  refine hK _ _ ?_; clear hK K
  repeat refine AW_seq ?_
  refine AW_reg [2] fun K hK => ?_
  simp [init_eq]
  refine hK _ _ ?_; clear hK K
  exact AW_ret (end_ret rfl (by simp))
theorem compare_ok (H : AH) (x y : Int) : ACalls Tryd.prog 50 [.i .i64 x, .i .i64 y] H fun r H' => r = .i .i64 (cmpI x y) ∧ H' = H := by
  refine ACalls_body Tryd.func50 rfl rfl ?_
  repeat refine AW_seq ?_
  refine AW_reg [0, 1] fun K hK => ?_ -- region 0
  simp [init_eq]
  refine hK _ _ ?_; clear hK K
  repeat refine AW_seq ?_
  refine AW_reg [0, 1, 5] fun K hK => ?_ -- region 1
  simp [init_eq]
  refine ACalls.mono (isNaN_ok ..) fun r H' ⟨hr, e⟩ => ?_
  subst hr e
  try simp
  refine hK _ _ ?_; clear hK K
  repeat refine AW_seq ?_
  refine AW_reg [0, 1, 5, 6] fun K hK => ?_ -- region 2
  simp [init_eq]
  refine ACalls.mono (isNaN_ok ..) fun r H'' ⟨hr, e⟩ => ?_
  subst hr e
  try simp
  refine hK _ _ ?_; clear hK K
  repeat refine AW_seq ?_
  refine AW_reg [0, 1, 6, 11] fun K hK => ?_ -- region 3
  simp [init_eq]
  refine hK _ _ ?_; clear hK K
  refine cndF rfl (AW_skip ?_)
  repeat refine AW_seq ?_
  refine AW_reg [0, 1, 13] fun K hK => ?_ -- region 7
  simp [init_eq]
  refine hK _ _ ?_; clear hK K
  refine cndF rfl (AW_skip ?_)
  repeat refine AW_seq ?_
  refine AW_reg [0, 1, 16] fun K hK => ?_ -- region 9
  simp [init_eq]
  refine hK _ _ ?_; clear hK K
  refine AW_cond' rfl rfl (fun hc => ?_) (fun hc => ?_)
  · have g : x < y := by simpa using hc
    repeat refine AW_seq ?_
    refine AW_reg [4] fun K hK => ?_
    simp [init_eq]
    refine hK _ _ ?_; clear hK K
    exact AW_ret (end_ret rfl ⟨by rw [cmpI, if_pos g]; rfl, rfl⟩)
  have g : ¬ x < y := by simpa using hc
  refine AW_skip ?_
  repeat refine AW_seq ?_
  refine AW_reg [0, 1, 19] fun K hK => ?_ -- region 11
  simp [init_eq]
  refine hK _ _ ?_; clear hK K
  refine AW_cond' rfl rfl (fun hc => ?_) (fun hc => ?_)
  · have g2 : y < x := by simpa using hc
    repeat refine AW_seq ?_
    refine AW_reg [4] fun K hK => ?_
    simp [init_eq]
    refine hK _ _ ?_; clear hK K
    exact AW_ret (end_ret rfl ⟨by rw [cmpI, if_neg g, if_pos g2]; rfl, rfl⟩)
  · have g2 : ¬ y < x := by simpa using hc
    refine AW_skip ?_
    repeat refine AW_seq ?_
    refine AW_reg [4] fun K hK => ?_
    simp [init_eq]
    refine hK _ _ ?_; clear hK K
    exact AW_ret (end_ret rfl ⟨by rw [cmpI, if_neg g, if_neg g2]; rfl, rfl⟩)
theorem cmpL_drop {xs ys : List Int} (hl : xs.length = ys.length) {i : Nat} (hi : i < xs.length) : cmpL (xs.drop i) (ys.drop i) = if cmpI xs[i] (ys[i]'(by omega)) ≠ 0 then cmpI xs[i] (ys[i]'(by omega)) else cmpL (xs.drop (i + 1)) (ys.drop (i + 1)) := by
  rw [List.drop_eq_getElem_cons hi, List.drop_eq_getElem_cons (by omega : i < ys.length)]
  rfl
theorem compareL_ok (H : AH) {v w : V} {xs ys : List Int} (hx : Sl H v 1 (xs.map fun x => V.i .i64 x)) (hy : Sl H w 1 (ys.map fun x => V.i .i64 x)) (hl : xs.length = ys.length) (hb : xs.length ≤ 1000000) :
    ACalls Tryd.prog 23 [v, w] H fun r H' => r = .i .i64 (cmpL xs ys) ∧ H' = H := by
  have lx : alen Tryd.prog H 38 v = some (.i .i64 xs.length) := by simpa using hx.len (P := Tryd.prog) (H' := H) (by decide) qelem_38
  have ly : alen Tryd.prog H 38 w = some (.i .i64 ys.length) := by simpa using hy.len (P := Tryd.prog) (H' := H) (by decide) qelem_38
  refine ACalls_body Tryd.func23 rfl rfl ?_
  repeat refine AW_seq ?_
  refine AW_reg [0, 1] fun K hK => ?_ -- region 0
  simp [init_eq]
  refine hK _ _ ?_; clear hK K
  repeat refine AW_seq ?_
  refine AW_reg [0, 1, 9, 10, 11] fun K hK => ?_ -- region 1
  simp [init_eq, lx]
  refine hK _ _ ?_; clear hK K
  refine AW_block ?_
  refine AW_loop0 (fun i : Nat => ⟨36, [(0, v), (1, w), (9, v), (10, .i .i64 xs.length), (11, .i .i64 i)]⟩) (fun i => i ≤ xs.length ∧ cmpL xs ys = cmpL (xs.drop i) (ys.drop i)) (fun i => xs.length - i) 0 (by simp) (by simp) (by dsimp only; omega) fun hw i hM => ?_ -- loop
  repeat refine AW_seq ?_
  refine AW_reg [0, 1, 9, 10, 11, 12] fun K hK => ?_ -- region 2
  simp [init_eq]
  refine hK _ _ ?_; clear hK K
  repeat refine AW_seq ?_
  refine AW_cond' rfl rfl (fun hc => ?_) (fun hc => ?_)
  · have hi : i < xs.length := by simpa using hc
    have hM2 := hM.2
    rw [cmpL_drop hl hi] at hM2
    obtain ⟨ax, px, qx⟩ := hx.at1 (P := Tryd.prog) (t := 38) (e := 3) qelem_38 qsize_3 qagg_3 (k := .i64) (i := (i : Int)) (by omega) (by simp; omega)
    obtain ⟨ay, py, qy⟩ := hy.at1 (P := Tryd.prog) (t := 38) (e := 3) qelem_38 qsize_3 qagg_3 (k := .i64) (i := (i : Int)) (by omega) (by simp; omega)
    simp only [Int.toNat_natCast, List.getElem?_map, List.getElem?_eq_getElem hi, List.getElem?_eq_getElem (show i < ys.length by omega), Option.map_some] at qx qy
    generalize xs[i] = x at *
    generalize (ys[i]'(by omega)) = y at *
    refine AW_skip ?_
    repeat refine AW_seq ?_
    refine AW_block ?_
    repeat refine AW_seq ?_
    refine AW_reg [0, 1, 5, 6, 9, 10, 11] fun K hK => ?_ -- region 3
    simp [init_eq, px, qx]
    refine hK _ _ ?_; clear hK K
    repeat refine AW_seq ?_
    refine AW_reg [0, 1, 5, 6, 9, 10, 11, 19] fun K hK => ?_ -- region 4
    simp [init_eq, ly]
    refine hK _ _ ?_; clear hK K
    refine cndF (by simp; omega) (AW_skip ?_)
    repeat refine AW_seq ?_
    refine AW_reg [0, 1, 6, 7, 9, 10, 11] fun K hK => ?_ -- region 6
    simp [init_eq, py, qy]
    refine hK _ _ ?_; clear hK K
    repeat refine AW_seq ?_
    refine AW_reg [0, 1, 8, 9, 10, 11] fun K hK => ?_ -- region 7
    simp [init_eq]
    refine ACalls.mono (compare_ok H x y) fun r H' ⟨hr, e⟩ => ?_
    subst hr e
    try simp
    refine hK _ _ ?_; clear hK K
    repeat refine AW_seq ?_
    refine AW_reg [0, 1, 8, 9, 10, 11, 28] fun K hK => ?_ -- region 8
    simp [init_eq]
    refine hK _ _ ?_; clear hK K
    refine AW_cond' rfl rfl (fun hc => ?_) (fun hc => ?_)
    · have g : ¬ cmpI x y = 0 := by simpa using hc
      repeat refine AW_seq ?_
      refine AW_reg [4] fun K hK => ?_ -- region 9
      simp [init_eq]
      refine hK _ _ ?_; clear hK K
      exact AW_ret (end_ret rfl ⟨by rw [hM2, if_pos g]; rfl, rfl⟩)
    · have g : cmpI x y = 0 := by simpa using hc
      rw [if_neg (by simp [g])] at hM2
      refine AW_skip ?_
      refine AW_reg [0, 1, 9, 10, 11] fun K hK => ?_ -- region 10
      simp [init_eq, wrap_id (x := (i : Int) + 1) (by omega) (by omega)]
      refine hK _ _ ?_; clear hK K
      exact rend ⟨i + 1, by simp, ⟨by omega, hM2⟩, by omega, .inl rfl⟩
  · have hi : i = xs.length := by have := hM.1
                                  have : ¬ i < xs.length := by simpa using hc
                                  omega
    have e0 : cmpL xs ys = 0 := by rw [hM.2, hi, List.drop_length, hl, List.drop_length]; rfl
    refine AW_exit (then_exit (then_exit (block_here ?_)))
    repeat refine AW_seq ?_
    refine AW_reg [0, 1, 35] fun K hK => ?_ -- region 11
    simp [init_eq, lx, ly]
    refine hK _ _ ?_; clear hK K
    refine cndF (by simp; omega) (AW_skip ?_)
    repeat refine AW_seq ?_
    refine AW_reg [4] fun K hK => ?_ -- region 13
    simp [init_eq]
    refine hK _ _ ?_; clear hK K
    exact AW_ret (end_ret rfl ⟨by rw [e0]; rfl, rfl⟩)
def rankV (c : Cert) : List V := [.i .i64 c.view, .i .i64 c.cls, .i .i64 c.round]
theorem rank_ok (H : AH) (c : Cert) : ACalls Tryd.prog 22 [.agg c.cells] H fun r H' => r = .agg (rankV c) ∧ H' = H := by
  refine ACalls.pure (Q := fun r => r = .agg (rankV c)) ⟨_, Tryd.func22, rfl, rfl⟩ ?_
  refine ACalls_body Tryd.func22 rfl rfl ?_
  repeat refine AW_seq ?_
  refine AW_reg [1, 2] fun K hK => ?_ -- region 0
  simp [init_eq, V.cells]
  obtain ⟨H1, e1, hp, hp2, hn, ho⟩ := H.boxed2 c.cells [.i .i64 0, .i .i64 0, .i .i64 0]
  rw [e1]
  refine hK _ _ ?_; clear hK K
  repeat refine AW_seq ?_
  refine AW_reg [1, 2, 3] fun K hK => ?_ -- region 1
  simp [init_eq]
  refine hK _ _ ?_; clear hK K
  refine AW_cut (fun ρ G => ρ = ⟨13, [(1, .p (some (H.next, 0, 0))), (2, .p (some (H.next + 1, 0, 0))), (3, .i .i64 c.cls)]⟩ ∧ G = H1) ?_ fun ρ G ⟨e1, e2⟩ => ?_
  · repeat refine AW_seq ?_
    refine AW_reg [1, 2, 3, 6] fun K hK => ?_ -- region 2
    simp [init_eq, afieldAddr, aload, hp]
    refine hK _ _ ?_; clear hK K
    refine AW_cond' rfl rfl (fun hc => ?_) (fun hc => ?_)
    · have g : c.kind = 2 := by simpa using hc
      refine AW_reg [1, 2, 3] fun K hK => ?_ -- region 3
      simp [init_eq]
      refine hK _ _ ?_; clear hK K
      exact rend ⟨_, by simp [Cert.cls, g], rfl, rfl⟩
    · have g : ¬ c.kind = 2 := by simpa using hc
      exact AW_skip (rend ⟨_, by simp [Cert.cls, g], rfl, rfl⟩)
  subst e1 e2
  have hq : qplaces Tryd.prog 64 = none := by kernel_rfl
  have hab : abuild Tryd.prog 64 [(0, .i .i64 c.view), (1, .i .i64 c.cls), (2, .i .i64 c.round)] = some (.agg (rankV c)) := by simp [abuild, hq, afill, V.cells, splice, rankV]
  have hst : astore Tryd.prog G 64 (.p (some (H.next + 1, 0, 0))) (.agg (rankV c)) = some (G.set (H.next + 1) (.cells (rankV c) 0 false 0)) := by simp [astore, hp2, V.cells, splice, rankV]
  repeat refine AW_seq ?_
  refine AW_reg [2] fun K hK => ?_ -- region 4
  simp [init_eq, afieldAddr, aload, hp, hab, hst]
  refine hK _ _ ?_; clear hK K
  exact AW_ret (end_ret (ares_cell (v := .agg (rankV c)) (by simp [aload, AH.get_set, hn, rankV])) ⟨rfl, rfl, by simp; omega, fun j hj => by rw [AH.get_set_ne (by omega)]; exact ho j hj⟩)
theorem rs_arr {G : AH} {i : Nat} {c : Cert} {b : Bool} (h : G.get i = some (.cells (rankV c) 0 false 0)) : Sl G (.sl (some (i, 0, 0)) 3 b) 1 (c.rank.map fun x => V.i .i64 x) :=
  .inr ⟨i, 0, 0, 3, b, rankV c, false, 0, rfl, h, Nat.le_refl _, rfl⟩
theorem certCmp_ok (H : AH) (a b : Cert) : ACalls Tryd.prog 8 [.agg a.cells, .agg b.cells] H fun r H' => r = .i .i64 (cmpC a b) ∧ H' = H := by
  refine ACalls.pure (Q := fun r => r = .i .i64 (cmpC a b)) ⟨_, Tryd.func8, rfl, rfl⟩ ?_
  refine ACalls_body Tryd.func8 rfl rfl ?_
  repeat refine AW_seq ?_
  refine AW_reg [2, 3] fun K hK => ?_ -- region 0
  simp [init_eq, V.cells]
  obtain ⟨H1, e1, hp, hp2, hn, ho⟩ := H.boxed2 a.cells b.cells
  rw [e1]
  refine hK _ _ ?_; clear hK K
  refine AW_cut (fun ρ G => ∃ i j, ρ = ⟨14, [(5, .p (some (i, 0, 0))), (6, .p (some (j, 0, 0)))]⟩ ∧ G.get i = some (.cells (rankV a) 0 false 0) ∧ G.get j = some (.cells (rankV b) 0 false 0) ∧ Upd H1 G []) ?_ fun ρ G ⟨i, j, e1, g1, g2, u⟩ => ?_
  · have hla : aload Tryd.prog H1 27 (.p (some (H.next, 0, 0))) = some (.agg a.cells) := by simp [aload, hp, take_cells]
    have hlb : aload Tryd.prog H1 27 (.p (some (H.next + 1, 0, 0))) = some (.agg b.cells) := by simp [aload, hp2, take_cells]
    refine AW_regd [5, 6] pl_8_1 pe_8_1 (by kernel_rfl) (by kernel_rfl) (by decide) fun K hK => ?_
    have hK' : ∀ i j G, G.get i = some (.cells (rankV a) 0 false 0) → G.get j = some (.cells (rankV b) 0 false 0) → H1.next ≤ G.next → (∀ j, j < H1.next → G.get j = H1.get j) → K ⟨14, [(5, .p (some (i, 0, 0))), (6, .p (some (j, 0, 0)))]⟩ G := fun i j G h1 h2 h3 h4 => hK _ _ (rend ⟨_, by simp, i, j, rfl, h1, h2, h3, fun j hj _ => h4 j hj⟩)
    clear hK
    simp [init_eq, pl_8_1, hla, hlb]
    have hc3 : (V.agg [V.i .i64 0, V.i .i64 0, V.i .i64 0]).cells = some [V.i .i64 0, V.i .i64 0, V.i .i64 0] := rfl
    have stA : ∀ (M : AH) (i : Nat) (c : Cert), M.get i = some (.cells [V.i .i64 0, V.i .i64 0, V.i .i64 0] 0 false 0) → astore Tryd.prog M 64 (.p (some (i, 0, 0))) (.agg (rankV c)) = some (M.set i (.cells (rankV c) 0 false 0)) := fun M i c h => by simp [astore, h, V.cells, splice, rankV]
    have lt2 : ∀ n : Nat, n < n + 1 + 1 := fun n => by omega
    repeat' first
      | exact AH.ext.refl _
      | exact AH.ext.new ..
      | (refine ACalls.mono (rank_ok _ a) fun r G ⟨hr, e⟩ => ?_; subst hr e)
      | (refine ACalls.mono (rank_ok _ b) fun r G ⟨hr, e⟩ => ?_; subst hr e)
      | refine And.intro ?_ ?_
      | refine ⟨_, hc3, ?_⟩
      | refine ⟨_, stA _ _ _ (by simp [AH.get_set, AH.get_new]), ?_⟩
      | exact hK' _ _ _ (by simp [AH.get_set, AH.get_new, lt2]) (by simp [AH.get_set, AH.get_new, lt2]) (by simp; omega) (fun j hj => by simp [AH.get_set, AH.get_new, Nat.ne_of_lt hj, show j ≠ _ + 1 from Nat.ne_of_lt (Nat.lt_succ_of_lt hj)])
  subst e1
  have r1 := rs_arr (b := true) g1
  have r2 := rs_arr (b := true) g2
  have s1 : aslice Tryd.prog G 64 (.p (some (i, 0, 0))) none none none = some (.sl (some (i, 0, 0)) 3 true) := by simp [aslice, g1, abound, rankV]
  have s2 : aslice Tryd.prog G 64 (.p (some (j, 0, 0))) none none none = some (.sl (some (j, 0, 0)) 3 true) := by simp [aslice, g2, abound, rankV]
  repeat refine AW_seq ?_
  refine AW_regd [4] pl_8_2 pe_8_2 (by kernel_rfl) (by kernel_rfl) (by decide) fun K hK => ?_
  simp [init_eq, pl_8_2, s1, s2]
  refine ACalls.mono (compareL_ok G r1 r2 rfl (by simp [Cert.rank])) fun r G' ⟨hr, e⟩ => ?_
  subst hr e
  try simp
  refine hK _ _ ?_; clear hK K
  exact AW_ret (end_ret rfl ⟨rfl, rfl, by have := u.1; omega, fun k hk => by rw [u.2 k (by omega) (by simp), ho k hk]⟩)
theorem certMax_ok (H : AH) (a b : Cert) : ACalls Tryd.prog 15 [.agg a.cells, .agg b.cells] H fun r H' => r = .agg (maxC a b).cells ∧ H' = H := by
  refine ACalls.pure (Q := fun r => r = .agg (maxC a b).cells) ⟨_, Tryd.func15, rfl, rfl⟩ ?_
  refine ACalls_body Tryd.func15 rfl rfl ?_
  repeat refine AW_seq ?_
  refine AW_reg [2, 3, 4] fun K hK => ?_ -- region 0
  simp [init_eq, V.cells]
  refine hK _ _ ?_; clear hK K
  obtain ⟨H1, e1, hp, hp2, hp3, hn, ho⟩ := H.boxed3 a.cells b.cells Cert.zero.cells
  show AThen _ _ _ _ (((H.new (O.cells a.cells 0 false 0)).new (O.cells b.cells 0 false 0)).new (O.cells Cert.zero.cells 0 false 0))
  rw [e1]
  have hla : aload Tryd.prog H1 27 (.p (some (H.next, 0, 0))) = some (.agg a.cells) := by simp [aload, hp, take_cells]
  have hlb : aload Tryd.prog H1 27 (.p (some (H.next + 1, 0, 0))) = some (.agg b.cells) := by simp [aload, hp2, take_cells]
  have hst : ∀ c : Cert, astore Tryd.prog H1 27 (.p (some (H.next + 2, 0, 0))) (.agg c.cells) = some (H1.set (H.next + 2) (.cells c.cells 0 false 0)) := fun c => by simp [astore, hp3, V.cells, show splice Cert.zero.cells 0 c.cells = c.cells from rfl]
  have hend : ∀ (c : Cert) (ρ : Env), ρ.get 4 = .p (some (H.next + 2, 0, 0)) → c = maxC a b → AEnd Tryd.prog Tryd.f15 (fun r H' => r = .agg (maxC a b).cells ∧ V.lt H.next r = true ∧ H.next ≤ H'.next ∧ ∀ j, j < H.next → H'.get j = H.get j) .ret ρ (H1.set (H.next + 2) (.cells c.cells 0 false 0)) := fun c ρ h1 h2 =>
    end_ret (ares_cell (v := .agg c.cells) (by rw [h1]; simp [aload, AH.get_set, hn, take_cells])) ⟨by rw [h2], rfl, by simp; omega, fun j hj => by rw [AH.get_set_ne (by omega)]; exact ho j hj⟩
  repeat refine AW_seq ?_
  refine AW_reg [2, 3, 4, 8] fun K hK => ?_ -- region 1
  simp [init_eq, hla, hlb]
  refine ACalls.mono (certCmp_ok H1 a b) fun r G' ⟨hr, e⟩ => ?_ -- hallmoot/cert.Cmp
  subst hr e
  try simp
  refine hK _ _ ?_; clear hK K
  refine AW_cond' rfl rfl (fun hc => ?_) (fun hc => ?_)
  · have g : cmpC a b < 0 := by simpa using hc
    repeat refine AW_seq ?_
    refine AW_reg [4] fun K hK => ?_
    simp [init_eq, hlb, hst]
    refine hK _ _ ?_; clear hK K
    exact AW_ret (hend _ _ rfl (by rw [maxC, if_pos g]))
  · have g : ¬ cmpC a b < 0 := by simpa using hc
    refine AW_skip ?_
    repeat refine AW_seq ?_
    refine AW_reg [4] fun K hK => ?_
    simp [init_eq, hla, hst]
    refine hK _ _ ?_; clear hK K
    exact AW_ret (hend _ _ rfl (by rw [maxC, if_neg g]))
/-! The document's. -/
theorem cmpL3 (x y z x' y' z' : Int) : cmpL [x, y, z] [x', y', z'] = if ¬ x = x' then cmpI x x' else if ¬ y = y' then cmpI y y' else cmpI z z' := by
  have h : ∀ u v : Int, (cmpI u v ≠ 0) = (¬ u = v) := fun u v => propext (not_congr cmpI_zero)
  simp only [cmpL, h]
  by_cases h1 : z = z'
  · have e : cmpI z z' = 0 := cmpI_zero.2 h1
    rw [if_neg (not_not_intro h1), e]
  · rw [if_pos h1]
theorem cmpI_ne {x y : Int} (h : ¬ x = y) : cmpI x y = if x < y then -1 else 1 := by
  unfold cmpI
  by_cases h1 : x < y
  · rw [if_pos h1, if_pos h1]
  · rw [if_neg h1, if_neg h1, if_pos (by omega)]
theorem cls_eq (a b : Cert) : (a.cls = b.cls) ↔ ((a.kind = 2) ↔ (b.kind = 2)) := by
  unfold Cert.cls
  by_cases h1 : a.kind = 2
  · by_cases h2 : b.kind = 2
    · simp [h1, h2]
    · simp [h1, h2]
  · by_cases h2 : b.kind = 2
    · simp [h1, h2]
    · simp [h1, h2]
theorem cls_lt {a b : Cert} (h : ¬ ((a.kind = 2) ↔ (b.kind = 2))) : (a.cls < b.cls) ↔ b.kind = 2 := by
  unfold Cert.cls
  by_cases h1 : a.kind = 2
  · by_cases h2 : b.kind = 2
    · exact absurd (by simp [h1, h2]) h
    · simp [h1, h2]
  · by_cases h2 : b.kind = 2
    · simp [h1, h2]
    · exact absurd (by simp [h1, h2]) h
theorem cmpC_def (a b : Cert) : cmpC a b = if ¬ a.view = b.view then (if a.view < b.view then -1 else 1) else if ¬ ((a.kind = 2) ↔ (b.kind = 2)) then (if b.kind = 2 then -1 else 1) else if ¬ a.round = b.round then (if a.round < b.round then -1 else 1) else 0 := by
  unfold cmpC Cert.rank
  rw [cmpL3]
  by_cases g1 : a.view = b.view
  · rw [if_neg (not_not_intro g1), if_neg (not_not_intro g1)]
    by_cases g2 : (a.kind = 2) ↔ (b.kind = 2)
    · rw [if_neg (not_not_intro ((cls_eq a b).2 g2)), if_neg (not_not_intro g2)]
      by_cases g3 : a.round = b.round
      · rw [if_neg (not_not_intro g3), cmpI_zero.2 g3]
      · rw [if_pos g3, cmpI_ne g3]
    · have e : ¬ a.cls = b.cls := fun k => g2 ((cls_eq a b).1 k)
      rw [if_pos e, if_pos g2, cmpI_ne e]
      by_cases g4 : b.kind = 2
      · rw [if_pos g4, if_pos ((cls_lt g2).2 g4)]
      · rw [if_neg g4, if_neg (fun k => g4 ((cls_lt g2).1 k))]
  · rw [if_pos g1, if_pos g1, cmpI_ne g1]
end Go.Proofs.YtoccjilbfkhmoaaDoor
