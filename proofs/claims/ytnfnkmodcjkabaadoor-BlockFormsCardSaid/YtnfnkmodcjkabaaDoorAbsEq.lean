/-
  Values that are compared cell by cell.
-/
import Derived.Test.YtnfnkmodcjkabaaDoorAbsSim
import Derived.Laws.Concat
set_option linter.unusedVariables false
set_option linter.unusedSimpArgs false
namespace Go.Abs
open Go Go.RowKit

def CK.cfits : CK → Value → Bool
  | .b, .bool _ => true
  | .i k, .int k' _ => k == k'
  | .s, .string _ => true
  | _, _ => false
def cfitsAll : List CK → List Value → Bool
  | [], [] => true
  | k :: ks, v :: vs => k.cfits v && cfitsAll ks vs
  | _, _ => false
def cceq : Value → Value → Bool
  | .bool x, .bool y => x == y
  | .int _ a, .int _ b => a == b
  | .string a, .string b => a.toList == b.toList
  | _, _ => false
def cceqs : List Value → List Value → Bool
  | [], [] => true
  | v :: l, u :: r => cceq v u && cceqs l r
  | _, _ => false

theorem cfitsAll_length : ∀ {ks : List CK} {vs : List Value}, cfitsAll ks vs = true → vs.length = ks.length
  | [], [], _ => rfl
  | _ :: _, _ :: _, h => by
    simp only [cfitsAll, Bool.and_eq_true] at h
    simp [cfitsAll_length h.2]
  | [], _ :: _, h => by simp [cfitsAll] at h
  | _ :: _, [], h => by simp [cfitsAll] at h
theorem cfitsAll_append : ∀ {ks ks' : List CK} {vs : List Value}, cfitsAll (ks ++ ks') vs = true → cfitsAll ks (vs.take ks.length) = true ∧ cfitsAll ks' (vs.drop ks.length) = true
  | [], ks', vs, h => ⟨by simp [cfitsAll], by simpa using h⟩
  | k :: ks, ks', [], h => by simp [cfitsAll] at h
  | k :: ks, ks', v :: vs, h => by
    simp only [List.cons_append, cfitsAll, Bool.and_eq_true] at h
    have ih := cfitsAll_append h.2
    simp only [List.length_cons, List.take_succ_cons, List.drop_succ_cons, cfitsAll, Bool.and_eq_true]
    exact ⟨⟨h.1, ih.1⟩, ih.2⟩
theorem cceqs_append : ∀ (n : Nat) {xs ys : List Value}, xs.length = ys.length → cceqs xs ys = (cceqs (xs.take n) (ys.take n) && cceqs (xs.drop n) (ys.drop n))
  | 0, xs, ys, h => by simp [cceqs]
  | n + 1, [], [], h => by simp [cceqs]
  | n + 1, x :: xs, y :: ys, h => by
    simp only [cceqs, List.take_succ_cons, List.drop_succ_cons, Bool.and_assoc]
    rw [cceqs_append n (by simpa using h)]
  | n + 1, [], _ :: _, h => by simp at h
  | n + 1, _ :: _, [], h => by simp at h

/-- A value of cells: an aggregate, or the one cell. -/
def Vof (a : Bool) (l : List Value) : Value := if a then .agg l.toArray else l.headD undef

section
variable {P : Program}

theorem run_part {t : TypeId} {a : Bool} {n : Nat} (w : World) (cs : Array Value) (off : Nat) (ha : qagg P t = some a) (hn : qsize P t = some n) (h1 : a = false → n = 1) (hl : off + n ≤ cs.size) :
    (part t cs off).run P w = .ok (Vof a ((cs.toList.drop off).take n)) w := by
  unfold part
  cases a with
  | true =>
    simp only [Sem.run_bind, run_isAgg w ha, Result.andThen_ok, if_true, run_sizeOf w hn, Sem.run_pure, Vof]
    congr 2
    apply Array.ext'
    simp [Array.toList_extract, List.extract, Nat.add_sub_cancel_left]
  | false =>
    have := h1 rfl
    subst this
    simp only [Sem.run_bind, run_isAgg w ha, Result.andThen_ok, Bool.false_eq_true, if_false, Vof]
    have hlt : off < cs.size := by omega
    simp [hlt, List.headD, List.take_one, List.head?_drop]

theorem eqFields_run {k : TypeId → Option (List CK)} {d : Nat} (w : World)
    (hk : ∀ t ks, k t = some ks → (∃ a, qagg P t = some a ∧ (a = false → ks.length = 1)) ∧ ∀ a, qagg P t = some a → ∀ xs ys : List Value, cfitsAll ks xs = true → cfitsAll ks ys = true → (Op.equalIn d t (Vof a xs) (Vof a ys)).run P w = .ok (cceqs xs ys) w) :
    ∀ (fs : List Field) (off : Nat) (ks : List CK) (xs ys : Array Value), kindsFs P k off fs = some ks → cfitsAll ks (xs.toList.drop off) = true → cfitsAll ks (ys.toList.drop off) = true →
      (Op.eqFields d xs ys fs).run P w = .ok (cceqs (xs.toList.drop off) (ys.toList.drop off)) w
  | [], off, ks, xs, ys, h, hx, hy => by
    simp only [kindsFs, Option.some.injEq] at h
    subst h
    have h1 := cfitsAll_length hx
    have h2 := cfitsAll_length hy
    rw [List.eq_nil_of_length_eq_zero h1, List.eq_nil_of_length_eq_zero h2]
    simp [Op.eqFields, cceqs]
  | f :: fs, off, ks, xs, ys, h, hx, hy => by
    simp only [kindsFs] at h
    split at h
    · rename_i l hl
      split at h
      · rename_i hc
        obtain ⟨hname, hoff, hsz, hpos⟩ := hc
        cases hr : kindsFs P k (off + l.length) fs with
        | none => simp [hr] at h
        | some ks' =>
          simp only [hr, Option.map_some, Option.some.injEq] at h
          subst h
          obtain ⟨⟨a, ha, h1⟩, heq⟩ := hk f.type l hl
          have hx' := cfitsAll_append hx
          have hy' := cfitsAll_append hy
          have lx := cfitsAll_length hx
          have ly := cfitsAll_length hy
          simp only [List.length_drop, Array.length_toList, List.length_append] at lx ly
          have e := heq a ha _ _ hx'.1 hy'.1
          rw [List.drop_drop] at hx' hy'
          have ih := eqFields_run w hk fs (off + l.length) ks' xs ys hr hx'.2 hy'.2
          simp only [Op.eqFields]
          rw [if_pos hname]
          subst hoff
          simp only [Sem.run_bind, run_part w xs f.offset ha hsz h1 (by omega), run_part w ys f.offset ha hsz h1 (by omega), Result.andThen_ok, e]
          rw [cceqs_append l.length (xs := xs.toList.drop f.offset) (by simp; omega)]
          cases hq : cceqs (List.take l.length (List.drop f.offset xs.toList)) (List.take l.length (List.drop f.offset ys.toList)) with
          | false => simp
          | true =>
            simp only [Bool.not_true, Bool.false_eq_true, if_false, Bool.true_and, List.drop_drop]
            exact ih
      · cases h
    · cases h

theorem kindsOf_run (w : World) : ∀ (d : Nat) (t : TypeId) (ks : List CK), kindsOf P d t = some ks → ∀ D, d ≤ D →
    (∃ a, qagg P t = some a ∧ (a = false → ks.length = 1)) ∧ ∀ a, qagg P t = some a → ∀ xs ys : List Value, cfitsAll ks xs = true → cfitsAll ks ys = true → (Op.equalIn D t (Vof a xs) (Vof a ys)).run P w = .ok (cceqs xs ys) w
  | 0, t, ks, h, D, hD => by simp [kindsOf] at h
  | d + 1, t, ks, h, D, hD => by
    obtain ⟨D, rfl⟩ : ∃ m, D = m + 1 := ⟨D - 1, by omega⟩
    simp only [kindsOf] at h
    split at h
    · rename_i hu
      cases h
      have ha : qagg P t = some false := by simp [qagg, hu, descAgg]
      refine ⟨⟨false, ha, fun _ => rfl⟩, fun a ha' xs ys hx hy => ?_⟩
      rw [ha] at ha'; cases ha'
      have lx := cfitsAll_length hx
      have ly := cfitsAll_length hy
      obtain ⟨x, rfl⟩ := List.length_eq_one_iff.1 lx
      obtain ⟨y, rfl⟩ := List.length_eq_one_iff.1 ly
      cases x <;> simp [cfitsAll, CK.cfits] at hx
      cases y <;> simp [cfitsAll, CK.cfits] at hy
      simp [Vof, cceqs, cceq, run_equalIn_bool' w D t _ _ hu]
    · rename_i k hu
      cases h
      have ha : qagg P t = some false := by simp [qagg, hu, descAgg]
      refine ⟨⟨false, ha, fun _ => rfl⟩, fun a ha' xs ys hx hy => ?_⟩
      rw [ha] at ha'; cases ha'
      have lx := cfitsAll_length hx
      have ly := cfitsAll_length hy
      obtain ⟨x, rfl⟩ := List.length_eq_one_iff.1 lx
      obtain ⟨y, rfl⟩ := List.length_eq_one_iff.1 ly
      cases x <;> simp [cfitsAll, CK.cfits] at hx
      cases y <;> simp [cfitsAll, CK.cfits] at hy
      subst hx hy
      simp [Vof, cceqs, cceq, run_equalIn_int w D t _ _ _ _ hu]
    · rename_i hu
      cases h
      have ha : qagg P t = some false := by simp [qagg, hu, descAgg]
      refine ⟨⟨false, ha, fun _ => rfl⟩, fun a ha' xs ys hx hy => ?_⟩
      rw [ha] at ha'; cases ha'
      have lx := cfitsAll_length hx
      have ly := cfitsAll_length hy
      obtain ⟨x, rfl⟩ := List.length_eq_one_iff.1 lx
      obtain ⟨y, rfl⟩ := List.length_eq_one_iff.1 ly
      cases x <;> simp [cfitsAll, CK.cfits] at hx
      cases y <;> simp [cfitsAll, CK.cfits] at hy
      simp [Vof, cceqs, cceq, run_equalIn_string w D t _ _ hu]
    · rename_i fs hu
      split at h
      · cases h
      · rename_i hst
        have ha : qagg P t = some true := by simp [qagg, hu, descAgg]
        refine ⟨⟨true, ha, fun e => by cases e⟩, fun a ha' xs ys hx hy => ?_⟩
        rw [ha] at ha'; cases ha'
        have hfo : P.fieldsOf t = fs := by simp [Program.fieldsOf, hu]
        simp only [Vof, if_true]
        rw [run_equalIn_struct w D t _ _ (by rw [hfo]; exact hu) (by simpa using hst), hfo]
        have := eqFields_run (k := kindsOf P d) (d := D) w (fun t' ks' h' => kindsOf_run w d t' ks' h' D (by omega)) fs.toList 0 ks xs.toArray ys.toArray h (by simpa using hx) (by simpa using hy)
        simpa using this
    · cases h

end

theorem fits_VRs {S : Loc} : ∀ {ks : List CK} {vs : List V} {cs : List Value}, fitsAll ks vs = true → VRs S vs cs → cfitsAll ks cs = true
  | [], [], [], _, _ => rfl
  | k :: ks, v :: vs, c :: cs, h, .cons _ _ _ _ hv ht => by
    simp only [fitsAll, Bool.and_eq_true] at h
    simp only [cfitsAll, Bool.and_eq_true]
    refine ⟨?_, fits_VRs h.2 ht⟩
    have h1 := h.1
    cases k <;> cases v <;> simp [CK.fits] at h1 <;> cases hv <;> simp [CK.cfits, h1]
  | [], _ :: _, _, h, _ => by simp [fitsAll] at h
  | _ :: _, [], _, h, _ => by simp [fitsAll] at h
theorem toList_data (b : ByteArray) : b.toList = b.data.toList := ByteArray.toList_eq b
theorem ceq_VR {S : Loc} {v u : V} {c d : Value} {r : Bool} (h : ceq v u = some r) (hv : VR S v c) (hu : VR S u d) : cceq c d = r := by
  cases v <;> cases u <;> simp [ceq] at h <;> cases hv <;> cases hu
  · simp [cceq, h]
  · simp [cceq, h.2]
  · rename_i a b c' hc d' hd
    subst hc hd
    simp only [cceq, toList_data, h]
theorem ceqs_VRs {S : Loc} : ∀ {l r : List V} {l' r' : List Value} {b : Bool}, ceqs l r = some b → VRs S l l' → VRs S r r' → cceqs l' r' = b
  | [], [], [], [], b, h, _, _ => by simp [ceqs] at h; simp [cceqs, h]
  | v :: l, u :: r, c :: l', d :: r', b, h, .cons _ _ _ _ hv ht, .cons _ _ _ _ hu hs => by
    simp only [ceqs] at h
    split at h
    · rename_i a c' h1 h2
      cases h
      simp [cceqs, ceq_VR h1 hv hu, ceqs_VRs h2 ht hs]
    · cases h
  | [], _ :: _, _, _, b, h, _, _ => by simp [ceqs] at h
  | _ :: _, [], _, _, b, h, _, _ => by simp [ceqs] at h

section
variable {P : Program} {S : Loc} {w : World}
theorem eq_of {t : TypeId} {x y : Value} {r : Bool} (h : ∀ d, (Op.equalIn (d + 1) t x y).run P w = .ok r w) : (Op.equal t x y).run P w = .ok r w := h 9999
theorem sim_aeq {t : TypeId} {x y : V} {cx cy : Value} {r : Bool} (hx : VR S x cx) (hy : VR S y cy) (h : aeq P t x y = some r) :
    (Op.equal t cx cy).run P w = .ok r w ∧ ∀ op ox oy, (eqGuard op t ox oy cx cy).run P w = .ok () w := by
  unfold aeq at h
  split at h
  · rename_i xs ys
    cases hx with
    | agg _ lx hvx _ =>
      cases hy with
      | agg _ ly hvy _ =>
        split at h
        · rename_i ks hq
          split at h
          · rename_i hf
            unfold qeq at hq
            split at hq
            · rename_i hg
              obtain ⟨_, hrun⟩ := kindsOf_run (P := P) w 12 t ks hq Op.maxDepth (by decide)
              have e := hrun true hg.2 lx ly (fits_VRs hf.1 hvx) (fits_VRs hf.2 hvy)
              refine ⟨?_, fun op ox oy => run_eqGuard_agg w op t ox oy _ _ hg.1⟩
              rw [← ceqs_VRs h hvx hvy]
              simpa [Op.equal, Vof] using e
            · cases hq
          · cases h
        · cases h
  · cases hx; cases hy
    split at h <;> cases h
    rename_i hu
    exact ⟨eq_of fun d => run_equalIn_bool' w d t _ _ hu, fun op ox oy => by cases op <;> simp [eqGuard]⟩
  · -- a nil pointer
    cases hx
    split at h <;> cases h
    rename_i y' e hu
    cases hy
    · exact ⟨eq_of fun d => by simp [Op.equalIn, run_underlying hu], fun op ox oy => by cases op <;> simp [eqGuard]⟩
    · exact ⟨eq_of fun d => by simp [Op.equalIn, run_underlying hu], fun op ox oy => by cases op <;> simp [eqGuard]⟩
  · cases hy
    split at h <;> cases h
    rename_i hne e hu
    cases hx
    · exfalso; simp_all
    · exact ⟨eq_of fun d => by simp [Op.equalIn, run_underlying hu], fun op ox oy => by cases op <;> simp [eqGuard]⟩
  · cases hx
    split at h <;> cases h
    rename_i hu
    cases hy
    · exact ⟨eq_of fun d => by simp [Op.equalIn, run_underlying hu], fun op ox oy => by cases op <;> simp [eqGuard]⟩
    · exact ⟨eq_of fun d => by simp [Op.equalIn, run_underlying hu], fun op ox oy => by cases op <;> simp [eqGuard]⟩
  · cases hy
    split at h <;> cases h
    rename_i hne e hu
    cases hx
    · exfalso; simp_all
    · exact ⟨eq_of fun d => by simp [Op.equalIn, run_underlying hu], fun op ox oy => by cases op <;> simp [eqGuard]⟩
  · cases hx; cases hy
    split at h <;> cases h
    rename_i hu
    exact ⟨eq_of fun d => by simp [Op.equalIn, run_underlying hu], fun op ox oy => by cases op <;> simp [eqGuard]⟩
  · cases hx; cases hy
    split at h <;> cases h
    rename_i hu
    exact ⟨eq_of fun d => by simp [Op.equalIn, run_underlying hu], fun op ox oy => by cases op <;> simp [eqGuard]⟩
  · cases hx
    split at h <;> cases h
    rename_i hu
    cases hy
    · exact ⟨eq_of fun d => by simp [Op.equalIn, run_underlying hu], fun op ox oy => by cases op <;> simp [eqGuard]⟩
    · exact ⟨eq_of fun d => by simp [Op.equalIn, run_underlying hu], fun op ox oy => by cases op <;> simp [eqGuard]⟩
  · cases hy
    split at h <;> cases h
    rename_i hne e hu
    cases hx
    · exfalso; simp_all
    · exact ⟨eq_of fun d => by simp [Op.equalIn, run_underlying hu], fun op ox oy => by cases op <;> simp [eqGuard]⟩
  · cases h

/-- Binary operations. -/
theorem sim_bin {op : BinOp} {t : TypeId} {x y v : V} {cx cy : Value} (hx : VR S x cx) (hy : VR S y cy) (h : abin P op t x y = some v) (ox oy : Operand) :
    ∃ cv, (∀ w, (do eqGuard op t ox oy cx cy; binOp op t cx cy : Sem Value).run P w = .ok cv w) ∧ VR S v cv := by
  unfold abin at h
  split at h
  · rename_i k a k' b
    cases hx; cases hy
    have hg : ∀ w, (eqGuard op t ox oy (.int k a) (.int k' b)).run P w = .ok () w := by intro w; cases op <;> simp [eqGuard]
    simp only [Sem.run_bind, hg, Result.andThen_ok]
    cases op
    all_goals simp only [] at h
    case shl =>
      simp only [ashift] at h; split at h <;> cases h
      rename_i hb; exact ⟨_, fun w => by simp only [binOp, Op.shift, hb, if_false]; rfl, .i _ _⟩
    case shr =>
      simp only [ashift] at h; split at h <;> cases h
      rename_i hb; exact ⟨_, fun w => by simp only [binOp, Op.shift, hb, if_false]; rfl, .i _ _⟩
    all_goals
      split at h
      · rename_i hk
        subst hk
        simp only [aint] at h
        first
          | (cases h; exact ⟨_, fun w => by simp only [binOp, ne_eq, not_true_eq_false, if_false, Op.intArith, Op.intBits, Op.intCmp]; rfl, by first | exact .i _ _ | exact .b _⟩)
          | (split at h
             · cases h
             · rename_i hb
               cases h
               exact ⟨_, fun w => by simp only [binOp, ne_eq, not_true_eq_false, if_false, Op.intDiv, hb]; rfl, .i _ _⟩)
      · cases h
  · rename_i a b
    cases hx with
    | s _ ca hca =>
      cases hy with
      | s _ cb hcb =>
        subst hca hcb
        have hg : ∀ w, (eqGuard op t ox oy (.string ca) (.string cb)).run P w = .ok () w := by intro w; cases op <;> simp [eqGuard]
        simp only [Sem.run_bind, hg, Result.andThen_ok]
        cases op <;> simp only [astr] at h
        case add =>
          split at h <;> cases h
          rename_i hl
          have hl' : ca.size + cb.size ≤ 9223372036854775807 := by simpa using hl
          exact ⟨_, fun w => by simp only [binOp_string_add]; exact run_string_add_sum w ca cb hl', .s _ _ (by simp)⟩
        all_goals first
          | (cases h; exact ⟨_, fun w => by simp only [binOp, Op.stringOp, toList_data]; rfl, .b _⟩)
          | cases h
  · rename_i h1 h2
    cases op <;> simp only [Option.map_eq_some_iff] at h <;> try cases h
    all_goals
      rename_i r hr
      obtain ⟨hr, rfl⟩ := hr
      have e := fun w => (sim_aeq (w := w) hx hy hr).1
      have hg := fun w => (sim_aeq (w := w) hx hy hr).2
      refine ⟨.bool _, ?_, .b _⟩
      intro w
      simp only [Sem.run_bind, hg, Result.andThen_ok]
      unfold binOp
      split <;> first
        | (simp [e]; done)
        | (exfalso; cases hx; cases hy; first | exact h1 _ _ _ _ rfl rfl | exact h2 _ _ rfl rfl)
        | (exfalso; cases hx <;> cases hy <;> simp_all [aeq])
        | skip
end
end Go.Abs
