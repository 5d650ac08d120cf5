/-
  slices.SortFunc of names and of places: the shelf's contracts over abstract states, and the empty slices.
-/
import Derived.Test.YtikonppmjkipoaaDoorState2
import Derived.Test.YtikonppmjkipoaaDoorAbsC
set_option linter.unusedVariables false
set_option linter.unusedSimpArgs false
namespace Go.Proofs.YtikonppmjkipoaaDoor
open Go Go.Abs Go.Proofs
set_option maxRecDepth 100000
def lays6s_ren : Go.Shelf.Ren := ⟨fun | 6 => 51 | 15 => 68 | 14 => 67 | 28 => 83 | 29 => 84 | 20 => 75 | 21 => 76 | 22 => 77 | 23 => 78 | 24 => 79 | 25 => 80 | 26 => 81 | 27 => 82 | 46 => 95 | 47 => 96 | 48 => 97 | 49 => 98 | 50 => 99 | 57 => 103 | n => n, fun | 22 => 72 | 24 => 9 | 25 => 77 | 3 => 3 | 39 => 124 | 0 => 0 | 53 => 144 | 55 => 146 | 4 => 4 | 46 => 137 | 45 => 136 | 50 => 141 | 5 => 5 | 9 => 9 | 66 => 153 | 70 => 157 | 76 => 165 | 77 => 166 | n => n, fun | n => n⟩
theorem lays6s : Go.Proofs.SlLaysF.n6 Tryd.prog lays6s_ren := {
  mixed := by kernel_rfl
  f6 := ⟨"slices.SortFunc[[]string,string]", by decide, Tryd.func51.trans (congrArg some (by kernel_rfl))⟩
  f14 := ⟨"slices.pdqsortCmpFunc[string]", by decide, Tryd.func67.trans (congrArg some (by kernel_rfl))⟩
  f15 := Tryd.func68.trans (congrArg some (by kernel_rfl))
  f20 := ⟨"slices.insertionSortCmpFunc[string]", by decide, Tryd.func75.trans (congrArg some (by kernel_rfl))⟩
  f21 := ⟨"slices.heapSortCmpFunc[string]", by decide, Tryd.func76.trans (congrArg some (by kernel_rfl))⟩
  f22 := ⟨"slices.breakPatternsCmpFunc[string]", by decide, Tryd.func77.trans (congrArg some (by kernel_rfl))⟩
  f23 := ⟨"slices.choosePivotCmpFunc[string]", by decide, Tryd.func78.trans (congrArg some (by kernel_rfl))⟩
  f24 := ⟨"slices.reverseRangeCmpFunc[string]", by decide, Tryd.func79.trans (congrArg some (by kernel_rfl))⟩
  f25 := ⟨"slices.partialInsertionSortCmpFunc[string]", by decide, Tryd.func80.trans (congrArg some (by kernel_rfl))⟩
  f26 := ⟨"slices.partitionEqualCmpFunc[string]", by decide, Tryd.func81.trans (congrArg some (by kernel_rfl))⟩
  f27 := ⟨"slices.partitionCmpFunc[string]", by decide, Tryd.func82.trans (congrArg some (by kernel_rfl))⟩
  f28 := Tryd.func83.trans (congrArg some (by kernel_rfl))
  f29 := Tryd.func84.trans (congrArg some (by kernel_rfl))
  f46 := ⟨"slices.siftDownCmpFunc[string]", by decide, Tryd.func95.trans (congrArg some (by kernel_rfl))⟩
  f47 := Tryd.func96.trans (congrArg some (by kernel_rfl))
  f48 := Tryd.func97.trans (congrArg some (by kernel_rfl))
  f49 := ⟨"slices.medianAdjacentCmpFunc[string]", by decide, Tryd.func98.trans (congrArg some (by kernel_rfl))⟩
  f50 := ⟨"slices.medianCmpFunc[string]", by decide, Tryd.func99.trans (congrArg some (by kernel_rfl))⟩
  f57 := ⟨"slices.order2CmpFunc[string]", by decide, Tryd.func103.trans (congrArg some (by kernel_rfl))⟩
  t0 := Tryd.underlying0
  a0 := Tryd.isAgg0
  z0 := Tryd.sizeOf0
  v0 := Tryd.zeroValue0
  t3 := Tryd.underlying3
  a3 := Tryd.isAgg3
  z3 := Tryd.sizeOf3
  v3 := Tryd.zeroValue3
  t4 := Tryd.underlying4
  a4 := Tryd.isAgg4
  z4 := Tryd.sizeOf4
  v4 := Tryd.zeroValue4
  t5 := Tryd.underlying5
  a5 := Tryd.isAgg5
  z5 := Tryd.sizeOf5
  v5 := Tryd.zeroValue5
  t9 := Tryd.underlying9
  a9 := Tryd.isAgg9
  z9 := Tryd.sizeOf9
  v9 := Tryd.zeroValue9
  t22 := Tryd.underlying72
  a22 := Tryd.isAgg72
  z22 := Tryd.sizeOf72
  v22 := Tryd.zeroValue72
  a24 := Tryd.isAgg9
  z24 := Tryd.sizeOf9
  t25 := Tryd.underlying77
  a25 := Tryd.isAgg77
  z25 := Tryd.sizeOf77
  v25 := Tryd.zeroValue77
  t39 := Tryd.underlying124
  a39 := Tryd.isAgg124
  z39 := Tryd.sizeOf124
  v39 := Tryd.zeroValue124
  t45 := Tryd.underlying136
  a45 := Tryd.isAgg136
  z45 := Tryd.sizeOf136
  v45 := Tryd.zeroValue136
  t46 := Tryd.underlying137
  a46 := Tryd.isAgg137
  z46 := Tryd.sizeOf137
  v46 := Tryd.zeroValue137
  t50 := Tryd.underlying141
  a50 := Tryd.isAgg141
  z50 := Tryd.sizeOf141
  v50 := Tryd.zeroValue141
  t53 := Tryd.underlying144
  a53 := Tryd.isAgg144
  z53 := Tryd.sizeOf144
  v53 := Tryd.zeroValue144
  t55 := Tryd.underlying146
  a55 := Tryd.isAgg146
  z55 := Tryd.sizeOf146
  v55 := Tryd.zeroValue146
  t66 := Tryd.underlying153
  a66 := Tryd.isAgg153
  z66 := Tryd.sizeOf153
  v66 := Tryd.zeroValue153
  t70 := Tryd.underlying157
  a70 := Tryd.isAgg157
  z70 := Tryd.sizeOf157
  v70 := Tryd.zeroValue157
  t76 := Tryd.underlying165
  a76 := Tryd.isAgg165
  z76 := Tryd.sizeOf165
  v76 := Tryd.zeroValue165
  t77 := Tryd.underlying166
  a77 := Tryd.isAgg166
  z77 := Tryd.sizeOf166
  v77 := Tryd.zeroValue166 }


def lays6p_ren : Go.Shelf.Ren := ⟨fun | 6 => 56 | 15 => 68 | 14 => 72 | 28 => 83 | 29 => 84 | 20 => 85 | 21 => 86 | 22 => 87 | 23 => 88 | 24 => 89 | 25 => 90 | 26 => 91 | 27 => 92 | 46 => 100 | 47 => 96 | 48 => 97 | 49 => 101 | 50 => 102 | 57 => 104 | n => n, fun | 22 => 84 | 24 => 65 | 25 => 83 | 3 => 3 | 39 => 124 | 0 => 0 | 53 => 144 | 55 => 146 | 4 => 4 | 46 => 137 | 45 => 136 | 50 => 141 | 5 => 5 | 9 => 9 | 66 => 153 | 70 => 157 | 76 => 165 | 77 => 166 | n => n, fun | n => n⟩
theorem lays6p : Go.Proofs.SlLaysF0.n6 Tryd.prog lays6p_ren := {
  mixed := by kernel_rfl
  f6 := ⟨"slices.SortFunc[[]hallmoot/state.place,hallmoot/state.place]", by decide, Tryd.func56.trans (congrArg some (by kernel_rfl))⟩
  f14 := ⟨"slices.pdqsortCmpFunc[hallmoot/state.place]", by decide, Tryd.func72.trans (congrArg some (by kernel_rfl))⟩
  f15 := Tryd.func68.trans (congrArg some (by kernel_rfl))
  f20 := ⟨"slices.insertionSortCmpFunc[hallmoot/state.place]", by decide, Tryd.func85.trans (congrArg some (by kernel_rfl))⟩
  f21 := ⟨"slices.heapSortCmpFunc[hallmoot/state.place]", by decide, Tryd.func86.trans (congrArg some (by kernel_rfl))⟩
  f22 := ⟨"slices.breakPatternsCmpFunc[hallmoot/state.place]", by decide, Tryd.func87.trans (congrArg some (by kernel_rfl))⟩
  f23 := ⟨"slices.choosePivotCmpFunc[hallmoot/state.place]", by decide, Tryd.func88.trans (congrArg some (by kernel_rfl))⟩
  f24 := ⟨"slices.reverseRangeCmpFunc[hallmoot/state.place]", by decide, Tryd.func89.trans (congrArg some (by kernel_rfl))⟩
  f25 := ⟨"slices.partialInsertionSortCmpFunc[hallmoot/state.place]", by decide, Tryd.func90.trans (congrArg some (by kernel_rfl))⟩
  f26 := ⟨"slices.partitionEqualCmpFunc[hallmoot/state.place]", by decide, Tryd.func91.trans (congrArg some (by kernel_rfl))⟩
  f27 := ⟨"slices.partitionCmpFunc[hallmoot/state.place]", by decide, Tryd.func92.trans (congrArg some (by kernel_rfl))⟩
  f28 := Tryd.func83.trans (congrArg some (by kernel_rfl))
  f29 := Tryd.func84.trans (congrArg some (by kernel_rfl))
  f46 := ⟨"slices.siftDownCmpFunc[hallmoot/state.place]", by decide, Tryd.func100.trans (congrArg some (by kernel_rfl))⟩
  f47 := Tryd.func96.trans (congrArg some (by kernel_rfl))
  f48 := Tryd.func97.trans (congrArg some (by kernel_rfl))
  f49 := ⟨"slices.medianAdjacentCmpFunc[hallmoot/state.place]", by decide, Tryd.func101.trans (congrArg some (by kernel_rfl))⟩
  f50 := ⟨"slices.medianCmpFunc[hallmoot/state.place]", by decide, Tryd.func102.trans (congrArg some (by kernel_rfl))⟩
  f57 := ⟨"slices.order2CmpFunc[hallmoot/state.place]", by decide, Tryd.func104.trans (congrArg some (by kernel_rfl))⟩
  t0 := Tryd.underlying0
  a0 := Tryd.isAgg0
  z0 := Tryd.sizeOf0
  v0 := Tryd.zeroValue0
  t3 := Tryd.underlying3
  a3 := Tryd.isAgg3
  z3 := Tryd.sizeOf3
  v3 := Tryd.zeroValue3
  t4 := Tryd.underlying4
  a4 := Tryd.isAgg4
  z4 := Tryd.sizeOf4
  v4 := Tryd.zeroValue4
  t5 := Tryd.underlying5
  a5 := Tryd.isAgg5
  z5 := Tryd.sizeOf5
  v5 := Tryd.zeroValue5
  t9 := Tryd.underlying9
  a9 := Tryd.isAgg9
  z9 := Tryd.sizeOf9
  v9 := Tryd.zeroValue9
  t22 := Tryd.underlying84
  a22 := Tryd.isAgg84
  z22 := Tryd.sizeOf84
  v22 := Tryd.zeroValue84
  t25 := Tryd.underlying83
  a25 := Tryd.isAgg83
  z25 := Tryd.sizeOf83
  v25 := Tryd.zeroValue83
  t39 := Tryd.underlying124
  a39 := Tryd.isAgg124
  z39 := Tryd.sizeOf124
  v39 := Tryd.zeroValue124
  t45 := Tryd.underlying136
  a45 := Tryd.isAgg136
  z45 := Tryd.sizeOf136
  v45 := Tryd.zeroValue136
  t46 := Tryd.underlying137
  a46 := Tryd.isAgg137
  z46 := Tryd.sizeOf137
  v46 := Tryd.zeroValue137
  t50 := Tryd.underlying141
  a50 := Tryd.isAgg141
  z50 := Tryd.sizeOf141
  v50 := Tryd.zeroValue141
  t53 := Tryd.underlying144
  a53 := Tryd.isAgg144
  z53 := Tryd.sizeOf144
  v53 := Tryd.zeroValue144
  t55 := Tryd.underlying146
  a55 := Tryd.isAgg146
  z55 := Tryd.sizeOf146
  v55 := Tryd.zeroValue146
  t66 := Tryd.underlying153
  a66 := Tryd.isAgg153
  z66 := Tryd.sizeOf153
  v66 := Tryd.zeroValue153
  t70 := Tryd.underlying157
  a70 := Tryd.isAgg157
  z70 := Tryd.sizeOf157
  v70 := Tryd.zeroValue157
  t76 := Tryd.underlying165
  a76 := Tryd.isAgg165
  z76 := Tryd.sizeOf165
  v76 := Tryd.zeroValue165
  t77 := Tryd.underlying166
  a77 := Tryd.isAgg166
  z77 := Tryd.sizeOf166
  v77 := Tryd.zeroValue166 }


def isNoth (v : V) : Bool := match v with | .tup [] => true | _ => false
theorem isNoth_eq {v : V} (h : isNoth v = true) : v = .tup [] := by
  unfold isNoth at h; split at h
  · rfl
  · cases h
theorem Dims.self : ∀ {l : List V}, (∀ v ∈ l, Dim v v) → Dims l l
  | [], _ => Dims.nil
  | v :: l, h => Dims.cons (h v (by simp)) (Dims.self fun x hx => h x (by simp [hx]))
theorem Dim.slnil (c : Bool) : Dim (.sl none 0 c) (.sl none 0 c) := fun S c h => by cases h; exact .slnil _
theorem Dim.fn (f : Fn) : Dim (.fn f [] []) (.fn f [] []) := fun S c h => by
  cases h with
  | fn _ _ _ f' c' k1 k2 => cases k1; cases k2; exact .fn _ _ _ _ _ .nil .nil
theorem nil1_run : runCall Tryd.prog planTab 5000 51 [.sl none 0 false, .fn (.func 29) [] []] AH.none (fun v _ => isNoth v) = true := by kernel_rfl
theorem nilK_run : runCall Tryd.prog planTab 5000 56 [.sl none 0 false, .fn (.func 32) [] []] AH.none (fun v _ => isNoth v) = true := by kernel_rfl
abbrev Nm := { k : List UInt8 // k.length ≤ 1000000000 }
instance : Inhabited Nm := ⟨⟨[], by decide⟩⟩
def nmV (k : Nm) : V := .s k.1
def nmC (k : Nm) : Value := .string ⟨k.1.toArray⟩
theorem nm_list : ∀ {ks : List (List UInt8)}, (∀ k ∈ ks, k.length ≤ 1000000000) → ∃ xs : List Nm, xs.map (·.1) = ks
  | [], _ => ⟨[], rfl⟩
  | k :: l, h => by
    obtain ⟨xs, e⟩ := nm_list (ks := l) fun x hx => h x (by simp [hx])
    exact ⟨⟨k, h k (by simp)⟩ :: xs, by simp [e]⟩
theorem nm_rel (S : Go.Abs.Loc) (x : Nm) : VR S (nmV x) (nmC x) := .s _ _ rfl
theorem nm_det (S : Go.Abs.Loc) (x : Nm) (c : Value) (h : VR S (nmV x) c) : c = nmC x := by
  cases h with
  | s l c h =>
    unfold nmC
    congr 1
    cases c with | mk d => cases d with | mk l => simp at h; subst h; rfl
def nmCf (x y : Nm) : Int := ordI nameLt x.1 y.1
theorem ordI_neg {α : Type} [DecidableEq α] {lt : α → α → Bool} (x y : α) : decide (ordI lt x y < 0) = lt x y := by
  unfold ordI
  cases h : lt x y
  · simp
    split <;> simp
  · simp
theorem nm_ltOf : Go.Proofs.ltOf nmCf = fun x y : Nm => nameLt x.1 y.1 := by
  funext x y
  exact ordI_neg ..
theorem nm_swo : Go.Sort.SWO (Go.Proofs.ltOf nmCf) := by
  rw [nm_ltOf]
  exact ⟨fun x => nameLt_sto.swo.irrefl _, fun x y z h1 h2 => nameLt_sto.swo.trans _ _ _ h1 h2, fun x y z h1 h2 => nameLt_sto.swo.ntrans _ _ _ h1 h2⟩
theorem order_tight (x y : Nm) : @ACalls Tryd.prog (Go.Abs.tight Tryd.prog) 29 [nmV x, nmV y] AH.none (fun r _ => r = .i .i64 (nmCf x y)) :=
  @ACalls.mono _ (Go.Abs.tight Tryd.prog) _ _ _ _ _ (@order_ok (Go.Abs.tight Tryd.prog) AH.none x.1 y.1 x.2 y.2) fun r H' h => h.1
def strK (k : List UInt8) : List V := [.s k]
theorem strK_flat (ks : List (List UInt8)) : (ks.map strK).flatten = ks.map V.s := by
  induction ks with
  | nil => rfl
  | cons k l ih => simp only [List.map_cons, List.flatten_cons, ih]; rfl
theorem tup_plain (S S' : Go.Abs.Loc) (c : Value) (h : VR S (.tup []) c) : VR S' (.tup []) c := by
  cases h with
  | tup _ l' h => cases h; exact .tup _ _ .nil
theorem sort_names (H : AH) {v : V} {ks : List (List UInt8)} {F : List Nat} (h : Own H v 1 (ks.map strK).flatten F) (hnil : ks = [] → v = .sl none 0 false) (hk : ∀ k ∈ ks, k.length ≤ 1000000000) (hl : ks.length ≤ 1000000000) :
    ACalls Tryd.prog 51 [v, .fn (.func 29) [] []] H fun r H' => r = .tup [] ∧ ∃ ys : List (List UInt8), ys.Perm ks ∧ (ys.Pairwise fun a b => nameLt b a = false) ∧ Own H' v 1 (ys.map strK).flatten F ∧ Upd H H' F := by
  by_cases e : ks = []
  · have := hnil e
    subst e this
    refine (ACalls.closedV tup_plain (Dims.cons (Dim.slnil _) (Dims.cons (Dim.fn _) Dims.nil)) ((runCall_sound nil1_run).mono fun r _ h => isNoth_eq h) H).mono fun r H' ⟨hr, e⟩ => ?_
    subst hr e
    exact ⟨rfl, [], .nil, .nil, h, Upd.refl ..⟩
  obtain ⟨xs, hxs⟩ := nm_list hk
  have hxl : xs.length = ks.length := by rw [← hxs]; simp
  have hcs : (ks.map strK).flatten = xs.map nmV := by rw [strK_flat, ← hxs, List.map_map]; rfl
  have hkp : 0 < ks.length := List.length_pos_iff.2 e
  rw [hcs] at h
  rcases h with ⟨c, h1, h2, h3⟩ | ⟨id, g, len, h1, h2, h3, h4⟩
  · have := congrArg List.length h2
    simp at this
    exact absurd (by rw [← hxs, this]; rfl) e
  · subst h1 h4
    have hlen : len = xs.length := by simp at h3; omega
    subst hlen
    refine ACalls.mono (sort1_call (ρ := lays6s_ren) lays6s ⟨_, Tryd.func51, rfl, rfl⟩ (enc := nmC) nm_rel nm_det (fun _ => rfl) nmCf nm_swo ⟨_, Tryd.func29, rfl, rfl⟩ order_tight H h2 (by omega) (by omega)) fun r H' ⟨hr, ys, hp, hs, e⟩ => ?_
    subst hr e
    refine ⟨rfl, ys.map (·.1), by rw [← hxs]; exact hp.map _, ?_, .inr ⟨id, g, xs.length, rfl, ?_, ?_, rfl⟩, Upd.set _ _ _ (by simp)⟩
    · rw [List.pairwise_map]
      refine hs.imp fun hab => ?_
      rw [nm_ltOf] at hab
      exact hab
    · rw [strK_flat, List.map_map]
      exact AH.get_set_same (AH.get_lt h2)
    · rw [strK_flat]; simp [hp.length_eq]
abbrev Pl := { p : Plc // p.1.length ≤ 1000000000 ∧ p.2.length ≤ 1000000000 }
instance : Inhabited Pl := ⟨⟨([], []), by decide⟩⟩
def plV (k : Pl) : List V := Plc.cells k.1
def plC (k : Pl) : List Value := [.string ⟨k.1.1.toArray⟩, .string ⟨k.1.2.toArray⟩]
theorem pl_list : ∀ {ks : List Plc}, (∀ k ∈ ks, k.1.length ≤ 1000000000 ∧ k.2.length ≤ 1000000000) → ∃ xs : List Pl, xs.map (·.1) = ks
  | [], _ => ⟨[], rfl⟩
  | k :: l, h => by
    obtain ⟨xs, e⟩ := pl_list (ks := l) fun x hx => h x (by simp [hx])
    exact ⟨⟨k, h k (by simp)⟩ :: xs, by simp [e]⟩
theorem pl_rel (S : Go.Abs.Loc) (x : Pl) : VRs S (plV x) (plC x) := .cons _ _ _ _ (.s _ _ rfl) (.cons _ _ _ _ (.s _ _ rfl) .nil)
theorem s_det {S : Go.Abs.Loc} {x : List UInt8} {c : Value} (h : VR S (.s x) c) : c = .string ⟨x.toArray⟩ := by
  cases h with
  | s l c h =>
    congr 1
    cases c with | mk d => cases d with | mk l => simp at h; subst h; rfl
theorem pl_det (S : Go.Abs.Loc) (x : Pl) (c : List Value) (h : VRs S (plV x) c) : c = plC x := by
  cases h with
  | cons _ c1 _ _ h1 ht =>
    cases ht with
    | cons _ c2 _ _ h2 ht =>
      cases ht
      rw [s_det h1, s_det h2]; rfl
def plCf (x y : Pl) : Int := ordI placeLt x.1 y.1
theorem pl_ltOf : Go.Proofs.ltOf plCf = fun x y : Pl => placeLt x.1 y.1 := by
  funext x y
  exact ordI_neg ..
theorem pl_swo : Go.Sort.SWO (Go.Proofs.ltOf plCf) := by
  rw [pl_ltOf]
  exact ⟨fun x => placeLt_sto.swo.irrefl _, fun x y z h1 h2 => placeLt_sto.swo.trans _ _ _ h1 h2, fun x y z h1 h2 => placeLt_sto.swo.ntrans _ _ _ h1 h2⟩
theorem byName_tight (x y : Pl) : @ACalls Tryd.prog (Go.Abs.tight Tryd.prog) 32 [.agg (plV x), .agg (plV y)] AH.none (fun r _ => r = .i .i64 (plCf x y)) :=
  @ACalls.mono _ (Go.Abs.tight Tryd.prog) _ _ _ _ _ (@byName_ok (Go.Abs.tight Tryd.prog) AH.none x.1 y.1 x.2 y.2) fun r H' h => h.1
theorem sort_places (H : AH) {v : V} {ks : List Plc} {F : List Nat} (h : Own H v 2 (ks.map Plc.cells).flatten F) (hnil : ks = [] → v = .sl none 0 false) (hk : ∀ k ∈ ks, k.1.length ≤ 1000000000 ∧ k.2.length ≤ 1000000000) (hl : ks.length ≤ 1000000000) :
    ACalls Tryd.prog 56 [v, .fn (.func 32) [] []] H fun r H' => r = .tup [] ∧ ∃ ys : List Plc, ys.Perm ks ∧ (ys.Pairwise fun a b => placeLt b a = false) ∧ Own H' v 2 (ys.map Plc.cells).flatten F ∧ Upd H H' F := by
  by_cases e : ks = []
  · have := hnil e
    subst e this
    refine (ACalls.closedV tup_plain (Dims.cons (Dim.slnil _) (Dims.cons (Dim.fn _) Dims.nil)) ((runCall_sound nilK_run).mono fun r _ h => isNoth_eq h) H).mono fun r H' ⟨hr, e⟩ => ?_
    subst hr e
    exact ⟨rfl, [], .nil, .nil, h, Upd.refl ..⟩
  obtain ⟨xs, hxs⟩ := pl_list hk
  have hxl : xs.length = ks.length := by rw [← hxs]; simp
  have flat : ∀ l : List Pl, ((l.map (·.1)).map Plc.cells).flatten = (l.map plV).flatten := fun l => by rw [List.map_map]; rfl
  have flen : ∀ l : List Pl, (l.map plV).flatten.length = l.length * 2 := fun l => by simpa using flatten_len (l.map plV) (fun x hx => by obtain ⟨y, _, rfl⟩ := List.mem_map.1 hx; rfl)
  have hcs : (ks.map Plc.cells).flatten = (xs.map plV).flatten := by rw [← hxs, flat]
  have hkp : 0 < ks.length := List.length_pos_iff.2 e
  rw [hcs] at h
  rcases h with ⟨c, h1, h2, h3⟩ | ⟨id, g, len, h1, h2, h3, h4⟩
  · have := congrArg List.length h2
    rw [flen] at this
    simp only [List.length_nil] at this
    omega
  · subst h1 h4
    have hlen : len = xs.length := by rw [flen] at h3; omega
    subst hlen
    refine ACalls.mono (sortK_call (ρ := lays6p_ren) lays6p ⟨_, Tryd.func56, rfl, rfl⟩ (k := 2) (by decide) (by first | exact qagg_65 | simp [lays6p_ren] | (show qagg Tryd.prog 65 = some true; simp)) (by first | exact qsize_65 | (show qsize Tryd.prog 65 = some 2; simp)) (enc := plC) (fun _ => rfl) (fun _ => rfl) pl_rel pl_det (fun x v hv => by simp [plC] at hv; rcases hv with rfl | rfl <;> rfl) plCf pl_swo ⟨_, Tryd.func32, rfl, rfl⟩ byName_tight H h2 (by omega) (by omega)) fun r H' ⟨hr, ys, hp, hs, e⟩ => ?_
    subst hr e
    refine ⟨rfl, ys.map (·.1), by rw [← hxs]; exact hp.map _, ?_, .inr ⟨id, g, xs.length, rfl, ?_, ?_, rfl⟩, Upd.set _ _ _ (by simp)⟩
    · rw [List.pairwise_map]
      refine hs.imp fun hab => ?_
      rw [pl_ltOf] at hab
      exact hab
    · rw [flat]
      exact AH.get_set_same (AH.get_lt h2)
    · rw [flat, flen, hp.length_eq]
end Go.Proofs.YtikonppmjkipoaaDoor
