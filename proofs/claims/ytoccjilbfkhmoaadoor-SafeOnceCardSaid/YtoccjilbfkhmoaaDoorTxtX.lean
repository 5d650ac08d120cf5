/-
  The abstract machine (part X): a logic over abstract states, proved sound once. No conditions.
-/
import Derived.Test.YtoccjilbfkhmoaaDoorTxtY
import Derived.Test.YtoccjilbfkhmoaaDoorCmp1
set_option linter.unusedVariables false
set_option linter.unusedSimpArgs false
namespace Go.Proofs.YtoccjilbfkhmoaaDoor
open Go Go.Abs Go.Proofs
set_option maxRecDepth 100000
attribute [local irreducible] AEnd AW ACalls

structure SSt where
  last : Int
  view : Int
  mode : Int
  round : Int
  block : Int
  high : Cert
  gave : Cert
  falls : List Cert
  heads : List Cert
  shared : Bool
  own0 : List UInt8
  own1 : List UInt8
  own2 : List UInt8
  own3 : List UInt8
  past : List (BitVec 32)
  count : Int
  tip : Int
  blocks : List (List UInt8)
def SSt.zero : SSt := ⟨0, 0, 0, 0, 0, Cert.zero, Cert.zero, [], [], false, [], [], [], [], [], 0, 0, []⟩
/-- Its cells: the slices are values. -/
def SSt.cells (s : SSt) (fv hv pv bv : V) : List V :=
  .i .i64 s.last :: .i .i64 s.view :: .i .i64 s.mode :: .i .i64 s.round :: .i .i64 s.block :: (s.high.cells ++ (s.gave.cells ++ [fv, hv, .b s.shared, .s s.own0, .s s.own1, .s s.own2, .s s.own3, pv, .i .i64 s.count, .i .i64 s.tip, bv]))
section
variable (s : SSt) (fv hv pv bv : V)
@[simp] theorem SSt.len : (s.cells fv hv pv bv).length = 32 := rfl
theorem SSt.take : (s.cells fv hv pv bv).take 32 = s.cells fv hv pv bv := rfl
@[simp] theorem SSt.c0 : (s.cells fv hv pv bv)[0]? = some (.i .i64 s.last) := rfl
@[simp] theorem SSt.c1 : (s.cells fv hv pv bv)[1]? = some (.i .i64 s.view) := rfl
@[simp] theorem SSt.c2 : (s.cells fv hv pv bv)[2]? = some (.i .i64 s.mode) := rfl
@[simp] theorem SSt.c3 : (s.cells fv hv pv bv)[3]? = some (.i .i64 s.round) := rfl
@[simp] theorem SSt.c4 : (s.cells fv hv pv bv)[4]? = some (.i .i64 s.block) := rfl
@[simp] theorem SSt.c21 : (s.cells fv hv pv bv)[21]? = some fv := rfl
@[simp] theorem SSt.c22 : (s.cells fv hv pv bv)[22]? = some hv := rfl
@[simp] theorem SSt.c23 : (s.cells fv hv pv bv)[23]? = some (.b s.shared) := rfl
@[simp] theorem SSt.c24 : (s.cells fv hv pv bv)[24]? = some (.s s.own0) := rfl
@[simp] theorem SSt.c25 : (s.cells fv hv pv bv)[25]? = some (.s s.own1) := rfl
@[simp] theorem SSt.c26 : (s.cells fv hv pv bv)[26]? = some (.s s.own2) := rfl
@[simp] theorem SSt.c27 : (s.cells fv hv pv bv)[27]? = some (.s s.own3) := rfl
@[simp] theorem SSt.c28 : (s.cells fv hv pv bv)[28]? = some pv := rfl
@[simp] theorem SSt.c29 : (s.cells fv hv pv bv)[29]? = some (.i .i64 s.count) := rfl
@[simp] theorem SSt.c30 : (s.cells fv hv pv bv)[30]? = some (.i .i64 s.tip) := rfl
@[simp] theorem SSt.c31 : (s.cells fv hv pv bv)[31]? = some bv := rfl
@[simp] theorem SSt.highC : ((s.cells fv hv pv bv).drop 5).take 8 = s.high.cells := rfl
@[simp] theorem SSt.gaveC : ((s.cells fv hv pv bv).drop 13).take 8 = s.gave.cells := rfl
theorem SSt.highR : (s.cells fv hv pv bv)[8]? = some (.i .i64 s.high.round) := rfl
theorem SSt.w2 (x : Int) : splice (s.cells fv hv pv bv) 2 [.i .i64 x] = ({ s with mode := x } : SSt).cells fv hv pv bv := rfl
theorem SSt.w3 (x : Int) : splice (s.cells fv hv pv bv) 3 [.i .i64 x] = ({ s with round := x } : SSt).cells fv hv pv bv := rfl
theorem SSt.w4 (x : Int) : splice (s.cells fv hv pv bv) 4 [.i .i64 x] = ({ s with block := x } : SSt).cells fv hv pv bv := rfl
theorem SSt.w5 (x : Cert) : splice (s.cells fv hv pv bv) 5 x.cells = ({ s with high := x } : SSt).cells fv hv pv bv := rfl
theorem SSt.w13 (x : Cert) : splice (s.cells fv hv pv bv) 13 x.cells = ({ s with gave := x } : SSt).cells fv hv pv bv := rfl
theorem SSt.w21 (x : V) : splice (s.cells fv hv pv bv) 21 [x] = s.cells x hv pv bv := rfl
theorem SSt.w22 (x : V) : splice (s.cells fv hv pv bv) 22 [x] = s.cells fv x pv bv := rfl
theorem SSt.w23 (x : Bool) : splice (s.cells fv hv pv bv) 23 [.b x] = ({ s with shared := x } : SSt).cells fv hv pv bv := rfl
theorem SSt.w24 (x : List UInt8) : splice (s.cells fv hv pv bv) 24 [.s x] = ({ s with own0 := x } : SSt).cells fv hv pv bv := rfl
theorem SSt.w25 (x : List UInt8) : splice (s.cells fv hv pv bv) 25 [.s x] = ({ s with own1 := x } : SSt).cells fv hv pv bv := rfl
theorem SSt.w26 (x : List UInt8) : splice (s.cells fv hv pv bv) 26 [.s x] = ({ s with own2 := x } : SSt).cells fv hv pv bv := rfl
theorem SSt.w27 (x : List UInt8) : splice (s.cells fv hv pv bv) 27 [.s x] = ({ s with own3 := x } : SSt).cells fv hv pv bv := rfl
theorem SSt.w28 (x : V) : splice (s.cells fv hv pv bv) 28 [x] = s.cells fv hv x bv := rfl
theorem SSt.w29 (x : Int) : splice (s.cells fv hv pv bv) 29 [.i .i64 x] = ({ s with count := x } : SSt).cells fv hv pv bv := rfl
theorem SSt.w30 (x : Int) : splice (s.cells fv hv pv bv) 30 [.i .i64 x] = ({ s with tip := x } : SSt).cells fv hv pv bv := rfl
theorem SSt.w31 (x : V) : splice (s.cells fv hv pv bv) 31 [x] = s.cells fv hv pv x := rfl
theorem SSt.wall (l : List V) (h : l.length = 32) : splice l 0 (s.cells fv hv pv bv) = s.cells fv hv pv bv := splice_all (by rw [h]; rfl)
end
/-- The slices of a state, in memory. -/
structure SAt (H : AH) (s : SSt) (fv hv pv bv : V) : Prop where
  falls : RS H fv 8 (s.falls.map Cert.cells)
  heads : RS H hv 8 (s.heads.map Cert.cells)
  past : RS H pv 1 (s.past.map fun x => [u32 x])
  blocks : RS H bv 1 (s.blocks.map fun t => [.s t])
theorem SAt.upd {H H' : AH} {s : SSt} {fv hv pv bv : V} (h : SAt H s fv hv pv bv) (u : Upd H H' []) : SAt H' s fv hv pv bv := ⟨h.falls.upd u, h.heads.upd u, h.past.upd u, h.blocks.upd u⟩
/-- What holds of each state on the way. -/
structure SSt.Ok (s : SSt) (k : Nat) : Prop where
  fs : SortedC s.falls
  fr : RangeC s.falls
  fl : s.falls.length ≤ k
  hs : SortedC s.heads
  hr : RangeC s.heads
  hl : s.heads.length ≤ k
  bl : s.blocks.length ≤ k
  o0 : s.own0.length ≤ 5000
  o1 : s.own1.length ≤ 5000
  o2 : s.own2.length ≤ 5000
  o3 : s.own3.length ≤ 5000
  v1 : 1 ≤ s.view
  vl : s.view ≤ s.last
  lm : s.last ≤ 1048576
  pl : (s.past.length : Int) = s.view - 1
theorem SSt.Ok.mono {s : SSt} {k m : Nat} (h : s.Ok k) (hm : k ≤ m) : s.Ok m := { h with fl := Nat.le_trans h.fl hm, hl := Nat.le_trans h.hl hm, bl := Nat.le_trans h.bl hm }
def SSt.fell (s : SSt) (a : Int) : Cert := ofC s.falls a
def SSt.head (s : SSt) (a : Int) : Cert := ofC s.heads a
theorem fell_ok (H : AH) {s : SSt} {fv hv pv bv : V} {k : Nat} (ha : SAt H s fv hv pv bv) (ho : s.Ok k) (hk : k ≤ 10000000) (a : Int) :
    ACalls Tryd.prog 35 [.agg (s.cells fv hv pv bv), .i .i64 a] H fun r H' => r = .agg (s.fell a).cells ∧ H' = H := by
  refine ACalls.pure (Q := fun r => r = .agg (s.fell a).cells) ⟨_, Tryd.func35, rfl, rfl⟩ ?_
  refine ACalls_body Tryd.func35 rfl rfl ?_
  refine AW_seq ?_
  refine AW_reg [1, 2, 4] fun K hK => ?_ -- region 0
  simp [init_eq, V.cells]
  obtain ⟨H1, e1, hp1, hp2, hn, ho1⟩ := H.boxed2 (s.cells fv hv pv bv) Cert.zero.cells
  rw [e1]
  have u1 : Upd H H1 [] := ⟨by omega, fun j hj _ => ho1 j hj⟩
  have hst : astore Tryd.prog H1 27 (.p (some (H.next + 1, 0, 0))) (.agg (s.fell a).cells) = some (H1.set (H.next + 1) (.cells (s.fell a).cells 0 false 0)) := by
    simp [astore, hp2, V.cells, show splice Cert.zero.cells 0 (s.fell a).cells = (s.fell a).cells from splice_all rfl]
  refine hK _ _ ?_; clear hK K
  refine AW_seq ?_
  refine AW_reg [4] fun K hK => ?_ -- region 1
  simp [init_eq, afieldAddr, aload, hp1]
  refine ACalls.mono (of_ok H1 (ha.falls.upd u1) (by have := ho.fl; omega) a) fun r H' ⟨hr, e⟩ => ?_ -- hallmoot/safe.of
  subst hr e
  have hst' : astore Tryd.prog H' 27 (.p (some (H.next + 1, 0, 0))) (.agg (ofC s.falls a).cells) = some (H'.set (H.next + 1) (.cells (s.fell a).cells 0 false 0)) := hst
  simp [hst']
  refine hK _ _ ?_; clear hK K
  refine AW_ret (end_ret (ares_cell (v := .agg (s.fell a).cells) (by simp [aload, AH.get_set_same (AH.get_lt hp2), take_cells])) ⟨rfl, rfl, by simp; omega, fun j hj => by rw [AH.get_set_ne (by omega)]; exact ho1 j hj⟩)
theorem head_ok (H : AH) {s : SSt} {fv hv pv bv : V} {k : Nat} (ha : SAt H s fv hv pv bv) (ho : s.Ok k) (hk : k ≤ 10000000) (a : Int) :
    ACalls Tryd.prog 19 [.agg (s.cells fv hv pv bv), .i .i64 a] H fun r H' => r = .agg (s.head a).cells ∧ H' = H := by
  refine ACalls.pure (Q := fun r => r = .agg (s.head a).cells) ⟨_, Tryd.func19, rfl, rfl⟩ ?_
  refine ACalls_body Tryd.func19 rfl rfl ?_
  refine AW_seq ?_
  refine AW_reg [1, 2, 4] fun K hK => ?_ -- region 0
  simp [init_eq, V.cells]
  obtain ⟨H1, e1, hp1, hp2, hn, ho1⟩ := H.boxed2 (s.cells fv hv pv bv) Cert.zero.cells
  rw [e1]
  have u1 : Upd H H1 [] := ⟨by omega, fun j hj _ => ho1 j hj⟩
  have hst : astore Tryd.prog H1 27 (.p (some (H.next + 1, 0, 0))) (.agg (s.head a).cells) = some (H1.set (H.next + 1) (.cells (s.head a).cells 0 false 0)) := by
    simp [astore, hp2, V.cells, show splice Cert.zero.cells 0 (s.head a).cells = (s.head a).cells from splice_all rfl]
  refine hK _ _ ?_; clear hK K
  refine AW_seq ?_
  refine AW_reg [4] fun K hK => ?_ -- region 1
  simp [init_eq, afieldAddr, aload, hp1]
  refine ACalls.mono (of_ok H1 (ha.heads.upd u1) (by have := ho.hl; omega) a) fun r H' ⟨hr, e⟩ => ?_ -- hallmoot/safe.of
  subst hr e
  have hst' : astore Tryd.prog H' 27 (.p (some (H.next + 1, 0, 0))) (.agg (ofC s.heads a).cells) = some (H'.set (H.next + 1) (.cells (s.head a).cells 0 false 0)) := hst
  simp [hst']
  refine hK _ _ ?_; clear hK K
  refine AW_ret (end_ret (ares_cell (v := .agg (s.head a).cells) (by simp [aload, AH.get_set_same (AH.get_lt hp2), take_cells])) ⟨rfl, rfl, by simp; omega, fun j hj => by rw [AH.get_set_ne (by omega)]; exact ho1 j hj⟩)
/-- Is a parent of the same view and chain? -/
def showsC (p c : Cert) : Bool := decide (p.kind = 2) && !p.endorsed && decide (p.view = c.view) && decide (p.author = c.author)
theorem shows_ok (H : AH) (p c : Cert) : ACalls Tryd.prog 18 [.agg p.cells, .agg c.cells] H fun r H' => r = .b (showsC p c) ∧ H' = H := by
  refine ACalls.pure (Q := fun r => r = .b (showsC p c)) ⟨_, Tryd.func18, rfl, rfl⟩ ?_
  refine ACalls_body Tryd.func18 rfl rfl ?_
  refine AW_seq ?_
  refine AW_reg [2, 3] fun K hK => ?_ -- region 0
  simp [init_eq, V.cells]
  obtain ⟨H1, e1, hp1, hp2, hn, ho1⟩ := H.boxed2 p.cells c.cells
  rw [e1]
  refine hK _ _ ?_; clear hK K
  refine AW_seq ?_
  refine AW_regto [4] ⟨27, [(4, .b (showsC p c))]⟩ H1 (fun K hk => ?_) (AW_ret (end_ret rfl (pure_end hn ho1 rfl rfl)))
  by_cases h1 : p.kind = 2
  · simp [init_eq, afieldAddr, aload, hp1, hp2, h1, take_cells]
    refine ACalls.mono (endorsed_ok H1 p) fun r H' ⟨hr, e⟩ => ?_ -- hallmoot/cert.Endorsed
    subst hr e
    cases h2 : p.endorsed
    · by_cases h3 : p.view = c.view
      · simpa [init_eq, afieldAddr, aload, hp1, hp2, showsC, h1, h2, h3] using hk
      · simpa [init_eq, afieldAddr, aload, hp1, hp2, showsC, h1, h2, h3] using hk
    · simpa [init_eq, afieldAddr, aload, hp1, hp2, showsC, h1, h2] using hk
  · simpa [init_eq, afieldAddr, aload, hp1, hp2, h1, showsC] using hk
@[simp] theorem Cert.sp6 (x : Cert) (s : BitVec 32) : splice x.cells 6 [u32 s] = Cert.cells { x with signers := s } := rfl
@[simp] theorem Cert.sp7 (x : Cert) (s : BitVec 32) : splice x.cells 7 [u32 s] = Cert.cells { x with coin := s } := rfl
@[simp] theorem Cert.sp0 (x y : Cert) : splice x.cells 0 y.cells = y.cells := splice_all rfl
def Cert.plain (c : Cert) : Cert := { c with signers := 0#32, coin := 0#32 }
theorem plain_ok (H : AH) (c : Cert) : ACalls Tryd.prog 17 [.agg c.cells] H fun r H' => r = .agg c.plain.cells ∧ H' = H := by
  refine ACalls.pure (Q := fun r => r = .agg c.plain.cells) ⟨_, Tryd.func17, rfl, rfl⟩ ?_
  refine ACalls_body Tryd.func17 rfl rfl ?_
  refine AW_seq ?_
  refine AW_reg [1, 2] fun K hK => ?_ -- region 0
  simp [init_eq, V.cells]
  obtain ⟨H1, e1, hp1, hp2, hn, ho1⟩ := H.boxed2 c.cells Cert.zero.cells
  rw [e1]
  refine hK _ _ ?_; clear hK K
  refine AW_seq ?_
  refine AW_reg [1, 2] fun K hK => ?_ -- region 1
  simp [init_eq, afieldAddr, astore, hp1, AH.get_set, hn]
  refine hK _ _ ?_; clear hK K
  refine AW_seq ?_
  refine AW_reg [2] fun K hK => ?_ -- region 2
  simp [init_eq, aload, astore, hp2, AH.get_set, hn, take_cells, V.cells]
  refine hK _ _ ?_; clear hK K
  refine AW_ret (end_ret (ares_cell (v := .agg c.plain.cells) ?_) ?_)
  · simp [aload, AH.get_set, hn, take_cells, Cert.plain]
  · refine ⟨rfl, by simp, by simp [hn], fun j hj => ?_⟩
    simp [AH.get_set, hn, show j ≠ H.next by omega, show j ≠ H.next + 1 by omega, ho1 j hj]
end Go.Proofs.YtoccjilbfkhmoaaDoor

set_option linter.unusedVariables false
set_option linter.unusedSimpArgs false
namespace Go.Proofs.YtoccjilbfkhmoaaDoor
open Go Go.Abs Go.Proofs
set_option maxRecDepth 100000
attribute [local irreducible] AEnd AW ACalls

/-- The first error of what must be. -/
def mustE : List (Bool × Int) → Int
  | [] => 0
  | (ok, e) :: l => if ok then mustE l else e
structure Chk where
  f : FuncId
  caps : List V
  ok : Bool
  e : Int
def Chk.fn (c : Chk) : List V := [.fn (.func c.f) [] c.caps]
theorem mustE_take : ∀ (l : List (Bool × Int)) (i : Nat), (∀ j x, j < i → l[j]? = some x → x.1 = true) → mustE l = mustE (l.drop i)
  | _, 0, _ => rfl
  | [], i + 1, _ => by simp
  | (ok, e) :: l, i + 1, h => by
    have h0 : ok = true := h 0 (ok, e) (by omega) rfl
    rw [h0]
    exact mustE_take l i fun j x hj hx => h (j + 1) x (by omega) (by simpa using hx)
theorem must_ok (H : AH) {v : V} (fs : List Chk) (hv : RS H v 1 (fs.map Chk.fn)) (hl : fs.length ≤ 1000) (hf : ∀ c ∈ fs, ACalls Tryd.prog c.f c.caps H fun r H' => r = .tup [.b c.ok, .i .i64 c.e] ∧ H' = H) :
    ACalls Tryd.prog 30 [v] H fun r H' => r = .i .i64 (mustE (fs.map fun c => (c.ok, c.e))) ∧ H' = H := by
  refine ACalls_body Tryd.func30 rfl rfl ?_
  refine AW_seq ?_
  refine AW_reg [0] fun K hK => ?_ -- region 0
  simp [init_eq]
  refine hK _ _ ?_; clear hK K
  refine AW_seq ?_
  refine AW_seq ?_
  refine AW_reg [7, 8, 9] fun K hK => ?_ -- region 1
  simp [init_eq, hv.alen qelem_89]
  refine hK _ _ ?_; clear hK K
  refine AW_block ?_
  refine AW_loop0 (fun i : Nat => ⟨22, [(7, v), (8, .i .i64 fs.length), (9, .i .i64 i)]⟩) (fun i => i ≤ fs.length ∧ ∀ j x, j < i → fs[j]? = some x → x.ok = true) (fun i => fs.length - i) 0 (by simp) (by simp) (by dsimp only; omega) fun hw i ⟨hi, hno⟩ => ?_
  have hdrop : mustE (fs.map fun c => (c.ok, c.e)) = mustE ((fs.map fun c => (c.ok, c.e)).drop i) := mustE_take _ i fun j x hj hx => by
    simp only [List.getElem?_map, Option.map_eq_some_iff] at hx
    obtain ⟨c, hc, rfl⟩ := hx
    exact hno j c hj hc
  refine AW_seq ?_
  refine AW_reg [7, 8, 9, 10] fun K hK => ?_ -- region 2
  simp [init_eq]
  refine hK _ _ ?_; clear hK K
  refine AW_seq ?_
  refine AW_cond' rfl rfl (fun hc => ?_) (fun hc => ?_)
  · have hlt : i < fs.length := by simpa using hc
    obtain ⟨a, q1, q2⟩ := hv.at1 (P := Tryd.prog) qelem_89 qsize_71 qagg_71 (k := .i64) i (x := .fn (.func fs[i].f) [] fs[i].caps) (by simp [hlt, Chk.fn])
    have hm : (fs.map fun c => (c.ok, c.e)).drop i = (fs[i].ok, fs[i].e) :: (fs.map fun c => (c.ok, c.e)).drop (i + 1) := by
      rw [List.drop_eq_getElem_cons (by simpa using hlt)]; simp
    refine AW_skip ?_
    refine AW_seq ?_
    refine AW_block ?_
    refine AW_seq ?_
    refine AW_reg [4, 7, 8, 9] fun K hK => ?_ -- region 3
    simp [init_eq, q1, q2]
    refine hK _ _ ?_; clear hK K
    refine AW_seq ?_
    refine AW_reg [5, 6, 7, 8, 9] fun K hK => ?_ -- region 4
    simp [init_eq]
    rw [AOp_callv (f := fs[i].f) (first := []) (caps := fs[i].caps) (by simp)]
    simp
    refine ACalls.mono (hf fs[i] (List.getElem_mem hlt)) fun r H' ⟨hr, e⟩ => ?_
    subst hr e
    try simp
    refine hK _ _ ?_; clear hK K
    refine AW_seq ?_
    refine AW_reg [6, 7, 8, 9, 19] fun K hK => ?_ -- region 5
    simp [init_eq]
    refine hK _ _ ?_; clear hK K
    refine AW_cond' rfl rfl (fun hc => ?_) (fun hc => ?_)
    · have hok : fs[i].ok = false := by simpa using hc
      refine AW_seq ?_
      refine AW_reg [2] fun K hK => ?_ -- region 6
      simp [init_eq]
      refine hK _ _ ?_; clear hK K
      refine AW_ret (end_ret rfl ⟨?_, rfl⟩)
      rw [hdrop, hm, mustE, if_neg (by simp [hok])]
      rfl
    · have hok : fs[i].ok = true := by simpa using hc
      refine AW_skip ?_
      refine AW_reg [7, 8, 9] fun K hK => ?_ -- region 7
      simp [init_eq, wrap_id (x := (i : Int) + 1) (by omega) (by omega)]
      refine hK _ _ ?_; clear hK K
      refine rend ⟨i + 1, by simp, ⟨by omega, fun j x hj hx => ?_⟩, by omega, .inl rfl⟩ -- round's end
      by_cases hji : j < i
      · exact hno j x hji hx
      · obtain rfl : j = i := by omega
        rw [List.getElem?_eq_getElem hlt] at hx
        cases hx
        exact hok
  · have hi' : i = fs.length := by
      have : ¬ i < fs.length := by simpa using hc
      omega
    refine AW_exit (then_exit (then_exit (block_here ?_)))
    refine AW_seq ?_
    refine AW_reg [2] fun K hK => ?_ -- region 8
    simp [init_eq]
    refine hK _ _ ?_; clear hK K
    refine AW_ret (end_ret rfl ⟨?_, rfl⟩)
    rw [hdrop, hi', List.drop_eq_nil_of_le (by simp)]
    rfl

/-- A state and a record, as the checks find them. -/
structure MC (H : AH) (bs br sid rid : Nat) (s : SSt) (fv hv pv bv : V) (r : SRec) : Prop where
  ps : H.get bs = some (.cells [.p (some (sid, 0, 0))] 0 false 0)
  pr : H.get br = some (.cells [.p (some (rid, 0, 0))] 0 false 0)
  st : H.get sid = some (.cells (s.cells fv hv pv bv) 0 false 0)
  rc : H.get rid = some (.cells r.cells 0 false 0)
  at' : SAt H s fv hv pv bv
theorem MC.upd {H H' : AH} {bs br sid rid : Nat} {s : SSt} {fv hv pv bv : V} {r : SRec} (h : MC H bs br sid rid s fv hv pv bv r) (u : Upd H H' []) : MC H' bs br sid rid s fv hv pv bv r :=
  ⟨u.keep (by simp) h.ps, u.keep (by simp) h.pr, u.keep (by simp) h.st, u.keep (by simp) h.rc, h.at'.upd u⟩
theorem SRec.cv (r : SRec) : r.cells[3]? = some (.i .i64 r.cert.view) := rfl
theorem SRec.cr (r : SRec) : r.cells[4]? = some (.i .i64 r.cert.round) := rfl
theorem SRec.ch (r : SRec) : r.cells[5]? = some (.i .i64 r.cert.height) := rfl
theorem SRec.ca (r : SRec) : r.cells[6]? = some (.i .i64 r.cert.author) := rfl
theorem SRec.qr (r : SRec) : r.cells[12]? = some (.i .i64 r.parent.round) := rfl
theorem SRec.certU (r : SRec) : r.cells.tail.take 8 = r.cert.cells := rfl
theorem SRec.qa (r : SRec) : r.cells[14]? = some (.i .i64 r.parent.author) := rfl
theorem cert_height (c : Cert) : afield Tryd.prog 27 4 (.agg c.cells) = some (.i .i64 c.height) := by
  simp [afield]
section
variable (H : AH) {bs br sid rid : Nat} {s : SSt} {fv hv pv bv : V} {r : SRec}
theorem may1_1_ok (m : MC H bs br sid rid s fv hv pv bv r) {ib : Nat} {is : Int} (hi : H.get ib = some (.cells [.i .i64 is] 0 false 0)) : ACalls Tryd.prog 28 [.p (some (bs, 0, 0)), .p (some (ib, 0, 0))] H fun v H' => v = .tup [.b (decide (s.mode = is)), .i .i64 213] ∧ H' = H := by
  refine ACalls_body Tryd.func28 rfl rfl ?_
  refine AW_seq ?_
  refine AW_reg [0, 1] fun K hK => ?_ -- region 0
  simp [init_eq]
  refine hK _ _ ?_; clear hK K
  refine AW_seq ?_
  refine AW_regd [2, 3] pl_28_1 pe_28_1 (by kernel_rfl) (by kernel_rfl) (by decide) fun K hK => ?_
  simp [init_eq, pl_28_1, aload, afieldAddr, m.ps, m.pr, m.st, m.rc, SRec.take, SRec.certC, SRec.parC, SRec.cv, SRec.cr, SRec.ch, SRec.ca, SRec.qr, SRec.certU, hi]
  refine hK _ _ ?_; clear hK K
  refine AW_ret (end_ret rfl ⟨?_, rfl⟩)
  simp
theorem may2_ok (m : MC H bs br sid rid s fv hv pv bv r) : ACalls Tryd.prog 29 [.p (some (br, 0, 0)), .p (some (bs, 0, 0))] H fun v H' => v = .tup [.b (decide (r.cert.view = s.view)), .i .i64 210] ∧ H' = H := by
  refine ACalls_body Tryd.func29 rfl rfl ?_
  refine AW_seq ?_
  refine AW_reg [0, 1] fun K hK => ?_ -- region 0
  simp [init_eq]
  refine hK _ _ ?_; clear hK K
  refine AW_seq ?_
  refine AW_regd [2, 3] pl_29_1 pe_29_1 (by kernel_rfl) (by kernel_rfl) (by decide) fun K hK => ?_
  simp [init_eq, pl_29_1, aload, afieldAddr, m.ps, m.pr, m.st, m.rc, SRec.take, SRec.certC, SRec.parC, SRec.cv, SRec.cr, SRec.ch, SRec.ca, SRec.qr, SRec.certU]
  refine hK _ _ ?_; clear hK K
  refine AW_ret (end_ret rfl ⟨?_, rfl⟩)
  simp
theorem may3_ok (m : MC H bs br sid rid s fv hv pv bv r) (hp : -4611686018427387904 ≤ r.parent.round ∧ r.parent.round ≤ 4611686018427387904) : ACalls Tryd.prog 31 [.p (some (br, 0, 0)), .p (some (bs, 0, 0))] H fun v H' => v = .tup [.b (decide (s.round < r.cert.round) && decide (r.cert.round = r.parent.round + 1)), .i .i64 211] ∧ H' = H := by
  refine ACalls_body Tryd.func31 rfl rfl ?_
  refine AW_seq ?_
  refine AW_reg [0, 1] fun K hK => ?_ -- region 0
  simp [init_eq]
  refine hK _ _ ?_; clear hK K
  refine AW_seq ?_
  have hwp := wrap_id (x := r.parent.round + 1) (by omega) (by omega)
  refine AW_regdto [2, 3] pl_31_1 pe_31_1 ⟨28, [(2, .b (decide (s.round < r.cert.round) && decide (r.cert.round = r.parent.round + 1))), (3, .i .i64 211)]⟩ H (by kernel_rfl) (by kernel_rfl) (by decide) (fun K hk => ?_) (AW_ret (end_ret rfl ⟨rfl, rfl⟩))
  by_cases h1 : s.round < r.cert.round
  · simpa [init_eq, pl_31_1, aload, afieldAddr, m.ps, m.pr, m.st, m.rc, SRec.take, SRec.certC, SRec.parC, SRec.cv, SRec.cr, SRec.ch, SRec.ca, SRec.qr, SRec.certU, h1, hwp] using hk
  · simpa [init_eq, pl_31_1, aload, afieldAddr, m.ps, m.pr, m.st, m.rc, SRec.take, SRec.certC, SRec.parC, SRec.cv, SRec.cr, SRec.ch, SRec.ca, SRec.qr, SRec.certU, h1, hwp] using hk
theorem may4_ok (m : MC H bs br sid rid s fv hv pv bv r) : ACalls Tryd.prog 32 [.p (some (br, 0, 0)), .p (some (bs, 0, 0))] H fun v H' => v = .tup [.b (decide (0 ≤ cmpC r.parent s.high)), .i .i64 212] ∧ H' = H := by
  refine ACalls_body Tryd.func32 rfl rfl ?_
  refine AW_seq ?_
  refine AW_reg [0, 1] fun K hK => ?_ -- region 0
  simp [init_eq]
  refine hK _ _ ?_; clear hK K
  refine AW_seq ?_
  refine AW_regd [2, 3] pl_32_1 pe_32_1 (by kernel_rfl) (by kernel_rfl) (by decide) fun K hK => ?_
  simp [init_eq, pl_32_1, aload, afieldAddr, m.ps, m.pr, m.st, m.rc, SRec.take, SRec.certC, SRec.parC, SRec.cv, SRec.cr, SRec.ch, SRec.ca, SRec.qr, SRec.certU]
  refine ACalls.mono (certCmp_ok H r.parent s.high) fun x H' ⟨hx, e⟩ => ?_
  subst hx e
  try simp
  refine hK _ _ ?_; clear hK K
  refine AW_ret (end_ret rfl ⟨?_, rfl⟩)
  simp
theorem may5_ok (m : MC H bs br sid rid s fv hv pv bv r) : ACalls Tryd.prog 33 [.p (some (bs, 0, 0))] H fun v H' => v = .tup [.b (decide (s.mode ≠ 2)), .i .i64 213] ∧ H' = H := by
  refine ACalls_body Tryd.func33 rfl rfl ?_
  refine AW_seq ?_
  refine AW_reg [0] fun K hK => ?_ -- region 0
  simp [init_eq]
  refine hK _ _ ?_; clear hK K
  refine AW_seq ?_
  refine AW_reg [1, 2] fun K hK => ?_
  simp [init_eq, aload, afieldAddr, m.ps, m.pr, m.st, m.rc, SRec.take, SRec.certC, SRec.parC, SRec.cv, SRec.cr, SRec.ch, SRec.ca, SRec.qr, SRec.certU]
  refine hK _ _ ?_; clear hK K
  refine AW_ret (end_ret rfl ⟨?_, rfl⟩)
  simp
theorem may6_ok (m : MC H bs br sid rid s fv hv pv bv r) {k : Nat} (ok : s.Ok k) (hk : k ≤ 10000000) : ACalls Tryd.prog 34 [.p (some (br, 0, 0)), .p (some (bs, 0, 0))] H fun v H' => v = .tup [.b (decide ((s.fell r.cert.author).height < r.cert.height)), .i .i64 220] ∧ H' = H := by
  refine ACalls_body Tryd.func34 rfl rfl ?_
  refine AW_seq ?_
  refine AW_reg [0, 1] fun K hK => ?_ -- region 0
  simp [init_eq]
  refine hK _ _ ?_; clear hK K
  refine AW_seq ?_
  refine AW_regd [2, 3] pl_34_1 pe_34_1 (by kernel_rfl) (by kernel_rfl) (by decide) fun K hK => ?_
  simp [init_eq, pl_34_1, aload, afieldAddr, m.ps, m.pr, m.st, m.rc, SRec.take, SRec.certC, SRec.parC, SRec.cv, SRec.cr, SRec.ch, SRec.ca, SRec.qr, SRec.certU, SSt.take]
  refine ACalls.mono (fell_ok H m.at' ok hk r.cert.author) fun x H' ⟨hx, e⟩ => ?_
  subst hx e
  try simp
  simp [cert_height]
  refine hK _ _ ?_; clear hK K
  refine AW_ret (end_ret rfl ⟨?_, rfl⟩)
  simp
theorem may7_ok (m : MC H bs br sid rid s fv hv pv bv r) : ACalls Tryd.prog 36 [.p (some (br, 0, 0)), .p (some (bs, 0, 0))] H fun v H' => v = .tup [.b (decide (0 < cmpC r.cert s.high)), .i .i64 212] ∧ H' = H := by
  refine ACalls_body Tryd.func36 rfl rfl ?_
  refine AW_seq ?_
  refine AW_reg [0, 1] fun K hK => ?_ -- region 0
  simp [init_eq]
  refine hK _ _ ?_; clear hK K
  refine AW_seq ?_
  refine AW_regd [2, 3] pl_36_1 pe_36_1 (by kernel_rfl) (by kernel_rfl) (by decide) fun K hK => ?_
  simp [init_eq, pl_36_1, aload, afieldAddr, m.ps, m.pr, m.st, m.rc, SRec.take, SRec.certC, SRec.parC, SRec.cv, SRec.cr, SRec.ch, SRec.ca, SRec.qr, SRec.certU]
  refine ACalls.mono (certCmp_ok H r.cert s.high) fun x H' ⟨hx, e⟩ => ?_
  subst hx e
  try simp
  refine hK _ _ ?_; clear hK K
  refine AW_ret (end_ret rfl ⟨?_, rfl⟩)
  simp
theorem may8_ok (m : MC H bs br sid rid s fv hv pv bv r) : ACalls Tryd.prog 37 [.p (some (bs, 0, 0))] H fun v H' => v = .tup [.b (!s.shared), .i .i64 100] ∧ H' = H := by
  refine ACalls_body Tryd.func37 rfl rfl ?_
  refine AW_seq ?_
  refine AW_reg [0] fun K hK => ?_ -- region 0
  simp [init_eq]
  refine hK _ _ ?_; clear hK K
  refine AW_seq ?_
  refine AW_reg [1, 2] fun K hK => ?_
  simp [init_eq, aload, afieldAddr, m.ps, m.pr, m.st, m.rc, SRec.take, SRec.certC, SRec.parC, SRec.cv, SRec.cr, SRec.ch, SRec.ca, SRec.qr, SRec.certU]
  refine hK _ _ ?_; clear hK K
  refine AW_ret (end_ret rfl ⟨?_, rfl⟩)
  simp
theorem may9_ok (m : MC H bs br sid rid s fv hv pv bv r) : ACalls Tryd.prog 38 [.p (some (bs, 0, 0))] H fun v H' => v = .tup [.b (decide (s.view < s.last)), .i .i64 230] ∧ H' = H := by
  refine ACalls_body Tryd.func38 rfl rfl ?_
  refine AW_seq ?_
  refine AW_reg [0] fun K hK => ?_ -- region 0
  simp [init_eq]
  refine hK _ _ ?_; clear hK K
  refine AW_seq ?_
  refine AW_regd [1, 2] pl_38_1 pe_38_1 (by kernel_rfl) (by kernel_rfl) (by decide) fun K hK => ?_
  simp [init_eq, pl_38_1, aload, afieldAddr, m.ps, m.pr, m.st, m.rc, SRec.take, SRec.certC, SRec.parC, SRec.cv, SRec.cr, SRec.ch, SRec.ca, SRec.qr, SRec.certU]
  refine hK _ _ ?_; clear hK K
  refine AW_ret (end_ret rfl ⟨?_, rfl⟩)
  simp
theorem may10_ok (m : MC H bs br sid rid s fv hv pv bv r) : ACalls Tryd.prog 39 [.p (some (br, 0, 0)), .p (some (bs, 0, 0))] H fun v H' => v = .tup [.b (decide (s.count < r.count)), .i .i64 151] ∧ H' = H := by
  refine ACalls_body Tryd.func39 rfl rfl ?_
  refine AW_seq ?_
  refine AW_reg [0, 1] fun K hK => ?_ -- region 0
  simp [init_eq]
  refine hK _ _ ?_; clear hK K
  refine AW_seq ?_
  refine AW_regd [2, 3] pl_39_1 pe_39_1 (by kernel_rfl) (by kernel_rfl) (by decide) fun K hK => ?_
  simp [init_eq, pl_39_1, aload, afieldAddr, m.ps, m.pr, m.st, m.rc, SRec.take, SRec.certC, SRec.parC, SRec.cv, SRec.cr, SRec.ch, SRec.ca, SRec.qr, SRec.certU]
  refine hK _ _ ?_; clear hK K
  refine AW_ret (end_ret rfl ⟨?_, rfl⟩)
  simp
theorem may11_ok (m : MC H bs br sid rid s fv hv pv bv r) (hb : s.blocks.length ≤ 1000000000) : ACalls Tryd.prog 40 [.p (some (bs, 0, 0)), .p (some (br, 0, 0))] H fun v H' => v = .tup [.b (!decide (r.text ∈ s.blocks)), .i .i64 100] ∧ H' = H := by
  refine ACalls_body Tryd.func40 rfl rfl ?_
  refine AW_seq ?_
  refine AW_reg [0, 1] fun K hK => ?_ -- region 0
  simp [init_eq]
  refine hK _ _ ?_; clear hK K
  refine AW_seq ?_
  refine AW_regd [2, 3] pl_40_1 pe_40_1 (by kernel_rfl) (by kernel_rfl) (by decide) fun K hK => ?_
  simp [init_eq, pl_40_1, aload, afieldAddr, m.ps, m.pr, m.st, m.rc, SRec.take, SRec.certC, SRec.parC, SRec.cv, SRec.cr, SRec.ch, SRec.ca, SRec.qr, SRec.certU]
  refine ACalls.mono (scontains_ok H m.at'.blocks hb r.text) fun x H' ⟨hx, e⟩ => ?_
  subst hx e
  try simp
  refine hK _ _ ?_; clear hK K
  refine AW_ret (end_ret rfl ⟨?_, rfl⟩)
  simp
end
end Go.Proofs.YtoccjilbfkhmoaaDoor
