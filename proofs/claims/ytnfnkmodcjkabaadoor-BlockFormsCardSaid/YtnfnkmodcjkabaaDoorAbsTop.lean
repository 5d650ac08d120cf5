/-
  From a law over abstract values to the post that a row asks for.
-/
import Derived.Test.YtnfnkmodcjkabaaDoorAbsOpen
import Derived.Carry
import Derived.OpenShut
import Derived.JoinedCond
import Derived.SizedLaws
import Derived.Deep.DeepHandedRow
import Derived.LaidLaws
set_option linter.unusedVariables false
set_option linter.unusedSimpArgs false
namespace Go.Abs
open Go Go.RowKit Go.ChangeShapes

/-- A value is of a type. -/
def TVal (P : Program) (H : AH) (t : TypeId) (v : V) : Prop := ∃ l, v.cells = some l ∧ TV P H 12 t l ∧ (qagg P t = some true → ∃ l, v = .agg l) ∧ (qagg P t = some false → ∀ l, v ≠ .agg l)
def TVals (P : Program) (H : AH) : List TypeId → List V → Prop
  | [], [] => True
  | t :: ts, v :: vs => TVal P H t v ∧ TVals P H ts vs
  | _, _ => False
theorem TVal.ext {P : Program} {H H' : AH} (hx : H.ext H') {t : TypeId} {v : V} (h : TVal P H t v) : TVal P H' t v := by
  obtain ⟨l, h1, h2, h3⟩ := h
  exact ⟨l, h1, h2.ext hx, h3⟩
theorem TVals.ext {P : Program} {H H' : AH} (hx : H.ext H') : ∀ {ts : List TypeId} {vs : List V}, TVals P H ts vs → TVals P H' ts vs
  | [], [], _ => trivial
  | _ :: _, _ :: _, h => ⟨h.1.ext hx, TVals.ext hx h.2⟩
  | [], _ :: _, h => h.elim
  | _ :: _, [], h => h.elim

theorem TV.leaf {P : Program} {H : AH} {n : Nat} {t : TypeId} {l : List V} (h : TV P H (n + 1) t l) (ha : qagg P t = some false) : ∃ a, l = [a] ∧ a.cells = some [a] := by
  unfold TV at h
  unfold qagg at ha
  cases hu : P.underlying t with
  | none => simp [hu] at ha
  | some td =>
    cases td <;> simp only [hu] at h <;> try (exact h.elim)
    case bool => obtain ⟨_, h⟩ := h; subst h; exact ⟨_, rfl, rfl⟩
    case int => obtain ⟨_, h, _⟩ := h; subst h; exact ⟨_, rfl, rfl⟩
    case string => obtain ⟨_, h, _⟩ := h; subst h; exact ⟨_, rfl, rfl⟩
    case slice => rcases h with h | ⟨_, _, _, h, _⟩ <;> (subst h; exact ⟨_, rfl, rfl⟩)
    all_goals simp [hu, descAgg] at ha
theorem TVal.leaf {P : Program} {H : AH} {t : TypeId} {v : V} (h : TVal P H t v) (ha : qagg P t = some false) : TV P H 12 t [v] := by
  obtain ⟨l, h1, h2, h3, h4⟩ := h
  obtain ⟨a, rfl, hc⟩ := h2.leaf ha
  have : v = a := by
    cases v <;> simp [V.cells] at h1
    all_goals first | exact h1 | (rename_i l; exact absurd rfl (h4 ha l))
  rw [this]; exact h2
theorem TV.fld {P : Program} {H : AH} {n : Nat} {t : TypeId} {l : List V} (h : TV P H (n + 1) t l) {fs : Array Field} (hu : P.underlying t = some (.struct fs)) (i : Nat) {f : Field} (hf : fs[i]? = some f) {ty : TypeId} (ht : f.type = ty) {off : Nat} (ho : f.offset = off) {sz : Nat} (hc : P.cellsOf ty = sz) :
    TV P H n ty ((l.drop off).take sz) := by
  unfold TV at h
  rw [hu] at h
  have := h.2 f (Array.mem_toList_iff.2 (Array.mem_of_getElem? hf))
  rw [ht, ho, hc] at this
  exact this
theorem TV.size {P : Program} {H : AH} {n : Nat} {t : TypeId} {l : List V} (h : TV P H (n + 1) t l) {fs : Array Field} (hu : P.underlying t = some (.struct fs)) {sz : Nat} (hc : P.cellsOf t = sz) : l.length = sz := by
  unfold TV at h
  rw [hu] at h
  rw [← hc]; exact h.1
theorem TV.int {P : Program} {H : AH} {n : Nat} {t : TypeId} {l : List V} (h : TV P H (n + 1) t l) {k : IntKind} (hu : P.underlying t = some (.int k)) : ∃ x, l = [.i k x] ∧ k.min ≤ x ∧ x ≤ k.max := by
  unfold TV at h; rw [hu] at h; exact h
theorem TV.bool {P : Program} {H : AH} {n : Nat} {t : TypeId} {l : List V} (h : TV P H (n + 1) t l) (hu : P.underlying t = some .bool) : ∃ x, l = [.b x] := by
  unfold TV at h; rw [hu] at h; exact h
theorem TV.str {P : Program} {H : AH} {n : Nat} {t : TypeId} {l : List V} (h : TV P H (n + 1) t l) (hu : P.underlying t = some .string) : ∃ x, l = [.s x] ∧ x.length ≤ 140737488351232 := by
  unfold TV at h; rw [hu] at h; exact h
theorem TVal.i {P : Program} {H : AH} {t : TypeId} {v : V} (h : TVal P H t v) {k : IntKind} (hu : P.underlying t = some (.int k)) : ∃ x, v = .i k x ∧ k.min ≤ x ∧ x ≤ k.max := by
  obtain ⟨x, hx, h1⟩ := (h.leaf (by simp [qagg, hu, descAgg])).int hu
  exact ⟨x, by simpa using hx, h1⟩
theorem TVal.b {P : Program} {H : AH} {t : TypeId} {v : V} (h : TVal P H t v) (hu : P.underlying t = some .bool) : ∃ x, v = .b x := by
  obtain ⟨x, hx⟩ := (h.leaf (by simp [qagg, hu, descAgg])).bool hu
  exact ⟨x, by simpa using hx⟩
theorem TVal.s {P : Program} {H : AH} {t : TypeId} {v : V} (h : TVal P H t v) (hu : P.underlying t = some .string) : ∃ x, v = .s x ∧ x.length ≤ 140737488351232 := by
  obtain ⟨x, hx, h1⟩ := (h.leaf (by simp [qagg, hu, descAgg])).str hu
  exact ⟨x, by simpa using hx, h1⟩
theorem TVal.struct {P : Program} {H : AH} {t : TypeId} {v : V} (h : TVal P H t v) {fs : Array Field} (hu : P.underlying t = some (.struct fs)) {sz : Nat} (hc : P.cellsOf t = sz) : ∃ l, v = .agg l ∧ l.length = sz ∧ TV P H 12 t l := by
  obtain ⟨l, h1, h2, h3, h4⟩ := h
  obtain ⟨l', rfl⟩ := h3 (by simp [qagg, hu, descAgg])
  have e : l' = l := by simpa [V.cells] using h1
  subst e
  exact ⟨l', rfl, h2.size hu hc, h2⟩
theorem exists_map {α β : Type} {f : α → β} : ∀ {ls : List β}, (∀ l ∈ ls, ∃ a, l = f a) → ∃ xs : List α, ls = xs.map f
  | [], _ => ⟨[], rfl⟩
  | l :: ls, h => by
    obtain ⟨a, rfl⟩ := h l (by simp)
    obtain ⟨xs, rfl⟩ := exists_map (ls := ls) fun l hl => h l (by simp [hl])
    exact ⟨a :: xs, rfl⟩

section
variable {Hh : Type} {enc : TypeId × Value → Hh} {P : Program} {W : World} {base : Nat}

theorem HR_none : HR ⟨W, Loc.none⟩ Loc.none AH.none W where
  next := rfl
  obj id o h := by simp [AH.get, AH.none] at h
  some id h := absurd h (Nat.not_lt_zero _)
  lt id h := absurd h (Nat.not_lt_zero _)
  foreign id h := absurd h (Nat.not_lt_zero _)
  sep id id' h := absurd h (Nat.not_lt_zero _)
  below := ⟨rfl, rfl, rfl, Nat.le_refl _, fun _ _ _ => rfl⟩

/-- One argument. -/
theorem open_arg {t : TypeId} {v : Value} {d : DataW Hh} {p : List MemPlace} (hp : plainT P 12 t = true) (hok : Value.okWide P W .any base t v) (h : DataW.Trod enc P W 0 (fun _ => true) true t v d p) (hw : ∀ x ∈ d.weights P t, x ≤ reachBytes)
    (hsz : qagg P t = some false → P.cellsOf t = 1) {S : Loc} {H : AH} (hH : HR ⟨W, Loc.none⟩ S H W) : ∃ S' H' a, S.le S' ∧ H.ext H' ∧ HR ⟨W, Loc.none⟩ S' H' W ∧ VR S' a v ∧ TVal P H' t a := by
  obtain ⟨fuel, htr⟩ := h
  have hagg : ∃ b, qagg P t = some b := by
    unfold plainT at hp
    cases hu : P.underlying t with
    | none => simp [hu] at hp
    | some d => exact ⟨descAgg d, by simp [qagg, hu]⟩
  obtain ⟨b, hb⟩ := hagg
  obtain ⟨td, hu, htd⟩ := descAgg_some hb
  cases b with
  | true =>
    have hcs : ∃ cs, v = .agg cs ∧ cs.size = P.cellsOf t := by
      unfold Value.okWide at hok
      rw [hu] at hok
      cases td <;> simp [descAgg] at htd
      all_goals (obtain ⟨cs, h1, h2, _⟩ := hok; exact ⟨cs, h1, h2⟩)
    obtain ⟨cs, rfl, hcs⟩ := hcs
    obtain ⟨S', H', l, h1, h2, h3, h4, h5, h6⟩ := open_trod (fun _ => rfl) 12 fuel t hp cs.toList d p htr hw S H hH (by simpa using hcs)
    refine ⟨S', H', .agg l, h1, h2, h3, ?_, l, rfl, h6, fun _ => ⟨l, rfl⟩, fun h => by rw [hb] at h; cases h⟩
    have := VR.agg l cs.toList h4 h5
    simpa using this
  | false =>
    have hleaf : v.cells = #[v] := by
      cases v <;> try rfl
      exfalso
      unfold Value.okWide at hok
      rw [hu] at hok
      cases td <;> simp [descAgg] at htd <;> simp [Cell.okWide, hu, Cell.ok] at hok
    rw [hleaf] at htr
    obtain ⟨S', H', l, h1, h2, h3, h4, h5, h6⟩ := open_trod (fun _ => rfl) 12 fuel t hp [v] d p htr hw S H hH (by rw [hsz hb]; rfl)
    cases h4 with
    | cons a _ _ _ hv ht =>
      cases ht
      have key : V.cells a = some [a] ∧ ∀ l, a ≠ .agg l := by
        unfold TV at h6
        cases td <;> simp only [hu] at h6
        case bool => obtain ⟨_, h⟩ := h6; simp at h; subst h; exact ⟨rfl, fun _ h => by cases h⟩
        case int => obtain ⟨_, h, _⟩ := h6; simp at h; subst h; exact ⟨rfl, fun _ h => by cases h⟩
        case string => obtain ⟨_, h, _⟩ := h6; simp at h; subst h; exact ⟨rfl, fun _ h => by cases h⟩
        case slice => rcases h6 with h | ⟨_, _, _, h, _⟩ <;> (simp at h; subst h; exact ⟨rfl, fun _ h => by cases h⟩)
        all_goals first | exact h6.elim | (simp [descAgg] at htd)
      exact ⟨S', H', a, h1, h2, h3, hv, [a], key.1, h6, fun h => (by rw [hb] at h; cases h), fun _ => key.2⟩

/-- The arguments. -/
theorem open_args : ∀ (ts : List TypeId) (vs : List Value) (ds : List (DataW Hh)) (p : List MemPlace) (S : Loc) (H : AH), (∀ t ∈ ts, plainT P 12 t = true ∧ (qagg P t = some false → P.cellsOf t = 1)) → (∀ (j : Nat) t v, ts[j]? = some t → vs[j]? = some v → Value.okWide P W .any base t v) →
    DataW.TrodAll enc P W 0 (fun _ => true) true ts vs ds p → (∀ x ∈ DataW.weightsEach P ts ds, x ≤ reachBytes) → HR ⟨W, Loc.none⟩ S H W → ∃ S' H' as, S.le S' ∧ H.ext H' ∧ HR ⟨W, Loc.none⟩ S' H' W ∧ VRs S' as vs ∧ TVals P H' ts as
  | [], [], [], p, S, H, _, _, _, _, hH => ⟨S, H, [], Loc.le.refl S, AH.ext.refl H, hH, .nil, trivial⟩
  | t :: ts, v :: vs, d :: ds, p, S, H, hp, hok, h, hw, hH => by
    obtain ⟨p1, p2, h1, h2, _⟩ := h
    simp only [DataW.weightsEach, List.mem_append] at hw
    obtain ⟨S1, H1, a, q1, q2, q3, q4, q5⟩ := open_arg (hp t (List.mem_cons_self ..)).1 (hok 0 t v rfl rfl) h1 (fun x hx => hw x (.inl hx)) (hp t (List.mem_cons_self ..)).2 hH
    obtain ⟨S2, H2, as, r1, r2, r3, r4, r5⟩ := open_args ts vs ds p2 S1 H1 (fun t ht => hp t (List.mem_cons_of_mem _ ht)) (fun j t v ht hv => hok (j + 1) t v (by simpa using ht) (by simpa using hv)) h2 (fun x hx => hw x (.inr hx)) q3
    exact ⟨S2, H2, a :: as, q1.trans r1, q2.trans r2, r3, .cons _ _ _ _ (q4.mono r1) r4, q5.ext r2, r5⟩
  | [], [], _ :: _, _, _, _, _, _, h, _, _ => by simp [DataW.TrodAll] at h
  | [], _ :: _, _, _, _, _, _, _, h, _, _ => by cases ‹List (DataW Hh)› <;> simp [DataW.TrodAll] at h
  | _ :: _, [], _, _, _, _, _, _, h, _, _ => by cases ‹List (DataW Hh)› <;> simp [DataW.TrodAll] at h
  | _ :: _, _ :: _, [], _, _, _, _, _, h, _, _ => by simp [DataW.TrodAll] at h

theorem trodAll_stay (hl : laidOutB P = true) {W' : World} (hb : Below W.heap.size W W') : ∀ (ts : List TypeId) (vs : List Value) (ds : List (DataW Hh)) (p : List MemPlace), (∀ t ∈ ts, P.readableRec t = true ∧ t < P.types.size) → (∀ x ∈ p, x.block < W.heap.size) →
    DataW.TrodAll enc P W 0 (fun _ => true) true ts vs ds p → DataW.TrodAll enc P W' 0 (fun b => decide (b < W.heap.size)) true ts vs ds p
  | [], [], [], p, _, _, h => h
  | t :: ts, v :: vs, d :: ds, p, hr, hp, h => by
    obtain ⟨p1, p2, h1, h2, rfl⟩ := h
    exact ⟨p1, p2, Below.trod hl (hr t (List.mem_cons_self ..)).1 (hr t (List.mem_cons_self ..)).2 h1 hb (fun x hx => hp x (List.mem_append_left _ hx)),
      trodAll_stay hl hb ts vs ds p2 (fun t ht => hr t (List.mem_cons_of_mem _ ht)) (fun x hx => hp x (List.mem_append_right _ hx)) h2, rfl⟩
  | [], [], _ :: _, _, _, _, h => by simp [DataW.TrodAll] at h
  | [], _ :: _, ds, _, _, _, h => by cases ds <;> simp [DataW.TrodAll] at h
  | _ :: _, [], ds, _, _, _, h => by cases ds <;> simp [DataW.TrodAll] at h
  | _ :: _, _ :: _, [], _, _, _, h => by simp [DataW.TrodAll] at h

/-- WHAT A LAW'S ROW ASKS OF THE CALL. -/
theorem law_contract [Laid P] {f : FuncId} {fn : Func} {s : ChangeSpec} {tb : TypeId} (hfn : P.funcs[f]? = some fn) (hfb : fn.body.isNone = false) (hlaid : Laid.ok P ⟨W, Loc.none⟩) (hl : laidOutB P = true) (hts : ∀ t ∈ fn.params.toList, plainT P 12 t = true ∧ (qagg P t = some false → P.cellsOf t = 1)) (hrd : ∀ t ∈ fn.params.toList, P.readableRec t = true ∧ t < P.types.size)
    (hr : fn.resultTypes = #[tb]) (htb : P.underlying tb = some .bool) (hv : s.vars = []) (hs : ∀ ds : List (DataW Hh), ds.length = fn.params.toList.length → s.fn Hh ds = { results := [.lit (.bool true)], args := ds })
    (law : ∀ H vs, TVals P H fn.params.toList vs → ACalls P f vs H fun r _ => r = .b true)
    {args : Array Value} {ds gs : List (DataW Hh)} {before : List MemPlace} (hval : ∀ (j : Nat) t v, fn.params[j]? = some t → args[j]? = some v → Value.okWide P W .any base t v)
    (hW : DataW.Whole enc P fn.params.toList s.vars false W args.toList ds gs before) (hw : ∀ x ∈ DataW.weightsEach P fn.params.toList ds, x ≤ reachBytes) :
    Calls P f args W fun e W' => ∃ v, e = .returned v ∧ s.post enc P fn false true false false W args v W' := by
  have hlt := hW.lt
  obtain ⟨p, q, hA, hV, rfl, hfz, hnd⟩ := id hW
  rw [hv] at hV
  obtain ⟨rfl, rfl⟩ := trodVars_none hV
  obtain ⟨S, H, as, h1, h2, h3, h4, h5⟩ := open_args fn.params.toList args.toList ds p Loc.none AH.none hts (fun j t v ht hv => hval j t v (by simpa using ht) (by simpa using hv)) hA hw HR_none
  have hcall : Calls P f args.toList.toArray W fun e w' => ∃ r cr S' H', e = .returned cr ∧ S.le S' ∧ VR S' r cr ∧ HR ⟨W, Loc.none⟩ S' H' w' ∧ r = .b true := by
    rcases law H as h5 with h | ⟨⟨fn2, g1, _, g2⟩, _⟩
    · exact h.2 ⟨W, Loc.none⟩ S args.toList W hlaid h3 h4
    · rw [hfn] at g1; cases g1; rw [hfb] at g2; cases g2
  rw [Array.toArray_toList] at hcall
  refine Calls.mono hcall fun e W' ⟨r, cr, S', H', he, hS, hvr, hH', hr'⟩ => ?_
  subst hr'
  cases hvr
  refine ⟨_, he, ?_⟩
  have hb : Below W.heap.size W W' := ⟨hH'.below.os, hH'.below.tape, hH'.below.output, hH'.below.size, fun k hk => hH'.below.block k hk mine_none⟩
  have hlen : ds.length = fn.params.toList.length := by
    have key : ∀ (ts : List TypeId) (vs : List Value) (ds : List (DataW Hh)) (p : List MemPlace), DataW.TrodAll enc P W 0 (fun _ => true) true ts vs ds p → ds.length = ts.length := by
      intro ts
      induction ts with
      | nil => intro vs ds p h; cases vs <;> cases ds <;> simp_all [DataW.TrodAll]
      | cons t ts ih =>
        intro vs ds p h
        cases vs <;> cases ds <;> simp [DataW.TrodAll] at h
        obtain ⟨p1, p2, _, h2, _⟩ := h
        simp [ih _ _ _ h2]
    exact key _ _ _ _ hA
  have hfn := hs ds hlen
  refine ⟨ds, [], p ++ [], [], p, [], hW, ?_, ?_, ?_, ?_, fun h => by cases h⟩
  · simp only [List.append_nil, hfn, hr]
    exact trodAll_cons_mk (shut_bool htb true) trodAll_mk0
  · simp only [List.append_nil, hfn]
    exact trodAll_stay hl hb _ _ _ _ hrd (fun x hx => by simpa using hlt x (by simpa using hx)) hA
  · simp only [List.append_nil, hfn, hv]; rfl
  · exact hb.frame _

/-- THE LAW'S ROW. -/
theorem law_lifted {C : Checked} [Laid C.prog] (htabs : Laid.tabs C.prog = []) {os : Os} {f : FuncId} {fn : Func} {s : ChangeSpec} {conds : List PathCond} {tb : TypeId} (own : ownKnob C.prog.godebug = none) (started : os.Started) (noInit : C.prog.inits.idxOf? f = none) (hfn : C.prog.funcs[f]? = some fn) (hfb : fn.body.isNone = false)
    (witness : ∃ (w : World) (tape : Tape) (i : Input), w.os = os ∧ (w.forCall tape i).Shaped C.prog ∧ i.vars = [] ∧ Input.okWide C.prog (w.forCall tape i) .any w.heap.size f i ∧
      s.pre6 enc C.prog fn conds false (w.forCall tape i).memory i.args ∧ ({} : Assume).holds C.prog (lone (Frame.enter C.prog f i.args .normal) [] (w.forCall tape i)))
    (hl : laidOutB C.prog = true) (hts : ∀ t ∈ fn.params.toList, plainT C.prog 12 t = true ∧ (qagg C.prog t = some false → C.prog.cellsOf t = 1)) (hrd : ∀ t ∈ fn.params.toList, C.prog.readableRec t = true ∧ t < C.prog.types.size)
    (hr : fn.resultTypes = #[tb]) (htb : C.prog.underlying tb = some .bool) (hv : s.vars = []) (hs : ∀ ds : List (DataW Hh), ds.length = fn.params.toList.length → s.fn Hh ds = { results := [.lit (.bool true)], args := ds })
    (law : ∀ H vs, TVals C.prog H fn.params.toList vs → ACalls C.prog f vs H fun r _ => r = .b true) :
    ReturnsInHanded {} C os f .any (s.pre6 enc C.prog fn conds false) (s.post enc C.prog fn false true false false) := by
  refine returnsInHanded_of_change_sized own started noInit hfn witness ?_
  intro W base args ds gs before hval hW _ hsz _
  have hgs : gs = [] ∧ s.plain.varTypes C.prog = [] := by
    obtain ⟨p, q, hA, hV, rfl, hfz, hnd⟩ := id hW
    rw [hv] at hV
    exact ⟨(trodVars_none hV).1, by simp [ChangeSpec.plain, DataSpec.varTypes, hv]⟩
  obtain ⟨rfl, hvt⟩ := hgs
  rw [hvt, List.append_nil, List.append_nil] at hsz
  exact law_contract hfn hfb (fun x hx => by rw [htabs] at hx; cases hx) hl hts hrd hr htb hv hs law hval hW (fun x hx => by simpa using List.all_eq_true.1 hsz x hx)
theorem laid_none {C : Checked} [Laid C.prog] (l : List (String × DataW Unit)) (h : Laid.tabs C.prog = []) : ∀ W : World, laidMetH C.prog l W → Laid.ok C.prog ⟨W, Loc.none⟩ := fun W _ x hx => by rw [h] at hx; cases hx
/-- THE LAW'S ROW, where the row lists tables. -/
theorem law_row {C : Checked} [Laid C.prog] {os : Os} {f : FuncId} {fn : Func} {s : ChangeSpec} {F : Stop.Interp} {conds : List PathCond} {laid : List (String × DataW Unit)} {tb : TypeId} (htabs : ∀ W : World, laidMetH C.prog laid W → Laid.ok C.prog ⟨W, Loc.none⟩) (own : ownKnob C.prog.godebug = none) (started : os.Started) (noInit : C.prog.inits.idxOf? f = none) (hfn : C.prog.funcs[f]? = some fn) (hfb : fn.body.isNone = false)
    (witness : ∃ (w : World) (tape : Tape) (i : Input), w.os = os ∧ (w.forCall tape i).Shaped C.prog ∧ i.vars = [] ∧ Input.okWide C.prog (w.forCall tape i) .any w.heap.size f i ∧
      (OpenSpec.ofChange s).preRow enc C.prog fn conds false laid (w.forCall tape i).memory i.args ∧ ({} : Assume).holds C.prog (lone (Frame.enter C.prog f i.args .normal) [] (w.forCall tape i)))
    (hl : laidOutB C.prog = true) (hts : ∀ t ∈ fn.params.toList, plainT C.prog 12 t = true ∧ (qagg C.prog t = some false → C.prog.cellsOf t = 1)) (hrd : ∀ t ∈ fn.params.toList, C.prog.readableRec t = true ∧ t < C.prog.types.size)
    (hr : fn.resultTypes = #[tb]) (htb : C.prog.underlying tb = some .bool) (hv : s.vars = []) (hs : ∀ ds : List (DataW Hh), ds.length = fn.params.toList.length → s.fn Hh ds = { results := [.lit (.bool true)], args := ds })
    (law : ∀ H vs, TVals C.prog H fn.params.toList vs → ACalls C.prog f vs H fun r _ => r = .b true) :
    ReturnsInHanded {} C os f .any ((OpenSpec.ofChange s).preRow enc C.prog fn conds false laid) (((OpenSpec.ofChange s).at F).post enc C.prog fn false true false false) := by
  refine returnsInHanded_of_row (s := OpenSpec.ofChange s) own started noInit hfn witness ?_
  intro W base args ds gs before hval hW _ _ hsz hL _ _
  have hgs : gs = [] ∧ s.plain.varTypes C.prog = [] := by
    obtain ⟨p, q, hA, hV, rfl, hfz, hnd⟩ := id hW
    have hv' : (OpenSpec.ofChange s).vars = [] := hv
    rw [hv'] at hV
    exact ⟨(trodVars_none hV).1, by simp [ChangeSpec.plain, DataSpec.varTypes, hv]⟩
  obtain ⟨rfl, hvt⟩ := hgs
  have hvt' : (OpenSpec.ofChange s).bare.plain.varTypes C.prog = [] := hvt
  rw [hvt', List.append_nil, List.append_nil] at hsz
  exact law_contract hfn hfb (htabs W hL) hl hts hrd hr htb hv hs law hval hW (fun x hx => by simpa using List.all_eq_true.1 hsz x hx)

/-- The cells that a listed table holds. -/
def flatD : Nat → DataW Unit → List Value
  | 0, _ => []
  | n + 1, d => match d with
    | .lit l => [l.value]
    | .agg l => l.flatMap (flatD n)
    | _ => []
/-- The listed tables put into their blocks. -/
def withTabs (P : Program) (l : List (String × DataW Unit)) (w : World) : World :=
  { w with heap := l.foldl (fun h x => h.modify ((P.globalNamed x.1).getD 0) fun
      | .cells _ t fr => .cells (flatD 9 x.2).toArray t fr
      | o => o) w.heap }
end
end Go.Abs
