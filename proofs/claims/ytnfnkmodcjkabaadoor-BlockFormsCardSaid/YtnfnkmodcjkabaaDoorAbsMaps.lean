/-
  Maps.
-/
import Derived.Test.YtnfnkmodcjkabaaDoorAbsSim2
set_option linter.unusedVariables false
set_option linter.unusedSimpArgs false
namespace Go.Abs
open Go Go.RowKit

section
variable {P : Program} {w : World}

/-- The walk over a struct's fields that looks at a key. -/
def ckFields (e : Bool) (d : Nat) (cs : Array Value) : List Field → Sem Unit
  | [] => pure ()
  | f :: fs => if f.name ≠ "_" then do
      let v ← part f.type cs f.offset
      Instr.checkKey e d f.type v
      ckFields e d cs fs
    else ckFields e d cs fs

theorem run_checkKey_struct (e : Bool) (d : Nat) (t : TypeId) (cs : Array Value) (fs : Array Field) (ht : P.underlying t = some (.struct fs)) :
    (Instr.checkKey e (d + 1) t (.agg cs)).run P w = (ckFields e d cs fs.toList).run P w := by
  simp only [Instr.checkKey, Sem.run_bind, run_underlying ht, Result.andThen_ok]
  rw [← Array.forIn_toList]
  generalize fs.toList = l
  clear ht
  induction l generalizing w with
  | nil => simp [ckFields]
  | cons f fs ih =>
    simp only [List.forIn_cons, ckFields, Sem.run_bind, Sem.run_ite]
    split
    · generalize (part f.type cs f.offset).run P w = r1
      cases r1 with
      | ok a w1 =>
        simp only [Result.andThen_ok]
        generalize (Instr.checkKey e d f.type a).run P w1 = r2
        cases r2 with
        | ok b w2 =>
          simp only [Result.andThen_ok, Sem.run_pure]
          exact ih
        | halt x w2 => simp [Result.andThen]
      | halt x w1 => simp [Result.andThen]
    · simp only [Sem.run_pure, Result.andThen_ok]
      exact ih

theorem ckFields_run {k : TypeId → Option (List CK)} {e : Bool} {d : Nat}
    (hk : ∀ t ks, k t = some ks → (∃ a, qagg P t = some a ∧ (a = false → ks.length = 1)) ∧ ∀ a, qagg P t = some a → ∀ xs : List Value, cfitsAll ks xs = true → (Instr.checkKey e d t (Vof a xs)).run P w = .ok () w) :
    ∀ (fs : List Field) (off : Nat) (ks : List CK) (xs : Array Value), kindsFs P k off fs = some ks → cfitsAll ks (xs.toList.drop off) = true →
      (ckFields e d xs fs).run P w = .ok () w
  | [], off, ks, xs, h, hx => by simp [ckFields]
  | f :: fs, off, ks, xs, h, hx => by
    simp only [kindsFs] at h
    split at h
    · rename_i l hl
      split at h
      · rename_i hc
        obtain ⟨hname, hoff, hsz, hpos⟩ := hc
        cases hr : kindsFs P k (off + l.length) fs with
        | none => simp [hr] at h
        | some ks' =>
          simp only [hr, Option.map_some, Option.some.injEq] at h
          subst h
          obtain ⟨⟨a, ha, h1⟩, heq⟩ := hk f.type l hl
          have hx' := cfitsAll_append hx
          have lx := cfitsAll_length hx
          simp only [List.length_drop, Array.length_toList, List.length_append] at lx
          have e := heq a ha _ hx'.1
          rw [List.drop_drop] at hx'
          have ih := ckFields_run hk fs (off + l.length) ks' xs hr hx'.2
          simp only [ckFields]
          rw [if_pos hname]
          subst hoff
          simp only [Sem.run_bind, run_part w xs f.offset ha hsz h1 (by omega), Result.andThen_ok, e]
          exact ih
      · cases h
    · cases h

theorem checkKey_run (e : Bool) : ∀ (d : Nat) (t : TypeId) (ks : List CK), kindsOf P d t = some ks → ∀ D, d ≤ D →
    (∃ a, qagg P t = some a ∧ (a = false → ks.length = 1)) ∧ ∀ a, qagg P t = some a → ∀ xs : List Value, cfitsAll ks xs = true → (Instr.checkKey e D t (Vof a xs)).run P w = .ok () w
  | 0, t, ks, h, D, hD => by simp [kindsOf] at h
  | d + 1, t, ks, h, D, hD => by
    obtain ⟨D, rfl⟩ : ∃ m, D = m + 1 := ⟨D - 1, by omega⟩
    have h0 := kindsOf_run (P := P) w (d + 1) t ks h (D + 1) hD
    refine ⟨h0.1, fun a ha xs hx => ?_⟩
    simp only [kindsOf] at h
    split at h
    · rename_i hu
      simp only [Instr.checkKey, Sem.run_bind, run_underlying hu, Result.andThen_ok]
      rfl
    · rename_i k hu
      simp only [Instr.checkKey, Sem.run_bind, run_underlying hu, Result.andThen_ok]
      rfl
    · rename_i hu
      simp only [Instr.checkKey, Sem.run_bind, run_underlying hu, Result.andThen_ok]
      rfl
    · rename_i fs hu
      split at h
      · cases h
      · have hat : qagg P t = some true := by simp [qagg, hu, descAgg]
        rw [hat] at ha; cases ha
        simp only [Vof, if_true]
        rw [run_checkKey_struct e D t _ fs hu]
        exact ckFields_run (k := kindsOf P d) (fun t' ks' h' => checkKey_run e d t' ks' h' D (by omega)) fs.toList 0 ks xs.toArray h (by simpa using hx)
    · cases h
end

section
variable {C : Ctx} {P : Program} {S : Loc} {H : AH} {w : World}

/-- What was found. -/
def FR (S : Loc) : Option (Nat × V) → Option (Nat × Value) → Prop
  | none, none => True
  | some (i, v), some (j, c) => i = j ∧ VR S v c
  | _, _ => False

theorem keq_int {t : TypeId} {k : V} {ck : Value} {q : IntKind} (hu : P.underlying t = some (.int q)) (hk : VR S k ck) : ∀ (es : List (V × V × Nat)) (ces : List MapEntry) (i : Nat) (r : Option (Nat × V)),
    VRs S (es.map (·.1)) (ces.map (·.key)) → VRs S (es.map (·.2.1)) (ces.map (·.val)) → afind P t k es i = some r → ∃ r', Instr.findNow (.int q) ck ces i = some r' ∧ FR S r r'
  | [], [], i, r, _, _, h => by simp [afind] at h; subst h; exact ⟨none, rfl, trivial⟩
  | (k', v, b) :: es, e :: ces, i, r, .cons _ _ _ _ h1 t1, .cons _ _ _ _ h2 t2, h => by
    simp only [afind] at h
    have key : ∀ x, keq P t k k' = some x → Instr.sameNow (.int q) ck e.key = some x := by
      intro x hx
      unfold keq at hx
      split at hx
      · cases hk
        simp only [hu] at hx
        split at hx
        · rename_i hkk
          cases hx
          have h1 : VR S (.i _ _) e.key := h1
          generalize e.key = ek at h1
          cases h1
          simp [Instr.sameNow, hkk]
        · cases hx
      · simp [hu] at hx
      · unfold aeq at hx
        split at hx
        · rename_i hk1 hk2
          have : qeq P t = none := by simp [qeq, qagg, hu, descAgg]
          simp [this] at hx
        all_goals simp_all
      · cases hx
    split at h
    · rename_i hq
      cases h
      exact ⟨some (i, e.val), by simp [Instr.findNow, key _ hq], rfl, h2⟩
    · rename_i hq
      obtain ⟨r', hr, hf⟩ := keq_int hu hk es ces (i + 1) r t1 t2 h
      exact ⟨r', by simp [Instr.findNow, key _ hq, hr], hf⟩
    · cases h
  | [], _ :: _, i, r, h, _, _ => by cases h
  | _ :: _, [], i, r, h, _, _ => by cases h

theorem keq_str {t : TypeId} {k : V} {ck : Value} (hu : P.underlying t = some .string) (hk : VR S k ck) : ∀ (es : List (V × V × Nat)) (ces : List MapEntry) (i : Nat) (r : Option (Nat × V)),
    VRs S (es.map (·.1)) (ces.map (·.key)) → VRs S (es.map (·.2.1)) (ces.map (·.val)) → afind P t k es i = some r → ∃ r', Instr.findNow .string ck ces i = some r' ∧ FR S r r'
  | [], [], i, r, _, _, h => by simp [afind] at h; subst h; exact ⟨none, rfl, trivial⟩
  | (k', v, b) :: es, e :: ces, i, r, .cons _ _ _ _ h1 t1, .cons _ _ _ _ h2 t2, h => by
    simp only [afind] at h
    have key : ∀ x, keq P t k k' = some x → Instr.sameNow .string ck e.key = some x := by
      intro x hx
      unfold keq at hx
      split at hx
      · simp [hu] at hx
      · rename_i a c
        cases hk with
        | s _ ca hca =>
          simp only [hu, Option.some.injEq] at hx
          have h1 : VR S (.s _) e.key := h1
          generalize e.key = ek at h1
          cases h1 with
          | s _ cb hcb =>
            subst hca hcb
            simp only [Instr.sameNow, beq_toListBytes, toList_data, hx]
      · unfold aeq at hx
        split at hx
        · rename_i hk1 hk2
          have : qeq P t = none := by simp [qeq, qagg, hu, descAgg]
          simp [this] at hx
        all_goals simp_all
      · cases hx
    split at h
    · rename_i hq
      cases h
      exact ⟨some (i, e.val), by simp [Instr.findNow, key _ hq], rfl, h2⟩
    · rename_i hq
      obtain ⟨r', hr, hf⟩ := keq_str hu hk es ces (i + 1) r t1 t2 h
      exact ⟨r', by simp [Instr.findNow, key _ hq, hr], hf⟩
    · cases h
  | [], _ :: _, i, r, h, _, _ => by cases h
  | _ :: _, [], i, r, h, _, _ => by cases h

theorem keq_struct {t : TypeId} {k : V} {ck : Value} {fs : Array Field} (hu : P.underlying t = some (.struct fs)) (hk : VR S k ck) : ∀ (es : List (V × V × Nat)) (ces : List MapEntry) (i : Nat) (r : Option (Nat × V)),
    VRs S (es.map (·.1)) (ces.map (·.key)) → VRs S (es.map (·.2.1)) (ces.map (·.val)) → afind P t k es i = some r → ∃ r', (Instr.findAsking t ck ces i).run P w = .ok r' w ∧ FR S r r'
  | [], [], i, r, _, _, h => by simp [afind] at h; subst h; exact ⟨none, rfl, trivial⟩
  | (k', v, b) :: es, e :: ces, i, r, .cons _ _ _ _ h1 t1, .cons _ _ _ _ h2 t2, h => by
    simp only [afind] at h
    have key : ∀ x, keq P t k k' = some x → (Op.equal t ck e.key).run P w = .ok x w := by
      intro x hx
      unfold keq at hx
      split at hx
      · simp [hu] at hx
      · simp [hu] at hx
      · exact (sim_aeq hk h1 hx).1
      · cases hx
    split at h
    · rename_i hq
      cases h
      exact ⟨some (i, e.val), by simp [Instr.findAsking, key _ hq], rfl, h2⟩
    · rename_i hq
      obtain ⟨r', hr, hf⟩ := keq_struct hu hk es ces (i + 1) r t1 t2 h
      exact ⟨r', by simp [Instr.findAsking, key _ hq, hr], hf⟩
    · cases h
  | [], _ :: _, i, r, h, _, _ => by cases h
  | _ :: _, [], i, r, h, _, _ => by cases h

theorem findNow_struct {fs : Array Field} {ck : Value} (e : MapEntry) (ces : List MapEntry) (i : Nat) : Instr.findNow (.struct fs) ck (e :: ces) i = none := by
  simp [Instr.findNow, Instr.sameNow]

theorem sim_find {t : TypeId} {k : V} {ck : Value} (hq : qkey P t = true) (hk : VR S k ck) {es : List (V × V × Nat)} {ces : List MapEntry} {r : Option (Nat × V)}
    (h1 : VRs S (es.map (·.1)) (ces.map (·.key))) (h2 : VRs S (es.map (·.2.1)) (ces.map (·.val))) (h : afind P t k es 0 = some r) :
    ∃ r', (Instr.findKey t ck ces).run P w = .ok r' w ∧ FR S r r' := by
  unfold qkey at hq
  unfold Instr.findKey
  split at hq
  · rename_i q hu
    obtain ⟨r', hr, hf⟩ := keq_int hu hk es ces 0 r h1 h2 h
    exact ⟨r', by simp [run_underlying hu, hr], hf⟩
  · rename_i hu
    obtain ⟨r', hr, hf⟩ := keq_str hu hk es ces 0 r h1 h2 h
    exact ⟨r', by simp [run_underlying hu, hr], hf⟩
  · rename_i fs hu
    cases ces with
    | nil =>
      cases es with
      | nil =>
        simp [afind] at h
        subst h
        exact ⟨none, by simp [run_underlying hu, Instr.findNow], trivial⟩
      | cons => cases h1
    | cons e ces =>
      obtain ⟨r', hr, hf⟩ := keq_struct (w := w) hu hk es (e :: ces) 0 r h1 h2 h
      exact ⟨r', by simp only [Sem.run_bind, run_underlying hu, Result.andThen_ok, findNow_struct]; exact hr, hf⟩
  · cases hq

theorem checkKey_leaf {t : TypeId} {ck : Value} (e : Bool) (d : Nat) {td : TypeDesc} (hu : P.underlying t = some td) (h : (∃ k, td = .int k) ∨ td = .string) : (Instr.checkKey e (d + 1) t ck).run P w = .ok () w := by
  simp only [Instr.checkKey, Sem.run_bind, run_underlying hu, Result.andThen_ok]
  rcases h with ⟨k, rfl⟩ | rfl <;> rfl
theorem sim_checkKey {t : TypeId} {k : V} {ck : Value} (e : Bool) (hq : qkey P t = true) (hf : keyFits P t k = true) (hk : VR S k ck) : (Instr.checkKey e 10000 t ck).run P w = .ok () w := by
  unfold qkey at hq
  split at hq
  · rename_i q hu
    exact checkKey_leaf e 9999 hu (.inl ⟨q, rfl⟩)
  · rename_i hu
    exact checkKey_leaf e 9999 hu (.inr rfl)
  · rename_i fs hu
    unfold keyFits at hf
    simp only [hu] at hf
    split at hf
    · rename_i ks l hqe
      unfold qeq at hqe
      split at hqe
      · rename_i hg
        cases hk with
        | agg _ l' hv h2 =>
          have := (checkKey_run (P := P) (w := w) e 12 t ks hqe 10000 (by decide)).2 true hg.2 l' (fits_VRs hf hv)
          simpa [Vof] using this
      · cases hqe
    · cases hf
  · cases hq

theorem setKV_VRs {es : List (V × V × Nat)} {ces : List MapEntry} {i : Nat} {k v : V} {ck cv : Value} (h1 : VRs S (es.map (·.1)) (ces.map (·.key))) (h2 : VRs S (es.map (·.2.1)) (ces.map (·.val))) (h3 : es.map (·.2.2) = ces.map (·.born))
    (hk : VR S k ck) (hv : VR S v cv) : VRs S ((setKV es i k v).map (·.1)) ((ces.modify i fun e => { e with key := ck, val := cv }).map (·.key)) ∧ VRs S ((setKV es i k v).map (·.2.1)) ((ces.modify i fun e => { e with key := ck, val := cv }).map (·.val)) ∧
      (setKV es i k v).map (·.2.2) = (ces.modify i fun e => { e with key := ck, val := cv }).map (·.born) := by
  have hl : es.length = ces.length := by simpa using h1.length
  refine ⟨VRs.of (by simp [setKV, hl]) fun j a c ha hc => ?_, VRs.of (by simp [setKV, hl]) fun j a c ha hc => ?_, ?_⟩
  · simp only [setKV, List.getElem?_map, List.getElem?_modify] at ha hc
    by_cases hij : i = j
    · subst hij
      cases he : es[i]? <;> simp [he] at ha
      cases hce : ces[i]? <;> simp [hce] at hc
      subst ha hc; exact hk
    · simp only [hij, if_false] at ha hc
      obtain ⟨c', hc', hr⟩ := h1.get j a (by simpa using ha)
      have : c = c' := by simp at hc hc'; obtain ⟨x, hx, rfl⟩ := hc; obtain ⟨y, hy, rfl⟩ := hc'; rw [hx] at hy; cases hy; rfl
      rw [this]; exact hr
  · simp only [setKV, List.getElem?_map, List.getElem?_modify] at ha hc
    by_cases hij : i = j
    · subst hij
      cases he : es[i]? <;> simp [he] at ha
      cases hce : ces[i]? <;> simp [hce] at hc
      subst ha hc; exact hv
    · simp only [hij, if_false] at ha hc
      obtain ⟨c', hc', hr⟩ := h2.get j a (by simpa using ha)
      have : c = c' := by simp at hc hc'; obtain ⟨x, hx, rfl⟩ := hc; obtain ⟨y, hy, rfl⟩ := hc'; rw [hx] at hy; cases hy; rfl
      rw [this]; exact hr
  · apply List.ext_getElem?
    intro j
    have := congrArg (fun l => l[j]?) h3
    simp only [List.getElem?_map] at this
    simp only [setKV, List.getElem?_map, List.getElem?_modify, Option.map_map]
    cases he : es[j]? <;> cases hce : ces[j]? <;> simp [he, hce] at this ⊢
    by_cases hij : i = j <;> simp [hij, this]

theorem sim_lookup (hH : HR C S H w) {t : TypeId} {x k v : V} {cx ck : Value} {ok : Bool} (hx : VR S x cx) (hk : VR S k ck) (h : alookup P H t x k ok = some v) :
    ∃ cv, (Instr.lookup t cx ck ok).run P w = .ok cv w ∧ VR S v cv := by
  unfold alookup at h
  split at h
  · rename_i kt et hq
    have hu := qmap_spec hq
    split at h
    · rename_i hkq
      obtain ⟨hkq, hkf⟩ := hkq
      split at h
      · rename_i es hes
        have hent : ∃ ces : Array MapEntry, VRs S (es.map (·.1)) (ces.toList.map (·.key)) ∧ VRs S (es.map (·.2.1)) (ces.toList.map (·.val)) ∧
            ((cx = .map none ∧ ces = #[]) ∨ ∃ r, cx = .map (some r) ∧ ∃ clk, (getObj r).run P w = .ok (.map ces clk) w) := by
          split at hes
          · cases hes; cases hx
            exact ⟨#[], by simpa using VRs.nil, by simpa using VRs.nil, .inl ⟨rfl, rfl⟩⟩
          · split at hes <;> cases hes
            rename_i id es' clock hg
            cases hx with
            | m _ r h1 h2 =>
              have ho := hH.obj id _ hg
              obtain ⟨g0, _, ces, hh, e1, e2, _⟩ := ho
              have := h2 g0
              subst this
              exact ⟨ces, e1, e2, .inr ⟨_, rfl, clock, by simp [getObj, Sem.run, hh]⟩⟩
          · cases hes
        obtain ⟨ces, e1, e2, hcx⟩ := hent
        have hck : ∀ e, (Instr.checkKey e 10000 kt ck).run P w = .ok () w := fun e => sim_checkKey e hkq hkf hk
        have tail : ∀ r', (Instr.findKey kt ck ces.toList).run P w = .ok r' w → ∀ cv ok', (match r' with | some (_, v) => (pure (v, true) : Sem (Value × Bool)) | none => do pure (← zeroValue et, false)).run P w = .ok (cv, ok') w →
            (Instr.lookup t cx ck ok).run P w = .ok (if ok then .tuple #[cv, .bool ok'] else cv) w := by
          intro r' hr cv ok' hz
          unfold Instr.lookup
          rcases hcx with ⟨rfl, rfl⟩ | ⟨r, rfl, clk, hget⟩
          · simp only [Sem.run_bind, run_underlying hu, Result.andThen_ok, Sem.run_pure, hck]
            rw [hr]
            simp only [Result.andThen_ok]
            cases r' with
            | none =>
              simp only [Sem.run_bind] at hz ⊢
              cases hzr : (zeroValue et).run P w with
              | ok z w' => simp [hzr] at hz ⊢; obtain ⟨⟨rfl, rfl⟩, rfl⟩ := hz; cases ok <;> simp
              | halt x w' => simp [hzr, Result.andThen] at hz
            | some x =>
              simp at hz ⊢; obtain ⟨rfl, rfl⟩ := hz; cases ok <;> simp
          · simp only [Sem.run_bind, run_underlying hu, Result.andThen_ok, hget, Sem.run_pure, hck]
            rw [hr]
            simp only [Result.andThen_ok]
            cases r' with
            | none =>
              simp only [Sem.run_bind] at hz ⊢
              cases hzr : (zeroValue et).run P w with
              | ok z w' => simp [hzr] at hz ⊢; obtain ⟨⟨rfl, rfl⟩, rfl⟩ := hz; cases ok <;> simp
              | halt x w' => simp [hzr, Result.andThen] at hz
            | some x =>
              simp at hz ⊢; obtain ⟨rfl, rfl⟩ := hz; cases ok <;> simp
        split at h
        · rename_i i v' hf
          cases h
          obtain ⟨r', hr, hfr⟩ := sim_find (w := w) hkq hk e1 e2 hf
          rcases r' with _ | ⟨j, c⟩
          · exact hfr.elim
          · obtain ⟨_, hv⟩ := hfr
            refine ⟨_, tail _ hr c true rfl, ?_⟩
            cases ok
            · exact hv
            · exact .tup _ [c, .bool true] (.cons _ _ _ _ hv (.cons _ _ _ _ (.b true) .nil))
        · rename_i hf
          split at h
          · rename_i z hz
            cases h
            obtain ⟨r', hr, hfr⟩ := sim_find (w := w) hkq hk e1 e2 hf
            rcases r' with _ | ⟨j, c⟩
            · obtain ⟨cz, hcz, rfl⟩ := run_zeroValue w hz
              refine ⟨_, tail _ hr cz false (by simp [hcz]), ?_⟩
              cases ok
              · exact absV_VR S cz
              · exact .tup _ [cz, .bool false] (.cons _ _ _ _ (absV_VR S cz) (.cons _ _ _ _ (.b false) .nil))
            · exact hfr.elim
          · cases h
        · cases h
      · cases h
    · cases h
  · cases h

/-- Keys that are found are the same to the bit. -/
theorem sameBits_leaf (n : Nat) {c d : Value} (h : cceq c d = true) (hk : ∃ q : CK, q.cfits c = true ∧ q.cfits d = true) : Instr.sameBits n c d = true := by
  obtain ⟨q, h1, h2⟩ := hk
  cases q <;> cases c <;> simp [CK.cfits] at h1 <;> cases d <;> simp [CK.cfits] at h2 <;> cases n <;> simp_all [cceq, Instr.sameBits, beq_toListBytes]
theorem sameBits_all (n : Nat) : ∀ {ks : List CK} {xs ys : List Value}, cfitsAll ks xs = true → cfitsAll ks ys = true → cceqs xs ys = true → ((xs.zip ys).all fun (x, y) => Instr.sameBits n x y) = true
  | [], [], [], _, _, _ => rfl
  | k :: ks, x :: xs, y :: ys, h1, h2, h3 => by
    simp only [cfitsAll, cceqs, Bool.and_eq_true] at h1 h2 h3
    simp only [List.zip_cons_cons, List.all_cons, Bool.and_eq_true]
    exact ⟨sameBits_leaf n h3.1 ⟨k, h1.1, h2.1⟩, sameBits_all n h1.2 h2.2 h3.2⟩
  | [], _ :: _, _, h, _, _ => by simp [cfitsAll] at h
  | _ :: _, [], _, h, _, _ => by simp [cfitsAll] at h
  | [], [], _ :: _, _, h, _ => by simp [cfitsAll] at h
  | _ :: _, _ :: _, [], _, h, _ => by simp [cfitsAll] at h
theorem keq_bits {t : TypeId} {k k' : V} {ck ck' : Value} (h : keq P t k k' = some true) (hk : VR S k ck) (hk' : VR S k' ck') : Instr.sameBits 10000 ck' ck = true := by
  unfold keq at h
  split at h
  · cases hk; cases hk'
    split at h
    · split at h <;> simp at h
      rename_i hkk
      simp [Instr.sameBits, hkk, h]
    · cases h
  · cases hk with
    | s _ c hc =>
      cases hk' with
      | s _ d hd =>
        split at h
        · simp at h
          subst hc hd
          simp [Instr.sameBits, beq_toListBytes, toList_data, h]
        · cases h
  · unfold aeq at h
    cases hk with
    | agg _ xs hv h2 =>
      cases hk' with
      | agg _ ys hv' h2' =>
        simp only [] at h
        split at h
        · rename_i ks hq
          split at h
          · rename_i hf
            have e := ceqs_VRs h hv hv'
            have f1 := fits_VRs hf.1 hv
            have f2 := fits_VRs hf.2 hv'
            have e' : cceqs ys xs = true := by
              have : ∀ {l r : List Value} {ks : List CK}, cfitsAll ks l = true → cfitsAll ks r = true → cceqs l r = true → cceqs r l = true := by
                intro l
                induction l with
                | nil => intro r ks h1 h2 h; cases r <;> simp_all [cceqs]
                | cons x l ih =>
                  intro r ks h1 h2 h
                  cases r with
                  | nil => simp [cceqs] at h
                  | cons y r =>
                    cases ks with
                    | nil => simp [cfitsAll] at h1
                    | cons k ks =>
                      simp only [cceqs, cfitsAll, Bool.and_eq_true] at h h1 h2 ⊢
                      refine ⟨?_, ih h1.2 h2.2 h.2⟩
                      have a1 := h.1; have a2 := h1.1; have a3 := h2.1
                      cases k <;> cases x <;> simp [CK.cfits] at a2 <;> cases y <;> simp [CK.cfits] at a3 <;> simp_all [cceq]
              exact this f1 f2 e
            show Instr.sameBits (9999 + 1) _ _ = true
            rw [show Instr.sameBits (9999 + 1) (.agg ys.toArray) (.agg xs.toArray) = (ys.toArray.size == xs.toArray.size && (ys.toArray.toList.zip xs.toArray.toList).all fun (x, y) => Instr.sameBits 9999 x y) from rfl]
            have hl : ys.length = xs.length := by rw [cfitsAll_length f1, cfitsAll_length f2]
            simp only [List.size_toArray, hl, beq_self_eq_true, Bool.true_and]
            exact sameBits_all 9999 f2 f1 e'
          · cases h
        · cases h
  · cases h
theorem afind_get {t : TypeId} {k : V} : ∀ {es : List (V × V × Nat)} {i j : Nat} {v : V}, afind P t k es i = some (some (j, v)) → i ≤ j ∧ ∃ k' b, es[j - i]? = some (k', v, b) ∧ keq P t k k' = some true
  | [], i, j, v, h => by simp [afind] at h
  | (k', v', b) :: es, i, j, v, h => by
    simp only [afind] at h
    split at h
    · rename_i hq
      cases h
      exact ⟨Nat.le_refl _, k', b, by simp, hq⟩
    · obtain ⟨h1, k'', b', h2, h3⟩ := afind_get h
      refine ⟨by omega, k'', b', ?_, h3⟩
      rw [show j - i = (j - (i + 1)) + 1 by omega]
      simpa using h2
    · cases h

theorem sim_mapUpdate (hH : HR C S H w) {t : TypeId} {m k v : V} {cm ck cv : Value} {H' : AH} (hm : VR S m cm) (hk : VR S k ck) (hv : VR S v cv) (h : amapUpdate P H t m k v = some H') :
    ∃ w', (Instr.mapUpdate t cm ck cv).run P w = .ok () w' ∧ HR C S H' w' := by
  unfold amapUpdate at h
  split at h
  · rename_i kt et id hq
    have hu := qmap_spec hq
    split at h
    · rename_i hkq
      obtain ⟨hkq, hkf⟩ := hkq
      split at h
      · rename_i es clock hg
        cases hm with
        | m _ r h1 h2 =>
          have ho := hH.obj id _ hg
          obtain ⟨g0, hown, ces, hh, e1, e2, e3⟩ := ho
          have := h2 g0
          subst this
          have hlt : S.blk id < w.heap.size := (Array.getElem?_eq_some_iff.1 hh).1
          have hck : (Instr.checkKey false 10000 kt ck).run P w = .ok () w := sim_checkKey false hkq hkf hk
          have hset : ∀ o : Obj, (setObj (S.blk id) o).run P w = .ok () { w with heap := w.heap.setIfInBounds (S.blk id) o } := by
            intro o; simp [setObj, Sem.run, hh]
          unfold Instr.mapUpdate
          simp only [Sem.run_bind, run_underlying hu, Result.andThen_ok]
          have hget : (getObj (S.blk id)).run P w = .ok (.map ces clock) w := by simp [getObj, Sem.run, hh]
          simp only [hget, Result.andThen_ok, Sem.run_bind, hck]
          split at h
          · rename_i i v' hf
            cases h
            obtain ⟨r', hr, hfr⟩ := sim_find (w := w) hkq hk e1 e2 hf
            rcases r' with _ | ⟨j, c⟩
            · exact hfr.elim
            · obtain ⟨rfl, _⟩ := hfr
              obtain ⟨_, k', b, hki, hke⟩ := afind_get hf
              simp only [Nat.sub_zero] at hki
              obtain ⟨ck', hck', hkr⟩ := e1.get i k' (by simp [hki])
              have hold : ((ces[i]?).map (·.key)).getD ck = ck' := by
                simp at hck'
                obtain ⟨e, he, rfl⟩ := hck'
                simp [he]
              have hstay : (Instr.keyThatStays ck' ck).run P w = .ok ck w := by
                unfold Instr.keyThatStays
                simp [keq_bits hke hk hkr]
              simp only [hr, Result.andThen_ok, Sem.run_bind, hold, hstay, hset]
              refine ⟨_, rfl, hH.write id h1 hown _ _ ⟨g0, hown, ces.modify i fun e => { e with key := ck, val := cv }, by simp [hlt], ?_⟩⟩
              simpa using setKV_VRs (i := i) e1 e2 e3 hk hv
          · rename_i hf
            cases h
            obtain ⟨r', hr, hfr⟩ := sim_find (w := w) hkq hk e1 e2 hf
            rcases r' with _ | ⟨j, c⟩
            · simp only [hr, Result.andThen_ok, hset]
              refine ⟨_, rfl, hH.write id h1 hown _ _ ⟨g0, hown, ces.push { key := ck, val := cv, born := clock }, by simp [hlt], ?_, ?_, ?_⟩⟩
              · simpa using e1.append (.cons _ _ _ _ hk .nil)
              · simpa using e2.append (.cons _ _ _ _ hv .nil)
              · simpa using e3
            · exact hfr.elim
          · cases h
      · cases h
    · cases h
  · cases h

theorem VRs.eraseIdx {S : Loc} : ∀ {l : List V} {l' : List Value} (n : Nat), VRs S l l' → VRs S (l.eraseIdx n) (l'.eraseIdx n)
  | [], [], _, _ => by simpa using VRs.nil
  | _ :: _, _ :: _, 0, .cons v c l l' h t => by simpa using t
  | _ :: _, _ :: _, n + 1, .cons v c l l' h t => by simpa using VRs.cons v c _ _ h (t.eraseIdx n)
theorem map_eraseIdx' {α β : Type} (f : α → β) : ∀ (l : List α) (n : Nat), (l.eraseIdx n).map f = (l.map f).eraseIdx n
  | [], n => by simp
  | x :: l, 0 => by simp
  | x :: l, n + 1 => by simp [map_eraseIdx' f l n]
theorem eraseIdxIfInBounds_toList {α : Type} (a : Array α) (i : Nat) : (a.eraseIdxIfInBounds i).toList = a.toList.eraseIdx i := by
  unfold Array.eraseIdxIfInBounds
  split
  · simp
  · rename_i h
    rw [List.eraseIdx_of_length_le (by simpa using h)]

theorem sim_delete (hH : HR C S H w) {t t2 ty : TypeId} {m k : V} {cm ck : Value} {H' : AH} (hm : VR S m cm) (hk : VR S k ck) (h : adelete P H t m k = some H') :
    ∃ w', (Builtin.delete_ #[t, t2] ty #[cm, ck]).run P w = .ok (.tuple #[]) w' ∧ HR C S H' w' := by
  unfold adelete at h
  split at h
  · rename_i kt et id hq
    have hu := qmap_spec hq
    split at h
    · rename_i hkq
      obtain ⟨hkq, hkf⟩ := hkq
      split at h
      · rename_i es clock hg
        cases hm with
        | m _ r h1 h2 =>
          have ho := hH.obj id _ hg
          obtain ⟨g0, hown, ces, hh, e1, e2, e3⟩ := ho
          have := h2 g0
          subst this
          have hlt : S.blk id < w.heap.size := (Array.getElem?_eq_some_iff.1 hh).1
          have hck : (Instr.checkKey ces.isEmpty 10000 kt ck).run P w = .ok () w := sim_checkKey _ hkq hkf hk
          have hset : ∀ o : Obj, (setObj (S.blk id) o).run P w = .ok () { w with heap := w.heap.setIfInBounds (S.blk id) o } := by
            intro o; simp [setObj, Sem.run, hh]
          have hget : (getObj (S.blk id)).run P w = .ok (.map ces clock) w := by simp [getObj, Sem.run, hh]
          split at h
          · rename_i i v' hf
            cases h
            obtain ⟨r', hr, hfr⟩ := sim_find (w := w) hkq hk e1 e2 hf
            rcases r' with _ | ⟨j, c⟩
            · exact hfr.elim
            · obtain ⟨rfl, _⟩ := hfr
              refine ⟨{ w with heap := w.heap.setIfInBounds (S.blk id) (.map (ces.eraseIdxIfInBounds i) clock) }, ?_, hH.write id h1 hown _ _ ⟨g0, hown, ces.eraseIdxIfInBounds i, by simp [hlt], ?_, ?_, ?_⟩⟩
              · simp [Builtin.delete_, run_underlying hu, hget, hck, hr, hset]
              · rw [eraseIdxIfInBounds_toList, map_eraseIdx', map_eraseIdx']; exact e1.eraseIdx i
              · rw [eraseIdxIfInBounds_toList, map_eraseIdx', map_eraseIdx']; exact e2.eraseIdx i
              · rw [eraseIdxIfInBounds_toList, map_eraseIdx', map_eraseIdx', e3]
          · rename_i hf
            cases h
            obtain ⟨r', hr, hfr⟩ := sim_find (w := w) hkq hk e1 e2 hf
            rcases r' with _ | ⟨j, c⟩
            · refine ⟨{ w with heap := w.heap.setIfInBounds (S.blk id) (.map ces clock) }, ?_, hH.write id h1 hown _ _ ⟨g0, hown, ces, by simp [hlt], e1, e2, e3⟩⟩
              simp [Builtin.delete_, run_underlying hu, hget, hck, hr, hset]
            · exact hfr.elim
          · cases h
      · cases h
    · cases h
  · cases h
theorem modify_keep {ces : Array MapEntry} {i : Nat} {e : MapEntry} (h : ces[i]? = some e) (ck : Value) : (ces.modify i fun e => { e with key := ck }) = ces.modify i fun e' => { e' with key := ck, val := e.val } := by
  apply Array.ext'
  simp only [Array.toList_modify]
  apply List.ext_getElem?
  intro j
  simp only [List.getElem?_modify]
  by_cases hij : i = j
  · subst hij
    have : ces.toList[i]? = some e := by simpa using h
    simp [this]
  · simp [hij]
theorem modify_keepV {es : List (V × V × Nat)} {ces : List MapEntry} {i : Nat} {v : V} {cv : Value} (h1 : VRs S (es.map (·.1)) (ces.map (·.key))) (h2 : VRs S (es.map (·.2.1)) (ces.map (·.val))) (h3 : es.map (·.2.2) = ces.map (·.born))
    (hv : VR S v cv) : VRs S ((setV es i v).map (·.1)) ((ces.modify i fun e => { e with val := cv }).map (·.key)) ∧ VRs S ((setV es i v).map (·.2.1)) ((ces.modify i fun e => { e with val := cv }).map (·.val)) ∧
      (setV es i v).map (·.2.2) = (ces.modify i fun e => { e with val := cv }).map (·.born) := by
  have hl : es.length = ces.length := by simpa using h1.length
  rcases Nat.lt_or_ge i es.length with hi | hi
  · have hc : ces[i]? = some ces[i] := by simp
    have he : es[i]? = some es[i] := by simp
    have hk : VR S es[i].1 ces[i].key := by
      obtain ⟨c, hc1, hc2⟩ := h1.get i es[i].1 (by simp [hi])
      simp at hc1
      obtain ⟨x, hx, rfl⟩ := hc1
      rw [hc] at hx; cases hx; exact hc2
    have := setKV_VRs (i := i) h1 h2 h3 hk hv
    have e1 : setKV es i es[i].1 v = setV es i v := by
      apply List.ext_getElem?
      intro j
      simp only [setKV, setV, List.getElem?_modify]
      by_cases hij : i = j
      · subst hij; simp [he]
      · simp [hij]
    have e2 : (ces.modify i fun e => { e with key := ces[i].key, val := cv }) = ces.modify i fun e => { e with val := cv } := by
      apply List.ext_getElem?
      intro j
      simp only [List.getElem?_modify]
      by_cases hij : i = j
      · subst hij; simp [hc]
      · simp [hij]
    rw [e1, e2] at this
    exact this
  · have e1 : setV es i v = es := by simp [setV, List.modify_eq_self hi]
    have e2 : (ces.modify i fun e => { e with val := cv }) = ces := List.modify_eq_self (by omega)
    rw [e1, e2]
    exact ⟨h1, h2, h3⟩
theorem sim_mapEntry (hH : HR C S H w) {t : TypeId} {m k v : V} {cm ck : Value} {H' : AH} (hm : VR S m cm) (hk : VR S k ck) (h : amapEntry P H t m k = some (v, H')) :
    ∃ w' cv, (Instr.mapEntry t cm ck).run P w = .ok cv w' ∧ VR S v cv ∧ HR C S H' w' := by
  unfold amapEntry at h
  split at h
  · rename_i kt et id hq
    have hu := qmap_spec hq
    split at h
    · rename_i hkq
      obtain ⟨hkq, hkf⟩ := hkq
      split at h
      · rename_i es clock hg
        cases hm with
        | m _ r h1 h2 =>
          have ho := hH.obj id _ hg
          obtain ⟨g0, hown, ces, hh, e1, e2, e3⟩ := ho
          have := h2 g0
          subst this
          have hlt : S.blk id < w.heap.size := (Array.getElem?_eq_some_iff.1 hh).1
          have hck : (Instr.checkKey false 10000 kt ck).run P w = .ok () w := sim_checkKey false hkq hkf hk
          have hset : ∀ o : Obj, (setObj (S.blk id) o).run P w = .ok () { w with heap := w.heap.setIfInBounds (S.blk id) o } := by
            intro o; simp [setObj, Sem.run, hh]
          unfold Instr.mapEntry
          simp only [Sem.run_bind, run_underlying hu, Result.andThen_ok]
          have hget : (getObj (S.blk id)).run P w = .ok (.map ces clock) w := by simp [getObj, Sem.run, hh]
          simp only [hget, Result.andThen_ok, Sem.run_bind, hck]
          split at h
          · rename_i i v' hf
            split at h
            · rename_i e he
              cases h
              obtain ⟨r', hr, hfr⟩ := sim_find (w := w) hkq hk e1 e2 hf
              rcases r' with _ | ⟨j, c⟩
              · exact hfr.elim
              · obtain ⟨rfl, hvc⟩ := hfr
                obtain ⟨_, k', b, hki, hke⟩ := afind_get hf
                simp only [Nat.sub_zero] at hki
                rw [he] at hki
                cases hki
                obtain ⟨ck', hck', hkr⟩ := e1.get i k' (by simp [he])
                obtain ⟨cc, hcc, hvr⟩ := e2.get i v' (by simp [he])
                have hcb : (es.map (·.2.2))[i]? = some b := by simp [he]
                rw [e3] at hcb
                simp at hck' hcc hcb
                obtain ⟨e, he', rfl⟩ := hck'
                obtain ⟨e', he'', rfl⟩ := hcc
                rw [he'] at he''; cases he''
                obtain ⟨e', he'', hbb⟩ := hcb
                rw [he'] at he''; cases he''
                have hold : ((ces[i]?).map (·.key)).getD ck = e.key := by simp [he']
                have hborn : ((ces[i]?).map fun x => (x.born : Int)).getD 0 = e.born := by simp [he']
                have hstay : (Instr.keyThatStays e.key ck).run P w = .ok ck w := by
                  unfold Instr.keyThatStays
                  simp [keq_bits hke hk hkr]
                simp only [hr, Result.andThen_ok, Sem.run_bind, hold, hstay, hset, Sem.run_pure]
                refine ⟨_, _, rfl, .tup _ [c, goInt _] (.cons _ _ _ _ hvc (.cons _ _ _ _ (by rw [hborn, hbb]; exact .i _ _) .nil)), hH.write id h1 hown _ _ ⟨g0, hown, ces.modify i fun e => { e with key := ck }, by simp [hlt], ?_⟩⟩
                rw [modify_keep he']
                simpa using setKV_VRs (i := i) e1 e2 e3 hk hvr
            · cases h
          · rename_i hf
            split at h
            · rename_i z hz
              cases h
              obtain ⟨cz, hcz, rfl⟩ := run_zeroValue w hz
              obtain ⟨r', hr, hfr⟩ := sim_find (w := w) hkq hk e1 e2 hf
              rcases r' with _ | ⟨j, c⟩
              · simp only [hr, Result.andThen_ok, hset, hcz, Sem.run_bind, Sem.run_pure]
                have hzv := absV_VR S cz
                refine ⟨_, _, rfl, .tup _ [cz, goInt _] (.cons _ _ _ _ hzv (.cons _ _ _ _ (.i _ _) .nil)), hH.write id h1 hown _ _ ⟨g0, hown, ces.push { key := ck, val := cz, born := clock }, by simp [hlt], ?_, ?_, ?_⟩⟩
                · simpa using e1.append (.cons _ _ _ _ hk .nil)
                · simpa using e2.append (.cons _ _ _ _ hzv .nil)
                · simpa using e3
              · exact hfr.elim
            · cases h
          · cases h
      · cases h
    · cases h
  · cases h
theorem findIdx_map {α β : Type} (f : α → Nat) (g : β → Nat) (b : Int) : ∀ (l : List α) (r : List β), l.map f = r.map g → l.findIdx? (fun e => (f e : Int) == b) = r.findIdx? (fun e => (g e : Int) == b)
  | [], [], _ => rfl
  | x :: l, [], h => by simp at h
  | [], y :: r, h => by simp at h
  | x :: l, y :: r, h => by
    simp only [List.map_cons, List.cons.injEq] at h
    simp only [List.findIdx?_cons, h.1, findIdx_map f g b l r h.2]
theorem sim_entryStore (hH : HR C S H w) {t : TypeId} {m b v : V} {cm cb cv : Value} {H' : AH} (hm : VR S m cm) (hb : VR S b cb) (hv : VR S v cv) (h : aentryStore H m b v = some H') :
    ∃ w', (Instr.entryStore t cm cb cv).run P w = .ok () w' ∧ HR C S H' w' := by
  unfold aentryStore at h
  split at h
  · rename_i id k b
    split at h
    · rename_i es clock hg
      split at h
      · rename_i i hi
        cases h
        cases hm with
        | m _ r h1 h2 =>
          cases hb
          have ho := hH.obj id _ hg
          obtain ⟨g0, hown, ces, hh, e1, e2, e3⟩ := ho
          have := h2 g0
          subst this
          have hlt : S.blk id < w.heap.size := (Array.getElem?_eq_some_iff.1 hh).1
          have hset : ∀ o : Obj, (setObj (S.blk id) o).run P w = .ok () { w with heap := w.heap.setIfInBounds (S.blk id) o } := by
            intro o; simp [setObj, Sem.run, hh]
          have hget : (getObj (S.blk id)).run P w = .ok (.map ces clock) w := by simp [getObj, Sem.run, hh]
          have hfi : ces.findIdx? (fun e => (e.born : Int) == b) = some i := by
            obtain ⟨cl⟩ := ces; rw [List.findIdx?_toArray, ← findIdx_map (fun e : V × V × Nat => e.2.2) (fun e : MapEntry => e.born) b es cl e3]; exact hi
          refine ⟨{ w with heap := w.heap.setIfInBounds (S.blk id) (.map (ces.modify i fun e => { e with val := cv }) clock) }, ?_, hH.write id h1 hown _ _ ⟨g0, hown, ces.modify i fun e => { e with val := cv }, by simp [hlt], ?_⟩⟩
          · simp [Instr.entryStore, hget, asInt, asIntOf, hfi, hset]
          · simpa using modify_keepV (i := i) e1 e2 e3 hv
      · cases h
    · cases h
  · cases h
theorem sim_typeAssert {t0 t : TypeId} {ok : Bool} {x v : V} {cx : Value} (hx : VR S x cx) (h : atypeAssert P t ok x = some v) : ∃ cv, (Instr.typeAssert cx t0 t ok).run P w = .ok cv w ∧ VR S v cv := by
  unfold atypeAssert at h
  split at h
  · cases h
  · cases h
  · rename_i d hn hu
    split at h
    · rename_i u y
      cases hx with
      | ifc _ _ c hc =>
        split at h
        · rename_i e
          subst e
          cases h
          refine ⟨if ok then .tuple #[c, .bool true] else c, ?_, ?_⟩
          · unfold Instr.typeAssert
            simp only [Sem.run_bind, run_underlying hu, Result.andThen_ok]
            cases d <;> first | exact (hn _ rfl).elim | simp
          · cases ok
            · exact hc
            · exact .tup _ [c, _] (.cons _ _ _ _ hc (.cons _ _ _ _ (.b _) .nil))
        · rename_i e
          split at h
          · rename_i hok
            subst hok
            simp only [Option.map_eq_some_iff] at h
            obtain ⟨z, hz, rfl⟩ := h
            obtain ⟨cz, hcz, rfl⟩ := run_zeroValue w hz
            refine ⟨.tuple #[cz, .bool false], ?_, .tup _ [cz, _] (.cons _ _ _ _ (absV_VR S cz) (.cons _ _ _ _ (.b _) .nil))⟩
            unfold Instr.typeAssert
            simp only [Sem.run_bind, run_underlying hu, Result.andThen_ok]
            cases d <;> first | exact (hn _ rfl).elim | simp [e, hcz]
          · cases h
    · cases hx
      split at h
      · rename_i hok
        subst hok
        simp only [Option.map_eq_some_iff] at h
        obtain ⟨z, hz, rfl⟩ := h
        obtain ⟨cz, hcz, rfl⟩ := run_zeroValue w hz
        refine ⟨.tuple #[cz, .bool false], ?_, .tup _ [cz, _] (.cons _ _ _ _ (absV_VR S cz) (.cons _ _ _ _ (.b _) .nil))⟩
        unfold Instr.typeAssert
        simp only [Sem.run_bind, run_underlying hu, Result.andThen_ok]
        cases d <;> first | exact (hn _ rfl).elim | simp [hcz]
      · cases h
    · cases h
end
end Go.Abs
