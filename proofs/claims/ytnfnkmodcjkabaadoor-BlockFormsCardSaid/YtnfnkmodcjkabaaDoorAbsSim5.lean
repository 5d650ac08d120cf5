/-
  Composite values; all operations together.
-/
import Derived.Test.YtnfnkmodcjkabaaDoorAbsIter
set_option linter.unusedVariables false
set_option linter.unusedSimpArgs false
namespace Go.Abs
open Go Go.RowKit

section
variable {C : Ctx} {P : Program} {S : Loc} {H : AH} {w : World}

theorem VRs.splice {l k : List V} {l' k' : List Value} (h : VRs S l l') (hk : VRs S k k') (off : Nat) : VRs S (splice l off k) (l'.take off ++ k' ++ l'.drop (off + k'.length)) := by
  unfold Abs.splice
  rw [hk.length]
  exact ((h.take off).append hk).append (h.drop _)

/-- What the model's fill does, as a splice. -/
theorem fold_splice (off : Nat) : ∀ (vs : List Value) (i : Nat) (cs : Array Value), off + i + vs.length ≤ cs.size →
    ((vs.zipIdx i).foldl (fun cs (x : Value × Nat) => cs.setIfInBounds (off + x.2) x.1) cs) = csplice cs (off + i) vs
  | [], i, cs, _ => by simp [csplice_nil]
  | v :: vs, i, cs, h => by
    simp only [List.zipIdx_cons, List.foldl_cons]
    rw [fold_splice off vs (i + 1) _ (by simp at h ⊢; omega)]
    rw [show off + (i + 1) = off + i + 1 by omega, csplice_cons cs (off + i) v vs (by simp at h; omega)]

theorem sim_fill (place : Nat → Option (Nat × Nat)) (place' : Nat → Option (Nat × Nat)) (hp : ∀ i x, place i = some x → place' i = some x) : ∀ (parts : List (Nat × V)) (parts' : List (Nat × Value)) (cells l : List V) (cells' : List Value),
    parts.map (·.1) = parts'.map (·.1) → VRs S (parts.map (·.2)) (parts'.map (·.2)) → VRs S cells cells' → (∀ c ∈ cells', c.oneCell' = true) → afill place cells parts = some l →
    ∃ l' : List Value, Instr.fill place' cells'.toArray parts' = some l'.toArray ∧ VRs S l l' ∧ ∀ c ∈ l', c.oneCell' = true
  | [], [], cells, l, cells', _, _, hc, h1, h => by
    simp [afill] at h; subst h
    exact ⟨cells', rfl, hc, h1⟩
  | (i, v) :: parts, (i', c) :: parts', cells, l, cells', he, .cons _ _ _ _ hv ht, hc, h1, h => by
    have hi : i = i' := by simpa using (List.cons.inj he).1
    subst hi
    have he' : parts.map (·.1) = parts'.map (·.1) := (List.cons.inj he).2
    simp only [afill] at h
    split at h
    · rename_i off size k hpl hcl
      split at h
      · rename_i hlen
        obtain ⟨k', hck, hkv, hk1⟩ := V.cells_VR hv hcl
        have hkl := hkv.length
        have hcl2 := hc.length
        have hsz : k'.toArray.size = size := by simp; omega
        have hfold : (k'.toArray.zipIdx.foldl (fun cs (x : Value × Nat) => cs.setIfInBounds (off + x.2) x.1) cells'.toArray) = csplice cells'.toArray off k' := by
          have := fold_splice off k' 0 cells'.toArray (by simp; omega)
          simpa using this
        obtain ⟨l', hf, hl', ho⟩ := sim_fill place place' hp parts parts' (splice cells off k) l (cells'.take off ++ k' ++ cells'.drop (off + k'.length)) he' ht (hc.splice hkv off) (by
          intro x hx
          simp only [List.mem_append] at hx
          rcases hx with (hx | hx) | hx
          · exact h1 x (List.mem_of_mem_take hx)
          · exact hk1 x hx
          · exact h1 x (List.mem_of_mem_drop hx)) h
        refine ⟨l', ?_, hl', ho⟩
        simp only [Instr.fill, hp _ _ hpl, hck, hsz, bne_self_eq_false, Bool.false_or, ne_eq, not_true_eq_false, decide_false]
        have : ¬ (off + size > cells'.toArray.size) := by simp; omega
        simp only [this, decide_false, Bool.false_eq_true, if_false]
        rw [hfold]
        exact hf
      · cases h
    · cases h
  | [], _ :: _, _, _, _, h, _, _, _, _ => by simp at h
  | _ :: _, [], _, _, _, h, _, _, _, _ => by simp at h

theorem qplaces_run {t : TypeId} {pl : List (Nat × Nat)} (h : qplaces P t = some pl) :
    ∃ fs, P.underlying t = some (.struct fs) ∧ ∀ w : World, (fs.mapM (fun f => do pure (f.offset, ← sizeOf f.type) : Field → Sem (Nat × Nat))).run P w = .ok pl.toArray w := by
  unfold qplaces at h
  split at h
  · rename_i fs hu
    refine ⟨fs, hu, fun w => ?_⟩
    rw [Array.mapM_eq_mapM_toList]
    generalize fs.toList = l at h
    clear hu
    have key : ∀ (l : List Field) (pl : List (Nat × Nat)), (l.mapM fun f => (P.info? f.type).map fun i => (f.offset, i.size)) = some pl →
        (l.mapM (fun f => do pure (f.offset, ← sizeOf f.type) : Field → Sem (Nat × Nat))).run P w = .ok pl w := by
      intro l
      induction l with
      | nil => intro pl h; simp at h; subst h; simp
      | cons f l ih =>
        intro pl h
        simp only [List.mapM_cons, Option.bind_eq_bind, Option.bind_eq_some_iff, Option.pure_def] at h
        obtain ⟨x, hx, h⟩ := h
        obtain ⟨pl', hpl, h⟩ := h
        cases h
        simp only [Option.map_eq_some_iff] at hx
        obtain ⟨i, hi, rfl⟩ := hx
        have hs : qsize P f.type = some i.size := by simp [qsize, hi]
        simp only [List.mapM_cons, Sem.run_bind, run_sizeOf w hs, Result.andThen_ok, Sem.run_pure, ih pl' hpl]
    rw [Sem.run_map, key l pl h]; rfl
  · cases h

theorem sim_build {t : TypeId} {parts : List (Nat × V)} {parts' : Array (Nat × Value)} {v : V} (he : parts.map (·.1) = parts'.toList.map (·.1)) (hv : VRs S (parts.map (·.2)) (parts'.toList.map (·.2))) (h : abuild P t parts = some v) :
    ∃ cv, (∀ w, (Instr.build t parts').run P w = .ok cv w) ∧ VR S v cv := by
  unfold abuild at h
  split at h
  · rename_i pl z hpl hz
    simp only [Option.map_eq_some_iff] at h
    obtain ⟨l, hl, rfl⟩ := h
    obtain ⟨fs, hu, hm⟩ := qplaces_run hpl
    obtain ⟨zc, hzr, hza⟩ := run_zeroValue' hz
    obtain ⟨z', hz', hzv, hz1⟩ := V.cells_VR (S := S) (hza ▸ absV_VR S zc) (show V.cells (.agg z) = some z from rfl)
    obtain ⟨l', hf, hl', h1⟩ := sim_fill (fun i => pl[i]?) (fun i => pl.toArray[i]?) (fun i x hx => by simpa using hx) parts parts'.toList z l z' he hv hzv hz1 hl
    refine ⟨.agg l'.toArray, ?_, .agg _ _ hl' h1⟩
    intro w
    unfold Instr.build
    simp only [Sem.run_bind, hzr, Result.andThen_ok, run_underlying hu, hm, hz', hf, Sem.run_pure]
  · split at h
    · rename_i n e z hq hz
      split at h
      · rename_i sz hsz
        simp only [Option.map_eq_some_iff] at h
        obtain ⟨l, hl, rfl⟩ := h
        have hu := qarr_spec hq
        obtain ⟨zc, hzr, hza⟩ := run_zeroValue' hz
        obtain ⟨z', hz', hzv, hz1⟩ := V.cells_VR (S := S) (hza ▸ absV_VR S zc) (show V.cells (.agg z) = some z from rfl)
        obtain ⟨l', hf, hl', h1⟩ := sim_fill (fun i => some (i * sz, sz)) (fun i => some (i * sz, sz)) (fun i x hx => hx) parts parts'.toList z l z' he hv hzv hz1 hl
        refine ⟨.agg l'.toArray, ?_, .agg _ _ hl' h1⟩
        intro w
        unfold Instr.build
        simp only [Sem.run_bind, hzr, Result.andThen_ok, run_underlying hu, run_sizeOf w hsz, hz', hf, Sem.run_pure]
      · cases h
    · cases h

theorem flat_get {α : Type} [Inhabited α] (n : Nat) (z : List α) (hz : 0 < z.length) : ((Array.range (n * z.length)).map (z.toArray[· % z.toArray.size]!)) = (List.replicate n z).flatten.toArray := by
  apply Array.ext'
  simp only [Array.toList_map, Array.toList_range, List.size_toArray]
  induction n with
  | zero => simp
  | succ n ih =>
    rw [List.replicate_succ', List.flatten_append, List.flatten_singleton, Nat.succ_mul, List.range_add, List.map_append, ih]
    congr 1
    apply List.ext_getElem?
    intro j
    simp only [List.map_map, List.getElem?_map, Function.comp]
    by_cases hj : j < z.length
    · simp [hj, List.getElem?_range, Nat.add_mod, Nat.mod_eq_of_lt hj]
    · simp [hj]

theorem sim_buildSlice (hH : HR C S H w) {t : TypeId} {n : Nat} {parts : List (Nat × V)} {parts' : Array (Nat × Value)} {v : V} {H' : AH} (he : parts.map (·.1) = parts'.toList.map (·.1)) (hv : VRs S (parts.map (·.2)) (parts'.toList.map (·.2)))
    (h : abuildSlice P H t n parts = some (v, H')) : ∃ S' cv w', (Instr.buildSlice t n parts').run P w = .ok cv w' ∧ S.le S' ∧ VR S' v cv ∧ HR C S' H' w' := by
  unfold abuildSlice at h
  split at h
  · rename_i e hq
    have hu := qelem_spec hq
    split at h
    · rename_i sz z hsz hz
      split at h
      · rename_i zl hzl
        split at h
        · rename_i hc
          obtain ⟨hlen, hn, hpos⟩ := hc
          split at h
          · rename_i l hl
            cases h
            obtain ⟨zc, hzr, hza⟩ := run_zeroValue w hz
            obtain ⟨z', hz', hzv, hz1⟩ := V.cells_VR (S := S) (hza ▸ absV_VR S zc) hzl
            have hzl' := hzv.length
            have hrep : VRs S (List.replicate n zl).flatten (List.replicate n z').flatten := by
              clear hl hn
              induction n with
              | zero => exact .nil
              | succ n ih => simpa [List.replicate_succ] using hzv.append ih
            obtain ⟨l', hf, hl', h1⟩ := sim_fill (fun i => some (i * sz, sz)) (fun i => some (i * sz, sz)) (fun i x hx => hx) parts parts'.toList _ l _ he hv hrep (by
              intro c hc
              simp only [List.mem_flatten, List.mem_replicate] at hc
              obtain ⟨_, ⟨_, rfl⟩, hc⟩ := hc
              exact hz1 c hc) hl
            have hnw := sim_new (C := C) (S := S) (H := H) (w := w) hH hl' h1 e sz []
            simp only [List.append_nil] at hnw
            have hll : l'.length = n * sz := by
              have := hl'.length
              -- the fill keeps the length
              have key : ∀ (parts : List (Nat × V)) (cells l : List V), afill (fun i => some (i * sz, sz)) cells parts = some l → l.length = cells.length := by
                intro parts
                induction parts with
                | nil => intro cells l h; simp [afill] at h; subst h; rfl
                | cons x parts ih =>
                  obtain ⟨i, u⟩ := x
                  intro cells l h
                  simp only [afill] at h
                  split at h
                  · rename_i off size k hpl hcl
                    split at h
                    · rename_i hb
                      rw [ih _ _ h]
                      simp [Abs.splice]; omega
                    · cases h
                  · cases h
              have := key _ _ _ hl
              simp [hlen] at this
              omega
            refine ⟨_, .slice (some ⟨w.heap.size, 0, none⟩) n n, _, ?_, Loc.le_add .., ?_, hnw⟩
            · unfold Instr.buildSlice
              simp only [Sem.run_bind, run_underlying hu, Result.andThen_ok, run_sizeOf w hsz]
              have h24 : ¬ (n * sz > 2 ^ 24) := by
                have : (2 : Nat) ^ 24 = 16777216 := by decide
                omega
              rw [if_neg h24]
              by_cases h0 : n * sz = 0
              · have hn0 : n = 0 := by
                  rcases Nat.mul_eq_zero.1 h0 with h | h
                  · exact h
                  · omega
                subst hn0
                simp only [Nat.zero_mul, if_true, Sem.run_pure, Result.andThen_ok]
                simp only [List.replicate_zero, List.flatten_nil] at hf
                have e0 : (Array.map (fun x => (#[] : Array Value)[x % (#[] : Array Value).size]!) (Array.range 0)) = ([] : List Value).toArray := by simp
                simp only [e0, hf, newRow, Sem.run_bind, run_newObj, Result.andThen_ok, Sem.run_pure]
              · rw [if_neg h0]
                have hfl := flat_get n z' (by omega)
                have hzz : z'.length = sz := by omega
                rw [hzz] at hfl
                simp only [Sem.run_bind, hzr, Result.andThen_ok, Sem.run_pure, hz', hfl, hf, newRow, run_newObj]
            · rw [hH.next]
              refine .sl _ _ _ _ _ _ _ (by simp [Loc.add]) (by simp [Loc.add]) (Nat.le_refl _) (fun _ _ => by simp [Loc.add]) (fun h => by cases h) (fun _ _ _ _ => ?_)
              simp [Loc.add, hll]
          · cases h
        · cases h
      · cases h
    · cases h
  · cases h

theorem qconcrete_spec {t : TypeId} (h : qconcrete P t = true) (x : Value) : (Instr.makeInterface t x).run P w = .ok (.iface t x) w := by
  unfold qconcrete at h
  unfold Instr.makeInterface
  cases hu : P.underlying t with
  | none => simp [hu] at h
  | some d =>
    simp only [Sem.run_bind, run_underlying hu, Result.andThen_ok]
    cases d <;> simp_all

theorem evs_VRs {ev : Operand → V} {cev : Operand → Value} (hE : ∀ x, VR S (ev x) (cev x)) : ∀ l : List Operand, VRs S (l.map ev) (l.map cev)
  | [] => .nil
  | x :: l => .cons _ _ _ _ (hE x) (evs_VRs hE l)
theorem evo_VRo {ev : Operand → V} {cev : Operand → Value} (hE : ∀ x, VR S (ev x) (cev x)) (x : Option Operand) : VRo S (evo ev x) (x.map cev) := by
  cases x with
  | none => trivial
  | some x => exact hE x

/-- WHAT AN OPERATION DOES IN THE MODEL. -/
def OpDoes (C : Ctx) (P : Program) (S : Loc) (H' : AH) (w : World) (v : V) (s : Sem Next) : Prop :=
  ∃ S' cv w', (s.run P w = .ok (.value cv) w' ∨ (s.run P w = .ok .skip w' ∧ cv = undef)) ∧ S.le S' ∧ VR S' v cv ∧ HR C S' H' w'

theorem OpDoes.val {s : Sem Value} {v : V} (hH : HR C S H w) (h : ∃ cv, s.run P w = .ok cv w ∧ VR S v cv) : OpDoes C P S H w v (do pure (.value (← s))) := by
  obtain ⟨cv, hr, hv⟩ := h
  exact ⟨S, cv, w, .inl (by simp [hr]), Loc.le.refl S, hv, hH⟩
theorem OpDoes.valP {s : Sem Value} {v : V} (hH : HR C S H w) (h : ∃ cv, (∀ w, s.run P w = .ok cv w) ∧ VR S v cv) : OpDoes C P S H w v (do pure (.value (← s))) := by
  obtain ⟨cv, hr, hv⟩ := h
  exact OpDoes.val hH ⟨cv, hr w, hv⟩
theorem OpDoes.valW {s : Sem Value} {v : V} {H' : AH} (h : ∃ S' cv w', s.run P w = .ok cv w' ∧ S.le S' ∧ VR S' v cv ∧ HR C S' H' w') : OpDoes C P S H' w v (do pure (.value (← s))) := by
  obtain ⟨S', cv, w', hr, hS, hv, hH⟩ := h
  exact ⟨S', cv, w', .inl (by simp [hr]), hS, hv, hH⟩
theorem OpDoes.unit {s : Sem Unit} {H' : AH} (h : ∃ w', s.run P w = .ok () w' ∧ HR C S H' w') : OpDoes C P S H' w .un (do s; pure .skip) := by
  obtain ⟨w', hr, hH⟩ := h
  exact ⟨S, undef, w', .inr ⟨by simp [hr], rfl⟩, Loc.le.refl S, .un _, hH⟩

theorem sim_newv {v : V} {cv : Value} {l : List V} (hH : HR C S H w) (hv : VR S v cv) (hl : v.cells = some l) (t : TypeId) :
    ∃ S' cp w', (newVar t cv).run P w = .ok cp w' ∧ S.le S' ∧ VR S' (.p (some (H.next, 0, 0))) (.pointer (some cp)) ∧ HR C S' (H.new (.cells l 0 false 0)) w' := by
  obtain ⟨l', hc, hvs, h1⟩ := V.cells_VR hv hl
  have hnw := sim_new (C := C) (S := S) (H := H) (w := w) hH hvs h1 t 0 []
  simp only [List.append_nil] at hnw
  refine ⟨_, ⟨w.heap.size, 0, none⟩, _, ?_, Loc.le_add .., ?_, hnw⟩
  · unfold newVar newRow
    simp [hc]
  · rw [hH.next]
    exact .p _ _ _ _ (by simp [Loc.add]) (by simp [Loc.add]) (fun _ => by simp [Loc.add])

theorem sim_aop {o : Oper} {ev : Operand → V} {cev : Operand → Value} {v : V} {H' : AH} (hH : HR C S H w) (hE : ∀ x, VR S (ev x) (cev x)) (h : aop P o.op ev H = some (v, H')) :
    OpDoes C P S H' w v (execOp cev o) := by
  have mapH : ∀ {x : Option V}, x.map (·, H) = some (v, H') → x = some v ∧ H' = H := by
    intro x hx
    cases x with
    | none => simp at hx
    | some y => simp at hx; exact ⟨by rw [hx.1], hx.2.symm⟩
  have mapU : ∀ {x : Option AH}, x.map ((.un : V), ·) = some (v, H') → x = some H' ∧ v = .un := by
    intro x hx
    cases x with
    | none => simp at hx
    | some y => simp at hx; exact ⟨by rw [hx.2], hx.1.symm⟩
  unfold aop at h
  unfold execOp
  split at h
  · rename_i x hop
    cases h
    rw [hop]
    exact ⟨S, cev x, w, .inl (by simp), Loc.le.refl S, hE x, hH⟩
  · rename_i x hop
    cases h
    rw [hop]
    exact ⟨S, cev x, w, .inl (by simp), Loc.le.refl S, hE x, hH⟩
  · rename_i c a b hop
    rw [hop]
    have hc := hE c
    split at h <;> cases h
    · rename_i hcb
      rw [hcb] at hc
      generalize hcx : cev c = cc at hc
      cases hc
      exact ⟨S, cev a, w, .inl (by simp [asBool, hcx]), Loc.le.refl S, hE a, hH⟩
    · rename_i hcb
      rw [hcb] at hc
      generalize hcx : cev c = cc at hc
      cases hc
      exact ⟨S, cev b, w, .inl (by simp [asBool, hcx]), Loc.le.refl S, hE b, hH⟩
  · rename_i t hop
    rw [hop]
    split at h
    · rename_i z hz
      cases hzl : z.cells with
      | none => simp [hzl] at h
      | some l =>
        simp only [hzl, Option.map_some, Option.some.injEq, Prod.mk.injEq] at h
        obtain ⟨rfl, rfl⟩ := h
        obtain ⟨zc, hzr, rfl⟩ := run_zeroValue w hz
        obtain ⟨S', cp, w', hr, hS, hv, hH'⟩ := sim_newv (P := P) hH (absV_VR S zc) hzl t
        refine OpDoes.valW ⟨S', .pointer (some cp), w', ?_, hS, hv, hH'⟩
        unfold Instr.alloc
        simp [hzr, hr]
    · cases h
  · rename_i t x hop
    rw [hop]
    cases hzl : (ev x).cells with
    | none => simp [hzl] at h
    | some l =>
      simp only [hzl, Option.map_some, Option.some.injEq, Prod.mk.injEq] at h
      obtain ⟨rfl, rfl⟩ := h
      obtain ⟨S', cp, w', hr, hS, hv, hH'⟩ := sim_newv (P := P) hH (hE x) hzl t
      refine OpDoes.valW ⟨S', .pointer (some cp), w', ?_, hS, hv, hH'⟩
      unfold Instr.box
      simp [hr]
  · rename_i t parts hop
    rw [hop]
    obtain ⟨hb, rfl⟩ := mapH h
    refine OpDoes.valP hH (sim_build ?_ ?_ hb)
    · simp
    · simpa [Function.comp_def] using evs_VRs hE (parts.toList.map (·.2))
  · rename_i t n parts hop
    rw [hop]
    refine OpDoes.valW (sim_buildSlice hH ?_ ?_ h)
    · simp
    · simpa [Function.comp_def] using evs_VRs hE (parts.toList.map (·.2))
  · rename_i t a hop
    rw [hop]
    obtain ⟨hb, rfl⟩ := mapH h
    exact OpDoes.val hH (sim_load hH (hE a) hb)
  · rename_i t a x hop
    rw [hop]
    obtain ⟨hb, rfl⟩ := mapU h
    exact OpDoes.unit (sim_store hH (hE a) (hE x) hb)
  · rename_i x hop
    rw [hop]
    have hx := hE x
    split at h <;> cases h
    · rename_i q hq
      rw [hq] at hx
      dsimp only
      generalize cev x = cx at hx
      cases hx with
      | p id g off a h1 h2 h3 => exact ⟨S, _, w, .inl (by simp), Loc.le.refl S, .p id g off a h1 h2 h3, hH⟩
    · rename_i t u hq
      rw [hq] at hx
      dsimp only
      generalize cev x = cx at hx
      cases hx with
      | ifc _ _ c hc => exact ⟨S, _, w, .inl (by simp), Loc.le.refl S, .ifc t u c hc, hH⟩
    · rename_i f a b hq
      rw [hq] at hx
      dsimp only
      generalize cev x = cx at hx
      cases hx with
      | fn _ _ _ a' b' h1 h2 => exact ⟨S, _, w, .inl (by simp), Loc.le.refl S, .fn _ _ _ a' b' h1 h2, hH⟩
  · rename_i op t x y t2 hop
    rw [hop]
    obtain ⟨hb, rfl⟩ := mapH h
    exact OpDoes.valP hH (sim_bin (hE x) (hE y) hb x y)
  · rename_i op t x hop
    rw [hop]
    obtain ⟨hb, rfl⟩ := mapH h
    exact OpDoes.valP hH (sim_unary (hE x) hb)
  · rename_i src dst x hop
    rw [hop]
    exact OpDoes.valW (sim_convert hH (hE x) h)
  · rename_i t x hop
    rw [hop]
    split at h <;> cases h
    rename_i hq
    exact OpDoes.val hH ⟨.iface t (cev x), qconcrete_spec hq _, .ifc _ _ _ (hE x)⟩
  · rename_i fn first caps hop
    rw [hop]
    cases h
    refine OpDoes.val hH ⟨.func fn (first.map cev) (caps.map cev), rfl, ?_⟩
    have := VR.fn (S := S) fn (evs ev first) (evs ev caps) (first.toList.map cev) (caps.toList.map cev) (evs_VRs hE _) (evs_VRs hE _)
    have e : ∀ xs : Array Operand, (xs.toList.map cev).toArray = xs.map cev := fun xs => by apply Array.ext'; simp
    rw [e, e] at this
    exact this
  · rename_i t hop
    rw [hop]
    cases h
    refine OpDoes.valW ⟨S.add w.heap.size 0 0 0, .map (some w.heap.size), { w with heap := w.heap.push (.map #[] 0) }, ?_, Loc.le_add .., ?_, ?_⟩
    · simp only [Instr.makeMap]; rfl
    · rw [hH.next]; exact .m _ _ (by simp [Loc.add]) (fun _ => by simp [Loc.add])
    · exact hH.new _ _ _ _ ⟨by simp [Loc.add], by simp [Loc.add], #[], by simp [Loc.add], by simpa using VRs.nil, by simpa using VRs.nil, by simp⟩
  · rename_i t x lo hi mx hop
    rw [hop]
    obtain ⟨hb, rfl⟩ := mapH h
    exact OpDoes.val hH (sim_slice hH (hE x) (evo_VRo hE lo) (evo_VRo hE hi) (evo_VRo hE mx) hb)
  · rename_i t x f hop
    rw [hop]
    obtain ⟨hb, rfl⟩ := mapH h
    exact OpDoes.valP hH (sim_fieldAddr (hE x) hb)
  · rename_i t x f hop
    rw [hop]
    obtain ⟨hb, rfl⟩ := mapH h
    exact OpDoes.valP hH (sim_field (hE x) hb)
  · rename_i t x i hop
    rw [hop]
    obtain ⟨hb, rfl⟩ := mapH h
    exact OpDoes.valP hH (sim_indexAddr (hE x) (hE i) hb)
  · rename_i t x i hop
    rw [hop]
    obtain ⟨hb, rfl⟩ := mapH h
    exact OpDoes.valP hH (sim_index (hE x) (hE i) hb)
  · rename_i t x k ok hop
    rw [hop]
    obtain ⟨hb, rfl⟩ := mapH h
    exact OpDoes.val hH (sim_lookup hH (hE x) (hE k) hb)
  · rename_i t m k x hop
    rw [hop]
    obtain ⟨hb, rfl⟩ := mapU h
    exact OpDoes.unit (sim_mapUpdate hH (hE m) (hE k) (hE x) hb)
  · rename_i t m k x hop
    rw [hop]
    obtain ⟨hb, rfl⟩ := mapU h
    exact OpDoes.unit (sim_mapUpdate hH (hE m) (hE k) (hE x) hb)
  · rename_i t m k hop
    rw [hop]
    obtain ⟨w', cv, hr, hv, hH'⟩ := sim_mapEntry hH (hE m) (hE k) h
    exact OpDoes.valW ⟨S, cv, w', hr, Loc.le.refl S, hv, hH'⟩
  · rename_i t m b x hop
    rw [hop]
    obtain ⟨hb, rfl⟩ := mapU h
    exact OpDoes.unit (sim_entryStore hH (hE m) (hE b) (hE x) hb)
  · rename_i x t0 t ok hop
    rw [hop]
    obtain ⟨hb, rfl⟩ := mapH h
    exact OpDoes.val hH (sim_typeAssert (hE x) hb)
  · rename_i t x hop
    rw [hop]
    exact OpDoes.valW (sim_range hH (hE x) h)
  · rename_i x hop
    rw [hop]
    obtain ⟨hb, rfl⟩ := mapH h
    exact OpDoes.val hH (sim_entry hH (hE x) hb)
  · rename_i x hop
    rw [hop]
    exact OpDoes.valW (sim_nextS hH (hE x) h)
  · rename_i x i hop
    rw [hop]
    have hx := hE x
    split at h
    · rename_i l hl
      obtain ⟨hb, rfl⟩ := mapH h
      rw [hl] at hx
      refine OpDoes.val hH ?_
      generalize cev x = cx at hx
      cases hx with
      | tup _ l' hv =>
        obtain ⟨c, hc, hcv⟩ := hv.get i v hb
        exact ⟨c, by simp [Instr.extract, hc], hcv⟩
    · cases h
  · rename_i b args argTypes hop
    rw [hop]
    have hargs := evs_VRs hE args.toList
    dsimp only
    simp only [resolve, pure_bind, invoke]
    have e : (args.map cev).toList = args.toList.map cev := by simp
    generalize args.map cev = cargs at e ⊢
    obtain ⟨cargs⟩ := cargs
    simp only at e
    subst e
    generalize args.toList.map ev = avs at h hargs
    generalize args.toList.map cev = acs at h hargs ⊢
    obtain ⟨argTypes⟩ := argTypes
    simp only at h
    split at h
    · cases hargs with
      | cons _ c _ _ hc ht =>
        cases ht
        obtain ⟨hb, rfl⟩ := mapH h
        exact OpDoes.val hH (sim_len hH hc hb)
    · cases hargs with
      | cons _ c _ _ hc ht =>
        cases ht with
        | cons _ d _ _ hd ht =>
          cases ht
          exact OpDoes.valW (sim_append hH hc hd h)
    · cases hargs with
      | cons _ c _ l' hc ht =>
        obtain ⟨hb, rfl⟩ := mapH h
        exact OpDoes.val hH (sim_fold sim_min2 _ l' _ c v ht hc hb)
    · cases hargs with
      | cons _ c _ l' hc ht =>
        obtain ⟨hb, rfl⟩ := mapH h
        exact OpDoes.val hH (sim_fold sim_max2 _ l' _ c v ht hc hb)
    · cases hargs with
      | cons _ c _ _ hc ht =>
        cases ht with
        | cons _ d _ _ hd ht =>
          cases ht
          obtain ⟨hb, rfl⟩ := mapU h
          obtain ⟨w', hr, hH'⟩ := sim_delete (ty := o.type) hH hc hd hb
          exact OpDoes.valW ⟨S, _, w', hr, Loc.le.refl S, .un _, hH'⟩
    · cases h
  · cases h
end
end Go.Abs
