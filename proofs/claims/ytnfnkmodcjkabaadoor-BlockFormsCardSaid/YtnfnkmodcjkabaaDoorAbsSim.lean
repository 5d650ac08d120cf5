/-
  Each operation of the abstract machine is what the model's operation does.
-/
import Derived.Test.YtnfnkmodcjkabaaDoorAbsOps
import Derived.Laws.AppendOwn
import Derived.Laws.StructEq
set_option linter.unusedVariables false
set_option linter.unusedSimpArgs false
namespace Go.Abs
open Go Go.RowKit

theorem add_none (b o j : Nat) : (⟨b, o, none⟩ : Addr).add j = ⟨b, o + j, none⟩ := by
  unfold Addr.add; split <;> simp_all

theorem cells_of {S : Loc} : ∀ (l : List V) (f : Nat → Option Value), (∀ (j : Nat) (v : V), l[j]? = some v → ∃ cv, f j = some cv ∧ VR S v cv ∧ cv.oneCell' = true) →
    ∃ cs : List Value, VRs S l cs ∧ (∀ (j : Nat) (v : Value), cs[j]? = some v → f j = some v) ∧ ∀ c ∈ cs, c.oneCell' = true
  | [], f, h => ⟨[], .nil, by simp, by simp⟩
  | v :: l, f, h => by
    obtain ⟨cv, h0, hv, h1⟩ := h 0 v rfl
    obtain ⟨cs, hcs, hf, ho⟩ := cells_of l (fun j => f (j + 1)) (fun j u hu => h (j + 1) u (by simpa using hu))
    refine ⟨cv :: cs, .cons _ _ _ _ hv hcs, fun j u hu => ?_, fun c hc => ?_⟩
    · cases j with
      | zero => simp at hu; subst hu; exact h0
      | succ j => simp at hu; exact hf j u hu
    · rcases List.mem_cons.1 hc with rfl | hc
      · exact h1
      · exact ho c hc

/-- What a part of an object is in the world. -/
theorem OR.part {S : Loc} {w : World} {id : Nat} {c : List V} {g : Nat} {ro : Bool} {esz : Nat} (h : OR S w id (.cells c g ro esz)) (off n : Nat) (hn : off + n ≤ c.length) :
    ∃ cs : List Value, VRs S ((c.drop off).take n) cs ∧ cs.length = n ∧ (∀ (j : Nat) (v : Value), cs[j]? = some v → w.cell? ((⟨S.blk id, S.base id + off, none⟩ : Addr).add j) = some v) ∧ ∀ c ∈ cs, c.oneCell' = true := by
  obtain ⟨cs, h1, h2, h3⟩ := cells_of (S := S) ((c.drop off).take n) (fun j => w.cell? ⟨S.blk id, S.base id + off + j, none⟩) (by
    intro j v hj
    rw [List.getElem?_take] at hj
    split at hj
    · rw [List.getElem?_drop] at hj
      have := h.2.2.1 (off + j) v hj
      simpa [Nat.add_assoc] using this
    · cases hj)
  refine ⟨cs, h1, ?_, fun j v hj => by rw [add_none]; exact h2 j v hj, h3⟩
  rw [← h1.length]; simp; omega

theorem descAgg_some {P : Program} {t : TypeId} {x : Bool} (h : qagg P t = some x) : ∃ d, P.underlying t = some d ∧ descAgg d = x := by
  unfold qagg at h
  cases hu : P.underlying t with
  | none => simp [hu] at h
  | some d => simp [hu] at h; exact ⟨d, rfl, h⟩
theorem run_isAgg {P : Program} {t : TypeId} {x : Bool} (w : World) (h : qagg P t = some x) : (isAgg t).run P w = .ok x w := by
  obtain ⟨d, hd, hx⟩ := descAgg_some h
  subst hx
  unfold isAgg
  simp only [Sem.run_bind, run_underlying hd, Result.andThen_ok]
  cases d <;> simp [descAgg]
theorem run_typeInfo {P : Program} {t : TypeId} {i : TypeInfo} (w : World) (h : P.info? t = some i) : (typeInfo t).run P w = .ok i w := by
  unfold typeInfo; simp [h]
theorem run_sizeOf {P : Program} {t : TypeId} {n : Nat} (w : World) (h : qsize P t = some n) : (sizeOf t).run P w = .ok n w := by
  unfold qsize at h
  cases hi : P.info? t with
  | none => simp [hi] at h
  | some i =>
    simp [hi] at h
    unfold sizeOf
    simp [run_typeInfo w hi, h]
theorem run_zeroValue {P : Program} {t : TypeId} {v : V} (w : World) (h : qzero P t = some v) : ∃ z, (zeroValue t).run P w = .ok z w ∧ v = absV z := by
  unfold qzero at h
  cases hi : P.info? t with
  | none => simp [hi] at h
  | some i =>
    simp [hi] at h
    obtain ⟨z, hz, rfl⟩ := h
    refine ⟨z, ?_, rfl⟩
    unfold zeroValue
    simp [run_typeInfo w hi, hz]
theorem run_zeroValue' {P : Program} {t : TypeId} {v : V} (h : qzero P t = some v) : ∃ z, (∀ w, (zeroValue t).run P w = .ok z w) ∧ v = absV z := by
  unfold qzero at h
  cases hi : P.info? t with
  | none => simp [hi] at h
  | some i =>
    simp [hi] at h
    obtain ⟨z, hz, rfl⟩ := h
    refine ⟨z, fun w => ?_, rfl⟩
    unfold zeroValue
    simp [run_typeInfo w hi, hz]

section
variable {C : Ctx} {P : Program} {S : Loc} {H : AH} {w : World}

theorem sim_load {t : TypeId} {a v : V} {ca : Value} (h : HR C S H w) (ha : VR S a ca) (hl : aload P H t a = some v) :
    ∃ cv, (Instr.loadAt t ca).run P w = .ok cv w ∧ VR S v cv := by
  unfold aload at hl
  split at hl
  · rename_i id g off
    cases ha with
    | p _ _ _ ad h1 h2 h3 =>
      split at hl
      · rename_i c g' ro esz hg
        split at hl
        · rename_i hgg
          subst hgg
          have ho := h.obj id _ hg
          have := h3 ho.1
          subst this
          split at hl
          · rename_i n hq hs
            split at hl
            · rename_i hlen
              cases hl
              obtain ⟨cs, hv, hlen', hc, ho1⟩ := ho.part off n hlen
              refine ⟨.agg cs.toArray, ?_, .agg _ _ hv ho1⟩
              unfold Instr.loadAt Instr.sureAddr loadVar
              subst hlen'
              simp [run_isAgg w hq, run_sizeOf w hs, run_loadCells_list w _ cs hc]
            · cases hl
          · rename_i n hq hs
            obtain ⟨cv, hc, hv, _⟩ := ho.2.2.1 off v hl
            refine ⟨cv, ?_, hv⟩
            unfold Instr.loadAt Instr.sureAddr loadVar
            simp [run_isAgg w hq, hc]
          · cases hl
        · cases hl
      · cases hl
  · cases hl

/-- A row of cells with some of them written. -/
def csplice (cs : Array Value) (off : Nat) (vs : List Value) : Array Value := (cs.toList.take off ++ vs ++ cs.toList.drop (off + vs.length)).toArray
theorem csplice_size (cs : Array Value) (off : Nat) (vs : List Value) (h : off + vs.length ≤ cs.size) : (csplice cs off vs).size = cs.size := by
  unfold csplice
  simp only [List.size_toArray, List.length_append, List.length_take, List.length_drop, Array.length_toList]
  omega
theorem csplice_nil (cs : Array Value) (off : Nat) : csplice cs off [] = cs := by
  unfold csplice; simp
theorem csplice_cons (cs : Array Value) (off : Nat) (v : Value) (vs : List Value) (h : off + vs.length + 1 ≤ cs.size) :
    csplice (cs.setIfInBounds off v) (off + 1) vs = csplice cs off (v :: vs) := by
  unfold csplice
  congr 1
  simp only [Array.toList_setIfInBounds, List.length_cons]
  apply List.ext_getElem?
  intro j
  have hl : off < cs.toList.length := by simp; omega
  by_cases h1 : j < off
  · rw [List.getElem?_append_left (by simp; omega), List.getElem?_append_left (by simp; omega), List.getElem?_append_left (by simp; omega), List.getElem?_append_left (by simp; omega)]
    simp [List.getElem?_take, h1, Nat.lt_succ_of_lt h1, List.getElem?_set]
    intro e; omega
  · by_cases h2 : j = off
    · subst h2
      rw [List.getElem?_append_left (by simp; omega), List.getElem?_append_left (by simp; omega), List.getElem?_append_left (by simp; omega), List.getElem?_append_right (by simp; omega)]
      simp [List.getElem?_take, hl]
      rw [Nat.min_eq_left (by simpa using Nat.le_of_lt hl)]; simp
      rw [List.getElem?_set_self (by simpa using hl)]
    · by_cases h3 : j < off + 1 + vs.length
      · rw [List.getElem?_append_left (by simp; omega), List.getElem?_append_right (by simp; omega), List.getElem?_append_left (by simp; omega), List.getElem?_append_right (by simp; omega)]
        simp
        rw [Nat.min_eq_left (by omega), Nat.min_eq_left (by omega)]
        obtain ⟨k, rfl⟩ : ∃ k, j = off + 1 + k := ⟨j - (off + 1), by omega⟩
        rw [show off + 1 + k - (off + 1) = k by omega, show off + 1 + k - off = k + 1 by omega]
        simp
      · rw [List.getElem?_append_right (by simp; omega), List.getElem?_append_right (by simp; omega)]
        simp only [List.length_append, List.length_take, List.length_set, List.length_cons, Array.length_toList, List.getElem?_drop]
        rw [Nat.min_eq_left (by omega), Nat.min_eq_left (by omega)]
        rw [show off + 1 + vs.length + (j - (off + 1 + vs.length)) = j by omega, show off + (vs.length + 1) + (j - (off + (vs.length + 1))) = j by omega]
        rw [List.getElem?_set_ne (by omega)]

theorem run_storeCells_all (g o : Nat) (el : TypeId) (fr : Nat × Nat) : ∀ (vs : List Value) (i : Nat) (w : World) (cs : Array Value), w.heap[g]? = some (.cells cs el fr) →
    o + i + vs.length ≤ cs.size → (∀ k, k < cs.size → (decide (fr.1 ≤ k) && decide (k < fr.2)) = false) → (∀ c ∈ vs, c.oneCell' = true) →
    (storeCells ⟨g, o, none⟩ vs i).run P w = .ok () { w with heap := w.heap.setIfInBounds g (.cells (csplice cs (o + i) vs) el fr) }
  | [], i, w, cs, hh, hl, hf, ho => by
    have hg : g < w.heap.size := (Array.getElem?_eq_some_iff.1 hh).1
    have e : w.heap.setIfInBounds g (.cells cs el fr) = w.heap := by
      apply Array.ext_getElem?
      intro j
      rw [Array.getElem?_setIfInBounds]
      split
      · rename_i e; subst e; rw [hh]
      · rfl
    simp [storeCells, csplice_nil, e]
  | v :: vs, i, w, cs, hh, hl, hf, ho => by
    have hg : g < w.heap.size := (Array.getElem?_eq_some_iff.1 hh).1
    have hoi : o + i < cs.size := by simp at hl; omega
    have hc : w.cell? ⟨g, o + i, none⟩ = some cs[o + i] := by
      unfold World.cell?
      simp [hh, hoi]
    have hfz : w.frozen? ⟨g, o + i, none⟩ = false := by
      unfold World.frozen?
      simp only [hh]
      exact hf _ hoi
    have hset : w.setCell ⟨g, o + i, none⟩ v = { w with heap := w.heap.setIfInBounds g (.cells (cs.setIfInBounds (o + i) v) el fr) } := by
      unfold World.setCell
      congr 1
      apply Array.ext_getElem?
      intro j
      rw [Array.getElem?_modify, Array.getElem?_setIfInBounds]
      split
      · rename_i e
        subst e
        show Option.map _ w.heap[g]? = _
        rw [hh]; rfl
      · rfl
    simp only [storeCells, Sem.run_bind, add_none]
    rw [run_store P w _ v _ (ho v (List.mem_cons_self ..))]
    simp only [hc, hfz, Bool.false_eq_true, if_false, Result.andThen_ok, hset]
    have ih := run_storeCells_all g o el fr vs (i + 1) { w with heap := w.heap.setIfInBounds g (.cells (cs.setIfInBounds (o + i) v) el fr) } (cs.setIfInBounds (o + i) v)
      (by simp [hg]) (by simp at hl ⊢; omega) (by simpa using hf) (fun c hc => ho c (List.mem_cons_of_mem _ hc))
    rw [ih]
    congr 2
    rw [show o + (i + 1) = o + i + 1 by omega, csplice_cons cs (o + i) v vs (by simp at hl; omega)]
    apply Array.ext_getElem?
    intro j
    simp only [Array.getElem?_setIfInBounds]
    by_cases e : g = j
    · subst e; simp [hg]
    · simp [e]

theorem VRs.length_eq {S : Loc} {l : List V} {l' : List Value} (h : VRs S l l') : l'.length = l.length := h.length.symm

theorem V.cells_VR {v : V} {l : List V} {c : Value} (h : VR S v c) (hl : v.cells = some l) : ∃ l' : List Value, c.cells = l'.toArray ∧ VRs S l l' ∧ ∀ c ∈ l', c.oneCell' = true := by
  cases h with
  | agg l0 l' h h2 => simp [V.cells] at hl; subst hl; exact ⟨l', rfl, h, h2⟩
  | un => simp [V.cells] at hl
  | tup => simp [V.cells] at hl
  | _ =>
    simp [V.cells] at hl
    subst hl
    refine ⟨[_], rfl, .cons _ _ _ _ ?_ .nil, ?_⟩
    · first
        | exact .b _ | exact .i _ _ | exact .pnil | exact .slnil _ | exact .mnil | exact .nf | exact .nif
        | (constructor <;> assumption)
    · intro c hc; simp at hc; subst hc; rfl

/-- The content of an object with some cells written, in its block. -/
theorem OR.splice {id : Nat} {c : List V} {g esz off : Nat} {l : List V} {l' : List Value} (hid : id < S.next) (h : OR S w id (.cells c g false esz)) (hl : off + l.length ≤ c.length) (hv : VRs S l l')
    (h1 : ∀ c ∈ l', c.oneCell' = true) {cs : Array Value} {el : TypeId} {fr : Nat × Nat} (hh : w.heap[S.blk id]? = some (.cells cs el fr)) (hsz : cs.size = S.room id) :
    OR S { w with heap := w.heap.setIfInBounds (S.blk id) (.cells (csplice cs (S.base id + off) l') el fr) } id (.cells (splice c off l) g false esz) := by
  obtain ⟨e1, e2, e3, e4, e5⟩ := h
  have ho := e5 rfl
  obtain ⟨cs', el', fr', hh', hs', hb', hf'⟩ := e4 ho
  rw [hh] at hh'
  injection hh' with hh'
  injection hh' with q1 q2 q3
  subst q1 q2 q3
  have hlt : S.blk id < w.heap.size := (Array.getElem?_eq_some_iff.1 hh).1
  have hlen := hv.length
  have hsz2 := csplice_size cs (S.base id + off) l' (by omega)
  refine ⟨e1, e2, fun j v hj => ?_, fun _ => ⟨csplice cs (S.base id + off) l', el, fr, by simp [hlt], by rw [hsz2, hsz], ?_, hf'⟩, fun _ => ho⟩
  · have hjl : j < c.length := by
      have := (List.getElem?_eq_some_iff.1 hj).1
      simp [Abs.splice] at this
      omega
    have hcell : ∀ (x : Value), (csplice cs (S.base id + off) l')[S.base id + j]? = some x →
        ({ w with heap := w.heap.setIfInBounds (S.blk id) (.cells (csplice cs (S.base id + off) l') el fr) } : World).cell? ⟨S.blk id, S.base id + j, none⟩ = some x := by
      intro x hx
      unfold World.cell?
      simp [hlt, hx]
    have hold : ∀ x : Value, w.cell? ⟨S.blk id, S.base id + j, none⟩ = some x → cs[S.base id + j]? = some x := by
      intro x hx
      unfold World.cell? at hx
      simpa [hh] using hx
    unfold Abs.splice at hj
    by_cases c1 : j < off
    · rw [List.getElem?_append_left (by simp; omega), List.getElem?_append_left (by simp; omega)] at hj
      rw [List.getElem?_take, if_pos c1] at hj
      obtain ⟨cv, hc, hvv, ho1⟩ := e3 j v hj
      refine ⟨cv, hcell cv ?_, hvv, ho1⟩
      have := hold cv hc
      unfold csplice
      rw [List.getElem?_toArray, List.getElem?_append_left (by simp; omega), List.getElem?_append_left (by simp; omega), List.getElem?_take, if_pos (by omega)]
      simpa using this
    · by_cases c2 : j < off + l.length
      · rw [List.getElem?_append_left (by simp; omega), List.getElem?_append_right (by simp; omega)] at hj
        simp only [List.length_take] at hj
        rw [Nat.min_eq_left (by omega)] at hj
        obtain ⟨cv, hc, hvv⟩ := hv.get _ _ hj
        refine ⟨cv, hcell cv ?_, hvv, h1 cv (List.mem_of_getElem? hc)⟩
        unfold csplice
        rw [List.getElem?_toArray, List.getElem?_append_left (by simp; omega), List.getElem?_append_right (by simp; omega)]
        simp only [List.length_take, Array.length_toList]
        rw [Nat.min_eq_left (by omega), show S.base id + j - (S.base id + off) = j - off by omega]
        exact hc
      · rw [List.getElem?_append_right (by simp; omega)] at hj
        simp only [List.length_append, List.length_take, List.getElem?_drop] at hj
        rw [Nat.min_eq_left (by omega), show off + l.length + (j - (off + l.length)) = j by omega] at hj
        obtain ⟨cv, hc, hvv, ho1⟩ := e3 j v hj
        refine ⟨cv, hcell cv ?_, hvv, ho1⟩
        have := hold cv hc
        unfold csplice
        rw [List.getElem?_toArray, List.getElem?_append_right (by simp; omega)]
        simp only [List.length_append, List.length_take, Array.length_toList, List.getElem?_drop]
        rw [Nat.min_eq_left (by omega), ← hlen, show S.base id + off + l.length + (S.base id + j - (S.base id + off + l.length)) = S.base id + j by omega]
        simpa using this
  · simp only [Abs.splice, List.length_append, List.length_take, List.length_drop]
    omega

theorem sim_store {t : TypeId} {a v : V} {ca cv : Value} {H' : AH} (h : HR C S H w) (ha : VR S a ca) (hv : VR S v cv) (hl : astore P H t a v = some H') :
    ∃ w', (Instr.storeAt t ca cv).run P w = .ok () w' ∧ HR C S H' w' := by
  unfold astore at hl
  split at hl
  · rename_i id g off
    cases ha with
    | p _ _ _ ad h1 h2 h3 =>
      split at hl
      · rename_i c g' esz hg
        split at hl
        · rename_i hgg
          subst hgg
          have ho := h.obj id _ hg
          have := h3 ho.1
          subst this
          split at hl
          · rename_i n l hs hcl
            split at hl
            · rename_i hlen
              cases hl
              obtain ⟨l', hc', hvs, ho1⟩ := V.cells_VR hv hcl
              have hown := ho.2.2.2.2 rfl
              obtain ⟨cs, el, fr, hh, hsz, hb, hf⟩ := ho.2.2.2.1 hown
              have hf := hf rfl
              have hll := hvs.length
              refine ⟨_, ?_, h.write _ h1 hown _ _ (OR.splice h1 ho (by omega) hvs ho1 hh hsz)⟩
              unfold Instr.storeAt Instr.sureAddr storeVar
              have hsz' : l'.toArray.size = n := by simp; omega
              have hst := run_storeCells_all (P := P) (S.blk id) (S.base id + off) el fr l' 0 w cs hh (by omega) (by rw [hsz]; exact hf) ho1
              simp only [Sem.run_bind, Sem.run_pure, Result.andThen_ok, run_sizeOf w hs]
              rw [hc', if_neg (by simpa using hsz')]
              simpa using hst
            · cases hl
          · cases hl
        · cases hl
      · cases hl
  · cases hl

/-- A new row of cells. -/
theorem sim_newf {l : List V} {l' : List Value} (h : HR C S H w) (hv : VRs S l l') (h1 : ∀ c ∈ l', c.oneCell' = true) (el : TypeId) (esz : Nat) (extra : List Value) (fr : Nat × Nat)
    (hfr : ∀ o, o < (l' ++ extra).length → (decide (fr.1 ≤ o) && decide (o < fr.2)) = false) :
    HR C (S.add w.heap.size 0 esz (l' ++ extra).length) (H.new (.cells l 0 false esz)) { w with heap := w.heap.push (.cells (l' ++ extra).toArray el fr) } := by
  refine h.new _ _ _ _ ⟨by simp [Loc.add], by simp [Loc.add], fun j v hj => ?_, fun _ => ⟨(l' ++ extra).toArray, el, fr, by simp [Loc.add], by simp [Loc.add], ?_, fun _ o ho => hfr o (by simpa [Loc.add] using ho)⟩, fun _ => by simp [Loc.add]⟩
  · obtain ⟨cv, hc, hvv⟩ := hv.get j v hj
    refine ⟨cv, ?_, hvv.mono (Loc.le_add ..), h1 cv (List.mem_of_getElem? hc)⟩
    have hj' : j < l'.length := (List.getElem?_eq_some_iff.1 hc).1
    unfold World.cell?
    simp [Loc.add, List.getElem?_append_left hj', hc]
  · have := hv.length
    simp [Loc.add]; omega
theorem sim_new {l : List V} {l' : List Value} (h : HR C S H w) (hv : VRs S l l') (h1 : ∀ c ∈ l', c.oneCell' = true) (el : TypeId) (esz : Nat) (extra : List Value) :
    HR C (S.add w.heap.size 0 esz (l' ++ extra).length) (H.new (.cells l 0 false esz)) { w with heap := w.heap.push (.cells (l' ++ extra).toArray el) } :=
  sim_newf h hv h1 el esz extra (0, 0) (fun o _ => by simp)

end
end Go.Abs
