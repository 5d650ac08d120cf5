/-
  Append; composite values.
-/
import Derived.Test.YtnfnkmodcjkabaaDoorAbsSim3
set_option linter.unusedVariables false
set_option linter.unusedSimpArgs false
namespace Go.Abs
open Go Go.RowKit

theorem growBy_le (n B : Nat) (hB : n + (n + 768) / 4 ≤ B) : ∀ (r c : Nat), c ≤ B → Builtin.growBy n r c ≤ B
  | 0, c, h => h
  | r + 1, c, h => by
    simp only [Builtin.growBy]
    split
    · exact h
    · exact growBy_le n B hB r _ (by omega)
theorem nextslicecap_le (need old : Nat) (h : old < need) : Builtin.nextslicecap need old ≤ 3 * need + 1000 := by
  unfold Builtin.nextslicecap
  split
  · omega
  · split
    · omega
    · exact growBy_le need _ (by omega) 4 old (by omega)
theorem roomOk_spec {need bytes : Nat} (h : roomOk need bytes = true) (old : Nat) (ho : old < need) : Builtin.nextslicecap need old * bytes ≤ 281474976710656 ∧ 0 < bytes := by
  simp only [roomOk, Bool.and_eq_true, decide_eq_true_eq] at h
  exact ⟨Nat.le_trans (Nat.mul_le_mul_right _ (nextslicecap_le need old ho)) h.2, h.1⟩

section
variable {C : Ctx} {P : Program} {S : Loc} {H : AH} {w : World}

/-- What is appended: how many elements, and their cells. -/
theorem sim_source (hH : HR C S H w) {sz n : Nat} {x : V} {cx : Value} {new : List V} (hx : VR S x cx) (h : asource P H sz x = some (new, n)) :
    ∃ new' : List Value, VRs S new new' ∧ (∀ c ∈ new', c.oneCell' = true) ∧ new.length = n * sz ∧
      ∀ w' : World, w'.heap = w.heap → (Builtin.lenOf cx).run P w' = .ok n w' ∧ (Builtin.firstCells sz n cx).run P w' = .ok new'.toArray w' := by
  unfold asource at h
  split at h
  · split at h <;> cases h
    rename_i l hs
    cases hx with
    | s _ c hc =>
      subst hc
      refine ⟨c.data.toList.map fun b => .int .u8 b.toNat, bytesV_VRs S _, fun v hv => by simp at hv; obtain ⟨b, _, rfl⟩ := hv; rfl, by simp [bytesV, hs], fun w' _ => ⟨by simp [Builtin.lenOf], ?_⟩⟩
      simp only [Builtin.firstCells, Sem.run_pure]
      congr 1
      apply Array.ext'
      simp
  · cases h
    cases hx
    exact ⟨[], .nil, by simp, by simp, fun w' _ => ⟨by simp [Builtin.lenOf], by simp [Builtin.firstCells]⟩⟩
  · rename_i id g off len clip
    split at h
    · rename_i c g' ro esz hg
      cases hx with
      | sl _ _ _ _ cap _ ad h1 h2 hl h3 h4 h5 =>
        split at h
        · rename_i h0
          cases h
          subst h0
          exact ⟨[], .nil, by simp, by simp, fun w' _ => ⟨by simp [Builtin.lenOf], by simp [Builtin.firstCells, loadCells, loadCellsFrom]⟩⟩
        · rename_i h0
          split at h <;> cases h
          rename_i hge
          obtain ⟨hge, hlen⟩ := hge
          subst hge
          have ho := hH.obj id _ hg
          have := h3 ho.1 (by omega)
          subst this
          obtain ⟨cs, hv, hcl, hc, h1'⟩ := ho.part off (n * sz) hlen
          refine ⟨cs, hv, h1', by rw [hv.length, hcl], fun w' hw => ⟨by simp [Builtin.lenOf], ?_⟩⟩
          have hload := run_loadCells_list (P := P) w' _ cs (fun j v hj => by
            have := hc j v hj
            unfold World.cell? at this ⊢
            rw [hw]; exact this)
          rw [hcl] at hload
          simpa [Builtin.firstCells] using hload
    · cases h
  · cases h

/-- Append where there is room. -/
theorem run_append_fit {t t2 ty e : TypeId} {d2 : TypeDesc} {sz n len cap : Nat} {a : Option Addr} {cx : Value} {new : List Value} {w' : World}
    (hu : P.underlying t = some (.slice e)) (hsz : qsize P e = some sz) (h2 : P.underlying t2 = some d2) (hd : descSrc d2 = true)
    (hn : (Builtin.lenOf cx).run P w = .ok n w) (hf : (Builtin.firstCells sz n cx).run P w = .ok new.toArray w) (hfit : len + n ≤ cap)
    (hst : ∀ ad, a = some ad → (storeCells (ad.add (len * sz)) new).run P w = .ok () w') (hno : a = none → w' = w) :
    (Builtin.append_ #[t, t2] ty #[.slice a len cap, cx]).run P w = .ok (.slice a (len + n) cap) w' := by
  cases d2 <;> simp [descSrc] at hd
  all_goals
    cases a with
    | none =>
      rw [hno rfl]
      simp [Builtin.append_, run_underlying hu, run_sizeOf w hsz, run_underlying h2, hn, hf, hfit]
    | some ad =>
      have := hst ad rfl
      simp [Builtin.append_, run_underlying hu, run_sizeOf w hsz, run_underlying h2, hn, hf, hfit, this]

/-- Append where there is none. -/
theorem run_append_more {t t2 ty e : TypeId} {d2 : TypeDesc} {sz n len cap bytes : Nat} {a : Option Addr} {cx : Value} {old new : List Value} {z : V}
    (hu : P.underlying t = some (.slice e)) (hsz : qsize P e = some sz) (hb : qbytes P e = some bytes) (hz : qzero P e = some z) (h2 : P.underlying t2 = some d2) (hd : descSrc d2 = true)
    (hx : ∀ w' : World, w'.heap = w.heap → (Builtin.lenOf cx).run P w' = .ok n w' ∧ (Builtin.firstCells sz n cx).run P w' = .ok new.toArray w')
    (ho : ∀ w' : World, w'.heap = w.heap → (Builtin.firstCells sz len (.slice a len cap)).run P w' = .ok old.toArray w') (hmore : cap < len + n) (hr : roomOk (len + n) bytes = true) :
    ∃ (newCap : Nat) (rest : List Value), len + n ≤ newCap ∧ (∃ zc : Value, z = absV zc ∧ rest.length = (newCap - (len + n)) * zc.cells.size) ∧
      (Builtin.append_ #[t, t2] ty #[.slice a len cap, cx]).run P w = .ok (.slice (some ⟨w.heap.size, 0, none⟩) (len + n) newCap)
        { w with heap := w.heap.push (.cells (old ++ new ++ rest).toArray e), drawn := w.drawn + 1 } := by
  obtain ⟨zc, hzr, hza⟩ := run_zeroValue w hz
  have hzr' : ∀ w' : World, (zeroValue e).run P w' = .ok zc w' := by
    intro w'
    unfold qzero at hz
    cases hi : P.info? e with
    | none => simp [hi] at hz
    | some i =>
      unfold zeroValue at hzr ⊢
      simp only [Sem.run_bind, run_typeInfo _ hi, Result.andThen_ok] at hzr ⊢
      cases hiz : i.zero with
      | none => simp [hiz] at hzr
      | some v => simp [hiz] at hzr ⊢; exact hzr
  obtain ⟨hcap, hbpos⟩ := roomOk_spec hr cap hmore
  have hbi : ∃ i, P.info? e = some i ∧ i.bytes = bytes := by
    unfold qbytes at hb
    cases hi : P.info? e with
    | none => simp [hi] at hb
    | some i => simp [hi] at hb; exact ⟨i, rfl, hb⟩
  obtain ⟨i, hi, hib⟩ := hbi
  let q := Question.appendCap (len + n) cap e
  refine ⟨q.cut (w.tape w.drawn q), (Builtin.zeroCells zc.cells (q.cut (w.tape w.drawn q) - (len + n))).toList, Nat.le_add_right _ _, ⟨zc, hza, by simp [Builtin.zeroCells]⟩, ?_⟩
  have hq : q.forced = false := rfl
  have hnot : ¬ (len + n ≤ cap) := by omega
  have hx0 := hx w rfl
  have hx1 := hx w.drew rfl
  have ho1 := ho w.drew rfl
  have hb0 : ¬ (bytes = 0) := by omega
  have hcap' : ¬ (Builtin.nextslicecap (len + n) cap * bytes > 2 ^ 48) := by
    have : (2 : Nat) ^ 48 = 281474976710656 := by decide
    omega
  have hfin : (old ++ new ++ (Builtin.zeroCells zc.cells (q.cut (w.tape w.drawn q) - (len + n))).toList).toArray = old.toArray ++ new.toArray ++ Builtin.zeroCells zc.cells (q.cut (w.tape w.drawn q) - (len + n)) := by
    apply Array.ext'; simp
  rw [hfin]
  cases d2 <;> simp [descSrc] at hd
  all_goals
    simp [Builtin.append_, run_underlying hu, run_sizeOf _ hsz, run_underlying h2, hx0.1, hnot, run_typeInfo _ hi, hib, hb0, hcap', hq, q, ho1, hx1.2, hzr', newRow, run_askRoom]
    unfold World.alloc World.drew
    congr 3
    apply Array.ext'
    simp

theorem flat_grow {S : Loc} (S' : Loc) : True := trivial

/-- The locator where an object got new cells. -/
def Loc.grow (S : Loc) (id blk base room : Nat) : Loc :=
  { S with gen := fun i => if i = id then S.gen id + 1 else S.gen i, blk := fun i => if i = id then blk else S.blk i, base := fun i => if i = id then base else S.base i, room := fun i => if i = id then room else S.room i }
theorem Loc.le_grow (S : Loc) (id blk base room : Nat) : S.le (S.grow id blk base room) where
  next := Nat.le_refl _
  gen i h := by simp only [Loc.grow]; split <;> simp_all
  blk i h hg := by simp only [Loc.grow] at hg ⊢; split <;> simp_all
  base i h hg := by simp only [Loc.grow] at hg ⊢; split <;> simp_all
  room i h hg := by simp only [Loc.grow] at hg ⊢; split <;> simp_all
  own i h := rfl
  esz i h := rfl

/-- An object of one's own gets other cells: in its block, or in a new one. -/
theorem HR.grow (hH : HR C S H w) {id : Nat} (hid : id < S.next) (hown : S.own id = true) {w' : World} {o : O} {blk base room : Nat}
    (hb : (blk = S.blk id ∧ w'.heap.size = w.heap.size) ∨ (blk = w.heap.size ∧ w'.heap.size = w.heap.size + 1)) (hk : ∀ k, k < w.heap.size → k ≠ blk → w'.heap[k]? = w.heap[k]?)
    (hw : w'.os = w.os ∧ w'.tape = w.tape ∧ w'.output = w.output) (ho : OR (S.grow id blk base room) w' id o) : HR C (S.grow id blk base room) (H.set id o) w' where
  next := by simp [hH.next, Loc.grow]
  obj i o' ho' := by
    rw [AH.get_set] at ho'
    split at ho'
    · rename_i e
      subst e
      split at ho'
      · cases ho'; exact ho
      · cases ho'
    · rename_i e
      have hlt : i < S.next := by rw [← hH.next]; exact AH.get_lt ho'
      have hin : (S.blk i < w.heap.size ∧ S.blk i ≠ blk) ∨ (S.own i = false ∧ ∃ g esz, H.get i = Option.some (.cells [] g true esz)) := by
        cases hown' : S.own i with
        | true =>
          have hl := (hH.lt i hlt hown').1
          refine .inl ⟨hl, ?_⟩
          rcases hb with ⟨rfl, _⟩ | ⟨rfl, _⟩
          · exact fun hb => e (hH.sep i id hlt hid hown' hown hb)
          · omega
        | false =>
          refine (hH.foreign i hlt hown').imp (fun h1 => ?_) (fun he => ⟨rfl, he⟩)
          have hl := h1.1
          refine ⟨hl, ?_⟩
          rcases hb with ⟨rfl, _⟩ | ⟨rfl, _⟩
          · exact fun e => h1.2 id hid hown e.symm
          · omega
      rcases hin with ⟨hl, hne⟩ | ⟨hown', g, esz', he⟩
      · exact (hH.obj i o' ho').block (Loc.le_grow ..) hlt (by simp [Loc.grow, e]) (hk _ hl hne)
      · rw [he] at ho'; cases ho'
        exact (hH.obj i _ he).empty (Loc.le_grow ..) hlt (by simp [Loc.grow, e]) hown'
  some i hi := by
    rw [AH.get_set]
    split
    · rw [hH.next, if_pos hid]; rfl
    · exact hH.some i hi
  lt i hi hoi := by
    have := hH.lt i hi hoi
    have h2 := hH.below.size
    have h3 := hH.lt id hid hown
    simp only [Loc.grow]
    split
    · rcases hb with ⟨rfl, e⟩ | ⟨rfl, e⟩
      · exact ⟨by omega, h3.2⟩
      · exact ⟨by omega, .inl (by omega)⟩
    · exact ⟨by rcases hb with ⟨_, e⟩ | ⟨_, e⟩ <;> omega, this.2⟩
  foreign i hi hoi := by
    have hne : i ≠ id := by
      rintro rfl
      have : S.own i = false := hoi
      simp [hown] at this
    rw [AH.get_set_ne hne]
    refine (hH.foreign i hi hoi).imp (fun h1 => ⟨?_, fun i' hi' ho' => ?_⟩) fun h => h
    · simp only [Loc.grow, hne, if_false]
      rcases hb with ⟨_, e⟩ | ⟨_, e⟩ <;> omega
    · simp only [Loc.grow, hne, if_false]
      split
      · rcases hb with ⟨rfl, e⟩ | ⟨rfl, e⟩
        · exact h1.2 id hid hown
        · omega
      · exact h1.2 i' hi' ho'
  sep i i' hi hi' hoi hoi' hbb := by
    simp only [Loc.grow] at hbb
    have hl := (hH.lt i hi hoi).1
    have hl' := (hH.lt i' hi' hoi').1
    by_cases e : i = id <;> by_cases e' : i' = id
    · rw [e, e']
    · simp only [e, e', if_true, if_false] at hbb
      rcases hb with ⟨rfl, _⟩ | ⟨rfl, _⟩
      · exact (e' (hH.sep id i' hid hi' hown hoi' hbb).symm).elim
      · omega
    · simp only [e, e', if_true, if_false] at hbb
      rcases hb with ⟨rfl, _⟩ | ⟨rfl, _⟩
      · exact (e (hH.sep i id hi hid hoi hown hbb)).elim
      · omega
    · simp only [e, e', if_false] at hbb
      exact hH.sep i i' hi hi' hoi hoi' hbb
  below := by
    have h3 := hH.lt id hid hown
    have hs := hH.below.size
    refine ⟨hw.1.trans hH.below.os, hw.2.1.trans hH.below.tape, hw.2.2.trans hH.below.output, ?_, fun k hk' hm => ?_⟩
    · rcases hb with ⟨_, e⟩ | ⟨_, e⟩ <;> omega
    · rw [hk k (by omega) (by
        rcases hb with ⟨rfl, _⟩ | ⟨rfl, _⟩
        · intro e
          rcases h3.2 with h4 | h4
          · omega
          · exact hm (e ▸ h4)
        · omega)]
      exact hH.below.block k hk' hm

set_option maxHeartbeats 2000000 in
theorem sim_append (hH : HR C S H w) {t t2 ty : TypeId} {s x v : V} {cs cx : Value} {H' : AH} (hs : VR S s cs) (hx : VR S x cx) (h : aappend P H t t2 s x = some (v, H')) :
    ∃ S' cv w', (Builtin.append_ #[t, t2] ty #[cs, cx]).run P w = .ok cv w' ∧ S.le S' ∧ VR S' v cv ∧ HR C S' H' w' := by
  unfold aappend at h
  split at h
  · cases h
  · rename_i e he
    have hu := qelem_spec he
    split at h
    · rename_i sz bytes z d2 hsz hb hz h2
      split at h
      · rename_i hc
        obtain ⟨hpos, hd, hzl⟩ := hc
        split at h
        · cases h
        · rename_i new n hsrc
          obtain ⟨new', hnv, hn1, hnl, hrun⟩ := sim_source (P := P) hH hx hsrc
          have hnl' : new'.length = n * sz := by rw [← hnv.length]; exact hnl
          have hzlen : ∀ zc : Value, z = absV zc → zc.cells.size = sz := by
            intro zc hzc
            simp only [Option.map_eq_some_iff] at hzl
            obtain ⟨zl, hzl, hzl2⟩ := hzl
            obtain ⟨l', hl', hv', _⟩ := V.cells_VR (S := S) (hzc ▸ absV_VR S zc) hzl
            rw [hl']; simp; rw [← hv'.length]; exact hzl2
          split at h
          · rename_i hn0
            subst hn0
            have hnew : new' = [] := List.eq_nil_of_length_eq_zero (by omega)
            subst hnew
            split at h
            · rename_i a len c
              cases h
              cases hs with
              | slnil c =>
                refine ⟨S, .slice none 0 0, w, ?_, Loc.le.refl S, .slnil _, hH⟩
                exact run_append_fit (w' := w) hu hsz h2 hd (hrun w rfl).1 (hrun w rfl).2 (Nat.le_refl _) (fun ad h => by cases h) (fun _ => rfl)
              | sl id g off _ cap _ ad h1 h2' hl h3 h4 h5 =>
                refine ⟨S, .slice (some ad) len cap, w, ?_, Loc.le.refl S, .sl _ _ _ _ _ _ _ h1 h2' hl h3 h4 h5, hH⟩
                exact run_append_fit (w' := w) hu hsz h2 hd (hrun w rfl).1 (hrun w rfl).2 hl (fun ad h => by simp only [storeCells]; rfl) (fun h => by cases h)
            · cases h
          · rename_i hn0
            split at h
            · -- nil
              split at h <;> cases h
              rename_i hr
              cases hs
              obtain ⟨newCap, rest, hcap, ⟨zc, hzc, hrl⟩, hra⟩ := run_append_more (ty := ty) (len := 0) (cap := 0) (a := none) (old := []) hu hsz hb hz h2 hd hrun (fun w' _ => by simp [Builtin.firstCells]) (by omega) (by simpa using hr)
              simp only [Nat.zero_add, List.nil_append] at hra hcap hrl
              have hnw := sim_new (C := C) (S := S) (H := H) (w := { w with drawn := w.drawn + 1 }) hH.drew hnv hn1 e sz rest
              refine ⟨_, _, _, hra, Loc.le_add .., ?_, hnw⟩
              rw [hH.next]
              refine .sl _ _ _ _ _ _ _ (by simp [Loc.add]) (by simp [Loc.add]) hcap (fun _ _ => by simp [Loc.add]) (fun h => by cases h) (fun _ _ _ _ => ?_)
              simp only [Loc.add, if_true, List.length_append, hnl', hrl, hzlen zc hzc]
              simp only [Nat.zero_add]; rw [← Nat.add_mul, Nat.add_sub_cancel' hcap]
            · rename_i id g off len clip
              split at h
              · rename_i c g' ro esz hg
                split at h
                · rename_i hge
                  obtain ⟨hge, hlen, hr⟩ := hge
                  subst hge
                  have ho := hH.obj id _ hg
                  cases hs with
                  | sl _ _ _ _ cap _ ad h1 h2' hl h3 h4 h5 =>
                    obtain ⟨old, hov, hol, hoc, ho1⟩ := ho.part off (len * sz) hlen
                    have hold : ∀ w' : World, w'.heap = w.heap → (Builtin.firstCells sz len (.slice (some ad) len cap)).run P w' = .ok old.toArray w' := by
                      intro w' hw
                      by_cases h0 : len = 0
                      · subst h0
                        have : old = [] := List.eq_nil_of_length_eq_zero (by omega)
                        subst this
                        simp [Builtin.firstCells, loadCells, loadCellsFrom]
                      · have := h3 ho.1 (by omega)
                        subst this
                        have hload := run_loadCells_list (P := P) w' _ old (fun j v hj => by
                          have := hoc j v hj
                          unfold World.cell? at this ⊢
                          rw [hw]; exact this)
                        rw [hol] at hload
                        simpa [Builtin.firstCells] using hload
                    have hone : ∀ c ∈ old ++ new', c.oneCell' = true := fun c hc => by
                      rcases List.mem_append.1 hc with h | h
                      · exact ho1 c h
                      · exact hn1 c h
                    split at h
                    · -- clipped: the row grows elsewhere
                      rename_i hclip
                      cases h
                      have := h4 hclip
                      subst this
                      obtain ⟨newCap, rest, hcap, ⟨zc, hzc, hrl⟩, hra⟩ := run_append_more (ty := ty) (a := some ad) (old := old) hu hsz hb hz h2 hd hrun hold (by omega) hr
                      have hnw := sim_new (C := C) (S := S) (H := H) (w := { w with drawn := w.drawn + 1 }) hH.drew (hov.append hnv) hone e sz rest
                      refine ⟨_, _, _, hra, Loc.le_add .., ?_, hnw⟩
                      rw [hH.next]
                      refine .sl _ _ _ _ _ _ _ (by simp [Loc.add]) (by simp [Loc.add]) hcap (fun _ _ => by simp [Loc.add]) (fun h => by cases h) (fun _ _ _ _ => ?_)
                      simp only [Loc.add, if_true, List.length_append, hnl', hol, hrl, hzlen zc hzc]
                      simp only [Nat.zero_add]; rw [← Nat.add_mul, ← Nat.add_mul, Nat.add_sub_cancel' hcap]
                    · rename_i hclip
                      split at h
                      · rename_i hro
                        obtain ⟨hro, hesz⟩ := hro
                        subst hro hesz
                        have hown := ho.2.2.2.2 rfl
                        obtain ⟨cs, el, fr, hh, hsz2, hbl, hfz⟩ := ho.2.2.2.1 hown
                        have hfz := hfz rfl
                        have hesz' := ho.2.1
                        have hroom := h5 ho.1 hown (by omega) (by simpa using hclip)
                        rw [← hesz'] at hroom
                        have hlt : S.blk id < w.heap.size := (Array.getElem?_eq_some_iff.1 hh).1
                        -- what a store behind the slice does
                        have hstore : len + n ≤ cap → (storeCells (ad.add (len * esz)) new').run P w = .ok () { w with heap := w.heap.setIfInBounds (S.blk id) (.cells (csplice cs (S.base id + off + len * esz) new') el fr) } := by
                          intro hfit
                          have := h3 ho.1 (by omega)
                          subst this
                          rw [add_none]
                          have hm : (len + n) * esz ≤ cap * esz := Nat.mul_le_mul_right _ hfit
                          rw [Nat.add_mul] at hm
                          have := run_storeCells_all (P := P) (S.blk id) (S.base id + off + len * esz) el fr new' 0 w cs hh (by omega) (by rw [hsz2]; exact hfz) hn1
                          simpa using this
                        split at h
                        · -- in place, inside of what is known
                          rename_i hin
                          cases h
                          have hm : (len + n) * esz = len * esz + n * esz := Nat.add_mul ..
                          have hfit : len + n ≤ cap := by
                            apply Nat.le_of_mul_le_mul_right (c := esz) _ hpos
                            omega
                          refine ⟨S, .slice (some ad) (len + n) cap, _, run_append_fit hu hsz h2 hd (hrun w rfl).1 (hrun w rfl).2 hfit (fun ad' h => by cases h; exact hstore hfit) (fun h => by cases h), Loc.le.refl S, ?_, ?_⟩
                          · exact .sl _ _ _ _ _ _ _ h1 h2' hfit h3 (fun h => by cases h) (fun a b c _ => h5 a b c (by simpa using hclip))
                          · have := OR.splice (S := S) h1 ho (l := new) (off := off + len * esz) (by omega) hnv hn1 hh hsz2
                            rw [← Nat.add_assoc] at this
                            exact hH.write id h1 hown _ _ this
                        · -- at the end: in place, or elsewhere
                          rename_i hin
                          cases h
                          by_cases hfit : len + n ≤ cap
                          · have hm : (len + n) * esz ≤ cap * esz := Nat.mul_le_mul_right _ hfit
                            rw [Nat.add_mul] at hm
                            have hsp := csplice_size cs (S.base id + off + len * esz) new' (by omega)
                            refine ⟨S.grow id (S.blk id) (S.base id + off) (S.room id), .slice (some ad) (len + n) cap, _, run_append_fit hu hsz h2 hd (hrun w rfl).1 (hrun w rfl).2 hfit (fun ad' h => by cases h; exact hstore hfit) (fun h => by cases h), Loc.le_grow .., ?_, ?_⟩
                            · have hg0 := ho.1
                              refine .sl _ _ _ _ _ _ _ h1 (by simp [Loc.grow, hg0]) hfit (fun _ _ => ?_) (fun h => by cases h) (fun _ _ _ _ => ?_)
                              · rw [h3 ho.1 (by omega)]; simp [Loc.grow]
                              · simp only [Loc.grow, if_true]; rw [← hesz']; omega
                            · refine hH.grow h1 hown (.inl ⟨rfl, by simp⟩) (fun k hk hne => by simp only [Array.getElem?_setIfInBounds]; rw [if_neg (fun e => hne e.symm)]) ⟨rfl, rfl, rfl⟩ ?_
                              refine ⟨by simp [Loc.grow, ho.1], by simp [Loc.grow, hesz'], fun j v hj => ?_, fun _ => ⟨csplice cs (S.base id + off + len * esz) new', el, fr, by simp [Loc.grow, hlt], by simp [Loc.grow, hsp, hsz2], ?_, fun _ o hoo => hfz o (by simpa [Loc.grow] using hoo)⟩, fun _ => hown⟩
                              · obtain ⟨cv, hcv, hvv⟩ := (hov.append hnv).get j v hj
                                have hjl := (List.getElem?_eq_some_iff.1 hcv).1
                                simp only [List.length_append, hol, hnl'] at hjl
                                refine ⟨cv, ?_, hvv.mono (Loc.le_grow ..), hone cv (List.mem_of_getElem? hcv)⟩
                                unfold World.cell?
                                simp only [Loc.grow, if_true, Array.getElem?_setIfInBounds, hlt]
                                unfold csplice
                                simp only [Option.isSome_none, Bool.false_eq_true, if_false, List.getElem?_toArray]
                                by_cases hj1 : j < len * esz
                                · rw [List.getElem?_append_left (by simp; omega), List.getElem?_append_left (by simp; omega), List.getElem?_take, if_pos (by omega)]
                                  rw [List.getElem?_append_left (by omega)] at hcv
                                  have := hoc j cv hcv
                                  rw [add_none] at this
                                  unfold World.cell? at this
                                  simpa [hh] using this
                                · rw [List.getElem?_append_left (by simp; omega), List.getElem?_append_right (by simp; omega)]
                                  rw [List.getElem?_append_right (by omega)] at hcv
                                  simp only [List.length_take, Array.length_toList]
                                  rw [Nat.min_eq_left (by omega)]
                                  rw [hol] at hcv
                                  rw [show S.base id + off + j - (S.base id + off + len * esz) = j - len * esz by omega]
                                  exact hcv
                              · have h1' := hov.length
                                have h2'' := hnv.length
                                simp only [Loc.grow, if_true, List.length_append]
                                omega
                          · obtain ⟨newCap, rest, hcap, ⟨zc, hzc, hrl⟩, hra⟩ := run_append_more (ty := ty) (a := some ad) (old := old) hu hsz hb hz h2 hd hrun hold (by omega) hr
                            refine ⟨S.grow id w.heap.size 0 (old ++ new' ++ rest).length, _, _, hra, Loc.le_grow .., ?_, ?_⟩
                            · have hg0 := ho.1
                              refine .sl _ _ _ _ _ _ _ h1 (by simp [Loc.grow, hg0]) hcap (fun _ _ => by simp [Loc.grow]) (fun h => by cases h) (fun _ _ _ _ => ?_)
                              simp only [Loc.grow, if_true, List.length_append, hnl', hol, hrl, hzlen zc hzc]
                              simp only [Nat.zero_add]; rw [← Nat.add_mul, ← Nat.add_mul, Nat.add_sub_cancel' hcap, ← hesz']
                            · refine hH.grow h1 hown (.inr ⟨rfl, by simp⟩) (fun k hk hne => by simp only [Array.getElem?_push]; rw [if_neg (by omega)]) ⟨rfl, rfl, rfl⟩ ?_
                              refine ⟨by simp [Loc.grow, ho.1], by simp [Loc.grow, hesz'], fun j v hj => ?_, fun _ => ⟨(old ++ new' ++ rest).toArray, e, (0, 0), by simp [Loc.grow], by simp [Loc.grow], ?_, fun _ o hoo => by simp⟩, fun _ => hown⟩
                              · obtain ⟨cv, hcv, hvv⟩ := (hov.append hnv).get j v hj
                                have hjl := (List.getElem?_eq_some_iff.1 hcv).1
                                refine ⟨cv, ?_, hvv.mono (Loc.le_grow ..), hone cv (List.mem_of_getElem? hcv)⟩
                                unfold World.cell?
                                simp only [Loc.grow, if_true, Array.getElem?_push_size, Option.isSome_none, Bool.false_eq_true, if_false, List.getElem?_toArray, Nat.zero_add]
                                rw [List.getElem?_append_left hjl]
                                exact hcv
                              · have h1' := hov.length
                                have h2'' := hnv.length
                                simp only [Loc.grow, if_true, List.length_append]
                                omega
                      · cases h
                · cases h
              · cases h
            · cases h
      · cases h
    · cases h
end
end Go.Abs
