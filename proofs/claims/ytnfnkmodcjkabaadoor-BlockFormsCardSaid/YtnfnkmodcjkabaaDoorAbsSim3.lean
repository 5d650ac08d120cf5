/-
  Append, lengths, conversions, composite values.
-/
import Derived.Test.YtnfnkmodcjkabaaDoorAbsMaps
import Derived.Laws.BytesString
set_option linter.unusedVariables false
set_option linter.unusedSimpArgs false
namespace Go.Abs
open Go Go.RowKit

section
variable {C : Ctx} {P : Program} {S : Loc} {H : AH} {w : World}

theorem sim_len (hH : HR C S H w) {t ty : TypeId} {x v : V} {cx : Value} (hx : VR S x cx) (h : alen P H t x = some v) :
    ∃ cv, (Builtin.len_ #[t] ty #[cx]).run P w = .ok cv w ∧ VR S v cv := by
  unfold alen at h
  split at h
  · split at h <;> cases h
    rename_i l hq
    cases hx with
    | s _ c hc =>
      subst hc
      refine ⟨.int .i64 c.size, ?_, ?_⟩
      · simp [Builtin.len_, run_underlying (qstr_spec hq), goInt]
      · simpa using VR.i (S := S) .i64 (c.size : Int)
  · split at h <;> cases h
    rename_i e he
    cases hx
    · exact ⟨.int .i64 (0 : Nat), by simp [Builtin.len_, run_underlying (qelem_spec he), goInt], .i _ _⟩
    · exact ⟨.int .i64 _, by simp [Builtin.len_, run_underlying (qelem_spec he), goInt], .i _ _⟩
  · split at h <;> cases h
    rename_i k he
    cases hx
    exact ⟨.int .i64 0, by simp [Builtin.len_, run_underlying (qmap_spec (k := k.1) (e := k.2) he), goInt], .i _ _⟩
  · split at h <;> cases h
    rename_i id _ _ k es clock he hg
    cases hx with
    | m _ r h1 h2 =>
      obtain ⟨g0, _, ces, hh, e1, e2, e3⟩ := hH.obj id _ hg
      have := h2 g0
      subst this
      have hl : es.length = ces.size := by simpa using e1.length
      refine ⟨.int .i64 ces.size, ?_, ?_⟩
      · simp [Builtin.len_, run_underlying (qmap_spec (k := k.1) (e := k.2) he), goInt, getObj, Sem.run, hh]
      · rw [hl]; exact .i _ _
  · cases h

theorem sim_fold {f : V → V → Option V} {g : Value → Value → Sem Value} (hfg : ∀ x y z cx cy, f x y = some z → VR S x cx → VR S y cy → ∃ cz, (g cx cy).run P w = .ok cz w ∧ VR S z cz) :
    ∀ (l : List V) (l' : List Value) (x : V) (cx : Value) (v : V), VRs S l l' → VR S x cx → afold f x l = some v → ∃ cv, (l'.foldlM g cx).run P w = .ok cv w ∧ VR S v cv
  | [], [], x, cx, v, _, hx, h => by simp [afold] at h; subst h; exact ⟨cx, by simp, hx⟩
  | y :: l, cy :: l', x, cx, v, .cons _ _ _ _ hy ht, hx, h => by
    simp only [afold] at h
    split at h
    · rename_i z hz
      obtain ⟨cz, hr, hcz⟩ := hfg _ _ _ _ _ hz hx hy
      obtain ⟨cv, hr2, hv⟩ := sim_fold hfg l l' z cz v ht hcz h
      exact ⟨cv, by simp [hr, hr2], hv⟩
    · cases h
  | [], _ :: _, _, _, _, h, _, _ => by cases h
  | _ :: _, [], _, _, _, h, _, _ => by cases h
theorem sim_min2 (x y z : V) (cx cy : Value) (h : amin2 x y = some z) (hx : VR S x cx) (hy : VR S y cy) : ∃ cz, (Builtin.min2 cx cy).run P w = .ok cz w ∧ VR S z cz := by
  unfold amin2 at h
  split at h <;> cases h
  cases hx; cases hy
  exact ⟨_, rfl, .i _ _⟩
theorem sim_max2 (x y z : V) (cx cy : Value) (h : amax2 x y = some z) (hx : VR S x cx) (hy : VR S y cy) : ∃ cz, (Builtin.max2 cx cy).run P w = .ok cz w ∧ VR S z cz := by
  unfold amax2 at h
  split at h <;> cases h
  cases hx; cases hy
  exact ⟨_, rfl, .i _ _⟩

theorem sim_unary {op : UnOp} {x v : V} {cx : Value} (hx : VR S x cx) (h : aunary op x = some v) : ∃ cv, (∀ w, (Op.unary op cx).run P w = .ok cv w) ∧ VR S v cv := by
  unfold aunary at h
  split at h
  · cases hx; simp only [aint, Option.some.injEq] at h; subst h
    exact ⟨_, fun _ => rfl, .i _ _⟩
  · cases hx; simp only [aint, Option.some.injEq] at h; subst h
    exact ⟨_, fun _ => rfl, .i _ _⟩
  · cases hx; cases h
    exact ⟨_, fun _ => rfl, .b _⟩
  · cases h

/-! Conversions. -/
theorem bytesV_VRs (S : Loc) (l : List UInt8) : VRs S (bytesV l) (l.map fun b => .int .u8 b.toNat) := by
  induction l with
  | nil => exact .nil
  | cons b l ih => exact .cons _ _ _ _ (.i _ _) ih
theorem unbytes_ints : ∀ {k : List V} {l : List UInt8}, unbytes k = some l → ∃ ns : List Int, k = ns.map (fun n => .i .u8 n) ∧ l = ns.map fun n => UInt8.ofNat n.toNat
  | [], l, h => by simp [unbytes] at h; exact ⟨[], by simp [h]⟩
  | v :: k, l, h => by
    unfold unbytes at h
    split at h
    · rename_i h1; cases h1
    · rename_i n k' h1
      cases h1
      simp only [Option.map_eq_some_iff] at h
      obtain ⟨l', hl, rfl⟩ := h
      obtain ⟨ns, rfl, rfl⟩ := unbytes_ints hl
      exact ⟨n :: ns, rfl, rfl⟩
    · cases h

theorem VRs_ints : ∀ {ns : List Int} {cs : List Value}, VRs S (ns.map fun n => V.i .u8 n) cs → cs = ns.map fun n => Value.int .u8 n
  | [], [], _ => rfl
  | n :: ns, c :: cs, .cons _ _ _ _ h t => by
    have h : VR S (.i .u8 n) c := h
    cases h
    simp [VRs_ints t]
  | [], _ :: _, h => by cases h
  | _ :: _, [], h => by cases h
theorem foldl_push (ns : List Int) : ∀ c : ByteArray, (ns.foldl (fun r n => r.push (UInt8.ofNat n.toNat)) c).data.toList = c.data.toList ++ ns.map fun n => UInt8.ofNat n.toNat := by
  induction ns with
  | nil => intro c; simp
  | cons n ns ih => intro c; simp [ih]

theorem sim_convert (hH : HR C S H w) {src dst : TypeId} {x v : V} {cx : Value} {H' : AH} (hx : VR S x cx) (h : aconvert P H src dst x = some (v, H')) :
    ∃ S' cv w', (convert src dst cx).run P w = .ok cv w' ∧ S.le S' ∧ VR S' v cv ∧ HR C S' H' w' := by
  unfold aconvert at h
  split at h
  · rename_i k k' n hs hd
    cases h
    cases hx
    exact ⟨S, .int k (k.wrap n), w, by simp [convert, run_underlying hs, run_underlying hd, Conv.intToInt], Loc.le.refl S, .i _ _, hH⟩
  · rename_i l hs hd
    cases h
    cases hx with
    | s _ c hc => exact ⟨S, .string c, w, by simp [convert, run_underlying hs, run_underlying hd], Loc.le.refl S, .s _ _ hc, hH⟩
  · rename_i e l hs hd
    split at h
    · rename_i he
      cases h
      cases hx with
      | s _ c hc =>
        subst hc
        have hd2 := hH.drew
        let cap := Question.cut (.appendCap c.size 0 e) (w.tape w.drawn (.appendCap c.size 0 e))
        have hcap : c.size ≤ cap := Nat.le_add_right _ _
        have hsz : ((c.data.toList.map fun b => Value.int .u8 b.toNat) ++ List.replicate (cap - c.size) (Value.int .u8 0)).length = cap := by simp; omega
        have hn := sim_newf (C := C) (S := S) (H := H) (w := { w with drawn := w.drawn + 1 }) hd2 (bytesV_VRs S c.data.toList) (fun v hv => by simp at hv; obtain ⟨b, _, rfl⟩ := hv; rfl) e 1 (List.replicate (cap - c.size) (.int .u8 0)) (cap, cap + 1)
          (fun o ho => by rw [hsz] at ho; simp; omega)
        have hrow : ((c.data.toList.map fun b => Value.int .u8 b.toNat) ++ List.replicate (cap - c.size) (Value.int .u8 0)).toArray = (c.data.map fun b => Value.int .u8 b.toNat) ++ Array.replicate (cap - c.size) (.int .u8 0) := by
          apply Array.ext'; simp
        rw [hsz, hrow] at hn
        refine ⟨_, .slice (some ⟨w.heap.size, 0, none⟩) c.size cap, _, ?_, Loc.le_add .., ?_, hn⟩
        · have hsize : ((c.data.map fun b => Value.int .u8 b.toNat) ++ Array.replicate (cap - c.size) (Value.int .u8 0)).size = cap := by
            simp only [Array.size_append, Array.size_map, Array.size_replicate]
            have : c.data.size = c.size := rfl
            omega
          have hmod : ∀ (h : Array Obj) (cells : Array Value), (h.push (.cells cells e)).modify h.size (fun
              | .cells c elem (lo, hi) => .cells c elem (if lo == hi then (cells.size, cells.size + 1) else (min lo cells.size, max hi (cells.size + 1)))
              | o => o) = h.push (.cells cells e (cells.size, cells.size + 1)) := by
            intro h cells
            apply Array.ext_getElem?
            intro j
            rw [Array.getElem?_modify]
            by_cases hj : h.size = j
            · subst hj; simp
            · simp only [hj, if_false, Array.getElem?_push]
              by_cases hj2 : j = h.size
              · omega
              · simp [hj2]
          have hq : (Question.appendCap c.size 0 e).forced = false := rfl
          simp only [convert, Sem.run_bind, run_underlying hs, run_underlying hd, Result.andThen_ok, run_underlying he]
          simp only [Conv.stringToBytes, Sem.run_bind, run_choose, hq, Bool.false_eq_true, if_false, Result.andThen_ok, newRow, run_newObj, Sem.run_pure, markStringish, run_shape, World.shape?]
          simp only [Array.getElem?_push_size, run_freeze, Result.andThen_ok, World.freeze, if_neg (Nat.succ_ne_zero 0)]
          refine congrArg (fun h => Result.ok (Value.slice (some { block := w.heap.size, off := 0 }) c.size cap) ({ heap := h, tape := w.tape, drawn := w.drawn + 1, os := w.os, output := w.output } : World)) ?_
          exact (hmod _ _).trans (by rw [hsize])
        · have : c.data.toList.length = c.size := by simp
          rw [this, hH.next]
          refine .sl _ _ _ _ _ _ _ (by simp [Loc.add]) (by simp [Loc.add]) hcap (fun _ _ => by simp [Loc.add]) (fun h => by cases h) (fun _ _ _ _ => by simp [Loc.add])
    · cases h
  · rename_i e hs hd
    split at h
    · rename_i he
      cases h
      cases hx
      exact ⟨S, .string .empty, w, by simp [convert, run_underlying hs, run_underlying hd, run_underlying he, Conv.bytesToString], Loc.le.refl S, .s _ _ rfl, hH⟩
    · cases h
  · rename_i e id g off len clip hs hd
    split at h
    · rename_i c g' ro esz he hg
      cases hx with
      | sl _ _ _ _ cap _ ad h1 h2 hl h3 h4 h5 =>
        split at h
        · rename_i hz
          cases h
          subst hz
          refine ⟨S, .string .empty, w, ?_, Loc.le.refl S, .s _ _ rfl, hH⟩
          simp [convert, run_underlying hs, run_underlying hd, run_underlying he, Conv.bytesToString, loadCells, loadCellsFrom]
        · rename_i hz
          split at h
          · rename_i hgo
            obtain ⟨hge, hlen⟩ := hgo
            subst hge
            simp only [Option.map_eq_some_iff, Prod.mk.injEq] at h
            obtain ⟨l, hl2, rfl, rfl⟩ := h
            have ho := hH.obj id _ hg
            have := h3 ho.1 (by omega)
            subst this
            obtain ⟨cs, hv, hcl, hc, _⟩ := ho.part off len hlen
            obtain ⟨ns, hns, rfl⟩ := unbytes_ints hl2
            rw [hns] at hv
            have := VRs_ints hv
            subst this
            have hload := run_loadCells_list (P := P) w _ _ hc
            rw [hcl] at hload
            refine ⟨S, .string (ns.foldl (fun r n => r.push (UInt8.ofNat n.toNat)) ByteArray.empty), w, ?_, Loc.le.refl S, .s _ _ ?_, hH⟩
            · rw [run_convert_bytes_string w src dst e _ _ _ hs he hd]
              exact run_bytesToString w _ len cap ns hload
            · rw [foldl_push]; simp
          · cases h
    · cases h
  · cases h
end
end Go.Abs
