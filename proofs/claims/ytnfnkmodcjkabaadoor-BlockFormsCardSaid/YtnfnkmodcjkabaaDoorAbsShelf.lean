/-
  Contracts of Go's library (the kit's shelf) over abstract states: letters of texts.
-/
import Derived.Test.YtnfnkmodcjkabaaDoorAbsUtf
import Derived.Test.YtnfnkmodcjkabaaDoorAbsTop
import Derived.Lib.LaidU8
import Derived.Shelf.Unicode.DecodeAny
set_option linter.unusedVariables false
set_option linter.unusedSimpArgs false
namespace Go.Abs
open Go Go.RowKit
/-- Where nothing that was there is changed, the state stays. -/
theorem HR.belowW {C : Ctx} {S : Loc} {H : AH} {w w' : World} (h : HR C S H w) (b : Below w.heap.size w w') : HR C S H w' where
  next := h.next
  obj id o ho := by
    have hlt : id < S.next := by rw [← h.next]; exact AH.get_lt ho
    have hin : S.blk id < w.heap.size ∨ (S.own id = false ∧ ∃ g esz, H.get id = Option.some (.cells [] g true esz)) := by
      cases hown : S.own id with
      | true => exact .inl (h.lt id hlt hown).1
      | false => exact (h.foreign id hlt hown).imp (fun hb => hb.1) (fun he => ⟨rfl, he⟩)
    rcases hin with hin | ⟨hown, g, esz, hg⟩
    · exact (h.obj id o ho).block (Loc.le.refl S) hlt rfl (b.block _ hin)
    · rw [hg] at ho; cases ho
      exact (h.obj id _ hg).empty (Loc.le.refl S) hlt rfl hown
  some := h.some
  lt id hi ho := ⟨Nat.lt_of_lt_of_le (h.lt id hi ho).1 b.size, (h.lt id hi ho).2⟩
  foreign id hi ho := (h.foreign id hi ho).imp (fun hb => ⟨Nat.lt_of_lt_of_le hb.1 b.size, hb.2⟩) fun h => h
  sep := h.sep
  below := ⟨b.os.trans h.below.os, b.tape.trans h.below.tape, b.output.trans h.below.output, Nat.le_trans h.below.size b.size, fun k hk hm => (b.block k (Nat.lt_of_lt_of_le hk h.below.size)).trans (h.below.block k hk hm)⟩
/-- The two tables of unicode/utf8, at their blocks. -/
def utf8Tabs (g3 g4 : Nat) : List (Nat × List Value) :=
  [(g3, (List.range 256).map fun c => .int .u8 (Lib.firstT c)), (g4, ((List.range 16).map fun i => [Value.int .u8 (Lib.accLo i), .int .u8 (Lib.accHi i)]).flatten)]
theorem acc_at (j : Nat) (v : Value) (h : ((List.range 16).map fun i => [Value.int .u8 (Lib.accLo i), .int .u8 (Lib.accHi i)]).flatten[j]? = some v) : ∃ i, i < 16 ∧ ((j = 2 * i ∧ v = .int .u8 (Lib.accLo i)) ∨ (j = 2 * i + 1 ∧ v = .int .u8 (Lib.accHi i))) := by
  have hj : j < 32 := by
    apply Classical.byContradiction
    intro hn
    rw [List.getElem?_eq_none (by simp [List.range, List.range.loop]; omega)] at h
    cases h
  refine ⟨j / 2, by omega, ?_⟩
  have key : ∀ j : Fin 32, ((List.range 16).map fun i => [Value.int .u8 (Lib.accLo i), .int .u8 (Lib.accHi i)]).flatten[j.val]? = some (if j.val % 2 = 0 then Value.int .u8 (Lib.accLo (j.val / 2)) else .int .u8 (Lib.accHi (j.val / 2))) := by
    intro j
    have : j.val = 0 ∨ j.val = 1 ∨ j.val = 2 ∨ j.val = 3 ∨ j.val = 4 ∨ j.val = 5 ∨ j.val = 6 ∨ j.val = 7 ∨ j.val = 8 ∨ j.val = 9 ∨ j.val = 10 ∨ j.val = 11 ∨ j.val = 12 ∨ j.val = 13 ∨ j.val = 14 ∨ j.val = 15 ∨ j.val = 16 ∨ j.val = 17 ∨ j.val = 18 ∨ j.val = 19 ∨ j.val = 20 ∨ j.val = 21 ∨ j.val = 22 ∨ j.val = 23 ∨ j.val = 24 ∨ j.val = 25 ∨ j.val = 26 ∨ j.val = 27 ∨ j.val = 28 ∨ j.val = 29 ∨ j.val = 30 ∨ j.val = 31 := by have := j.isLt; omega
    rcases this with e | e | e | e | e | e | e | e | e | e | e | e | e | e | e | e | e | e | e | e | e | e | e | e | e | e | e | e | e | e | e | e <;> rw [e] <;> rfl
  have := key ⟨j, hj⟩
  rw [h] at this
  have hv := Option.some.inj this
  by_cases h2 : j % 2 = 0
  · exact .inl ⟨by omega, by simpa [h2] using hv⟩
  · exact .inr ⟨by omega, by simpa [h2] using hv⟩
theorem cell_lt {w : World} {b j : Nat} {v : Value} (h : w.cell? ⟨b, j, none⟩ = some v) : b < w.heap.size := by
  apply Classical.byContradiction
  intro hn
  have : w.heap[b]? = none := Array.getElem?_eq_none (by omega)
  simp [World.cell?, this] at h
/-- The tables lie there. -/
theorem utf8_ok {P : Program} [Laid P] {g3 g4 : Nat} (ht : Laid.tabs P = utf8Tabs g3 g4) {W : World} (h : Lib.Utf8Tabs g3 g4 W) : Laid.ok P ⟨W, Loc.none⟩ := by
  intro x hx
  rw [ht] at hx
  simp only [utf8Tabs, List.mem_cons, List.not_mem_nil, or_false] at hx
  rcases hx with rfl | rfl
  · refine ⟨cell_lt (h.1 0 (by decide)), mine_none, fun j v hj => ?_⟩
    have hj2 : j < 256 := by
      apply Classical.byContradiction
      intro hn
      rw [List.getElem?_eq_none (by simp; omega)] at hj
      cases hj
    simp [hj2] at hj
    rw [← hj]
    exact h.1 j hj2
  · refine ⟨cell_lt (h.2 0 (by decide)).1, mine_none, fun j v hj => ?_⟩
    obtain ⟨i, hi, ⟨rfl, rfl⟩ | ⟨rfl, rfl⟩⟩ := acc_at j v hj
    · exact (h.2 i hi).1
    · exact (h.2 i hi).2
theorem utf8_here {P : Program} [Laid P] {g3 g4 : Nat} (ht : Laid.tabs P = utf8Tabs g3 g4) {C : Ctx} {w : World} (h : Laid.ok P C) (hf : Fr C w) : Lib.Utf8Tabs g3 g4 w := by
  refine ⟨fun c hc => ?_, fun i hi => ⟨?_, ?_⟩⟩
  · exact Laid.here h hf (x := (g3, _)) (by rw [ht]; simp only [utf8Tabs, List.mem_cons]; exact .inl rfl) (by simp [hc])
  · refine Laid.here h hf (x := (g4, _)) (by rw [ht]; simp only [utf8Tabs, List.mem_cons]; exact .inr (.inl rfl)) ?_
    have : i = 0 ∨ i = 1 ∨ i = 2 ∨ i = 3 ∨ i = 4 ∨ i = 5 ∨ i = 6 ∨ i = 7 ∨ i = 8 ∨ i = 9 ∨ i = 10 ∨ i = 11 ∨ i = 12 ∨ i = 13 ∨ i = 14 ∨ i = 15 := by omega
    rcases this with e | e | e | e | e | e | e | e | e | e | e | e | e | e | e | e <;> rw [e] <;> rfl
  · refine Laid.here h hf (x := (g4, _)) (by rw [ht]; simp only [utf8Tabs, List.mem_cons]; exact .inr (.inl rfl)) ?_
    have : i = 0 ∨ i = 1 ∨ i = 2 ∨ i = 3 ∨ i = 4 ∨ i = 5 ∨ i = 6 ∨ i = 7 ∨ i = 8 ∨ i = 9 ∨ i = 10 ∨ i = 11 ∨ i = 12 ∨ i = 13 ∨ i = 14 ∨ i = 15 := by omega
    rcases this with e | e | e | e | e | e | e | e | e | e | e | e | e | e | e | e <;> rw [e] <;> rfl
/-- What Go's decoder gives. -/
def decG (l : List UInt8) : Nat × Nat := if l = [] then (65533, 0) else dec l
theorem decodeGo_decG (c : ByteArray) : Lib.decodeGo c = decG c.data.toList := by
  unfold Lib.decodeGo decG
  have hs : c.size = c.data.toList.length := rfl
  by_cases h : c.data.toList = []
  · have : c.size = 0 := by rw [hs, h]; rfl
    rw [if_pos this, if_pos h]
  · have : ¬ c.size = 0 := by
      intro e; apply h
      exact List.length_eq_zero_iff.1 (hs ▸ e)
    rw [if_neg this, if_neg h]
    have := decode_dec c.data.toList 0
    rw [List.drop_zero, Array.toArray_toList] at this
    exact this
theorem decode_call {P : Program} [Laid P] {ρ : Shelf.Ren} (L : Proofs.Lays.n197 P ρ) (ht : Laid.tabs P = utf8Tabs (ρ.g 3) (ρ.g 4)) (hg : goFunc P (ρ.f 197)) (H : AH) (l : List UInt8) :
    ACalls P (ρ.f 197) [.s l] H fun r H' => r = .tup [.i .i32 (decG l).1, .i .i64 (decG l).2] ∧ H' = H := by
  refine .inl ⟨hg, fun C S cargs w hl hH hv => ?_⟩
  cases hv with
  | cons v c _ _ h t =>
    cases t
    cases h with
    | s l c hc =>
      refine Calls.mono (Proofs.Any.utf8_DecodeRuneInString L c w (utf8_here ht hl hH.below)) fun e w' ⟨he, hb⟩ => ?_
      refine ⟨_, _, S, H, he, Loc.le.refl S, ?_, hH.belowW hb, rfl, rfl⟩
      rw [decodeGo_decG, hc]
      exact VR.tup _ [_, _] (.cons _ _ _ _ (.i ..) (.cons _ _ _ _ (.i ..) .nil))
end Go.Abs
