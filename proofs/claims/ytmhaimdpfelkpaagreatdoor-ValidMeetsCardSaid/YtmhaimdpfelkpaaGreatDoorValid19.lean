/-
  Registers that are told more, one thing behind the other.
-/
import Derived.Test.YtmhaimdpfelkpaaGreatDoorValid16
import Derived.Test.YtmhaimdpfelkpaaGreatDoorValid18
set_option linter.unusedVariables false
set_option linter.unusedSimpArgs false
namespace Go.Proofs.YtmhaimdpfelkpaaGreatDoor
open Go Go.Abs Go.Proofs
set_option maxRecDepth 100000
attribute [local irreducible] AEnd AW ACalls

theorem AH.boxed4 (H : AH) (l m k n : List V) : ∃ H1, (((H.new (.cells l 0 false 0)).new (.cells m 0 false 0)).new (.cells k 0 false 0)).new (.cells n 0 false 0) = H1 ∧ H1.get H.next = some (.cells l 0 false 0) ∧ H1.get (H.next + 1) = some (.cells m 0 false 0) ∧ H1.get (H.next + 2) = some (.cells k 0 false 0) ∧ H1.get (H.next + 3) = some (.cells n 0 false 0) ∧ H1.next = H.next + 4 ∧ ∀ j, j < H.next → H1.get j = H.get j := by
  obtain ⟨H1, e1, h1, h2, h3, h4, h5⟩ := H.boxed3 l m k
  rw [e1]
  refine ⟨_, rfl, ?_, ?_, ?_, ?_, ?_, ?_⟩
  · rw [AH.get_new, if_neg (by omega)]; exact h1
  · rw [AH.get_new, if_neg (by omega)]; exact h2
  · rw [AH.get_new, if_neg (by omega)]; exact h3
  · rw [AH.get_new, if_pos (by omega)]
  · simp [h4]
  · intro j hj; rw [AH.get_new, if_neg (by omega)]; exact h5 j hj
/-- Registers; what lies below 'B' or at 'y' is as it was in 'K'. -/
structure Kept (B y : Nat) (K H : AH) (ib is ic : Nat) (FB FS FC : List Nat) (d : RegD) : Prop where
  law : LawAt H ib is ic FB FS FC d
  new : ∀ A ∈ [FB, FS, FC], ∀ j ∈ A, B ≤ j ∧ j ≠ y
  same : ∀ j, (j < B ∨ j = y) → H.get j = K.get j
  lt : B ≤ H.next ∧ y < H.next
section
variable {B y : Nat} {K H : AH} {ib is ic : Nat} {FB FS FC : List Nat} {d : RegD}
theorem Kept.upd0 (h : Kept B y K H ib is ic FB FS FC d) {H' : AH} (hu : Upd H H' []) : Kept B y K H' ib is ic FB FS FC d :=
  ⟨h.law.upd hu, h.new, fun j hj => by rw [hu.2 j (by have := h.lt; omega) (by simp), h.same j hj], by have := hu.1; have := h.lt; omega⟩
theorem Kept.step (h : Kept B y K H ib is ic FB FS FC d) {H' : AH} {F : List Nat} (hF : F ∈ [FB, FS, FC]) (hu : Upd H H' F) : (∀ j, (j < B ∨ j = y) → H'.get j = K.get j) ∧ B ≤ H'.next ∧ y < H'.next :=
  ⟨fun j hj => by rw [hu.2 j (by have := h.lt; omega) (fun hm => by have := h.new F hF j hm; omega), h.same j hj], by have := hu.1; have := h.lt; omega⟩
theorem kept_cert (h : Kept B y K H ib is ic FB FS FC d) (c : Cert) : ACalls Tryz.prog 16 [.agg (lawV ib is ic), .agg c.cells] H fun r H' =>
    r = .i .i64 (certR d c).1 ∧ H.next ≤ H'.next ∧ Kept B y K H' ib is ic FB FS FC { d with co := (certR d c).2 } :=
  (lawCert_ok H h.law c).mono fun r H' ⟨hr, h1, h2⟩ => ⟨hr, h2.1, h1, h.new, (h.step (by simp) h2).1, (h.step (by simp) h2).2⟩
theorem kept_issue (h : Kept B y K H ib is ic FB FS FC d) (hl : d.sh.length ≤ 100000) (x : Shr) : ACalls Tryz.prog 17 [.p (some (is, 0, 0)), .agg x.cells] H fun r H' =>
    (∃ e, r = .i .i64 e) ∧ H.next ≤ H'.next ∧ ∃ FS', Kept B y K H' ib is ic FB FS' FC { d with sh := shIssue d.f d.sh x } :=
  (issue_ok H h.law.sign hl x).mono fun r H' ⟨hr, F', h1, h2, h3⟩ => by
    have hn := h.lt
    have hFB := h.law.book.lt
    have hFC := h.law.coin.lt
    refine ⟨hr, h2.1, F', ⟨h.law.book.upd h2 fun j hj => h.law.bs j hj, h1, h.law.coin.upd h2 fun j hj hj' => h.law.sc j hj' hj, fun j hj hj' => ?_, h.law.bc, fun j hj hj' => ?_, h.law.len, h.law.txt⟩, fun A hA j hj => ?_, (h.step (by simp) h2).1, (h.step (by simp) h2).2⟩
    · rcases h3 j hj' with e | e
      · exact h.law.bs j hj e
      · have := hFB j hj; omega
    · rcases h3 j hj with e | e
      · exact h.law.sc j e hj'
      · have := hFC j hj'; omega
    · simp only [List.mem_cons, List.not_mem_nil, or_false] at hA
      rcases hA with rfl | rfl | rfl
      · exact h.new _ (by simp) j hj
      · rcases h3 j hj with e | e
        · exact h.new FS (by simp) j e
        · omega
      · exact h.new _ (by simp) j hj
theorem kept_enter (h : Kept B y K H ib is ic FB FS FC d) (hl : d.bk.length ≤ 9999) (s : List UInt8) : ACalls Tryz.prog 18 [.p (some (ib, 0, 0)), .s s] H fun r H' =>
    (∃ a b, r = .tup [.i .i64 a, .i .i64 b]) ∧ H.next ≤ H'.next ∧ ∃ FB', Kept B y K H' ib is ic FB' FS FC { d with bk := bkEnter d.bk s } :=
  (bookEnter_ok H h.law.book (by omega) s).mono fun r H' ⟨hr, F', h1, h2, h3⟩ => by
    have hn := h.lt
    have hFS := h.law.sign.lt
    have hFC := h.law.coin.lt
    refine ⟨hr, h2.1, F', ⟨h1, h.law.sign.upd h2 fun j hj hj' => h.law.bs j hj' hj, h.law.coin.upd h2 fun j hj hj' => h.law.bc j hj' hj, fun j hj hj' => ?_, fun j hj hj' => ?_, h.law.sc, ?_, bkEnter_txt h.law.txt⟩, fun A hA j hj => ?_, (h.step (by simp) h2).1, (h.step (by simp) h2).2⟩
    · rcases h3 j hj with e | e
      · exact h.law.bs j e hj'
      · have := hFS j hj'; omega
    · rcases h3 j hj with e | e
      · exact h.law.bc j e hj'
      · have := hFC j hj'; omega
    · have := bkEnter_len d.bk s; simp only; omega
    · simp only [List.mem_cons, List.not_mem_nil, or_false] at hA
      rcases hA with rfl | rfl | rfl
      · rcases h3 j hj with e | e
        · exact h.new FB (by simp) j e
        · omega
      · exact h.new _ (by simp) j hj
      · exact h.new _ (by simp) j hj
end
/-- What is told more: shares, then contents. -/
def tellS (d : RegD) (l : List Shr) : RegD := l.foldl (fun d x => { d with sh := shIssue d.f d.sh x }) d
def tellC (d : RegD) (l : List (List UInt8)) : RegD := l.foldl (fun d s => { d with bk := bkEnter d.bk s }) d
theorem tellS_more (d : RegD) (l : List Shr) : More d (tellS d l) := by
  unfold tellS
  exact foldl_all _ (fun e => More d e) (fun b a h => h.trans (More.issue b a)) l d (More.refl d)
theorem tellC_more (d : RegD) (l : List (List UInt8)) : More d (tellC d l) := by
  unfold tellC
  exact foldl_all _ (fun e => More d e) (fun b a h => h.trans (More.enter b a)) l d (More.refl d)
end Go.Proofs.YtmhaimdpfelkpaaGreatDoor
