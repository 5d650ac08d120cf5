/-
  Timeouts and marks as data; the acts with their timeouts.
-/
import Derived.Test.YtdioggohbfgnfaaTally6
import Derived.Test.YtdioggohbfgnfaaTR2
set_option linter.unusedVariables false
set_option linter.unusedSimpArgs false
namespace Go.Proofs.Ytdioggohbfgnfaa
open Go Go.Abs Go.Proofs
set_option maxRecDepth 100000
attribute [local irreducible] AEnd AW ACalls

structure Tmo where
  signer : Int
  view : Int
  high : Cert
  deriving DecidableEq
def Tmo.cells (t : Tmo) : List V := .i .i64 t.signer :: .i .i64 t.view :: t.high.cells
@[simp] theorem Tmo.len (x : Tmo) : x.cells.length = 10 := rfl
@[simp] theorem Tmo.c0 (x : Tmo) : x.cells[0]? = some (.i .i64 x.signer) := rfl
@[simp] theorem Tmo.c1 (x : Tmo) : x.cells[1]? = some (.i .i64 x.view) := rfl
@[simp] theorem Tmo.c2 (x : Tmo) : x.cells[2]? = some (.i .i64 x.high.kind) := rfl
@[simp] theorem Tmo.c3 (x : Tmo) : x.cells[3]? = some (.i .i64 x.high.block) := rfl
@[simp] theorem Tmo.c4 (x : Tmo) : x.cells[4]? = some (.i .i64 x.high.view) := rfl
@[simp] theorem Tmo.c5 (x : Tmo) : x.cells[5]? = some (.i .i64 x.high.round) := rfl
theorem Tmo.high_cells (x : Tmo) : (x.cells.drop 2).take 8 = x.high.cells := rfl
theorem tmo_take (x : Tmo) : x.cells.take 10 = x.cells := rfl
theorem Tmo.eq' (x y : Tmo) : ((x.signer == y.signer) && ((x.view == y.view) && decide (x.high = y.high))) = decide (x = y) := by
  by_cases h : x = y
  · subst h; simp
  · simp only [h, decide_false]
    cases x; cases y
    simp at h ⊢
    simpa using h
@[simp] theorem Tmo.aeq (x y : Tmo) : aeq Try.prog 34 (.agg x.cells) (.agg y.cells) = some (decide (x = y)) := by
  have := Cert.eq' x.high y.high
  rw [← Tmo.eq', ← this]
  simp [Go.Abs.aeq, Tmo.cells, Cert.cells, fitsAll, CK.fits, ceqs, ceq, u32]
theorem tv_tmo {H : AH} {n : Nat} {l : List V} (h : TV Try.prog H (n + 3) 34 l) : ∃ t : Tmo, l = t.cells := by
  obtain ⟨x0, e0, _⟩ := (h.fld Try.underlying34 0 rfl rfl rfl cellsOf_3).int Try.underlying3
  obtain ⟨x1, e1, _⟩ := (h.fld Try.underlying34 1 rfl rfl rfl cellsOf_3).int Try.underlying3
  obtain ⟨c, e2⟩ := tv_cert (h.fld Try.underlying34 2 rfl rfl rfl cellsOf_32)
  have hl := h.size Try.underlying34 cellsOf_34
  refine ⟨⟨x0, x1, c⟩, ?_⟩
  rcases l with _ | ⟨a0, _ | ⟨a1, l⟩⟩ <;> simp at hl
  have h8 : List.take 8 l = l := List.take_of_length_le (by omega)
  simp at e0 e1 e2
  rw [h8] at e2
  simp [Tmo.cells, e0, e1, e2]
/-- A replica of a view. -/
structure Mrk where
  kind : Int
  view : Int
  who : Int
  deriving DecidableEq
def Mrk.cells (m : Mrk) : List V := [.i .i64 m.kind, .i .i64 m.view, .i .i64 m.who]
@[simp] theorem Mrk.len (x : Mrk) : x.cells.length = 3 := rfl
theorem Mrk.take (x : Mrk) : x.cells.take 3 = x.cells := rfl
@[simp] theorem Mrk.c1 (x : Mrk) : x.cells[1]? = some (.i .i64 x.view) := rfl
@[simp] theorem Mrk.c2 (x : Mrk) : x.cells[2]? = some (.i .i64 x.who) := rfl
theorem Mrk.eq' (x y : Mrk) : ((x.kind == y.kind) && ((x.view == y.view) && (x.who == y.who))) = decide (x = y) := by
  by_cases h : x = y
  · subst h; simp
  · simp only [h, decide_false]
    cases x; cases y
    simp at h ⊢
    simpa using h
@[simp] theorem Mrk.aeq (x y : Mrk) : aeq Try.prog 105 (.agg x.cells) (.agg y.cells) = some (decide (x = y)) := by
  rw [← Mrk.eq']
  simp [Go.Abs.aeq, Mrk.cells, fitsAll, CK.fits, ceqs, ceq]
/-- An act with its timeout. -/
structure Act2 where
  kind : Int
  view : Int
  who : Int
  cert : Cert
  tmo : Tmo
def Act2.cells (a : Act2) : List V := [.i .i64 a.kind, .i .i64 a.view, .i .i64 a.who] ++ (a.cert.cells ++ a.tmo.cells)
@[simp] theorem Act2.len (a : Act2) : a.cells.length = 21 := rfl
theorem Act2.take (a : Act2) : a.cells.take 21 = a.cells := rfl
theorem Act2.certC (a : Act2) : (a.cells.drop 3).take 8 = a.cert.cells := rfl
theorem Act2.tmoC (a : Act2) : (a.cells.drop 11).take 10 = a.tmo.cells := rfl
@[simp] theorem Act2.c0 (a : Act2) : a.cells[0]? = some (.i .i64 a.kind) := rfl
@[simp] theorem Act2.c1 (a : Act2) : a.cells[1]? = some (.i .i64 a.view) := rfl
@[simp] theorem Act2.c2 (a : Act2) : a.cells[2]? = some (.i .i64 a.who) := rfl
theorem tv_acts2 {H : AH} {v : V} (h : TVal Try.prog H 22 v) : ∃ xs : List Act2, RS H v 21 (xs.map Act2.cells) := by
  obtain ⟨ls, h3, h4, h5⟩ := h.rs Try.underlying22 cellsOf_36
  obtain ⟨xs, rfl⟩ := exists_map (f := Act2.cells) (ls := ls) fun l hl => by
    have h6 := h4 l hl
    obtain ⟨x0, e0, _⟩ := (h6.fld Try.underlying36 0 rfl rfl rfl cellsOf_3).int Try.underlying3
    obtain ⟨x1, e1, _⟩ := (h6.fld Try.underlying36 1 rfl rfl rfl cellsOf_3).int Try.underlying3
    obtain ⟨x2, e2, _⟩ := (h6.fld Try.underlying36 2 rfl rfl rfl cellsOf_3).int Try.underlying3
    obtain ⟨c, e3⟩ := tv_cert (h6.fld Try.underlying36 3 rfl rfl rfl cellsOf_32)
    obtain ⟨t, e4⟩ := tv_tmo (h6.fld Try.underlying36 4 rfl rfl rfl cellsOf_34)
    have hl := h6.size Try.underlying36 cellsOf_36
    refine ⟨⟨x0, x1, x2, c, t⟩, ?_⟩
    rcases l with _ | ⟨a0, _ | ⟨a1, _ | ⟨a2, l⟩⟩⟩ <;> simp at hl
    simp at e0 e1 e2 e3 e4
    have e5 : l = l.take 8 ++ l.drop 8 := (List.take_append_drop 8 l).symm
    have e6 : List.take 10 (List.drop 8 l) = l.drop 8 := List.take_of_length_le (by simp; omega)
    rw [e6] at e4
    rw [e0, e1, e2, e5, e3, e4]
    rfl
  exact ⟨xs, h3⟩
/-- The document's tally in memory. -/
def RAt (H : AH) (m : Nat) (F : List Nat) (f fr : Int) (vs : List Cert) (ts : List Tmo) (ms : List Mrk) : Prop :=
  ∃ vv tv mv FV FT FM, F = m :: (FV ++ (FT ++ FM)) ∧ F.Nodup ∧ H.get m = some (.cells [.i .i64 f, .i .i64 fr, vv, tv, mv] 0 false 0) ∧ Own H vv 8 (vs.map Cert.cells).flatten FV ∧ Own H tv 10 (ts.map Tmo.cells).flatten FT ∧ Own H mv 3 (ms.map Mrk.cells).flatten FM
theorem RAt.upd {H H' : AH} {m : Nat} {F G : List Nat} {f fr : Int} {vs : List Cert} {ts : List Tmo} {ms : List Mrk} (h : RAt H m F f fr vs ts ms) (hu : Upd H H' G) (hd : ∀ j ∈ F, j ∉ G) : RAt H' m F f fr vs ts ms := by
  obtain ⟨vv, tv, mv, FV, FT, FM, rfl, h2, h3, h4, h5, h6⟩ := h
  exact ⟨vv, tv, mv, FV, FT, FM, rfl, h2, hu.keep (hd m (by simp)) h3, h4.upd hu fun j hj => hd j (by simp [hj]), h5.upd hu fun j hj => hd j (by simp [hj]), h6.upd hu fun j hj => hd j (by simp [hj])⟩
theorem RAt.lt {H : AH} {m : Nat} {F : List Nat} {f fr : Int} {vs : List Cert} {ts : List Tmo} {ms : List Mrk} (h : RAt H m F f fr vs ts ms) : ∀ j ∈ F, j < H.next := by
  obtain ⟨vv, tv, mv, FV, FT, FM, rfl, h2, h3, h4, h5, h6⟩ := h
  intro j hj
  simp only [List.mem_cons, List.mem_append] at hj
  rcases hj with rfl | hj | hj | hj
  · exact AH.get_lt h3
  · exact h4.lt j hj
  · exact h5.lt j hj
  · exact h6.lt j hj
end Go.Proofs.Ytdioggohbfgnfaa
