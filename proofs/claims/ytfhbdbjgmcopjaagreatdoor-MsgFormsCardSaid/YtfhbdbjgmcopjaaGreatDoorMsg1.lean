/-
  Messages in memory; messages as arguments.
-/
import Derived.Test.YtfhbdbjgmcopjaaGreatDoorMsg0
import Derived.Test.YtfhbdbjgmcopjaaGreatDoorArgBlk
set_option linter.unusedVariables false
set_option linter.unusedSimpArgs false
namespace Go.Proofs.YtfhbdbjgmcopjaaGreatDoor
open Go Go.Abs Go.Proofs
set_option maxRecDepth 100000
attribute [local irreducible] AEnd AW ACalls

/-- Its cells, where its lists lie at lv, pv and tv. -/
def Msg.cells (m : Msg) (lv pv tv : V) : List V := .i .i64 m.kind :: .i .i64 m.signer :: .i .i64 m.view :: .i .i64 m.n :: u32 m.set :: (m.cert.cells ++ (m.tmo.cells ++ (lv :: (m.blk.cells pv tv ++ m.tx.cells))))
/-- Its lists lie there. -/
structure MsgAt (H : AH) (m : Msg) (lv pv tv : V) : Prop where
  pf : RS H lv 10 (m.proof.map Tmo.cells)
  bk : BlkAt H m.blk pv tv
section
variable (m : Msg) (lv pv tv : V)
@[simp] theorem Msg.len : (m.cells lv pv tv).length = 45 := rfl
@[simp] theorem Msg.c0 : (m.cells lv pv tv)[0]? = some (.i .i64 m.kind) := rfl
@[simp] theorem Msg.c1 : (m.cells lv pv tv)[1]? = some (.i .i64 m.signer) := rfl
@[simp] theorem Msg.c2 : (m.cells lv pv tv)[2]? = some (.i .i64 m.view) := rfl
@[simp] theorem Msg.c3 : (m.cells lv pv tv)[3]? = some (.i .i64 m.n) := rfl
@[simp] theorem Msg.c4 : (m.cells lv pv tv)[4]? = some (u32 m.set) := rfl
@[simp] theorem Msg.c23 : (m.cells lv pv tv)[23]? = some lv := rfl
theorem Msg.cert_cells : ((m.cells lv pv tv).drop 5).take 8 = m.cert.cells := rfl
theorem Msg.tmo_cells : ((m.cells lv pv tv).drop 13).take 10 = m.tmo.cells := rfl
theorem Msg.blk_cells : ((m.cells lv pv tv).drop 24).take 14 = m.blk.cells pv tv := rfl
theorem Msg.tx_cells : ((m.cells lv pv tv).drop 38).take 7 = m.tx.cells := rfl
theorem msg_take : (m.cells lv pv tv).take 45 = m.cells lv pv tv := rfl
end
theorem MsgAt.same {H H' : AH} {m : Msg} {lv pv tv : V} (h : MsgAt H m lv pv tv) (hx : ∀ j, j < H.next → H'.get j = H.get j) : MsgAt H' m lv pv tv := ⟨h.pf.same hx, h.bk.same hx⟩
theorem MsgAt.upd {H H' : AH} {m : Msg} {lv pv tv : V} (h : MsgAt H m lv pv tv) (hx : Upd H H' []) : MsgAt H' m lv pv tv := ⟨h.pf.upd hx, h.bk.pf.upd hx, h.bk.tx.upd hx⟩
def Msg.great (m : Msg) : Bool := decide (40 < m.proof.length) || m.blk.great || m.tx.great
def Msg.fits (m : Msg) : Prop := m.proof.length ≤ 140737488351232 ∧ m.blk.fits ∧ m.tx.fits
theorem Msg.eq' (a b : Msg) : (decide (a.kind = b.kind) && (decide (a.signer = b.signer) && (decide (a.view = b.view) && (decide (a.n = b.n) && (decide (a.set = b.set) && (decide (a.cert = b.cert) && (decide (a.tmo = b.tmo) && (decide (a.proof = b.proof) && (decide (a.blk = b.blk) && decide (a.tx = b.tx)))))))))) = decide (a = b) := by
  by_cases h : a = b
  · subst h; simp
  · simp only [h, decide_false]
    cases a; cases b
    simp at h ⊢
    simpa using h
theorem list_split {α : Type} (l : List α) (hl : l.length = 40) : l = l.take 8 ++ ((l.drop 8).take 10 ++ ((l.drop 18).take 1 ++ ((l.drop 19).take 14 ++ (l.drop 33).take 7))) := by
  have s1 := (List.take_append_drop 8 l).symm
  have s2 : l.drop 8 = (l.drop 8).take 10 ++ l.drop 18 := by simpa [List.drop_drop] using (List.take_append_drop 10 (l.drop 8)).symm
  have s3 : l.drop 18 = (l.drop 18).take 1 ++ l.drop 19 := by simpa [List.drop_drop] using (List.take_append_drop 1 (l.drop 18)).symm
  have s4 : l.drop 19 = (l.drop 19).take 14 ++ l.drop 33 := by simpa [List.drop_drop] using (List.take_append_drop 14 (l.drop 19)).symm
  have s5 : (l.drop 33).take 7 = l.drop 33 := List.take_of_length_le (by simp; omega)
  rw [s5, ← s4, ← s3, ← s2, ← s1]
theorem tv_msg {H : AH} {n : Nat} {l : List V} (h : TV Tryz.prog H (n + 7) 34 l) : ∃ (m : Msg) (lv pv tv : V), l = m.cells lv pv tv ∧ MsgAt H m lv pv tv := by
  obtain ⟨x0, e0, _⟩ := (h.fld Tryz.underlying34 0 rfl rfl rfl cellsOf_3).int Tryz.underlying3
  obtain ⟨x1, e1, _⟩ := (h.fld Tryz.underlying34 1 rfl rfl rfl cellsOf_3).int Tryz.underlying3
  obtain ⟨x2, e2, _⟩ := (h.fld Tryz.underlying34 2 rfl rfl rfl cellsOf_3).int Tryz.underlying3
  obtain ⟨x3, e3, _⟩ := (h.fld Tryz.underlying34 3 rfl rfl rfl cellsOf_3).int Tryz.underlying3
  obtain ⟨x4, e4, b4⟩ := (h.fld Tryz.underlying34 4 rfl rfl rfl cellsOf_22).int Tryz.underlying22
  obtain ⟨c, e5⟩ := tv_cert (h.fld Tryz.underlying34 5 rfl rfl rfl cellsOf_24)
  obtain ⟨t, e6⟩ := tv_tmo (h.fld Tryz.underlying34 6 rfl rfl rfl cellsOf_26)
  obtain ⟨lv, lp, e7, _, hp, hp2, _⟩ := (h.fld Tryz.underlying34 7 rfl rfl rfl cellsOf_27).rs Tryz.underlying27 cellsOf_26
  obtain ⟨b, pv, tv, e8, hb⟩ := tv_blk (h.fld Tryz.underlying34 8 rfl rfl rfl cellsOf_30)
  obtain ⟨x, e9⟩ := tv_tx (h.fld Tryz.underlying34 9 rfl rfl rfl cellsOf_32)
  obtain ⟨ps, rfl⟩ := exists_map (f := Tmo.cells) fun l hl => tv_tmo (hp2 l hl)
  obtain ⟨s4, g4⟩ := u32_of b4.1 b4.2
  have hl := h.size Tryz.underlying34 cellsOf_34
  refine ⟨⟨x0, x1, x2, x3, s4, c, t, ps, b, x⟩, lv, pv, tv, ?_, hp, hb⟩
  rcases l with _ | ⟨a0, _ | ⟨a1, _ | ⟨a2, _ | ⟨a3, _ | ⟨a4, l⟩⟩⟩⟩⟩ <;> simp at hl
  simp at e0 e1 e2 e3 e4 e5 e6 e7 e8 e9

  rw [list_split l hl, e5, e6, e7, e8, e9, e0, e1, e2, e3, e4]
  simp [Msg.cells, ← g4]
end Go.Proofs.YtfhbdbjgmcopjaaGreatDoor
