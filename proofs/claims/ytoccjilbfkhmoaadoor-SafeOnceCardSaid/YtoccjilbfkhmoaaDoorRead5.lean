/-
  Lists are read.
-/
import Derived.Test.YtoccjilbfkhmoaaDoorRead4
set_option linter.unusedVariables false
set_option linter.unusedSimpArgs false
namespace Go.Proofs.YtoccjilbfkhmoaaDoor
open Go Go.Abs Go.Proofs
set_option maxRecDepth 100000
attribute [local irreducible] AEnd AW ACalls

theorem take2_ok {H0 H : AH} {id bx : Nat} {s : St} (h : Rd H0 H id s) (hb : H.get bx = some (.cells [.p (some (id, 0, 0))] 0 false 0)) (hne : bx ≠ id) (h32 : s.2 ≠ 32) :
    ACalls Tryd.prog 67 [.p (some (bx, 0, 0))] H fun r H' => r = .agg (takeTx s).1.cells ∧ Rd H0 H' id (takeTx s).2 ∧ Upd H H' [id] := by
  have hid := h.mem
  refine ACalls_body Tryd.func67 rfl rfl ?_
  refine AW_seq ?_
  refine AW_reg [0, 1] fun K hK => ?_ -- region 0
  simp [init_eq, V.cells]
  refine hK _ _ ?_; clear hK K
  obtain ⟨G, e1, g1, gn, go⟩ := H.boxed Tx.zero.cells
  show AThen _ _ _ _ (H.new (O.cells Tx.zero.cells 0 false 0))
  rw [e1]
  have u0 : Upd H G [] := ⟨by omega, fun j hj _ => go j hj⟩
  have hbG : G.get bx = some (.cells [.p (some (id, 0, 0))] 0 false 0) := u0.keep (by simp) hb
  have hG : Rd H0 G id s := h.upd u0 (by simp)
  refine AW_seq ?_
  refine AW_reg [1] fun K hK => ?_ -- region 1
  simp [init_eq, aload, hbG]
  refine ACalls.mono (txTake_ok hG h32) fun r G1 ⟨hr, h1, u1⟩ => ?_ -- hallmoot/tx.Take
  subst hr
  have g2 := u1.keep (by simp; omega) g1
  simp [astore, g2, V.cells]
  refine hK _ _ ?_; clear hK K
  have hlt : H.next < G1.next := by have := u1.1; omega
  refine AW_ret (end_ret (ares_cell (v := .agg (takeTx s).1.cells) ?_) ⟨rfl, h1.upd (Upd.set (F := [H.next]) _ _ _ (by simp)) (fun j hj => by simp at hj; omega), ?_⟩)
  · simp [aload, AH.get_set, hlt]
    rw [splice_all (c := Tx.zero.cells) (l := (takeTx s).1.cells) rfl]; simp [tx_take]
  · exact ((u0.mono (by simp)).trans u1 (fun j hj => .inl hj)).trans (Upd.set (F := [H.next]) _ _ _ (by simp)) (fun j hj => .inr (by simp at hj; omega))
theorem take1_ok {H0 H : AH} {id bx bb : Nat} {s : St} (h : Rd H0 H id s) (hb : H.get bx = some (.cells [.p (some (id, 0, 0))] 0 false 0)) (hne : bx ≠ id) (h32 : s.2 ≠ 32) {b : Blk} {pv tv : V} (hbb : H.get bb = some (.cells (b.cells pv tv) 0 false 0)) (hne2 : bb ≠ id) :
    ACalls Tryd.prog 65 [.p (some (bx, 0, 0)), .p (some (bb, 0, 0))] H fun r H' => r = .agg (takeTmo b.view s).1.cells ∧ Rd H0 H' id (takeTmo b.view s).2 ∧ Upd H H' [id] := by
  have hid := h.mem
  refine ACalls_body Tryd.func65 rfl rfl ?_
  refine AW_seq ?_
  refine AW_reg [0, 1, 2] fun K hK => ?_ -- region 0
  simp [init_eq, V.cells]
  refine hK _ _ ?_; clear hK K
  obtain ⟨G, e1, g1, gn, go⟩ := H.boxed (Tmo.cells ⟨0, 0, Cert.zero⟩)
  show AThen _ _ _ _ (H.new (O.cells (Tmo.cells ⟨0, 0, Cert.zero⟩) 0 false 0))
  rw [e1]
  have u0 : Upd H G [] := ⟨by omega, fun j hj _ => go j hj⟩
  have hbG : G.get bx = some (.cells [.p (some (id, 0, 0))] 0 false 0) := u0.keep (by simp) hb
  have hbbG : G.get bb = some (.cells (b.cells pv tv) 0 false 0) := u0.keep (by simp) hbb
  have hG : Rd H0 G id s := h.upd u0 (by simp)
  refine AW_seq ?_
  refine AW_regm (.only [bx, bb]) [2] pl_65_1 pe_65_1 (by kernel_rfl) (by kernel_rfl) (by decide) fun K hK => ?_ -- region 1
  simp [init_eq, pl_65_1, APlan_takem, through, tkOk, rid, aload, hbG, hbbG, afieldAddr]
  refine ACalls.mono (small_ok hG) fun r G1 ⟨hr, h1, u1⟩ => ?_ -- hallmoot/block.small
  subst hr
  have h33 : (rsmall s).2.2 ≠ 32 := rnum_32 h32
  have lb := AH.get_lt hb
  have lbb := AH.get_lt hbb
  refine ⟨⟨u1.1, fun _ => u1.keep (by simp; omega) hbG, fun _ => u1.keep (by simp; omega) hbbG⟩, ?_⟩
  refine ACalls.mono (certTake_ok h1 h33) fun r G2 ⟨hr, h2, u2⟩ => ?_ -- hallmoot/cert.Take
  subst hr
  refine ⟨⟨u2.1, fun hn => u2.2 _ hn (by simp; omega), fun hn => u2.2 _ hn (by simp; omega)⟩, ?_⟩
  have g3 := u2.keep (by simp; omega) (u1.keep (by simp; omega) g1)
  have e2 : takeTmo b.view s = (⟨(rsmall s).1, b.view, (takeCert (rsmall s).2).1⟩, (takeCert (rsmall s).2).2) := rfl
  have hlt : H.next < G2.next := AH.get_lt g3
  generalize (takeCert (rsmall s).2).1 = c at *
  generalize (takeCert (rsmall s).2).2 = w at *
  generalize (rsmall s).1 = n at *
  have hsp : splice Cert.zero.cells 0 c.cells = c.cells := splice_all rfl
  have hab : abuild Tryd.prog 104 [(0, .i .i64 (n : Nat)), (1, .i .i64 b.view), (2, .agg c.cells)] = some (.agg (Tmo.cells ⟨n, b.view, c⟩)) := by
    simp [abuild, afill, V.cells, splice_zero, splice_succ, Tmo.cells]
    exact hsp
  simp [hab, astore, g3, V.cells]
  refine hK _ _ ?_; clear hK K
  rw [e2]
  refine AW_ret (end_ret (ares_cell (v := .agg (Tmo.cells ⟨n, b.view, c⟩)) ?_) ⟨rfl, h2.upd (Upd.set (F := [H.next]) _ _ _ (by simp)) (fun j hj => by simp at hj; omega), ?_⟩)
  · simp [aload, AH.get_set, hlt]
    rw [splice_all (c := Tmo.cells ⟨0, 0, Cert.zero⟩) (l := Tmo.cells ⟨n, b.view, c⟩) rfl]; simp [tmo_take]
  · exact (((u0.mono (by simp)).trans u1 (fun j hj => .inl hj)).trans u2 (fun j hj => .inl hj)).trans (Upd.set (F := [H.next]) _ _ _ (by simp)) (fun j hj => .inr (by simp at hj; omega))
end Go.Proofs.YtoccjilbfkhmoaaDoor
