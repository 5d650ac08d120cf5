/-
  A block of all bytes.
-/
import Derived.Test.YtoccjilbfkhmoaaDoorRead7
set_option linter.unusedVariables false
set_option linter.unusedSimpArgs false
namespace Go.Proofs.YtoccjilbfkhmoaaDoor
open Go Go.Abs Go.Proofs
set_option maxRecDepth 100000
attribute [local irreducible] AEnd AW ACalls

theorem parse_ok (H : AH) (l : List UInt8) (hl : l.length ≤ 100000000000) : ACalls Tryd.prog 21 [.s l] H fun r H' => ∃ pv tv, r = .tup [.agg ((parseBlk l).1.cells pv tv), .i .i64 (parseBlk l).2] ∧ BlkAt H' (parseBlk l).1 pv tv ∧ Upd H H' [] := by
  have hab : abuild Tryd.prog 61 [] = some (.agg (Blk.zero.cells nilSl nilSl)) := by simp [abuild, afill]; rfl
  refine ACalls_body Tryd.func21 rfl rfl ?_
  refine AW_seq ?_
  refine AW_reg [0, 2] fun K hK => ?_ -- region 0
  simp [init_eq, V.cells]
  refine hK _ _ ?_; clear hK K
  obtain ⟨G, e1, g1, gn, go⟩ := H.boxed (Blk.zero.cells nilSl nilSl)
  show AThen _ _ _ _ (H.new (O.cells (Blk.zero.cells nilSl nilSl) 0 false 0))
  rw [e1]
  have u0 : Upd H G [] := ⟨by omega, fun j hj _ => go j hj⟩
  refine AW_seq ?_
  refine AW_reg [2, 4] fun K hK => ?_ -- region 1
  have hsl : Sl (G.new (.cells (bytesV l) 0 false 1)) (.sl (some (G.next, 0, 0)) l.length false) 1 (bytesV l) :=
    .inr ⟨G.next, 0, 0, l.length, false, bytesV l, false, 1, rfl, by simp [AH.get_new], by simp, by simp [List.take_of_length_le]⟩
  simp [init_eq, conv_bytes qthere_9 qbs_82]
  refine ACalls.mono (rdnew_ok _ hsl hl) fun r G1 hr => ?_ -- hallmoot/wire.New
  obtain ⟨H0, id, rfl, h1, u1, lid⟩ := hr
  have u01 : Upd H G1 [] := (u0.trans (Upd.new G _ []) (by simp)).trans u1 (by simp)
  have lid' : H.next < id := by simp at lid; omega
  have g2 : G1.get H.next = some (.cells (Blk.zero.cells nilSl nilSl) 0 false 0) := u1.keep (by simp) ((Upd.new G _ []).keep (by simp) g1)
  try simp
  refine hK _ _ ?_; clear hK K
  refine AW_seq ?_
  refine AW_reg [2, 4, 5] fun K hK => ?_ -- region 2
  simp [init_eq]
  refine ACalls.mono (blkTake_ok h1 (by simp)) fun r G2 hr => ?_ -- hallmoot/block.Take
  obtain ⟨pv, tv, rfl, hat, h2, u2⟩ := hr
  have g3 := u2.keep (by simp; omega) g2
  have hlt : H.next < G2.next := AH.get_lt g3
  simp [astore, AH.get_new, V.cells]
  refine hK _ _ ?_; clear hK K
  have hps : parseBlk l = (if rdone (takeBlk (l, 0)).2 = 0 then ((takeBlk (l, 0)).1, 0) else (Blk.zero, rdone (takeBlk (l, 0)).2)) := rfl
  rw [hps]
  clear hps
  generalize takeBlk (l, 0) = q at *
  obtain ⟨B, w⟩ := q
  simp only at hat h2 ⊢
  generalize hG3 : AH.set _ G2.next _ = G3
  have k5 : G3.get G2.next = some (.cells (B.cells pv tv) 0 false 0) := by
    rw [← hG3]; simp [AH.get_set]; first | exact splice_all rfl | done
  have ko : ∀ j, j < G2.next → G3.get j = G2.get j := fun j hj => by rw [← hG3, AH.get_set_ne (by omega), AH.get_new, if_neg (by omega)]
  have kn : G3.next = G2.next + 1 := by rw [← hG3]; simp
  have u3 : Upd G2 G3 [] := ⟨by omega, fun j hj _ => ko j hj⟩
  have h3 := h2.upd u3 (by simp)
  have g4 := u3.keep (by simp) g3
  have u13 : Upd G1 G3 [id] := u2.trans (u3.mono (by simp) : Upd G2 G3 [id]) (fun j hj => .inl hj)
  have uH : Upd H G3 [] := u01.trans u13 (fun j hj => .inr (by simp at hj; omega))
  have fin : ∀ o, Upd H (G3.set H.next o) [] := fun o => uH.trans (Upd.set (F := [H.next]) _ _ _ (by simp)) (fun j hj => .inr (by simp at hj; omega))
  have hltn : H.next < G3.next := by omega
  have l1 : H.next < G1.next := AH.get_lt g2
  refine AW_seq ?_
  refine AW_seq ?_
  refine AW_reg [2, 5, 6] fun K hK => ?_ -- region 3
  simp [init_eq]
  refine ACalls.mono (done_ok h3) fun r' H' ⟨hr, e⟩ => ?_ -- (*hallmoot/wire.Reader).Done
  subst hr e
  try simp
  refine hK _ _ ?_; clear hK K
  refine AW_seq ?_
  refine AW_reg [2, 5, 6, 15] fun K hK => ?_ -- region 4
  simp [init_eq]
  refine hK _ _ ?_; clear hK K
  refine AW_cond' rfl rfl (fun hc => ?_) (fun hc => ?_)
  · have k1 : ¬ rdone w = 0 := by simpa using hc
    rw [if_neg k1]
    refine AW_seq ?_
    refine AW_reg [2, 3] fun K hK => ?_ -- region 5
    simp [init_eq, hab, astore, g4, V.cells]
    refine hK _ _ ?_; clear hK K
    refine AW_ret (end_ret (ares_cell_tmp (v := .agg (Blk.zero.cells nilSl nilSl)) ?_) ⟨nilSl, nilSl, rfl, ⟨RS.nil .., RS.nil ..⟩, fin _⟩)
    simp [aload, AH.get_set, hltn]
    rw [splice_all (c := Blk.zero.cells nilSl nilSl) (l := Blk.zero.cells nilSl nilSl) rfl]; simp [blk_take]
  · have k1 : rdone w = 0 := by simpa using hc
    rw [if_pos k1]
    refine AW_skip ?_
    refine AW_seq ?_
    refine AW_reg [2, 3] fun K hK => ?_ -- region 6
    simp [init_eq, aload, k5, blk_take, astore, g4, V.cells]
    refine hK _ _ ?_; clear hK K
    refine AW_ret (end_ret (ares_cell_tmp (v := .agg (B.cells pv tv)) ?_) ⟨pv, tv, rfl, hat _ (fun j h1 h2 => by rw [AH.get_set_ne (by omega)]; exact ko j h2) (by simp; omega), fin _⟩)
    simp [aload, AH.get_set, hltn]
    rw [splice_all (c := Blk.zero.cells nilSl nilSl) (l := B.cells pv tv) rfl]; simp [blk_take]
end Go.Proofs.YtoccjilbfkhmoaaDoor
