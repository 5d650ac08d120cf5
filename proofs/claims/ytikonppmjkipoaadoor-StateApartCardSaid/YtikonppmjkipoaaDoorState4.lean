/-
  Do, Copy.
-/
import Derived.Test.YtikonppmjkipoaaDoorState3
set_option linter.unusedVariables false
set_option linter.unusedSimpArgs false
namespace Go.Proofs.YtikonppmjkipoaaDoor
open Go Go.Abs Go.Proofs
set_option maxRecDepth 100000
attribute [local irreducible] AEnd AW ACalls

def PSt.move (s : PSt) (t : Tx) : PSt :=
  let s1 := s.putA t.src (IntKind.i64.wrap ((s.acc t.src).1 - t.amount), IntKind.i64.wrap ((s.acc t.src).2 + 1))
  s1.putA t.dst (IntKind.i64.wrap ((s1.acc t.dst).1 + t.amount), (s1.acc t.dst).2)
def PSt.doP (s : PSt) (t : Tx) : PSt × Int :=
  if t.ok = false then (s, 80) else
  if t.nonce ≠ IntKind.i64.wrap ((s.acc t.src).2 + 1) then (s, 90) else
  if t.kind = 1 then (if (s.acc t.src).1 < t.amount then (s, 91) else (s.move t, 0))
  else ((s.putB (t.src, t.key) t.val).putA t.src ((s.acc t.src).1, IntKind.i64.wrap ((s.acc t.src).2 + 1)), 0)
section
variable (t : Tx)
theorem txc0 : t.cells[0]? = some (.i .i64 t.kind) := rfl
theorem txc1 : t.cells[1]? = some (.s t.src) := rfl
theorem txc2 : t.cells[2]? = some (.s t.dst) := rfl
theorem txc3 : t.cells[3]? = some (.s t.key) := rfl
theorem txc4 : t.cells[4]? = some (.s t.val) := rfl
theorem txc5 : t.cells[5]? = some (.i .i64 t.amount) := rfl
theorem txc6 : t.cells[6]? = some (.i .i64 t.nonce) := rfl
end
theorem acc_put {M : AH} {q : Nat} {l : List V} (hq : M.get q = some (.cells l 0 false 0)) (hl : l.length = 2) (x : Int × Int) : astore Tryd.prog M 58 (.p (some (q, 0, 0))) (vA x) = some (M.set q (.cells [.i .i64 x.1, .i .i64 x.2] 0 false 0)) := by
  simp [astore, hq, vA, V.cells, show splice l 0 [V.i .i64 x.1, .i .i64 x.2] = [.i .i64 x.1, .i .i64 x.2] from splice_all (by rw [hl]; rfl), hl]
theorem acc_new (M : AH) (z : List V) (hz : z.length = 2) (x : Int × Int) : ∃ N, astore Tryd.prog (M.new (.cells z 0 false 0)) 58 (.p (some (M.next, 0, 0))) (vA x) = some N ∧ N.get M.next = some (.cells [.i .i64 x.1, .i .i64 x.2] 0 false 0) ∧ Upd M N [] ∧ N.next = M.next + 1 :=
  ⟨_, acc_put (AH.get_new_same ..) hz x, by rw [AH.get_set_same (by simp)], ⟨by simp, fun j hj _ => by rw [AH.get_set_ne (by omega), AH.get_new, if_neg (by omega)]⟩, by simp⟩
theorem acc_fst {M : AH} {q : Nat} {a b : V} (hq : M.get q = some (.cells [a, b] 0 false 0)) (x : Int) : ∃ N, astore Tryd.prog M 2 (.p (some (q, 0, 0))) (.i .i64 x) = some N ∧ N.get q = some (.cells [.i .i64 x, b] 0 false 0) ∧ Upd M N [q] :=
  ⟨M.set q (.cells [.i .i64 x, b] 0 false 0), by simp [astore, hq, V.cells, splice], AH.get_set_same (AH.get_lt hq), Upd.set _ _ _ (by simp)⟩
theorem acc_snd {M : AH} {q : Nat} {a b : V} (hq : M.get q = some (.cells [a, b] 0 false 0)) (x : Int) : ∃ N, astore Tryd.prog M 2 (.p (some (q, 0, 1))) (.i .i64 x) = some N ∧ N.get q = some (.cells [a, .i .i64 x] 0 false 0) ∧ Upd M N [q] :=
  ⟨M.set q (.cells [a, .i .i64 x] 0 false 0), by simp [astore, hq, V.cells, splice], AH.get_set_same (AH.get_lt hq), Upd.set _ _ _ (by simp)⟩
set_option maxHeartbeats 1000000 in
theorem sdo_ok (H : AH) {sid am vm : Nat} {s : PSt} (h : StAt H sid am vm s) (t : Tx) (ht : t.fits) : ACalls Tryd.prog 11 [.p (some (sid, 0, 0)), .agg t.cells] H fun r H' => r = .i .i64 (s.doP t).2 ∧ StAt H' sid am vm (s.doP t).1 ∧ Upd H H' [am, vm] := by
  have l1 := AH.get_lt h.gs
  have l2 := AH.get_lt h.ga
  have l3 := AH.get_lt h.gv
  refine ACalls_body Tryd.func11 rfl rfl ?_
  refine AW_seq ?_
  refine AW_reg [0, 3] fun K hK => ?_ -- region 0
  simp [init_eq, V.cells]
  obtain ⟨G, e1, gt, gn, go⟩ := H.boxed t.cells
  rw [e1]
  refine hK _ _ ?_; clear hK K
  have u0 : Upd H G [] := ⟨by omega, fun j hj _ => go j hj⟩
  have hG := h.same u0
  refine AW_seq ?_
  refine AW_seq ?_
  refine AW_reg [0, 3, 9] fun K hK => ?_ -- region 1
  simp [init_eq, abin]
  refine hK _ _ ?_; clear hK K
  refine AW_cond' rfl rfl (fun hc => ?_) (fun hc => ?_)
  · cases hc
  refine AW_skip ?_
  refine AW_seq ?_
  refine AW_seq ?_
  refine AW_reg [0, 3, 5] fun K hK => ?_ -- region 3
  simp [init_eq, aload, gt, tx_take]
  refine ACalls.mono (txCheck_ok G t ht) fun r H' ⟨hr, e⟩ => ?_ -- hallmoot/tx.Check
  subst hr e
  try simp
  refine hK _ _ ?_; clear hK K
  refine AW_seq ?_
  refine AW_reg [0, 3, 5, 13] fun K hK => ?_ -- region 4
  simp [init_eq]
  refine hK _ _ ?_; clear hK K
  cases hok : t.ok
  · refine AW_cond' rfl rfl (fun hc => ?_) (fun hc => ?_)
    · refine AW_seq ?_
      refine AW_reg [4] fun K hK => ?_ -- region 5
      simp [init_eq]
      refine hK _ _ ?_; clear hK K
      exact AW_ret (end_ret rfl ⟨by simp [PSt.doP, hok], by simpa [PSt.doP, hok] using hG, u0.mono (by simp)⟩)
    · cases hc
  refine AW_cond' rfl rfl (fun hc => ?_) (fun hc => ?_)
  · cases hc
  refine AW_skip ?_
  have lt1 : ∀ M : AH, Upd H' M [] → aload Tryd.prog M 9 (.p (some (H.next, 0, 1))) = some (.s t.src) := fun M u => by simp [aload, u.keep (by simp) gt, txc1]
  refine AW_cut (fun ρ' M => ∃ q, ρ' = ⟨88, [(0, .p (some (sid, 0, 0))), (3, .p (some (H.next, 0, 0))), (6, .p (some (q, 0, 0)))]⟩ ∧ M.get q = some (.cells [.i .i64 (s.acc t.src).1, .i .i64 (s.acc t.src).2] 0 false 0) ∧ Upd H' M [] ∧ H'.next ≤ q) ?_ ?_
  · refine AW_regd [0, 3, 6] pl_11_6 pe_11_6 (by kernel_rfl) (by kernel_rfl) (by decide) fun K hK => ?_
    simp [init_eq, pl_11_6, V.cells, afieldAddr, hG.la, lt1 H' (Upd.refl ..), hG.getA]
    obtain ⟨N, q1, q2, q3, q4⟩ := acc_new H' [.i .i64 0, .i .i64 0] rfl (s.acc t.src)
    refine ⟨N, q1, ?_⟩
    exact hK _ _ (rend ⟨_, by simp, H'.next, rfl, q2, q3, Nat.le_refl _⟩)
  rintro ρ' M ⟨q, rfl, mq, uM, hq⟩
  have hM := hG.same uM
  have gtM : ∀ {X : AH} {F : List Nat}, Upd M X F → H.next ∉ F → X.get H.next = some (.cells t.cells 0 false 0) := fun u hf => u.keep hf (uM.keep (by simp) gt)
  have tM := uM.keep (by simp) gt
  have hn : H.next < H'.next := AH.get_lt gt
  generalize hf : s.acc t.src = f at *
  refine AW_seq ?_
  refine AW_seq ?_
  refine AW_reg [0, 3, 6, 27] fun K hK => ?_ -- region 7
  simp [init_eq, afieldAddr, aload, tM, mq, txc6]
  refine hK _ _ ?_; clear hK K
  refine AW_cond' rfl rfl (fun hc => ?_) (fun hc => ?_)
  · have hnn : t.nonce ≠ IntKind.i64.wrap (f.2 + 1) := by simpa using hc
    refine AW_seq ?_
    refine AW_reg [4] fun K hK => ?_ -- region 8
    simp [init_eq]
    refine hK _ _ ?_; clear hK K
    exact AW_ret (end_ret rfl ⟨by simp [PSt.doP, hok, hf, hnn], by simpa [PSt.doP, hok, hf, hnn] using hM, (u0.trans uM (by simp)).mono (by simp)⟩)
  have hnn : t.nonce = IntKind.i64.wrap (f.2 + 1) := by simpa using hc
  refine AW_skip ?_
  refine AW_cut (fun ρ' X => ρ' = ⟨88, [(0, .p (some (sid, 0, 0))), (3, .p (some (H.next, 0, 0))), (6, .p (some (q, 0, 0)))]⟩ ∧ (t.kind = 1 → ¬ f.1 < t.amount) ∧ X.get q = some (.cells [.i .i64 (if t.kind = 1 then IntKind.i64.wrap (f.1 - t.amount) else f.1), .i .i64 f.2] 0 false 0) ∧ Upd M X [q, vm] ∧ StAt X sid am vm (if t.kind = 1 then s else s.putB (t.src, t.key) t.val)) ?_ ?_
  · refine AW_seq ?_
    refine AW_reg [0, 3, 6, 30] fun K hK => ?_ -- region 9
    simp [init_eq, afieldAddr, aload, tM, mq, txc0]
    refine hK _ _ ?_; clear hK K
    refine AW_cond' rfl rfl (fun hc => ?_) (fun hc => ?_)
    · have hk : t.kind = 1 := by simpa using hc
      refine AW_seq ?_
      refine AW_seq ?_
      refine AW_reg [0, 3, 6, 35] fun K hK => ?_ -- region 10
      simp [init_eq, afieldAddr, aload, tM, mq, txc5]
      refine hK _ _ ?_; clear hK K
      refine AW_cond' rfl rfl (fun hc => ?_) (fun hc => ?_)
      · have hl : f.1 < t.amount := by simpa using hc
        refine AW_seq ?_
        refine AW_reg [4] fun K hK => ?_ -- region 11
        simp [init_eq]
        refine hK _ _ ?_; clear hK K
        exact AW_ret (end_ret rfl ⟨by simp [PSt.doP, hok, hf, hnn, hk, hl], by simpa [PSt.doP, hok, hf, hnn, hk, hl] using hM, (u0.trans uM (by simp)).mono (by simp)⟩)
      · have hl : ¬ f.1 < t.amount := by simpa using hc
        obtain ⟨N, n1, n2, n3⟩ := acc_fst mq (IntKind.i64.wrap (f.1 - t.amount))
        refine AW_skip ?_
        refine AW_reg [0, 3, 6] fun K hK => ?_ -- region 12
        simp [init_eq, afieldAddr, aload, tM, mq, txc5, n1]
        refine hK _ _ (rend ⟨_, by simp, rfl, fun _ => hl, by simpa [hk] using n2, n3.mono (by simp), ?_⟩)
        rw [if_pos hk]
        exact hM.upd n3 (by simp; omega) (by simp; omega) (by simp; omega)
    · have hk : ¬ t.kind = 1 := by simpa using hc
      obtain ⟨N, n1, n2, n3, n4⟩ := hM.setB (t.src, t.key) t.val
      have b1 : abuild Tryd.prog 65 [(0, .s t.src), (1, .s t.key)] = some (.agg [.s t.src, .s t.key]) := by first | (simp [abuild, afill, V.cells, splice]; done) | (simp [abuild, afill, V.cells, splice]; rfl)
      have b2 : abuild Tryd.prog 63 [(0, .s t.val)] = some (.agg [.s t.val]) := by first | (simp [abuild, afill, V.cells, splice]; done) | (simp [abuild, afill, V.cells, splice]; rfl)
      have la : aload Tryd.prog M 9 (.p (some (H.next, 0, 1))) = some (.s t.src) := by simp [aload, tM, txc1]
      have lb : aload Tryd.prog M 9 (.p (some (H.next, 0, 3))) = some (.s t.key) := by simp [aload, tM, txc3]
      have lc : aload Tryd.prog M 9 (.p (some (H.next, 0, 4))) = some (.s t.val) := by simp [aload, tM, txc4]
      refine AW_regd [0, 3, 6] pl_11_13 pe_11_13 (by kernel_rfl) (by kernel_rfl) (by decide) fun K hK => ?_
      simp [init_eq, pl_11_13, afieldAddr, hM.lv, la, lb, lc, b1, b2, n1]
      refine hK _ _ (rend ⟨_, by simp, rfl, fun h => absurd h hk, ?_, n3.mono (by simp), by rw [if_neg hk]; exact n2⟩)
      rw [if_neg hk]
      exact n3.keep (by simp; omega) mq
  rintro ρ' X ⟨rfl, hlt, xq, uX, hX⟩
  have tX := gtM uX (by simp; omega)
  obtain ⟨Y, y1, y2, y3⟩ := acc_snd xq (IntKind.i64.wrap (f.2 + 1))
  refine AW_seq ?_
  refine AW_reg [0, 3, 6] fun K hK => ?_ -- region 14
  simp [init_eq, afieldAddr, aload, xq, y1]
  refine hK _ _ ?_; clear hK K
  have hY := hX.upd y3 (by simp; omega) (by simp; omega) (by simp; omega)
  have tY := y3.keep (by simp; omega) tX
  obtain ⟨Z, z1, z2, z3, z4⟩ := hY.setA t.src (if t.kind = 1 then IntKind.i64.wrap (f.1 - t.amount) else f.1, IntKind.i64.wrap (f.2 + 1))
  have l6 : aload Tryd.prog Y 58 (.p (some (q, 0, 0))) = some (.agg [.i .i64 (if t.kind = 1 then IntKind.i64.wrap (f.1 - t.amount) else f.1), .i .i64 (IntKind.i64.wrap (f.2 + 1))]) := by simp [aload, y2]
  have ls : aload Tryd.prog Y 9 (.p (some (H.next, 0, 1))) = some (.s t.src) := by simp [aload, tY, txc1]
  refine AW_seq ?_
  refine AW_regd [0, 3] pl_11_15 pe_11_15 (by kernel_rfl) (by kernel_rfl) (by decide) fun K hK => ?_
  simp [init_eq, pl_11_15, afieldAddr, hY.la, l6, ls, z1]
  refine hK _ _ ?_; clear hK K
  have tZ := z3.keep (by simp; omega) tY
  have uHZ : Upd H Z [am, vm] := by
    refine ⟨by have := u0.1; have := uM.1; have := uX.1; have := y3.1; have := z3.1; omega, fun j hj hn => ?_⟩
    simp at hn
    rw [z3.2 j (by have := u0.1; have := uM.1; have := uX.1; have := y3.1; omega) (by simp; omega), y3.2 j (by have := u0.1; have := uM.1; have := uX.1; omega) (by simp; omega), uX.2 j (by have := u0.1; have := uM.1; omega) (by simp; omega), uM.2 j (by have := u0.1; omega) (by simp), u0.2 j hj (by simp)]
  refine AW_seq ?_
  refine AW_seq ?_
  refine AW_reg [0, 3, 67] fun K hK => ?_ -- region 16
  simp [init_eq, afieldAddr, aload, tZ, txc0]
  refine hK _ _ ?_; clear hK K
  refine AW_cond' rfl rfl (fun hc => ?_) (fun hc => ?_)
  · have hk : t.kind = 1 := by simpa using hc
    simp only [hk, if_true] at z2
    have ld : ∀ M : AH, Upd Z M [] → aload Tryd.prog M 9 (.p (some (H.next, 0, 2))) = some (.s t.dst) := fun M u => by simp [aload, u.keep (by simp) tZ, txc2]
    refine AW_cut (fun ρ' M => ∃ p, ρ' = ⟨88, [(0, .p (some (sid, 0, 0))), (3, .p (some (H.next, 0, 0))), (7, .p (some (p, 0, 0)))]⟩ ∧ M.get p = some (.cells [.i .i64 ((s.putA t.src (IntKind.i64.wrap (f.1 - t.amount), IntKind.i64.wrap (f.2 + 1))).acc t.dst).1, .i .i64 ((s.putA t.src (IntKind.i64.wrap (f.1 - t.amount), IntKind.i64.wrap (f.2 + 1))).acc t.dst).2] 0 false 0) ∧ Upd Z M [] ∧ Z.next ≤ p) ?_ ?_
    · refine AW_regd [0, 3, 7] pl_11_17 pe_11_17 (by kernel_rfl) (by kernel_rfl) (by decide) fun K hK => ?_
      simp [init_eq, pl_11_17, V.cells, afieldAddr, z2.la, ld Z (Upd.refl ..), z2.getA]
      obtain ⟨N, q1, q2, q3, q4⟩ := acc_new Z [.i .i64 0, .i .i64 0] rfl ((s.putA t.src (IntKind.i64.wrap (f.1 - t.amount), IntKind.i64.wrap (f.2 + 1))).acc t.dst)
      refine ⟨N, q1, ?_⟩
      exact hK _ _ (rend ⟨_, by simp, Z.next, rfl, q2, q3, Nat.le_refl _⟩)
    rintro ρ' W ⟨p, rfl, wp, uW, hp⟩
    have tW := uW.keep (by simp) tZ
    have hW := z2.same uW
    generalize hg : (s.putA t.src (IntKind.i64.wrap (f.1 - t.amount), IntKind.i64.wrap (f.2 + 1))).acc t.dst = g at *
    obtain ⟨V1, v1, v2, v3⟩ := acc_fst wp (IntKind.i64.wrap (g.1 + t.amount))
    have hz := uHZ.1
    refine AW_seq ?_
    refine AW_reg [0, 3, 7] fun K hK => ?_ -- region 18
    simp [init_eq, afieldAddr, aload, tW, wp, txc5, v1]
    refine hK _ _ ?_; clear hK K
    have hV := hW.upd v3 (by simp; omega) (by simp; omega) (by simp; omega)
    have hnz : H.next < Z.next := AH.get_lt tZ
    have tV := v3.keep (by simp; omega) tW
    obtain ⟨U, x1, x2, x3, x4⟩ := hV.setA t.dst (IntKind.i64.wrap (g.1 + t.amount), g.2)
    have l7 : aload Tryd.prog V1 58 (.p (some (p, 0, 0))) = some (.agg [.i .i64 (IntKind.i64.wrap (g.1 + t.amount)), .i .i64 g.2]) := by simp [aload, v2]
    have ldV : aload Tryd.prog V1 9 (.p (some (H.next, 0, 2))) = some (.s t.dst) := by simp [aload, tV, txc2]
    refine AW_regd [] pl_11_19 pe_11_19 (by kernel_rfl) (by kernel_rfl) (by decide) fun K hK => ?_
    simp [init_eq, pl_11_19, afieldAddr, hV.la, l7, ldV, x1]
    refine hK _ _ ?_; clear hK K
    refine AW_seq ?_
    refine AW_reg [4] fun K hK => ?_ -- region 20
    simp [init_eq]
    refine hK _ _ ?_; clear hK K
    have hd : s.doP t = (s.move t, 0) := by simp [PSt.doP, hok, hf, hnn, hk, hlt hk]
    have hm : s.move t = (s.putA t.src (IntKind.i64.wrap (f.1 - t.amount), IntKind.i64.wrap (f.2 + 1))).putA t.dst (IntKind.i64.wrap (g.1 + t.amount), g.2) := by unfold PSt.move; rw [hf]; simp only [hg]
    refine AW_ret (end_ret rfl ⟨by rw [hd]; rfl, by rw [hd, hm]; exact x2, ?_⟩)
    refine ⟨by have := uW.1; have := v3.1; have := x3.1; omega, fun j hj hn => ?_⟩
    have hn' := hn
    simp at hn'
    rw [x3.2 j (by have := uW.1; have := v3.1; omega) (by simp; omega), v3.2 j (by have := uW.1; omega) (by simp; omega), uW.2 j (by omega) (by simp), uHZ.2 j hj hn]
  · have hk : ¬ t.kind = 1 := by simpa using hc
    simp only [hk, if_false] at z2
    refine AW_skip ?_
    refine AW_seq ?_
    refine AW_reg [4] fun K hK => ?_ -- region 20
    simp [init_eq]
    refine hK _ _ ?_; clear hK K
    have hd : s.doP t = ((s.putB (t.src, t.key) t.val).putA t.src (f.1, IntKind.i64.wrap (f.2 + 1)), 0) := by simp [PSt.doP, hok, hf, hnn, hk]
    exact AW_ret (end_ret rfl ⟨by rw [hd]; rfl, by rw [hd]; exact z2, uHZ⟩)
end Go.Proofs.YtikonppmjkipoaaDoor
