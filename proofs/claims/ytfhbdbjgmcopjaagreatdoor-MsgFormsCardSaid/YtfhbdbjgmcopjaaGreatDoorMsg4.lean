/-
  The parts of msg.Check: certificates, lists of timeouts, numbers.
-/
import Derived.Test.YtfhbdbjgmcopjaaGreatDoorMsg3
set_option linter.unusedVariables false
set_option linter.unusedSimpArgs false
namespace Go.Proofs.YtfhbdbjgmcopjaaGreatDoor
open Go Go.Abs Go.Proofs
set_option maxRecDepth 100000
attribute [local irreducible] AEnd AW ACalls

theorem mwithin_ok (H : AH) (n a b : Int) : ACalls Tryz.prog 53 [.i .i64 n, .i .i64 a, .i .i64 b] H fun r H' => r = .b (inR n a b) ∧ H' = H := by
  refine ACalls_body Tryz.func53 rfl rfl ?_
  refine AW_seq ?_
  refine AW_reg [0, 1, 2] fun K hK => ?_ -- region 0
  simp [init_eq]
  refine hK _ _ ?_; clear hK K
  refine AW_seq ?_
  refine AW_regto [6] ⟨15, [(6, .b (inR n a b))]⟩ H (fun K hk => ?_) (AW_ret (end_ret rfl ⟨rfl, rfl⟩))
  by_cases h1 : a ≤ n
  · simpa [init_eq, h1, inR] using hk
  · simpa [init_eq, h1, inR] using hk
theorem certified_ok' (H : AH) (k : Int) (c : Cert) : ACalls Tryz.prog 15 [.i .i64 k, .agg c.cells] H fun r H' => r = .b (certified k c) ∧ H' = H := by
  refine ACalls.pure (Q := fun r => r = .b (certified k c)) ⟨_, Tryz.func15, rfl, rfl⟩ ?_
  refine ACalls_body Tryz.func15 rfl rfl ?_
  refine AW_seq ?_
  refine AW_reg [0, 3] fun K hK => ?_ -- region 0
  simp [init_eq, V.cells]
  obtain ⟨H1, e1, hp, hn, ho⟩ := H.boxed c.cells
  rw [e1]
  refine hK _ _ ?_; clear hK K
  have hck : (c.check = 0) ↔ c.ok = true := by unfold Cert.check; cases c.ok <;> simp
  refine AW_seq ?_
  refine AW_regto [0, 3, 5] ⟨57, [(0, .i .i64 k), (3, .p (some (H.next, 0, 0))), (5, .b (c.ok && !decide (c.kind = 0)))]⟩ H1 (fun K hk => ?_) ?_ -- region 1
  · simp [init_eq, aload, hp, take_cells]
    refine ACalls.mono (check_ok ..) fun r H' ⟨hr, e⟩ => ?_ -- hallmoot/cert.Check
    subst hr e
    cases h1 : c.ok
    · have h2 : ¬ c.check = 0 := by rw [hck, h1]; decide
      simpa [h1, h2] using hk
    · have h2 : c.check = 0 := by rw [hck, h1]
      simpa [h1, h2, afieldAddr, aload, hp] using hk
  refine AW_seq ?_
  refine AW_seq ?_
  refine AW_reg [3, 5, 14] fun K hK => ?_ -- region 2
  simp [init_eq]
  refine hK _ _ ?_; clear hK K
  refine AW_block ?_
  refine AW_seq ?_
  refine AW_reg [3, 5, 14, 15] fun K hK => ?_ -- region 3
  simp [init_eq]
  refine hK _ _ ?_; clear hK K
  refine AW_cond' rfl rfl (fun hc => ?_) (fun hc => ?_)
  · have hk2 : k = 2 := by simpa using hc
    refine AW_seq ?_
    refine AW_regto [4] ⟨57, [(4, .b (certified k c))]⟩ H1 (fun K hk => ?_) (AW_ret (end_ret rfl (pure_end hn ho rfl rfl))) -- region 4
    unfold certified at hk
    rw [if_pos hk2] at hk
    cases h1 : (c.ok && !decide (c.kind = 0))
    · simpa [h1, init_eq] using hk
    · simp [init_eq, h1, afieldAddr, aload, hp]
      refine ACalls.mono (count_ok ..) fun r H' ⟨hr, e⟩ => ?_ -- hallmoot/quorum.Count
      subst hr e
      by_cases h2 : pop c.signers = 1
      · have h2' : (pop c.signers : Int) = 1 := by omega
        simpa [h1, h2, h2', afieldAddr, aload, hp] using hk
      · have h2' : ¬ (pop c.signers : Int) = 1 := by omega
        simpa [h1, h2, h2', afieldAddr, aload, hp] using hk
  · have hk2 : ¬ k = 2 := by simpa using hc
    refine AW_seq ?_
    refine AW_reg [3, 5, 29] fun K hK => ?_ -- region 5
    simp [init_eq]
    refine hK _ _ ?_; clear hK K
    refine AW_cond' rfl rfl (fun hc => ?_) (fun hc => ?_)
    · have hk5 : k = 5 := by simpa using hc
      refine AW_seq ?_
      refine AW_regto [4] ⟨57, [(4, .b (certified k c))]⟩ H1 (fun K hk => ?_) (AW_ret (end_ret rfl (pure_end hn ho rfl rfl))) -- region 6
      unfold certified at hk
      rw [if_neg hk2, if_pos hk5] at hk
      cases h1 : (c.ok && !decide (c.kind = 0))
      · simpa [h1, init_eq] using hk
      have h0 : c.ok = true := by simp at h1; exact h1.1
      by_cases h2 : c.kind = 2
      case neg => simpa [init_eq, h1, h2, afieldAddr, aload, hp] using hk
      by_cases h3 : c.height = 3
      case neg => simpa [init_eq, h0, h1, h2, h3, afieldAddr, aload, hp] using hk
      simpa [init_eq, h0, h1, h2, h3, afieldAddr, aload, hp] using hk
    · have hk5 : ¬ k = 5 := by simpa using hc
      refine AW_skip ?_
      refine AW_seq ?_
      refine AW_regto [4] ⟨57, [(4, .b (certified k c))]⟩ H1 (fun K hk => ?_) (AW_ret (end_ret rfl (pure_end hn ho rfl rfl))) -- region 7
      unfold certified at hk
      rw [if_neg hk2, if_neg hk5] at hk
      cases h1 : (c.ok && !decide (c.kind = 0))
      · simpa [h1, init_eq] using hk
      have h0 : c.ok = true := by simp at h1; exact h1.1
      by_cases h2 : c.kind = 1
      case pos => simpa [init_eq, h0, h1, h2, afieldAddr, aload, hp] using hk
      simp [init_eq, h1, h2, afieldAddr, aload, hp, take_cells]
      refine ACalls.mono (endorsed_ok ..) fun r H' ⟨hr, e⟩ => ?_ -- hallmoot/cert.Endorsed
      subst hr e
      simpa [h1, h2] using hk
theorem proofsOk_eq (l : List Tmo) : proofsOk l = ((List.range l.length).all (pAt (l.headD Tmo.zero).view l) && inR l.length 1 10) := by
  cases l with
  | nil => simp [proofsOk, inR]
  | cons t r =>
    simp only [proofsOk, List.headD_cons, inR]
    congr 1
    simp only [decide_eq_decide, List.length_cons]
    omega
theorem head_view {l : List Tmo} (h : 0 < l.length) : l[0].view = (l.headD Tmo.zero).view := by cases l <;> simp at h ⊢
theorem proofs_ok (H : AH) {v : V} {l : List Tmo} (hv : RS H v 10 (l.map Tmo.cells)) (hs : l.length ≤ 140737488351232) : ACalls Tryz.prog 17 [v] H fun r H' => r = .b (proofsOk l) ∧ H' = H := by
  have key := proofsOk_eq l
  have hw0 : ∀ h : 0 < l.length, l[0].view = (l.headD Tmo.zero).view := fun h => head_view h
  generalize (l.headD Tmo.zero).view = w at key hw0
  have lp := hv.alen (P := Tryz.prog) qelem_27
  refine ACalls.pure (Q := fun r => r = .b (proofsOk l)) ⟨_, Tryz.func17, rfl, rfl⟩ ?_
  refine ACalls_body Tryz.func17 rfl rfl ?_
  refine AW_seq ?_
  refine AW_reg [0] fun K hK => ?_ -- region 0
  simp [init_eq]
  refine hK _ _ ?_; clear hK K
  refine AW_seq ?_
  refine AW_seq ?_
  refine AW_reg [0, 5, 6, 7] fun K hK => ?_ -- region 1
  simp [init_eq, lp]
  refine hK _ _ ?_; clear hK K
  refine AW_block ?_
  refine AW_loop0 (fun i : Nat => ⟨43, [(0, v), (5, v), (6, .i .i64 l.length), (7, .i .i64 i)]⟩) (fun i => i ≤ l.length ∧ (List.range i).all (pAt w l) = true) (fun i => l.length - i) 0 (by simp) (by simp) (by dsimp only; omega) fun hw' i hM => ?_ -- loop
  refine AW_seq ?_
  refine AW_reg [0, 5, 6, 7, 8] fun K hK => ?_ -- region 2
  simp [init_eq]
  refine hK _ _ ?_; clear hK K
  refine AW_seq ?_
  refine AW_cond' rfl rfl (fun hc => ?_) (fun hc => ?_)
  · have hi : i < l.length := by simpa using hc
    obtain ⟨ax, px, qx⟩ := hv.rec Tmo.len (by decide) (P := Tryz.prog) qelem_27 qsize_26 qagg_26 hi
    refine AW_skip ?_
    refine AW_seq ?_
    refine AW_block ?_
    refine AW_seq ?_
    refine AW_reg [0, 3, 4, 5, 6, 7] fun K hK => ?_ -- region 3
    simp [init_eq, px, qx, astore, AH.get_new, V.cells, splice_all]
    refine hK _ _ ?_; clear hK K
    generalize hH1 : (H.new _).set H.next _ = H1
    have hq : H1.get H.next = some (.cells l[i].cells 0 false 0) := by rw [← hH1]; simp [AH.get_set]; exact splice_all rfl
    have hn : H1.next = H.next + 1 := by rw [← hH1]; simp
    have ho : ∀ j, j < H.next → H1.get j = H.get j := fun j hj => by rw [← hH1]; simp [AH.get_set, AH.get_new, show j ≠ H.next by omega]
    have hb1 := hv.same ho
    clear hH1
    have hpa := pAt_eq (v := w) hi
    refine AW_seq ?_
    refine AW_regdto [0, 5, 6, 7, 38] pl_17_4 pe_17_4 ⟨43, [(0, v), (5, v), (6, .i .i64 l.length), (7, .i .i64 i), (38, .b (!pAt w l i))]⟩ H1 (by kernel_rfl) (by kernel_rfl) (by decide) (fun K hk => ?_) ?_
    · rw [hpa] at hk
      simp [init_eq, pl_17_4, afieldAddr, aload, hq, tmo_take]
      refine ACalls.mono (btimeout_ok ..) fun r H' ⟨hr, e⟩ => ?_ -- hallmoot/block.Timeout
      subst hr e
      cases g1 : l[i].ok
      · simpa [g1] using hk
      obtain ⟨az, az', pz, qz, rz⟩ := hb1.fld Tmo.len (by decide) (P := Tryz.prog) qelem_27 qsize_26 (i := 0) (by omega) qfield_26_1 qagg_3 qsize_3 (Tmo.c1 _)
      rw [hw0 (by omega)] at rz
      have pz' : aindexAddr Tryz.prog 27 v (.i .i64 0) = some az := pz
      have l3 : aload Tryz.prog H' 3 (.p (some (H.next, 0, 0))) = some (.i .i64 l[i].signer) := by simp [aload, hq]
      have l4 : aload Tryz.prog H' 3 (.p (some (H.next, 0, 1))) = some (.i .i64 l[i].view) := by simp [aload, hq]
      have f1 : ∀ (x o : Nat), afieldAddr Tryz.prog 26 1 (.p (some (x, 0, o))) = some (.p (some (x, 0, o + 1))) := fun x o => by simp [afieldAddr]
      have f4 : ∀ (x o : Nat), afieldAddr Tryz.prog 26 0 (.p (some (x, 0, o))) = some (.p (some (x, 0, o))) := fun x o => by simp [afieldAddr]
      by_cases g2 : l[i].view = w
      case neg => simpa [g1, g2, f1, f4, l3, l4, pz', qz, rz] using hk
      by_cases g3 : i = 0
      · have g3n : ¬ 0 < i := by omega
        simpa [g1, g2, g3n, sgnAt_zero _ g3, f1, f4, l3, l4, pz', qz, rz] using hk
      have g3' : 0 < i := by omega
      have ei : (i : Int) - 1 = ((i - 1 : Nat) : Int) := by omega
      obtain ⟨ay, ay', py, qy, ry⟩ := hb1.fld Tmo.len (by decide) (P := Tryz.prog) qelem_27 qsize_26 (i := i - 1) (by omega) qfield_26_0 qagg_3 qsize_3 (Tmo.c0 _)
      rw [sgnAt_pos g3 hi] at hk
      by_cases g4 : l[i - 1].signer < l[i].signer
      · have g5 : ¬ l[i].signer ≤ l[i - 1].signer := by omega
        simpa [g1, g2, g3, g3', g4, g5, f1, f4, l3, l4, pz', qz, rz, wrap_id (x := (i : Int) - 1) (by omega) (by omega), wrap_id (x := ((i - 1 : Nat) : Int)) (by omega) (by omega), ei, py, qy, ry] using hk
      · have g5 : l[i].signer ≤ l[i - 1].signer := by omega
        simpa [g1, g2, g3, g3', g4, g5, f1, f4, l3, l4, pz', qz, rz, wrap_id (x := (i : Int) - 1) (by omega) (by omega), wrap_id (x := ((i - 1 : Nat) : Int)) (by omega) (by omega), ei, py, qy, ry] using hk
    refine AW_cond' rfl rfl (fun hc => ?_) (fun hc => ?_)
    · have hg : pAt w l i = false := by simpa using hc
      refine AW_seq ?_
      refine AW_reg [2] fun K hK => ?_ -- region 5
      simp [init_eq]
      refine hK _ _ ?_; clear hK K
      refine AW_ret (end_ret rfl (pure_end hn ho ?_ rfl))
      rw [key, range_all_false hi hg]; rfl
    · have hg : pAt w l i = true := by simpa using hc
      refine AW_skip ?_
      refine AW_reg [0, 5, 6, 7] fun K hK => ?_ -- region 6
      simp [init_eq, wrap_id (x := (i : Int) + 1) (by omega) (by omega)]
      refine hK _ _ ?_; clear hK K
      exact rend ⟨i + 1, by simp, ⟨by omega, range_all_succ hM.2 hg⟩, by omega, .inr ⟨by omega, ho, by simp [hv.lt (Nat.le_refl _)]⟩⟩ -- round's end
  · have hi : i = l.length := by
      have : ¬ i < l.length := by simpa using hc
      omega
    subst hi
    refine AW_exit (then_exit (then_exit (block_here ?_)))
    refine AW_seq ?_
    refine AW_reg [2] fun K hK => ?_ -- region 7
    simp [init_eq, lp]
    refine ACalls.mono (mwithin_ok ..) fun r H' ⟨hr, e⟩ => ?_ -- hallmoot/msg.within
    subst hr e
    try simp
    refine hK _ _ ?_; clear hK K
    refine AW_ret (end_ret rfl (same_end ?_ rfl))
    rw [key, hM.2]; rfl
theorem numbered_ok (H : AH) {id : Nat} {m : Msg} {lv pv tv : V} (hp : H.get id = some (.cells (m.cells lv pv tv) 0 false 0)) : ACalls Tryz.prog 19 [.p (some (id, 0, 0))] H fun r H' => r = .b m.numsOk ∧ H' = H := by
  refine ACalls_body Tryz.func19 rfl rfl ?_
  refine AW_seq ?_
  refine AW_reg [0] fun K hK => ?_ -- region 0
  simp [init_eq]
  refine hK _ _ ?_; clear hK K
  refine AW_seq ?_
  refine AW_regd [0, 3, 4] pl_19_1 pe_19_1 (by kernel_rfl) (by kernel_rfl) (by decide) fun K hK => ?_
  simp [init_eq, pl_19_1, afieldAddr, aload, hp]
  refine ACalls.mono (mwithin_ok ..) fun r H' ⟨hr, e⟩ => ?_ -- hallmoot/msg.within
  subst hr e
  try simp
  refine ACalls.mono (mwithin_ok ..) fun r H' ⟨hr, e⟩ => ?_ -- hallmoot/msg.within
  subst hr e
  try simp
  refine hK _ _ ?_; clear hK K
  refine AW_seq ?_
  refine AW_seq ?_
  refine AW_reg [0, 3, 4, 18] fun K hK => ?_ -- region 2
  simp [init_eq, afieldAddr, aload, hp]
  refine hK _ _ ?_; clear hK K
  refine AW_block ?_
  refine AW_seq ?_
  refine AW_reg [0, 3, 4, 18, 19] fun K hK => ?_ -- region 3
  simp [init_eq]
  refine hK _ _ ?_; clear hK K
  refine AW_cond' rfl rfl (fun hc => ?_) (fun hc => ?_)
  · have k7 : m.kind = 7 := by simpa using hc
    refine AW_seq ?_
    refine AW_regto [2] ⟨51, [(2, .b m.numsOk)]⟩ H' (fun K hk => ?_) (AW_ret (end_ret rfl ⟨rfl, rfl⟩)) -- region 4
    unfold Msg.numsOk at hk
    rw [if_pos k7] at hk
    cases h1 : inR m.view 1 1048576
    · simpa [init_eq, h1] using hk
    by_cases h2 : m.set = 0#32
    · simpa [init_eq, h1, h2, afieldAddr, aload, hp] using hk
    simp [init_eq, h1, h2, afieldAddr, aload, hp]
    refine ACalls.mono (qcheck_ok ..) fun r H' ⟨hr, e⟩ => ?_ -- hallmoot/quorum.Check
    subst hr e
    simpa [h1, h2, setOk] using hk
  · have k7 : ¬ m.kind = 7 := by simpa using hc
    refine AW_seq ?_
    refine AW_reg [0, 3, 4, 37] fun K hK => ?_ -- region 5
    simp [init_eq]
    refine hK _ _ ?_; clear hK K
    refine AW_cond' rfl rfl (fun hc => ?_) (fun hc => ?_)
    · have k8 : m.kind = 8 := by simpa using hc
      refine AW_seq ?_
      refine AW_regto [2] ⟨51, [(2, .b m.numsOk)]⟩ H' (fun K hk => ?_) (AW_ret (end_ret rfl ⟨rfl, rfl⟩)) -- region 6
      unfold Msg.numsOk at hk
      rw [if_neg k7, if_pos k8] at hk
      cases h1 : inR m.signer 0 9
      · simpa [init_eq, h1] using hk
      simp [init_eq, h1, afieldAddr, aload, hp]
      refine ACalls.mono (mwithin_ok ..) fun r H' ⟨hr, e⟩ => ?_ -- hallmoot/msg.within
      subst hr e
      simpa [h1] using hk
    · have k8 : ¬ m.kind = 8 := by simpa using hc
      refine AW_skip ?_
      refine AW_seq ?_
      refine AW_regto [2] ⟨51, [(2, .b m.numsOk)]⟩ H' (fun K hk => ?_) (AW_ret (end_ret rfl ⟨rfl, rfl⟩)) -- region 7
      unfold Msg.numsOk at hk
      rw [if_neg k7, if_neg k8] at hk
      cases h1 : inR m.signer 0 9
      · simpa [init_eq, h1] using hk
      · simpa [init_eq, h1] using hk
end Go.Proofs.YtfhbdbjgmcopjaaGreatDoor
