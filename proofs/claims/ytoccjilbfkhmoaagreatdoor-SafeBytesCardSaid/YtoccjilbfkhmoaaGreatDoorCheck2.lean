/-
  Which blocks may be: the program's answer is the document's.
-/
import Derived.Test.YtoccjilbfkhmoaaGreatDoorCheck1
set_option linter.unusedVariables false
set_option linter.unusedSimpArgs false
namespace Go.Proofs.YtoccjilbfkhmoaaGreatDoor
open Go Go.Abs Go.Proofs
set_option maxRecDepth 100000
attribute [local irreducible] AEnd AW ACalls

def Blk.head (b : Blk) : Bool := inR b.view 1 1048576 && inR b.author 0 9 && inR b.height 0 3
/-- What is wrong with it: an error's number, or 0. -/
def Blk.err (b : Blk) : Int := if (b.txs.all Tx.ok && decide (b.txs.length ≤ 8) && b.head) = true then (if b.parentOk = true then (if b.proofOk = true then 0 else 121) else 122) else 120
theorem bcheck_ok (H : AH) {b : Blk} {pv tv : V} (hb : BlkAt H b pv tv) (hs : b.fits) : ACalls Tryz.prog 117 [.agg (b.cells pv tv)] H fun r H' => r = .i .i64 b.err ∧ H' = H := by
  refine ACalls.pure (Q := fun r => r = .i .i64 b.err) ⟨_, Tryz.func117, rfl, rfl⟩ ?_
  refine ACalls_body Tryz.func117 rfl rfl ?_
  refine AW_seq ?_
  refine AW_reg [1] fun K hK => ?_ -- region 0
  simp [init_eq, V.cells]
  obtain ⟨H1, e1, hp, hn, ho⟩ := H.boxed (b.cells pv tv)
  rw [e1]
  refine hK _ _ ?_; clear hK K
  have hb1 := hb.same ho
  have lt := hb1.tx.alen (P := Tryz.prog) qelem_66 H1
  have fin : ∀ x : Int, x = b.err → V.i .i64 x = V.i .i64 b.err ∧ V.lt H.next (V.i .i64 x) = true ∧ H.next ≤ H1.next ∧ ∀ j, j < H.next → H1.get j = H.get j := fun x hx => pure_end hn ho (by rw [hx]) rfl
  refine AW_seq ?_
  refine AW_reg [1, 3] fun K hK => ?_ -- region 1
  simp [init_eq, afieldAddr, aload, hp]
  refine ACalls.mono (anyWrong_ok H1 hb1.tx hs.tx hs.each) fun r H' ⟨hr, e⟩ => ?_ -- slices.ContainsFunc
  subst hr e
  try simp
  refine hK _ _ ?_; clear hK K
  refine AW_seq ?_
  refine AW_block ?_
  refine AW_cutto ⟨32, [(1, .p (some (H.next, 0, 0))), (7, .b (!b.txs.all Tx.ok || !decide (b.txs.length ≤ 8)))]⟩ H' ?_ ?_
  · refine AW_seq ?_
    refine AW_reg [1, 7] fun K hK => ?_ -- region 2
    simp [init_eq]
    refine hK _ _ ?_; clear hK K
    refine AW_cond' rfl rfl (fun hc => ?_) (fun hc => ?_)
    · refine AW_skip (rend ⟨?_, rfl⟩)
      have h : b.txs.all Tx.ok = false := by simpa using hc
      simp [h]
    · have h : b.txs.all Tx.ok = true := by simpa using hc
      refine AW_reg [1, 7] fun K hK => ?_ -- region 3
      simp [init_eq, afieldAddr, aload, hp, lt]
      refine hK _ _ ?_; clear hK K
      refine rend ⟨?_, rfl⟩
      have : (8 < (b.txs.length : Int)) = ¬ (b.txs.length ≤ 8) := propext (by omega)
      simp [h, this]
      rw [← decide_not]; exact decide_eq_decide.2 (by omega)
  refine AW_cond' rfl rfl (fun hc => ?_) (fun hc => ?_)
  · refine AW_seq ?_
    refine AW_reg [2] fun K hK => ?_ -- region 4
    simp [init_eq]
    refine hK _ _ ?_; clear hK K
    refine AW_ret (end_ret rfl (fin _ ?_))
    unfold Blk.err
    rw [if_neg]
    cases h1 : b.txs.all Tx.ok <;> cases h2 : decide (b.txs.length ≤ 8) <;> simp [h1, h2] at hc ⊢
  have h12 : (b.txs.all Tx.ok && decide (b.txs.length ≤ 8)) = true := by
    cases h1 : b.txs.all Tx.ok <;> cases h2 : decide (b.txs.length ≤ 8) <;> simp [h1, h2] at hc ⊢
  refine AW_cutto ⟨32, [(1, .p (some (H.next, 0, 0))), (13, .b (!b.head))]⟩ H' ?_ ?_
  · refine AW_seq ?_
    refine AW_reg [1, 13] fun K hK => ?_ -- region 5
    simp [init_eq, afieldAddr, aload, hp]
    refine ACalls.mono (bwithin_ok ..) fun r H' ⟨hr, e⟩ => ?_ -- hallmoot/block.within
    subst hr e
    simp
    refine hK _ _ ?_; clear hK K
    refine AW_cond' rfl rfl (fun hc => ?_) (fun hc => ?_)
    · have h : inR b.view 1 1048576 = false := by simpa using hc
      refine AW_skip (rend ⟨?_, rfl⟩)
      simp [Blk.head, h]
    have g1 : inR b.view 1 1048576 = true := by simpa using hc
    refine AW_seq ?_
    refine AW_reg [1, 13] fun K hK => ?_ -- region 6
    simp [init_eq, afieldAddr, aload, hp]
    refine ACalls.mono (bwithin_ok ..) fun r H' ⟨hr, e⟩ => ?_ -- hallmoot/block.within
    subst hr e
    simp
    refine hK _ _ ?_; clear hK K
    refine AW_cond' rfl rfl (fun hc => ?_) (fun hc => ?_)
    · have h : inR b.author 0 9 = false := by simpa using hc
      refine AW_skip (rend ⟨?_, rfl⟩)
      simp [Blk.head, h]
    have g2 : inR b.author 0 9 = true := by simpa using hc
    refine AW_reg [1, 13] fun K hK => ?_ -- region 7
    simp [init_eq, afieldAddr, aload, hp]
    refine ACalls.mono (bwithin_ok ..) fun r H' ⟨hr, e⟩ => ?_ -- hallmoot/block.within
    subst hr e
    simp
    refine hK _ _ ?_; clear hK K
    refine rend ⟨?_, rfl⟩
    simp [Blk.head, g1, g2]
  refine AW_cond' rfl rfl (fun hc => ?_) (fun hc => ?_)
  · have h : b.head = false := by simpa using hc
    refine AW_seq ?_
    refine AW_reg [2] fun K hK => ?_ -- region 8
    simp [init_eq]
    refine hK _ _ ?_; clear hK K
    refine AW_ret (end_ret rfl (fin _ ?_))
    simp [Blk.err, h]
  have hh : b.head = true := by simpa using hc
  have he : b.err = (if b.parentOk = true then (if b.proofOk = true then 0 else 121) else 122) := by
    unfold Blk.err; rw [h12, hh]; rfl
  refine AW_seq ?_
  refine AW_reg [1, 26] fun K hK => ?_ -- region 9
  simp [init_eq]
  refine ACalls.mono (parent_ok H' hp) fun r H' ⟨hr, e⟩ => ?_ -- hallmoot/block.parent
  subst hr e
  simp
  refine hK _ _ ?_; clear hK K
  refine AW_cond' rfl rfl (fun hc => ?_) (fun hc => ?_)
  · have h : b.parentOk = false := by simpa using hc
    refine AW_seq ?_
    refine AW_reg [2] fun K hK => ?_ -- region 10
    simp [init_eq]
    refine hK _ _ ?_; clear hK K
    refine AW_ret (end_ret rfl (fin _ ?_))
    simp [he, h]
  have h1 : b.parentOk = true := by simpa using hc
  refine AW_seq ?_
  refine AW_reg [29] fun K hK => ?_ -- region 11
  simp [init_eq]
  refine ACalls.mono (proof_ok H' hp hb1 hs.pf) fun r H' ⟨hr, e⟩ => ?_ -- hallmoot/block.proof
  subst hr e
  simp
  refine hK _ _ ?_; clear hK K
  refine AW_cond' rfl rfl (fun hc => ?_) (fun hc => ?_)
  · have h : b.proofOk = false := by simpa using hc
    refine AW_seq ?_
    refine AW_reg [2] fun K hK => ?_ -- region 12
    simp [init_eq]
    refine hK _ _ ?_; clear hK K
    refine AW_ret (end_ret rfl (fin _ ?_))
    simp [he, h1, h]
  · have h : b.proofOk = true := by simpa using hc
    refine AW_skip ?_
    refine AW_seq ?_
    refine AW_reg [2] fun K hK => ?_ -- region 13
    simp [init_eq]
    refine hK _ _ ?_; clear hK K
    refine AW_ret (end_ret rfl (fin _ ?_))
    simp [he, h1, h]
theorem wrap_small {x : Int} (h1 : -9223372036854775808 ≤ x) (h2 : x ≤ 9223372036854775807) : IntKind.i64.wrap x = x := wrap_id h1 h2
theorem Cert.fall_height {c : Cert} (h : c.ok = true) (hk : c.kind = 2) : 1 ≤ c.height ∧ c.height ≤ 3 := by
  unfold Cert.ok at h
  rw [if_neg (by omega), if_neg (by omega), if_pos hk] at h
  simp [Cert.fall, inR] at h
  omega
/-- May it stand behind its parent, as the document says it? -/
def Blk.parentR (b : Blk) : Bool :=
  b.parent.ok && decide (b.round = IntKind.i64.wrap (b.parent.round + 1)) && decide (b.round ≤ 1073741824) &&
    (if b.height < 2 then openS b.parent b.view else decide (b.parent.kind = 2) && decide (b.parent.coin = 0#32) && decide (b.parent.view = b.view) && decide (b.parent.author = b.author) && decide (IntKind.i64.wrap (b.parent.height + 1) = b.height))
theorem parentR_eq {b : Blk} (hh : b.head = true) : b.parentR = b.parentOk := by
  have hr : 0 ≤ b.height ∧ b.height ≤ 3 := by simp [Blk.head, inR] at hh; omega
  unfold Blk.parentR Blk.parentOk
  by_cases h : b.height ≤ 1
  · rw [if_pos (by omega), if_pos h]
    cases h1 : b.parent.ok
    · simp [openS, h1]
    · simp
  · rw [if_neg (by omega), if_neg h, wrap_small (x := b.height - 1) (by omega) (by omega)]
    cases h1 : b.parent.ok
    · simp
    by_cases h2 : b.parent.kind = 2
    case neg => simp [h2]
    have h3 := Cert.fall_height h1 h2
    rw [wrap_small (x := b.parent.height + 1) (by omega) (by omega)]
    have h4 : decide (b.parent.height + 1 = b.height) = decide (b.parent.height = b.height - 1) := decide_eq_decide.2 (by omega)
    rw [h4]
    cases h5 : decide (b.parent.coin = 0#32) <;> simp [Cert.endorsed, h2, h5] <;> simp_all
theorem proofR_eq {b : Blk} (h : b.height = 1) : b.proofOk = (decide (1 ≤ b.proof.length ∧ b.proof.length ≤ 10) && (List.range b.proof.length).all (pAt b.view b.proof)) := by
  have : inR b.proof.length 1 10 = decide (1 ≤ b.proof.length ∧ b.proof.length ≤ 10) := decide_eq_decide.2 (by omega)
  unfold Blk.proofOk
  rw [if_pos h, Bool.and_comm, this]
set_option maxHeartbeats 2000000 in
theorem rcheckBlk_ok (H : AH) {b : Blk} {pv tv : V} (hb : BlkAt H b pv tv) (hs : b.small) : ACalls Tryz.prog 101 [.agg (b.cells pv tv)] H fun r H' => r = .i .i64 b.err ∧ H' = H := by
  refine ACalls.pure (Q := fun r => r = .i .i64 b.err) ⟨_, Tryz.func101, rfl, rfl⟩ ?_
  refine ACalls_body Tryz.func101 rfl rfl ?_
  refine AW_seq ?_
  refine AW_reg [1] fun K hK => ?_ -- region 0
  simp [init_eq, V.cells]
  obtain ⟨H1, e1, hp, hn, ho⟩ := H.boxed (b.cells pv tv)
  rw [e1]
  refine hK _ _ ?_; clear hK K
  have hb1 := hb.same ho
  have lt := hb1.tx.alen (P := Tryz.prog) qelem_66 H1
  have fin : ∀ x : Int, x = b.err → V.i .i64 x = V.i .i64 b.err ∧ V.lt H.next (V.i .i64 x) = true ∧ H.next ≤ H1.next ∧ ∀ j, j < H.next → H1.get j = H.get j := fun x hx => pure_end hn ho (by rw [hx]) rfl
  refine AW_seq ?_
  refine AW_seq ?_
  refine AW_regto [1, 39] ⟨179, [(1, .p (some (H.next, 0, 0))), (39, .b (!(b.head && decide (b.txs.length ≤ 8))))]⟩ H1 (fun K hk => ?_) ?_ -- region 1
  · have hh : b.head = (decide (1 ≤ b.view) && decide (b.view ≤ 1048576) && (decide (0 ≤ b.author) && decide (b.author ≤ 9)) && (decide (0 ≤ b.height) && decide (b.height ≤ 3))) := by
      simp [Blk.head, inR]
    by_cases k1 : b.view < 1
    · have : ¬ 1 ≤ b.view := by omega
      simpa [init_eq, afieldAddr, aload, hp, k1, hh, this] using hk
    have j1 : 1 ≤ b.view := by omega
    by_cases k2 : 1048576 < b.view
    · have : ¬ b.view ≤ 1048576 := by omega
      simpa [init_eq, afieldAddr, aload, hp, k1, k2, hh, this] using hk
    have j2 : b.view ≤ 1048576 := by omega
    by_cases k3 : b.author < 0
    · have : ¬ 0 ≤ b.author := by omega
      simpa [init_eq, afieldAddr, aload, hp, k1, k2, k3, hh, this] using hk
    have j3 : 0 ≤ b.author := by omega
    by_cases k4 : 9 < b.author
    · have : ¬ b.author ≤ 9 := by omega
      simpa [init_eq, afieldAddr, aload, hp, k1, k2, k3, k4, hh, this] using hk
    have j4 : b.author ≤ 9 := by omega
    by_cases k5 : b.height < 0
    · have : ¬ 0 ≤ b.height := by omega
      simpa [init_eq, afieldAddr, aload, hp, k1, k2, k3, k4, k5, hh, this] using hk
    have j5 : 0 ≤ b.height := by omega
    by_cases k6 : 3 < b.height
    · have : ¬ b.height ≤ 3 := by omega
      simpa [init_eq, afieldAddr, aload, hp, k1, k2, k3, k4, k5, k6, hh, this] using hk
    have j6 : b.height ≤ 3 := by omega
    by_cases k7 : b.txs.length ≤ 8
    · have : ¬ 8 < (b.txs.length : Int) := by omega
      simpa [init_eq, afieldAddr, aload, hp, lt, k1, k2, k3, k4, k5, k6, k7, hh, j1, j2, j3, j4, j5, j6, this] using hk
    · have : 8 < (b.txs.length : Int) := by omega
      simpa [init_eq, afieldAddr, aload, hp, lt, k1, k2, k3, k4, k5, k6, k7, hh, j1, j2, j3, j4, j5, j6, this] using hk
  refine AW_cond' rfl rfl (fun hc => ?_) (fun hc => ?_)
  · refine AW_seq ?_
    refine AW_reg [2] fun K hK => ?_ -- region 2
    simp [init_eq]
    refine hK _ _ ?_; clear hK K
    refine AW_ret (end_ret rfl (fin _ ?_))
    unfold Blk.err
    rw [if_neg]
    cases h1 : b.head <;> cases h2 : decide (b.txs.length ≤ 8) <;> simp [h1, h2] at hc ⊢
  have hh : b.head = true := by
    cases h1 : b.head
    · rw [h1] at hc; cases hc
    · rfl
  have h8 : decide (b.txs.length ≤ 8) = true := by
    cases h1 : decide (b.txs.length ≤ 8)
    · rw [h1, Bool.and_false] at hc; cases hc
    · rfl
  have h8' : b.txs.length ≤ 8 := of_decide_eq_true h8
  clear hc
  refine AW_skip ?_
  refine AW_seq ?_
  refine AW_seq ?_
  refine AW_reg [1, 3] fun K hK => ?_ -- region 3
  simp [init_eq]
  refine hK _ _ ?_; clear hK K
  refine AW_block ?_
  refine AW_loop0 (fun i : Nat => ⟨179, [(1, .p (some (H.next, 0, 0))), (3, .i .i64 i)]⟩) (fun i => i ≤ b.txs.length ∧ (b.txs.take i).all Tx.ok = true) (fun i => b.txs.length - i) 0 (by simp) (by simp) (by dsimp only; omega) fun hw i hM => ?_ -- loop
  have e13 : aload Tryz.prog H1 66 (.p (some (H.next, 0, 13))) = some tv := by simp [aload, hp]
  refine AW_seq ?_
  refine AW_seq ?_
  refine AW_reg [1, 3, 44] fun K hK => ?_ -- region 4
  simp [init_eq, afieldAddr, e13, lt]
  refine hK _ _ ?_; clear hK K
  refine AW_cond' rfl rfl (fun hc => ?_) (fun hc => ?_)
  · have hi : i < b.txs.length := by simpa using hc
    obtain ⟨ax, px, qx⟩ := hb1.tx.rec Tx.len (by decide) (P := Tryz.prog) qelem_66 qsize_150 qagg_150 hi
    refine AW_skip ?_
    refine AW_seq ?_
    refine AW_block ?_
    refine AW_seq ?_
    refine AW_reg [1, 3, 53] fun K hK => ?_ -- region 6
    simp [init_eq, afieldAddr, e13, px, qx]
    refine ACalls.mono (rtxCheck_ok _ _ (hs.each _ (List.getElem_mem hi))) fun r H' ⟨hr, e⟩ => ?_ -- hallmoot/hallmootref08.Check
    subst hr e
    simp
    refine hK _ _ ?_; clear hK K
    refine AW_cond' rfl rfl (fun hc => ?_) (fun hc => ?_)
    · have hg : b.txs[i].ok = false := by simpa using hc
      refine AW_seq ?_
      refine AW_reg [2] fun K hK => ?_ -- region 7
      simp [init_eq]
      refine hK _ _ ?_; clear hK K
      refine AW_ret (end_ret rfl (fin _ ?_))
      have : b.txs.all Tx.ok = false := by rw [List.all_eq_false]; exact ⟨_, List.getElem_mem hi, by simp [hg]⟩
      simp [Blk.err, this]
    · have hg : b.txs[i].ok = true := by simpa using hc
      refine AW_skip ?_
      refine AW_reg [1, 3] fun K hK => ?_ -- region 5
      simp [init_eq, wrap_id (x := (i : Int) + 1) (by omega) (by omega)]
      refine hK _ _ ?_; clear hK K
      refine rend ⟨i + 1, by simp, ⟨by omega, ?_⟩, by omega, .inl rfl⟩ -- round's end
      rw [List.take_succ_eq_append_getElem hi, List.all_append, hM.2]; simp [hg]
  have hi : i = b.txs.length := by
    have : ¬ i < b.txs.length := by simpa using hc
    omega
  subst hi
  have hall := hM.2
  rw [List.take_length] at hall
  have he : b.err = (if b.parentR = true then (if b.proofOk = true then 0 else 121) else 122) := by
    unfold Blk.err; rw [hall, h8, hh, parentR_eq hh]; rfl
  refine AW_exit (then_exit (then_exit (block_here ?_)))
  refine AW_seq ?_
  refine AW_reg [1, 4] fun K hK => ?_ -- region 8
  simp [init_eq, afieldAddr, aload, hp, Blk.parent_cells, astore, AH.get_new, V.cells]
  refine hK _ _ ?_; clear hK K
  generalize hH2 : (H1.new _).set H1.next _ = H2
  have hq : H2.get H1.next = some (.cells b.parent.cells 0 false 0) := by rw [← hH2]; simp [AH.get_set]; exact splice_all rfl
  have hn2 : H2.next = H.next + 2 := by rw [← hH2]; simp [hn]
  have ho1 : ∀ j, j < H1.next → H2.get j = H1.get j := fun j hj => by rw [← hH2]; simp [AH.get_set, AH.get_new, show j ≠ H1.next by omega]
  have ho2 : ∀ j, j < H.next → H2.get j = H.get j := fun j hj => (ho1 j (by omega)).trans (ho j hj)
  have hp2 := (ho1 H.next (by omega)).trans hp
  have hb2 := hb.same ho2
  clear hH2
  have lp := hb2.pf.alen (P := Tryz.prog) qelem_65
  have fin2 : ∀ x : Int, x = b.err → V.i .i64 x = V.i .i64 b.err ∧ V.lt H.next (V.i .i64 x) = true ∧ H.next ≤ H2.next ∧ ∀ j, j < H.next → H2.get j = H.get j := fun x hx => pure_end hn2 ho2 (by rw [hx]) rfl
  refine AW_seq ?_
  refine AW_seq ?_
  refine AW_regto [1, 4, 71] ⟨179, [(1, .p (some (H.next, 0, 0))), (4, .p (some (H1.next, 0, 0))), (71, .b (!(b.parent.ok && decide (b.round = IntKind.i64.wrap (b.parent.round + 1)) && decide (b.round ≤ 1073741824))))]⟩ H2 (fun K hk => ?_) ?_ -- region 9
  · simp [init_eq, aload, hq, take_cells]
    refine ACalls.mono (rcheck_ok ..) fun r H' ⟨hr, e⟩ => ?_ -- hallmoot/hallmootref11.Check
    subst hr e
    cases g1 : b.parent.ok
    · simpa [g1] using hk
    by_cases g2 : b.round = IntKind.i64.wrap (b.parent.round + 1)
    case neg => simpa [g1, g2, afieldAddr, aload, hq, hp2] using hk
    by_cases g3 : b.round ≤ 1073741824
    · have g3' : ¬ 1073741824 < b.round := by omega
      simpa [g1, ← g2, g3, g3', afieldAddr, aload, hq, hp2] using hk
    · have g3' : 1073741824 < b.round := by omega
      simpa [g1, ← g2, g3, g3', afieldAddr, aload, hq, hp2] using hk
  have hA : ∀ x : Bool, (b.parent.ok && decide (b.round = IntKind.i64.wrap (b.parent.round + 1)) && decide (b.round ≤ 1073741824)) = x → (x = false → b.parentR = false) ∧ (x = true → b.parentR = (if b.height < 2 then openS b.parent b.view else decide (b.parent.kind = 2) && decide (b.parent.coin = 0#32) && decide (b.parent.view = b.view) && decide (b.parent.author = b.author) && decide (IntKind.i64.wrap (b.parent.height + 1) = b.height))) := fun x hx => by
    unfold Blk.parentR
    rw [hx]
    exact ⟨fun h => by rw [h, Bool.false_and], fun h => by rw [h, Bool.true_and]⟩
  generalize hX : (b.parent.ok && decide (b.round = IntKind.i64.wrap (b.parent.round + 1)) && decide (b.round ≤ 1073741824)) = X
  obtain ⟨hA0, hA1⟩ := hA X hX
  refine AW_cond' rfl rfl (fun hc => ?_) (fun hc => ?_)
  · have h : b.parentR = false := hA0 (by simpa using hc)
    refine AW_seq ?_
    refine AW_reg [2] fun K hK => ?_ -- region 10
    simp [init_eq]
    refine hK _ _ ?_; clear hK K
    refine AW_ret (end_ret rfl (fin2 _ ?_))
    simp [he, h]
  have hR := hA1 (by simpa using hc)
  clear hA0 hA1 hA hX
  refine AW_skip ?_
  refine AW_seq ?_
  refine AW_seq ?_
  refine AW_regto [1, 4, 81] ⟨179, [(1, .p (some (H.next, 0, 0))), (4, .p (some (H1.next, 0, 0))), (81, .b (decide (b.height < 2) && !openS b.parent b.view))]⟩ H2 (fun K hk => ?_) ?_ -- region 11
  · by_cases g1 : b.height < 2
    · simp [init_eq, afieldAddr, aload, hp2, hq, take_cells, g1]
      refine ACalls.mono (ropen_ok ..) fun r H' ⟨hr, e⟩ => ?_ -- hallmoot/hallmootref12.Open
      subst hr e
      simpa [g1] using hk
    · simpa [init_eq, afieldAddr, aload, hp2, g1] using hk
  refine AW_cond' rfl rfl (fun hc => ?_) (fun hc => ?_)
  · have g : b.height < 2 ∧ openS b.parent b.view = false := by simpa using hc
    have h : b.parentR = false := by rw [hR, if_pos g.1, g.2]
    refine AW_seq ?_
    refine AW_reg [2] fun K hK => ?_ -- region 12
    simp [init_eq]
    refine hK _ _ ?_; clear hK K
    refine AW_ret (end_ret rfl (fin2 _ ?_))
    simp [he, h]
  have g11 : b.height < 2 → openS b.parent b.view = true := fun h => by simpa [h] using hc
  refine AW_skip ?_
  refine AW_seq ?_
  refine AW_seq ?_
  refine AW_regto [1, 116] ⟨179, [(1, .p (some (H.next, 0, 0))), (116, .b (!b.parentR))]⟩ H2 (fun K hk => ?_) ?_ -- region 13
  · by_cases g1 : b.height < 2
    · have g1' : ¬ 2 ≤ b.height := by omega
      rw [hR, if_pos g1, g11 g1] at hk
      simpa [init_eq, afieldAddr, aload, hp2, g1'] using hk
    rw [hR, if_neg g1] at hk
    have g1' : 2 ≤ b.height := by omega
    by_cases g2 : b.parent.kind = 2
    case neg => simpa [init_eq, afieldAddr, aload, hp2, hq, g1', g2] using hk
    by_cases g3 : b.parent.coin = 0#32
    case neg => simpa [init_eq, afieldAddr, aload, hp2, hq, g1', g2, g3] using hk
    by_cases g4 : b.parent.view = b.view
    case neg => simpa [init_eq, afieldAddr, aload, hp2, hq, g1', g2, g3, g4] using hk
    by_cases g5 : b.parent.author = b.author
    case neg => simpa [init_eq, afieldAddr, aload, hp2, hq, g1', g2, g3, g4, g5] using hk
    simpa [init_eq, afieldAddr, aload, hp2, hq, g1', g2, g3, g4, g5] using hk
  refine AW_cond' rfl rfl (fun hc => ?_) (fun hc => ?_)
  · have h : b.parentR = false := by simpa using hc
    refine AW_seq ?_
    refine AW_reg [2] fun K hK => ?_ -- region 14
    simp [init_eq]
    refine hK _ _ ?_; clear hK K
    refine AW_ret (end_ret rfl (fin2 _ ?_))
    simp [he, h]
  have hpR : b.parentR = true := by simpa using hc
  rw [hpR, if_pos rfl] at he
  refine AW_skip ?_
  refine AW_seq ?_
  refine AW_seq ?_
  refine AW_reg [1, 119] fun K hK => ?_ -- region 15
  simp [init_eq, afieldAddr, aload, hp2]
  refine hK _ _ ?_; clear hK K
  refine AW_cond' rfl rfl (fun hc => ?_) (fun hc => ?_)
  · have h1 : ¬ b.height = 1 := by simpa using hc
    have hpo : b.proofOk = decide (b.proof.length = 0) := by simp [Blk.proofOk, h1]
    refine AW_seq ?_
    refine AW_seq ?_
    refine AW_reg [123] fun K hK => ?_ -- region 16
    simp [init_eq, afieldAddr, aload, hp2, lp]
    refine hK _ _ ?_; clear hK K
    refine AW_cond' rfl rfl (fun hc => ?_) (fun hc => ?_)
    · have h2 : ¬ b.proof.length = 0 := by
        have : 0 < b.proof.length := of_decide_eq_true hc
        omega
      refine AW_seq ?_
      refine AW_reg [2] fun K hK => ?_ -- region 17
      simp [init_eq]
      refine hK _ _ ?_; clear hK K
      refine AW_ret (end_ret rfl (fin2 _ ?_))
      simp only [he, hpo, h2]; rfl
    · have h2 : b.proof.length = 0 := by
        have : ¬ 0 < b.proof.length := of_decide_eq_false hc
        omega
      refine AW_skip ?_
      refine AW_seq ?_
      refine AW_reg [2] fun K hK => ?_ -- region 18
      simp [init_eq]
      refine hK _ _ ?_; clear hK K
      refine AW_ret (end_ret rfl (fin2 _ ?_))
      simp only [he, hpo, h2]; rfl
  have h1 : b.height = 1 := by simpa using hc
  have hpo := proofR_eq h1
  refine AW_skip ?_
  refine AW_seq ?_
  refine AW_seq ?_
  refine AW_regto [1, 133] ⟨179, [(1, .p (some (H.next, 0, 0))), (133, .b (!decide (1 ≤ b.proof.length ∧ b.proof.length ≤ 10)))]⟩ H2 (fun K hk => ?_) ?_ -- region 19
  · by_cases k1 : 1 ≤ b.proof.length
    · have j1 : ¬ (b.proof.length : Int) < 1 := by omega
      by_cases k2 : b.proof.length ≤ 10
      · have j2 : ¬ 10 < (b.proof.length : Int) := by omega
        simpa [init_eq, afieldAddr, aload, hp2, lp, j1, j2, k1, k2] using hk
      · have j2 : 10 < (b.proof.length : Int) := by omega
        simpa [init_eq, afieldAddr, aload, hp2, lp, j1, j2, k1, k2] using hk
    · have j1 : (b.proof.length : Int) < 1 := by omega
      simpa [init_eq, afieldAddr, aload, hp2, lp, j1, k1] using hk
  refine AW_cond' rfl rfl (fun hc => ?_) (fun hc => ?_)
  · have h2 : decide (1 ≤ b.proof.length ∧ b.proof.length ≤ 10) = false := by
      cases h : decide (1 ≤ b.proof.length ∧ b.proof.length ≤ 10)
      · rfl
      · rw [h] at hc; cases hc
    refine AW_seq ?_
    refine AW_reg [2] fun K hK => ?_ -- region 20
    simp [init_eq]
    refine hK _ _ ?_; clear hK K
    refine AW_ret (end_ret rfl (fin2 _ ?_))
    rw [he, hpo, h2]; rfl
  have h2 : decide (1 ≤ b.proof.length ∧ b.proof.length ≤ 10) = true := by
    cases h : decide (1 ≤ b.proof.length ∧ b.proof.length ≤ 10)
    · rw [h] at hc; cases hc
    · rfl
  rw [h2, Bool.true_and] at hpo
  have h10 := of_decide_eq_true h2
  refine AW_skip ?_
  refine AW_seq ?_
  refine AW_seq ?_
  refine AW_reg [1, 5] fun K hK => ?_ -- region 21
  simp [init_eq]
  refine hK _ _ ?_; clear hK K
  refine AW_block ?_
  refine AW_loop0 (fun i : Nat => ⟨179, [(1, .p (some (H.next, 0, 0))), (5, .i .i64 i)]⟩) (fun i => i ≤ b.proof.length ∧ (List.range i).all (pAt b.view b.proof) = true) (fun i => b.proof.length - i) 0 (by simp) (by simp) (by dsimp only; omega) fun hw i hM => ?_ -- loop
  have l1 : aload Tryz.prog H2 65 (.p (some (H.next, 0, 12))) = some pv := by simp [aload, hp2]
  have l2 : aload Tryz.prog H2 3 (.p (some (H.next, 0, 0))) = some (.i .i64 b.view) := by simp [aload, hp2]
  have f2 : ∀ (x o : Nat), afieldAddr Tryz.prog 68 0 (.p (some (x, 0, o))) = some (.p (some (x, 0, o))) := fun x o => by simp [afieldAddr]
  have f3 : ∀ (x o : Nat), afieldAddr Tryz.prog 68 5 (.p (some (x, 0, o))) = some (.p (some (x, 0, o + 12))) := fun x o => by simp [afieldAddr]
  refine AW_seq ?_
  refine AW_seq ?_
  refine AW_reg [1, 5, 138] fun K hK => ?_ -- region 22
  simp [init_eq, f3, l1, lp]
  refine hK _ _ ?_; clear hK K
  refine AW_cond' rfl rfl (fun hc => ?_) (fun hc => ?_)
  · have hi : i < b.proof.length := by simpa using hc
    obtain ⟨ax, px, qx⟩ := hb2.pf.rec Tmo.len (by decide) (P := Tryz.prog) qelem_65 qsize_148 qagg_148 hi
    obtain ⟨az, az', pz, qz, rz⟩ := hb2.pf.fld Tmo.len (by decide) (P := Tryz.prog) qelem_65 qsize_148 hi qfield_148_1 qagg_3 qsize_3 (Tmo.c1 _)
    obtain ⟨aw, aw', pw, qw, rw'⟩ := hb2.pf.fld Tmo.len (by decide) (P := Tryz.prog) qelem_65 qsize_148 hi qfield_148_0 qagg_3 qsize_3 (Tmo.c0 _)
    obtain rfl : az = ax := Option.some.inj (pz.symm.trans px)
    obtain rfl : aw = az := Option.some.inj (pw.symm.trans px)
    clear pz pw
    have hpa := pAt_eq (v := b.view) hi
    refine AW_skip ?_
    refine AW_seq ?_
    refine AW_block ?_
    refine AW_seq ?_
    refine AW_regdto [1, 5, 178] pl_101_24 pe_101_24 ⟨179, [(1, .p (some (H.next, 0, 0))), (5, .i .i64 i), (178, .b (!pAt b.view b.proof i))]⟩ H2 (by kernel_rfl) (by kernel_rfl) (by decide) (fun K hk => ?_) ?_
    · rw [hpa] at hk
      simp [init_eq, pl_101_24, f2, f3, l1, l2, px, qx]
      refine ACalls.mono (rtimeout_ok ..) fun r H' ⟨hr, e⟩ => ?_ -- hallmoot/hallmootref12.Timeout
      subst hr e
      cases g1 : b.proof[i].ok
      · simpa [g1] using hk
      by_cases g2 : b.proof[i].view = b.view
      case neg => simpa [g1, g2, f2, f3, l1, l2, px, qz, rz] using hk
      by_cases g3 : i = 0
      · have g3n : ¬ 0 < i := by omega
        simpa [g1, g2, g3n, sgnAt_zero _ g3, f2, f3, l1, l2, px, qz, rz] using hk
      have g3' : 0 < i := by omega
      have ei : (i : Int) - 1 = ((i - 1 : Nat) : Int) := by omega
      obtain ⟨ay, ay', py, qy, ry⟩ := hb2.pf.fld Tmo.len (by decide) (P := Tryz.prog) qelem_65 qsize_148 (i := i - 1) (by omega) qfield_148_0 qagg_3 qsize_3 (Tmo.c0 _)
      rw [sgnAt_pos g3 hi] at hk
      by_cases g4 : b.proof[i - 1].signer < b.proof[i].signer
      · have g5 : ¬ b.proof[i].signer ≤ b.proof[i - 1].signer := by omega
        simpa [g1, g2, g3, g3', g4, g5, f2, f3, l1, l2, wrap_id (x := (i : Int) - 1) (by omega) (by omega), wrap_id (x := ((i - 1 : Nat) : Int)) (by omega) (by omega), ei, px, qz, rz, qw, rw', py, qy, ry] using hk
      · have g5 : b.proof[i].signer ≤ b.proof[i - 1].signer := by omega
        simpa [g1, g2, g3, g3', g4, g5, f2, f3, l1, l2, wrap_id (x := (i : Int) - 1) (by omega) (by omega), wrap_id (x := ((i - 1 : Nat) : Int)) (by omega) (by omega), ei, px, qz, rz, qw, rw', py, qy, ry] using hk
    refine AW_cond' rfl rfl (fun hc => ?_) (fun hc => ?_)
    · have hg : pAt b.view b.proof i = false := by simpa using hc
      refine AW_seq ?_
      refine AW_reg [2] fun K hK => ?_ -- region 25
      simp [init_eq]
      refine hK _ _ ?_; clear hK K
      refine AW_ret (end_ret rfl (fin2 _ ?_))
      rw [he, hpo, range_all_false hi hg]; rfl
    · have hg : pAt b.view b.proof i = true := by simpa using hc
      refine AW_skip ?_
      refine AW_reg [1, 5] fun K hK => ?_ -- region 23
      simp [init_eq, wrap_id (x := (i : Int) + 1) (by omega) (by omega)]
      refine hK _ _ ?_; clear hK K
      exact rend ⟨i + 1, by simp, ⟨by omega, range_all_succ hM.2 hg⟩, by omega, .inl rfl⟩ -- round's end
  · have hi : i = b.proof.length := by
      have : ¬ i < b.proof.length := by simpa using hc
      omega
    subst hi
    refine AW_exit (then_exit (then_exit (block_here ?_)))
    refine AW_seq ?_
    refine AW_reg [2] fun K hK => ?_ -- region 26
    simp [init_eq]
    refine hK _ _ ?_; clear hK K
    refine AW_ret (end_ret rfl (fin2 _ ?_))
    rw [he, hpo, hM.2]; rfl
end Go.Proofs.YtoccjilbfkhmoaaGreatDoor
