/-
  Which blocks may be: the program's and the document's.
-/
import Derived.Test.YtoccjilbfkhmoaaDoorBlock3
import Derived.Test.YtoccjilbfkhmoaaDoorTx1
set_option linter.unusedVariables false
set_option linter.unusedSimpArgs false
namespace Go.Proofs.YtoccjilbfkhmoaaDoor
open Go Go.Abs Go.Proofs
set_option maxRecDepth 100000
attribute [local irreducible] AEnd AW ACalls

/-- No more is in it than memory holds. -/
structure Blk.small (b : Blk) : Prop where
  pf : b.proof.length ≤ 1000000000
  tx : b.txs.length ≤ 1000000000
  each : ∀ t ∈ b.txs, t.small
/-- No more is in it than any machine holds. -/
structure Blk.fits (b : Blk) : Prop where
  pf : b.proof.length ≤ 140737488351232
  tx : b.txs.length ≤ 140737488351232
  each : ∀ t ∈ b.txs, t.fits
theorem Blk.small.fits {b : Blk} (h : b.small) : b.fits := ⟨by have := h.pf; omega, by have := h.tx; omega, fun t ht => (h.each t ht).fits⟩
theorem Blk.small_of {b : Blk} (h : b.great = false) : b.small := by
  simp only [Blk.great, Bool.or_eq_false_iff, decide_eq_false_iff_not] at h
  refine ⟨by omega, by omega, fun t ht => Tx.small_of ?_⟩
  have := List.any_eq_false.1 h.2 t ht
  simpa using this
theorem wrong_ok (H : AH) (t : Tx) (hs : t.fits) : ACalls Tryd.prog 82 [.agg t.cells] H fun r H' => r = .b (!t.ok) ∧ H' = H := by
  refine ACalls.pure (Q := fun r => r = .b (!t.ok)) ⟨_, Tryd.func82, rfl, rfl⟩ ?_
  refine ACalls_body Tryd.func82 rfl rfl ?_
  refine AW_seq ?_
  refine AW_reg [1] fun K hK => ?_ -- region 0
  simp [init_eq, V.cells]
  obtain ⟨H1, e1, hp, hn, ho⟩ := H.boxed t.cells
  rw [e1]
  refine hK _ _ ?_; clear hK K
  refine AW_seq ?_
  refine AW_reg [2] fun K hK => ?_ -- region 1
  simp [init_eq, aload, hp, tx_take]
  refine ACalls.mono (txCheck_ok _ _ hs) fun r H' ⟨hr, e⟩ => ?_ -- hallmoot/tx.Check
  subst hr e
  simp
  refine hK _ _ ?_; clear hK K
  refine AW_ret (end_ret rfl (pure_end hn ho ?_ rfl))
  cases t.ok <;> simp
theorem indexWrong_ok (H : AH) {v : V} {ts : List Tx} (hv : RS H v 7 (ts.map Tx.cells)) (hlen : ts.length ≤ 140737488351232) (hs : ∀ t ∈ ts, t.fits) :
    ACalls Tryd.prog 91 [v, .fn (.func 82) [] []] H fun r H' => (∃ n : Int, r = .i .i64 n ∧ (decide (0 ≤ n)) = !ts.all Tx.ok) ∧ H' = H := by
  have lx := hv.alen (P := Tryd.prog) qelem_59 H
  refine ACalls_body Tryd.func91 rfl rfl ?_
  refine AW_seq ?_
  refine AW_reg [0, 1] fun K hK => ?_ -- region 0
  simp [init_eq]
  refine hK _ _ ?_; clear hK K
  refine AW_seq ?_
  refine AW_seq ?_
  refine AW_reg [0, 1, 7, 8] fun K hK => ?_ -- region 1
  simp [init_eq, lx]
  refine hK _ _ ?_; clear hK K
  refine AW_block ?_
  refine AW_loop0 (fun i : Nat => ⟨19, [(0, v), (1, .fn (.func 82) [] []), (7, .i .i64 ts.length), (8, .i .i64 i)]⟩) (fun i => i ≤ ts.length ∧ (ts.take i).all Tx.ok = true) (fun i => ts.length - i) 0 (by simp) (by simp) (by dsimp only; omega) fun hw i hM => ?_ -- loop
  refine AW_seq ?_
  refine AW_reg [0, 1, 7, 8, 9] fun K hK => ?_ -- region 2
  simp [init_eq]
  refine hK _ _ ?_; clear hK K
  refine AW_seq ?_
  refine AW_cond' rfl rfl (fun hc => ?_) (fun hc => ?_)
  · have hi : i < ts.length := by simpa using hc
    obtain ⟨ax, px, qx⟩ := hv.rec Tx.len (by decide) (P := Tryd.prog) qelem_59 qsize_108 qagg_108 hi
    refine AW_skip ?_
    refine AW_seq ?_
    refine AW_block ?_
    refine AW_seq ?_
    refine AW_reg [0, 1, 5, 7, 8] fun K hK => ?_ -- region 3
    simp [init_eq]
    refine hK _ _ ?_; clear hK K
    refine AW_seq ?_
    refine AW_reg [0, 1, 5, 7, 8, 16] fun K hK => ?_ -- region 4
    simp [init_eq, px, qx, AOp_callv (f := 82) (first := []) (caps := [])]
    refine ACalls.mono (wrong_ok _ _ (hs _ (List.getElem_mem hi))) fun r H' ⟨hr, e⟩ => ?_
    subst hr e
    try simp
    refine hK _ _ ?_; clear hK K
    refine AW_cond' rfl rfl (fun hc => ?_) (fun hc => ?_)
    · have hg : ts[i].ok = false := by simpa using hc
      refine AW_seq ?_
      refine AW_reg [4] fun K hK => ?_ -- region 5
      simp [init_eq]
      refine hK _ _ ?_; clear hK K
      refine AW_ret (end_ret rfl ⟨⟨i, rfl, ?_⟩, rfl⟩)
      have : ts.all Tx.ok = false := by rw [List.all_eq_false]; exact ⟨ts[i], List.getElem_mem hi, by simp [hg]⟩
      simp [this]
    · have hg : ts[i].ok = true := by simpa using hc
      refine AW_skip ?_
      refine AW_reg [0, 1, 7, 8] fun K hK => ?_ -- region 6
      simp [init_eq, wrap_id (x := (i : Int) + 1) (by omega) (by omega)]
      refine hK _ _ ?_; clear hK K
      refine rend ⟨i + 1, by simp, ⟨by omega, ?_⟩, by omega, .inl rfl⟩ -- round's end
      rw [List.take_succ_eq_append_getElem hi, List.all_append, hM.2]; simp [hg]
  · have hi : i = ts.length := by
      have : ¬ i < ts.length := by simpa using hc
      omega
    subst hi
    refine AW_exit (then_exit (then_exit (block_here ?_)))
    refine AW_seq ?_
    refine AW_reg [4] fun K hK => ?_ -- region 7
    simp [init_eq]
    refine hK _ _ ?_; clear hK K
    have h2 := hM.2
    rw [List.take_length] at h2
    refine AW_ret (end_ret rfl ⟨⟨-1, rfl, ?_⟩, rfl⟩)
    simp [h2]
theorem anyWrong_ok (H : AH) {v : V} {ts : List Tx} (hv : RS H v 7 (ts.map Tx.cells)) (hlen : ts.length ≤ 140737488351232) (hs : ∀ t ∈ ts, t.fits) :
    ACalls Tryd.prog 81 [v, .fn (.func 82) [] []] H fun r H' => r = .b (!ts.all Tx.ok) ∧ H' = H := by
  refine ACalls_body Tryd.func81 rfl rfl ?_
  refine AW_seq ?_
  refine AW_reg [0, 1] fun K hK => ?_ -- region 0
  simp [init_eq]
  refine hK _ _ ?_; clear hK K
  refine AW_seq ?_
  refine AW_reg [4] fun K hK => ?_ -- region 1
  simp [init_eq]
  refine ACalls.mono (indexWrong_ok H hv hlen hs) fun r H' h => ?_
  obtain ⟨⟨n, rfl, hn⟩, rfl⟩ := h
  simp
  refine hK _ _ ?_; clear hK K
  refine AW_ret (end_ret rfl ?_)
  simp [hn]
/-- May it stand behind its parent? -/
def Blk.parentOk (b : Blk) : Bool :=
  decide (b.round = IntKind.i64.wrap (b.parent.round + 1)) && decide (b.round ≤ 1073741824) &&
    (if b.height ≤ 1 then openS b.parent b.view else b.parent.ok && decide (b.parent.kind = 2) && !b.parent.endorsed && decide (b.parent.view = b.view) && decide (b.parent.author = b.author) && decide (b.parent.height = IntKind.i64.wrap (b.height - 1)))
theorem parent_ok (H : AH) {id : Nat} {b : Blk} {pv tv : V} (hp : H.get id = some (.cells (b.cells pv tv) 0 false 0)) : ACalls Tryd.prog 84 [.p (some (id, 0, 0))] H fun r H' => r = .b b.parentOk ∧ H' = H := by
  have hid := AH.get_lt hp
  refine ACalls.pure (Q := fun r => r = .b b.parentOk) ⟨_, Tryd.func84, rfl, rfl⟩ ?_
  refine ACalls_body Tryd.func84 rfl rfl ?_
  refine AW_seq ?_
  refine AW_reg [0] fun K hK => ?_ -- region 0
  simp [init_eq]
  refine hK _ _ ?_; clear hK K
  refine AW_seq ?_
  refine AW_reg [0, 3] fun K hK => ?_ -- region 1
  simp [init_eq, afieldAddr, aload, hp, Blk.parent_cells, astore, AH.get_new, V.cells, splice_all]
  refine hK _ _ ?_; clear hK K
  generalize hH1 : (H.new _).set H.next _ = H1
  have hq : H1.get H.next = some (.cells b.parent.cells 0 false 0) := by rw [← hH1]; simp [AH.get_set]; exact splice_all rfl
  have hn : H1.next = H.next + 1 := by rw [← hH1]; simp
  have ho : ∀ j, j < H.next → H1.get j = H.get j := fun j hj => by rw [← hH1]; simp [AH.get_set, AH.get_new, show j ≠ H.next by omega]
  have hp1 := (ho id hid).trans hp
  clear hH1
  refine AW_seq ?_
  refine AW_seq ?_
  refine AW_regdto [0, 3, 22] pl_84_2 pe_84_2 ⟨75, [(0, .p (some (id, 0, 0))), (3, .p (some (H.next, 0, 0))), (22, .b (!(decide (b.round = IntKind.i64.wrap (b.parent.round + 1)) && decide (b.round ≤ 1073741824))))]⟩ H1 (by kernel_rfl) (by kernel_rfl) (by decide) (fun K hk => ?_) ?_
  · by_cases h1 : b.round = IntKind.i64.wrap (b.parent.round + 1)
    · by_cases h2 : b.round ≤ 1073741824
      · have h2' : ¬ 1073741824 < b.round := by omega
        simpa [init_eq, pl_84_2, afieldAddr, aload, hp1, hq, ← h1, h2, h2'] using hk
      · have h2' : 1073741824 < b.round := by omega
        simpa [init_eq, pl_84_2, afieldAddr, aload, hp1, hq, ← h1, h2, h2'] using hk
    · simpa [init_eq, pl_84_2, afieldAddr, aload, hp1, hq, h1] using hk
  refine AW_cond' rfl rfl (fun hc => ?_) (fun hc => ?_)
  · have h0 : (decide (b.round = IntKind.i64.wrap (b.parent.round + 1)) && decide (b.round ≤ 1073741824)) = false := by
      cases h : (decide (b.round = IntKind.i64.wrap (b.parent.round + 1)) && decide (b.round ≤ 1073741824))
      · rfl
      · rw [h] at hc; cases hc
    refine AW_seq ?_
    refine AW_reg [2] fun K hK => ?_ -- region 3
    simp [init_eq]
    refine hK _ _ ?_; clear hK K
    refine AW_ret (end_ret rfl (pure_end hn ho ?_ rfl))
    unfold Blk.parentOk
    rw [h0]; rfl
  · have h0 : (decide (b.round = IntKind.i64.wrap (b.parent.round + 1)) && decide (b.round ≤ 1073741824)) = true := by
      cases h : (decide (b.round = IntKind.i64.wrap (b.parent.round + 1)) && decide (b.round ≤ 1073741824))
      · rw [h] at hc; cases hc
      · rfl
    have hP : b.parentOk = (if b.height ≤ 1 then openS b.parent b.view else b.parent.ok && decide (b.parent.kind = 2) && !b.parent.endorsed && decide (b.parent.view = b.view) && decide (b.parent.author = b.author) && decide (b.parent.height = IntKind.i64.wrap (b.height - 1))) := by
      unfold Blk.parentOk
      rw [h0, Bool.true_and]
    refine AW_skip ?_
    refine AW_seq ?_
    refine AW_seq ?_
    refine AW_reg [0, 3, 27] fun K hK => ?_ -- region 4
    simp [init_eq, afieldAddr, aload, hp1]
    refine hK _ _ ?_; clear hK K
    refine AW_cond' rfl rfl (fun hc => ?_) (fun hc => ?_)
    · have h1 : b.height ≤ 1 := by simpa using hc
      rw [if_pos h1] at hP
      refine AW_seq ?_
      refine AW_regd [2] pl_84_5 pe_84_5 (by kernel_rfl) (by kernel_rfl) (by decide) fun K hK => ?_
      simp [init_eq, pl_84_5, afieldAddr, aload, hp1, hq, take_cells]
      refine ACalls.mono (bopen_ok ..) fun r H' ⟨hr, e⟩ => ?_ -- hallmoot/block.open
      subst hr e
      try simp
      refine hK _ _ ?_; clear hK K
      refine AW_ret (end_ret rfl (pure_end hn ho ?_ rfl))
      simp [hP]
    · have h1 : ¬ b.height ≤ 1 := by simpa using hc
      rw [if_neg h1] at hP
      refine AW_skip ?_
      refine AW_seq ?_
      refine AW_regdto [2] pl_84_6 pe_84_6 ⟨75, [(2, .b b.parentOk)]⟩ H1 (by kernel_rfl) (by kernel_rfl) (by decide) (fun K hk => ?_) (AW_ret (end_ret rfl (pure_end hn ho rfl rfl)))
      rw [hP] at hk
      have hck : (b.parent.check = 0) ↔ b.parent.ok = true := by unfold Cert.check; cases b.parent.ok <;> simp
      simp [init_eq, pl_84_6, afieldAddr, aload, hp1, hq, take_cells]
      refine ACalls.mono (check_ok ..) fun r H' ⟨hr, e⟩ => ?_ -- hallmoot/cert.Check
      subst hr e
      cases g1 : b.parent.ok
      · have : ¬ b.parent.check = 0 := by rw [hck, g1]; simp
        simpa [this, g1] using hk
      have g0 : b.parent.check = 0 := hck.2 g1
      by_cases g2 : b.parent.kind = 2
      case neg => simpa [g0, g1, g2, afieldAddr, aload, hq] using hk
      simp [g0, g2, afieldAddr, aload, hq, take_cells]
      refine ACalls.mono (endorsed_ok ..) fun r H' ⟨hr, e⟩ => ?_ -- hallmoot/cert.Endorsed
      subst hr e
      cases g3 : b.parent.endorsed
      case true => simpa [g1, g2, g3] using hk
      by_cases g4 : b.parent.view = b.view
      case neg => simpa [g1, g2, g3, g4, afieldAddr, aload, hp1, hq] using hk
      by_cases g5 : b.parent.author = b.author
      case neg => simpa [g1, g2, g3, g4, g5, afieldAddr, aload, hp1, hq] using hk
      simpa [g1, g2, g3, g4, g5, afieldAddr, aload, hp1, hq] using hk
/-- Does the i-th timeout stand in order? -/
def sgnAt (ps : List Tmo) (i : Nat) : Bool :=
  decide (i = 0) || (match ps[i - 1]?, ps[i]? with | some u, some t => decide (u.signer < t.signer) | _, _ => false)
theorem sgnAt_zero (ps : List Tmo) {i : Nat} (h : i = 0) : sgnAt ps i = true := by simp [sgnAt, h]
theorem sgnAt_pos {ps : List Tmo} {i : Nat} (h : ¬ i = 0) (hi : i < ps.length) : sgnAt ps i = decide ((ps[i - 1]'(by omega)).signer < ps[i].signer) := by
  have h1 : ps[i - 1]? = some (ps[i - 1]'(by omega)) := List.getElem?_eq_getElem (by omega)
  have h2 : ps[i]? = some ps[i] := List.getElem?_eq_getElem hi
  unfold sgnAt
  rw [h1, h2]
  simp [h]
/-- The i-th timeout of a proof. -/
def pAt (v : Int) (ps : List Tmo) (i : Nat) : Bool :=
  match ps[i]? with
  | some t => t.ok && decide (t.view = v) && sgnAt ps i
  | none => false
theorem pAt_eq {v : Int} {ps : List Tmo} {i : Nat} (hi : i < ps.length) : pAt v ps i = (ps[i].ok && decide (ps[i].view = v) && sgnAt ps i) := by
  have h2 : ps[i]? = some ps[i] := List.getElem?_eq_getElem hi
  unfold pAt
  rw [h2]
/-- May its timeouts be? -/
def Blk.proofOk (b : Blk) : Bool :=
  if b.height = 1 then (List.range b.proof.length).all (pAt b.view b.proof) && inR b.proof.length 1 10 else decide (b.proof.length = 0)
theorem proof_ok (H : AH) {id : Nat} {b : Blk} {pv tv : V} (hp : H.get id = some (.cells (b.cells pv tv) 0 false 0)) (hb : BlkAt H b pv tv) (hs : b.proof.length ≤ 140737488351232) : ACalls Tryd.prog 85 [.p (some (id, 0, 0))] H fun r H' => r = .b b.proofOk ∧ H' = H := by
  have hid := AH.get_lt hp
  have lp := hb.pf.alen (P := Tryd.prog) qelem_58
  refine ACalls.pure (Q := fun r => r = .b b.proofOk) ⟨_, Tryd.func85, rfl, rfl⟩ ?_
  refine ACalls_body Tryd.func85 rfl rfl ?_
  refine AW_seq ?_
  refine AW_reg [0] fun K hK => ?_ -- region 0
  simp [init_eq]
  refine hK _ _ ?_; clear hK K
  refine AW_seq ?_
  refine AW_seq ?_
  refine AW_reg [0, 9] fun K hK => ?_ -- region 1
  simp [init_eq, afieldAddr, aload, hp]
  refine hK _ _ ?_; clear hK K
  refine AW_cond' rfl rfl (fun hc => ?_) (fun hc => ?_)
  · have h1 : ¬ b.height = 1 := by simpa using hc
    refine AW_seq ?_
    refine AW_reg [2] fun K hK => ?_ -- region 2
    simp [init_eq, afieldAddr, aload, hp, lp]
    refine hK _ _ ?_; clear hK K
    refine AW_ret (end_ret rfl (same_end ?_ rfl))
    simp [Blk.proofOk, h1]
  · have h1 : b.height = 1 := by simpa using hc
    refine AW_skip ?_
    refine AW_seq ?_
    refine AW_seq ?_
    refine AW_reg [0, 19, 20, 21] fun K hK => ?_ -- region 3
    simp [init_eq, afieldAddr, aload, hp, lp]
    refine hK _ _ ?_; clear hK K
    refine AW_block ?_
    refine AW_loop0 (fun i : Nat => ⟨63, [(0, .p (some (id, 0, 0))), (19, pv), (20, .i .i64 b.proof.length), (21, .i .i64 i)]⟩) (fun i => i ≤ b.proof.length ∧ (List.range i).all (pAt b.view b.proof) = true) (fun i => b.proof.length - i) 0 (by simp) (by simp) (by dsimp only; omega) fun hw i hM => ?_ -- loop
    refine AW_seq ?_
    refine AW_reg [0, 19, 20, 21, 22] fun K hK => ?_ -- region 4
    simp [init_eq]
    refine hK _ _ ?_; clear hK K
    refine AW_seq ?_
    refine AW_cond' rfl rfl (fun hc => ?_) (fun hc => ?_)
    · have hi : i < b.proof.length := by simpa using hc
      obtain ⟨ax, px, qx⟩ := hb.pf.rec Tmo.len (by decide) (P := Tryd.prog) qelem_58 qsize_104 qagg_104 hi
      refine AW_skip ?_
      refine AW_seq ?_
      refine AW_block ?_
      refine AW_seq ?_
      refine AW_reg [0, 3, 4, 19, 20, 21] fun K hK => ?_ -- region 5
      simp [init_eq, px, qx, astore, AH.get_new, V.cells, splice_all]
      refine hK _ _ ?_; clear hK K
      generalize hH1 : (H.new _).set H.next _ = H1
      have hq : H1.get H.next = some (.cells b.proof[i].cells 0 false 0) := by rw [← hH1]; simp [AH.get_set]; exact splice_all rfl
      have hn : H1.next = H.next + 1 := by rw [← hH1]; simp
      have ho : ∀ j, j < H.next → H1.get j = H.get j := fun j hj => by rw [← hH1]; simp [AH.get_set, AH.get_new, show j ≠ H.next by omega]
      have hp1 := (ho id hid).trans hp
      have hb1 := hb.same ho
      clear hH1
      have hpa := pAt_eq (v := b.view) hi
      refine AW_seq ?_
      refine AW_regdto [0, 19, 20, 21, 55] pl_85_6 pe_85_6 ⟨63, [(0, .p (some (id, 0, 0))), (19, pv), (20, .i .i64 b.proof.length), (21, .i .i64 i), (55, .b (!pAt b.view b.proof i))]⟩ H1 (by kernel_rfl) (by kernel_rfl) (by decide) (fun K hk => ?_) ?_
      · rw [hpa] at hk
        simp [init_eq, pl_85_6, afieldAddr, aload, hq, tmo_take]
        refine ACalls.mono (btimeout_ok ..) fun r H' ⟨hr, e⟩ => ?_ -- hallmoot/block.Timeout
        subst hr e
        cases g1 : b.proof[i].ok
        · simpa [g1] using hk
        by_cases g2 : b.proof[i].view = b.view
        case neg => simpa [g1, g2, afieldAddr, aload, hq, hp1] using hk
        by_cases g3 : i = 0
        · have g3n : ¬ 0 < i := by omega
          simpa [g1, g2, g3n, sgnAt_zero _ g3, afieldAddr, aload, hq, hp1] using hk
        have g3' : 0 < i := by omega
        have ei : (i : Int) - 1 = ((i - 1 : Nat) : Int) := by omega
        obtain ⟨ay, ay', py, qy, ry⟩ := hb1.pf.fld Tmo.len (by decide) (P := Tryd.prog) qelem_58 qsize_104 (i := i - 1) (by omega) qfield_104_0 qagg_3 qsize_3 (Tmo.c0 _)
        have l1 : aload Tryd.prog H' 58 (.p (some (id, 0, 12))) = some pv := by simp [aload, hp1]
        have l2 : aload Tryd.prog H' 3 (.p (some (id, 0, 0))) = some (.i .i64 b.view) := by simp [aload, hp1]
        have l3 : aload Tryd.prog H' 3 (.p (some (H.next, 0, 0))) = some (.i .i64 b.proof[i].signer) := by simp [aload, hq]
        have l4 : aload Tryd.prog H' 3 (.p (some (H.next, 0, 1))) = some (.i .i64 b.proof[i].view) := by simp [aload, hq]
        have f1 : ∀ (x o : Nat), afieldAddr Tryd.prog 104 1 (.p (some (x, 0, o))) = some (.p (some (x, 0, o + 1))) := fun x o => by simp [afieldAddr]
        have f2 : ∀ (x o : Nat), afieldAddr Tryd.prog 61 0 (.p (some (x, 0, o))) = some (.p (some (x, 0, o))) := fun x o => by simp [afieldAddr]
        have f3 : ∀ (x o : Nat), afieldAddr Tryd.prog 61 5 (.p (some (x, 0, o))) = some (.p (some (x, 0, o + 12))) := fun x o => by simp [afieldAddr]
        have f4 : ∀ (x o : Nat), afieldAddr Tryd.prog 104 0 (.p (some (x, 0, o))) = some (.p (some (x, 0, o))) := fun x o => by simp [afieldAddr]
        rw [sgnAt_pos g3 hi] at hk
        by_cases g4 : b.proof[i - 1].signer < b.proof[i].signer
        · have g5 : ¬ b.proof[i].signer ≤ b.proof[i - 1].signer := by omega
          simpa [g1, g2, g3, g3', g4, g5, f1, f2, f3, f4, l1, l2, l3, l4, wrap_id (x := (i : Int) - 1) (by omega) (by omega), wrap_id (x := ((i - 1 : Nat) : Int)) (by omega) (by omega), ei, py, qy, ry] using hk
        · have g5 : b.proof[i].signer ≤ b.proof[i - 1].signer := by omega
          simpa [g1, g2, g3, g3', g4, g5, f1, f2, f3, f4, l1, l2, l3, l4, wrap_id (x := (i : Int) - 1) (by omega) (by omega), wrap_id (x := ((i - 1 : Nat) : Int)) (by omega) (by omega), ei, py, qy, ry] using hk
      refine AW_cond' rfl rfl (fun hc => ?_) (fun hc => ?_)
      · have hg : pAt b.view b.proof i = false := by simpa using hc
        refine AW_seq ?_
        refine AW_reg [2] fun K hK => ?_ -- region 7
        simp [init_eq]
        refine hK _ _ ?_; clear hK K
        refine AW_ret (end_ret rfl (pure_end hn ho ?_ rfl))
        simp [Blk.proofOk, h1, range_all_false hi hg]
      · have hg : pAt b.view b.proof i = true := by simpa using hc
        refine AW_skip ?_
        refine AW_reg [0, 19, 20, 21] fun K hK => ?_ -- region 8
        simp [init_eq, wrap_id (x := (i : Int) + 1) (by omega) (by omega)]
        refine hK _ _ ?_; clear hK K
        exact rend ⟨i + 1, by simp, ⟨by omega, range_all_succ hM.2 hg⟩, by omega, .inr ⟨by omega, ho, by simp [hid, hb.pf.lt (Nat.le_refl _)]⟩⟩ -- round's end
    · have hi : i = b.proof.length := by
        have : ¬ i < b.proof.length := by simpa using hc
        omega
      subst hi
      refine AW_exit (then_exit (then_exit (block_here ?_)))
      refine AW_seq ?_
      refine AW_reg [2] fun K hK => ?_ -- region 9
      simp [init_eq, afieldAddr, aload, hp, lp]
      refine ACalls.mono (bwithin_ok ..) fun r H' ⟨hr, e⟩ => ?_ -- hallmoot/block.within
      subst hr e
      try simp
      refine hK _ _ ?_; clear hK K
      refine AW_ret (end_ret rfl (same_end ?_ rfl))
      simp [Blk.proofOk, h1, hM.2]
end Go.Proofs.YtoccjilbfkhmoaaDoor
