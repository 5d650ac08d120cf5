/-
  Messages compared: the program's and the document's; the great ones.
-/
import Derived.Test.YtfhbdbjgmcopjaaGreatDoorMsg1
set_option linter.unusedVariables false
set_option linter.unusedSimpArgs false
namespace Go.Proofs.YtfhbdbjgmcopjaaGreatDoor
open Go Go.Abs Go.Proofs
set_option maxRecDepth 100000
attribute [local irreducible] AEnd AW ACalls

set_option maxHeartbeats 4000000 in
theorem sameMsg_ok (H : AH) {a b : Msg} {la pa ta lb pb tb : V} (ha : MsgAt H a la pa ta) (hb : MsgAt H b lb pb tb) (l0 : a.proof.length ≤ 1000000000) (l1 : a.blk.proof.length ≤ 1000000000) (l2 : a.blk.txs.length ≤ 1000000000) :
    ACalls Tryz.prog 20 [.agg (a.cells la pa ta), .agg (b.cells lb pb tb)] H fun r H' => r = .b (decide (a = b)) ∧ H' = H := by
  refine ACalls.pure (Q := fun r => r = .b (decide (a = b))) ⟨_, Tryz.func20, rfl, rfl⟩ ?_
  refine ACalls_body Tryz.func20 rfl rfl ?_
  refine AW_seq ?_
  refine AW_reg [2, 3] fun K hK => ?_ -- region 0
  simp [init_eq, V.cells]
  obtain ⟨H1, e1, hp, hp2, hn, ho⟩ := H.boxed2 (a.cells la pa ta) (b.cells lb pb tb)
  rw [e1]
  refine hK _ _ ?_; clear hK K
  have ha1 := ha.same ho
  have hb1 := hb.same ho
  refine AW_seq ?_
  refine AW_regto [4] ⟨73, [(4, .b (decide (a = b)))]⟩ H1 (fun K hk => ?_) (AW_ret (end_ret rfl (pure_end hn ho rfl rfl))) -- region 1
  rw [← Msg.eq'] at hk
  by_cases h1 : a.kind = b.kind
  case neg => simpa [init_eq, afieldAddr, aload, hp, hp2, h1] using hk
  by_cases h2 : a.signer = b.signer
  case neg => simpa [init_eq, afieldAddr, aload, hp, hp2, h1, h2] using hk
  by_cases h3 : a.view = b.view
  case neg => simpa [init_eq, afieldAddr, aload, hp, hp2, h1, h2, h3] using hk
  by_cases h4 : a.n = b.n
  case neg => simpa [init_eq, afieldAddr, aload, hp, hp2, h1, h2, h3, h4] using hk
  by_cases h5 : a.set = b.set
  case neg => simpa [init_eq, afieldAddr, aload, hp, hp2, h1, h2, h3, h4, h5] using hk
  by_cases h6 : a.cert = b.cert
  case neg => simpa [init_eq, afieldAddr, aload, hp, hp2, h1, h2, h3, h4, h5, h6, Msg.cert_cells] using hk
  by_cases h7 : a.tmo = b.tmo
  case neg => simpa [init_eq, afieldAddr, aload, hp, hp2, h1, h2, h3, h4, h5, h6, h7, Msg.cert_cells, Msg.tmo_cells] using hk
  simp [init_eq, afieldAddr, aload, hp, hp2, h1, h2, h3, h4, h5, h6, h7, Msg.cert_cells, Msg.tmo_cells]
  refine ACalls.mono (eqTmo_ok H1 ha1.pf hb1.pf l0) fun r H' ⟨hr, e⟩ => ?_
  subst hr e
  by_cases h8 : a.proof = b.proof
  case neg => simpa [h1, h2, h3, h4, h5, h6, h7, h8] using hk
  simp [afieldAddr, aload, hp, hp2, h8, Msg.blk_cells]
  refine ACalls.mono (sameBlk_ok H' ha1.bk hb1.bk l1 l2) fun r H' ⟨hr, e⟩ => ?_
  subst hr e
  by_cases h9 : a.blk = b.blk
  case neg => simpa [h1, h2, h3, h4, h5, h6, h7, h8, h9] using hk
  simpa [afieldAddr, aload, hp, hp2, h1, h2, h3, h4, h5, h6, h7, h8, h9, Msg.tx_cells] using hk
theorem rtimes_ok (H : AH) {v w : V} {xs ys : List Tmo} (hx : RS H v 10 (xs.map Tmo.cells)) (hy : RS H w 10 (ys.map Tmo.cells)) (hlen : xs.length ≤ 1000000000) :
    ACalls Tryz.prog 68 [v, w] H fun r H' => r = .b (decide (xs = ys)) ∧ H' = H := by
  have lx := hx.alen (P := Tryz.prog) qelem_27 H
  have ly := hy.alen (P := Tryz.prog) qelem_27 H
  refine ACalls_body Tryz.func68 rfl rfl ?_
  refine AW_seq ?_
  refine AW_reg [0, 1] fun K hK => ?_ -- region 0
  simp [init_eq]
  refine hK _ _ ?_; clear hK K
  refine AW_seq ?_
  refine AW_seq ?_
  refine AW_reg [0, 1, 10] fun K hK => ?_ -- region 1
  simp [init_eq, lx, ly]
  refine hK _ _ ?_; clear hK K
  refine AW_cond' rfl rfl (fun hc => ?_) (fun hc => ?_)
  · have hl : xs.length ≠ ys.length := by simp at hc; omega
    refine AW_seq ?_
    refine AW_reg [4] fun K hK => ?_ -- region 2
    simp [init_eq]
    refine hK _ _ ?_; clear hK K
    refine AW_ret (end_ret rfl ?_)
    have : xs ≠ ys := fun e => hl (by rw [e])
    simp [this]
  · have hl : xs.length = ys.length := by simp at hc; omega
    refine AW_skip ?_
    refine AW_seq ?_
    refine AW_seq ?_
    refine AW_reg [0, 1, 5] fun K hK => ?_ -- region 3
    simp [init_eq]
    refine hK _ _ ?_; clear hK K
    refine AW_block ?_
    refine AW_loop0 (fun i : Nat => ⟨26, [(0, v), (1, w), (5, .i .i64 i)]⟩) (fun i => i ≤ xs.length ∧ xs.take i = ys.take i) (fun i => xs.length - i) 0 (by simp) (by simp) (by dsimp only; omega) fun hw i hM => ?_ -- loop
    refine AW_seq ?_
    refine AW_seq ?_
    refine AW_reg [0, 1, 5, 14] fun K hK => ?_ -- region 4
    simp [init_eq, lx]
    refine hK _ _ ?_; clear hK K
    refine AW_cond' rfl rfl (fun hc => ?_) (fun hc => ?_)
    · have hi : i < xs.length := by simpa using hc
      obtain ⟨ax, px, qx⟩ := hx.rec Tmo.len (by decide) (P := Tryz.prog) qelem_27 qsize_26 qagg_26 hi
      obtain ⟨ay, py, qy⟩ := hy.rec Tmo.len (by decide) (P := Tryz.prog) qelem_27 qsize_26 qagg_26 (hl ▸ hi)
      refine AW_skip ?_
      refine AW_seq ?_
      refine AW_block ?_
      refine AW_seq ?_
      refine AW_regd [0, 1, 5, 25] pl_68_6 pe_68_6 (by kernel_rfl) (by kernel_rfl) (by decide) fun K hK => ?_
      simp [init_eq, pl_68_6, px, py, qx, qy]
      refine hK _ _ ?_; clear hK K
      refine AW_cond' rfl rfl (fun hc => ?_) (fun hc => ?_)
      · have hn : xs[i] ≠ ys[i] := by simpa using hc
        refine AW_seq ?_
        refine AW_reg [4] fun K hK => ?_ -- region 7
        simp [init_eq]
        refine hK _ _ ?_; clear hK K
        refine AW_ret (end_ret rfl ?_)
        have : xs ≠ ys := fun e => hn (by simp [e])
        simp [this]
      · have hn : xs[i] = ys[i] := by simpa using hc
        refine AW_skip ?_
        refine AW_reg [0, 1, 5] fun K hK => ?_ -- region 5
        simp [init_eq, wrap_id (x := (i : Int) + 1) (by omega) (by omega)]
        refine hK _ _ ?_; clear hK K
        exact rend ⟨i + 1, by simp, ⟨by omega, take_succ_eq hi (hl ▸ hi) hM.2 hn⟩, by omega, .inl rfl⟩ -- round's end
    · have hi : i = xs.length := by
        have : ¬ i < xs.length := by simpa using hc
        omega
      subst hi
      refine AW_exit (then_exit (then_exit (block_here ?_)))
      refine AW_seq ?_
      refine AW_reg [4] fun K hK => ?_ -- region 8
      simp [init_eq]
      refine hK _ _ ?_; clear hK K
      refine AW_ret (end_ret rfl ?_)
      simp [take_all_eq hl hM.2]
set_option maxHeartbeats 4000000 in
theorem rsameMsg_ok (H : AH) {a b : Msg} {la pa ta lb pb tb : V} (ha : MsgAt H a la pa ta) (hb : MsgAt H b lb pb tb) (l0 : a.proof.length ≤ 1000000000) (l1 : a.blk.proof.length ≤ 1000000000) (l2 : a.blk.txs.length ≤ 1000000000) :
    ACalls Tryz.prog 35 [.agg (a.cells la pa ta), .agg (b.cells lb pb tb)] H fun r H' => r = .b (decide (a = b)) ∧ H' = H := by
  refine ACalls.pure (Q := fun r => r = .b (decide (a = b))) ⟨_, Tryz.func35, rfl, rfl⟩ ?_
  refine ACalls_body Tryz.func35 rfl rfl ?_
  refine AW_seq ?_
  refine AW_reg [2, 3] fun K hK => ?_ -- region 0
  simp [init_eq, V.cells]
  obtain ⟨H1, e1, hp, hp2, hn, ho⟩ := H.boxed2 (a.cells la pa ta) (b.cells lb pb tb)
  rw [e1]
  refine hK _ _ ?_; clear hK K
  have ha1 := ha.same ho
  have hb1 := hb.same ho
  let q : Bool := decide (a.kind = b.kind) && decide (a.signer = b.signer) && decide (a.view = b.view) && decide (a.n = b.n) && decide (a.set = b.set) && decide (a.cert = b.cert) && decide (a.tmo = b.tmo) && decide (a.tx = b.tx) && decide (a.blk = b.blk)
  refine AW_seq ?_
  refine AW_seq ?_
  refine AW_regto [2, 3, 66] ⟨72, [(2, .p (some (H.next, 0, 0))), (3, .p (some (H.next + 1, 0, 0))), (66, .b (!q))]⟩ H1 (fun K hk => ?_) ?_ -- region 1
  · by_cases h1 : a.kind = b.kind
    case neg => simpa [q, init_eq, afieldAddr, aload, hp, hp2, h1] using hk
    by_cases h2 : a.signer = b.signer
    case neg => simpa [q, init_eq, afieldAddr, aload, hp, hp2, h1, h2] using hk
    by_cases h3 : a.view = b.view
    case neg => simpa [q, init_eq, afieldAddr, aload, hp, hp2, h1, h2, h3] using hk
    by_cases h4 : a.n = b.n
    case neg => simpa [q, init_eq, afieldAddr, aload, hp, hp2, h1, h2, h3, h4] using hk
    by_cases h5 : a.set = b.set
    case neg => simpa [q, init_eq, afieldAddr, aload, hp, hp2, h1, h2, h3, h4, h5] using hk
    by_cases h6 : a.cert = b.cert
    case neg => simpa [q, init_eq, afieldAddr, aload, hp, hp2, h1, h2, h3, h4, h5, h6, Msg.cert_cells] using hk
    by_cases h7 : a.tmo = b.tmo
    case neg => simpa [q, init_eq, afieldAddr, aload, hp, hp2, h1, h2, h3, h4, h5, h6, h7, Msg.cert_cells, Msg.tmo_cells] using hk
    by_cases h8 : a.tx = b.tx
    case neg => simpa [q, init_eq, afieldAddr, aload, hp, hp2, h1, h2, h3, h4, h5, h6, h7, h8, Msg.cert_cells, Msg.tmo_cells, Msg.tx_cells] using hk
    simp [init_eq, afieldAddr, aload, hp, hp2, h1, h2, h3, h4, h5, h6, h7, h8, Msg.cert_cells, Msg.tmo_cells, Msg.tx_cells, Msg.blk_cells]
    refine ACalls.mono (rsameBlk_ok H1 ha1.bk hb1.bk l1 l2) fun r H' ⟨hr, e⟩ => ?_
    subst hr e
    by_cases h9 : a.blk = b.blk
    · simpa [q, h1, h2, h3, h4, h5, h6, h7, h8, h9] using hk
    · simpa [q, h1, h2, h3, h4, h5, h6, h7, h8, h9] using hk
  have hq : (q && decide (a.proof = b.proof)) = decide (a = b) := by
    rw [← Msg.eq']
    simp only [q, Bool.and_assoc]
    rw [Bool.eq_iff_iff]
    simp only [Bool.and_eq_true, decide_eq_true_eq]
    constructor <;> (intro h; simp [h])
  refine AW_cond' rfl rfl (fun hc => ?_) (fun hc => ?_)
  · have hqf : q = false := by simpa using hc
    refine AW_seq ?_
    refine AW_reg [4] fun K hK => ?_ -- region 2
    simp [init_eq]
    refine hK _ _ ?_; clear hK K
    refine AW_ret (end_ret rfl (pure_end hn ho ?_ rfl))
    rw [← hq, hqf]; rfl
  · have hqt : q = true := by simpa using hc
    refine AW_skip ?_
    refine AW_seq ?_
    refine AW_reg [4] fun K hK => ?_ -- region 3
    simp [init_eq, afieldAddr, aload, hp, hp2]
    refine ACalls.mono (rtimes_ok H1 ha1.pf hb1.pf l0) fun r H' ⟨hr, e⟩ => ?_ -- hallmoot/hallmootref14.Times
    subst hr e
    try simp
    refine hK _ _ ?_; clear hK K
    refine AW_ret (end_ret rfl (pure_end hn ho ?_ rfl))
    rw [← hq, hqt]; simp
theorem greatMsg_ok (H : AH) {m : Msg} {lv pv tv : V} (hm : MsgAt H m lv pv tv) : ACalls Tryz.prog 5 [.agg (m.cells lv pv tv)] H fun r H' => r = .b m.great ∧ H' = H := by
  refine ACalls.pure (Q := fun r => r = .b m.great) ⟨_, Tryz.func5, rfl, rfl⟩ ?_
  refine ACalls_body Tryz.func5 rfl rfl ?_
  refine AW_seq ?_
  refine AW_reg [1] fun K hK => ?_ -- region 0
  simp [init_eq, V.cells]
  obtain ⟨H1, e1, hp, hn, ho⟩ := H.boxed (m.cells lv pv tv)
  rw [e1]
  refine hK _ _ ?_; clear hK K
  have hm1 := hm.same ho
  have ll := hm1.pf.alen (P := Tryz.prog) qelem_27 H1
  refine AW_seq ?_
  refine AW_regto [2] ⟨17, [(2, .b m.great)]⟩ H1 (fun K hk => ?_) (AW_ret (end_ret rfl (pure_end hn ho rfl rfl))) -- region 1
  by_cases h1 : 40 < m.proof.length
  · have h1' : (40 : Int) < m.proof.length := by omega
    simpa [init_eq, afieldAddr, aload, hp, ll, h1, h1', Msg.great] using hk
  have h1' : ¬ (40 : Int) < m.proof.length := by omega
  simp [init_eq, afieldAddr, aload, hp, ll, h1, h1', Msg.blk_cells]
  refine ACalls.mono (greatBlk_ok H1 hm1.bk) fun r H' ⟨hr, e⟩ => ?_ -- hallmoot/hallmootref12.Great
  subst hr e
  cases h2 : m.blk.great
  · simp [afieldAddr, aload, hp, Msg.tx_cells]
    refine ACalls.mono (greatTx_ok ..) fun r H' ⟨hr, e⟩ => ?_ -- hallmoot/hallmootref08.Great
    subst hr e
    simpa [Msg.great, h1, h2] using hk
  · simpa [Msg.great, h1, h2] using hk
theorem great_small {m : Msg} (h : m.great = false) : m.proof.length ≤ 40 ∧ m.blk.small ∧ m.tx.small := by
  simp only [Msg.great, Bool.or_eq_false_iff, decide_eq_false_iff_not] at h
  exact ⟨by omega, Blk.small_of h.1.2, Tx.small_of h.2⟩
end Go.Proofs.YtfhbdbjgmcopjaaGreatDoor
