/-
  Blocks: which are more than is looked at, which are the same.
-/
import Derived.Test.YtmhaimdpfelkpaaGreatDoorBlock2
set_option linter.unusedVariables false
set_option linter.unusedSimpArgs false
namespace Go.Proofs.YtmhaimdpfelkpaaGreatDoor
open Go Go.Abs Go.Proofs
set_option maxRecDepth 100000
attribute [local irreducible] AEnd AW ACalls

/-- A block. -/
structure Blk where
  view : Int
  round : Int
  height : Int
  author : Int
  parent : Cert
  proof : List Tmo
  txs : List Tx
  deriving DecidableEq
/-- Its cells, where its lists lie at pv and tv. -/
def Blk.cells (b : Blk) (pv tv : V) : List V := .i .i64 b.view :: .i .i64 b.round :: .i .i64 b.height :: .i .i64 b.author :: (b.parent.cells ++ [pv, tv])
/-- Its lists lie there. -/
structure BlkAt (H : AH) (b : Blk) (pv tv : V) : Prop where
  pf : RS H pv 10 (b.proof.map Tmo.cells)
  tx : RS H tv 7 (b.txs.map Tx.cells)
section
variable (b : Blk) (pv tv : V)
@[simp] theorem Blk.len : (b.cells pv tv).length = 14 := rfl
@[simp] theorem Blk.c0 : (b.cells pv tv)[0]? = some (.i .i64 b.view) := rfl
@[simp] theorem Blk.c1 : (b.cells pv tv)[1]? = some (.i .i64 b.round) := rfl
@[simp] theorem Blk.c2 : (b.cells pv tv)[2]? = some (.i .i64 b.height) := rfl
@[simp] theorem Blk.c3 : (b.cells pv tv)[3]? = some (.i .i64 b.author) := rfl
@[simp] theorem Blk.c12 : (b.cells pv tv)[12]? = some pv := rfl
@[simp] theorem Blk.c13 : (b.cells pv tv)[13]? = some tv := rfl
theorem Blk.parent_cells : ((b.cells pv tv).drop 4).take 8 = b.parent.cells := rfl
theorem blk_take : (b.cells pv tv).take 14 = b.cells pv tv := rfl
end
theorem BlkAt.same {H H' : AH} {b : Blk} {pv tv : V} (h : BlkAt H b pv tv) (hx : ∀ j, j < H.next → H'.get j = H.get j) : BlkAt H' b pv tv := ⟨h.pf.same hx, h.tx.same hx⟩
/-- Is it more than is looked at? -/
def Blk.great (b : Blk) : Bool := decide (40 < b.proof.length) || decide (40 < b.txs.length) || b.txs.any Tx.great
theorem any_take {α : Type} {p : α → Bool} {xs : List α} {i : Nat} (hi : i < xs.length) (h : (xs.take i).any p = false) (he : p xs[i] = false) : (xs.take (i + 1)).any p = false := by
  rw [List.take_succ_eq_append_getElem hi, List.any_append, h]; simp [he]
theorem any_at {α : Type} {p : α → Bool} {xs : List α} {i : Nat} (hi : i < xs.length) (he : p xs[i] = true) : xs.any p = true :=
  List.any_eq_true.2 ⟨xs[i], List.getElem_mem hi, he⟩
theorem greatBlk_ok (H : AH) {b : Blk} {pv tv : V} (hb : BlkAt H b pv tv) : ACalls Tryz.prog 10 [.agg (b.cells pv tv)] H fun r H' => r = .b b.great ∧ H' = H := by
  refine ACalls.pure (Q := fun r => r = .b b.great) ⟨_, Tryz.func10, rfl, rfl⟩ ?_
  refine ACalls_body Tryz.func10 rfl rfl ?_
  refine AW_seq ?_
  refine AW_reg [1] fun K hK => ?_ -- region 0
  simp [init_eq, V.cells]
  obtain ⟨H1, e1, hp, hn, ho⟩ := H.boxed (b.cells pv tv)
  rw [e1]
  refine hK _ _ ?_; clear hK K
  have hb1 := hb.same ho
  have lp := hb1.pf.alen (P := Tryz.prog) qelem_30 H1
  have lt := hb1.tx.alen (P := Tryz.prog) qelem_31 H1
  have c : ∀ n : Nat, (40 < (n : Int)) = (40 < n) := fun n => propext (by omega)
  refine AW_seq ?_
  refine AW_seq ?_
  refine AW_regto [1, 13] ⟨27, [(1, .p (some (H.next, 0, 0))), (13, .b (decide (40 < b.proof.length) || decide (40 < b.txs.length)))]⟩ H1 (fun K hk => ?_) ?_ -- region 1
  · by_cases h1 : 40 < b.proof.length
    · simpa [init_eq, afieldAddr, aload, hp, lp, lt, c, h1] using hk
    · simpa [init_eq, afieldAddr, aload, hp, lp, lt, c, h1] using hk
  refine AW_cond' rfl rfl (fun hc => ?_) (fun hc => ?_)
  · refine AW_seq ?_
    refine AW_reg [2] fun K hK => ?_ -- region 2
    simp [init_eq]
    refine hK _ _ ?_; clear hK K
    refine AW_ret (end_ret rfl (pure_end hn ho ?_ rfl))
    simp [Blk.great, hc]
  · have hg0 : (decide (40 < b.proof.length) || decide (40 < b.txs.length)) = false := hc
    have hlt : b.txs.length ≤ 40 := by simp at hc; omega
    refine AW_skip ?_
    refine AW_seq ?_
    refine AW_seq ?_
    refine AW_reg [1, 3] fun K hK => ?_ -- region 3
    simp [init_eq]
    refine hK _ _ ?_; clear hK K
    refine AW_block ?_
    refine AW_loop0 (fun i : Nat => ⟨27, [(1, .p (some (H.next, 0, 0))), (3, .i .i64 i)]⟩) (fun i => i ≤ b.txs.length ∧ (b.txs.take i).any Tx.great = false) (fun i => b.txs.length - i) 0 (by simp) (by simp) (by dsimp only; omega) fun hw i hM => ?_ -- loop
    refine AW_seq ?_
    refine AW_seq ?_
    refine AW_reg [1, 3, 18] fun K hK => ?_ -- region 4
    simp [init_eq, afieldAddr, aload, hp, lt]
    refine hK _ _ ?_; clear hK K
    refine AW_cond' rfl rfl (fun hc => ?_) (fun hc => ?_)
    · have hi : i < b.txs.length := by simpa using hc
      obtain ⟨ax, px, qx⟩ := hb1.tx.rec Tx.len (by decide) (P := Tryz.prog) qelem_31 qsize_91 qagg_91 hi
      have hp' : aload Tryz.prog H1 31 (.p (some (H.next, 0, 13))) = some tv := by simp [aload, hp]
      refine AW_skip ?_
      refine AW_seq ?_
      refine AW_block ?_
      refine AW_seq ?_
      refine AW_reg [1, 3, 26] fun K hK => ?_ -- region 6
      simp [init_eq, afieldAddr, hp', px, qx]
      refine ACalls.mono (greatTx_ok ..) fun r H' ⟨hr, e⟩ => ?_ -- hallmoot/hallmootref08.Great
      subst hr e
      try simp
      refine hK _ _ ?_; clear hK K
      refine AW_cond' rfl rfl (fun hc => ?_) (fun hc => ?_)
      · have hg : b.txs[i].great = true := by simpa using hc
        refine AW_seq ?_
        refine AW_reg [2] fun K hK => ?_ -- region 7
        simp [init_eq]
        refine hK _ _ ?_; clear hK K
        refine AW_ret (end_ret rfl (pure_end hn ho ?_ rfl))
        simp only [Blk.great, any_at hi hg, Bool.or_true]
        rfl
      · have hg : b.txs[i].great = false := by simpa using hc
        refine AW_skip ?_
        refine AW_reg [1, 3] fun K hK => ?_ -- region 5
        simp [init_eq, wrap_id (x := (i : Int) + 1) (by omega) (by omega)]
        refine hK _ _ ?_; clear hK K
        exact rend ⟨i + 1, by simp, ⟨by omega, any_take hi hM.2 hg⟩, by omega, .inl rfl⟩ -- round's end
    · have hi : i = b.txs.length := by
        have : ¬ i < b.txs.length := by simpa using hc
        omega
      subst hi
      refine AW_exit (then_exit (then_exit (block_here ?_)))
      refine AW_seq ?_
      refine AW_reg [2] fun K hK => ?_ -- region 8
      simp [init_eq]
      refine hK _ _ ?_; clear hK K
      refine AW_ret (end_ret rfl (pure_end hn ho ?_ rfl))
      have := hM.2
      rw [List.take_length] at this
      simp only [Blk.great, this, hg0, Bool.or_false]
      rfl
theorem Blk.eq' (a b : Blk) : (decide (a.view = b.view) && (decide (a.round = b.round) && (decide (a.height = b.height) && (decide (a.author = b.author) && (decide (a.parent = b.parent) && (decide (a.proof = b.proof) && decide (a.txs = b.txs))))))) = decide (a = b) := by
  by_cases h : a = b
  · subst h; simp
  · simp only [h, decide_false]
    cases a; cases b
    simp at h ⊢
    simpa using h
theorem rsameBlk_ok (H : AH) {a b : Blk} {pa ta pb tb : V} (ha : BlkAt H a pa ta) (hb : BlkAt H b pb tb) (l1 : a.proof.length ≤ 1000000000) (l2 : a.txs.length ≤ 1000000000) :
    ACalls Tryz.prog 36 [.agg (a.cells pa ta), .agg (b.cells pb tb)] H fun r H' => r = .b (decide (a = b)) ∧ H' = H := by
  refine ACalls.pure (Q := fun r => r = .b (decide (a = b))) ⟨_, Tryz.func36, rfl, rfl⟩ ?_
  refine ACalls_body Tryz.func36 rfl rfl ?_
  refine AW_seq ?_
  refine AW_reg [2, 3] fun K hK => ?_ -- region 0
  simp [init_eq, V.cells]
  obtain ⟨H1, e1, hp, hp2, hn, ho⟩ := H.boxed2 (a.cells pa ta) (b.cells pb tb)
  rw [e1]
  refine hK _ _ ?_; clear hK K
  have ha1 := ha.same ho
  have hb1 := hb.same ho
  have la := ha1.pf.alen (P := Tryz.prog) qelem_30 H1
  have lb := hb1.pf.alen (P := Tryz.prog) qelem_30 H1
  have ea : aload Tryz.prog H1 30 (.p (some (H.next, 0, 12))) = some pa := by simp [aload, hp]
  have eb : aload Tryz.prog H1 30 (.p (some (H.next + 1, 0, 12))) = some pb := by simp [aload, hp2]
  refine AW_seq ?_
  refine AW_seq ?_
  refine AW_regto [2, 3, 55] ⟨74, [(2, .p (some (H.next, 0, 0))), (3, .p (some (H.next + 1, 0, 0))), (55, .b (!(decide (a.view = b.view) && decide (a.round = b.round) && decide (a.height = b.height) && decide (a.author = b.author) && decide (a.parent = b.parent) && decide (a.proof.length = b.proof.length) && decide (a.txs = b.txs))))]⟩ H1 (fun K hk => ?_) ?_ -- region 1
  · by_cases h1 : a.view = b.view
    case neg => simpa [init_eq, afieldAddr, aload, hp, hp2, h1] using hk
    by_cases h2 : a.round = b.round
    case neg => simpa [init_eq, afieldAddr, aload, hp, hp2, h1, h2] using hk
    by_cases h3 : a.height = b.height
    case neg => simpa [init_eq, afieldAddr, aload, hp, hp2, h1, h2, h3] using hk
    by_cases h4 : a.author = b.author
    case neg => simpa [init_eq, afieldAddr, aload, hp, hp2, h1, h2, h3, h4] using hk
    by_cases h5 : a.parent = b.parent
    case neg => simpa [init_eq, afieldAddr, aload, hp, hp2, h1, h2, h3, h4, h5, Blk.parent_cells] using hk
    by_cases h6 : a.proof.length = b.proof.length
    case neg =>
      have h6' : ¬ (a.proof.length : Int) = b.proof.length := by omega
      simpa [init_eq, afieldAddr, aload, hp, hp2, h1, h2, h3, h4, h5, h6, h6', la, lb, Blk.parent_cells] using hk
    simp [init_eq, afieldAddr, aload, hp, hp2, h1, h2, h3, h4, h5, h6, la, lb, Blk.parent_cells]
    refine ACalls.mono (rsameTx_ok H1 ha1.tx hb1.tx l2) fun r H' ⟨hr, e⟩ => ?_
    subst hr e
    by_cases h7 : a.txs = b.txs
    · simpa [h1, h2, h3, h4, h5, h6, h7] using hk
    · simpa [h1, h2, h3, h4, h5, h6, h7] using hk
  refine AW_cond' rfl rfl (fun hc => ?_) (fun hc => ?_)
  · refine AW_seq ?_
    refine AW_reg [4] fun K hK => ?_ -- region 2
    simp [init_eq]
    refine hK _ _ ?_; clear hK K
    refine AW_ret (end_ret rfl (pure_end hn ho ?_ rfl))
    have : a ≠ b := fun e => by subst e; simp at hc
    simp [this]
  · have hall : a.view = b.view ∧ a.round = b.round ∧ a.height = b.height ∧ a.author = b.author ∧ a.parent = b.parent ∧ a.proof.length = b.proof.length ∧ a.txs = b.txs := by
      simp at hc
      exact ⟨hc.1.1.1.1.1.1, hc.1.1.1.1.1.2, hc.1.1.1.1.2, hc.1.1.1.2, hc.1.1.2, hc.1.2, hc.2⟩
    obtain ⟨g1, g2, g3, g4, g5, hl, g7⟩ := hall
    refine AW_skip ?_
    refine AW_seq ?_
    refine AW_seq ?_
    refine AW_reg [2, 3, 5] fun K hK => ?_ -- region 3
    simp [init_eq]
    refine hK _ _ ?_; clear hK K
    refine AW_block ?_
    refine AW_loop0 (fun i : Nat => ⟨74, [(2, .p (some (H.next, 0, 0))), (3, .p (some (H.next + 1, 0, 0))), (5, .i .i64 i)]⟩) (fun i => i ≤ a.proof.length ∧ a.proof.take i = b.proof.take i) (fun i => a.proof.length - i) 0 (by simp) (by simp) (by dsimp only; omega) fun hw i hM => ?_ -- loop
    refine AW_seq ?_
    refine AW_seq ?_
    refine AW_reg [2, 3, 5, 60] fun K hK => ?_ -- region 4
    simp [init_eq, afieldAddr, ea, la]
    refine hK _ _ ?_; clear hK K
    refine AW_cond' rfl rfl (fun hc => ?_) (fun hc => ?_)
    · have hi : i < a.proof.length := by simpa using hc
      obtain ⟨ax, px, qx⟩ := ha1.pf.rec Tmo.len (by decide) (P := Tryz.prog) qelem_30 qsize_69 qagg_69 hi
      obtain ⟨ay, py, qy⟩ := hb1.pf.rec Tmo.len (by decide) (P := Tryz.prog) qelem_30 qsize_69 qagg_69 (hl ▸ hi)
      refine AW_skip ?_
      refine AW_seq ?_
      refine AW_block ?_
      refine AW_seq ?_
      refine AW_regd [2, 3, 5, 73] pl_36_6 pe_36_6 (by kernel_rfl) (by kernel_rfl) (by decide) fun K hK => ?_
      simp [init_eq, pl_36_6, afieldAddr, ea, eb, px, py, qx, qy]
      refine hK _ _ ?_; clear hK K
      refine AW_cond' rfl rfl (fun hc => ?_) (fun hc => ?_)
      · have hne : a.proof[i] ≠ b.proof[i] := by simpa using hc
        refine AW_seq ?_
        refine AW_reg [4] fun K hK => ?_ -- region 7
        simp [init_eq]
        refine hK _ _ ?_; clear hK K
        refine AW_ret (end_ret rfl (pure_end hn ho ?_ rfl))
        have : a ≠ b := fun e => hne (by simp [e])
        simp [this]
      · have he : a.proof[i] = b.proof[i] := by simpa using hc
        refine AW_skip ?_
        refine AW_reg [2, 3, 5] fun K hK => ?_ -- region 5
        simp [init_eq, wrap_id (x := (i : Int) + 1) (by omega) (by omega)]
        refine hK _ _ ?_; clear hK K
        exact rend ⟨i + 1, by simp, ⟨by omega, take_succ_eq hi (hl ▸ hi) hM.2 he⟩, by omega, .inl rfl⟩ -- round's end
    · have hi : i = a.proof.length := by
        have : ¬ i < a.proof.length := by simpa using hc
        omega
      subst hi
      refine AW_exit (then_exit (then_exit (block_here ?_)))
      refine AW_seq ?_
      refine AW_reg [4] fun K hK => ?_ -- region 8
      simp [init_eq]
      refine hK _ _ ?_; clear hK K
      refine AW_ret (end_ret rfl (pure_end hn ho ?_ rfl))
      rw [← Blk.eq']
      simp [g1, g2, g3, g4, g5, g7, take_all_eq hl hM.2]
end Go.Proofs.YtmhaimdpfelkpaaGreatDoor
