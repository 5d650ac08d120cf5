/-
  Registers: the first error of some checks; what no registers answer.
-/
import Derived.Test.YtmhaimdpfelkpaaGreatDoorCheck2
import Derived.Test.YtmhaimdpfelkpaaGreatDoorParse0
set_option linter.unusedVariables false
set_option linter.unusedSimpArgs false
namespace Go.Proofs.YtmhaimdpfelkpaaGreatDoor
open Go Go.Abs Go.Proofs
set_option maxRecDepth 100000
attribute [local irreducible] AEnd AW ACalls

theorem AW_condT {r : Fm} {P : Program} [Laid P] {Q : Exit → Env → AH → Prop} {ρ : Env} {H : AH} {c : Operand} {x y : Code} (hv : aev ρ c = .b true) (h : AW r P x Q ρ H) : AW r P (.cond c x y) Q ρ H := AW_cond' hv rfl (fun _ => h) (fun h => by cases h)
theorem AW_condF {r : Fm} {P : Program} [Laid P] {Q : Exit → Env → AH → Prop} {ρ : Env} {H : AH} {c : Operand} {x y : Code} (hv : aev ρ c = .b false) (h : AW r P y Q ρ H) : AW r P (.cond c x y) Q ρ H := AW_cond' hv rfl (fun h => by cases h) (fun _ => h)
/-- The first that isn't 0. -/
def firstOf : List Int → Int
  | [] => 0
  | e :: l => if e = 0 then firstOf l else e
theorem firstOf_zero : ∀ {l : List Int}, (∀ e ∈ l, e = 0) → firstOf l = 0
  | [], _ => rfl
  | e :: l, h => by rw [firstOf, if_pos (h e (by simp)), firstOf_zero fun e he => h e (by simp [he])]
theorem firstOf_at : ∀ {l : List Int} {i : Nat} (hi : i < l.length), (∀ j, (hj : j < i) → l[j] = 0) → l[i] ≠ 0 → firstOf l = l[i]
  | [], i, hi, _, _ => by simp at hi
  | e :: l, 0, hi, _, h => by simp only [List.getElem_cons_zero] at h ⊢; rw [firstOf, if_neg h]
  | e :: l, i + 1, hi, hz, h => by
    have h0 : e = 0 := hz 0 (by omega)
    have := firstOf_at (l := l) (i := i) (by simpa using hi) (fun j hj => hz (j + 1) (by omega)) h
    rw [firstOf, if_pos h0, this]
    rfl
/-- A check: a closure, what it carries, what it answers. -/
abbrev Chk := FuncId × List V × Int
def Chk.fn (c : Chk) : V := .fn (.func c.1) [] c.2.1
theorem chk_at {cs : List Chk} {i : Nat} (hi : i < cs.length) : (cs.map fun c => [c.fn])[i]? = some [cs[i].fn] := by simp [hi]
theorem first_ok (H : AH) {v : V} {cs : List Chk} (hb : cs.length ≤ 1000) (hv : RS H v 1 (cs.map fun c => [c.fn]))
    (hk : ∀ i (hi : i < cs.length), (∀ j (hj : j < i), (cs[j]'(by omega)).2.2 = 0) → ACalls Tryz.prog cs[i].1 cs[i].2.1 H fun r H' => r = .i .i64 cs[i].2.2 ∧ H' = H) :
    ACalls Tryz.prog 53 [v] H fun r H' => r = .i .i64 (firstOf (cs.map fun c => c.2.2)) ∧ H' = H := by
  have lx := hv.len (P := Tryz.prog) (t := 161) (e := 114) (H' := H) qelem_161
  rw [List.length_map] at lx
  refine ACalls.pure (Q := fun r => r = .i .i64 (firstOf (cs.map fun c => c.2.2))) ⟨_, Tryz.func53, rfl, rfl⟩ ?_
  refine ACalls_body Tryz.func53 rfl rfl ?_
  refine AW_seq ?_
  refine AW_reg [0] fun K hK => ?_ -- region 0
  simp [init_eq]
  refine hK _ _ ?_; clear hK K
  refine AW_seq ?_
  refine AW_seq ?_
  refine AW_reg [6, 7, 8] fun K hK => ?_ -- region 1
  simp [init_eq, lx]
  refine hK _ _ ?_; clear hK K
  refine AW_block ?_
  refine AW_loop0 (fun i : Nat => ⟨18, [(6, v), (7, .i .i64 cs.length), (8, .i .i64 i)]⟩) (fun i => i ≤ cs.length ∧ ∀ j (hj : j < cs.length), j < i → cs[j].2.2 = 0) (fun i => cs.length - i) 0 (by simp) (by simp) (by dsimp only; omega) fun hw i hM => ?_ -- loop
  refine AW_seq ?_
  refine AW_reg [6, 7, 8, 9] fun K hK => ?_ -- region 2
  simp [init_eq]
  refine hK _ _ ?_; clear hK K
  refine AW_seq ?_
  refine AW_cond' rfl rfl (fun hc => ?_) (fun hc => ?_)
  · have hi : i < cs.length := by simpa using hc
    obtain ⟨ax, px, qx⟩ := hv.at1 (P := Tryz.prog) (t := 161) (e := 114) qelem_161 qsize_114 qagg_114 (k := .i64) i (chk_at hi)
    refine AW_skip ?_
    refine AW_seq ?_
    refine AW_block ?_
    refine AW_seq ?_
    refine AW_reg [4, 6, 7, 8] fun K hK => ?_ -- region 3
    simp [init_eq, px, qx]
    refine hK _ _ ?_; clear hK K
    refine AW_seq ?_
    refine AW_reg [5, 6, 7, 8] fun K hK => ?_ -- region 4
    simp [init_eq, Chk.fn, AOp_callv (f := cs[i].1) (first := []) (caps := cs[i].2.1)]
    refine ACalls.mono (hk i hi fun j hj => hM.2 j (by omega) hj) fun r H' ⟨hr, e⟩ => ?_
    subst hr e
    try simp
    refine hK _ _ ?_; clear hK K
    refine AW_seq ?_
    refine AW_reg [5, 6, 7, 8, 15] fun K hK => ?_ -- region 5
    simp [init_eq]
    refine hK _ _ ?_; clear hK K
    refine AW_cond' rfl rfl (fun hc => ?_) (fun hc => ?_)
    · have hg : ¬ cs[i].2.2 = 0 := by simpa using hc
      refine AW_seq ?_
      refine AW_reg [2] fun K hK => ?_ -- region 6
      simp [init_eq]
      refine hK _ _ ?_; clear hK K
      refine AW_ret (end_ret rfl (same_end ?_ rfl))
      have := firstOf_at (l := cs.map fun c => c.2.2) (i := i) (by simpa using hi) (fun j hj => by simpa using hM.2 j (by omega) hj) (by simpa using hg)
      simp [this]
    · have hg : cs[i].2.2 = 0 := by simpa using hc
      refine AW_skip ?_
      refine AW_reg [6, 7, 8] fun K hK => ?_ -- region 7
      simp [init_eq, wrap_id (x := (i : Int) + 1) (by omega) (by omega)]
      refine hK _ _ ?_; clear hK K
      exact rend ⟨i + 1, by simp, ⟨by omega, fun j hj hj' => (Nat.lt_or_eq_of_le (Nat.le_of_lt_succ hj')).elim (fun h => hM.2 j hj h) (fun h => by subst h; exact hg)⟩, by omega, .inl rfl⟩
  · have hi : i = cs.length := by have : ¬ i < cs.length := by simpa using hc
                                  omega
    refine AW_exit (then_exit (then_exit (block_here ?_)))
    refine AW_seq ?_
    refine AW_reg [2] fun K hK => ?_ -- region 8
    simp [init_eq]
    refine hK _ _ ?_; clear hK K
    refine AW_ret (end_ret rfl (same_end ?_ rfl))
    have := firstOf_zero (l := cs.map fun c => c.2.2) fun e he => by
      obtain ⟨c, hc, rfl⟩ := List.mem_map.1 he
      obtain ⟨j, hj, rfl⟩ := List.mem_iff_getElem.1 hc
      exact hM.2 j hj (by omega)
    simp [this]

/-! No registers. -/
abbrev noSl : V := .sl none 0 false
def noLaw : List V := [.p none, .p none, .p none]
theorem bookContent_nil (H : AH) (n : Int) : ACalls Tryz.prog 78 [.p none, .i .i64 n] H fun r H' => r = .tup [.s [], .i .i64 3] ∧ H' = H := by
  refine ACalls.pure (Q := fun r => r = .tup [.s [], .i .i64 3]) ⟨_, Tryz.func78, rfl, rfl⟩ ?_
  refine ACalls_body Tryz.func78 rfl rfl ?_
  refine AW_seq ?_
  refine AW_reg [0, 1] fun K hK => ?_ -- region 0
  simp [init_eq]
  refine hK _ _ ?_; clear hK K
  refine AW_seq ?_
  refine AW_block ?_
  refine AW_seq ?_
  refine AW_reg [0, 1, 6] fun K hK => ?_ -- region 1
  simp [init_eq]
  refine hK _ _ ?_; clear hK K
  refine AW_condT rfl ?_
  refine AW_seq ?_
  refine AW_reg [4, 5] fun K hK => ?_ -- region 2
  simp [init_eq]
  refine hK _ _ ?_; clear hK K
  exact AW_ret (end_ret rfl (same_end rfl rfl))
theorem look_nil (H : AH) (l : List UInt8) : ACalls Tryz.prog 51 [.p none, .s l] H fun r H' => r = .tup [.i .i64 0, .i .i64 3] ∧ H' = H := by
  refine ACalls.pure (Q := fun r => r = .tup [.i .i64 0, .i .i64 3]) ⟨_, Tryz.func51, rfl, rfl⟩ ?_
  refine ACalls_body Tryz.func51 rfl rfl ?_
  refine AW_seq ?_
  refine AW_reg [0, 1] fun K hK => ?_ -- region 0
  simp [init_eq]
  refine hK _ _ ?_; clear hK K
  refine AW_seq ?_
  refine AW_seq ?_
  refine AW_reg [0, 1, 9] fun K hK => ?_ -- region 1
  simp [init_eq]
  refine hK _ _ ?_; clear hK K
  refine AW_condT rfl ?_
  refine AW_seq ?_
  refine AW_reg [4, 5] fun K hK => ?_ -- region 2
  simp [init_eq]
  refine hK _ _ ?_; clear hK K
  exact AW_ret (end_ret rfl (same_end rfl rfl))
theorem replica_nil (H : AH) (k : Int) : ACalls Tryz.prog 73 [.p none, .i .i64 k] H fun r H' => r = .i .i64 3 ∧ H' = H := by
  refine ACalls.pure (Q := fun r => r = .i .i64 3) ⟨_, Tryz.func73, rfl, rfl⟩ ?_
  refine ACalls_body Tryz.func73 rfl rfl ?_
  refine AW_seq ?_
  refine AW_reg [0, 1] fun K hK => ?_ -- region 0
  simp [init_eq]
  refine hK _ _ ?_; clear hK K
  refine AW_seq ?_
  refine AW_block ?_
  refine AW_seq ?_
  refine AW_reg [0, 1, 5] fun K hK => ?_ -- region 1
  simp [init_eq]
  refine hK _ _ ?_; clear hK K
  refine AW_condT rfl ?_
  refine AW_seq ?_
  refine AW_reg [4] fun K hK => ?_ -- region 2
  simp [init_eq]
  refine hK _ _ ?_; clear hK K
  exact AW_ret (end_ret rfl (same_end rfl rfl))
theorem counts_nil (H : AH) (k : Int) (l : List V) : ACalls Tryz.prog 22 [.p none, .agg (.i .i64 k :: l)] H fun r H' => r = .i .i64 3 ∧ H' = H := by
  refine ACalls.pure (Q := fun r => r = .i .i64 3) ⟨_, Tryz.func22, rfl, rfl⟩ ?_
  refine ACalls_body Tryz.func22 rfl rfl ?_
  refine AW_seq ?_
  refine AW_reg [0, 3] fun K hK => ?_ -- region 0
  simp [init_eq, V.cells]
  obtain ⟨H1, e1, hp, hn, ho⟩ := H.boxed (.i .i64 k :: l)
  rw [e1]
  refine hK _ _ ?_; clear hK K
  refine AW_seq ?_
  refine AW_reg [0, 3, 5] fun K hK => ?_ -- region 1
  simp [init_eq, afieldAddr, aload, hp]
  refine ACalls.mono (replica_nil H1 k) fun r H' ⟨hr, e⟩ => ?_ -- (*hallmoot/sign.Sign).replica
  subst hr e
  try simp
  refine hK _ _ ?_; clear hK K
  refine AW_seq ?_
  refine AW_seq ?_
  refine AW_regd [0, 3, 5, 22] pl_22_2 pe_22_2 (by kernel_rfl) (by kernel_rfl) (by decide) fun K hK => ?_
  simp [init_eq, pl_22_2]
  refine hK _ _ ?_; clear hK K
  refine AW_condT rfl ?_
  refine AW_seq ?_
  refine AW_reg [4] fun K hK => ?_ -- region 3
  simp [init_eq]
  refine hK _ _ ?_; clear hK K
  exact AW_ret (end_ret rfl (pure_end hn ho rfl rfl))
theorem lawContent_nil (H : AH) (n : Int) : ACalls Tryz.prog 24 [.agg noLaw, .i .i64 n] H fun r H' => r = .tup [.agg (Blk.zero.cells noSl noSl), .i .i64 3] ∧ H' = H := by
  have hab : abuild Tryz.prog 33 [] = some (.agg (Blk.zero.cells noSl noSl)) := by simp [abuild, afill]; rfl
  refine ACalls.pure (Q := fun r => r = .tup [.agg (Blk.zero.cells noSl noSl), .i .i64 3]) ⟨_, Tryz.func24, rfl, rfl⟩ ?_
  refine ACalls_body Tryz.func24 rfl rfl ?_
  refine AW_seq ?_
  refine AW_reg [1, 2, 4] fun K hK => ?_ -- region 0
  simp [init_eq, V.cells]
  refine hK _ _ ?_; clear hK K
  obtain ⟨H1, e1, hp, hp2, hn, ho⟩ := H.boxed2 noLaw (Blk.zero.cells noSl noSl)
  show AThen _ _ _ _ ((H.new (O.cells noLaw 0 false 0)).new (O.cells (Blk.zero.cells noSl noSl) 0 false 0))
  rw [e1]
  refine AW_seq ?_
  refine AW_reg [4, 6, 7] fun K hK => ?_ -- region 1
  simp [init_eq, afieldAddr, aload, hp, noLaw]
  refine ACalls.mono (bookContent_nil H1 n) fun r H' ⟨hr, e⟩ => ?_ -- (*hallmoot/book.Book).Content
  subst hr e
  try simp
  refine hK _ _ ?_; clear hK K
  refine AW_seq ?_
  refine AW_seq ?_
  refine AW_reg [4, 6, 7, 17] fun K hK => ?_ -- region 2
  simp [init_eq]
  refine hK _ _ ?_; clear hK K
  refine AW_condT rfl ?_
  refine AW_seq ?_
  refine AW_reg [4, 5] fun K hK => ?_ -- region 3
  simp [init_eq, hab, astore, hp2, V.cells]
  refine hK _ _ ?_; clear hK K
  have hlt : H.next + 1 < H'.next := by omega
  refine AW_ret (end_ret (ares_cell_tmp (v := .agg (Blk.zero.cells noSl noSl)) ?_) ⟨rfl, rfl, by simp; omega, fun j hj => by rw [AH.get_set_ne (by omega)]; exact ho j hj⟩)
  simp [aload, AH.get_set, hlt]
  rw [splice_all (c := Blk.zero.cells noSl noSl) (l := Blk.zero.cells noSl noSl) rfl]; simp [blk_take]
theorem number_nil (H : AH) {b : Blk} {pv tv : V} (hb : BlkAt H b pv tv) (hs : b.small) : ACalls Tryz.prog 12 [.agg noLaw, .agg (b.cells pv tv)] H fun r H' => r = .tup [.i .i64 0, .i .i64 (if b.err = 0 then 3 else b.err)] ∧ H' = H := by
  refine ACalls.pure (Q := fun r => r = .tup [.i .i64 0, .i .i64 (if b.err = 0 then 3 else b.err)]) ⟨_, Tryz.func12, rfl, rfl⟩ ?_
  refine ACalls_body Tryz.func12 rfl rfl ?_
  refine AW_seq ?_
  refine AW_reg [2, 3] fun K hK => ?_ -- region 0
  simp [init_eq, V.cells]
  obtain ⟨H1, e1, hp, hp2, hn, ho⟩ := H.boxed2 noLaw (b.cells pv tv)
  rw [e1]
  refine hK _ _ ?_; clear hK K
  have hb1 := hb.same ho
  refine AW_seq ?_
  refine AW_reg [2, 6, 7] fun K hK => ?_ -- region 1
  simp [init_eq, aload, hp2, blk_take]
  refine ACalls.mono (bbytes_ok H1 hb1 hs) fun r H' hr => ?_ -- hallmoot/block.Bytes
  rcases hr with ⟨h0, rfl, u⟩ | ⟨h0, w, rfl, F, ow, u, hF⟩
  · try simp
    refine hK _ _ ?_; clear hK K
    refine AW_seq ?_
    refine AW_seq ?_
    refine AW_reg [2, 6, 7, 14] fun K hK => ?_ -- region 2
    simp [init_eq, h0]
    refine hK _ _ ?_; clear hK K
    refine AW_condT rfl ?_
    refine AW_seq ?_
    refine AW_reg [4, 5] fun K hK => ?_ -- region 3
    simp [init_eq]
    refine hK _ _ ?_; clear hK K
    refine AW_ret (end_ret rfl ⟨by simp [h0], rfl, by have := u.1; omega, fun j hj => by rw [u.2 j (by omega) (by simp), ho j hj]⟩)
  · try simp
    refine hK _ _ ?_; clear hK K
    refine AW_seq ?_
    refine AW_seq ?_
    refine AW_reg [2, 6, 7, 14] fun K hK => ?_ -- region 2
    simp [init_eq]
    refine hK _ _ ?_; clear hK K
    refine AW_condF rfl ?_
    refine AW_skip ?_
    have hcv : aconvert Tryz.prog H' 108 9 w = some (.s b.bytes, H') := conv_text qbs_108 qstr_9 ow.sl
    have hp' := u.keep (by simp) hp
    refine AW_seq ?_
    refine AW_reg [4, 5] fun K hK => ?_ -- region 4
    simp [init_eq, afieldAddr, aload, hp', noLaw, hcv]
    refine ACalls.mono (look_nil H' _) fun r H2 ⟨hr, e⟩ => ?_ -- (*hallmoot/book.Book).Look
    subst hr e
    try simp
    refine hK _ _ ?_; clear hK K
    refine AW_ret (end_ret rfl ⟨by simp [h0], rfl, by have := u.1; omega, fun j hj => by rw [u.2 j (by omega) (by simp), ho j hj]⟩)
end Go.Proofs.YtmhaimdpfelkpaaGreatDoor
