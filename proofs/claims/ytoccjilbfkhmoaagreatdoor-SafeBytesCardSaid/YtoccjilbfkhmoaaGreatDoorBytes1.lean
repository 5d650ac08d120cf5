/-
  Bytes of certificates and of transactions that may be.
-/
import Derived.Test.YtoccjilbfkhmoaaGreatDoorWire1
set_option linter.unusedVariables false
set_option linter.unusedSimpArgs false
namespace Go.Proofs.YtoccjilbfkhmoaaGreatDoor
open Go Go.Abs Go.Proofs
set_option maxRecDepth 100000
attribute [local irreducible] AEnd AW ACalls

/-- The numbers of a certificate. -/
def Cert.nums (c : Cert) : List Nat :=
  [c.kind.toNat] ++ (if c.kind = 0 then [] else [c.block.toNat, c.view.toNat, c.round.toNat, c.signers.toNat]) ++ (if c.kind = 2 then [c.height.toNat, c.author.toNat, c.coin.toNat] else [])
/-- Its bytes. -/
def Cert.bytes (c : Cert) : List UInt8 := c.nums.flatMap numB
/-- What its numbers are. -/
structure Cert.Rng (c : Cert) : Prop where
  kind : c.kind = 0 ∨ c.kind = 1 ∨ c.kind = 2
  block : 0 ≤ c.block ∧ c.block ≤ 2147483647
  view : 0 ≤ c.view ∧ c.view ≤ 1048576
  round : 0 ≤ c.round ∧ c.round ≤ 1073741824
  height : 0 ≤ c.height ∧ c.height ≤ 3
  author : 0 ≤ c.author ∧ c.author ≤ 9
theorem Cert.rng {c : Cert} (h : c.ok = true) : c.Rng := by
  unfold Cert.ok at h
  split at h
  · rename_i hk
    have : c = Cert.zero := of_decide_eq_true h
    rw [this]
    exact ⟨.inl rfl, by decide, by decide, by decide, by decide, by decide⟩
  · split at h
    · rename_i hk
      simp [Cert.reg, Cert.base, inR] at h
      exact ⟨.inr (.inl hk), by omega, by omega, by omega, by omega, by omega⟩
    · split at h
      · rename_i hk
        simp [Cert.fall, Cert.base, inR] at h
        exact ⟨.inr (.inr hk), by omega, by omega, by omega, by omega, by omega⟩
      · cases h
theorem Cert.nums_le {c : Cert} (h : c.Rng) : ∀ n ∈ c.nums, n ≤ 4611686018427387904 := by
  have h1 := h.block; have h2 := h.view; have h3 := h.round; have h4 := h.height; have h5 := h.author
  have h6 := c.signers.isLt; have h7 := c.coin.isLt
  intro n hn
  unfold Cert.nums at hn
  rcases h.kind with hk | hk | hk <;> simp [hk] at hn <;> omega
theorem Cert.nums_len (c : Cert) : c.nums.length ≤ 8 := by
  unfold Cert.nums
  split <;> split <;> simp
theorem Cert.bytes_len {c : Cert} (h : c.Rng) : c.bytes.length ≤ 72 := by
  have := flatNum_len (ns := c.nums) (Cert.nums_le h)
  have := c.nums_len
  unfold Cert.bytes
  omega
/-- New numbers of one's own; nothing else is changed. -/
def FreshN (H H' : AH) (v : V) (ns : List Nat) : Prop := ∃ F, Own H' v 1 (ns.map natC).flatten F ∧ Upd H H' [] ∧ ∀ j ∈ F, H.next ≤ j
theorem FreshN.trans {H H0 H' : AH} {v : V} {ns : List Nat} (h : FreshN H0 H' v ns) (hu : Upd H H0 []) : FreshN H H' v ns := by
  obtain ⟨F, h1, h2, h3⟩ := h
  exact ⟨F, h1, hu.trans h2 (by simp), fun j hj => by have := h3 j hj; have := hu.1; omega⟩
theorem app_i64s : App Tryz.prog 111 111 1 8 := App.mk' qelem_111 qsize_2 qbytes_2 qzero_2 qsrc_111 rfl (by decide)
/-- Some numbers behind others. -/
theorem FreshN.more {H H' : AH} {v : V} {ns ms : List Nat} (h : FreshN H H' v ns) (hlen : ns.length + ms.length ≤ 1000) :
    ∃ w H2, aappend Tryz.prog (H'.new (.cells (ms.map natC).flatten 0 false 1)) 111 111 v (.sl (some (H'.next, 0, 0)) ms.length false) = some (w, H2) ∧ FreshN H H2 w (ns ++ ms) := by
  obtain ⟨F, h1, h2, h3⟩ := h
  have hm : (ms.map natC).flatten.length = ms.length := by
    rw [flatten_len (sz := 1) _ (fun l hl => by obtain ⟨b, _, rfl⟩ := List.mem_map.1 hl; rfl)]; simp
  have hn : (ns.map natC).flatten.length = ns.length := by
    rw [flatten_len (sz := 1) _ (fun l hl => by obtain ⟨b, _, rfl⟩ := List.mem_map.1 hl; rfl)]; simp
  have hu := Upd.new H' (.cells (ms.map natC).flatten 0 false 1) []
  have hx : asource Tryz.prog (H'.new (.cells (ms.map natC).flatten 0 false 1)) 1 (.sl (some (H'.next, 0, 0)) ms.length false) = some ((ms.map natC).flatten, ms.length) := by
    have : Sl (H'.new (.cells (ms.map natC).flatten 0 false 1)) (.sl (some (H'.next, 0, 0)) ms.length false) 1 (ms.map natC).flatten :=
      .inr ⟨H'.next, 0, 0, ms.length, false, _, _, _, rfl, AH.get_new_same .., by rw [hm]; omega, by rw [List.drop_zero, List.take_of_length_le (by rw [hm]; omega)]⟩
    have := this.asource (P := Tryz.prog) (by decide)
    rw [hm, Nat.div_one] at this
    exact this
  obtain ⟨w, H2, F2, b1, b2, b3, b4⟩ := (h1.upd hu (by simp)).append app_i64s hx (by rw [hm]; omega) (by rw [hn]; simp [roomOk]; omega)
  refine ⟨w, H2, b1, F2, by rw [List.map_append, List.flatten_append]; exact b2, h2.trans ((hu.mono (G := F) (by simp)).trans b3 (fun j hj => .inl hj)) (fun j hj => .inr (h3 j hj)), fun j hj => ?_⟩
  rcases b4 j hj with h | h
  · exact h3 j h
  · have := h2.1; simp at h; omega
theorem FreshN.rs {H H' : AH} {v : V} {ns : List Nat} (h : FreshN H H' v ns) : RS H' v 1 (ns.map natC) := by
  obtain ⟨F, h1, h2, h3⟩ := h
  exact h1.rsR (by decide) (fun _ => rfl)
theorem certBytes_ok (H : AH) (c : Cert) (hok : c.ok = true) : ACalls Tryz.prog 22 [.agg c.cells] H fun r H' => ∃ w, r = .tup [w, .i .i64 0] ∧ Fresh H H' w c.bytes := by
  have hR := Cert.rng hok
  have hck : c.check = 0 := by simp [Cert.check, hok]
  refine ACalls_body Tryz.func22 rfl rfl ?_
  refine AW_seq ?_
  refine AW_reg [1] fun K hK => ?_ -- region 0
  simp [init_eq, V.cells]
  obtain ⟨H1, e1, hp, hn, ho⟩ := H.boxed c.cells
  rw [e1]
  refine hK _ _ ?_; clear hK K
  have hu1 : Upd H H1 [] := ⟨by omega, fun j hj _ => ho j hj⟩
  refine AW_seq ?_
  refine AW_seq ?_
  refine AW_reg [1, 4] fun K hK => ?_ -- region 1
  simp [init_eq, aload, hp, take_cells]
  refine ACalls.mono (check_ok ..) fun r H' ⟨hr, e⟩ => ?_ -- hallmoot/cert.Check
  subst hr e
  try simp
  refine hK _ _ ?_; clear hK K
  refine AW_seq ?_
  refine AW_reg [1, 4, 9] fun K hK => ?_ -- region 2
  simp [init_eq, hck]
  refine hK _ _ ?_; clear hK K
  refine AW_cond' rfl rfl (fun hc => ?_) (fun hc => ?_)
  · cases hc
  refine AW_skip ?_
  refine AW_seq ?_
  have k0 : 0 ≤ c.kind := by rcases hR.kind with h | h | h <;> omega
  have b0 : abuildSlice Tryz.prog H' 111 1 [(0, .i .i64 c.kind)] = some (.sl (some (H'.next, 0, 0)) 1 false, H'.new (.cells [.i .i64 c.kind] 0 false 1)) := by
    simp [abuildSlice, afill, V.cells, splice_zero]
  refine AW_reg [1, 5] fun K hK => ?_ -- region 4
  simp [init_eq, afieldAddr, aload, hp, b0]
  refine hK _ _ ?_; clear hK K
  generalize hH2 : H'.new _ = H2
  have f2 : FreshN H' H2 (.sl (some (H'.next, 0, 0)) 1 false) [c.kind.toNat] := by
    rw [← hH2]
    refine ⟨[H'.next], .inr ⟨H'.next, 0, 1, rfl, ?_, by simp [natC], rfl⟩, Upd.new .., by simp⟩
    rw [AH.get_new_same]
    simp [natC, Int.toNat_of_nonneg k0]
  clear hH2 b0
  generalize (V.sl (some (H'.next, 0, 0)) 1 false) = v2 at f2
  refine AW_cut (fun ρ G => ∃ v, ρ = ⟨46, [(1, .p (some (H.next, 0, 0))), (5, v)]⟩ ∧ FreshN H' G v ([c.kind.toNat] ++ (if c.kind = 0 then [] else [c.block.toNat, c.view.toNat, c.round.toNat, c.signers.toNat]))) ?_ ?_
  · refine AW_seq ?_
    have hp2 : H2.get H.next = some (.cells c.cells 0 false 0) := by obtain ⟨F, _, hu, _⟩ := f2; exact hu.keep (by simp) hp
    refine AW_reg [1, 5, 16] fun K hK => ?_ -- region 5
    simp [init_eq, afieldAddr, aload, hp2]
    refine hK _ _ ?_; clear hK K
    refine AW_cond' rfl rfl (fun hc => ?_) (fun hc => ?_)
    · have hk : ¬ c.kind = 0 := by simpa using hc
      have b4 : abuildSlice Tryz.prog H2 111 4 [(0, .i .i64 c.block), (1, .i .i64 c.view), (2, .i .i64 c.round), (3, .i .i64 c.signers.toNat)] = some (.sl (some (H2.next, 0, 0)) 4 false, H2.new (.cells [.i .i64 c.block, .i .i64 c.view, .i .i64 c.round, .i .i64 c.signers.toNat] 0 false 1)) := by
        simp [abuildSlice, afill, V.cells, splice_zero, splice_succ]
      obtain ⟨w, H3, g1, g2⟩ := f2.more (ms := [c.block.toNat, c.view.toNat, c.round.toNat, c.signers.toNat]) (by simp)
      have e4 : (([c.block.toNat, c.view.toNat, c.round.toNat, c.signers.toNat] : List Nat).map natC).flatten = [.i .i64 c.block, .i .i64 c.view, .i .i64 c.round, .i .i64 c.signers.toNat] := by
        simp [natC, Int.toNat_of_nonneg hR.block.1, Int.toNat_of_nonneg hR.view.1, Int.toNat_of_nonneg hR.round.1]
      rw [e4] at g1
      have cv : ∀ G, aconvert Tryz.prog G 22 2 (u32 c.signers) = some (.i .i64 c.signers.toNat, G) := fun G => by
        have := c.signers.isLt
        unfold u32
        rw [conv_int qthere_22 qint_2, wrap_id (by omega) (by omega)]
      refine AW_reg [1, 5] fun K hK => ?_ -- region 6
      simp at g1
      simp [init_eq, afieldAddr, aload, hp2, cv, b4, g1]
      refine hK _ _ ?_; clear hK K
      refine rend ⟨_, ?_, w, rfl, ?_⟩
      · simp
      · rw [if_neg hk]; exact g2
    · have hk : c.kind = 0 := by simpa using hc
      refine AW_skip (rend ⟨_, ?_, v2, rfl, ?_⟩)
      · simp
      · rw [if_pos hk, List.append_nil]; exact f2
  intro ρ G hM
  obtain ⟨v3, rfl, f3⟩ := hM
  clear f2 v2 H2
  refine AW_cut (fun ρ G => ∃ v, ρ = ⟨46, [(5, v)]⟩ ∧ FreshN H' G v c.nums) ?_ ?_
  · refine AW_seq ?_
    have hp2 : G.get H.next = some (.cells c.cells 0 false 0) := by obtain ⟨F, _, hu, _⟩ := f3; exact hu.keep (by simp) hp
    refine AW_reg [1, 5, 31] fun K hK => ?_ -- region 7
    simp [init_eq, afieldAddr, aload, hp2]
    refine hK _ _ ?_; clear hK K
    refine AW_cond' rfl rfl (fun hc => ?_) (fun hc => ?_)
    · have hk : c.kind = 2 := by simpa using hc
      have b4 : abuildSlice Tryz.prog G 111 3 [(0, .i .i64 c.height), (1, .i .i64 c.author), (2, .i .i64 c.coin.toNat)] = some (.sl (some (G.next, 0, 0)) 3 false, G.new (.cells [.i .i64 c.height, .i .i64 c.author, .i .i64 c.coin.toNat] 0 false 1)) := by
        simp [abuildSlice, afill, V.cells, splice_zero, splice_succ]
      obtain ⟨w, H3, g1, g2⟩ := f3.more (ms := [c.height.toNat, c.author.toNat, c.coin.toNat]) (by split <;> simp)
      have e4 : (([c.height.toNat, c.author.toNat, c.coin.toNat] : List Nat).map natC).flatten = [.i .i64 c.height, .i .i64 c.author, .i .i64 c.coin.toNat] := by
        simp [natC, Int.toNat_of_nonneg hR.height.1, Int.toNat_of_nonneg hR.author.1]
      rw [e4] at g1
      have cv : ∀ G, aconvert Tryz.prog G 22 2 (u32 c.coin) = some (.i .i64 c.coin.toNat, G) := fun G => by
        have := c.coin.isLt
        unfold u32
        rw [conv_int qthere_22 qint_2, wrap_id (by omega) (by omega)]
      refine AW_reg [5] fun K hK => ?_ -- region 8
      simp at g1
      simp [init_eq, afieldAddr, aload, hp2, cv, b4, g1]
      refine hK _ _ ?_; clear hK K
      refine rend ⟨_, ?_, w, rfl, ?_⟩
      · simp
      · unfold Cert.nums; rw [if_pos hk]; exact g2
    · have hk : ¬ c.kind = 2 := by simpa using hc
      refine AW_skip (rend ⟨⟨46, [(5, v3)]⟩, ?_, v3, rfl, ?_⟩)
      · simp
      · unfold Cert.nums; rw [if_neg hk, List.append_nil]; exact f3
  intro ρ G2 hM
  obtain ⟨v4, rfl, f4⟩ := hM
  have hu4 : Upd H G2 [] := by obtain ⟨F, _, hu, _⟩ := f4; exact hu1.trans hu (by simp)
  refine AW_seq ?_
  refine AW_reg [2, 3] fun K hK => ?_ -- region 9
  simp [init_eq]
  refine ACalls.mono (nums_ok G2 f4.rs (Cert.nums_le hR) (by have := c.nums_len; omega)) fun r H5 h => ?_ -- hallmoot/wire.Nums
  obtain ⟨w, rfl, hf⟩ := h
  try simp
  refine hK _ _ ?_; clear hK K
  refine AW_ret (end_ret rfl ?_)
  exact ⟨w, rfl, hf.trans hu4⟩
end Go.Proofs.YtoccjilbfkhmoaaGreatDoor
