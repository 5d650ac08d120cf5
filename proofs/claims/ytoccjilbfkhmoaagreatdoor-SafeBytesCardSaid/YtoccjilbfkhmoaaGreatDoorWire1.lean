/-
  Bytes of numbers and of texts: package wire's and the document's.
-/
import Derived.Test.YtoccjilbfkhmoaaGreatDoorTx1
import Derived.Test.YtoccjilbfkhmoaaGreatDoorAbsC
set_option linter.unusedVariables false
set_option linter.unusedSimpArgs false
namespace Go.Proofs.YtoccjilbfkhmoaaGreatDoor
open Go Go.Abs Go.Proofs
set_option maxRecDepth 100000
attribute [local irreducible] AEnd AW ACalls

theorem app_bytes : App Tryz.prog 29 29 1 1 := App.mk' qelem_29 qsize_5 qbytes_5 qzero_5 qsrc_29 rfl (by decide)
theorem app_text : App Tryz.prog 29 9 1 1 := App.mk' qelem_29 qsize_5 qbytes_5 qzero_5 qsrc_9 rfl (by decide)
theorem bs_nil (n m : Nat) (c e : Bool) : aeq Tryz.prog 29 (.sl none n c) (.sl none m e) = some true := by simp [aeq, Tryz.underlying29]
theorem bs_some (q : Nat × Nat × Nat) (n m : Nat) (c e : Bool) : aeq Tryz.prog 29 (.sl (some q) n c) (.sl none m e) = some false := by simp [aeq, Tryz.underlying29]
theorem clone_ok (H : AH) {v : V} {l : List UInt8} (hv : Sl H v 1 (bytesV l)) (hl : l.length ≤ 100000000000) : ACalls Tryz.prog 66 [v] H fun r H' => Fresh H H' r l := by
  refine ACalls_body Tryz.func66 rfl rfl ?_
  refine AW_seq ?_
  refine AW_reg [0] fun K hK => ?_ -- region 0
  simp [init_eq]
  refine hK _ _ ?_; clear hK K
  refine AW_seq ?_
  refine AW_seq ?_
  have hv0 := hv
  rcases hv with ⟨c, rfl, hl0⟩ | ⟨id, g, off, len, clip, c, ro, esz, rfl, hg, h3, hl0⟩
  · have : l = [] := by
      have := congrArg List.length hl0; simp at this; exact this
    subst this
    refine AW_reg [0, 4] fun K hK => ?_ -- region 1
    simp [init_eq, bs_nil]
    refine hK _ _ ?_; clear hK K
    refine AW_cond' rfl rfl (fun hc => ?_) (fun hc => ?_)
    · refine AW_seq ?_
      refine AW_reg [2] fun K hK => ?_ -- region 2
      simp [init_eq]
      refine hK _ _ ?_; clear hK K
      refine AW_ret (end_ret rfl ?_)
      exact ⟨[], Own.nil .., Upd.refl .., by simp⟩
    · cases hc
  · refine AW_reg [0, 4] fun K hK => ?_ -- region 1
    simp [init_eq, bs_some]
    refine hK _ _ ?_; clear hK K
    refine AW_cond' rfl rfl (fun hc => ?_) (fun hc => ?_)
    · cases hc
    · refine AW_skip ?_
      refine AW_seq ?_
      have hx := sl_asource (P := Tryz.prog) (hv0.ext (ext_new H (.cells [] 0 false 1)))
      obtain ⟨v', H', F', h1, h2, h3, h4⟩ := (Own.made H 1).appendB (a := []) app_bytes hx (by simp; omega)
      refine AW_reg [2] fun K hK => ?_ -- region 3
      have hbs : abuildSlice Tryz.prog H 29 0 [] = some (.sl (some (H.next, 0, 0)) 0 false, H.new (.cells [] 0 false 1)) := by
        simp [abuildSlice, afill, V.cells]
      simp [init_eq, hbs, h1]
      refine hK _ _ ?_; clear hK K
      refine AW_ret (end_ret rfl ?_)
      refine ⟨F', h2, (Upd.new H _ []).trans h3 (by simp), fun j hj => ?_⟩
      rcases h4 j hj with h | h
      · simp at h; omega
      · simp at h; omega
theorem num_ok (H : AH) {v : V} {l : List UInt8} (hv : Sl H v 1 (bytesV l)) (hl : l.length ≤ 10000000000) (n : Nat) (hn : n ≤ 4611686018427387904) : ACalls Tryz.prog 61 [v, .i .i64 n] H fun r H' => ∃ w, r = .tup [w, .i .i64 0] ∧ Fresh H H' w (l ++ numB n) := by
  refine ACalls_body Tryz.func61 rfl rfl ?_
  refine AW_seq ?_
  refine AW_reg [0, 1] fun K hK => ?_ -- region 0
  simp [init_eq]
  refine hK _ _ ?_; clear hK K
  refine AW_seq ?_
  refine AW_seq ?_
  have n1 : ¬ (n : Int) < 0 := by omega
  have n2 : ¬ (4611686018427387904 : Int) < n := by omega
  refine AW_reg [0, 1, 12] fun K hK => ?_ -- region 1
  simp [init_eq, n1, n2]
  refine hK _ _ ?_; clear hK K
  refine AW_cond' rfl rfl (fun hc => ?_) (fun hc => ?_)
  · cases hc
  refine AW_skip ?_
  refine AW_seq ?_
  refine AW_reg [1, 6] fun K hK => ?_ -- region 3
  simp [init_eq]
  refine ACalls.mono (clone_ok H hv (by omega)) fun w H1 h => ?_ -- slices.Clone[[]byte,byte]
  obtain ⟨F, h1, h2, h3⟩ := h
  try simp
  refine hK _ _ ?_; clear hK K
  refine AW_seq ?_
  refine AW_block ?_
  refine AW_loopx (fun x : List UInt8 × Nat × V => ⟨30, [(1, .i .i64 x.2.1), (6, x.2.2)]⟩) (fun x H' => numB n = x.1 ++ numB x.2.1 ∧ x.2.1 ≤ n ∧ ∃ F, Own H' x.2.2 1 (bytesV (l ++ x.1)) F ∧ Upd H H' [] ∧ ∀ j ∈ F, H.next ≤ j) (fun x => x.2.1) ([], n, w) (by simp)
    ⟨by simp, Nat.le_refl _, F, by simpa using h1, h2, h3⟩ fun x H' hM => ?_ -- loop
  clear h1 h2 h3 F
  obtain ⟨p, m, w⟩ := x
  obtain ⟨e1, e2, F, h1, h2, h3⟩ := hM
  simp only at e1 e2 h1
  have hpl : p.length ≤ 9 := by
    have := congrArg List.length e1; rw [List.length_append] at this
    have := numB_len9 hn; omega
  refine AW_seq ?_
  refine AW_seq ?_
  refine AW_reg [1, 6, 16] fun K hK => ?_ -- region 4
  simp [init_eq]
  refine hK _ _ ?_; clear hK K
  refine AW_cond' rfl rfl (fun hc => ?_) (fun hc => ?_)
  · have hm : ¬ m < 128 := by simp at hc; omega
    obtain ⟨k, hk⟩ : ∃ k, k = m % 256 := ⟨_, rfl⟩
    obtain ⟨q, hq⟩ : ∃ q, q = m % 128 + 128 := ⟨_, rfl⟩
    have cv : ∀ G, aconvert Tryz.prog G 2 5 (.i .i64 (m : Int)) = some (.i .u8 (k : Int), G) := fun G => by
      rw [conv_int qthere_2 qint_5, wrap_u8, hk]
    have eor : abin Tryz.prog .or 5 (.i .u8 (k : Int)) (.i .u8 128) = some (.i .u8 (q : Int)) := by rw [hk, hq]; exact or_128 m
    obtain ⟨G1, w', G2, F', b1, b2, b3, b4, b5⟩ := h1.pushB app_bytes qelem_29 qsize_5 qzero_5 q (by omega) (by simp; omega)
    refine AW_skip ?_
    refine AW_seq ?_
    refine AW_block ?_
    refine AW_reg [1, 6] fun K hK => ?_ -- region 6
    simp [init_eq, cv, eor, b1, b2]
    refine hK _ _ ?_; clear hK K
    subst hq
    refine bend ?_
    refine AW_reg [1, 6] fun K hK => ?_ -- region 5
    have esh := shr_7 (P := Tryz.prog) (t := 2) m
    simp [init_eq, esh]
    refine hK _ _ ?_; clear hK K
    refine rend ⟨(p ++ [UInt8.ofNat (m % 128 + 128)], m / 128, w'), by simp, ⟨?_, by (show m / 128 ≤ n); omega, F', by simpa using b3, h2.trans b4 (fun j hj => .inr (h3 j hj)), fun j hj => ?_⟩, by (show m / 128 < m); omega⟩ -- round's end
    · rw [e1, numB_ge hm]; simp
    · rcases b5 j hj with h | h
      · exact h3 j h
      · have := h2.1; omega
  · have hm : m < 128 := by simp at hc; omega
    obtain ⟨G1, w', G2, F', b1, b2, b3, b4, b5⟩ := h1.pushB app_bytes qelem_29 qsize_5 qzero_5 m (by omega) (by simp; omega)
    refine AW_exit (then_exit (then_exit (block_here ?_)))
    refine AW_seq ?_
    refine AW_reg [4, 5] fun K hK => ?_ -- region 7
    have cv : ∀ G, aconvert Tryz.prog G 2 5 (.i .i64 (m : Int)) = some (.i .u8 (m : Int), G) := fun G => by
      rw [conv_int qthere_2 qint_5, wrap_u8, Nat.mod_eq_of_lt (by omega)]
    simp [init_eq, cv, b1, b2]
    refine hK _ _ ?_; clear hK K
    refine AW_ret (end_ret rfl ?_)
    refine ⟨w', rfl, F', ?_, h2.trans b4 (fun j hj => .inr (h3 j hj)), fun j hj => ?_⟩
    · rw [e1, numB_lt hm, ← List.append_assoc]; exact b3
    · rcases b5 j hj with h | h
      · exact h3 j h
      · have := h2.1; omega
theorem text_ok (H : AH) {v : V} {l : List UInt8} (hv : Sl H v 1 (bytesV l)) (hl : l.length ≤ 10000000000) (s : List UInt8) (hs : s.length ≤ 65536) : ACalls Tryz.prog 23 [v, .s s] H fun r H' => ∃ w, r = .tup [w, .i .i64 0] ∧ Fresh H H' w (l ++ textB s) := by
  refine ACalls_body Tryz.func23 rfl rfl ?_
  refine AW_seq ?_
  refine AW_reg [0, 1] fun K hK => ?_ -- region 0
  simp [init_eq]
  refine hK _ _ ?_; clear hK K
  refine AW_seq ?_
  refine AW_seq ?_
  have n2 : ¬ (65536 : Int) < s.length := by omega
  refine AW_reg [0, 1, 10] fun K hK => ?_ -- region 1
  simp [init_eq, alen, n2]
  refine hK _ _ ?_; clear hK K
  refine AW_cond' rfl rfl (fun hc => ?_) (fun hc => ?_)
  · cases hc
  refine AW_skip ?_
  refine AW_seq ?_
  refine AW_reg [1, 6, 7] fun K hK => ?_ -- region 3
  simp [init_eq, alen]
  refine ACalls.mono (num_ok H hv (by omega) s.length (by omega)) fun r H1 h => ?_ -- hallmoot/wire.Num
  obtain ⟨w, rfl, F, h1, h2, h3⟩ := h
  try simp
  refine hK _ _ ?_; clear hK K
  have h9 := numB_len9 (n := s.length) (by omega)
  obtain ⟨w', H', F', b1, b2, b3, b4⟩ := h1.appendB (x := .s s) (b := s) app_text (by simp [asource]) (by rw [List.length_append]; omega)
  refine AW_seq ?_
  refine AW_reg [4, 5] fun K hK => ?_ -- region 4
  simp [init_eq, b1]
  refine hK _ _ ?_; clear hK K
  refine AW_ret (end_ret rfl ?_)
  refine ⟨w', rfl, F', by simpa [textB] using b2, h2.trans b3 (fun j hj => .inr (h3 j hj)), fun j hj => ?_⟩
  rcases b4 j hj with h | h
  · exact h3 j h
  · have := h2.1; omega
/-- A number as a list's cell. -/
def natC (n : Nat) : List V := [.i .i64 (n : Int)]
theorem flatNum_len {ns : List Nat} (h : ∀ n ∈ ns, n ≤ 4611686018427387904) : (ns.flatMap numB).length ≤ 9 * ns.length := by
  induction ns with
  | nil => simp
  | cons n ns ih =>
    have h1 := numB_len9 (h n (by simp))
    have h2 := ih fun m hm => h m (by simp [hm])
    simp only [List.flatMap_cons, List.length_append, List.length_cons]
    omega
theorem nums_ok (H : AH) {v : V} {ns : List Nat} (hv : RS H v 1 (ns.map natC)) (hr : ∀ n ∈ ns, n ≤ 4611686018427387904) (hlen : ns.length ≤ 100000000) : ACalls Tryz.prog 20 [v] H fun r H' => ∃ w, r = .tup [w, .i .i64 0] ∧ Fresh H H' w (ns.flatMap numB) := by
  have lx := hv.alen (P := Tryz.prog) qelem_111 H
  refine ACalls_body Tryz.func20 rfl rfl ?_
  refine AW_seq ?_
  refine AW_reg [0] fun K hK => ?_ -- region 0
  simp [init_eq]
  refine hK _ _ ?_; clear hK K
  refine AW_seq ?_
  refine AW_reg [0, 4] fun K hK => ?_ -- region 1
  simp [init_eq]
  refine hK _ _ ?_; clear hK K
  refine AW_seq ?_
  refine AW_seq ?_
  refine AW_reg [4, 8, 9, 10] fun K hK => ?_ -- region 2
  simp [init_eq, lx]
  refine hK _ _ ?_; clear hK K
  refine AW_block ?_
  refine AW_loopx (fun x : Nat × V => ⟨25, [(4, x.2), (8, v), (9, .i .i64 ns.length), (10, .i .i64 x.1)]⟩) (fun x H' => x.1 ≤ ns.length ∧ ∃ F, Own H' x.2 1 (bytesV ((ns.take x.1).flatMap numB)) F ∧ Upd H H' [] ∧ ∀ j ∈ F, H.next ≤ j) (fun x => ns.length - x.1) (0, .sl none 0 false) (by simp)
    ⟨by simp, [], by simpa using Own.nil .., Upd.refl .., by simp⟩ fun x H1 hM => ?_ -- loop
  obtain ⟨i, w⟩ := x
  obtain ⟨hi0, F, h1, h2, h3⟩ := hM
  simp only at hi0 h1
  refine AW_seq ?_
  refine AW_reg [4, 8, 9, 10, 11] fun K hK => ?_ -- region 3
  simp [init_eq]
  refine hK _ _ ?_; clear hK K
  refine AW_seq ?_
  refine AW_cond' rfl rfl (fun hc => ?_) (fun hc => ?_)
  · have hi : i < ns.length := by simpa using hc
    have hni := hr _ (List.getElem_mem hi)
    obtain ⟨a, p1, p2⟩ := (hv.upd h2).at1 (P := Tryz.prog) qelem_111 qsize_2 qagg_2 (k := .i64) i (x := .i .i64 (ns[i] : Int)) (by simp [hi, natC])
    refine AW_skip ?_
    refine AW_seq ?_
    refine AW_block ?_
    refine AW_seq ?_
    refine AW_reg [4, 6, 8, 9, 10] fun K hK => ?_ -- region 4
    simp [init_eq, p1, p2]
    refine hK _ _ ?_; clear hK K
    refine AW_seq ?_
    refine AW_reg [4, 6, 8, 9, 10] fun K hK => ?_ -- region 5
    simp [init_eq]
    refine hK _ _ ?_; clear hK K
    have hfl : ((ns.take i).flatMap numB).length ≤ 9 * i := by
      have := flatNum_len (ns := ns.take i) fun n hn => hr n (List.mem_of_mem_take hn)
      simp at this
      have : min i ns.length ≤ i := Nat.min_le_left ..
      simp; omega
    refine AW_seq ?_
    refine AW_reg [4, 7, 8, 9, 10] fun K hK => ?_ -- region 6
    simp [init_eq]
    refine ACalls.mono (num_ok H1 h1.sl (by omega) ns[i] hni) fun r H2 h => ?_ -- hallmoot/wire.Num
    obtain ⟨w2, rfl, F2, g1, g2, g3⟩ := h
    try simp
    refine hK _ _ ?_; clear hK K
    refine AW_seq ?_
    refine AW_reg [4, 7, 8, 9, 10, 21] fun K hK => ?_ -- region 7
    simp [init_eq]
    refine hK _ _ ?_; clear hK K
    refine AW_cond' rfl rfl (fun hc => ?_) (fun hc => ?_)
    · cases hc
    · refine AW_skip ?_
      refine AW_reg [4, 8, 9, 10] fun K hK => ?_ -- region 9
      simp [init_eq, wrap_id (x := (i : Int) + 1) (by omega) (by omega)]
      refine hK _ _ ?_; clear hK K
      refine rend ⟨(i + 1, w2), by simp, ⟨by (show i + 1 ≤ ns.length); omega, F2, ?_, h2.trans g2 (by simp), fun j hj => ?_⟩, by (show ns.length - (i + 1) < ns.length - i); omega⟩ -- round's end
      · show Own H2 w2 1 (bytesV ((ns.take (i + 1)).flatMap numB)) F2
        rw [List.take_succ_eq_append_getElem hi, List.flatMap_append]
        simpa using g1
      · have := g3 j hj; have := h2.1; omega
  · have hi : i = ns.length := by
      have : ¬ i < ns.length := by simpa using hc
      omega
    subst hi
    refine AW_exit (then_exit (then_exit (block_here ?_)))
    refine AW_seq ?_
    refine AW_reg [2, 3] fun K hK => ?_ -- region 10
    simp [init_eq]
    refine hK _ _ ?_; clear hK K
    refine AW_ret (end_ret rfl ?_)
    rw [List.take_length] at h1
    exact ⟨w, rfl, F, h1, h2, h3⟩
theorem rnum_ok (H : AH) (n : Nat) (hn : n ≤ 4611686018427387904) : ACalls Tryz.prog 65 [.i .i64 n] H fun r H' => r = .tup [.s (numB n), .b true] ∧ H' = H := by
  refine ACalls.pure (Q := fun r => r = .tup [.s (numB n), .b true]) ⟨_, Tryz.func65, rfl, rfl⟩ ?_
  refine ACalls_body Tryz.func65 rfl rfl ?_
  refine AW_seq ?_
  refine AW_reg [0] fun K hK => ?_ -- region 0
  simp [init_eq]
  refine hK _ _ ?_; clear hK K
  refine AW_seq ?_
  refine AW_seq ?_
  have n1 : ¬ (n : Int) < 0 := by omega
  have n2 : ¬ (4611686018427387904 : Int) < n := by omega
  refine AW_reg [0, 10] fun K hK => ?_ -- region 1
  simp [init_eq, n1, n2]
  refine hK _ _ ?_; clear hK K
  refine AW_cond' rfl rfl (fun hc => ?_) (fun hc => ?_)
  · cases hc
  refine AW_skip ?_
  refine AW_seq ?_
  refine AW_reg [0, 4] fun K hK => ?_ -- region 3
  simp [init_eq]
  refine hK _ _ ?_; clear hK K
  refine AW_seq ?_
  refine AW_block ?_
  refine AW_loop0 (fun x : List UInt8 × Nat => ⟨29, [(0, .i .i64 x.2), (4, .s x.1)]⟩) (fun x => numB n = x.1 ++ numB x.2 ∧ x.2 ≤ n) (fun x => x.2) ([], n) (by simp) (by simp) (by dsimp only; omega) fun hw x hM => ?_ -- loop
  obtain ⟨p, m⟩ := x
  obtain ⟨e1, e2⟩ := hM
  simp only at e1 e2
  have hpl : p.length ≤ 9 := by
    have := congrArg List.length e1; rw [List.length_append] at this
    have := numB_len9 hn; omega
  have one : ∀ k, k < 256 → ∃ H1, abuildSlice Tryz.prog H 29 1 [(0, .i .u8 ((k : Nat) : Int))] = some (.sl (some (H.next, 0, 0)) 1 false, H1) ∧ aconvert Tryz.prog H1 29 9 (.sl (some (H.next, 0, 0)) 1 false) = some (.s [UInt8.ofNat k], H1) ∧ H1.next = H.next + 1 ∧ ∀ j, j < H.next → H1.get j = H.get j := fun k hk => by
    refine ⟨H.new (.cells [.i .u8 (k : Int)] 0 false 1), by simp [abuildSlice, afill, V.cells, splice_zero], ?_, by simp, fun j hj => by simp [AH.get_new]; omega⟩
    refine conv_text (l := [UInt8.ofNat k]) qbs_29 qstr_9 (.inr ⟨H.next, 0, 0, 1, false, _, _, _, rfl, AH.get_new_same .., by simp, ?_⟩)
    simp [bytesV, Nat.mod_eq_of_lt hk]
  refine AW_seq ?_
  refine AW_seq ?_
  refine AW_reg [0, 4, 12] fun K hK => ?_ -- region 4
  simp [init_eq]
  refine hK _ _ ?_; clear hK K
  refine AW_cond' rfl rfl (fun hc => ?_) (fun hc => ?_)
  · have hm : ¬ m < 128 := by simp at hc; omega
    obtain ⟨q, hq⟩ : ∃ q, q = m % 128 + 128 := ⟨_, rfl⟩
    obtain ⟨k, hk⟩ : ∃ k, k = m % 128 := ⟨_, rfl⟩
    obtain ⟨m', hm'⟩ : ∃ m', m' = m / 128 := ⟨_, rfl⟩
    obtain ⟨H1, b1, b2, b3, b4⟩ := one q (by omega)
    refine AW_skip ?_
    refine AW_block ?_
    refine AW_seq ?_
    have hrem : aint .rem .i64 (m : Int) 128 = some (.i .i64 (k : Int)) := by
      simp only [aint]
      rw [if_neg (by decide), Int.tmod_eq_emod_of_nonneg (by omega), hk]; rfl
    have hadd : IntKind.i64.wrap ((k : Int) + 128) = (q : Int) := by rw [wrap_id (by omega) (by omega)]; omega
    have hquo : aint .quo .i64 (m : Int) 128 = some (.i .i64 (m' : Int)) := by
      simp only [aint]
      rw [if_neg (by decide), Int.tdiv_eq_ediv_of_nonneg (by omega), wrap_id (by omega) (by omega), hm']
      rfl
    have cv : ∀ G, aconvert Tryz.prog G 2 5 (.i .i64 (q : Int)) = some (.i .u8 (q : Int), G) := fun G => by
      rw [conv_int qthere_2 qint_5, wrap_u8, Nat.mod_eq_of_lt (by omega)]
    have hap : astr .add p [UInt8.ofNat q] = some (.s (p ++ [UInt8.ofNat q])) := by
      unfold astr; rw [if_pos (by simp; omega)]
    refine AW_reg [0, 4] fun K hK => ?_ -- region 5
    simp [init_eq, hrem, hadd, cv, b1, b2, hap]
    refine hK _ _ ?_; clear hK K
    refine AW_reg [0, 4] fun K hK => ?_ -- region 6
    simp [init_eq, hquo]
    refine hK _ _ ?_; clear hK K
    subst hq hm'
    refine bend (rend ⟨(p ++ [UInt8.ofNat (m % 128 + 128)], m / 128), by simp, ⟨?_, by (show m / 128 ≤ n); omega⟩, by (show m / 128 < m); omega, .inr ⟨by omega, b4, by simp⟩⟩) -- round's end
    rw [e1, numB_ge hm]; simp
  · have hm : m < 128 := by simp at hc; omega
    obtain ⟨H1, b1, b2, b3, b4⟩ := one m (by omega)
    have cv : ∀ G, aconvert Tryz.prog G 2 5 (.i .i64 (m : Int)) = some (.i .u8 (m : Int), G) := fun G => by
      rw [conv_int qthere_2 qint_5, wrap_u8, Nat.mod_eq_of_lt (by omega)]
    have hap : astr .add p [UInt8.ofNat m] = some (.s (p ++ [UInt8.ofNat m])) := by
      unfold astr; rw [if_pos (by simp; omega)]
    refine AW_exit (then_exit (then_exit (block_here ?_)))
    refine AW_seq ?_
    refine AW_reg [2, 3] fun K hK => ?_ -- region 7
    simp [init_eq, cv, b1, b2, hap]
    refine hK _ _ ?_; clear hK K
    refine AW_ret (end_ret rfl (pure_end b3 b4 ?_ rfl))
    rw [e1, numB_lt hm]
    rfl
theorem rN_ok (H : AH) (n : Nat) (hn : n ≤ 4611686018427387904) : ACalls Tryz.prog 27 [.i .i64 n] H fun r H' => r = .s (numB n) ∧ H' = H := by
  refine ACalls_body Tryz.func27 rfl rfl ?_
  refine AW_seq ?_
  refine AW_reg [0] fun K hK => ?_ -- region 0
  simp [init_eq]
  refine hK _ _ ?_; clear hK K
  refine AW_seq ?_
  refine AW_reg [3, 4] fun K hK => ?_ -- region 1
  simp [init_eq]
  refine ACalls.mono (rnum_ok _ _ hn) fun r H' ⟨hr, e⟩ => ?_ -- hallmoot/hallmootref03.Num
  subst hr e
  try simp
  refine hK _ _ ?_; clear hK K
  refine AW_seq ?_
  refine AW_reg [2] fun K hK => ?_ -- region 2
  simp [init_eq]
  refine hK _ _ ?_; clear hK K
  refine AW_ret (end_ret rfl ?_)
  exact ⟨rfl, rfl⟩
theorem rT_ok (H : AH) (s : List UInt8) (hs : s.length ≤ 1000000000) : ACalls Tryz.prog 29 [.s s] H fun r H' => r = .s (textB s) ∧ H' = H := by
  refine ACalls_body Tryz.func29 rfl rfl ?_
  refine AW_seq ?_
  refine AW_reg [0] fun K hK => ?_ -- region 0
  simp [init_eq]
  refine hK _ _ ?_; clear hK K
  refine AW_seq ?_
  refine AW_reg [2] fun K hK => ?_ -- region 1
  simp [init_eq, alen]
  refine ACalls.mono (rN_ok _ _ (by omega)) fun r H' ⟨hr, e⟩ => ?_ -- hallmoot/hallmootref03.N
  subst hr e
  have h9 := numB_len9 (n := s.length) (by omega)
  have hap : astr .add (numB s.length) s = some (.s (textB s)) := by
    unfold astr; rw [if_pos (by omega)]; rfl
  simp [hap]
  refine hK _ _ ?_; clear hK K
  refine AW_ret (end_ret rfl ?_)
  exact ⟨rfl, rfl⟩
end Go.Proofs.YtoccjilbfkhmoaaGreatDoor
