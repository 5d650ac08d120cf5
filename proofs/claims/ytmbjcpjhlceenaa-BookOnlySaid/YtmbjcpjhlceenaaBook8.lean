import Derived.Test.YtmbjcpjhlceenaaBook7
set_option linter.unusedVariables false
set_option linter.unusedSimpArgs false
namespace Go.Proofs.Ytmbjcpjhlceenaa
open Go Go.Abs Go.Proofs
set_option maxRecDepth 100000
attribute [local irreducible] AEnd AW ACalls

theorem enter_idx {l : List (List UInt8)} {s t : List UInt8} (h : s ∈ l) : (enter l t).idxOf s = l.idxOf s := by
  unfold enter
  split
  · rfl
  · rw [List.idxOf_append, if_pos h]
theorem enter_mem {l : List (List UInt8)} {s t : List UInt8} (h : s ∈ l) : s ∈ enter l t := by
  unfold enter
  split
  · exact h
  · simp [h]
theorem enter_self (l : List (List UInt8)) (s : List UInt8) : s ∈ enter l s := by
  unfold enter
  split
  · assumption
  · simp
theorem enter_len (l : List (List UInt8)) (s : List UInt8) : (enter l s).length ≤ l.length + 1 := by
  unfold enter
  split <;> simp
theorem idx_get {l : List (List UInt8)} {s : List UInt8} (h : s ∈ l) : l[l.idxOf s]? = some s := by
  have hlt := List.idxOf_lt_length_of_mem h
  rw [List.getElem?_eq_getElem hlt]
  simp
theorem app26 : App Try.prog 26 26 1 8 := App.mk' qelem_26 qsize_3 qbytes_3 qzero_3 qsrc_26 rfl (by decide)
/-- The numbers, as they lie in memory. -/
def numV (L : List (List UInt8)) (s : List UInt8) : V := .i .i64 ((L.idxOf s : Nat) + 1)

theorem only_law (H : AH) (v : V) (xs : List (List UInt8)) (hv : Sl H v 1 (xs.map .s)) : ACalls Try.prog 3 [v] H fun r H' => r = .b true := by
  have hlen : ∀ H', alen Try.prog H' 22 v = some (.i .i64 xs.length) := fun H' => by rw [hv.len (P := Try.prog) (H' := H') (by decide) qelem_22]; simp
  have hat : ∀ (H' : AH) (i : Nat) (hi : i < xs.length), H.ext H' → ∃ a, aindexAddr Try.prog 22 v (.i .i64 i) = some a ∧ aload Try.prog H' 9 a = some (.s xs[i]) := fun H' i hi hx => by
    obtain ⟨a, ha, hl⟩ := (hv.ext hx).at1 (P := Try.prog) (k := .i64) (i := i) qelem_22 qsize_9 qagg_9 (by omega) (by simpa using hi)
    exact ⟨a, ha, by rw [hl]; simp [hi]⟩
  refine ACalls_body Try.func3 rfl rfl ?_
  refine AW_seq ?_
  refine AW_reg [0] fun K hK => ?_ -- region 0
  simp [init_eq]
  refine hK _ _ ?_; clear hK K
  refine AW_seq ?_
  refine AW_seq ?_
  refine AW_reg [0, 15] fun K hK => ?_ -- region 1
  simp [init_eq]
  refine ACalls.mono (alive_ok H) fun r H1 ⟨hr, u1⟩ => ?_ -- hallmoot/hallmootlaw05.alive
  subst hr
  try simp
  refine hK _ _ ?_; clear hK K
  refine AW_cond' rfl rfl (fun hc => ?_) (fun hc => ?_)
  · cases hc
  · refine AW_skip ?_
    refine AW_seq ?_
    refine AW_seq ?_
    refine AW_reg [0, 18] fun K hK => ?_ -- region 3
    simp [init_eq, hlen]
    refine hK _ _ ?_; clear hK K
    refine AW_cond' rfl rfl (fun hc => ?_) (fun hc => ?_)
    · refine AW_seq ?_
      refine AW_reg [2] fun K hK => ?_ -- region 4
      simp [init_eq]
      refine hK _ _ ?_; clear hK K
      refine AW_ret (end_ret rfl ?_)
      rfl
    · have h100 : xs.length ≤ 100 := by simp at hc; omega
      refine AW_skip ?_
      refine AW_seq ?_
      refine AW_reg [0, 3] fun K hK => ?_ -- region 5
      simp [init_eq]
      refine ACalls.mono (new_ok H1) fun b H2 ⟨F2, b2, u2, f2⟩ => ?_ -- hallmoot/book.New
      try simp
      refine hK _ _ ?_; clear hK K
      refine AW_seq ?_
      refine AW_reg [0, 3, 4] fun K hK => ?_ -- region 6
      simp [init_eq]
      refine hK _ _ ?_; clear hK K
      refine AW_seq ?_
      refine AW_seq ?_
      refine AW_reg [0, 3, 4, 5] fun K hK => ?_ -- region 7
      simp [init_eq]
      refine hK _ _ ?_; clear hK K
      have n1 := u1.1; have n2 := u2.1
      refine AW_block ?_
      refine AW_loopx (fun x : Nat × V => ⟨127, [(0, v), (3, b), (4, x.2), (5, .i .i64 x.1)]⟩)
        (fun x H' => x.1 ≤ xs.length ∧ ∃ L F G, BookAt H' b L F ∧ Own H' x.2 1 ((xs.take x.1).map (numV L)) G ∧ (∀ s ∈ xs.take x.1, s ∈ L) ∧ L.length ≤ x.1 ∧ (∀ j ∈ F, j ∉ G) ∧ (∀ j ∈ F, H.next ≤ j) ∧ (∀ j ∈ G, H.next ≤ j) ∧ Upd H H' [])
        (fun x => xs.length - x.1) (0, .sl none 0 false) (by simp) ⟨by omega, [], F2, [], b2, Own.nil _ _ _, by simp, by simp, by simp, fun j hj => by have := f2 j hj; omega, by simp, u1.trans u2 (by simp)⟩ fun x H' hM => ?_ -- loop
      obtain ⟨i, nv⟩ := x
      obtain ⟨hi, L, F, G, hb, ho, hin, hL, hFG, hF, hG, hu⟩ := hM
      dsimp only at hi ho hin hL
      refine AW_seq ?_
      refine AW_seq ?_
      refine AW_reg [0, 3, 4, 5, 23] fun K hK => ?_ -- region 8
      simp [init_eq, hlen]
      refine hK _ _ ?_; clear hK K
      refine AW_cond' rfl rfl (fun hc => ?_) (fun hc => ?_)
      · have hlt : i < xs.length := by simpa using hc
        obtain ⟨a, ha, hla⟩ := hat H' i hlt hu.ext
        refine AW_skip ?_
        refine AW_seq ?_
        refine AW_block ?_
        refine AW_seq ?_
        refine AW_seq ?_
        refine AW_reg [0, 3, 4, 5, 31] fun K hK => ?_ -- region 10
        simp [init_eq, ha, hla, alen]
        refine hK _ _ ?_; clear hK K
        refine AW_cond' rfl rfl (fun hc => ?_) (fun hc => ?_)
        · refine AW_seq ?_
          refine AW_reg [2] fun K hK => ?_ -- region 11
          simp [init_eq]
          refine hK _ _ ?_; clear hK K
          refine AW_ret (end_ret rfl ?_)
          rfl
        · have hs : ¬ 65536 < xs[i].length := by simp at hc; omega
          refine AW_skip ?_
          refine AW_seq ?_
          refine AW_reg [0, 3, 4, 5, 6, 7] fun K hK => ?_ -- region 12
          simp [init_eq, ha, hla]
          refine ACalls.mono (enter_ok hb (by omega) xs[i]) fun r H4 h4 => ?_ -- (*hallmoot/book.Book).Enter
          rw [if_neg hs] at h4
          obtain ⟨F4, rfl, b4, u4, f4⟩ := h4
          try simp
          refine hK _ _ ?_; clear hK K
          have hm : xs[i] ∈ enter L xs[i] := enter_self L xs[i]
          have hx1 := List.idxOf_lt_length_of_mem hm
          have hx2 := enter_len L xs[i]
          have k1 : ¬ (((enter L xs[i]).idxOf xs[i] : Nat) : Int) + 1 < 1 := by omega
          have k2 : ¬ (i : Int) + 1 < (((enter L xs[i]).idxOf xs[i] : Nat) : Int) + 1 := by omega
          refine AW_seq ?_
          refine AW_seq ?_
          refine AW_reg [0, 3, 4, 5, 6, 52] fun K hK => ?_ -- region 13
          simp [init_eq, k1, wrap_id (x := (i : Int) + 1) (by omega) (by omega), k2]
          refine hK _ _ ?_; clear hK K
          refine AW_cond' rfl rfl (fun hc => ?_) (fun hc => ?_)
          · cases hc
          · refine AW_skip ?_
            have o4 : Own H4 nv 1 ((xs.take i).map (numV L)) G := ho.upd u4 (fun j hj hf => hFG j hf hj)
            have n4 := u4.1
            have nu := hu.1
            have hFG4 : ∀ j ∈ F4, j ∉ G := fun j hj hg => by
              rcases f4 j hj with h | h
              · exact hFG j h hg
              · have := ho.lt j hg; omega
            refine AW_reg [0, 3, 4, 5] fun K hK => ?_ -- region 15
            simp [init_eq, abuildSlice, afill, splice, V.cells]
            generalize hH5 : H4.new (.cells [.i .i64 ((((enter L xs[i]).idxOf xs[i] : Nat) : Int) + 1)] 0 false 1) = H5
            have u5 : Upd H4 H5 [] := hH5 ▸ Upd.new ..
            have hx : asource Try.prog H5 1 (.sl (some (H4.next, 0, 0)) 1 false) = some ([numV (enter L xs[i]) xs[i]], 1) := by simp [asource, ← hH5, AH.get_new_same, numV]
            obtain ⟨v6, H6, G6, e6, o6, u6, f6⟩ := Own.append app26 (o4.upd u5 (by simp)) hx (by simp) (by simp [roomOk]; omega)
            have n5 := u5.1; have n6 := u6.1
            simp [e6]
            refine hK _ _ ?_; clear hK K
            refine AW_reg [0, 3, 4, 5] fun K hK => ?_ -- region 9
            simp [init_eq, wrap_id (x := (i : Int) + 1) (by omega) (by omega)]
            refine hK _ _ ?_; clear hK K
            have hG6 : ∀ j ∈ G6, j ∈ G ∨ H4.next ≤ j := fun j hj => by
              rcases f6 j hj with h | h
              · exact .inl h
              · exact .inr (by omega)
            refine rend ⟨(i + 1, v6), by simp, ⟨by dsimp only; omega, enter L xs[i], F4, G6, (b4.upd u5 (by simp)).upd u6 hFG4, ?_, ?_, ?_, ?_, ?_, ?_, ?_⟩, by dsimp only; omega⟩ -- round's end
            · dsimp only
              rw [List.take_succ_eq_append_getElem hlt, List.map_append]
              have e : (xs.take i).map (numV (enter L xs[i])) = (xs.take i).map (numV L) := List.map_congr_left fun s hs => by simp [numV, enter_idx (hin s hs)]
              rw [e]
              exact o6
            · dsimp only
              rw [List.take_succ_eq_append_getElem hlt]
              intro s hs
              rcases List.mem_append.1 hs with h | h
              · exact enter_mem (hin s h)
              · rw [List.mem_singleton.1 h]; exact hm
            · dsimp only; omega
            · intro j hj hg
              rcases hG6 j hg with h | h
              · exact hFG4 j hj h
              · have := b4.lt j hj; omega
            · intro j hj
              rcases f4 j hj with h | h
              · exact hF j h
              · omega
            · intro j hj
              rcases hG6 j hj with h | h
              · exact hG j h
              · omega
            · exact ((hu.trans u4 (fun j hj => .inr (hF j hj))).trans u5 (by simp)).trans u6 (fun j hj => .inr (hG j hj))
      · have hge : i = xs.length := by
          have : ¬ i < xs.length := by simpa using hc
          omega
        subst hge
        rw [List.take_length] at ho hin
        have hnum : ∀ j (hj : j < xs.length), ∃ a, aindexAddr Try.prog 26 nv (.i .i64 j) = some a ∧ aload Try.prog H' 3 a = some (numV L xs[j]) := fun j hj => by
          obtain ⟨a, ha, hl⟩ := ho.sl.at1 (P := Try.prog) (k := .i64) (i := j) qelem_26 qsize_3 qagg_3 (by omega) (by simpa using hj)
          exact ⟨a, ha, by rw [hl]; simp [hj]⟩
        refine AW_exit (then_exit (then_exit (block_here ?_)))
        refine AW_seq ?_
        refine AW_seq ?_
        refine AW_reg [0, 3, 4, 8] fun K hK => ?_ -- region 16
        simp [init_eq]
        refine hK _ _ ?_; clear hK K
        refine AW_block ?_
        refine AW_loopx (fun i : Nat => ⟨127, [(0, v), (3, b), (4, nv), (8, .i .i64 i)]⟩) (fun i H4 => H4 = H' ∧ i ≤ xs.length) (fun i => xs.length - i) 0 (by simp) ⟨rfl, by omega⟩ fun i H4 hM => ?_ -- loop
        obtain ⟨rfl, hi2⟩ := hM
        refine AW_seq ?_
        refine AW_seq ?_
        refine AW_reg [0, 3, 4, 8, 60] fun K hK => ?_ -- region 17
        simp [init_eq, hlen]
        refine hK _ _ ?_; clear hK K
        refine AW_cond' rfl rfl (fun hc => ?_) (fun hc => ?_)
        · have hlt : i < xs.length := by simpa using hc
          obtain ⟨a, ha, hla⟩ := hat H4 i hlt hu.ext
          obtain ⟨c, hc1, hc2⟩ := hnum i hlt
          have hm : xs[i] ∈ L := hin _ (List.getElem_mem hlt)
          refine AW_skip ?_
          refine AW_seq ?_
          refine AW_block ?_
          refine AW_seq ?_
          refine AW_reg [0, 3, 4, 8, 9, 10] fun K hK => ?_ -- region 19
          simp [init_eq, ha, hla]
          refine ACalls.mono (look_ok hb xs[i]) fun r H5 ⟨hr, e⟩ => ?_ -- (*hallmoot/book.Book).Look
          subst hr e
          simp only [hm, if_true]
          try simp
          refine hK _ _ ?_; clear hK K
          refine AW_seq ?_
          refine AW_reg [0, 3, 4, 8, 9, 10, 11, 12] fun K hK => ?_ -- region 20
          simp [init_eq, hc1, hc2, numV]
          refine ACalls.mono (content_ok hb (by omega) _) fun r H5 ⟨hr, e⟩ => ?_ -- (*hallmoot/book.Book).Content
          subst hr e
          have e1 : (if 1 ≤ (((L.idxOf xs[i] : Nat) : Int) + 1) then L[((((L.idxOf xs[i] : Nat) : Int) + 1) - 1).toNat]? else none) = some xs[i] := by
            rw [if_pos (by omega), show ((((L.idxOf xs[i] : Nat) : Int) + 1) - 1).toNat = L.idxOf xs[i] by omega, idx_get hm]
          rw [e1]
          try simp
          refine hK _ _ ?_; clear hK K
          refine AW_seq ?_
          refine AW_seq ?_
          refine AW_reg [0, 3, 4, 8, 102] fun K hK => ?_ -- region 21
          simp [init_eq, hc1, hc2, numV, ha, hla]
          refine hK _ _ ?_; clear hK K
          refine AW_cond' rfl rfl (fun hc => ?_) (fun hc => ?_)
          · cases hc
          · refine AW_skip ?_
            refine AW_seq ?_
            refine AW_reg [0, 3, 4, 8, 13] fun K hK => ?_ -- region 23
            simp [init_eq]
            refine hK _ _ ?_; clear hK K
            refine AW_block ?_
            refine AW_loopx (fun k : Nat => ⟨127, [(0, v), (3, b), (4, nv), (8, .i .i64 i), (13, .i .i64 k)]⟩) (fun k H4 => H4 = H5 ∧ k ≤ i) (fun k => i - k) 0 (by simp) ⟨rfl, by omega⟩ fun k H4 hM => ?_ -- loop
            obtain ⟨rfl, hk⟩ := hM
            refine AW_seq ?_
            refine AW_seq ?_
            refine AW_reg [0, 3, 4, 8, 13, 105] fun K hK => ?_ -- region 24
            simp [init_eq]
            refine hK _ _ ?_; clear hK K
            refine AW_cond' rfl rfl (fun hc => ?_) (fun hc => ?_)
            · have hki : k < i := by simpa using hc
              obtain ⟨a', ha', hla'⟩ := hat H4 k (by omega) hu.ext
              obtain ⟨c', hc1', hc2'⟩ := hnum k (by omega)
              have hm' : xs[k] ∈ L := hin _ (List.getElem_mem _)
              refine AW_skip ?_
              refine AW_seq ?_
              refine AW_block ?_
              refine AW_seq ?_
              have heq : ((xs[k] == xs[i]) == (((L.idxOf xs[k] : Nat) : Int) + 1 == ((L.idxOf xs[i] : Nat) : Int) + 1)) = true := by
                by_cases e : xs[k] = xs[i]
                · simp [e]
                · have : L.idxOf xs[k] ≠ L.idxOf xs[i] := fun h => by
                    have g1 := idx_get hm'
                    rw [h, idx_get hm] at g1
                    exact e (Option.some.inj g1).symm
                  have e2 : (xs[k] == xs[i]) = false := by simpa using e
                  have e3 : ((((L.idxOf xs[k] : Nat) : Int) + 1) == ((L.idxOf xs[i] : Nat) : Int) + 1) = false := beq_eq_false_iff_ne.2 (by omega)
                  rw [e2, e3]; rfl
              refine AW_regd [0, 3, 4, 8, 13, 126] pl_3_26 pe_3_26 (by kernel_rfl) (by kernel_rfl) (by decide) fun K hK => ?_
              simp [init_eq, pl_3_26, ha, hla, ha', hla', hc1, hc2, hc1', hc2', numV, heq]
              refine hK _ _ ?_; clear hK K
              refine AW_cond' rfl rfl (fun hc => ?_) (fun hc => ?_)
              · cases hc
              · refine AW_skip ?_
                refine AW_reg [0, 3, 4, 8, 13] fun K hK => ?_ -- region 25
                simp [init_eq, wrap_id (x := (k : Int) + 1) (by omega) (by omega)]
                refine hK _ _ ?_; clear hK K
                exact rend ⟨k + 1, by simp, ⟨rfl, by omega⟩, by omega⟩ -- round's end
            · refine AW_exit (then_exit (then_exit (block_here ?_)))
              refine AW_reg [0, 3, 4, 8] fun K hK => ?_ -- region 18
              simp [init_eq, wrap_id (x := (i : Int) + 1) (by omega) (by omega)]
              refine hK _ _ ?_; clear hK K
              exact rend ⟨i + 1, by simp, ⟨rfl, by omega⟩, by omega⟩ -- round's end
        · refine AW_exit (then_exit (then_exit (block_here ?_)))
          refine AW_seq ?_
          refine AW_reg [2] fun K hK => ?_ -- region 28
          simp [init_eq]
          refine hK _ _ ?_; clear hK K
          refine AW_ret (end_ret rfl ?_)
          rfl

open Go.ChangeShapes Go.WideShapes Go.ChangeAt Go.RowKit
theorem flatten_map1 {α : Type} (f : α → V) : ∀ xs : List α, (xs.map fun s => [f s]).flatten = xs.map f
  | [] => rfl
  | x :: xs => by rw [List.map_cons, List.flatten_cons, flatten_map1 f xs]; rfl
theorem tv_strs {H : AH} {v : V} (h : TVal Try.prog H 22 v) : ∃ xs : List (List UInt8), Sl H v 1 (xs.map .s) := by
  obtain ⟨v', ls, h1, h2, h3, h4, h5⟩ := TV.slice (h.leaf qagg_22) Try.underlying22 cellsOf_9
  obtain rfl : v = v' := by simpa using h1
  obtain ⟨xs, rfl⟩ := exists_map (f := fun s : List UInt8 => [V.s s]) (ls := ls) fun l hl => by
    obtain ⟨s, e, _⟩ := (h4 l hl).str Try.underlying9
    exact ⟨s, e⟩
  have := h3.1
  have e : (xs.map fun s : List UInt8 => [V.s s]).flatten = xs.map .s := flatten_map1 _ xs
  rw [e] at this
  exact ⟨xs, this⟩

theorem only_lifted (os : Os) (started : os.Started) (H : Type) (enc : TypeId × Value → H) :
    ReturnsInHanded {} Try.checked os 3 .any (Rows.bookOnlySpec.pre6 enc Try.prog Try.f3 Rows.bookOnlyRow.domain false) (Rows.bookOnlySpec.post enc Try.prog Try.f3 false true false false) := by
  refine law_lifted (C := Try.checked) (tb := 4) own started (by kernel_rfl) Try.func3
    (ChangeSpec.witness6 (enc := enc) (C := Try.checked) false ⟨#[], #[.slice none 0 0], []⟩ 8 (by kernel_rfl) (by kernel_rfl) (by kernel_rfl) (by kernel_rfl))
    laid ?_ ?_ rfl Try.underlying4 rfl ?_ ?_
  · intro t ht
    have ht' : t ∈ [22] := ht
    simp only [List.mem_cons, List.not_mem_nil, or_false] at ht'
    subst ht'
    exact ⟨by kernel_rfl, fun _ => by kernel_rfl⟩
  · intro t ht
    have ht' : t ∈ [22] := ht
    simp only [List.mem_cons, List.not_mem_nil, or_false] at ht'
    subst ht'
    exact ⟨by kernel_rfl, of_decide_eq_true (by kernel_rfl)⟩
  · intro ds hl
    have hl' : ds.length = 1 := hl
    clear hl
    rcases ds with _ | ⟨a, _ | ⟨b, r⟩⟩
    · simp at hl'
    · rfl
    · simp at hl'
  · intro H vs hv
    have hv' : TVals Try.prog H [22] vs := hv
    clear hv
    rcases vs with _ | ⟨a, _ | ⟨b, r⟩⟩
    · exact hv'.elim
    · obtain ⟨xs, hx⟩ := tv_strs hv'.1
      exact only_law H a xs hx
    · exact hv'.2.elim

/-- THE STATEMENT. -/
theorem bookOnly_holds : Rows.BookOnlySaid :=
  OpenClaim.holds_of_wide 3 Try.f3 rfl rfl rfl rfl rfl rfl rfl ⟨rfl, rfl, rfl, rfl, rfl⟩ rfl rfl rfl rfl rfl (by kernel_rfl) Try.func3 (by kernel_rfl)
    (of_decide_eq_true (by kernel_rfl)) (by unfold Func.isWrapper; first | (rw [if_pos (by decide +kernel)]; kernel_rfl) | (rw [if_neg (by decide +kernel)]; exact ⟨rfl, rfl⟩))
    (fun os started H enc _ => only_lifted os started H enc)
end Go.Proofs.Ytmbjcpjhlceenaa
