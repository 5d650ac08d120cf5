/-
  TallyEnough: the walk.
-/
import Derived.Test.YtdioggohbfgnfaaEnough2
set_option linter.unusedVariables false
set_option linter.unusedSimpArgs false
namespace Go.Proofs.Ytdioggohbfgnfaa
open Go Go.Abs Go.Proofs
set_option maxRecDepth 100000
attribute [local irreducible] AEnd AW ACalls

theorem Own.vlt {H : AH} {v : V} {sz : Nat} {cs : List V} {F : List Nat} (h : Own H v sz cs F) {n : Nat} (hn : H.next ≤ n) : V.lt n v = true := by
  have hl := h.lt
  rcases h with ⟨c, h1, h2, h3⟩ | ⟨id, g, len, h1, h2, h3, h4⟩
  · subst h1; rfl
  · subst h1 h4; have := hl id (by simp); simp; omega
theorem Two.upd {H G G' : AH} {f fa fb : Int} {A B : Votes} {ca cb : Nat} (h : Two H G f fa fb A B ca cb) {F : List Nat} (hu : Upd G G' F) (hF : ∀ j ∈ F, H.next + 10 ≤ j) : Two H G' f fa fb A B ca cb :=
  h.ext fun j hj => hu.2 j (by have := h.next; omega) fun hm => by have := hF j hm; omega
theorem votesOf_take (l : List Act) {i : Nat} (hi : i < l.length) : votesOf (l.take (i + 1)) = votesOf (l.take i) ++ (if l[i].kind = 0 then [l[i].cert] else []) := by
  unfold votesOf
  rw [List.take_succ_eq_append_getElem hi, List.filter_append, List.map_append]
  congr 1
  by_cases h : l[i].kind = 0 <;> simp [h]
theorem tell_acc {f : Int} {cs : List Cert} {c : Cert} (h : cs.length < 255) (hk : (tell f cs c).kind ≠ 0) :
    acc f c = true ∧ qtimes 2 f ≤ pop (orOf f c.plain (cs ++ [c])) ∧ tell f cs c = { c with signers := orOf f c.plain (cs ++ [c]) } := by
  have e := tell_eq f cs c h
  by_cases hc : acc f c = true ∧ qtimes 2 f ≤ pop (orOf f c.plain (cs ++ [c]))
  · rw [if_pos hc] at e; exact ⟨hc.1, hc.2, e⟩
  · rw [if_neg hc] at e; rw [e] at hk; exact absurd rfl hk
theorem tell_none {f : Int} {cs : List Cert} {c : Cert} (h : cs.length < 255) (hk : acc f c = false ∨ (tell f cs c).kind = 0) : (tell f cs c).signers = 0#32 := by
  have e := tell_eq f cs c h
  by_cases hc : acc f c = true ∧ qtimes 2 f ≤ pop (orOf f c.plain (cs ++ [c]))
  · rw [if_pos hc] at e
    rcases hk with hk | hk
    · rw [hc.1] at hk; cases hk
    · rw [e] at hk; exact absurd hk (acc_spec hc.1).1
  · rw [if_neg hc] at e; rw [e]; rfl

theorem enough_law (H : AH) (f : Int) {vl vt : V} {l : List Act} {ts : List UInt8} (hl : RS H vl 21 (l.map Act.cells)) (ht : RS H vt 1 (ts.map fun b => [.i .u8 b.toNat])) :
    ACalls Try.prog 3 [.i .i64 f, vl, vt] H fun r H' => r = .b true := by
  have ll : ∀ G, alen Try.prog G 22 vl = some (.i .i64 l.length) := fun G => by
    have := hl.len (P := Try.prog) (H' := G) qelem_22
    simpa using this
  have lt : ∀ G, alen Try.prog G 23 vt = some (.i .i64 ts.length) := fun G => by
    have := ht.len (P := Try.prog) (H' := G) qelem_23
    simpa using this
  have hvt := ht.lt (n := H.next) (Nat.le_refl _)
  refine ACalls_body Try.func3 rfl rfl ?_
  refine AW_seq ?_
  refine AW_reg [0, 1, 2] fun K hK => ?_ -- region 0
  simp [init_eq]
  refine hK _ _ ?_; clear hK K
  refine AW_seq ?_
  refine AW_seq ?_
  refine AW_reg [0, 1, 2, 31] fun K hK => ?_ -- region 1
  simp [init_eq]
  refine ACalls.mono (alive_ok H) fun r H' ⟨hr, e⟩ => ?_ -- hallmoot/hallmootlaw22.alive
  subst hr e
  simp
  refine hK _ _ ?_; clear hK K
  refine AW_cond' rfl rfl (fun hc => ?_) (fun hc => ?_)
  · cases hc
  refine AW_skip ?_
  refine AW_seq ?_
  refine AW_reg [0, 1, 2, 7, 8] fun K hK => ?_ -- region 3
  simp [init_eq]
  refine ACalls.mono (new_ok H' f) fun r H1 h1 => ?_ -- hallmoot/tally.New
  rcases h1 with ⟨hq, rfl, rfl⟩ | ⟨hq, rfl, rfl⟩
  · -- no tally
    simp
    refine hK _ _ ?_; clear hK K
    refine AW_seq ?_
    refine AW_reg [0, 1, 2, 7, 8, 9] fun K hK => ?_ -- region 4
    simp [init_eq]
    refine ACalls.mono (new_ok H1 f) fun r H2 h2 => ?_ -- hallmoot/tally.New
    rcases h2 with ⟨_, rfl, rfl⟩ | ⟨hq', _, _⟩
    · simp
      refine hK _ _ ?_; clear hK K
      refine AW_seq ?_
      refine AW_seq ?_
      refine AW_reg [53] fun K hK => ?_ -- region 5
      simp [init_eq]
      refine hK _ _ ?_; clear hK K
      refine AW_cond' rfl rfl (fun hc => ?_) (fun hc => ?_)
      · refine AW_seq ?_
        refine AW_reg [6] fun K hK => ?_ -- region 6
        simp [init_eq]
        refine hK _ _ ?_; clear hK K
        exact AW_ret (end_ret rfl rfl)
      · cases hc
    · exact absurd hq hq'
  simp
  refine hK _ _ ?_; clear hK K
  refine AW_seq ?_
  refine AW_reg [0, 1, 2, 7, 8, 9] fun K hK => ?_ -- region 4
  simp [init_eq]
  refine ACalls.mono (new_ok (newT H' f) f) fun r H2 h2 => ?_ -- hallmoot/tally.New
  rcases h2 with ⟨hq', _, _⟩ | ⟨_, rfl, rfl⟩
  · exact absurd hq' hq
  have two0 := two_new H' f
  have hnn : (newT H' f).next + 4 = H'.next + 9 := by simp [newT]
  rw [hnn]
  generalize newT (newT H' f) f = G0 at two0 hK ⊢
  simp
  refine hK _ _ ?_; clear hK K
  refine AW_seq ?_
  refine AW_seq ?_
  refine AW_regto [0, 1, 2, 7, 9, 53] ⟨211, [(0, .i .i64 f), (1, vl), (2, vt), (7, .p (some (H'.next + 4, 0, 0))), (9, .p (some (H'.next + 9, 0, 0))), (53, .b (decide (60 < (l.length : Int)) || decide (60 < (ts.length : Int))))]⟩ G0 (fun K hk => ?_) ?_ -- region 5
  · by_cases h1 : 60 < (l.length : Int)
    · simp [init_eq, ll, h1]
      simpa [h1] using hk
    · simp [init_eq, ll, lt, h1]
      simpa [h1] using hk
  refine AW_cond' rfl rfl (fun hc => ?_) (fun hc => ?_)
  · refine AW_seq ?_
    refine AW_reg [6] fun K hK => ?_ -- region 6
    simp [init_eq]
    refine hK _ _ ?_; clear hK K
    exact AW_ret (end_ret rfl rfl)
  have hlen : l.length ≤ 60 ∧ ts.length ≤ 60 := by
    simp at hc; omega
  refine AW_skip ?_
  refine AW_seq ?_
  refine AW_reg [0, 1, 2, 7, 9, 11] fun K hK => ?_ -- region 7
  simp [init_eq]
  refine hK _ _ ?_; clear hK K
  refine AW_seq ?_
  refine AW_seq ?_
  refine AW_reg [0, 1, 2, 7, 9, 11, 12] fun K hK => ?_ -- region 8
  simp [init_eq]
  refine hK _ _ ?_; clear hK K
  refine AW_block ?_
  refine AW_loopx (fun x : Nat × V => ⟨211, [(0, .i .i64 f), (1, vl), (2, vt), (7, .p (some (H'.next + 4, 0, 0))), (9, .p (some (H'.next + 9, 0, 0))), (11, x.2), (12, .i .i64 x.1)]⟩)
    (fun x G => x.1 ≤ l.length ∧ ∃ F, Two H' G f 1 1 [] [] 0 0 ∧ Own G x.2 8 (cc (votesOf (l.take x.1))).flatten F ∧ ∀ j ∈ F, H'.next + 10 ≤ j)
    (fun x => l.length - x.1) (0, .sl none 0 false) (by simp) ⟨by simp, [], two0, by simpa [votesOf] using Own.nil G0 8 false, by simp⟩ fun x G hM => ?_ -- loop
  obtain ⟨i, w⟩ := x
  obtain ⟨hi, F, two, ho, hF⟩ := hM
  dsimp only at hi ho
  refine AW_seq ?_
  refine AW_seq ?_
  refine AW_reg [0, 1, 2, 7, 9, 11, 12, 57] fun K hK => ?_ -- region 9
  simp [init_eq, ll]
  refine hK _ _ ?_; clear hK K
  refine AW_cond' rfl rfl (fun hc => ?_) (fun hc => ?_)
  · have hlt : i < l.length := by simpa using hc
    obtain ⟨a, a0, a3, a32, q1, q2, q3, q4, q5, q6, q7⟩ := act_at (hl.same two.lo) i hlt
    have hvl : (votesOf (l.take i)).length ≤ 60 := by have := votesOf_len (l.take i); simp at this; omega
    refine AW_skip ?_
    refine AW_cut (fun ρ' G' => ∃ w', ρ' = ⟨211, [(0, .i .i64 f), (1, vl), (2, vt), (7, .p (some (H'.next + 4, 0, 0))), (9, .p (some (H'.next + 9, 0, 0))), (11, w'), (12, .i .i64 i)]⟩ ∧
      ∃ F, Two H' G' f 1 1 [] [] 0 0 ∧ Own G' w' 8 (cc (votesOf (l.take (i + 1)))).flatten F ∧ ∀ j ∈ F, H'.next + 10 ≤ j) ?_ ?_
    · refine AW_block ?_
      refine AW_seq ?_
      refine AW_reg [0, 1, 2, 7, 9, 11, 12, 65] fun K hK => ?_ -- region 11
      simp [init_eq, q1, q2, q3]
      refine hK _ _ ?_; clear hK K
      refine AW_cond' rfl rfl (fun hc => ?_) (fun hc => ?_)
      · have hk0 : l[i].kind = 0 := by simpa using hc
        obtain ⟨G1, w', G2, F2, e1, e2, o2, u2, f2⟩ := Own.push appC qelem_29 qsize_32 qzero_32 rfl (by simp) (by decide) ho (cc_len _) (x := .agg l[i].cert.cells) rfl (by simp) (by simp [roomOk]; omega)
        refine AW_reg [0, 1, 2, 7, 9, 11, 12] fun K hK => ?_ -- region 12
        simp [init_eq, q1, q4, q5, e1, e2]
        refine hK _ _ ?_; clear hK K
        refine bend (rend ⟨_, by simp, w', rfl, F2, two.upd u2 hF, ?_, fun j hj => ?_⟩)
        · rw [votesOf_take l hlt, if_pos hk0]; simpa [cc] using o2
        · rcases f2 j hj with h | h
          · exact hF j h
          · have := two.next; omega
      · have hk0 : l[i].kind ≠ 0 := by simpa using hc
        refine AW_skip ?_
        refine bend (rend ⟨_, by simp, w, rfl, F, two, ?_, hF⟩)
        rw [votesOf_take l hlt, if_neg hk0, List.append_nil]; exact ho
    · rintro ρ' G' ⟨w', rfl, F', two', ho', hF'⟩
      refine AW_reg [0, 1, 2, 7, 9, 11, 12] fun K hK => ?_ -- region 10
      simp [init_eq, wrap_id (x := (i : Int) + 1) (by omega) (by omega)]
      refine hK _ _ ?_; clear hK K
      exact rend ⟨(i + 1, w'), by simp, ⟨hlt, F', two', ho', hF'⟩, by dsimp only; omega⟩ -- round's end
  · have hie : i = l.length := Nat.le_antisymm hi (Nat.not_lt.1 (by simpa using hc))
    rw [hie, List.take_length] at ho
    have hvl := votesOf_len l
    generalize votesOf l = cs at ho hvl
    have hcs : cs.length ≤ 60 := by omega
    clear hie hvl hc hi
    refine AW_exit (then_exit (then_exit (block_here ?_)))
    refine AW_seq ?_
    refine AW_reg [0, 2, 7, 9, 11, 13] fun K hK => ?_ -- region 13
    simp [init_eq]
    refine hK _ _ ?_; clear hK K
    refine AW_seq ?_
    refine AW_reg [0, 2, 7, 9, 11, 13, 14] fun K hK => ?_ -- region 14
    simp [init_eq]
    refine hK _ _ ?_; clear hK K
    refine AW_seq ?_
    refine AW_seq ?_
    refine AW_reg [0, 2, 7, 9, 11, 13, 14, 15] fun K hK => ?_ -- region 15
    simp [init_eq]
    refine hK _ _ ?_; clear hK K
    refine AW_block ?_
    refine AW_loopx (fun x : Nat × V => ⟨211, [(0, .i .i64 f), (2, vt), (7, .p (some (H'.next + 4, 0, 0))), (9, .p (some (H'.next + 9, 0, 0))), (11, w), (13, u32 (if x.1 = 0 then 0#32 else bestAt f cs x.1)), (14, x.2), (15, .i .i64 x.1)]⟩)
      (fun x G => x.1 ≤ cs.length ∧ ∃ F Ft c1, Two H' G f 1 1 (runV f (cs.take x.1)).1 [] c1 0 ∧ (runV f (cs.take x.1)).2 = c1 ∧ Own G w 8 (cc cs).flatten F ∧ Own G x.2 1 (bools ((cs.take x.1).map (acc f))).flatten Ft ∧ (∀ j ∈ F, H'.next + 10 ≤ j) ∧ (∀ j ∈ Ft, H'.next + 10 ≤ j) ∧ ∀ j ∈ F, j ∉ Ft)
      (fun x => cs.length - x.1) (0, .sl none 0 false) (by simp) ⟨by simp, F, [], 0, two, rfl, ho, by simpa [bools] using Own.nil G 1 false, hF, by simp, by simp⟩ fun x G2 hM => ?_ -- loop
    clear two ho hF G F
    obtain ⟨i, tk⟩ := x
    obtain ⟨hi, F, Ft, c1, two, hclk, ho, hob, hF, hFt, hd⟩ := hM
    dsimp only at hi hob two hclk
    refine AW_seq ?_
    refine AW_seq ?_
    refine AW_reg [0, 2, 7, 9, 11, 13, 14, 15, 77] fun K hK => ?_ -- region 16
    simp [init_eq, Own.certs ho]
    refine hK _ _ ?_; clear hK K
    refine AW_cond' rfl rfl (fun hc => ?_) (fun hc => ?_)
    · have hlt : i < cs.length := by simpa using hc
      have hnext := two.next
      have hrl := runV_len f (cs.take i)
      simp only [List.length_take] at hrl
      have hbest : (if i = 0 then 0#32 else bestAt f cs i) = 0#32 := by
        split
        · rfl
        · unfold bestAt; rw [if_neg (by omega)]
      obtain ⟨a, a6, q1, q2, q3, q4⟩ := Own.cert ho hlt
      refine AW_skip ?_
      refine AW_cut (fun ρ' G' => ∃ tk', ρ' = ⟨211, [(0, .i .i64 f), (2, vt), (7, .p (some (H'.next + 4, 0, 0))), (9, .p (some (H'.next + 9, 0, 0))), (11, w), (13, u32 (bestAt f cs (i + 1))), (14, tk'), (15, .i .i64 i)]⟩ ∧
        ∃ F Ft c1, Two H' G' f 1 1 (runV f (cs.take (i + 1))).1 [] c1 0 ∧ (runV f (cs.take (i + 1))).2 = c1 ∧ Own G' w 8 (cc cs).flatten F ∧ Own G' tk' 1 (bools ((cs.take (i + 1)).map (acc f))).flatten Ft ∧ (∀ j ∈ F, H'.next + 10 ≤ j) ∧ (∀ j ∈ Ft, H'.next + 10 ≤ j) ∧ ∀ j ∈ F, j ∉ Ft) ?_ ?_
      · refine AW_block ?_
        refine AW_seq ?_
        refine AW_reg [0, 2, 7, 9, 11, 13, 14, 15, 16, 17] fun K hK => ?_ -- region 18
        simp [init_eq, q1, q2]
        refine ACalls.mono (vote_ok G2 two.a (by omega) (by omega) _) fun r G3 ⟨hr, e⟩ => ?_ -- (*hallmoot/tally.Tally).Vote
        have two3 := two.voteA cs[i]
        have u3 : Upd G2 G3 [H'.next] := e ▸ Upd.set _ _ _ (by simp)
        rw [← e] at two3
        clear e
        have o3 := ho.upd u3 (fun j hj hm => by have := hF j hj; simp at hm; omega)
        have b3 := hob.upd u3 (fun j hj hm => by have := hFt j hj; simp at hm; omega)
        have hte : vres f 1 (runV f (cs.take i)).1 cs[i] = tell f (cs.take i) cs[i] := rfl
        rw [hte] at hr
        subst hr
        simp [astore, AH.get_new, V.cells]
        refine hK _ _ ?_; clear hK K
        generalize hG4 : (G3.new _).set G3.next _ = G4
        have n4 : G4.next = G3.next + 1 := by rw [← hG4]; simp
        have x4 : G4.get G3.next = some (.cells (tell f (cs.take i) cs[i]).cells 0 false 0) := by rw [← hG4]; simp [AH.get_set]
        have u4 : Upd G3 G4 [] := ⟨by omega, fun j hj _ => by rw [← hG4]; simp [AH.get_set, AH.get_new, show j ≠ G3.next by omega]⟩
        clear hG4
        have two4 := two3.upd u4 (by simp)
        have o4 := o3.upd u4 (by simp)
        have b4 := b3.upd u4 (by simp)
        have hacc := verr_acc (f := f) (es := (runV f (cs.take i)).1) (c := cs[i]) (by omega)
        have hve : decide (verr f 1 (runV f (cs.take i)).1 cs[i] = 0) = acc f cs[i] := by
          cases h : acc f cs[i]
          · simp only [decide_eq_false_iff_not]; intro h'; rw [hacc.1 h'] at h; cases h
          · simp only [decide_eq_true_eq]; exact hacc.2 h
        obtain ⟨G5, tk', G6, Ft', e1, e2, b6, u6, f6⟩ := Own.push appB qelem_37 qsize_4 qzero_4 rfl (by simp) (by decide) b4 (bools_len _) (x := .b (acc f cs[i])) rfl (by simp) (by simp [roomOk, bools]; omega)
        have two6 := two4.upd u6 hFt
        have o6 := o4.upd u6 hd
        have n3 := u3.1
        have n6 := u6.1
        have hFt' : ∀ j ∈ Ft', H'.next + 10 ≤ j := fun j hj => by
          rcases f6 j hj with h | h
          · exact hFt j h
          · omega
        have hd' : ∀ j ∈ F, j ∉ Ft' := fun j hj hm => by
          rcases f6 j hm with h | h
          · exact hd j hj h
          · have := ho.lt j hj; omega
        have x6 : G6.get G3.next = some (.cells (tell f (cs.take i) cs[i]).cells 0 false 0) := u6.keep (fun hm => by have := hob.lt _ hm; omega) x4
        have hrun : runV f (cs.take (i + 1)) = run1 f (runV f (cs.take i)) cs[i] := by rw [List.take_succ_eq_append_getElem hlt, runV_snoc]
        have hb' : Own G6 tk' 1 (bools ((cs.take (i + 1)).map (acc f))).flatten Ft' := by
          rw [List.take_succ_eq_append_getElem hlt, List.map_append]
          simpa [bools] using b6
        have two' : Two H' G6 f 1 1 (runV f (cs.take (i + 1))).1 [] (vclk f 1 (runV f (cs.take i)).1 c1 cs[i]) 0 := by
          rw [hrun]; subst hclk; exact two6
        have hclk' : (runV f (cs.take (i + 1))).2 = vclk f 1 (runV f (cs.take i)).1 c1 cs[i] := by rw [hrun]; subst hclk; rfl
        refine AW_seq ?_
        refine AW_reg [0, 2, 7, 9, 11, 13, 14, 15, 16, 17] fun K hK => ?_ -- region 19
        simp [init_eq, hve, e1, e2]
        refine hK _ _ ?_; clear hK K
        refine AW_seq ?_
        refine AW_seq ?_
        have lx : ∀ t : V, True := fun _ => trivial
        refine AW_regto [0, 2, 7, 9, 11, 13, 14, 15, 16, 100] ⟨211, [(0, .i .i64 f), (2, vt), (7, .p (some (H'.next + 4, 0, 0))), (9, .p (some (H'.next + 9, 0, 0))), (11, w), (13, u32 0#32), (14, tk'), (15, .i .i64 i), (16, .p (some (G3.next, 0, 0))), (100, .b (!acc f cs[i] || decide ((tell f (cs.take i) cs[i]).kind = 0)))]⟩ G6 (fun K hk => ?_) ?_ -- region 20
        · by_cases hz : verr f 1 (runV f (cs.take i)).1 cs[i] = 0
          · have ha := hacc.1 hz
            simp [init_eq, hz, afieldAddr, aload, x6, hbest]
            simpa [ha] using hk
          · have ha : acc f cs[i] = false := by rw [← hve]; simpa using hz
            simp [init_eq, hz, hbest]
            simpa [ha] using hk
        refine AW_cond' rfl rfl (fun hc => ?_) (fun hc => ?_)
        · have hnone : (tell f (cs.take i) cs[i]).signers = 0#32 := tell_none (by simp; omega) (by simpa using hc)
          have hb0 : bestAt f cs (i + 1) = 0#32 := by
            by_cases h : i + 1 = cs.length
            · rw [bestAt_last f cs i h]; exact hnone
            · unfold bestAt; rw [if_neg h]
          refine AW_exit (then_exit (block_here ?_))
          exact rend ⟨⟨211, [(0, .i .i64 f), (2, vt), (7, .p (some (H'.next + 4, 0, 0))), (9, .p (some (H'.next + 9, 0, 0))), (11, w), (13, u32 0#32), (14, tk'), (15, .i .i64 i)]⟩, by simp [Env.sub], tk', by rw [hb0], F, Ft', _, two', hclk', o6, hb', hF, hFt', hd'⟩
        · have hak : acc f cs[i] = true ∧ (tell f (cs.take i) cs[i]).kind ≠ 0 := by
            cases h : acc f cs[i]
            · rw [h] at hc; cases hc
            · exact ⟨rfl, by simpa [h] using hc⟩
          obtain ⟨ha, hq, htl⟩ := tell_acc (by simp; omega) hak.2
          rw [List.take_append_getElem] at hq htl
          have hsig : (tell f (cs.take i) cs[i]).signers = orOf f cs[i].plain (cs.take (i + 1)) := by rw [htl]
          have hpl : ∀ x : Cert, acc f x = true → decide ((({ x with signers := (tell f (cs.take i) cs[i]).signers } : Cert)) = tell f (cs.take i) cs[i]) = decide (x.plain = cs[i].plain) := fun x hx => by
            have := same_key hx ha (tell f (cs.take i) cs[i]).signers
            have e : tell f (cs.take i) cs[i] = { cs[i] with signers := (tell f (cs.take i) cs[i]).signers } := by rw [htl]
            rw [← e] at this
            exact decide_eq_decide.2 this
          generalize hT : tell f (cs.take i) cs[i] = T at x6 hsig hpl hak
          have T6 : aload Try.prog G6 32 (.p (some (G3.next, 0, 0))) = some (.agg T.cells) := by simp [aload, x6, take_cells]
          refine AW_skip ?_
          refine AW_seq ?_
          refine AW_reg [0, 2, 7, 9, 11, 13, 14, 15, 16, 18] fun K hK => ?_ -- region 21
          simp [init_eq]
          refine hK _ _ ?_; clear hK K
          refine AW_seq ?_
          refine AW_seq ?_
          refine AW_reg [0, 2, 7, 9, 11, 13, 14, 15, 16, 18, 19] fun K hK => ?_ -- region 22
          simp [init_eq]
          refine hK _ _ ?_; clear hK K
          refine AW_block ?_
          refine AW_loop0 (fun k : Nat => ⟨211, [(0, .i .i64 f), (2, vt), (7, .p (some (H'.next + 4, 0, 0))), (9, .p (some (H'.next + 9, 0, 0))), (11, w), (13, u32 0#32), (14, tk'), (15, .i .i64 i), (16, .p (some (G3.next, 0, 0))), (18, u32 (orOf f cs[i].plain (cs.take k))), (19, .i .i64 k)]⟩) (fun k => k ≤ i + 1) (fun k => i + 1 - k) 0 (by simp [orOf]) (by omega) (by dsimp only; omega) fun hw k hk => ?_ -- loop
          refine AW_seq ?_
          refine AW_seq ?_
          refine AW_reg [0, 2, 7, 9, 11, 13, 14, 15, 16, 18, 19, 103] fun K hK => ?_ -- region 23
          simp [init_eq]
          refine hK _ _ ?_; clear hK K
          refine AW_cond' rfl rfl (fun hc => ?_) (fun hc => ?_)
          · have hki : k ≤ i := by simpa using hc
            have hkn : k < cs.length := by omega
            obtain ⟨ak, ak6, p1, p2, p3, p4⟩ := Own.cert o6 hkn
            refine AW_skip ?_
            refine AW_cut (fun ρ' G' => ρ' = ⟨211, [(0, .i .i64 f), (2, vt), (7, .p (some (H'.next + 4, 0, 0))), (9, .p (some (H'.next + 9, 0, 0))), (11, w), (13, u32 0#32), (14, tk'), (15, .i .i64 i), (16, .p (some (G3.next, 0, 0))), (18, u32 (orOf f cs[i].plain (cs.take (k + 1)))), (19, .i .i64 k)]⟩ ∧ G6.next ≤ G'.next ∧ ∀ j, j < G6.next → G'.get j = G6.get j) ?_ ?_
            · refine AW_block ?_
              refine AW_seq ?_
              refine AW_reg [0, 2, 7, 9, 11, 13, 14, 15, 16, 18, 19, 20] fun K hK => ?_ -- region 25
              simp [init_eq, p1, p2, astore, AH.get_new, V.cells]
              refine hK _ _ ?_; clear hK K
              generalize hG7 : (G6.new _).set G6.next _ = G7
              have n7 : G7.next = G6.next + 1 := by rw [← hG7]; simp
              have x7 : G7.get G6.next = some (.cells cs[k].cells 0 false 0) := by rw [← hG7]; simp [AH.get_set]
              have s7 : ∀ j, j < G6.next → G7.get j = G6.get j := fun j hj => by rw [← hG7]; simp [AH.get_set, AH.get_new, show j ≠ G6.next by omega]
              clear hG7
              have b7 := (s7 G3.next (by have := AH.get_lt x6; omega)).trans x6
              refine AW_seq ?_
              refine AW_reg [0, 2, 7, 9, 11, 13, 14, 15, 16, 18, 19, 20] fun K hK => ?_ -- region 26
              simp [init_eq, afieldAddr, aload, astore, b7, x7, u32_cells]
              refine hK _ _ ?_; clear hK K
              generalize hG8 : G7.set G6.next _ = G8
              have n8 : G8.next = G6.next + 1 := by rw [← hG8]; simp [n7]
              have x8 : G8.get G6.next = some (.cells (Cert.cells { cs[k] with signers := T.signers }) 0 false 0) := by rw [← hG8]; simp [AH.get_set, n7]
              have s8 : ∀ j, j < G6.next → G8.get j = G6.get j := fun j hj => by rw [← hG8]; simp [AH.get_set, show j ≠ G6.next by omega, s7 j hj]
              clear hG8
              have u8 : Upd G6 G8 [] := ⟨by omega, fun j hj _ => s8 j hj⟩
              have o8 := o6.upd u8 (by simp)
              have b8 := hb'.upd u8 (by simp)
              have T8 : aload Try.prog G8 32 (.p (some (G3.next, 0, 0))) = some (.agg T.cells) := by
                have := (s8 G3.next (by have := AH.get_lt x6; omega)).trans x6
                simp [aload, this, take_cells]
              have X8 : aload Try.prog G8 32 (.p (some (G6.next, 0, 0))) = some (.agg (Cert.cells { cs[k] with signers := T.signers })) := by
                simp [aload, x8, take_cells]
              obtain ⟨ab, p5, p6⟩ := Own.bool b8 (i := k) (by simp; omega)
              obtain ⟨ak, ak6, p1, p2, p3, p4⟩ := Own.cert o8 hkn
              have ebk : ((cs.take (i + 1)).map (acc f))[k]'(by simp; omega) = acc f cs[k] := by simp
              rw [ebk] at p6
              have hor : orOf f cs[i].plain (cs.take (k + 1)) = orOf f cs[i].plain (cs.take k) ||| (if acc f cs[k] = true ∧ cs[k].plain = cs[i].plain then cs[k].signers else 0#32) := by
                rw [List.take_succ_eq_append_getElem hkn, orOf_append]; simp [orOf]
              refine AW_seq ?_
              refine AW_regto [0, 2, 7, 9, 11, 13, 14, 15, 16, 18, 19, 121] ⟨211, [(0, .i .i64 f), (2, vt), (7, .p (some (H'.next + 4, 0, 0))), (9, .p (some (H'.next + 9, 0, 0))), (11, w), (13, u32 0#32), (14, tk'), (15, .i .i64 i), (16, .p (some (G3.next, 0, 0))), (18, u32 (orOf f cs[i].plain (cs.take k))), (19, .i .i64 k), (121, .b (acc f cs[k] && decide (cs[k].plain = cs[i].plain)))]⟩ G8 (fun K hk => ?_) ?_ -- region 27
              · cases hx : acc f cs[k]
                · rw [hx] at p6
                  simp [init_eq, p5, p6]
                  simpa [hx] using hk
                · rw [hx] at p6
                  simp [init_eq, p5, p6, T8, X8, hpl _ hx]
                  simpa [hx] using hk
              refine AW_cond' rfl rfl (fun hc => ?_) (fun hc => ?_)
              · have hboth : acc f cs[k] = true ∧ cs[k].plain = cs[i].plain := by simpa using hc
                refine AW_reg [0, 2, 7, 9, 11, 13, 14, 15, 16, 18, 19] fun K hK => ?_ -- region 28
                simp [init_eq, p1, p3, p4]
                refine hK _ _ ?_; clear hK K
                refine bend (rend ⟨⟨211, [(0, .i .i64 f), (2, vt), (7, .p (some (H'.next + 4, 0, 0))), (9, .p (some (H'.next + 9, 0, 0))), (11, w), (13, u32 0#32), (14, tk'), (15, .i .i64 i), (16, .p (some (G3.next, 0, 0))), (18, u32 (orOf f cs[i].plain (cs.take k) ||| cs[k].signers)), (19, .i .i64 k)]⟩, by simp [Env.sub], ?_, by omega, s8⟩)
                rw [hor, if_pos hboth]
              · have hboth : ¬ (acc f cs[k] = true ∧ cs[k].plain = cs[i].plain) := by simpa using hc
                refine AW_skip ?_
                refine bend (rend ⟨⟨211, [(0, .i .i64 f), (2, vt), (7, .p (some (H'.next + 4, 0, 0))), (9, .p (some (H'.next + 9, 0, 0))), (11, w), (13, u32 0#32), (14, tk'), (15, .i .i64 i), (16, .p (some (G3.next, 0, 0))), (18, u32 (orOf f cs[i].plain (cs.take k))), (19, .i .i64 k)]⟩, by simp [Env.sub], ?_, by omega, s8⟩)
                rw [hor, if_neg hboth, BitVec.or_zero]
            · rintro ρ' G' ⟨rfl, g1, g2⟩
              refine AW_reg [0, 2, 7, 9, 11, 13, 14, 15, 16, 18, 19] fun K hK => ?_ -- region 24
              simp [init_eq, wrap_id (x := (k : Int) + 1) (by omega) (by omega)]
              refine hK _ _ ?_; clear hK K
              refine rend ⟨k + 1, by simp, by omega, by omega, .inr ⟨g1, g2, ?_⟩⟩ -- round's end
              have w1 := Own.vlt o6 (Nat.le_refl _)
              have w2 := Own.vlt hb' (Nat.le_refl _)
              have w3 := AH.get_lt x6
              have w4 := two'.next
              have w5 := V.lt_mono (show H'.next ≤ G6.next by omega) hvt
              intro p hp
              simp only [List.mem_cons, List.not_mem_nil, or_false] at hp
              rcases hp with rfl | rfl | rfl | rfl | rfl | rfl | rfl | rfl | rfl | rfl | rfl <;> first | exact w1 | exact w2 | exact w5 | (simp; done) | (simp; omega)
          · have hke : k = i + 1 := Nat.le_antisymm hk (Nat.lt_of_not_le (by simpa using hc))
            subst hke
            refine AW_exit (then_exit (then_exit (block_here ?_)))
            refine AW_seq ?_
            refine AW_seq ?_
            refine AW_reg [0, 2, 7, 9, 11, 13, 14, 15, 16, 140] fun K hK => ?_ -- region 29
            simp [init_eq, afieldAddr, aload, x6]
            refine ACalls.mono (count_ok ..) fun r G' ⟨hr, e⟩ => ?_ -- hallmoot/quorum.Count
            subst hr e
            try simp
            refine ACalls.mono (quorum_ok ..) fun r G'' ⟨hr, e⟩ => ?_ -- hallmoot/quorum.Quorum
            subst hr e
            have hq1 : ¬ ((pop T.signers : Int) < qtimes 2 f) := by rw [hsig]; omega
            simp [hq1, afieldAddr, aload, x6, ← hsig]
            refine hK _ _ ?_; clear hK K
            refine AW_cond' rfl rfl (fun hc => ?_) (fun hc => ?_)
            · cases hc
            refine AW_skip ?_
            refine AW_seq ?_
            refine AW_reg [0, 2, 7, 9, 11, 13, 14, 15, 16, 145] fun K hK => ?_ -- region 31
            simp [init_eq, Own.certs o6, wrap_id (x := (cs.length : Int) - 1) (by omega) (by omega)]
            refine hK _ _ ?_; clear hK K
            refine AW_cond' rfl rfl (fun hc => ?_) (fun hc => ?_)
            · have hl1 : i + 1 = cs.length := by have : (i : Int) = (cs.length : Int) - 1 := (by simpa using hc); omega
              refine AW_reg [0, 2, 7, 9, 11, 13, 14, 15] fun K hK => ?_ -- region 32
              simp [init_eq, afieldAddr, aload, x6]
              refine hK _ _ ?_; clear hK K
              refine bend (rend ⟨⟨211, [(0, .i .i64 f), (2, vt), (7, .p (some (H'.next + 4, 0, 0))), (9, .p (some (H'.next + 9, 0, 0))), (11, w), (13, u32 T.signers), (14, tk'), (15, .i .i64 i)]⟩, by simp [Env.sub], tk', ?_, F, Ft', _, two', hclk', o6, hb', hF, hFt', hd'⟩)
              rw [bestAt_last f cs i hl1, hT]
            · have hl1 : ¬ i + 1 = cs.length := fun h => by have : ¬ (i : Int) = (cs.length : Int) - 1 := (by simpa using hc); omega
              refine AW_skip ?_
              refine bend (rend ⟨⟨211, [(0, .i .i64 f), (2, vt), (7, .p (some (H'.next + 4, 0, 0))), (9, .p (some (H'.next + 9, 0, 0))), (11, w), (13, u32 0#32), (14, tk'), (15, .i .i64 i)]⟩, by simp [Env.sub], tk', ?_, F, Ft', _, two', hclk', o6, hb', hF, hFt', hd'⟩)
              unfold bestAt; rw [if_neg hl1]
      · rintro ρ' G' ⟨tk', rfl, F', Ft', c1', two', hclk', ho', hob', hF', hFt', hd'⟩
        refine AW_reg [0, 2, 7, 9, 11, 13, 14, 15] fun K hK => ?_ -- region 17
        simp [init_eq, wrap_id (x := (i : Int) + 1) (by omega) (by omega)]
        refine hK _ _ ?_; clear hK K
        exact rend ⟨(i + 1, tk'), by simp, ⟨hlt, F', Ft', c1', two', hclk', ho', hob', hF', hFt', hd'⟩, by dsimp only; omega⟩ -- round's end
    · have hie : i = cs.length := Nat.le_antisymm hi (Nat.not_lt.1 (by simpa using hc))
      refine AW_exit (then_exit (then_exit (block_here ?_)))
      refine AW_seq ?_
      refine AW_seq ?_
      refine AW_reg [2, 9, 11, 13, 150] fun K hK => ?_ -- region 33
      simp [init_eq, Own.certs ho]
      refine hK _ _ ?_; clear hK K
      refine AW_cond' rfl rfl (fun hc => ?_) (fun hc => ?_)
      · refine AW_seq ?_
        refine AW_reg [6] fun K hK => ?_ -- region 34
        simp [init_eq]
        refine hK _ _ ?_; clear hK K
        exact AW_ret (end_ret rfl rfl)
      have hn0 : cs.length ≠ 0 := fun h => by rw [List.length_eq_zero_iff] at h; simp [h] at hc
      obtain ⟨m, hm⟩ : ∃ m, cs.length = m + 1 := ⟨cs.length - 1, by omega⟩
      rw [if_neg (by omega), show i = m + 1 by omega, bestAt_last f cs m hm.symm]
      generalize hbst : (tell f (cs.take m) (cs[m]'(by omega))).signers = best
      generalize (runV f (cs.take i)).1 = A at two
      refine AW_skip ?_
      refine AW_seq ?_
      refine AW_reg [2, 9, 11, 13, 21] fun K hK => ?_ -- region 35
      simp [init_eq, Own.certs ho, hm, wrap_id (x := (m : Int)) (by omega) (by omega)]
      refine hK _ _ ?_; clear hK K
      have o0 := Own.made G2 8
      have u0 : Upd G2 (G2.new (.cells [] 0 false 8)) [] := Upd.new ..
      have hsrc := ((ho.upd u0 (by simp)).rs (by decide) (cc_len cs)).source (P := Try.prog) (by decide)
      obtain ⟨wo, G3, Fo, e1, oo, uo, fo⟩ := Own.append appC o0 hsrc (by rw [flatten_len _ (cc_len cs)]) (by simp [roomOk]; omega)
      have two3 : Two H' G3 f 1 1 A [] c1 0 := (two.upd u0 (by simp)).upd uo (fun j hj => by simp at hj; subst hj; exact two.next)
      have hFo : ∀ j ∈ Fo, H'.next + 10 ≤ j := fun j hj => by
        have := two.next
        rcases fo j hj with h | h
        · simp at h; omega
        · have := u0.1; omega
      rw [List.nil_append] at oo
      refine AW_seq ?_
      refine AW_reg [2, 9, 13, 21, 22] fun K hK => ?_ -- region 36
      simp [init_eq, abuildSlice, afill, V.cells, e1]
      refine hK _ _ ?_; clear hK K
      refine AW_seq ?_
      refine AW_seq ?_
      refine AW_reg [2, 9, 13, 21, 22, 23] fun K hK => ?_ -- region 37
      simp [init_eq]
      refine hK _ _ ?_; clear hK K
      refine AW_block ?_
      have hlast : cs = cs.take m ++ [cs[m]'(by omega)] := by rw [List.take_append_getElem, List.take_of_length_le (by omega)]
      refine AW_loopx (fun k : Nat => ⟨211, [(2, vt), (9, .p (some (H'.next + 9, 0, 0))), (13, u32 best), (21, .i .i64 m), (22, wo), (23, .i .i64 k)]⟩)
        (fun k G => k ≤ ts.length ∧ ∃ ps : List Cert, ps.Perm (cs.take m) ∧ Two H' G f 1 1 A [] c1 0 ∧ Own G wo 8 (cc (ps ++ [cs[m]'(by omega)])).flatten Fo)
        (fun k => ts.length - k) 0 (by simp) ⟨by omega, cs.take m, List.Perm.refl _, two3, by rw [← hlast]; exact oo⟩ fun k G4 hM => ?_ -- loop
      clear two3 oo uo hsrc u0 o0 e1
      obtain ⟨hk, ps, hps, two4, oo⟩ := hM
      have hpl : ps.length = m := by rw [hps.length_eq]; simp; omega
      refine AW_seq ?_
      refine AW_seq ?_
      refine AW_regto [2, 9, 13, 21, 22, 23, 164] ⟨211, [(2, vt), (9, .p (some (H'.next + 9, 0, 0))), (13, u32 best), (21, .i .i64 m), (22, wo), (23, .i .i64 k), (164, .b (decide (k < ts.length) && decide (0 < m)))]⟩ G4 (fun K hk' => ?_) ?_ -- region 38
      · by_cases h1 : k < ts.length
        · simp [init_eq, lt, h1]
          simpa [h1] using hk'
        · simp [init_eq, lt, h1]
          simpa [h1] using hk'
      refine AW_cond' rfl rfl (fun hc => ?_) (fun hc => ?_)
      · have hkl : k < ts.length ∧ 0 < m := by simpa using hc
        obtain ⟨at', r1, r2⟩ := (ht.same two4.lo).at1 (P := Try.prog) qelem_23 qsize_5 qagg_5 (k := .i64) k (x := .i .u8 (ts[k]'hkl.1).toNat) (by simp [hkl.1])
        have hx : k % m < m := Nat.mod_lt _ hkl.2
        have hy : (ts[k]'hkl.1).toNat % m < m := Nat.mod_lt _ hkl.2
        generalize hxx : k % m = x at hx
        generalize hyy : (ts[k]'hkl.1).toNat % m = y at hy
        have hx1 : Int.tmod (k : Int) (m : Int) = (x : Int) := by rw [← hxx]; rfl
        have hy1 : Int.tmod ((ts[k]'hkl.1).toNat : Int) (m : Int) = (y : Int) := by rw [← hyy]; rfl
        have hb := (ts[k]'hkl.1).toNat_lt
        have hcv : aconvert Try.prog G4 5 3 (.i .u8 (ts[k]'hkl.1).toNat) = some (.i .i64 (ts[k]'hkl.1).toNat, G4) := by
          rw [conv_int (P := Try.prog) qthere_5 qint_3, wrap_id (by omega) (by omega)]
        refine AW_skip ?_
        refine AW_seq ?_
        refine AW_block ?_
        refine AW_seq ?_
        refine AW_regd [2, 9, 13, 21, 22, 23, 24, 25] pl_3_40 pe_3_40 (by kernel_rfl) (by kernel_rfl) (by decide) fun K hK => ?_
        simp [init_eq, pl_3_40, r1, r2, hcv, abin, aint, hx1, hy1, show ¬ m = 0 by omega]
        refine hK _ _ ?_; clear hK K
        have hol : (ps ++ [cs[m]'(by omega)]).length = m + 1 := by simp [hpl]
        have hxl : x < (ps ++ [cs[m]'(by omega)]).length := by omega
        have hyl : y < (ps ++ [cs[m]'(by omega)]).length := by omega
        obtain ⟨ax, _, p1, p2, _, _⟩ := Own.cert oo hxl
        obtain ⟨ay, _, p3, p4, _, _⟩ := Own.cert oo hyl
        have gx : (ps ++ [cs[m]'(by omega)])[x] = ps[x]'(by omega) := List.getElem_append_left (by omega)
        have gy : (ps ++ [cs[m]'(by omega)])[y] = ps[y]'(by omega) := List.getElem_append_left (by omega)
        rw [gx] at p2
        rw [gy] at p4
        obtain ⟨id, g, hw, hF1, hg1, hax⟩ := Own.addr (P := Try.prog) oo (by decide) (cc_len _) qelem_29 qsize_32 (k := .i64) (i := x) (by simpa using hxl)
        obtain ⟨id', g', hw', hF1', hg1', hay⟩ := Own.addr (P := Try.prog) oo (by decide) (cc_len _) qelem_29 qsize_32 (k := .i64) (i := y) (by simpa using hyl)
        have hid : id = id' ∧ g = g' := by
          rw [hw] at hw'; simp at hw'; exact hw'
        obtain ⟨rfl, rfl⟩ := hid
        obtain rfl : ax = _ := Option.some.inj (p1.symm.trans hax)
        obtain rfl : ay = _ := Option.some.inj (p3.symm.trans hay)
        obtain ⟨G5, s1, o5, u5, n5⟩ := Own.store (P := Try.prog) oo (by decide) (cc_len _) qsize_32 (i := x) (by simpa using hxl) hw (x := .agg (ps[y]'(by omega)).cells) rfl (by simp)
        have hset1 : (cc (ps ++ [cs[m]'(by omega)])).set x (ps[y]'(by omega)).cells = cc ((ps ++ [cs[m]'(by omega)]).set x (ps[y]'(by omega))) := by simp [cc, List.map_set]
        rw [hset1] at o5
        obtain ⟨G6, s2, o6, u6, n6⟩ := Own.store (P := Try.prog) o5 (by decide) (cc_len _) qsize_32 (i := y) (by simpa using hyl) (id := id) (g := g) (by rw [hw]; simp) (x := .agg (ps[x]'(by omega)).cells) rfl (by simp)
        have hset2 : (cc ((ps ++ [cs[m]'(by omega)]).set x (ps[y]'(by omega)))).set y (ps[x]'(by omega)).cells = cc (((ps.set x (ps[y]'(by omega))).set y (ps[x]'(by omega))) ++ [cs[m]'(by omega)]) := by
          simp only [cc, ← List.map_set]
          rw [List.set_append_left _ _ (by omega), List.set_append_left _ _ (by simp; omega)]
        rw [hset2] at o6
        refine AW_regd [2, 9, 13, 21, 22, 23] pl_3_41 pe_3_41 (by kernel_rfl) (by kernel_rfl) (by decide) fun K hK => ?_
        simp [init_eq, pl_3_41, hax, hay, p2, p4, s1, s2]
        refine hK _ _ ?_; clear hK K
        refine bend ?_
        refine AW_reg [2, 9, 13, 21, 22, 23] fun K hK => ?_ -- region 39
        simp [init_eq, wrap_id (x := (k : Int) + 1) (by omega) (by omega)]
        refine hK _ _ ?_; clear hK K
        refine rend ⟨k + 1, by simp, ⟨hkl.1, _, (List.set_set_perm (by omega) (by omega)).trans hps, (two4.upd u5 hFo).upd u6 hFo, o6⟩, by omega⟩ -- round's end
      · clear hc hk
        refine AW_exit (then_exit (then_exit (block_here ?_)))
        refine AW_seq ?_
        refine AW_reg [9, 13, 22, 26] fun K hK => ?_ -- region 42
        simp [init_eq]
        refine hK _ _ ?_; clear hK K
        refine AW_seq ?_
        refine AW_seq ?_
        refine AW_reg [9, 13, 22, 26, 27] fun K hK => ?_ -- region 43
        simp [init_eq]
        refine hK _ _ ?_; clear hK K
        refine AW_block ?_
        obtain ⟨os, hos⟩ : ∃ os, os = ps ++ [cs[m]'(by omega)] := ⟨_, rfl⟩
        have hol : os.length = m + 1 := by rw [hos]; simp [hpl]
        have hz : ∀ h : m < os.length, os[m]'h = cs[m]'(by omega) := by
          subst hos
          intro h
          rw [List.getElem_append_right (by omega)]
          simp [hpl]
        have ht0 : os.take m = ps := by rw [hos]; exact List.take_left' hpl
        rw [← hos] at oo
        refine AW_loopx (fun x : Nat × BitVec 32 => ⟨211, [(9, .p (some (H'.next + 9, 0, 0))), (13, u32 best), (22, wo), (26, u32 x.2), (27, .i .i64 x.1)]⟩)
          (fun x G => x.1 ≤ os.length ∧ (x.1 = os.length → x.2 = best) ∧ ∃ cb, Two H' G f 1 1 A (runV f (os.take x.1)).1 c1 cb ∧ (runV f (os.take x.1)).2 = cb ∧ Own G wo 8 (cc os).flatten Fo)
          (fun x => os.length - x.1) (0, 0#32) (by simp) ⟨by simp, fun h => by dsimp only at h; omega, 0, two4, rfl, oo⟩ fun x G7 hM => ?_ -- loop
        clear two4 oo
        obtain ⟨k, got⟩ := x
        obtain ⟨hk, hgot, cb, two7, hcb, oo⟩ := hM
        dsimp only at hk hgot two7 hcb
        refine AW_seq ?_
        refine AW_seq ?_
        refine AW_reg [9, 13, 22, 26, 27, 194] fun K hK => ?_ -- region 44
        simp [init_eq, Own.certs oo]
        refine hK _ _ ?_; clear hK K
        refine AW_cond' rfl rfl (fun hc => ?_) (fun hc => ?_)
        · have hlt : k < os.length := by simpa using hc
          obtain ⟨a, a6, q1, q2, q3, q4⟩ := Own.cert oo hlt
          have hrl := runV_len f (os.take k)
          simp only [List.length_take] at hrl
          have hnext := two7.next
          refine AW_skip ?_
          refine AW_seq ?_
          refine AW_block ?_
          refine AW_seq ?_
          refine AW_reg [9, 13, 22, 27, 28] fun K hK => ?_ -- region 46
          simp [init_eq, q1, q2]
          refine ACalls.mono (vote_ok G7 two7.b (by omega) (by omega) _) fun r G8 ⟨hr, e⟩ => ?_ -- (*hallmoot/tally.Tally).Vote
          have two8 := two7.voteB os[k]
          have u8 : Upd G7 G8 [H'.next + 5] := e ▸ Upd.set _ _ _ (by simp)
          rw [← e] at two8
          clear e
          have o8 := oo.upd u8 (fun j hj hm => by have := hFo j hj; simp at hm; omega)
          have hte : vres f 1 (runV f (os.take k)).1 os[k] = tell f (os.take k) os[k] := rfl
          rw [hte] at hr
          subst hr
          simp [astore, AH.get_new, V.cells]
          refine hK _ _ ?_; clear hK K
          generalize hG9 : (G8.new _).set G8.next _ = G9
          have x9 : G9.get G8.next = some (.cells (tell f (os.take k) os[k]).cells 0 false 0) := by rw [← hG9]; simp [AH.get_set]
          have u9 : Upd G8 G9 [] := ⟨by rw [← hG9]; simp, fun j hj _ => by rw [← hG9]; simp [AH.get_set, AH.get_new, show j ≠ G8.next by omega]⟩
          clear hG9
          have two9 := two8.upd u9 (by simp)
          have o9 := o8.upd u9 (by simp)
          refine AW_reg [9, 13, 22, 26, 27] fun K hK => ?_ -- region 47
          simp [init_eq, afieldAddr, aload, x9]
          refine hK _ _ ?_; clear hK K
          refine bend ?_
          refine AW_reg [9, 13, 22, 26, 27] fun K hK => ?_ -- region 45
          simp [init_eq, wrap_id (x := (k : Int) + 1) (by omega) (by omega)]
          refine hK _ _ ?_; clear hK K
          have hrun : runV f (os.take (k + 1)) = run1 f (runV f (os.take k)) os[k] := by rw [List.take_succ_eq_append_getElem hlt, runV_snoc]
          refine rend ⟨(k + 1, (tell f (os.take k) os[k]).signers), by simp, ⟨hlt, fun h => ?_, vclk f 1 (runV f (os.take k)).1 cb os[k], ?_, ?_, o9⟩, by dsimp only; omega⟩ -- round's end
          · dsimp only at h
            obtain rfl : k = m := by omega
            dsimp only
            rw [hz, ht0, ← hbst, tell_perm _ hps (by omega)]
          · dsimp only; rw [hrun]; subst hcb; exact two9
          · dsimp only; rw [hrun]; subst hcb; rfl
        · have hke : k = os.length := Nat.le_antisymm hk (Nat.not_lt.1 (by simpa using hc))
          have hgb := hgot hke
          subst hgb
          refine AW_exit (then_exit (then_exit (block_here ?_)))
          refine AW_seq ?_
          refine AW_reg [6] fun K hK => ?_ -- region 48
          simp [init_eq]
          refine hK _ _ ?_; clear hK K
          exact AW_ret (end_ret rfl rfl)
end Go.Proofs.Ytdioggohbfgnfaa
