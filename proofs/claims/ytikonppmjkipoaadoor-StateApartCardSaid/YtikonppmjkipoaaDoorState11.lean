/-
  Digest.
-/
import Derived.Test.YtikonppmjkipoaaDoorState10
import Derived.Test.YtikonppmjkipoaaDoorBld1
import Derived.Test.YtikonppmjkipoaaDoorPr1
set_option linter.unusedVariables false
set_option linter.unusedSimpArgs false
namespace Go.Proofs.YtikonppmjkipoaaDoor
open Go Go.Abs Go.Proofs
set_option maxRecDepth 100000
attribute [local irreducible] AEnd AW ACalls

/-- A state whose texts and numbers have their bounds. -/
structure PSt.Sm (s : PSt) (n : Nat) : Prop where
  al : s.A.length ≤ n
  bl : s.B.length ≤ n
  an : ∀ e ∈ s.A, e.1.length ≤ 1000
  ar : ∀ e ∈ s.A, (-9223372036854775808 ≤ e.2.1.1 ∧ e.2.1.1 ≤ 9223372036854775807) ∧ (-9223372036854775808 ≤ e.2.1.2 ∧ e.2.1.2 ≤ 9223372036854775807)
  bp : ∀ e ∈ s.B, e.1.1.length ≤ 1000 ∧ e.1.2.length ≤ 1000
  bv : ∀ e ∈ s.B, e.2.1.length ≤ 1000
def lineA (k : List UInt8) (x : Int × Int) : List UInt8 := if x = (0, 0) then [] else k ++ [32] ++ printB x.1 ++ [32] ++ printB x.2 ++ [10]
def lineB (p : Plc) (v : List UInt8) : List UInt8 := if v = [] then [] else p.1 ++ [9] ++ p.2 ++ [9] ++ v ++ [10]
def PSt.textA (s : PSt) (ks : List (List UInt8)) : List UInt8 := ks.flatMap fun k => lineA k (s.acc k)
def PSt.textB (s : PSt) (ps : List Plc) : List UInt8 := ps.flatMap fun p => lineB p (s.val p)
theorem mget_mem {α β : Type} [DecidableEq α] : ∀ {es : List (α × β × Nat)} {k : α} {v : β}, mget es k = some v → ∃ e ∈ es, e.1 = k ∧ e.2.1 = v
  | [], k, v, h => by cases h
  | e :: l, k, v, h => by
    rw [mget_cons] at h
    split at h
    · rename_i hk
      exact ⟨e, by simp, hk.symm, Option.some.inj h⟩
    · obtain ⟨e', h1, h2, h3⟩ := mget_mem h
      exact ⟨e', by simp [h1], h2, h3⟩
theorem PSt.Sm.acc {s : PSt} {n : Nat} (h : s.Sm n) (k : List UInt8) : (-9223372036854775808 ≤ (s.acc k).1 ∧ (s.acc k).1 ≤ 9223372036854775807) ∧ (-9223372036854775808 ≤ (s.acc k).2 ∧ (s.acc k).2 ≤ 9223372036854775807) := by
  unfold PSt.acc
  cases hm : mget s.A k with
  | none => simp
  | some x =>
    obtain ⟨e, he, _, rfl⟩ := mget_mem hm
    exact h.ar e he
theorem PSt.Sm.val {s : PSt} {n : Nat} (h : s.Sm n) (p : Plc) : (s.val p).length ≤ 1000 := by
  unfold PSt.val
  cases hm : mget s.B p with
  | none => simp
  | some x =>
    obtain ⟨e, he, _, rfl⟩ := mget_mem hm
    exact h.bv e he
theorem lineA_len {k : List UInt8} (x : Int × Int) (h : k.length ≤ 1000) : (lineA k x).length ≤ 1043 := by
  unfold lineA
  have h1 := printB_len x.1
  have h2 := printB_len x.2
  split <;> simp <;> omega
theorem lineB_len {p : Plc} {v : List UInt8} (h : p.1.length ≤ 1000 ∧ p.2.length ≤ 1000) (hv : v.length ≤ 1000) : (lineB p v).length ≤ 3003 := by
  unfold lineB
  split <;> simp <;> omega
theorem flatMap_len {α : Type} {f : α → List UInt8} {b : Nat} : ∀ {l : List α}, (∀ x ∈ l, (f x).length ≤ b) → (l.flatMap f).length ≤ l.length * b
  | [], _ => by simp
  | a :: l, h => by
    have h1 := h a (by simp)
    have h2 := flatMap_len (f := f) (l := l) fun x hx => h x (by simp [hx])
    simp only [List.flatMap_cons, List.length_append, List.length_cons]
    rw [Nat.add_mul]; omega
theorem writeB (H : AH) {id : Nat} {l : List UInt8} {F : List Nat} (h : BldAt H id l F) (t : List UInt8) (hl : l.length + t.length ≤ 1000000000) :
    ACalls Tryd.prog 30 [.p (some (id, 71 + 1, 0)), .s t] H fun r H' => ∃ F', BldAt H' id (l ++ t) F' ∧ Upd H H' (id :: F) ∧ ∀ j ∈ F', j ∈ F ∨ H.next ≤ j := by
  have := writeString_ok H h t hl
  rw [qgen_71] at this
  exact this
theorem stringB (H : AH) {id : Nat} {l : List UInt8} {F : List Nat} (h : BldAt H id l F) (hlen : l.length ≤ 1000000000) :
    ACalls Tryd.prog 35 [.p (some (id, 71 + 1, 0))] H fun r H' => r = .s l ∧ Upd H H' F := by
  have := bstring_ok H h hlen
  rw [qgen_71] at this
  exact this
theorem str_add {H : AH} (a b : List UInt8) (h : a.length + b.length ≤ 1000000000) : abin2 Tryd.prog H .add 9 (.s a) (.s b) = some (.s (a ++ b)) := by
  simp [abin, astr]
  omega
theorem BldAt.lt {H : AH} {id : Nat} {l : List UInt8} {F : List Nat} (h : BldAt H id l F) : ∀ j ∈ F, j < H.next := by
  obtain ⟨av, v, h1, h2, h3, h4⟩ := h
  rcases h3 with ⟨_, _, rfl⟩ | ⟨q, g, _, hq, _, _, rfl⟩
  · simp
  · intro j hj; simp at hj; subst hj; exact AH.get_lt hq
theorem BldAt.idlt {H : AH} {id : Nat} {l : List UInt8} {F : List Nat} (h : BldAt H id l F) : id < H.next := by
  obtain ⟨av, v, h1, _⟩ := h
  exact AH.get_lt h1
theorem acc_eq (x : Int × Int) : Go.Abs.aeq Tryd.prog 58 (.agg [.i .i64 x.1, .i .i64 x.2]) (.agg [.i .i64 0, .i .i64 0]) = some (decide (x = (0, 0))) := by
  obtain ⟨a, b⟩ := x
  simp [Go.Abs.aeq, fitsAll, CK.fits, ceqs, ceq]
  rfl
theorem acc_zero : abuild Tryd.prog 58 [] = some (.agg [.i .i64 0, .i .i64 0]) := by simp [abuild, afill]
theorem textA_succ (s : PSt) {ks : List (List UInt8)} {i : Nat} (h : i < ks.length) : s.textA (ks.take (i + 1)) = s.textA (ks.take i) ++ lineA ks[i] (s.acc ks[i]) := by
  unfold PSt.textA
  rw [List.take_succ_eq_append_getElem h, List.flatMap_append]
  simp only [List.flatMap_cons, List.flatMap_nil, List.append_nil]
theorem textB_succ (s : PSt) {ks : List Plc} {i : Nat} (h : i < ks.length) : s.textB (ks.take (i + 1)) = s.textB (ks.take i) ++ lineB ks[i] (s.val ks[i]) := by
  unfold PSt.textB
  rw [List.take_succ_eq_append_getElem h, List.flatMap_append]
  simp only [List.flatMap_cons, List.flatMap_nil, List.append_nil]
set_option maxHeartbeats 2000000 in
theorem digest_ok (H : AH) {sid am vm : Nat} {s : PSt} {n : Nat} (h : StAt H sid am vm s) (sm : s.Sm n) (hn : n ≤ 100000) :
    ACalls Tryd.prog 13 [.p (some (sid, 0, 0))] H fun r H' => (∃ (ks : List (List UInt8)) (ps : List Plc), ks.Perm (s.A.map (·.1)) ∧ (ks.Pairwise fun a b => nameLt b a = false) ∧ ps.Perm (s.B.map (·.1)) ∧ (ps.Pairwise fun a b => placeLt b a = false) ∧ r = .s (s.textA ks ++ s.textB ps)) ∧ H' = H := by
  refine ACalls.pure (Q := fun r => ∃ (ks : List (List UInt8)) (ps : List Plc), ks.Perm (s.A.map (·.1)) ∧ (ks.Pairwise fun a b => nameLt b a = false) ∧ ps.Perm (s.B.map (·.1)) ∧ (ps.Pairwise fun a b => placeLt b a = false) ∧ r = .s (s.textA ks ++ s.textB ps)) ⟨_, Tryd.func13, rfl, rfl⟩ ?_
  refine ACalls_body Tryd.func13 rfl rfl ?_
  refine AW_seq ?_
  refine AW_reg [0] fun K hK => ?_ -- region 0
  simp [init_eq]
  refine hK _ _ ?_; clear hK K
  refine AW_seq ?_
  refine AW_seq ?_
  refine AW_reg [0, 12] fun K hK => ?_ -- region 1
  simp [init_eq, abin]
  refine hK _ _ ?_; clear hK K
  refine AW_cond' rfl rfl (fun hc => by cases hc) (fun hc => ?_)
  refine AW_skip ?_
  refine AW_seq ?_
  refine AW_reg [0, 3] fun K hK => ?_ -- region 3
  simp [init_eq, V.cells]
  refine hK _ _ ?_; clear hK K
  generalize hG0 : H.new _ = G0
  have v0 : Upd H G0 [] := by rw [← hG0]; exact Upd.new ..
  have n0 : G0.next = H.next + 1 := by rw [← hG0]; simp
  have b0 : BldAt G0 H.next [] [] := ⟨.p none, .sl none 0 false, by rw [← hG0, qgen_71]; exact AH.get_new_same .., .inl rfl, .inl ⟨rfl, rfl, rfl⟩, by simp⟩
  clear hG0
  have h0 := h.same v0
  refine AW_seq ?_
  refine AW_seq ?_
  refine AW_reg [0, 3, 18, 19, 20] fun K hK => ?_ -- region 4
  simp [init_eq, afieldAddr, h0.la]
  refine ACalls.mono (keysS_ok G0 (am := am)) fun r H' ⟨hr, e⟩ => ?_ -- maps.Keys[map[string]hallmoot/state.account,string,hallmoot/state.account]
  subst hr e
  have v1 := Upd.new G0 (.cells [.m (some am)] 0 false 0) []
  have h1 := h0.same v1
  try simp
  refine ACalls.mono (sortedS_ok _ h1.ga h1.ao (by have := sm.al; omega) (fun e he => by have := sm.an e he; omega) (AH.get_new_same ..)) fun sv G2 ⟨ks, Fs, hp, hs, own, v2, hFs⟩ => ?_ -- slices.SortedFunc[string]
  have kl : ks.length ≤ n := by have := hp.length_eq; have := sm.al; simp at *; omega
  have hkn : ∀ k ∈ ks, k.length ≤ 1000 := fun k hk => by
    obtain ⟨e, he, rfl⟩ := List.mem_map.1 (hp.mem_iff.1 hk)
    exact sm.an e he
  have ln := (own.rsR (by decide) fun _ => rfl).len (P := Tryd.prog) (H' := G2) qelem_72
  rw [List.length_map] at ln
  simp [ln]
  refine hK _ _ ?_; clear hK K
  have b2 := (b0.upd v1 (by simp) (by simp)).upd v2 (by simp) (by simp)
  have u2 : Upd H G2 [] := (v0.trans v1 (by simp)).trans v2 (by simp)
  simp at hFs
  have l2 : ∀ j ∈ Fs, j < G2.next := own.lt
  have g2n : H.next < G2.next := by have := v2.1; simp at this; omega
  refine AW_block ?_
  refine AW_loopx (fun i : Nat => ⟨81, [(0, .p (some (sid, 0, 0))), (3, .p (some (H.next, 71 + 1, 0))), (18, sv), (19, .i .i64 ks.length), (20, .i .i64 i)]⟩)
    (fun i N => i ≤ ks.length ∧ Upd H N [] ∧ G2.next ≤ N.next ∧ Own N sv 1 (ks.map strK).flatten Fs ∧ ∃ F, BldAt N H.next (s.textA (ks.take i)) F ∧ ∀ j ∈ F, G2.next ≤ j) (fun i => ks.length - i) 0 (by simp) ⟨by omega, u2, Nat.le_refl _, own, [], b2, by simp⟩ fun i N ⟨hi, uN, gN, oN, F, bN, hF⟩ => ?_ -- loop
  have hN := h.same uN
  refine AW_seq ?_
  refine AW_reg [0, 3, 18, 19, 20, 21] fun K hK => ?_ -- region 5
  simp [init_eq, abin]
  refine hK _ _ ?_; clear hK K
  refine AW_seq ?_
  refine AW_cond' rfl rfl (fun hc => ?_) (fun hc => ?_)
  · have hlt : i < ks.length := by simpa using hc
    obtain ⟨ax, q1, q2⟩ := (oN.rsR (by decide) fun _ => rfl).at1 (P := Tryd.prog) qelem_72 qsize_9 qagg_9 (k := .i64) i (x := .s ks[i]) (by simp [hlt, strK])
    have hk1 := hkn ks[i] (List.getElem_mem hlt)
    have hts := textA_succ s hlt
    have htl : (s.textA (ks.take i)).length ≤ 200000000 := by
      have := flatMap_len (f := fun k => lineA k (s.acc k)) (b := 1043) (l := ks.take i) fun k hk => lineA_len _ (hkn k (List.mem_of_mem_take hk))
      have h3 : (ks.take i).length ≤ 100000 := by simp; omega
      unfold PSt.textA
      omega
    generalize hk : ks[i] = k at *
    refine AW_skip ?_
    refine AW_seq ?_
    refine AW_block ?_
    refine AW_seq ?_
    refine AW_reg [0, 3, 5, 18, 19, 20] fun K hK => ?_ -- region 6
    simp [init_eq, q1, q2]
    refine hK _ _ ?_; clear hK K
    obtain ⟨A, r1, r2, r3, r4⟩ := acc_new N [.i .i64 0, .i .i64 0] rfl (s.acc k)
    refine AW_seq ?_
    refine AW_reg [0, 3, 5, 6, 18, 19, 20] fun K hK => ?_ -- region 7
    simp [init_eq, afieldAddr, hN.la, hN.getA, V.cells]
    refine ⟨A, r1, ?_⟩
    refine hK _ _ ?_; clear hK K
    have lA : aload Tryd.prog A 58 (.p (some (N.next, 0, 0))) = some (.agg [.i .i64 (s.acc k).1, .i .i64 (s.acc k).2]) := by simp [aload, r2]
    have bA := bN.upd r3 (by simp) (by simp)
    have oA := oN.upd r3 (by simp)
    have uA := uN.trans r3 (by simp)
    refine AW_seq ?_
    refine AW_reg [0, 3, 5, 6, 18, 19, 20, 32] fun K hK => ?_ -- region 8
    simp [init_eq, lA, acc_zero, acc_eq]
    refine hK _ _ ?_; clear hK K
    refine AW_cond' rfl rfl (fun hc => ?_) (fun hc => ?_)
    · have hz : ¬ s.acc k = (0, 0) := by simpa using hc
      have hline : lineA k (s.acc k) = k ++ [32] ++ printB (s.acc k).1 ++ [32] ++ printB (s.acc k).2 ++ [10] := if_neg hz
      have hr := sm.acc k
      have la0 : aload Tryd.prog A 2 (.p (some (N.next, 0, 0))) = some (.i .i64 (s.acc k).1) := by simp [aload, r2]
      have la1 : aload Tryd.prog A 2 (.p (some (N.next, 0, 1))) = some (.i .i64 (s.acc k).2) := by simp [aload, r2]
      refine AW_regm (.only [N.next]) [0, 3, 18, 19, 20] pl_13_9 pe_13_9 (by kernel_rfl) (by kernel_rfl) (by decide) fun K hK => ?_
      simp [init_eq, pl_13_9, APlan_takem, through, tkOk, rid, afieldAddr, la0, la1, abin, astr]
      refine ⟨_, ⟨by omega, rfl⟩, ?_⟩
      have pl1 := printB_len (s.acc k).1
      have pl2 := printB_len (s.acc k).2
      refine ACalls.mono (print_ok A _ hr.1.1 hr.1.2) fun r H' ⟨hr1, e⟩ => ?_
      subst hr1
      have e := e.symm
      subst e
      refine ⟨⟨Nat.le_refl _, fun _ => rfl⟩, _, str_add _ _ (by simp; omega), _, str_add _ _ (by simp; omega), ?_⟩
      refine ACalls.mono (print_ok A _ hr.2.1 hr.2.2) fun r H' ⟨hr2, e⟩ => ?_
      subst hr2
      have e := e.symm
      subst e
      refine ⟨_, str_add _ _ (by simp; omega), _, str_add _ _ (by simp; omega), ?_⟩
      refine ACalls.mono (writeB A bA _ (by simp; omega)) fun r X ⟨F', bX, uX, fX⟩ => ?_
      refine ⟨⟨uX.1, fun hn => uX.2 _ hn ?_⟩, ?_⟩
      · simp
        refine ⟨by have := bN.idlt; omega, fun hm => ?_⟩
        have := bN.lt _ hm
        omega
      refine hK _ _ ?_; clear hK K
      refine bend (rend ?_)
      refine AW_reg [0, 3, 18, 19, 20] fun K hK => ?_ -- region 10
      have w : IntKind.i64.wrap ((i : Int) + 1) = ((i + 1 : Nat) : Int) := by rw [wrap_id (by omega) (by omega)]; omega
      simp [init_eq, abin, w]
      refine hK _ _ ?_; clear hK K
      refine rend ⟨i + 1, by simp, ⟨hlt, uA.trans uX (fun j hj => ?_), by have := r3.1; have := uX.1; omega, oA.upd uX (fun j hj hm => ?_), F', ?_, fun j hj => ?_⟩, by omega⟩
      · rcases List.mem_cons.1 hj with rfl | hj
        · exact .inr (Nat.le_refl _)
        · exact .inr (by have := hF j hj; omega)
      · have h3 := l2 j hj
        have h4 := hFs j hj
        rcases List.mem_cons.1 hm with rfl | hm
        · omega
        · have := hF j hm; omega
      · rw [hts, hline]; exact bX
      · rcases fX j hj with h3 | h3
        · exact hF j h3
        · have := r3.1; omega
    · have hz : s.acc k = (0, 0) := by simpa using hc
      have hline : lineA k (s.acc k) = [] := if_pos hz
      rw [hline, List.append_nil] at hts
      refine AW_skip (bend (rend ?_))
      refine AW_reg [0, 3, 18, 19, 20] fun K hK => ?_ -- region 10
      have w : IntKind.i64.wrap ((i : Int) + 1) = ((i + 1 : Nat) : Int) := by rw [wrap_id (by omega) (by omega)]; omega
      simp [init_eq, abin, w]
      refine hK _ _ ?_; clear hK K
      exact rend ⟨i + 1, by simp, ⟨hlt, uA, by have := r3.1; omega, oA, F, by rw [hts]; exact bA, hF⟩, by omega⟩
  · have hle : i = ks.length := by
      have : ¬ i < ks.length := by simpa using hc
      omega
    subst hle
    rw [List.take_length] at bN
    refine AW_exit (then_exit (then_exit (block_here ?_)))
    clear oN own ln l2
    refine rend ?_
    refine AW_seq ?_
    refine AW_reg [0, 3, 7] fun K hK => ?_ -- region 11
    simp [init_eq]
    refine hK _ _ ?_; clear hK K
    refine AW_seq ?_
    refine AW_seq ?_
    refine AW_reg [0, 3, 53, 54, 55] fun K hK => ?_ -- region 12
    simp [init_eq, afieldAddr, hN.lv]
    refine ACalls.mono (keysP_ok N (am := vm)) fun r H' ⟨hr, e⟩ => ?_ -- maps.Keys
    subst hr e
    have w1 := Upd.new N (.cells [.m (some vm)] 0 false 0) []
    have k1 := hN.same w1
    try simp
    refine ACalls.mono (sortedP_ok _ k1.gv k1.bo (by have := sm.bl; omega) (fun e he => by have := sm.bp e he; omega) (AH.get_new_same ..)) fun pv G4 ⟨ps, Fp, pp, ss, own, w2, hFp⟩ => ?_ -- slices.SortedFunc[place]
    have pl : ps.length ≤ n := by have := pp.length_eq; have := sm.bl; simp at *; omega
    have hpn : ∀ p ∈ ps, p.1.length ≤ 1000 ∧ p.2.length ≤ 1000 := fun p hp => by
      obtain ⟨e, he, rfl⟩ := List.mem_map.1 (pp.mem_iff.1 hp)
      exact sm.bp e he
    have ln := (own.rsR (by decide) fun _ => rfl).len (P := Tryd.prog) (H' := G4) qelem_84
    rw [List.length_map] at ln
    simp [ln]
    refine hK _ _ ?_; clear hK K
    have b4 := (bN.upd w1 (by simp) (by simp)).upd w2 (by simp) (by simp)
    have u4 : Upd H G4 [] := (uN.trans w1 (by simp)).trans w2 (by simp)
    simp at hFp
    have l2 : ∀ j ∈ Fp, j < G4.next := own.lt
    have lF := bN.lt
    have lid := bN.idlt
    have g4n : N.next < G4.next := by have := w2.1; simp at this; omega
    have tal : (s.textA ks).length ≤ 200000000 := by
      have := flatMap_len (f := fun k => lineA k (s.acc k)) (b := 1043) (l := ks) fun k hk => lineA_len _ (hkn k hk)
      unfold PSt.textA
      omega
    refine AW_block ?_
    refine AW_loopx (fun i : Nat => ⟨81, [(0, .p (some (sid, 0, 0))), (3, .p (some (H.next, 71 + 1, 0))), (53, pv), (54, .i .i64 ps.length), (55, .i .i64 i)]⟩)
      (fun i X => i ≤ ps.length ∧ Upd H X [] ∧ G4.next ≤ X.next ∧ Own X pv 2 (ps.map Plc.cells).flatten Fp ∧ ∃ F', BldAt X H.next (s.textA ks ++ s.textB (ps.take i)) F' ∧ ∀ j ∈ F', j ∈ F ∨ G4.next ≤ j) (fun i => ps.length - i) 0 (by simp) ⟨by omega, u4, Nat.le_refl _, own, F, by simpa [PSt.textB] using b4, fun j hj => .inl hj⟩ fun i X ⟨hi, uX, gX, oX, F', bX, hF'⟩ => ?_ -- loop
    have hX := h.same uX
    refine AW_seq ?_
    refine AW_reg [0, 3, 53, 54, 55, 56] fun K hK => ?_ -- region 13
    simp [init_eq, abin]
    refine hK _ _ ?_; clear hK K
    refine AW_seq ?_
    refine AW_cond' rfl rfl (fun hc => ?_) (fun hc => ?_)
    · have hlt : i < ps.length := by simpa using hc
      obtain ⟨ax, q1, q2⟩ := (oX.rsR (by decide) fun _ => rfl).rec (f := Plc.cells) (sz := 2) (fun _ => rfl) (by decide) (P := Tryd.prog) qelem_84 qsize_65 qagg_65 hlt
      have hp1 := hpn ps[i] (List.getElem_mem hlt)
      have hts := textB_succ s hlt
      have htl : (s.textB (ps.take i)).length ≤ 400000000 := by
        have := flatMap_len (f := fun p => lineB p (s.val p)) (b := 3003) (l := ps.take i) fun p hp => lineB_len (hpn p (List.mem_of_mem_take hp)) (sm.val p)
        have h3 : (ps.take i).length ≤ 100000 := by simp; omega
        unfold PSt.textB
        omega
      generalize hk : ps[i] = p at *
      have hvl := sm.val p
      obtain ⟨A, r1, r2, r3, r4⟩ := plc_new X [.s [], .s []] rfl p
      refine AW_skip ?_
      refine AW_seq ?_
      refine AW_block ?_
      refine AW_seq ?_
      refine AW_reg [0, 3, 9, 53, 54, 55] fun K hK => ?_ -- region 14
      simp [init_eq, q1, q2, V.cells]
      refine ⟨A, r1, ?_⟩
      refine hK _ _ ?_; clear hK K
      have hA := hX.same r3
      have bA := bX.upd r3 (by simp) (by simp)
      have oA := oX.upd r3 (by simp)
      have uA := uX.trans r3 (by simp)
      have lp : aload Tryd.prog A 65 (.p (some (X.next, 0, 0))) = some (.agg [.s p.1, .s p.2]) := by simp [aload, r2, Plc.cells]
      have lp0 : aload Tryd.prog A 9 (.p (some (X.next, 0, 0))) = some (.s p.1) := by simp [aload, r2, Plc.cells]
      have lp1 : aload Tryd.prog A 9 (.p (some (X.next, 0, 1))) = some (.s p.2) := by simp [aload, r2, Plc.cells]
      refine AW_seq ?_
      refine AW_regd [0, 3, 9, 10, 53, 54, 55] pl_13_15 pe_13_15 (by kernel_rfl) (by kernel_rfl) (by decide) fun K hK => ?_
      simp [init_eq, pl_13_15, afieldAddr, hA.lv, lp, hA.getB, vT, afield]
      refine hK _ _ ?_; clear hK K
      refine AW_seq ?_
      refine AW_reg [0, 3, 9, 10, 53, 54, 55, 67] fun K hK => ?_ -- region 16
      simp [init_eq, abin, astr]
      refine hK _ _ ?_; clear hK K
      have w : IntKind.i64.wrap ((i : Int) + 1) = ((i + 1 : Nat) : Int) := by rw [wrap_id (by omega) (by omega)]; omega
      refine AW_cond' rfl rfl (fun hc => ?_) (fun hc => ?_)
      · have hz : ¬ s.val p = [] := by simpa using hc
        have hline : lineB p (s.val p) = p.1 ++ [9] ++ p.2 ++ [9] ++ s.val p ++ [10] := if_neg hz
        refine AW_reg [0, 3, 53, 54, 55] fun K hK => ?_ -- region 17
        simp [init_eq, afieldAddr, lp0, lp1, abin, astr]
        refine ⟨_, ⟨by omega, rfl⟩, _, str_add _ _ (by simp; omega), _, str_add _ _ (by simp; omega), _, str_add _ _ (by simp; omega), _, str_add _ _ (by simp; omega), ?_⟩
        refine ACalls.mono (writeB A bA _ (by simp; omega)) fun r Y ⟨F'', bY, uY, fY⟩ => ?_
        refine hK _ _ ?_; clear hK K
        refine bend (rend ?_)
        refine AW_reg [0, 3, 53, 54, 55] fun K hK => ?_ -- region 18
        simp [init_eq, abin, w]
        refine hK _ _ ?_; clear hK K
        refine rend ⟨i + 1, by simp, ⟨hlt, uA.trans uY (fun j hj => ?_), by have := r3.1; have := uY.1; omega, oA.upd uY (fun j hj hm => ?_), F'', ?_, fun j hj => ?_⟩, by omega⟩
        · rcases List.mem_cons.1 hj with rfl | hj
          · exact .inr (Nat.le_refl _)
          · rcases hF' j hj with h3 | h3
            · exact .inr (by have := hF j h3; omega)
            · exact .inr (by omega)
        · have h3 := l2 j hj
          have h4 := hFp j hj
          rcases List.mem_cons.1 hm with rfl | hm
          · omega
          · rcases hF' j hm with h5 | h5
            · have := lF j h5; omega
            · omega
        · rw [hts, hline]
          simpa using bY
        · rcases fY j hj with h3 | h3
          · exact hF' j h3
          · exact .inr (by have := r3.1; omega)
      · have hz : s.val p = [] := by simpa using hc
        have hline : lineB p (s.val p) = [] := if_pos hz
        rw [hline, List.append_nil] at hts
        refine AW_skip (bend (rend ?_))
        refine AW_reg [0, 3, 53, 54, 55] fun K hK => ?_ -- region 18
        simp [init_eq, abin, w]
        refine hK _ _ ?_; clear hK K
        exact rend ⟨i + 1, by simp, ⟨hlt, uA, by have := r3.1; omega, oA, F', by rw [hts]; exact bA, hF'⟩, by omega⟩
    · have hle : i = ps.length := by
        have : ¬ i < ps.length := by simpa using hc
        omega
      subst hle
      rw [List.take_length] at bX
      have tbl : (s.textB ps).length ≤ 400000000 := by
        have := flatMap_len (f := fun p => lineB p (s.val p)) (b := 3003) (l := ps) fun p hp => lineB_len (hpn p hp) (sm.val p)
        unfold PSt.textB
        omega
      refine AW_exit (then_exit (then_exit (block_here (rend ?_))))
      refine AW_seq ?_
      refine AW_reg [2] fun K hK => ?_ -- region 19
      simp [init_eq]
      refine ACalls.mono (stringB X bX (by simp; omega)) fun r Y ⟨hr, uY⟩ => ?_ -- String
      subst hr
      try simp
      refine hK _ _ ?_; clear hK K
      refine AW_ret (end_ret rfl ⟨⟨ks, ps, hp, hs, pp, ss, rfl⟩, rfl, ?_, fun j hj => ?_⟩)
      · have := uX.1; have := uY.1; omega
      · have := uX.2 j hj (by simp)
        rw [← this]
        refine uY.2 j (by have := uX.1; omega) fun hm => ?_
        rcases hF' j hm with h3 | h3
        · have := hF j h3; omega
        · omega
end Go.Proofs.YtikonppmjkipoaaDoor
