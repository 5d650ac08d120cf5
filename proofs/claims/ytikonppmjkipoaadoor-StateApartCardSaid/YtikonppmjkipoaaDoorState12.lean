/-
  The plain law of the state: bounds, sums, what a refused transaction leaves, the digest hangs on the content alone.
-/
import Derived.Test.YtikonppmjkipoaaDoorState11
set_option linter.unusedVariables false
set_option linter.unusedSimpArgs false
namespace Go.Proofs.YtikonppmjkipoaaDoor
open Go Go.Abs Go.Proofs
set_option maxRecDepth 100000

section
variable {α β : Type} [DecidableEq α]
theorem mput_cons (e : α × β × Nat) (es : List (α × β × Nat)) (k : α) (v : β) (c : Nat) : mput (e :: es) k v c = if k = e.1 then (k, v, e.2.2) :: es else e :: mput es k v c := by
  unfold mput
  simp only [mfind]
  by_cases h : k = e.1
  · simp [h]
  · simp only [if_neg h]
    cases hm : mfind es k with
    | none => simp
    | some x => obtain ⟨i, b⟩ := x; simp
theorem mput_nil (k : α) (v : β) (c : Nat) : mput [] k v c = [(k, v, c)] := rfl
theorem mem_mput : ∀ {es : List (α × β × Nat)} {k : α} {v : β} {c : Nat} {e : α × β × Nat}, e ∈ mput es k v c → e ∈ es ∨ (e.1 = k ∧ e.2.1 = v)
  | [], k, v, c, e, h => by rw [mput_nil] at h; simp at h; subst h; exact .inr ⟨rfl, rfl⟩
  | a :: es, k, v, c, e, h => by
    rw [mput_cons] at h
    split at h
    · rcases List.mem_cons.1 h with rfl | h
      · exact .inr ⟨rfl, rfl⟩
      · exact .inl (by simp [h])
    · rcases List.mem_cons.1 h with rfl | h
      · exact .inl (by simp)
      · rcases mem_mput h with h | h
        · exact .inl (by simp [h])
        · exact .inr h
theorem mput_len_le (es : List (α × β × Nat)) (k : α) (v : β) (c : Nat) : (mput es k v c).length ≤ es.length + 1 := by
  rw [mput_length]; split <;> omega
end
theorem sumA_put : ∀ (A : Accs) (k : List UInt8) (x : Int × Int) (c : Nat), sumA (mput A k x c) = sumA A - ((mget A k).getD (0, 0)).1 + x.1
  | [], k, x, c => by simp [mput_nil, sumA, mget_nil]
  | a :: A, k, x, c => by
    have ih := sumA_put A k x c
    rw [mput_cons, mget_cons]
    unfold sumA at *
    by_cases h : k = a.1
    · simp [h]; omega
    · simp [h]; omega
theorem acc_put' (s : PSt) (k k' : List UInt8) (x : Int × Int) : (s.putA k x).acc k' = if k' = k then x else s.acc k' := by
  unfold PSt.acc PSt.putA
  simp only [mget_mput]
  split <;> simp
theorem acc_putB (s : PSt) (p : Plc) (t : List UInt8) (k : List UInt8) : (s.putB p t).acc k = s.acc k := rfl
theorem PSt.Sm.mono {s : PSt} {n m : Nat} (h : s.Sm n) (hm : n ≤ m) : s.Sm m := ⟨Nat.le_trans h.al hm, Nat.le_trans h.bl hm, h.an, h.ar, h.bp, h.bv⟩
theorem PSt.Sm.putA {s : PSt} {n : Nat} (h : s.Sm n) {k : List UInt8} {x : Int × Int} (hk : k.length ≤ 1000) (hx : (-9223372036854775808 ≤ x.1 ∧ x.1 ≤ 9223372036854775807) ∧ (-9223372036854775808 ≤ x.2 ∧ x.2 ≤ 9223372036854775807)) : (s.putA k x).Sm (n + 1) := by
  refine ⟨Nat.le_trans (mput_len_le ..) (Nat.succ_le_succ h.al), Nat.le_succ_of_le h.bl, fun e he => ?_, fun e he => ?_, h.bp, h.bv⟩
  · rcases mem_mput he with h1 | ⟨h1, _⟩
    · exact h.an e h1
    · rw [h1]; exact hk
  · rcases mem_mput he with h1 | ⟨_, h1⟩
    · exact h.ar e h1
    · rw [h1]; exact hx
theorem PSt.Sm.putB {s : PSt} {n : Nat} (h : s.Sm n) {p : Plc} {t : List UInt8} (hp : p.1.length ≤ 1000 ∧ p.2.length ≤ 1000) (ht : t.length ≤ 1000) : (s.putB p t).Sm (n + 1) := by
  refine ⟨Nat.le_succ_of_le h.al, Nat.le_trans (mput_len_le ..) (Nat.succ_le_succ h.bl), h.an, h.ar, fun e he => ?_, fun e he => ?_⟩
  · rcases mem_mput he with h1 | ⟨h1, _⟩
    · exact h.bp e h1
    · rw [h1]; exact hp
  · rcases mem_mput he with h1 | ⟨_, h1⟩
    · exact h.bv e h1
    · rw [h1]; exact ht
theorem wrap_rng (x : Int) : -9223372036854775808 ≤ IntKind.i64.wrap x ∧ IntKind.i64.wrap x ≤ 9223372036854775807 := by
  rw [IntKind.wrap_i64]; omega
theorem PSt.Sm.doP {s : PSt} {n : Nat} (h : s.Sm n) {t : Tx} (ht : t.great = false) : (s.doP t).1.Sm (n + 2) := by
  simp [Tx.great] at ht
  unfold PSt.doP
  split
  · exact h.mono (by omega)
  split
  · exact h.mono (by omega)
  split
  · split
    · exact h.mono (by omega)
    · unfold PSt.move
      have h1 := h.putA (k := t.src) (x := (IntKind.i64.wrap ((s.acc t.src).1 - t.amount), IntKind.i64.wrap ((s.acc t.src).2 + 1))) (by omega) ⟨wrap_rng _, wrap_rng _⟩
      exact h1.putA (by omega) ⟨wrap_rng _, (h1.acc t.dst).2⟩
  · exact (h.putB (p := (t.src, t.key)) (t := t.val) (by simp; omega) (by omega)).putA (by omega) ⟨(h.acc t.src).1, wrap_rng _⟩
theorem doP_err {s : PSt} {t : Tx} (h : (s.doP t).2 ≠ 0) : (s.doP t).1 = s := by
  unfold PSt.doP at *
  split
  · rfl
  · rename_i h1
    rw [if_neg h1] at h
    split
    · rfl
    · rename_i h2
      rw [if_neg h2] at h
      split
      · rename_i h3
        rw [if_pos h3] at h
        split
        · rfl
        · rename_i h4
          rw [if_neg h4] at h
          exact absurd rfl h
      · rename_i h3
        rw [if_neg h3] at h
        exact absurd rfl h
theorem doP_okv {s : PSt} {t : Tx} (h : (s.doP t).2 = 0) : t.ok = true ∧ t.nonce = IntKind.i64.wrap ((s.acc t.src).2 + 1) ∧ (t.kind = 1 → t.amount ≤ (s.acc t.src).1 ∧ (s.doP t).1 = s.move t) ∧ (t.kind ≠ 1 → (s.doP t).1 = (s.putB (t.src, t.key) t.val).putA t.src ((s.acc t.src).1, IntKind.i64.wrap ((s.acc t.src).2 + 1))) := by
  unfold PSt.doP at *
  by_cases h1 : t.ok = false
  · rw [if_pos h1] at h; cases h
  rw [if_neg h1] at h ⊢
  by_cases h2 : t.nonce ≠ IntKind.i64.wrap ((s.acc t.src).2 + 1)
  · rw [if_pos h2] at h; cases h
  rw [if_neg h2] at h ⊢
  refine ⟨by simpa using h1, by simpa using h2, fun h3 => ?_, fun h3 => ?_⟩
  · rw [if_pos h3] at h ⊢
    by_cases h4 : (s.acc t.src).1 < t.amount
    · rw [if_pos h4] at h; cases h
    · rw [if_neg h4]; exact ⟨by omega, rfl⟩
  · rw [if_neg h3]
theorem Tx.ok_amount {t : Tx} (h : t.ok = true) : (t.kind = 1 ∨ t.kind = 2) ∧ 0 ≤ t.amount := by
  unfold Tx.ok at h
  split at h
  · rename_i hk
    simp only [Tx.moveOk, Bool.and_eq_true] at h
    obtain ⟨⟨⟨_, h4⟩, _⟩, _⟩ := h
    have h4 : 1 ≤ t.amount ∧ t.amount ≤ 4611686018427387904 := of_decide_eq_true h4
    exact ⟨.inl hk, by omega⟩
  · split at h
    · rename_i hk
      simp only [Tx.putOk, Bool.and_eq_true, decide_eq_true_eq] at h
      exact ⟨.inr hk, by omega⟩
    · cases h
/-- After a transaction that was done: one number more, and not again. -/
theorem doP_nonce {s : PSt} {t : Tx} (h : (s.doP t).2 = 0) : ((s.doP t).1.acc t.src).2 = IntKind.i64.wrap ((s.acc t.src).2 + 1) ∧ t.nonce = IntKind.i64.wrap ((s.acc t.src).2 + 1) ∧ ((s.doP t).1.doP t) = ((s.doP t).1, 90) := by
  obtain ⟨h1, h2, h3, h4⟩ := doP_okv h
  have hn : ((s.doP t).1.acc t.src).2 = IntKind.i64.wrap ((s.acc t.src).2 + 1) := by
    by_cases hk : t.kind = 1
    · rw [(h3 hk).2]
      unfold PSt.move
      simp only [acc_put']
      split
      · rename_i he; simp [← he]
      · simp
    · rw [h4 hk, acc_put', if_pos rfl]
  refine ⟨hn, h2, ?_⟩
  generalize (s.doP t).1 = s' at hn
  unfold PSt.doP
  rw [if_neg (by simp [h1]), if_pos]
  rw [hn, ← h2]
  have := wrap_rng (t.nonce + 1)
  rw [IntKind.wrap_i64]
  intro he
  have := wrap_rng ((s.acc t.src).2 + 1)
  rw [← h2] at this
  omega
/-- Nobody has less than nothing; all amounts together. -/
structure PSt.Pos (s : PSt) (all : Int) : Prop where
  pos : ∀ e ∈ s.A, 0 ≤ e.2.1.1
  sum : sumA s.A = all
theorem sum_ge {A : Accs} (h : ∀ e ∈ A, 0 ≤ e.2.1.1) : ∀ e ∈ A, e.2.1.1 ≤ sumA A := by
  induction A with
  | nil => simp
  | cons a l ih =>
    have h0 := h a (by simp)
    have h2 := ih fun e he => h e (by simp [he])
    have h3 := (sum_le (A := l) (fun e he => h e (by simp [he])) fun _ => true).1
    rw [List.filter_eq_self.2 (by simp)] at h3
    intro e he
    unfold sumA at *
    rw [List.map_cons, List.sum_cons]
    rcases List.mem_cons.1 he with rfl | he
    · omega
    · have := h2 e he; omega
theorem PSt.Pos.acc {s : PSt} {all : Int} (h : s.Pos all) (ha : 0 ≤ all) (k : List UInt8) : 0 ≤ (s.acc k).1 ∧ (s.acc k).1 ≤ all := by
  unfold PSt.acc
  cases hm : mget s.A k with
  | none => simp [ha]
  | some x =>
    obtain ⟨e, he, _, rfl⟩ := mget_mem hm
    exact ⟨h.pos e he, by rw [← h.sum]; exact sum_ge h.pos e he⟩
theorem PSt.Pos.put {s : PSt} {all : Int} (h : s.Pos all) {k : List UInt8} {x : Int × Int} (hx : 0 ≤ x.1) : (s.putA k x).Pos (all - (s.acc k).1 + x.1) := by
  refine ⟨fun e he => ?_, ?_⟩
  · rcases mem_mput he with h1 | ⟨_, h1⟩
    · exact h.pos e h1
    · rw [h1]; exact hx
  · show sumA (mput s.A k x s.ca) = _
    rw [sumA_put, h.sum]; rfl
theorem PSt.Pos.all0 {s : PSt} {all : Int} (h : s.Pos all) : 0 ≤ all := by
  have := (sum_le h.pos fun _ => true).1
  rw [List.filter_eq_self.2 (by simp)] at this
  rw [← h.sum]; exact this
theorem PSt.Pos.doP {s : PSt} {all : Int} (h : s.Pos all) (hm : all ≤ 4611686018427387904) (t : Tx) : (s.doP t).1.Pos all := by
  by_cases he : (s.doP t).2 = 0
  · obtain ⟨h1, h2, h3, h4⟩ := doP_okv he
    have ha := (Tx.ok_amount h1).2
    have h0 := h.all0
    by_cases hk : t.kind = 1
    · obtain ⟨h5, h6⟩ := h3 hk
      rw [h6]
      unfold PSt.move
      have a1 := h.acc h0 t.src
      have w1 : IntKind.i64.wrap ((s.acc t.src).1 - t.amount) = (s.acc t.src).1 - t.amount := wrap_id (by omega) (by omega)
      rw [w1]
      have p1 := h.put (k := t.src) (x := ((s.acc t.src).1 - t.amount, IntKind.i64.wrap ((s.acc t.src).2 + 1))) (by simp; omega)
      have q0 := p1.all0
      have a2 := p1.acc q0 t.dst
      dsimp only at p1 q0 a2 ⊢
      have w2 : ∀ y : Int, 0 ≤ y → y ≤ all - (s.acc t.src).1 + ((s.acc t.src).1 - t.amount) → IntKind.i64.wrap (y + t.amount) = y + t.amount := fun y y1 y2 => wrap_id (by omega) (by omega)
      rw [w2 _ a2.1 a2.2]
      have p2 := p1.put (k := t.dst) (x := (((s.putA t.src ((s.acc t.src).1 - t.amount, IntKind.i64.wrap ((s.acc t.src).2 + 1))).acc t.dst).1 + t.amount, ((s.putA t.src ((s.acc t.src).1 - t.amount, IntKind.i64.wrap ((s.acc t.src).2 + 1))).acc t.dst).2)) (by simp; omega)
      dsimp only at p2
      refine ⟨p2.pos, p2.sum.trans (by omega)⟩
    · rw [h4 hk]
      have h' : (s.putB (t.src, t.key) t.val).Pos all := ⟨h.pos, h.sum⟩
      have p1 := h'.put (k := t.src) (x := ((s.acc t.src).1, IntKind.i64.wrap ((s.acc t.src).2 + 1))) (h.acc h0 t.src).1
      rw [acc_putB] at p1
      refine ⟨p1.pos, p1.sum.trans (by dsimp only; omega)⟩
  · rw [doP_err he]; exact h
/-- What Digest answers. -/
def IsDig (s : PSt) (D : List UInt8) : Prop :=
  ∃ (ks : List (List UInt8)) (ps : List Plc), ks.Perm (s.A.map (·.1)) ∧ (ks.Pairwise fun a b => nameLt b a = false) ∧ ps.Perm (s.B.map (·.1)) ∧ (ps.Pairwise fun a b => placeLt b a = false) ∧ D = s.textA ks ++ s.textB ps
theorem sorted_uniq {α : Type} {lt : α → α → Bool} (h : STO lt) {l m : List α} (p : l.Perm m) (h1 : l.Pairwise fun a b => lt b a = false) (h2 : m.Pairwise fun a b => lt b a = false) : l = m := by
  refine List.Perm.eq_of_pairwise (le := fun a b => lt b a = false) (fun a b _ _ k1 k2 => ?_) h1 h2 p
  apply Classical.byContradiction
  intro hne
  rcases h.total a b hne with k | k
  · rw [k] at k2; cases k2
  · rw [k] at k1; cases k1
/-- It hangs on the content alone. -/
theorem IsDig.same {s s' : PSt} {D D' : List UInt8} (h : IsDig s D) (h' : IsDig s' D') (hA : (s.A.map (·.1)).Perm (s'.A.map (·.1))) (hB : (s.B.map (·.1)).Perm (s'.B.map (·.1))) (ea : ∀ k, s.acc k = s'.acc k) (eb : ∀ p, s.val p = s'.val p) : D = D' := by
  obtain ⟨ks, ps, h1, h2, h3, h4, rfl⟩ := h
  obtain ⟨ks', ps', g1, g2, g3, g4, rfl⟩ := h'
  have e1 : ks = ks' := sorted_uniq nameLt_sto (h1.trans (hA.trans g1.symm)) h2 g2
  have e2 : ps = ps' := sorted_uniq placeLt_sto (h3.trans (hB.trans g3.symm)) h4 g4
  subst e1 e2
  unfold PSt.textA PSt.textB
  simp only [ea, eb]
theorem IsDig.uniq {s : PSt} {D D' : List UInt8} (h : IsDig s D) (h' : IsDig s D') : D = D' := h.same h' (.refl _) (.refl _) (fun _ => rfl) (fun _ => rfl)
end Go.Proofs.YtikonppmjkipoaaDoor
