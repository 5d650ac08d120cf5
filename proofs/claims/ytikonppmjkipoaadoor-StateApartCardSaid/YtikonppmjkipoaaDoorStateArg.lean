/-
  Accounts and transactions as arguments; Great.
-/
import Derived.Test.YtikonppmjkipoaaDoorState12
set_option linter.unusedVariables false
set_option linter.unusedSimpArgs false
namespace Go.Proofs.YtikonppmjkipoaaDoor
open Go Go.Abs Go.Proofs
set_option maxRecDepth 100000
attribute [local irreducible] AEnd AW ACalls

theorem tv_txF {H : AH} {n : Nat} {l : List V} (h : TV Tryd.prog H (n + 2) 25 l) : ∃ t : Tx, l = t.cells ∧ t.fits := by
  obtain ⟨x0, e0, _⟩ := (h.fld Tryd.underlying25 0 rfl rfl rfl cellsOf_3).int Tryd.underlying3
  obtain ⟨x1, e1, f1⟩ := (h.fld Tryd.underlying25 1 rfl rfl rfl cellsOf_9).str Tryd.underlying9
  obtain ⟨x2, e2, f2⟩ := (h.fld Tryd.underlying25 2 rfl rfl rfl cellsOf_9).str Tryd.underlying9
  obtain ⟨x3, e3, f3⟩ := (h.fld Tryd.underlying25 3 rfl rfl rfl cellsOf_9).str Tryd.underlying9
  obtain ⟨x4, e4, f4⟩ := (h.fld Tryd.underlying25 4 rfl rfl rfl cellsOf_9).str Tryd.underlying9
  obtain ⟨x5, e5, _⟩ := (h.fld Tryd.underlying25 5 rfl rfl rfl cellsOf_2).int Tryd.underlying2
  obtain ⟨x6, e6, _⟩ := (h.fld Tryd.underlying25 6 rfl rfl rfl cellsOf_2).int Tryd.underlying2
  have hl := h.size Tryd.underlying25 cellsOf_25
  refine ⟨⟨x0, x1, x2, x3, x4, x5, x6⟩, ?_, ⟨f1, f2, f3, f4⟩⟩
  rcases l with _ | ⟨a0, _ | ⟨a1, _ | ⟨a2, _ | ⟨a3, _ | ⟨a4, _ | ⟨a5, _ | ⟨a6, _ | ⟨d, r⟩⟩⟩⟩⟩⟩⟩⟩ <;> simp at hl
  simp at e0 e1 e2 e3 e4 e5 e6
  simp [Tx.cells, e0, e1, e2, e3, e4, e5, e6]
theorem tv_acct {H : AH} {n : Nat} {l : List V} (h : TV Tryd.prog H (n + 2) 51 l) : ∃ a : Acct, l = a.cells ∧ a.name.length ≤ 140737488351232 := by
  obtain ⟨x0, e0, f0⟩ := (h.fld Tryd.underlying51 0 rfl rfl rfl cellsOf_9).str Tryd.underlying9
  obtain ⟨x1, e1, _⟩ := (h.fld Tryd.underlying51 1 rfl rfl rfl cellsOf_2).int Tryd.underlying2
  have hl := h.size Tryd.underlying51 cellsOf_51
  refine ⟨⟨x0, x1⟩, ?_, f0⟩
  rcases l with _ | ⟨a0, _ | ⟨a1, _ | ⟨d, r⟩⟩⟩ <;> simp at hl
  simp at e0 e1
  simp [Acct.cells, e0, e1]
theorem exists_mapP {α β : Type} {f : α → β} {p : α → Prop} : ∀ {ls : List β}, (∀ l ∈ ls, ∃ a, l = f a ∧ p a) → ∃ xs : List α, ls = xs.map f ∧ ∀ x ∈ xs, p x
  | [], _ => ⟨[], rfl, by simp⟩
  | l :: ls, h => by
    obtain ⟨a, rfl, ha⟩ := h l (by simp)
    obtain ⟨xs, rfl, hx⟩ := exists_mapP (f := f) (p := p) (ls := ls) fun l hl => h l (by simp [hl])
    exact ⟨a :: xs, rfl, fun x hm => by
      rcases List.mem_cons.1 hm with rfl | hm
      · exact ha
      · exact hx x hm⟩
theorem val_txs {H : AH} {v : V} (h : TVal Tryd.prog H 23 v) : ∃ ts : List Tx, RS H v 7 (ts.map Tx.cells) ∧ (∀ t ∈ ts, t.fits) ∧ ts.length ≤ 140737488351232 := by
  obtain ⟨ls, h1, h2, h3⟩ := h.rs Tryd.underlying23 cellsOf_25
  obtain ⟨ts, rfl, hf⟩ := exists_mapP (f := Tx.cells) (p := Tx.fits) fun l hl => tv_txF (h2 l hl)
  rw [bytesOf_25] at h3
  exact ⟨ts, h1, hf, by simp at h3; omega⟩
theorem val_accts {H : AH} {v : V} (h : TVal Tryd.prog H 22 v) : ∃ l : List Acct, RS H v 2 (l.map Acct.cells) ∧ (∀ a ∈ l, a.name.length ≤ 140737488351232) ∧ l.length ≤ 140737488351232 := by
  obtain ⟨ls, h1, h2, h3⟩ := h.rs Tryd.underlying22 cellsOf_51
  obtain ⟨l, rfl, hf⟩ := exists_mapP (f := Acct.cells) (p := fun a : Acct => a.name.length ≤ 140737488351232) fun l hl => tv_acct (h2 l hl)
  rw [bytesOf_51] at h3
  exact ⟨l, h1, hf, by simp at h3; omega⟩
theorem anyT {α : Type} {p : α → Bool} {xs : List α} {i : Nat} (hi : i < xs.length) (h : (xs.take i).any p = false) (he : p xs[i] = false) : (xs.take (i + 1)).any p = false := by
  rw [List.take_succ_eq_append_getElem hi, List.any_append, h]; simp [he]
theorem anyA {α : Type} {p : α → Bool} {xs : List α} {i : Nat} (hi : i < xs.length) (he : p xs[i] = true) : xs.any p = true :=
  List.any_eq_true.2 ⟨xs[i], List.getElem_mem hi, he⟩
def gTxs (l : List Tx) : Bool := decide (60 < l.length) || l.any Tx.great
def Acct.big (a : Acct) : Bool := decide (1000 < a.name.length)
def gAccs (l : List Acct) : Bool := decide (60 < l.length) || l.any Acct.big
theorem gTxs_ok (H : AH) {v : V} (l : List Tx) (hv : RS H v 7 (l.map Tx.cells)) : ACalls Tryd.prog 9 [v] H fun r H' => r = .b (gTxs l) ∧ H' = H := by
  refine ACalls.pure (Q := fun r => r = .b (gTxs l)) ⟨_, Tryd.func9, rfl, rfl⟩ ?_
  refine ACalls_body Tryd.func9 rfl rfl ?_
  have hl := hv.alen (P := Tryd.prog) (f := Tx.cells) qelem_23
  refine AW_seq ?_
  refine AW_reg [0] fun K hK => ?_ -- region 0
  simp [init_eq]
  refine hK _ _ ?_; clear hK K
  refine AW_seq ?_
  refine AW_seq ?_
  refine AW_reg [0, 6] fun K hK => ?_ -- region 1
  simp [init_eq, hl, abin]
  refine hK _ _ ?_; clear hK K
  refine AW_cond' rfl rfl (fun hc => ?_) (fun hc => ?_)
  · have hc' : (60 : Int) < l.length := by simpa using hc
    have hc : 60 < l.length := by omega
    refine AW_seq ?_
    refine AW_reg [2] fun K hK => ?_ -- region 2
    simp [init_eq]
    refine hK _ _ ?_; clear hK K
    exact AW_ret (end_ret rfl (same_end (by simp [gTxs, hc]) rfl))
  have hlt' : (l.length : Int) ≤ 60 := by simpa using hc
  have hlt : ¬ 60 < l.length := by omega
  refine AW_skip ?_
  refine AW_seq ?_
  refine AW_seq ?_
  refine AW_reg [0, 3] fun K hK => ?_ -- region 3
  simp [init_eq]
  refine hK _ _ ?_; clear hK K
  refine AW_block ?_
  refine AW_loop0 (fun i : Nat => ⟨18, [(0, v), (3, .i .i64 i)]⟩) (fun i => i ≤ l.length ∧ (l.take i).any Tx.great = false) (fun i => l.length - i) 0 (by simp) (by simp) (by dsimp only; omega) fun hw i hM => ?_ -- loop
  refine AW_seq ?_
  refine AW_seq ?_
  refine AW_reg [0, 3, 10] fun K hK => ?_ -- region 4
  simp [init_eq, hl, abin]
  refine hK _ _ ?_; clear hK K
  refine AW_cond' rfl rfl (fun hc => ?_) (fun hc => ?_)
  · have hi : i < l.length := by simpa using hc
    obtain ⟨ax, px, qx⟩ := hv.rec (f := Tx.cells) (sz := 7) Tx.len (by decide) (P := Tryd.prog) qelem_23 qsize_25 qagg_25 hi
    refine AW_skip ?_
    refine AW_seq ?_
    refine AW_block ?_
    refine AW_seq ?_
    refine AW_reg [0, 3, 17] fun K hK => ?_ -- region 6
    simp [init_eq, px, qx]
    refine ACalls.mono (greatTx_ok ..) fun r H' ⟨hr, e⟩ => ?_ -- hallmoot/hallmootref08.Great
    subst hr e
    try simp
    refine hK _ _ ?_; clear hK K
    refine AW_cond' rfl rfl (fun hc => ?_) (fun hc => ?_)
    · have hg : l[i].great = true := by simpa using hc
      refine AW_seq ?_
      refine AW_reg [2] fun K hK => ?_ -- region 7
      simp [init_eq]
      refine hK _ _ ?_; clear hK K
      exact AW_ret (end_ret rfl (same_end (by simp only [gTxs, anyA hi hg, Bool.or_true]; rfl) rfl))
    · have hg : l[i].great = false := by simpa using hc
      refine AW_skip ?_
      refine bend (rend ?_)
      refine AW_reg [0, 3] fun K hK => ?_ -- region 5
      simp [init_eq, abin, wrap_id (x := (i : Int) + 1) (by omega) (by omega)]
      refine hK _ _ ?_; clear hK K
      exact rend ⟨i + 1, by simp, ⟨by omega, anyT hi hM.2 hg⟩, by omega, .inl rfl⟩ -- round's end
  · have hi : i = l.length := by
      have : ¬ i < l.length := by simpa using hc
      omega
    subst hi
    refine AW_exit (then_exit (then_exit (block_here (rend ?_))))
    refine AW_seq ?_
    refine AW_reg [2] fun K hK => ?_ -- region 8
    simp [init_eq]
    refine hK _ _ ?_; clear hK K
    have h2 := hM.2
    rw [List.take_length] at h2
    exact AW_ret (end_ret rfl (same_end (by simp [gTxs, hlt]; simpa using h2) rfl))
theorem gAccs_ok (H : AH) {v : V} (l : List Acct) (hv : RS H v 2 (l.map Acct.cells)) : ACalls Tryd.prog 8 [v] H fun r H' => r = .b (gAccs l) ∧ H' = H := by
  refine ACalls.pure (Q := fun r => r = .b (gAccs l)) ⟨_, Tryd.func8, rfl, rfl⟩ ?_
  refine ACalls_body Tryd.func8 rfl rfl ?_
  have hl := hv.alen (P := Tryd.prog) (f := Acct.cells) qelem_22
  refine AW_seq ?_
  refine AW_reg [0] fun K hK => ?_ -- region 0
  simp [init_eq]
  refine hK _ _ ?_; clear hK K
  refine AW_seq ?_
  refine AW_seq ?_
  refine AW_reg [0, 6] fun K hK => ?_ -- region 1
  simp [init_eq, hl, abin]
  refine hK _ _ ?_; clear hK K
  refine AW_cond' rfl rfl (fun hc => ?_) (fun hc => ?_)
  · have hc' : (60 : Int) < l.length := by simpa using hc
    have hc : 60 < l.length := by omega
    refine AW_seq ?_
    refine AW_reg [2] fun K hK => ?_ -- region 2
    simp [init_eq]
    refine hK _ _ ?_; clear hK K
    exact AW_ret (end_ret rfl (same_end (by simp [gAccs, hc]) rfl))
  have hlt' : (l.length : Int) ≤ 60 := by simpa using hc
  have hlt : ¬ 60 < l.length := by omega
  refine AW_skip ?_
  refine AW_seq ?_
  refine AW_seq ?_
  refine AW_reg [0, 3] fun K hK => ?_ -- region 3
  simp [init_eq]
  refine hK _ _ ?_; clear hK K
  refine AW_block ?_
  refine AW_loop0 (fun i : Nat => ⟨20, [(0, v), (3, .i .i64 i)]⟩) (fun i => i ≤ l.length ∧ (l.take i).any Acct.big = false) (fun i => l.length - i) 0 (by simp) (by simp) (by dsimp only; omega) fun hw i hM => ?_ -- loop
  refine AW_seq ?_
  refine AW_seq ?_
  refine AW_reg [0, 3, 10] fun K hK => ?_ -- region 4
  simp [init_eq, hl, abin]
  refine hK _ _ ?_; clear hK K
  refine AW_cond' rfl rfl (fun hc => ?_) (fun hc => ?_)
  · have hi : i < l.length := by simpa using hc
    obtain ⟨ax, ay, px, qx, rx⟩ := hv.fld (f := Acct.cells) (sz := 2) (fun _ => rfl) (by decide) (P := Tryd.prog) qelem_22 qsize_51 hi (n := 0) (o := 0) (b := false) (ft := 9) (x := .s l[i].name) (by simp) qagg_9 qsize_9 rfl
    refine AW_skip ?_
    refine AW_seq ?_
    refine AW_block ?_
    refine AW_seq ?_
    refine AW_reg [0, 3, 19] fun K hK => ?_ -- region 6
    simp [init_eq, px, qx, rx, abin, alen]
    refine hK _ _ ?_; clear hK K
    refine AW_cond' rfl rfl (fun hc => ?_) (fun hc => ?_)
    · have hg : l[i].big = true := by unfold Acct.big; simp at hc ⊢; omega
      refine AW_seq ?_
      refine AW_reg [2] fun K hK => ?_ -- region 7
      simp [init_eq]
      refine hK _ _ ?_; clear hK K
      exact AW_ret (end_ret rfl (same_end (by simp only [gAccs, anyA hi hg, Bool.or_true]; rfl) rfl))
    · have hg : l[i].big = false := by unfold Acct.big; simp at hc ⊢; omega
      refine AW_skip ?_
      refine bend (rend ?_)
      refine AW_reg [0, 3] fun K hK => ?_ -- region 5
      simp [init_eq, abin, wrap_id (x := (i : Int) + 1) (by omega) (by omega)]
      refine hK _ _ ?_; clear hK K
      exact rend ⟨i + 1, by simp, ⟨by omega, anyT hi hM.2 hg⟩, by omega, .inl rfl⟩ -- round's end
  · have hi : i = l.length := by
      have : ¬ i < l.length := by simpa using hc
      omega
    subst hi
    refine AW_exit (then_exit (then_exit (block_here (rend ?_))))
    refine AW_seq ?_
    refine AW_reg [2] fun K hK => ?_ -- region 8
    simp [init_eq]
    refine hK _ _ ?_; clear hK K
    have h2 := hM.2
    rw [List.take_length] at h2
    exact AW_ret (end_ret rfl (same_end (by simp [gAccs, hlt]; simpa using h2) rfl))
end Go.Proofs.YtikonppmjkipoaaDoor
