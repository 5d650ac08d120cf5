/-
  Transactions of people who have nothing in common: plain.
-/
import Derived.Test.YtikonppmjkipoaaDoorState13
set_option linter.unusedVariables false
set_option linter.unusedSimpArgs false
namespace Go.Proofs.YtikonppmjkipoaaDoor
open Go Go.Abs Go.Proofs
set_option maxRecDepth 100000

abbrev Own2 := List UInt8 → Option (Int × Int)
def putF (m : Own2) (k : List UInt8) (x : Int × Int) : Own2 := fun j => if j = k then some x else m j
def atF (m : Own2) (k : List UInt8) : Int × Int := (m k).getD (0, 0)
def srcF (m : Own2) (t : Tx) : Own2 := putF m t.src (if t.kind = 1 then IntKind.i64.wrap ((atF m t.src).1 - t.amount) else (atF m t.src).1, IntKind.i64.wrap ((atF m t.src).2 + 1))
def dstF (m : Own2) (t : Tx) : Own2 := if t.kind = 1 then putF m t.dst (IntKind.i64.wrap ((atF m t.dst).1 + t.amount), (atF m t.dst).2) else m
theorem atF_put (m : Own2) (k j : List UInt8) (x : Int × Int) : atF (putF m k x) j = if j = k then x else atF m j := by
  unfold atF putF
  split <;> rfl
theorem acc_atF (s : PSt) (k : List UInt8) : s.acc k = atF (mget s.A) k := rfl
theorem putF_mget (s : PSt) (k : List UInt8) (x : Int × Int) : mget (s.putA k x).A = putF (mget s.A) k x := by
  funext j
  unfold PSt.putA putF
  simp only [mget_mput]
theorem doP_A {s : PSt} {t : Tx} (h : (s.doP t).2 = 0) : mget (s.doP t).1.A = dstF (srcF (mget s.A) t) t := by
  obtain ⟨h1, h2, h3, h4⟩ := doP_okv h
  by_cases hk : t.kind = 1
  · rw [(h3 hk).2]
    unfold PSt.move dstF srcF
    simp only [if_pos hk, putF_mget, acc_atF]
  · rw [h4 hk]
    unfold dstF srcF
    rw [if_neg hk, if_neg hk, putF_mget, acc_atF]
    rfl
theorem doP_B {s : PSt} {t : Tx} (h : (s.doP t).2 = 0) (p : Plc) : mget (s.doP t).1.B p = if t.kind ≠ 1 ∧ p = (t.src, t.key) then some t.val else mget s.B p := by
  obtain ⟨h1, h2, h3, h4⟩ := doP_okv h
  by_cases hk : t.kind = 1
  · rw [(h3 hk).2, if_neg (by simp [hk])]
    rfl
  · rw [h4 hk]
    show mget (mput s.B (t.src, t.key) t.val s.cb) p = _
    rw [mget_mput]
    simp [hk]
def errD (x : Int × Int) (t : Tx) : Int := if t.ok = false then 80 else if t.nonce ≠ IntKind.i64.wrap (x.2 + 1) then 90 else if t.kind = 1 then (if x.1 < t.amount then 91 else 0) else 0
theorem doP_errD (s : PSt) (t : Tx) : (s.doP t).2 = errD (s.acc t.src) t := by
  unfold PSt.doP errD
  repeat' split
  all_goals rfl
theorem acc_far {s : PSt} {t : Tx} {k : List UInt8} (h1 : k ≠ t.src) (h2 : k ≠ t.dst) : (s.doP t).1.acc k = s.acc k := by
  by_cases he : (s.doP t).2 = 0
  · rw [acc_atF, acc_atF, doP_A he]
    unfold dstF srcF
    split
    · rw [atF_put, if_neg h2, atF_put, if_neg h1]
    · rw [atF_put, if_neg h1]
  · rw [doP_err he]
theorem wrap_comm (x a b : Int) : IntKind.i64.wrap (IntKind.i64.wrap (x + a) + b) = IntKind.i64.wrap (IntKind.i64.wrap (x + b) + a) := by
  simp only [IntKind.wrap_i64]; omega
theorem putF_comm {m : Own2} {k j : List UInt8} (h : k ≠ j) (x y : Int × Int) : putF (putF m k x) j y = putF (putF m j y) k x := by
  funext i
  unfold putF
  by_cases h1 : i = j
  · subst h1
    simp [Ne.symm h]
  · simp [h1]
theorem srcF_comm {m : Own2} {a b : Tx} (h : a.src ≠ b.src) : srcF (srcF m a) b = srcF (srcF m b) a := by
  unfold srcF
  rw [atF_put, if_neg (Ne.symm h), atF_put, if_neg h]
  exact putF_comm h _ _
theorem srcF_dstF {m : Own2} {a b : Tx} (h : a.dst ≠ b.src) : srcF (dstF m a) b = dstF (srcF m b) a := by
  unfold dstF
  split
  · unfold srcF
    rw [atF_put, if_neg (Ne.symm h), atF_put, if_neg h]
    exact putF_comm h _ _
  · rfl
theorem putF_same (m : Own2) (k : List UInt8) (x y : Int × Int) : putF (putF m k x) k y = putF m k y := by
  funext i
  unfold putF
  split <;> rfl
theorem dstF_comm {m : Own2} {a b : Tx} : dstF (dstF m a) b = dstF (dstF m b) a := by
  unfold dstF
  by_cases ha : a.kind = 1 <;> by_cases hb : b.kind = 1
  · simp only [ha, hb, if_true]
    rw [atF_put, atF_put]
    by_cases h : a.dst = b.dst
    · rw [if_pos h.symm, if_pos h, h, putF_same, putF_same]
      simp only [wrap_comm _ a.amount b.amount]
    · rw [if_neg (Ne.symm h), if_neg h]
      exact putF_comm h _ _
  · simp [ha, hb]
  · simp [ha, hb]
  · simp [ha, hb]
/-- Either order. -/
theorem apart {s : PSt} {a b : Tx} (h1 : a.src ≠ b.src) (h2 : a.src ≠ b.dst) (h3 : a.dst ≠ b.src) :
    (s.doP a).2 = ((s.doP b).1.doP a).2 ∧ ((s.doP a).1.doP b).2 = (s.doP b).2 ∧ (∀ k, mget ((s.doP a).1.doP b).1.A k = mget ((s.doP b).1.doP a).1.A k) ∧ ∀ p, mget ((s.doP a).1.doP b).1.B p = mget ((s.doP b).1.doP a).1.B p := by
  have e1 : ((s.doP b).1.doP a).2 = (s.doP a).2 := by rw [doP_errD, doP_errD, acc_far h1 h2]
  have e2 : ((s.doP a).1.doP b).2 = (s.doP b).2 := by rw [doP_errD, doP_errD, acc_far (Ne.symm h1) (Ne.symm h3)]
  refine ⟨e1.symm, e2, ?_⟩
  by_cases ea : (s.doP a).2 = 0
  · by_cases eb : (s.doP b).2 = 0
    · refine ⟨fun k => ?_, fun p => ?_⟩
      · rw [doP_A (e2.trans eb), doP_A ea, doP_A (e1.trans ea), doP_A eb]
        rw [srcF_dstF h3, srcF_dstF (Ne.symm h2), srcF_comm h1, dstF_comm]
      · rw [doP_B (e2.trans eb), doP_B ea, doP_B (e1.trans ea), doP_B eb]
        by_cases hp : p.1 = b.src
        · have : ¬ p = (a.src, a.key) := fun e => by rw [e] at hp; exact h1 hp
          simp [this]
        · have : ¬ p = (b.src, b.key) := fun e => by rw [e] at hp; exact hp rfl
          simp [this]
    · have e3 : ((s.doP a).1.doP b).2 ≠ 0 := by rw [e2]; exact eb
      rw [doP_err e3, doP_err eb]
      exact ⟨fun _ => rfl, fun _ => rfl⟩
  · have e3 : ((s.doP b).1.doP a).2 ≠ 0 := by rw [e1]; exact ea
    rw [doP_err e3, doP_err ea]
    exact ⟨fun _ => rfl, fun _ => rfl⟩
theorem keys_perm {α β : Type} [DecidableEq α] {es fs : List (α × β × Nat)} (h1 : (es.map (·.1)).Nodup) (h2 : (fs.map (·.1)).Nodup) (h : ∀ k, mget es k = mget fs k) : (es.map (·.1)).Perm (fs.map (·.1)) := by
  refine (List.perm_ext_iff_of_nodup h1 h2).2 fun k => ?_
  have key : ∀ {gs : List (α × β × Nat)}, k ∈ gs.map (·.1) ↔ mget gs k ≠ none := by
    intro gs
    induction gs with
    | nil => simp [mget_nil]
    | cons g gs ih =>
      rw [mget_cons, List.map_cons, List.mem_cons]
      by_cases hk : k = g.1
      · simp [hk]
      · simp only [if_neg hk, hk, false_or]; exact ih
  rw [key, key, h k]
theorem IsDig.content {s s' : PSt} {D D' : List UInt8} (h : IsDig s D) (h' : IsDig s' D') (o1 : MOk s.A s.ca) (o2 : MOk s.B s.cb) (o3 : MOk s'.A s'.ca) (o4 : MOk s'.B s'.cb) (ea : ∀ k, mget s.A k = mget s'.A k) (eb : ∀ p, mget s.B p = mget s'.B p) : D = D' :=
  h.same h' (keys_perm o1.keys o3.keys ea) (keys_perm o2.keys o4.keys eb) (fun k => by unfold PSt.acc; rw [ea]) (fun p => by unfold PSt.val; rw [eb])
end Go.Proofs.YtikonppmjkipoaaDoor
