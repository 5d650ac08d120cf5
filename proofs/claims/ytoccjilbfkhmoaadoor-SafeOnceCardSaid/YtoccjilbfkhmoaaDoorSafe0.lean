/-
  Records: as data, which may be, their bytes and back (plain).
-/
import Derived.Test.YtoccjilbfkhmoaaDoorCond
import Derived.Test.YtoccjilbfkhmoaaDoorRTake0
import Derived.Test.YtoccjilbfkhmoaaDoorRead8
import Derived.Test.YtoccjilbfkhmoaaDoorArgBlk
set_option linter.unusedVariables false
set_option linter.unusedSimpArgs false
namespace Go.Proofs.YtoccjilbfkhmoaaDoor
open Go Go.Abs Go.Proofs
set_option maxRecDepth 100000
attribute [local irreducible] AEnd AW ACalls

/-- Cells that fit their kinds are held against each other by what they are. -/
theorem ceqs_iff : ∀ {ks : List CK} {xs ys : List V}, fitsAll ks xs = true → fitsAll ks ys = true → ∃ b, ceqs xs ys = some b ∧ (b = true ↔ xs = ys)
  | [], [], [], _, _ => ⟨true, rfl, by simp⟩
  | k :: ks, v :: vs, u :: us, h1, h2 => by
    simp only [fitsAll, Bool.and_eq_true] at h1 h2
    obtain ⟨b, hb, hi⟩ := ceqs_iff h1.2 h2.2
    have hc : ∃ a, ceq v u = some a ∧ (a = true ↔ v = u) := by
      cases k <;> cases v <;> simp [CK.fits] at h1 <;> cases u <;> simp [CK.fits] at h2
      · rename_i x y; exact ⟨x == y, rfl, by simp⟩
      · obtain ⟨rfl, _⟩ := h1; obtain ⟨rfl, _⟩ := h2; rename_i x y _ _
        exact ⟨x == y, by simp [ceq], by simp⟩
      · rename_i x y; exact ⟨x == y, rfl, by simp⟩
    obtain ⟨a, ha, hj⟩ := hc
    refine ⟨a && b, by simp only [ceqs, ha, hb], ?_⟩
    rw [Bool.and_eq_true, hi, hj]; simp
  | [], _ :: _, _, h, _ => by simp [fitsAll] at h
  | [], [], _ :: _, _, h => by simp [fitsAll] at h
  | _ :: _, [], _, h, _ => by simp [fitsAll] at h
  | _ :: _, _ :: _, [], _, h => by simp [fitsAll] at h

/-- A record. -/
structure SRec where
  kind : Int
  cert : Cert
  parent : Cert
  set : BitVec 32
  author : Int
  count : Int
  block : Int
  text : List UInt8
  deriving DecidableEq
def SRec.cells (r : SRec) : List V := .i .i64 r.kind :: (r.cert.cells ++ (r.parent.cells ++ [u32 r.set, .i .i64 r.author, .i .i64 r.count, .i .i64 r.block, .s r.text]))
def SRec.zero : SRec := ⟨0, Cert.zero, Cert.zero, 0#32, 0, 0, 0, []⟩
@[simp] theorem SRec.len (r : SRec) : r.cells.length = 22 := rfl
theorem SRec.take (r : SRec) : r.cells.take 22 = r.cells := rfl
@[simp] theorem SRec.c0 (r : SRec) : r.cells[0]? = some (.i .i64 r.kind) := rfl
@[simp] theorem SRec.c17 (r : SRec) : r.cells[17]? = some (u32 r.set) := rfl
@[simp] theorem SRec.c18 (r : SRec) : r.cells[18]? = some (.i .i64 r.author) := rfl
@[simp] theorem SRec.c19 (r : SRec) : r.cells[19]? = some (.i .i64 r.count) := rfl
@[simp] theorem SRec.c20 (r : SRec) : r.cells[20]? = some (.i .i64 r.block) := rfl
@[simp] theorem SRec.c21 (r : SRec) : r.cells[21]? = some (.s r.text) := rfl
theorem SRec.certC (r : SRec) : (r.cells.drop 1).take 8 = r.cert.cells := rfl
theorem SRec.parC (r : SRec) : (r.cells.drop 9).take 8 = r.parent.cells := rfl
theorem SRec.cert0 (r : SRec) : r.cells[1]? = some (.i .i64 r.cert.kind) := rfl
theorem SRec.w0 (r : SRec) (x : Int) : splice r.cells 0 [.i .i64 x] = ({ r with kind := x } : SRec).cells := rfl
theorem SRec.w1 (r : SRec) (c : Cert) : splice r.cells 1 c.cells = ({ r with cert := c } : SRec).cells := rfl
theorem SRec.w9 (r : SRec) (c : Cert) : splice r.cells 9 c.cells = ({ r with parent := c } : SRec).cells := rfl
theorem SRec.w17 (r : SRec) (x : BitVec 32) : splice r.cells 17 [u32 x] = ({ r with set := x } : SRec).cells := rfl
theorem SRec.w17u (r : SRec) (x : BitVec 32) : splice r.cells 17 [.i .u32 x.toNat] = ({ r with set := x } : SRec).cells := rfl
theorem SRec.w18 (r : SRec) (x : Int) : splice r.cells 18 [.i .i64 x] = ({ r with author := x } : SRec).cells := rfl
theorem SRec.w19 (r : SRec) (x : Int) : splice r.cells 19 [.i .i64 x] = ({ r with count := x } : SRec).cells := rfl
theorem SRec.w20 (r : SRec) (x : Int) : splice r.cells 20 [.i .i64 x] = ({ r with block := x } : SRec).cells := rfl
theorem SRec.w21 (r : SRec) (x : List UInt8) : splice r.cells 21 [.s x] = ({ r with text := x } : SRec).cells := rfl
theorem SRec.wall (r x : SRec) : splice r.cells 0 x.cells = x.cells := splice_all rfl
theorem Cert.inj {x y : Cert} (h : x.cells = y.cells) : x = y := by
  cases x; cases y
  simp [Cert.cells, u32] at h
  obtain ⟨h1, h2, h3, h4, h5, h6, h7, h8⟩ := h
  have e7 := BitVec.eq_of_toNat_eq (Int.ofNat_inj.1 h7)
  have e8 := BitVec.eq_of_toNat_eq (Int.ofNat_inj.1 h8)
  simp_all
theorem SRec.inj {x y : SRec} : x.cells = y.cells ↔ x = y := by
  refine ⟨fun h => ?_, fun h => by rw [h]⟩
  have h1 : (x.cells.drop 1).take 8 = (y.cells.drop 1).take 8 := by rw [h]
  have h2 : (x.cells.drop 9).take 8 = (y.cells.drop 9).take 8 := by rw [h]
  rw [SRec.certC, SRec.certC] at h1
  rw [SRec.parC, SRec.parC] at h2
  have e1 := Cert.inj h1
  have e2 := Cert.inj h2
  have g : ∀ i : Nat, x.cells[i]? = y.cells[i]? := fun i => by rw [h]
  have g0 := g 0; have g17 := g 17; have g18 := g 18; have g19 := g 19; have g20 := g 20; have g21 := g 21
  simp [u32] at g0 g17 g18 g19 g20 g21
  have e17 := BitVec.eq_of_toNat_eq (Int.ofNat_inj.1 g17)
  cases x; cases y
  simp_all
theorem SRec.fits (r : SRec) : fitsAll ([CK.i .i64] ++ (List.replicate 6 (CK.i .i64) ++ [CK.i .u32, CK.i .u32]) ++ (List.replicate 6 (CK.i .i64) ++ [CK.i .u32, CK.i .u32]) ++ [CK.i .u32, CK.i .i64, CK.i .i64, CK.i .i64, CK.s]) r.cells = true := rfl
theorem SRec.aeqP (x y : SRec) : aeq Tryd.prog 40 (.agg x.cells) (.agg y.cells) = some (decide (x = y)) := by
  obtain ⟨b, hb, hi⟩ := ceqs_iff (SRec.fits x) (SRec.fits y)
  have h1 : aeq Tryd.prog 40 (.agg x.cells) (.agg y.cells) = ceqs x.cells y.cells := by
    simp only [Go.Abs.aeq, qeq_40]
    exact if_pos ⟨rfl, rfl⟩
  rw [h1, hb]
  congr 1
  rw [Bool.eq_iff_iff, hi, SRec.inj]; simp
theorem SRec.aeqR (x y : SRec) : aeq Tryd.prog 41 (.agg x.cells) (.agg y.cells) = some (decide (x = y)) := by
  obtain ⟨b, hb, hi⟩ := ceqs_iff (SRec.fits x) (SRec.fits y)
  have h1 : aeq Tryd.prog 41 (.agg x.cells) (.agg y.cells) = ceqs x.cells y.cells := by
    simp only [Go.Abs.aeq, qeq_41]
    exact if_pos ⟨rfl, rfl⟩
  rw [h1, hb]
  congr 1
  rw [Bool.eq_iff_iff, hi, SRec.inj]; simp

/-! Kinds. -/
inductive KC where | cc | c | sa | nb | tx | no | bad
  deriving DecidableEq
def kclass (k : Int) : KC := if k = 1 ∨ k = 4 then .cc else if k = 5 then .c else if k = 7 then .sa else if k = 8 then .nb else if k = 9 ∨ k = 10 then .tx else if k = 2 ∨ k = 3 ∨ k = 6 then .no else .bad
def SRec.only (r : SRec) : SRec := match kclass r.kind with
  | .cc => { SRec.zero with kind := r.kind, cert := r.cert, parent := r.parent }
  | .c => { SRec.zero with kind := r.kind, cert := r.cert }
  | .sa => { SRec.zero with kind := r.kind, set := r.set, author := r.author }
  | .nb => { SRec.zero with kind := r.kind, count := r.count, block := r.block }
  | .tx => { SRec.zero with kind := r.kind, text := r.text }
  | _ => { SRec.zero with kind := r.kind }
def SRec.certified (r : SRec) : Bool := r.cert.ok &&
  (if r.kind = 1 then decide (r.cert.kind = 1) && r.parent.ok else if r.kind = 4 then decide (r.cert.kind = 2) && decide (r.cert.coin = 0#32) && r.parent.ok else decide (r.cert.kind = 1) || r.cert.endorsed)
def SRec.setBad (r : SRec) : Bool := decide (r.set = 0#32) || !setOk r.set || decide (r.author < 0) || decide (10 ≤ r.author)
def SRec.numBad (r : SRec) : Bool := decide (r.count < 1) || decide (r.block < 1) || decide (2147483647 < r.count) || decide (2147483647 < r.block)
/-- May it be a record? -/
def SRec.form (r : SRec) : Int :=
  if kclass r.kind = .bad ∨ r ≠ r.only then 190 else match kclass r.kind with
  | .cc => if r.certified then 0 else 110
  | .c => if r.certified then 0 else 110
  | .sa => if r.setBad then 1 else 0
  | .nb => if r.numBad then 1 else 0
  | .tx => if (parseBlk r.text).2 = 0 then 0 else 120
  | _ => 0
def natB (x : Int) : List UInt8 := numB x.toNat
def SRec.bytes (r : SRec) : List UInt8 := natB r.kind ++ match kclass r.kind with
  | .cc => r.cert.bytes ++ r.parent.bytes
  | .c => r.cert.bytes
  | .sa => numB r.set.toNat ++ natB r.author
  | .nb => natB r.count ++ natB r.block
  | .tx => textB r.text
  | _ => []
theorem kinds (k : Int) : k = 1 ∨ k = 2 ∨ k = 3 ∨ k = 4 ∨ k = 5 ∨ k = 6 ∨ k = 7 ∨ k = 8 ∨ k = 9 ∨ k = 10 ∨ (k < 1 ∨ 10 < k) := by omega
theorem kclass_bad {k : Int} (h : k < 1 ∨ 10 < k) : kclass k = .bad := by
  unfold kclass
  rw [if_neg (by omega), if_neg (by omega), if_neg (by omega), if_neg (by omega), if_neg (by omega), if_neg (by omega)]
theorem kclass_ok {k : Int} (h : ¬ (k < 1 ∨ 10 < k)) : kclass k ≠ .bad := by
  rcases kinds k with h1 | h1 | h1 | h1 | h1 | h1 | h1 | h1 | h1 | h1 | h1
  all_goals first | (subst h1; decide) | exact absurd h1 h

/-! Reading. -/
def pbody (k : Int) (s : St) : SRec × St := match kclass k with
  | .cc => let a := takeCert s; let b := takeCert a.2; ({ SRec.zero with kind := k, cert := a.1, parent := b.1 }, b.2)
  | .c => let a := takeCert s; ({ SRec.zero with kind := k, cert := a.1 }, a.2)
  | .sa => let a := rsmall s; let b := rsmall a.2; ({ SRec.zero with kind := k, set := BitVec.ofNat 32 (min a.1 2147483648), author := b.1 }, b.2)
  | .nb => let a := rsmall s; let b := rsmall a.2; ({ SRec.zero with kind := k, count := a.1, block := b.1 }, b.2)
  | .tx => let a := rtext s; ({ SRec.zero with kind := k, text := a.1 }, a.2)
  | _ => ({ SRec.zero with kind := k }, s)
def pfin (x : SRec × St) : SRec × Int := if rdone x.2 = 0 then (if x.1.form = 0 then (x.1, 0) else (SRec.zero, 190)) else (SRec.zero, rdone x.2)
/-- The record of bytes, as the program reads it. -/
def parseRec (l : List UInt8) : SRec × Int := pfin (pbody (rsmall (l, 0)).1 (rsmall (l, 0)).2)
def dbody (k : Int) (s : St) : SRec × St := match kclass k with
  | .cc => let a := rtakeCert s; let b := rtakeCert a.2; ({ SRec.zero with kind := k, cert := a.1, parent := b.1 }, b.2)
  | .c => let a := rtakeCert s; ({ SRec.zero with kind := k, cert := a.1 }, a.2)
  | .sa => let a := rnum s; let b := rnum a.2; ({ SRec.zero with kind := k, set := BitVec.ofNat 32 (min a.1 1024), author := b.1 }, b.2)
  | .nb => let a := rnum s; let b := rnum a.2; ({ SRec.zero with kind := k, count := a.1, block := b.1 }, b.2)
  | .tx => let a := rtext s; ({ SRec.zero with kind := k, text := a.1 }, a.2)
  | _ => ({ SRec.zero with kind := k }, s)
/-- .. and as the document reads it. -/
def dparseRec (l : List UInt8) : SRec × Int := pfin (dbody (rnum (l, 0)).1 (rnum (l, 0)).2)
theorem rsmall_1 (s : St) : (rsmall s).1 = min (rnum s).1 1099511627776 := rfl
theorem rsmall_2 (s : St) : (rsmall s).2 = (rnum s).2 := rfl
theorem setOk_ofNat {n : Nat} (h : n < 4294967296) : setOk (BitVec.ofNat 32 n) = decide (n ≤ 1023) := by
  rw [setOk_num, BitVec.toNat_ofNat, Nat.mod_eq_of_lt h]
theorem form_only {r : SRec} (h : r.form = 0) : kclass r.kind ≠ .bad ∧ r = r.only := by
  unfold SRec.form at h
  by_cases hb : kclass r.kind = .bad ∨ r ≠ r.only
  · rw [if_pos hb] at h; cases h
  · simp only [not_or, Classical.not_not, ne_eq] at hb
    exact hb
theorem bodies (k : Int) (s : St) : (dbody k s).2 = (pbody k s).2 ∧ ((dbody k s).1 = (pbody k s).1 ∨ ((dbody k s).1.form ≠ 0 ∧ (pbody k s).1.form ≠ 0)) := by
  unfold dbody pbody
  cases hk : kclass k
  · simp only [rtakeCert_eq]; exact ⟨trivial, .inl trivial⟩
  · simp only [rtakeCert_eq]; exact ⟨trivial, .inl trivial⟩
  · simp only [rsmall_1, rsmall_2]
    refine ⟨trivial, ?_⟩
    by_cases h : (rnum s).1 ≤ 1023 ∧ (rnum (rnum s).2).1 ≤ 9
    · left
      have e1 : min (rnum s).1 1024 = (rnum s).1 := by omega
      have e2 : min (min (rnum s).1 1099511627776) 2147483648 = (rnum s).1 := by omega
      have e3 : min (rnum (rnum s).2).1 1099511627776 = (rnum (rnum s).2).1 := by omega
      rw [e1, e2, e3]
    · right
      have gen : ∀ (n m : Nat), n < 4294967296 → (1023 < n ∨ 10 ≤ m) → ({ SRec.zero with kind := k, set := BitVec.ofNat 32 n, author := (m : Int) } : SRec).form ≠ 0 := by
        intro n m hn hb
        unfold SRec.form
        simp only [hk]
        split
        · decide
        · have : ({ SRec.zero with kind := k, set := BitVec.ofNat 32 n, author := (m : Int) } : SRec).setBad = true := by
            unfold SRec.setBad
            simp only [setOk_ofNat hn]
            rcases hb with hb | hb
            · rw [decide_eq_false (show ¬ n ≤ 1023 by omega)]; simp
            · rw [decide_eq_true (show (10 : Int) ≤ (m : Int) by omega)]; simp
          rw [if_pos this]; decide
      refine ⟨gen _ _ (by omega) ?_, gen _ _ (by omega) ?_⟩ <;> omega
  · simp only [rsmall_1, rsmall_2]
    refine ⟨trivial, ?_⟩
    by_cases h : (rnum s).1 ≤ 2147483647 ∧ (rnum (rnum s).2).1 ≤ 2147483647
    · left
      have e1 : min (rnum s).1 1099511627776 = (rnum s).1 := by omega
      have e3 : min (rnum (rnum s).2).1 1099511627776 = (rnum (rnum s).2).1 := by omega
      rw [e1, e3]
    · right
      have gen : ∀ (n m : Nat), (2147483647 < n ∨ 2147483647 < m) → ({ SRec.zero with kind := k, count := (n : Int), block := (m : Int) } : SRec).form ≠ 0 := by
        intro n m hb
        unfold SRec.form
        simp only [hk]
        split
        · decide
        · have : ({ SRec.zero with kind := k, count := (n : Int), block := (m : Int) } : SRec).numBad = true := by
            unfold SRec.numBad
            rcases hb with hb | hb
            · rw [decide_eq_true (show (2147483647 : Int) < (n : Int) by omega)]; simp
            · rw [decide_eq_true (show (2147483647 : Int) < (m : Int) by omega)]; simp
          rw [if_pos this]; decide
      refine ⟨gen _ _ ?_, gen _ _ ?_⟩ <;> omega
  · exact ⟨rfl, .inl rfl⟩
  · exact ⟨rfl, .inl rfl⟩
  · exact ⟨rfl, .inl rfl⟩
theorem form_badkind {k : Int} (h : kclass k = .bad) (s : St) : (pbody k s) = ({ SRec.zero with kind := k }, s) ∧ (dbody k s) = ({ SRec.zero with kind := k }, s) ∧ ({ SRec.zero with kind := k } : SRec).form ≠ 0 := by
  refine ⟨by unfold pbody; rw [h], by unfold dbody; rw [h], ?_⟩
  unfold SRec.form
  rw [if_pos (.inl h)]; decide
/-- Both read the same. -/
theorem parse_same (l : List UInt8) : dparseRec l = parseRec l := by
  unfold dparseRec parseRec
  rw [rsmall_1, rsmall_2]
  generalize rnum (l, 0) = q
  by_cases hq : q.1 ≤ 1099511627776
  · rw [Nat.min_eq_left hq]
    obtain ⟨h1, h2⟩ := bodies q.1 q.2
    unfold pfin
    rw [h1]
    by_cases h3 : rdone (pbody q.1 q.2).2 = 0
    · rw [if_pos h3, if_pos h3]
      rcases h2 with h2 | ⟨h2, h4⟩
      · rw [h2]
      · rw [if_neg h2, if_neg h4]
    · rw [if_neg h3, if_neg h3]
  · rw [Nat.min_eq_right (by omega)]
    have b1 : kclass (q.1 : Int) = .bad := kclass_bad (by omega)
    have b2 : kclass ((1099511627776 : Nat) : Int) = .bad := kclass_bad (by omega)
    obtain ⟨_, a2, a3⟩ := form_badkind b1 q.2
    obtain ⟨a4, _, a6⟩ := form_badkind b2 q.2
    rw [a2, a4]
    unfold pfin
    simp only [if_neg a3, if_neg a6]
end Go.Proofs.YtoccjilbfkhmoaaDoor
