/-
  TallyEnough: the walk.
-/
import Derived.Test.YtdioggohbfgnfaaEnough1
set_option linter.unusedVariables false
set_option linter.unusedSimpArgs false
namespace Go.Proofs.Ytdioggohbfgnfaa
open Go Go.Abs Go.Proofs
set_option maxRecDepth 100000
attribute [local irreducible] AEnd AW ACalls

def votesOf (l : List Act) : List Cert := (l.filter fun a => decide (a.kind = 0)).map (·.cert)
theorem votesOf_len (l : List Act) : (votesOf l).length ≤ l.length := by simp [votesOf]; exact List.length_filter_le ..
abbrev cc (cs : List Cert) : List (List V) := cs.map Cert.cells
@[simp] theorem cc_len (cs : List Cert) : ∀ l ∈ cc cs, l.length = 8 := by
  intro l hl; simp only [cc, List.mem_map] at hl; obtain ⟨c, _, rfl⟩ := hl; rfl
def bools (bs : List Bool) : List (List V) := bs.map fun b => [.b b]
@[simp] theorem bools_len (bs : List Bool) : ∀ l ∈ bools bs, l.length = 1 := by
  intro l hl; simp only [bools, List.mem_map] at hl; obtain ⟨c, _, rfl⟩ := hl; rfl
theorem appC : App Try.prog 29 29 8 56 := App.mk' qelem_29 qsize_32 qbytes_32 qzero_32 qsrc_29 rfl (by decide)
theorem appB : App Try.prog 37 37 1 1 := App.mk' qelem_37 qsize_4 qbytes_4 qzero_4 qsrc_37 rfl (by decide)
/-- A vote of an owned slice. -/
theorem Own.cert {G : AH} {v : V} {cs : List Cert} {F : List Nat} (h : Own G v 8 (cc cs).flatten F) {i : Nat} (hi : i < cs.length) :
    ∃ a a6, aindexAddr Try.prog 29 v (.i .i64 i) = some a ∧ aload Try.prog G 32 a = some (.agg cs[i].cells) ∧ afieldAddr Try.prog 32 6 a = some a6 ∧ aload Try.prog G 30 a6 = some (u32 cs[i].signers) := by
  obtain ⟨a, h1, h2⟩ := (h.rs (by decide) (cc_len cs)).at (P := Try.prog) (by decide) qelem_29 qsize_32 (k := .i64) i (l := cs[i].cells) (by simp [hi])
  obtain ⟨a6, h3, h4⟩ := h2.fld (P := Try.prog) (t := 32) (ft := 30) (f := 6) (o := 6) (b := false) (x := u32 cs[i].signers) (by simp) qagg_30 qsize_30 (by simp)
  exact ⟨a, a6, h1, h2.load qagg_32 (by simp), h3, h4⟩
theorem Own.bool {G : AH} {v : V} {bs : List Bool} {F : List Nat} (h : Own G v 1 (bools bs).flatten F) {i : Nat} (hi : i < bs.length) :
    ∃ a, aindexAddr Try.prog 37 v (.i .i64 i) = some a ∧ aload Try.prog G 4 a = some (.b bs[i]) :=
  (h.rs (by decide) (bools_len bs)).at1 (P := Try.prog) qelem_37 qsize_4 qagg_4 i (by simp [bools, hi])
theorem Own.certs {G : AH} {v : V} {cs : List Cert} {F : List Nat} (h : Own G v 8 (cc cs).flatten F) (H' : AH) : alen Try.prog H' 29 v = some (.i .i64 cs.length) := by
  have := h.len (P := Try.prog) (H' := H') (by decide) qelem_29
  rw [this, flatten_len (cc cs) (cc_len cs)]
  simp
/-- The best of a list: what its last one is told. -/
def bestOf (f : Int) (cs : List Cert) : BitVec 32 := match cs.getLast? with
  | some c => (tell f cs.dropLast c).signers
  | none => 0#32
def bestAt (f : Int) (cs : List Cert) (i : Nat) : BitVec 32 := if i = cs.length then bestOf f cs else 0#32
theorem bestOf_snoc (f : Int) (cs : List Cert) (c : Cert) : bestOf f (cs ++ [c]) = (tell f cs c).signers := by simp [bestOf]
theorem bestAt_last (f : Int) (cs : List Cert) (i : Nat) (h : i + 1 = cs.length) : bestAt f cs (i + 1) = (tell f (cs.take i) (cs[i]'(by omega))).signers := by
  unfold bestAt
  rw [if_pos h]
  have e : cs = cs.take i ++ [cs[i]'(by omega)] := by rw [List.take_append_getElem, List.take_of_length_le (by omega)]
  conv => lhs; rw [e]
  exact bestOf_snoc ..
end Go.Proofs.Ytdioggohbfgnfaa
