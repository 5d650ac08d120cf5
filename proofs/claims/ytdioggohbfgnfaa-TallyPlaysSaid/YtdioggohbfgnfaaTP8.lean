/-
  TallyPlays: both tallies in memory, step by step.
-/
import Derived.Test.YtdioggohbfgnfaaTP7
import Derived.Test.YtdioggohbfgnfaaTR8
set_option linter.unusedVariables false
set_option linter.unusedSimpArgs false
namespace Go.Proofs.Ytdioggohbfgnfaa
open Go Go.Abs Go.Proofs
set_option maxRecDepth 100000
attribute [local irreducible] AEnd AW ACalls

theorem tv_acts3 {H : AH} {v : V} (h : TVal Try.prog H 22 v) : ∃ xs : List Act2, RS H v 21 (xs.map Act2.cells) ∧ ∀ a ∈ xs, a.view ≤ 9223372036854775807 := by
  obtain ⟨ls, h3, h4, h5⟩ := h.rs Try.underlying22 cellsOf_36
  obtain ⟨xs, rfl⟩ := exists_map (f := fun a : { a : Act2 // a.view ≤ 9223372036854775807 } => a.1.cells) (ls := ls) fun l hl => by
    have h6 := h4 l hl
    obtain ⟨x0, e0, _⟩ := (h6.fld Try.underlying36 0 rfl rfl rfl cellsOf_3).int Try.underlying3
    obtain ⟨x1, e1, _, hb⟩ := (h6.fld Try.underlying36 1 rfl rfl rfl cellsOf_3).int Try.underlying3
    obtain ⟨x2, e2, _⟩ := (h6.fld Try.underlying36 2 rfl rfl rfl cellsOf_3).int Try.underlying3
    obtain ⟨c, e3⟩ := tv_cert (h6.fld Try.underlying36 3 rfl rfl rfl cellsOf_32)
    obtain ⟨t, e4⟩ := tv_tmo (h6.fld Try.underlying36 4 rfl rfl rfl cellsOf_34)
    have hl := h6.size Try.underlying36 cellsOf_36
    refine ⟨⟨⟨x0, x1, x2, c, t⟩, by have : IntKind.i64.max = 9223372036854775807 := rfl; rw [this] at hb; exact hb⟩, ?_⟩
    rcases l with _ | ⟨a0, _ | ⟨a1, _ | ⟨a2, l⟩⟩⟩ <;> simp at hl
    simp at e0 e1 e2 e3 e4
    have e5 : l = l.take 8 ++ l.drop 8 := (List.take_append_drop 8 l).symm
    have e6 : List.take 10 (List.drop 8 l) = l.drop 8 := List.take_of_length_le (by simp; omega)
    rw [e6] at e4
    rw [e0, e1, e2, e5, e3, e4]
    rfl
  refine ⟨xs.map Subtype.val, by rw [List.map_map]; exact h3, fun a ha => ?_⟩
  obtain ⟨b, _, rfl⟩ := List.mem_map.1 ha
  exact b.2
theorem acts_at {H : AH} {vl : V} {l : List Act2} (hl : RS H vl 21 (l.map Act2.cells)) (i : Nat) (hi : i < l.length) :
    ∃ a, aindexAddr Try.prog 22 vl (.i .i64 i) = some a ∧ aload Try.prog H 36 a = some (.agg l[i].cells) :=
  hl.rec (f := Act2.cells) (fun _ => rfl) (by decide) (P := Try.prog) qelem_22 qsize_36 qagg_36 hi

section
variable {G : AH} {B : Nat} {f fr : Int} {es : Votes} {ts : Turns} {cs ds : Sets} {c1 c2 c3 c4 : Nat}
theorem PT.setV (h : PT G B f fr es ts cs ds c1 c2 c3 c4) (c : Cert) : PT (G.set B (.map (ents cke u32 (vput f fr es c1 c)) (vclk f fr es c1 c))) B f fr (vput f fr es c1 c) ts cs ds (vclk f fr es c1 c) c2 c3 c4 := by
  have hu : Upd G (G.set B (.map (ents cke u32 (vput f fr es c1 c)) (vclk f fr es c1 c))) [B] := Upd.set _ _ _ (by simp)
  have hb := AH.get_lt h.v
  exact ⟨hu.keep (by simp) h.t, by simp [AH.get_set, hb], hu.keep (by simp) h.u, hu.keep (by simp) h.c, hu.keep (by simp) h.d, vput_ok h.ov .., h.ou, h.oc, h.od⟩
theorem pput_ok (h : MOk ts c2) (x : Tmo) : MOk (pput f fr ts c2 x) (pclk f fr ts c2 x) := by
  unfold pput pclk
  split
  · exact h.put _ _
  · exact h
theorem aput_ok (h : MOk cs c3) (w who : Int) : MOk (aput f fr cs c3 w who) (aclk f fr cs c3 w who) := by
  unfold aput aclk
  split
  · exact h.put _ _
  · exact h
theorem PT.setU (h : PT G B f fr es ts cs ds c1 c2 c3 c4) {G' : AH} {x : Tmo} (hu : Upd G G' [B + 1]) (hg : G'.get (B + 1) = some (.map (ents tke tve (pput f fr ts c2 x)) (pclk f fr ts c2 x))) : PT G' B f fr es (pput f fr ts c2 x) cs ds c1 (pclk f fr ts c2 x) c3 c4 :=
  ⟨hu.keep (by simp) h.t, hu.keep (by simp) h.v, hg, hu.keep (by simp) h.c, hu.keep (by simp) h.d, h.ov, pput_ok h.ou x, h.oc, h.od⟩
theorem PT.setC (h : PT G B f fr es ts cs ds c1 c2 c3 c4) {G' : AH} {w who : Int} (hp : if aerr f fr w who = 0 then G' = G.set (B + 2) (.map (ents keyI u32 (mput cs w (aset cs w who) c3)) (mclk cs w c3)) else G' = G) :
    PT G' B f fr es ts (aput f fr cs c3 w who) ds c1 c2 (aclk f fr cs c3 w who) c4 ∧ Upd G G' (ptF B) := by
  have ho := aput_ok (f := f) (fr := fr) h.oc w who
  unfold aput aclk at ho ⊢
  have hb := AH.get_lt h.c
  by_cases h0 : aerr f fr w who = 0
  · rw [if_pos h0] at hp
    rw [if_pos h0, if_pos h0] at ho ⊢
    subst hp
    have hu : Upd G (G.set (B + 2) (.map (ents keyI u32 (mput cs w (aset cs w who) c3)) (mclk cs w c3))) [B + 2] := Upd.set _ _ _ (by simp)
    exact ⟨⟨hu.keep (by simp) h.t, hu.keep (by simp) h.v, hu.keep (by simp) h.u, by simp [AH.get_set, hb], hu.keep (by simp) h.d, h.ov, h.ou, ho, h.od⟩, hu.mono (by simp [ptF])⟩
  · rw [if_neg h0] at hp
    rw [if_neg h0, if_neg h0]
    subst hp
    exact ⟨h, Upd.refl ..⟩
theorem PT.setD (h : PT G B f fr es ts cs ds c1 c2 c3 c4) {G' : AH} {w who : Int} (hp : if aerr f fr w who = 0 then G' = G.set (B + 3) (.map (ents keyI u32 (mput ds w (aset ds w who) c4)) (mclk ds w c4)) else G' = G) :
    PT G' B f fr es ts cs (aput f fr ds c4 w who) c1 c2 c3 (aclk f fr ds c4 w who) ∧ Upd G G' (ptF B) := by
  have ho := aput_ok (f := f) (fr := fr) h.od w who
  unfold aput aclk at ho ⊢
  have hb := AH.get_lt h.d
  by_cases h0 : aerr f fr w who = 0
  · rw [if_pos h0] at hp
    rw [if_pos h0, if_pos h0] at ho ⊢
    subst hp
    have hu : Upd G (G.set (B + 3) (.map (ents keyI u32 (mput ds w (aset ds w who) c4)) (mclk ds w c4))) [B + 3] := Upd.set _ _ _ (by simp)
    exact ⟨⟨hu.keep (by simp) h.t, hu.keep (by simp) h.v, hu.keep (by simp) h.u, hu.keep (by simp) h.c, by simp [AH.get_set, hb], h.ov, h.ou, h.oc, ho⟩, hu.mono (by simp [ptF])⟩
  · rw [if_neg h0] at hp
    rw [if_neg h0, if_neg h0]
    subst hp
    exact ⟨h, Upd.refl ..⟩
end
/-- Both tallies, with as many of each kind as there were acts. -/
def InvP (H G : AH) (B : Nat) (f : Int) (i : Nat) : Prop :=
  (∀ j, j < B → G.get j = H.get j) ∧ ∃ fr es ts cs ds c1 c2 c3 c4 vs tl ms F, PT G B f fr es ts cs ds c1 c2 c3 c4 ∧ RAt G (B + 5) F f fr vs tl ms ∧ RelT f es ts cs ds vs tl ms ∧ 1 ≤ fr ∧ vs.length ≤ i ∧ tl.length ≤ i ∧ ms.length ≤ i ∧ ∀ j ∈ F, B + 5 ≤ j
theorem ptF_lt {B j : Nat} (h : j ∈ ptF B) : B ≤ j ∧ j < B + 5 := by simp [ptF] at h; omega
/-- A step of the program's tally and of the document's. -/
theorem InvP.step {H G G1 G2 : AH} {B : Nat} {f : Int} {i : Nat} (hlo : ∀ j, j < B → G.get j = H.get j) {fr fr' : Int} {es es' : Votes} {ts ts' : Turns} {cs cs' ds ds' : Sets} {c1 c2 c3 c4 c1' c2' c3' c4' : Nat} {vs' : List Cert} {tl' : List Tmo} {ms' : List Mrk} {F F' : List Nat}
    (hP : PT G B f fr es ts cs ds c1 c2 c3 c4) (hP1 : PT G1 B f fr' es' ts' cs' ds' c1' c2' c3' c4') (hu1 : Upd G G1 (ptF B)) (hF : ∀ j ∈ F, B + 5 ≤ j) (hlt : ∀ j ∈ F, j < G.next) (hR2 : RAt G2 (B + 5) F' f fr' vs' tl' ms') (hu2 : Upd G1 G2 F) (hF' : ∀ j ∈ F', j ∈ F ∨ G1.next ≤ j)
    (hrel : RelT f es' ts' cs' ds' vs' tl' ms') (hfr : 1 ≤ fr') (h1 : vs'.length ≤ i + 1) (h2 : tl'.length ≤ i + 1) (h3 : ms'.length ≤ i + 1) : InvP H G2 B f (i + 1) := by
  have hb := AH.get_lt hP.t
  have hn := hu1.1
  refine ⟨fun j hj => ?_, fr', es', ts', cs', ds', c1', c2', c3', c4', vs', tl', ms', F', hP1.upd hu2 (fun j hj hm => ?_), hR2, hrel, hfr, h1, h2, h3, fun j hj => ?_⟩
  · rw [hu2.2 j (by omega) (fun hm => by have := hF j hm; omega), hu1.2 j (by omega) (fun hm => by have := ptF_lt hm; omega)]
    exact hlo j hj
  · have a := ptF_lt hj
    have b := hF j hm
    omega
  · rcases hF' j hj with h | h
    · exact hF j h
    · omega
end Go.Proofs.Ytdioggohbfgnfaa
