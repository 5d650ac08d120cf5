/-
  strings.Builder: WriteString, String.
-/
import Derived.Test.YtikonppmjkipoaaDoorYtikonppmjkipoaaDoorFacts
import Derived.Test.YtikonppmjkipoaaDoorAbsC
import Derived.Test.YtikonppmjkipoaaDoorAbsB
set_option linter.unusedVariables false
set_option linter.unusedSimpArgs false
namespace Go.Proofs.YtikonppmjkipoaaDoor
open Go Go.Abs Go.Proofs
set_option maxRecDepth 100000
attribute [local irreducible] AEnd AW ACalls
/-- A slice of bytes that is a builder's own, in a block made for bytes. -/
def BB (H : AH) (v : V) (l : List UInt8) (F : List Nat) : Prop :=
  (v = .sl none 0 false ∧ l = [] ∧ F = []) ∨
  (∃ id g, v = .sl (some (id, g, 0)) l.length false ∧ H.get id = some (.cells (bytesV l) g false 1) ∧ g % gK = 5 + 1 ∧ 0 < l.length ∧ F = [id])
theorem BB.upd {H H' : AH} {v : V} {l : List UInt8} {F G : List Nat} (h : BB H v l F) (u : Upd H H' G) (hd : ∀ j ∈ F, j ∉ G) : BB H' v l F := by
  rcases h with h | ⟨id, g, h1, h2, h3, h4, h5⟩
  · exact .inl h
  · subst h5
    exact .inr ⟨id, g, h1, u.keep (hd id (by simp)) h2, h3, h4, rfl⟩
theorem BB.cells {H : AH} {v : V} {l : List UInt8} {F : List Nat} (h : BB H v l F) : v.cells = some [v] := by
  rcases h with ⟨rfl, _⟩ | ⟨id, g, rfl, _⟩ <;> rfl
theorem BB.len {H H' : AH} {v : V} {l : List UInt8} {F : List Nat} (h : BB H v l F) : alen Tryd.prog H' 69 v = some (.i .i64 l.length) := by
  rcases h with ⟨rfl, rfl, _⟩ | ⟨id, g, rfl, _⟩ <;> simp [alen]
theorem gK_u8 : (5 + 1) % gK = 5 + 1 := by decide
theorem BB.append {H : AH} {v : V} {l : List UInt8} {F : List Nat} (h : BB H v l F) (new : List UInt8) (hl : l.length + new.length ≤ 1000000000) :
    ∃ v' H' F', aappend Tryd.prog H 69 9 v (.s new) = some (v', H') ∧ BB H' v' (l ++ new) F' ∧ Upd H H' F ∧ ∀ j ∈ F', j ∈ F ∨ H.next ≤ j := by
  have hu := Tryd.underlying9
  by_cases h0 : new.length = 0
  · have : new = [] := List.eq_nil_of_length_eq_zero h0
    subst this
    rw [List.append_nil]
    refine ⟨v, H, F, ?_, h, Upd.refl _ _, fun j hj => .inl hj⟩
    rcases h with ⟨rfl, _⟩ | ⟨id, g, rfl, _⟩ <;> simp [aappend, hu, descSrc, asource, V.cells]
  · rcases h with ⟨rfl, rfl, rfl⟩ | ⟨id, g, rfl, h2, h3, h4, rfl⟩
    · refine ⟨_, _, _, ?_, .inr ⟨H.next, qgenB Tryd.prog 5, rfl, AH.get_new_same .., by simp [gK], by simp; omega, rfl⟩, Upd.new .., fun j hj => .inr (by simp at hj; omega)⟩
      have : roomOk new.length 1 = true := by simp [roomOk]; simp at hl; omega
      simp [aappend, hu, descSrc, asource, V.cells, h0, this]
    · have hr : roomOk (l.length + new.length) 1 = true := by simp [roomOk]; omega
      have hbl : (bytesV l).length = l.length := by simp [bytesV]
      refine ⟨.sl (some (id, anext Tryd.prog 5 g 0, 0)) (l.length + new.length) false, H.set id (.cells (bytesV (l ++ new)) (anext Tryd.prog 5 g 0) false 1), [id], ?_, .inr ⟨id, _, by simp, AH.get_set_same (AH.get_lt h2), ?_, by simp; omega, rfl⟩, Upd.set _ _ _ (by simp), fun j hj => .inl hj⟩
      · have e1 : (bytesV l).take l.length = bytesV l := by rw [← hbl, List.take_length]
        have e2 : bytesV (l ++ new) = bytesV l ++ bytesV new := by simp [bytesV]
        have e3 : ¬ l.length + new.length ≤ l.length := by omega
        simp [aappend, hu, descSrc, asource, V.cells, h0, h2, hbl, hr, e1, e2, e3]
      · unfold anext
        rw [if_pos h3, gnext_zero, h3]
/-- A builder that holds a text. -/
def BldAt (H : AH) (id : Nat) (l : List UInt8) (F : List Nat) : Prop :=
  ∃ av v, H.get id = some (.cells [av, v] (qgen Tryd.prog 71) false 0) ∧ (av = .p none ∨ av = .p (some (id, qgen Tryd.prog 71, 0))) ∧ BB H v l F ∧ id ∉ F
theorem BldAt.upd {H H' : AH} {id : Nat} {l : List UInt8} {F G : List Nat} (h : BldAt H id l F) (u : Upd H H' G) (h1 : id ∉ G) (hd : ∀ j ∈ F, j ∉ G) : BldAt H' id l F := by
  obtain ⟨av, v, h2, h3, h4, h5⟩ := h
  exact ⟨av, v, u.keep h1 h2, h3, h4.upd u hd, h5⟩
theorem noEsc (H : AH) (v : V) : ACalls Tryd.prog 70 [v] H fun r H' => r = v ∧ H' = H := extVal_ok (by kernel_rfl)
theorem copyCheck_ok (H : AH) {id : Nat} {av v : V} (hg : H.get id = some (.cells [av, v] (qgen Tryd.prog 71) false 0)) (ha : av = .p none ∨ av = .p (some (id, qgen Tryd.prog 71, 0))) :
    ACalls Tryd.prog 54 [.p (some (id, qgen Tryd.prog 71, 0))] H fun r H' => H'.get id = some (.cells [.p (some (id, qgen Tryd.prog 71, 0)), v] (qgen Tryd.prog 71) false 0) ∧ Upd H H' [id] := by
  rw [qgen_71] at *
  refine ACalls_body Tryd.func54 rfl rfl ?_
  have hl : aload Tryd.prog H 68 (.p (some (id, 71 + 1, 0))) = some av := by simp [aload, hg]
  refine AW_seq ?_
  refine AW_reg [0, 6] fun K hK => ?_ -- region 0
  simp [init_eq, afieldAddr, hl, hg]
  rcases ha with rfl | rfl
  · have hcv : aconvert Tryd.prog H 68 127 (.p (some (id, 71 + 1, 0))) = some (.p (some (id, 71 + 1, 0)), H) := by
      simp [aconvert, Tryd.underlying68, Tryd.underlying127, hg]
    have hcv2 : aconvert Tryd.prog H 127 68 (.p (some (id, 71 + 1, 0))) = some (.p (some (id, 71 + 1, 0)), H) := by
      simp [aconvert, Tryd.underlying68, Tryd.underlying127, hg, gK]
    simp [abin]
    refine hK _ _ ?_; clear hK K
    refine AW_cond' rfl rfl (fun hc => ?_) (fun hc => by cases hc)
    refine AW_reg [] fun K hK => ?_ -- region 1
    simp [init_eq, hcv]
    refine ACalls.mono (noEsc ..) fun r H' ⟨hr, e⟩ => ?_ -- internal/abi.NoEscape
    subst hr e
    simp [hcv2, afieldAddr, hg, astore, V.cells, splice]
    refine hK _ _ ?_; clear hK K
    exact end_normal rfl ⟨AH.get_set_same (AH.get_lt hg), Upd.set _ _ _ (by simp)⟩
  · simp [abin]
    refine hK _ _ ?_; clear hK K
    refine AW_cond' rfl rfl (fun hc => by cases hc) (fun hc => ?_)
    have hne : apeq Tryd.prog H .neq 68 (.p (some (id, 71 + 1, 0))) (.p (some (id, 71 + 1, 0))) = some (.b false) := by
      simp [apeq, Tryd.underlying68, hg]
    refine AW_seq ?_
    refine AW_reg [19] fun K hK => ?_ -- region 2
    simp [init_eq, afieldAddr, hl, hg, hne]
    refine hK _ _ ?_; clear hK K
    refine AW_cond' rfl rfl (fun hc => by cases hc) (fun hc => ?_)
    exact AW_skip (end_normal rfl ⟨hg, Upd.refl ..⟩)
theorem writeString_ok (H : AH) {id : Nat} {l : List UInt8} {F : List Nat} (h : BldAt H id l F) (t : List UInt8) (hl : l.length + t.length ≤ 1000000000) :
    ACalls Tryd.prog 30 [.p (some (id, qgen Tryd.prog 71, 0)), .s t] H fun r H' => ∃ F', BldAt H' id (l ++ t) F' ∧ Upd H H' (id :: F) ∧ ∀ j ∈ F', j ∈ F ∨ H.next ≤ j := by
  obtain ⟨av, v, hg, ha, hb, hF⟩ := h
  have lid := AH.get_lt hg
  refine ACalls_body Tryd.func30 rfl rfl ?_
  refine AW_seq ?_
  refine AW_reg [0, 1] fun K hK => ?_ -- region 0
  simp [init_eq]
  refine hK _ _ ?_; clear hK K
  refine AW_seq ?_
  refine AW_reg [0, 1] fun K hK => ?_ -- region 1
  simp [init_eq]
  rw [← qgen_71]
  refine ACalls.mono (copyCheck_ok H hg ha) fun r H1 ⟨g1, u1⟩ => ?_ -- (*strings.Builder).copyCheck
  try simp
  refine hK _ _ ?_; clear hK K
  rw [qgen_71] at *
  have hb1 := hb.upd u1 (fun j hj h => by simp at h; subst h; exact hF hj)
  obtain ⟨v', H2, F', e1, hb2, u2, f2⟩ := hb1.append t hl
  have g2 := u2.keep hF g1
  have hl1 : aload Tryd.prog H1 69 (.p (some (id, 71 + 1, 1))) = some v := by simp [aload, g1]
  refine AW_seq ?_
  refine AW_reg [1] fun K hK => ?_ -- region 2
  simp [init_eq, afieldAddr, g1, hl1, e1, g2, astore, hb2.cells, splice]
  refine hK _ _ ?_; clear hK K
  generalize hH3 : H2.set id _ = H3
  have u3 : Upd H2 H3 [id] := by rw [← hH3]; exact Upd.set _ _ _ (by simp)
  have g3 : H3.get id = some (.cells [.p (some (id, 71 + 1, 0)), v'] (71 + 1) false 0) := by rw [← hH3]; exact AH.get_set_same (AH.get_lt g2)
  clear hH3
  have hF' : id ∉ F' := fun h => by
    rcases f2 id h with h | h
    · exact hF h
    · have := u1.1; omega
  refine AW_seq ?_
  refine AW_reg [4, 5] fun K hK => ?_ -- region 3
  simp [init_eq, alen]
  refine hK _ _ ?_; clear hK K
  refine AW_ret (end_ret rfl ⟨F', ⟨_, v', by rw [qgen_71]; exact g3, .inr (by rw [qgen_71]), hb2.upd u3 (fun j hj h => by simp at h; subst h; exact hF' hj), hF'⟩, ?_, fun j hj => ?_⟩)
  · exact ((u1.mono (G := id :: F) (by simp)).trans u2 (fun j hj => .inl (by simp [hj]))).trans u3 (fun j hj => .inl (by simp at hj; simp [hj]))
  · rcases f2 j hj with h | h
    · exact .inl h
    · exact .inr (by have := u1.1; omega)
theorem bstring_ok (H : AH) {id : Nat} {l : List UInt8} {F : List Nat} (h : BldAt H id l F) (hlen : l.length ≤ 1000000000) :
    ACalls Tryd.prog 35 [.p (some (id, qgen Tryd.prog 71, 0))] H fun r H' => r = .s l ∧ Upd H H' F := by
  obtain ⟨av, v, hg, ha, hb, hF⟩ := h
  rw [qgen_71] at *
  refine ACalls_body Tryd.func35 rfl rfl ?_
  refine AW_seq ?_
  refine AW_reg [0] fun K hK => ?_ -- region 0
  simp [init_eq]
  refine hK _ _ ?_; clear hK K
  have hl1 : aload Tryd.prog H 69 (.p (some (id, 71 + 1, 1))) = some v := by simp [aload, hg]
  refine AW_seq ?_
  refine AW_regd [2] pl_35_1 pe_35_1 (by kernel_rfl) (by kernel_rfl) (by decide) fun K hK => ?_
  rcases hb with ⟨rfl, rfl, rfl⟩ | ⟨q, g, rfl, h2, h3, h4, rfl⟩
  · have hus : aunsafeString Tryd.prog H 110 (.p none) (.i .i64 0) = some (.s [], H) := by simp [aunsafeString, Tryd.underlying110]
    simp [init_eq, pl_35_1, afieldAddr, hg, hl1, aunsafeData, alen, hus]
    refine hK _ _ ?_; clear hK K
    exact AW_ret (end_ret rfl ⟨rfl, Upd.refl ..⟩)
  · have hus : aunsafeString Tryd.prog H 110 (.p (some (q, g, 0))) (.i .i64 l.length) = some (.s l, H.set q (.cells (bytesV l) g true 1)) := by
      have hbl : (bytesV l).length = l.length := by simp [bytesV]
      have e1 : (bytesV l).take l.length = bytesV l := by rw [← hbl, List.take_length]
      have e2 : (l.length : Int) ≤ 9223372036854775807 := by omega
      simp [aunsafeString, Tryd.underlying110, h2, h3, h4, e1, hbl, e2]
    simp [init_eq, pl_35_1, afieldAddr, hg, hl1, aunsafeData, alen, Nat.ne_of_gt h4, hus]
    refine hK _ _ ?_; clear hK K
    exact AW_ret (end_ret rfl ⟨rfl, Upd.set _ _ _ (by simp)⟩)
end Go.Proofs.YtikonppmjkipoaaDoor
