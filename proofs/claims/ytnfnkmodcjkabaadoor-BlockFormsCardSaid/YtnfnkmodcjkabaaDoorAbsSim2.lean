/-
  The rest of the operations.
-/
import Derived.Test.YtnfnkmodcjkabaaDoorAbsEq
import Derived.Test.YtnfnkmodcjkabaaDoorAbsOp2
set_option linter.unusedVariables false
set_option linter.unusedSimpArgs false
namespace Go.Abs
open Go Go.RowKit

section
variable {C : Ctx} {P : Program} {S : Loc} {H : AH} {w : World}

theorem qelem_spec {t e : TypeId} (h : qelem P t = some e) : P.underlying t = some (.slice e) := by
  unfold qelem at h; split at h <;> simp_all
theorem qarr_spec {t e : TypeId} {n : Nat} (h : qarr P t = some (n, e)) : P.underlying t = some (.array n e) := by
  unfold qarr at h; split at h <;> simp_all
theorem qmap_spec {t k e : TypeId} (h : qmap P t = some (k, e)) : P.underlying t = some (.map k e) := by
  unfold qmap at h; split at h <;> simp_all
theorem qstr_spec {t : TypeId} (h : qstr P t = true) : P.underlying t = some .string := by
  unfold qstr at h; split at h <;> simp_all
theorem qfield_spec {t : TypeId} {f o n : Nat} {a : Bool} (h : qfield P t f = some (o, n, a)) :
    ∃ fs fl, P.underlying t = some (.struct fs) ∧ fs[f]? = some fl ∧ fl.offset = o ∧ qsize P fl.type = some n ∧ qagg P fl.type = some a := by
  unfold qfield at h
  split at h
  · rename_i fs hu
    split at h
    · rename_i fl hf
      split at h
      · rename_i n' a' hn ha
        simp only [Option.some.injEq, Prod.mk.injEq] at h
        obtain ⟨rfl, rfl, rfl⟩ := h
        exact ⟨fs, fl, hu, hf, rfl, hn, ha⟩
      · cases h
    · cases h
  · cases h

theorem sim_fieldAddr {t : TypeId} {f : Nat} {a v : V} {ca : Value} (ha : VR S a ca) (h : afieldAddr P t f a = some v) :
    ∃ cv, (∀ w, (Instr.fieldAt t ca f).run P w = .ok cv w) ∧ VR S v cv := by
  unfold afieldAddr at h
  split at h
  · rename_i id g off o n b hq
    obtain ⟨fs, fl, hu, hf, ho, hn, _⟩ := qfield_spec hq
    split at h <;> cases h
    rename_i hn0
    cases ha with
    | p _ _ _ ad h1 h2 h3 =>
      refine ⟨.pointer (some (ad.add fl.offset)), ?_, .p _ _ _ _ h1 h2 fun e => ?_⟩
      · intro w; unfold Instr.fieldAt Instr.sureAddr fieldPlace
        simp [run_underlying hu, hf, run_sizeOf w hn, hn0]
      · rw [h3 e, add_none, ho, Nat.add_assoc]
  · cases h

theorem VR.agg_part {l : List V} {l' : List Value} (h : VRs S l l') (h2 : ∀ c ∈ l', c.oneCell' = true) (o n : Nat) :
    VR S (.agg ((l.drop o).take n)) (.agg ((l'.drop o).take n).toArray) :=
  .agg _ _ ((h.drop o).take n) fun c hc => h2 c (List.mem_of_mem_drop (List.mem_of_mem_take hc))

theorem run_part_agg {t : TypeId} {n : Nat} (w : World) (cs : List Value) (off : Nat) (ha : qagg P t = some true) (hn : qsize P t = some n) (hl : off + n ≤ cs.length) :
    (part t cs.toArray off).run P w = .ok (.agg ((cs.drop off).take n).toArray) w := by
  have := run_part (P := P) w cs.toArray off ha hn (fun e => by cases e) (by simpa using hl)
  simpa [Vof] using this
theorem run_part_one {t : TypeId} {n : Nat} (w : World) (cs : List Value) (off : Nat) (ha : qagg P t = some false) (v : Value) (hv : cs[off]? = some v) :
    (part t cs.toArray off).run P w = .ok v w := by
  unfold part
  simp [run_isAgg w ha, hv]

theorem sim_field {t : TypeId} {f : Nat} {x v : V} {cx : Value} (hx : VR S x cx) (h : afield P t f x = some v) :
    ∃ cv, (∀ w, (Instr.field t cx f).run P w = .ok cv w) ∧ VR S v cv := by
  unfold afield at h
  split at h
  · rename_i l o n hq
    obtain ⟨fs, fl, hu, hf, ho, hn, hagg⟩ := qfield_spec hq
    split at h <;> cases h
    rename_i hl
    cases hx with
    | agg _ l' hv h2 =>
      refine ⟨_, ?_, VR.agg_part hv h2 o n⟩
      intro w
      unfold Instr.field
      simp only [Sem.run_bind, run_underlying hu, Result.andThen_ok, hf, asAgg, Sem.run_pure, ho]
      exact run_part_agg w l' o hagg hn (by rw [← hv.length]; exact hl)
  · rename_i l o n hq
    obtain ⟨fs, fl, hu, hf, ho, hn, hagg⟩ := qfield_spec hq
    cases hx with
    | agg _ l' hv h2 =>
      obtain ⟨c, hc, hcv⟩ := hv.get o v h
      refine ⟨c, ?_, hcv⟩
      intro w
      unfold Instr.field
      simp only [Sem.run_bind, run_underlying hu, Result.andThen_ok, hf, asAgg, Sem.run_pure, ho]
      exact run_part_one (n := n) w l' o hagg c hc
  · cases h

theorem sim_indexAddr {t : TypeId} {x i v : V} {cx ci : Value} (hx : VR S x cx) (hi : VR S i ci) (h : aindexAddr P t x i = some v) :
    ∃ cv, (∀ w, (Instr.indexAt t cx ci).run P w = .ok cv w) ∧ VR S v cv := by
  unfold aindexAddr at h
  split at h
  · rename_i id g off len clip k n
    split at h
    · rename_i e he
      split at h
      · rename_i sz hsz
        split at h <;> cases h
        rename_i hb
        have hu := qelem_spec he
        cases hi
        cases hx with
        | sl _ _ _ _ cap _ ad h1 h2 hl h3 h4 h5 =>
          refine ⟨.pointer (some (ad.add (n.toNat * sz))), ?_, .p _ _ _ _ h1 h2 fun e => ?_⟩
          · intro w; unfold Instr.indexAt
            simp [asIntOf, run_underlying hu, hb, run_sizeOf w hsz]
          · rw [h3 e (by omega), add_none, Nat.add_assoc]
      · cases h
    · cases h
  · rename_i id g off k n
    split at h
    · rename_i len e he
      split at h
      · rename_i sz hsz
        split at h <;> cases h
        rename_i hb
        have hu := qarr_spec he
        cases hi
        cases hx with
        | p _ _ _ ad h1 h2 h3 =>
          refine ⟨.pointer (some (ad.add (n.toNat * sz))), ?_, .p _ _ _ _ h1 h2 fun e => ?_⟩
          · intro w; unfold Instr.indexAt Instr.sureAddr
            simp [asIntOf, run_underlying hu, hb, run_sizeOf w hsz]
          · rw [h3 e, add_none, Nat.add_assoc]
      · cases h
    · cases h
  · cases h

theorem sim_index {t : TypeId} {x i v : V} {cx ci : Value} (hx : VR S x cx) (hi : VR S i ci) (h : aindex P t x i = some v) :
    ∃ cv, (∀ w, (Instr.index t cx ci).run P w = .ok cv w) ∧ VR S v cv := by
  unfold aindex at h
  split at h
  · rename_i l k n
    split at h
    · rename_i hb
      have hu := qstr_spec hb.1
      cases hi
      cases hx with
      | s _ c hc =>
        simp only [Option.map_eq_some_iff] at h
        obtain ⟨b, hb2, rfl⟩ := h
        subst hc
        have hlt : n.toNat < c.size := by
          have := (List.getElem?_eq_some_iff.1 hb2).1
          simpa using this
        have e : (if 0 ≤ n then c[n.toNat]? else none) = some b := by
          rw [if_pos hb.2, ByteArray.getElem?_lt' c _ hlt]
          have := (List.getElem?_eq_some_iff.1 hb2).2
          rw [← this]; rfl
        refine ⟨.int .u8 b.toNat, ?_, .i _ _⟩
        intro w
        unfold Instr.index
        simp only [Sem.run_bind, asIntOf, Sem.run_pure, Result.andThen_ok, run_underlying hu, e]
    · cases h
  · rename_i l k n
    split at h
    · rename_i len e he
      have hu := qarr_spec he
      cases hi
      cases hx with
      | agg _ l' hv h2 =>
        split at h
        · rename_i sz hsz hagg
          split at h <;> cases h
          rename_i hb
          refine ⟨_, ?_, VR.agg_part hv h2 (n.toNat * sz) sz⟩
          intro w
          unfold Instr.index
          simp only [Sem.run_bind, asIntOf, Sem.run_pure, Result.andThen_ok, run_underlying hu]
          rw [if_pos ⟨hb.1, hb.2.1⟩]
          simp only [Sem.run_bind, run_sizeOf w hsz, Result.andThen_ok]
          exact run_part_agg w l' _ hagg hsz (by rw [← hv.length]; exact hb.2.2)
        · rename_i sz hsz hagg
          split at h
          · rename_i hb
            obtain ⟨c, hc, hcv⟩ := hv.get _ v h
            refine ⟨c, ?_, hcv⟩
            intro w
            unfold Instr.index
            simp only [Sem.run_bind, asIntOf, Sem.run_pure, Result.andThen_ok, run_underlying hu]
            rw [if_pos ⟨hb.1, hb.2.1⟩]
            simp only [Sem.run_bind, run_sizeOf w hsz, Result.andThen_ok]
            rw [hb.2.2, Nat.mul_one]
            exact run_part_one (n := sz) w l' _ hagg c hc
          · cases h
        · cases h
    · cases h
  · cases h

/-! Slices. -/
def VRo (S : Loc) : Option V → Option Value → Prop
  | none, none => True
  | some v, some c => VR S v c
  | _, _ => False

theorem sim_bound {x : Option V} {cx : Option Value} {d y r : Nat} (hx : VRo S x cx) (h : abound x d y = some r) :
    (cx = none ∧ x = none ∧ r = d) ∨ (∃ c, cx = some c ∧ x.isSome = true ∧ r ≤ y ∧ ∀ y' code, y ≤ y' → (Instr.sliceBound c y' code).run P w = .ok r w) := by
  unfold abound at h
  split at h
  · cases cx with
    | none => cases h; exact .inl ⟨rfl, rfl, rfl⟩
    | some c => exact hx.elim
  · rename_i k n
    cases cx with
    | none => exact hx.elim
    | some c =>
      have hx : VR S (.i k n) c := hx
      cases hx
      split at h <;> cases h
      rename_i hb
      refine .inr ⟨_, rfl, rfl, by omega, fun y' code hy => ?_⟩
      unfold Instr.sliceBound
      have : 0 ≤ n ∧ n ≤ (y' : Int) := ⟨hb.1, by omega⟩
      simp [asIntOf, this]
  · cases h

/-- Bounds without a third one. -/
theorem run_bounds2 {lo hi : Option V} {clo chi : Option Value} {len y cap k h : Nat} (isSlice : Bool) (hlo : VRo S lo clo) (hhi : VRo S hi chi) (e1 : abound hi len y = some h) (e2 : abound lo 0 h = some k) (hc : y ≤ cap) (hl : len ≤ y) :
    (Instr.sliceBounds isSlice len cap clo chi none).run P w = .ok (k, h, cap) w ∧ h ≤ y ∧ k ≤ h := by
  unfold Instr.sliceBounds
  rcases sim_bound (P := P) (w := w) hhi e1 with ⟨rfl, _, rfl⟩ | ⟨cc, rfl, _, hr1, q1⟩ <;> rcases sim_bound (P := P) (w := w) hlo e2 with ⟨rfl, _, rfl⟩ | ⟨cd, rfl, _, hr2, q2⟩
  · simp [hl]
  · simp [q2 _ _ (Nat.le_refl _), hl, hr2]
  · simp [q1 _ _ hc, hr1]
  · simp [q1 _ _ hc, q2 _ _ (Nat.le_refl _), hr1, hr2]
/-- Bounds with a third one. -/
theorem run_bounds3 {lo hi mx : Option V} {clo chi cmx : Option Value} {len y cap k h m : Nat} (isSlice : Bool) (hlo : VRo S lo clo) (hhi : VRo S hi chi) (hmx : VRo S mx cmx) (e0 : abound mx len y = some m) (e1 : abound hi len m = some h) (e2 : abound lo 0 h = some k)
    (hc : y ≤ cap) (hl : len ≤ y) (h1 : hi.isSome = true) (h2 : mx.isSome = true) :
    (Instr.sliceBounds isSlice len cap clo chi cmx).run P w = .ok (k, h, m) w ∧ h ≤ m ∧ k ≤ h ∧ m ≤ y := by
  unfold Instr.sliceBounds
  rcases sim_bound (P := P) (w := w) hmx e0 with ⟨rfl, r0, rfl⟩ | ⟨cb, rfl, _, hr0, q0⟩
  · subst r0; simp at h2
  · rcases sim_bound (P := P) (w := w) hhi e1 with ⟨rfl, r1, rfl⟩ | ⟨cc, rfl, _, hr1, q1⟩
    · subst r1; simp at h1
    · rcases sim_bound (P := P) (w := w) hlo e2 with ⟨rfl, _, rfl⟩ | ⟨cd, rfl, _, hr2, q2⟩
      · simp [q0 _ _ hc, q1 _ _ (Nat.le_refl _), hr1, hr0]
      · simp [q0 _ _ hc, q1 _ _ (Nat.le_refl _), q2 _ _ (Nat.le_refl _), hr1, hr0, hr2]

theorem run_sliceAt_of (t e : TypeId) (a : Option Addr) (len cap k h m sz : Nat) (clo chi cmx : Option Value) (hu : P.underlying t = some (.slice e)) (hsz : qsize P e = some sz)
    (hb : (Instr.sliceBounds true len cap clo chi cmx).run P w = .ok (k, h, m) w) :
    (Instr.sliceAt t (.slice a len cap) clo chi cmx).run P w = .ok (.slice (if m = k then a else a.map (·.add (k * sz))) (h - k) (m - k)) w := by
  unfold Instr.sliceAt
  simp only [Sem.run_bind, run_underlying hu, Result.andThen_ok]
  unfold Instr.slice
  simp only [Sem.run_bind, run_underlying hu, Result.andThen_ok, hb, run_sizeOf w hsz, Sem.run_pure]

theorem sim_slice (hH : HR C S H w) {t : TypeId} {x v : V} {lo hi mx : Option V} {cx : Value} {clo chi cmx : Option Value} (hx : VR S x cx) (hlo : VRo S lo clo) (hhi : VRo S hi chi) (hmx : VRo S mx cmx)
    (h : aslice P H t x lo hi mx = some v) : ∃ cv, (Instr.sliceAt t cx clo chi cmx).run P w = .ok cv w ∧ VR S v cv := by
  unfold aslice at h
  split at h
  · -- a string
    rename_i l
    split at h
    · rename_i hq
      have hu := qstr_spec hq.1
      cases mx with
      | some _ => simp at hq
      | none =>
        cases cmx with
        | some _ => exact hmx.elim
        | none =>
          cases hx with
          | s _ c hc =>
            subst hc
            split at h
            · rename_i h' hh
              split at h
              · rename_i k hk
                cases h
                have hsz : c.data.toList.length = c.size := by simp
                rw [hsz] at hh
                obtain ⟨hb, hle, hkl⟩ := run_bounds2 (P := P) (w := w) false hlo hhi hh hk (Nat.le_refl _) (Nat.le_refl _)
                refine ⟨.string (c.extract k h'), ?_, .s _ _ ?_⟩
                · unfold Instr.sliceAt
                  simp only [Sem.run_bind, run_underlying hu, Result.andThen_ok]
                  unfold Instr.slice
                  simp only [Sem.run_bind, run_underlying hu, Result.andThen_ok, Option.isSome_none, Bool.false_eq_true, if_false, hb, Sem.run_pure]
                · simp only [ByteArray.data_extract, Array.toList_extract]
                  rw [List.extract_eq_take_drop, List.drop_take]
              · cases h
            · cases h
    · cases h
  · -- nil
    rename_i len c
    cases hx
    split at h
    · rename_i e he
      split at h
      · rename_i sz m hsz hm
        split at h
        · rename_i h' hh
          split at h
          · rename_i k hk
            split at h
            · cases h
            · rename_i hms
              cases h
              have hu := qelem_spec he
              have hres : ∃ h'' m', (Instr.sliceBounds true 0 0 clo chi cmx).run P w = .ok (0, h'', m') w ∧ h'' = 0 ∧ m' = 0 := by
                by_cases hmx1 : mx.isSome = true
                · obtain ⟨hb, q1, q2, q3⟩ := run_bounds3 (P := P) (w := w) true hlo hhi hmx hm hh hk (Nat.le_refl 0) (Nat.le_refl 0) (by
                    cases hi <;> simp_all) hmx1
                  have e1 : m = 0 := by omega
                  have e2 : h' = 0 := by omega
                  have e3 : k = 0 := by omega
                  subst e1 e2 e3
                  exact ⟨0, 0, hb, rfl, rfl⟩
                · have hmn : mx = none := by simpa using hmx1
                  subst hmn
                  cases cmx with
                  | some _ => exact hmx.elim
                  | none =>
                    simp only [abound, Option.some.injEq] at hm
                    subst hm
                    obtain ⟨hb, q1, q2⟩ := run_bounds2 (P := P) (w := w) true hlo hhi hh hk (Nat.le_refl 0) (Nat.le_refl 0)
                    have e2 : h' = 0 := by omega
                    have e3 : k = 0 := by omega
                    subst e2 e3
                    exact ⟨0, 0, hb, rfl, rfl⟩
              obtain ⟨_, _, hb, rfl, rfl⟩ := hres
              refine ⟨_, run_sliceAt_of t e none 0 0 0 0 0 sz _ _ _ hu hsz hb, ?_⟩
              simp only [if_true, Nat.sub_self]
              exact .slnil _
          · cases h
        · cases h
      · cases h
    · cases h
  · -- a slice
    rename_i id g off len clip
    split at h
    · rename_i e he
      split at h
      · rename_i sz c g' ro esz hsz hg
        split at h
        · rename_i hge
          obtain ⟨hge, hesz⟩ := hge
          subst hge
          have hu := qelem_spec he
          cases hx with
          | sl _ _ _ _ cap _ ad h1 h2 hl h3 h4 h5 =>
            have ho := hH.obj id _ hg
            split at h
            · rename_i m hm
              split at h
              · rename_i hh' hhh
                split at h
                · rename_i k hk
                  split at h
                  · rename_i hlen
                    split at h
                    · rename_i hms
                      split at h <;> cases h
                      rename_i hmh
                      obtain ⟨hmh1, hmh2⟩ := hmh
                      subst hmh2
                      obtain ⟨hb, q1, q2, q3⟩ := run_bounds3 (P := P) (w := w) true hlo hhi hmx hm hhh hk hl (Nat.le_refl _) hmh1 hms
                      refine ⟨_, run_sliceAt_of t e _ len cap k m m sz _ _ _ hu hsz hb, ?_⟩
                      split
                      · rename_i hmk
                        subst hmk
                        simp only [Nat.sub_self]
                        exact .sl _ _ _ _ _ _ _ h1 h2 (Nat.le_refl _) (fun _ h => absurd h (by omega)) (fun _ => rfl) (fun _ _ _ h => by cases h)
                      · exact .sl _ _ _ _ _ _ _ h1 h2 (Nat.le_refl _) (fun e _ => by rw [h3 e (by omega)]; show Addr.add _ _ = _; rw [add_none, Nat.add_assoc]) (fun _ => rfl) (fun _ _ _ h => by cases h)
                    · rename_i hms
                      split at h
                      · cases h
                      · rename_i hcl
                        cases h
                        have hmn : mx = none := by simpa using hms
                        subst hmn
                        cases cmx with
                        | some _ => exact hmx.elim
                        | none =>
                          simp only [abound, Option.some.injEq] at hm
                          subst hm
                          obtain ⟨hb, q1, q2⟩ := run_bounds2 (P := P) (w := w) true hlo hhi hhh hk hl (Nat.le_refl _)
                          refine ⟨_, run_sliceAt_of t e _ len cap k hh' cap sz _ _ _ hu hsz hb, ?_⟩
                          have hr : g = S.gen id → S.own id = true → 0 < S.esz id → clip = false → S.base id + (off + k * sz) + (cap - k) * S.esz id = S.room id := by
                            intro e1 e2 e3 hc
                            have hes : sz = S.esz id := by
                              have := ho.2.1
                              rcases hesz with h | h <;> omega
                            have := h5 e1 e2 e3 hc
                            rw [← hes] at this ⊢
                            have : (cap - k) * sz + k * sz = cap * sz := by rw [← Nat.add_mul, Nat.sub_add_cancel (by omega)]
                            omega
                          have hcc : clip = true → cap - k = hh' - k := by
                            intro hc
                            have := h4 hc
                            have : hh' = len := by simpa [hc] using hcl
                            omega
                          split
                          · rename_i hmk
                            subst hmk
                            exact .sl _ _ _ _ _ _ _ h1 h2 (by omega) (fun _ h => absurd h (by omega)) hcc hr
                          · exact .sl _ _ _ _ _ _ _ h1 h2 (by omega) (fun e _ => by rw [h3 e (by omega)]; show Addr.add _ _ = _; rw [add_none, Nat.add_assoc]) hcc hr
                  · cases h
                · cases h
              · cases h
            · cases h
        · cases h
      · cases h
    · cases h
  · -- an array
    rename_i id g off
    split at h
    · rename_i n e he
      split at h
      · rename_i sz c g' ro hsz hg
        split at h
        · rename_i hge
          obtain ⟨hge, hmn, hcl⟩ := hge
          subst hge
          have hu := qarr_spec he
          cases mx with
          | some _ => simp at hmn
          | none =>
            cases cmx with
            | some _ => exact hmx.elim
            | none =>
              cases hx with
              | p _ _ _ ad h1 h2 h3 =>
                have ho := hH.obj id _ hg
                split at h
                · rename_i hh' hhh
                  split at h
                  · rename_i k hk
                    cases h
                    obtain ⟨hb, q1, q2⟩ := run_bounds2 (P := P) (w := w) false hlo hhi hhh hk (Nat.le_refl _) (Nat.le_refl _)
                    refine ⟨.slice (some (if n = k then ad else ad.add (k * sz))) (hh' - k) (n - k), ?_, ?_⟩
                    · unfold Instr.sliceAt Instr.sureAddr
                      simp only [Sem.run_bind, run_underlying hu, Result.andThen_ok, Sem.run_pure, hb, run_sizeOf w hsz]
                    · refine .sl _ _ _ _ _ _ _ h1 h2 (by omega) (fun e1 e2 => ?_) (fun hc => ?_) (fun e1 e2 e3 _ => ?_)
                      · rw [if_neg (by omega), h3 e1, add_none, Nat.add_assoc]
                      · simp at hc; omega
                      · have := ho.2.1; omega
                  · cases h
                · cases h
        · cases h
      · cases h
    · cases h
  · cases h

end
end Go.Abs
