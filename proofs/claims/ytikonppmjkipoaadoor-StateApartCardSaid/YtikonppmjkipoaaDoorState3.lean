/-
  Accounts and keys as data; what they are in memory; Amount, Nonce, Value, Copy.
-/
import Derived.Test.YtikonppmjkipoaaDoorState2
set_option linter.unusedVariables false
set_option linter.unusedSimpArgs false
namespace Go.Proofs.YtikonppmjkipoaaDoor
open Go Go.Abs Go.Proofs
set_option maxRecDepth 100000
attribute [local irreducible] AEnd AW ACalls

def kS (s : List UInt8) : V := .s s
def kP (p : Plc) : V := .agg (Plc.cells p)
def vA (x : Int × Int) : V := .agg [.i .i64 x.1, .i .i64 x.2]
def vT (t : List UInt8) : V := .agg [.s t]
theorem kS_keq (a b : List UInt8) : keq Tryd.prog 9 (kS a) (kS b) = some (decide (a = b)) := (keq_s qstr_9).trans (congrArg some (Bool.eq_iff_iff.2 (by simp)))
theorem kS_fits (a : List UInt8) : keyFits Tryd.prog 9 (kS a) = true := kf_9 _
theorem kP_keq (a b : Plc) : keq Tryd.prog 65 (kP a) (kP b) = some (decide (a = b)) := by
  unfold keq kP Plc.cells
  simp [Go.Abs.aeq, fitsAll, CK.fits, ceqs, ceq]
  obtain ⟨a1, a2⟩ := a
  obtain ⟨b1, b2⟩ := b
  by_cases h1 : a1 = b1 <;> by_cases h2 : a2 = b2 <;> simp [h1, h2]
theorem kP_fits (a : Plc) : keyFits Tryd.prog 65 (kP a) = true := by
  unfold keyFits
  rw [Tryd.underlying65]
  simp [kP, Plc.cells, fitsAll, CK.fits]
abbrev Accs := List (List UInt8 × (Int × Int) × Nat)
abbrev Vals := List (Plc × List UInt8 × Nat)
structure PSt where
  A : Accs
  B : Vals
  ca : Nat
  cb : Nat
def PSt.acc (s : PSt) (who : List UInt8) : Int × Int := (mget s.A who).getD (0, 0)
def PSt.val (s : PSt) (p : Plc) : List UInt8 := (mget s.B p).getD []
def PSt.putA (s : PSt) (who : List UInt8) (x : Int × Int) : PSt := { s with A := mput s.A who x s.ca, ca := mclk s.A who s.ca }
def PSt.putB (s : PSt) (p : Plc) (t : List UInt8) : PSt := { s with B := mput s.B p t s.cb, cb := mclk s.B p s.cb }
def PSt.zero : PSt := ⟨[], [], 0, 0⟩
/-- Where a state lies. -/
structure StAt (H : AH) (sid am vm : Nat) (s : PSt) : Prop where
  gs : H.get sid = some (.cells [.m (some am), .m (some vm)] 0 false 0)
  ga : H.get am = some (.map (ents kS vA s.A) s.ca)
  gv : H.get vm = some (.map (ents kP vT s.B) s.cb)
  ao : MOk s.A s.ca
  bo : MOk s.B s.cb
  ne : am ≠ vm
theorem StAt.upd {H H' : AH} {sid am vm : Nat} {s : PSt} (h : StAt H sid am vm s) {F : List Nat} (u : Upd H H' F) (h1 : sid ∉ F) (h2 : am ∉ F) (h3 : vm ∉ F) : StAt H' sid am vm s :=
  ⟨u.keep h1 h.gs, u.keep h2 h.ga, u.keep h3 h.gv, h.ao, h.bo, h.ne⟩
theorem StAt.same {H H' : AH} {sid am vm : Nat} {s : PSt} (h : StAt H sid am vm s) (u : Upd H H' []) : StAt H' sid am vm s := h.upd u (by simp) (by simp) (by simp)
theorem StAt.nes {H : AH} {sid am vm : Nat} {s : PSt} (h : StAt H sid am vm s) : sid ≠ am ∧ sid ≠ vm := by
  refine ⟨fun e => ?_, fun e => ?_⟩
  · have := h.gs; rw [e, h.ga] at this; cases this
  · have := h.gs; rw [e, h.gv] at this; cases this
section
variable {H : AH} {sid am vm : Nat} {s : PSt}
theorem StAt.la (h : StAt H sid am vm s) : aload Tryd.prog H 52 (.p (some (sid, 0, 0))) = some (.m (some am)) := by simp [aload, h.gs]
theorem StAt.lv (h : StAt H sid am vm s) : aload Tryd.prog H 53 (.p (some (sid, 0, 1))) = some (.m (some vm)) := by simp [aload, h.gs]
theorem StAt.getA (h : StAt H sid am vm s) (who : List UInt8) : alookup Tryd.prog H 52 (.m (some am)) (.s who) false = some (vA (s.acc who)) := by
  refine (alookup_ents (P := Tryd.prog) (ke := kS) (ve := vA) (z := vA (0, 0)) qmap_52 qkey_9 kS_fits kS_keq (by simp [vA]) h.ga who false).trans ?_
  unfold PSt.acc
  cases mget s.A who <;> rfl
theorem StAt.hasA (h : StAt H sid am vm s) (who : List UInt8) : alookup Tryd.prog H 52 (.m (some am)) (.s who) true = some (.tup [vA (s.acc who), .b (mget s.A who).isSome]) := by
  refine (alookup_ents (P := Tryd.prog) (ke := kS) (ve := vA) (z := vA (0, 0)) qmap_52 qkey_9 kS_fits kS_keq (by simp [vA]) h.ga who true).trans ?_
  unfold PSt.acc
  cases mget s.A who <;> rfl
theorem StAt.getB (h : StAt H sid am vm s) (p : Plc) : alookup Tryd.prog H 53 (.m (some vm)) (.agg [.s p.1, .s p.2]) false = some (vT (s.val p)) := by
  refine (alookup_ents (P := Tryd.prog) (ke := kP) (ve := vT) (z := vT []) qmap_53 qkey_65 kP_fits kP_keq (by simp [vT]) h.gv p false).trans ?_
  unfold PSt.val
  cases mget s.B p <;> rfl
theorem StAt.setA (h : StAt H sid am vm s) (who : List UInt8) (x : Int × Int) : ∃ H', amapUpdate Tryd.prog H 52 (.m (some am)) (.s who) (.agg [.i .i64 x.1, .i .i64 x.2]) = some H' ∧ StAt H' sid am vm (s.putA who x) ∧ Upd H H' [am] ∧ H'.next = H.next := by
  have hs := h.nes
  refine ⟨_, amapUpdate_ents (P := Tryd.prog) (ke := kS) (ve := vA) qmap_52 qkey_9 kS_fits kS_keq h.ga who x, ?_, Upd.set _ _ _ (by simp), rfl⟩
  refine ⟨?_, AH.get_set_same (AH.get_lt h.ga), ?_, h.ao.put who x, h.bo, h.ne⟩
  · rw [AH.get_set_ne hs.1]; exact h.gs
  · rw [AH.get_set_ne h.ne.symm]; exact h.gv
theorem StAt.setB (h : StAt H sid am vm s) (p : Plc) (t : List UInt8) : ∃ H', amapUpdate Tryd.prog H 53 (.m (some vm)) (.agg [.s p.1, .s p.2]) (.agg [.s t]) = some H' ∧ StAt H' sid am vm (s.putB p t) ∧ Upd H H' [vm] ∧ H'.next = H.next := by
  have hs := h.nes
  refine ⟨_, amapUpdate_ents (P := Tryd.prog) (ke := kP) (ve := vT) qmap_53 qkey_65 kP_fits kP_keq h.gv p t, ?_, Upd.set _ _ _ (by simp), rfl⟩
  refine ⟨?_, ?_, AH.get_set_same (AH.get_lt h.gv), h.ao, h.bo.put p t, h.ne⟩
  · rw [AH.get_set_ne hs.2]; exact h.gs
  · rw [AH.get_set_ne h.ne]; exact h.ga
end
theorem amount_ok (H : AH) {sid am vm : Nat} {s : PSt} (h : StAt H sid am vm s) (who : List UInt8) : ACalls Tryd.prog 16 [.p (some (sid, 0, 0)), .s who] H fun r H' => r = .i .i64 (s.acc who).1 ∧ H' = H := by
  refine ACalls.pure (Q := fun r => r = .i .i64 (s.acc who).1) ⟨_, Tryd.func16, rfl, rfl⟩ ?_
  refine ACalls_body Tryd.func16 rfl rfl ?_
  refine AW_seq ?_
  refine AW_reg [0, 1] fun K hK => ?_ -- region 0
  simp [init_eq]
  refine hK _ _ ?_; clear hK K
  refine AW_seq ?_
  refine AW_seq ?_
  refine AW_reg [0, 1, 6] fun K hK => ?_ -- region 1
  simp [init_eq, abin]
  refine hK _ _ ?_; clear hK K
  refine AW_cond' rfl rfl (fun hc => ?_) (fun hc => ?_)
  · cases hc
  refine AW_skip ?_
  refine AW_seq ?_
  refine AW_reg [4] fun K hK => ?_ -- region 3
  simp [init_eq, afieldAddr, h.la, h.getA, vA, afield]
  refine hK _ _ ?_; clear hK K
  exact AW_ret (end_ret rfl (same_end rfl rfl))
theorem nonce_ok (H : AH) {sid am vm : Nat} {s : PSt} (h : StAt H sid am vm s) (who : List UInt8) : ACalls Tryd.prog 15 [.p (some (sid, 0, 0)), .s who] H fun r H' => r = .i .i64 (s.acc who).2 ∧ H' = H := by
  refine ACalls.pure (Q := fun r => r = .i .i64 (s.acc who).2) ⟨_, Tryd.func15, rfl, rfl⟩ ?_
  refine ACalls_body Tryd.func15 rfl rfl ?_
  refine AW_seq ?_
  refine AW_reg [0, 1] fun K hK => ?_ -- region 0
  simp [init_eq]
  refine hK _ _ ?_; clear hK K
  refine AW_seq ?_
  refine AW_seq ?_
  refine AW_reg [0, 1, 6] fun K hK => ?_ -- region 1
  simp [init_eq, abin]
  refine hK _ _ ?_; clear hK K
  refine AW_cond' rfl rfl (fun hc => ?_) (fun hc => ?_)
  · cases hc
  refine AW_skip ?_
  refine AW_seq ?_
  refine AW_reg [4] fun K hK => ?_ -- region 3
  simp [init_eq, afieldAddr, h.la, h.getA, vA, afield]
  refine hK _ _ ?_; clear hK K
  exact AW_ret (end_ret rfl (same_end rfl rfl))
theorem svalue_ok (H : AH) {sid am vm : Nat} {s : PSt} (h : StAt H sid am vm s) (who key : List UInt8) : ACalls Tryd.prog 20 [.p (some (sid, 0, 0)), .s who, .s key] H fun r H' => r = .s (s.val (who, key)) ∧ H' = H := by
  refine ACalls.pure (Q := fun r => r = .s (s.val (who, key))) ⟨_, Tryd.func20, rfl, rfl⟩ ?_
  refine ACalls_body Tryd.func20 rfl rfl ?_
  have hb : abuild Tryd.prog 65 [(0, .s who), (1, .s key)] = some (.agg [.s who, .s key]) := by first | (simp [abuild, afill, V.cells, splice]; done) | (simp [abuild, afill, V.cells, splice]; rfl)
  refine AW_seq ?_
  refine AW_reg [0, 1, 2] fun K hK => ?_ -- region 0
  simp [init_eq]
  refine hK _ _ ?_; clear hK K
  refine AW_seq ?_
  refine AW_seq ?_
  refine AW_reg [0, 1, 2, 8] fun K hK => ?_ -- region 1
  simp [init_eq, abin]
  refine hK _ _ ?_; clear hK K
  refine AW_cond' rfl rfl (fun hc => ?_) (fun hc => ?_)
  · cases hc
  refine AW_skip ?_
  refine AW_seq ?_
  refine AW_reg [6] fun K hK => ?_ -- region 3
  simp [init_eq, afieldAddr, h.lv, hb, h.getB (who, key), vT, afield]
  refine hK _ _ ?_; clear hK K
  exact AW_ret (end_ret rfl (same_end rfl rfl))
theorem ext49 {X : AH} {id : Nat} {es : List (V × V × Nat)} {clk : Nat} (t : TypeId) (h : X.get id = some (.map es clk)) : extVal Tryd.prog 49 [.ifc t (.m (some id))] X = some (.ifc t (.m (some X.next)), X.new (.map es clk)) := by
  have e : ∀ o : Option O, X.get id = o → extVal Tryd.prog 49 [.ifc t (.m (some id))] X = match o with | some (.map es clk) => some (.ifc t (.m (some X.next)), X.new (.map es clk)) | _ => none := by
    intro o ho
    subst ho
    kernel_rfl
  exact e _ h
theorem cloneA_ok (H : AH) {id : Nat} {es : List (V × V × Nat)} {clk : Nat} (h : H.get id = some (.map es clk)) : ACalls Tryd.prog 25 [.m (some id)] H fun r H' => r = .m (some H.next) ∧ H' = H.new (.map es clk) := by
  refine ACalls_body Tryd.func25 rfl rfl ?_
  refine AW_seq ?_
  refine AW_reg [0] fun K hK => ?_ -- region 0
  simp [init_eq]
  refine hK _ _ ?_; clear hK K
  refine AW_seq ?_
  refine AW_seq ?_
  refine AW_reg [0, 4] fun K hK => ?_ -- region 1
  simp [init_eq, abin, Go.Abs.aeq]
  refine hK _ _ ?_; clear hK K
  refine AW_cond' rfl rfl (fun hc => ?_) (fun hc => ?_)
  · cases hc
  refine AW_skip ?_
  refine AW_seq ?_
  refine AW_reg [2] fun K hK => ?_ -- region 3
  simp [init_eq]
  refine ACalls.mono (extVal_ok (ext49 _ h)) fun r H' ⟨hr, e⟩ => ?_
  subst hr e
  simp [atypeAssert]
  refine hK _ _ ?_; clear hK K
  exact AW_ret (end_ret rfl ⟨rfl, rfl⟩)
end Go.Proofs.YtikonppmjkipoaaDoor
