/-
  Package tally: Vote.
-/
import Derived.Test.YtdioggohbfgnfaaTally1
set_option linter.unusedVariables false
set_option linter.unusedSimpArgs false
namespace Go.Proofs.Ytdioggohbfgnfaa
open Go Go.Abs Go.Proofs
set_option maxRecDepth 100000
attribute [local irreducible] AEnd AW ACalls

def cke (c : Cert) : V := .agg c.cells
abbrev Votes := List (Cert × BitVec 32 × Nat)
/-- May it not be counted? -/
def vbad (f : Int) (c : Cert) : Bool := !c.ok || decide (c.kind = 0) || !decide (c.coin = 0#32) || !decide (qcheck f c.signers = 0)
def verr (f fr : Int) (es : Votes) (c : Cert) : Int :=
  if vbad f c = true then 110 else if keptE fr c.view ≠ 0 then keptE fr c.view else if mget es c.plain = none ∧ (256 : Int) ≤ es.length then 101 else 0
def vset (es : Votes) (c : Cert) : BitVec 32 := ((mget es c.plain).getD 0#32) ||| c.signers
def vres (f fr : Int) (es : Votes) (c : Cert) : Cert := if verr f fr es c = 0 ∧ qtimes 2 f ≤ pop (vset es c) then { c with signers := vset es c } else Cert.zero
def vput (f fr : Int) (es : Votes) (clk : Nat) (c : Cert) : Votes := if verr f fr es c = 0 then mput es c.plain (vset es c) clk else es
def vclk (f fr : Int) (es : Votes) (clk : Nat) (c : Cert) : Nat := if verr f fr es c = 0 then mclk es c.plain clk else clk
/-- A tally in memory. -/
structure TS (H : AH) (t v : Nat) (rest : List V) (f fr : Int) (es : Votes) (clk : Nat) : Prop where
  ht : H.get t = some (.cells ([.i .i64 f, .i .i64 fr, .m (some v)] ++ rest) 0 false 0)
  hl : rest.length = 3
  hv : H.get v = some (.map (ents cke u32 es) clk)
theorem TS.ne {H : AH} {t v : Nat} {rest : List V} {f fr : Int} {es : Votes} {clk : Nat} (h : TS H t v rest f fr es clk) : t ≠ v := fun e => by
  have h1 := h.ht; have h2 := h.hv; rw [e] at h1; rw [h1] at h2; cases h2
theorem TS.same {H H' : AH} {t v : Nat} {rest : List V} {f fr : Int} {es : Votes} {clk : Nat} (h : TS H t v rest f fr es clk) (h1 : H'.get t = H.get t) (h2 : H'.get v = H.get v) : TS H' t v rest f fr es clk :=
  ⟨by rw [h1]; exact h.ht, h.hl, by rw [h2]; exact h.hv⟩
@[simp] theorem cke_keq (a b : Cert) : keq Try.prog 32 (cke a) (cke b) = some (decide (a = b)) := by
  unfold cke keq; exact Cert.aeq a b
@[simp] theorem cke_fits (a : Cert) : keyFits Try.prog 32 (cke a) = true := by
  unfold keyFits
  rw [Try.underlying32]
  simp [cke, Cert.cells, fitsAll, CK.fits, u32]
theorem wf_map {H : AH} (h : H.wf) (k : Nat) (es : Votes) (clk : Nat) : (H.set k (.map (ents cke u32 es) clk)).wf := by
  intro id o ho
  rw [AH.get_set] at ho
  rw [AH.next_set]
  split at ho
  · split at ho
    · cases ho
      simp only [O.lt]
      constructor <;> refine V.lts_iff.2 fun x hx => ?_
      · simp only [ents, List.map_map, List.mem_map, Function.comp] at hx
        obtain ⟨e, _, rfl⟩ := hx
        simp [cke]
      · simp only [ents, List.map_map, List.mem_map, Function.comp] at hx
        obtain ⟨e, _, rfl⟩ := hx
        simp
    · cases ho
  · exact h id o ho
theorem vote_ok (H : AH) {t v : Nat} {rest : List V} {f fr : Int} {es : Votes} {clk : Nat} (hT : TS H t v rest f fr es clk) (hfr : 1 ≤ fr) (hlen : es.length < 1000000) (c : Cert) :
    ACalls Try.prog 9 [.p (some (t, 0, 0)), .agg c.cells] H fun r H' => r = .tup [.agg (vres f fr es c).cells, .i .i64 (verr f fr es c)] ∧
      H' = H.set v (.map (ents cke u32 (vput f fr es clk c)) (vclk f fr es clk c)) := by
  have htl := AH.get_lt hT.ht
  have hvl := AH.get_lt hT.hv
  have hne := hT.ne
  refine ACalls.wf (fun hw _ => ACalls.gcTo (Q := fun r H' => r = .tup [.agg (vres f fr es c).cells, .i .i64 (verr f fr es c)] ∧
      H' = H.set v (.map (ents cke u32 (vput f fr es clk c)) (vclk f fr es clk c))) ?_) ⟨_, Try.func9, rfl, rfl⟩
  have fin : ∀ (r : V) (H' : AH), r = .tup [.agg (vres f fr es c).cells, .i .i64 (verr f fr es c)] → H.next ≤ H'.next → (∀ j, j < H.next → H'.get j = if j = v then some (.map (ents cke u32 (vput f fr es clk c)) (vclk f fr es clk c)) else H.get j) →
      ∃ H'', H''.next ≤ H'.next ∧ H.next ≤ H''.next ∧ (∀ j, j < H''.next → H''.get j = H'.get j) ∧ H''.wf ∧ V.lt H''.next r = true ∧ r = .tup [.agg (vres f fr es c).cells, .i .i64 (verr f fr es c)] ∧ H'' = H.set v (.map (ents cke u32 (vput f fr es clk c)) (vclk f fr es clk c)) := by
    intro r H' hr hn hg
    refine ⟨_, by simpa using hn, by simp, fun j hj => ?_, wf_map hw _ _ _, by subst hr; simp, hr, rfl⟩
    rw [AH.next_set] at hj
    rw [hg j hj, AH.get_set]
    simp [hvl]
  have htg : H.get t = some (.cells [.i .i64 f, .i .i64 fr, .m (some v), rest[0]'(by rw [hT.hl]; decide), rest[1]'(by rw [hT.hl]; decide), rest[2]'(by rw [hT.hl]; decide)] 0 false 0) := by
    have h1 := hT.ht; have h2 := hT.hl
    rcases rest with _ | ⟨a, _ | ⟨b, _ | ⟨d, _ | ⟨e, l⟩⟩⟩⟩ <;> simp at h2
    simpa using h1
  generalize rest[0]'(by rw [hT.hl]; decide) = ra at htg
  generalize rest[1]'(by rw [hT.hl]; decide) = rb at htg
  generalize rest[2]'(by rw [hT.hl]; decide) = rc at htg
  have hvg := hT.hv
  refine ACalls_body Try.func9 rfl rfl ?_
  refine AW_seq ?_
  refine AW_reg [0, 3, 4] fun K hK => ?_ -- region 0
  simp [init_eq, V.cells]
  generalize hH1 : (H.new (.cells c.cells 0 false 0)).new (.cells _ 0 false 0) = H1
  have h3 : H1.get H.next = some (.cells c.cells 0 false 0) := by rw [← hH1]; simp [AH.get_new]
  have h4 : H1.get (H.next + 1) = some (.cells Cert.zero.cells 0 false 0) := by rw [← hH1]; simp [AH.get_new]
  have hn : H1.next = H.next + 2 := by rw [← hH1]; simp
  have ho : ∀ j, j < H.next → H1.get j = H.get j := fun j hj => by
    rw [← hH1, AH.get_new, if_neg (by simp; omega), AH.get_new, if_neg (by omega)]
  have ht1 : H1.get t = _ := (ho t htl).trans htg
  have hv1 : H1.get v = _ := (ho v hvl).trans hvg
  clear hH1
  refine hK _ _ ?_; clear hK K
  refine AW_seq ?_
  refine AW_block ?_
  refine AW_seq ?_
  refine AW_reg [0, 3, 4, 10] fun K hK => ?_ -- region 1
  simp [init_eq]
  refine hK _ _ ?_; clear hK K
  refine AW_cond' rfl rfl (fun hc => ?_) (fun hc => ?_)
  · cases hc
  refine AW_cutto ⟨85, [(0, .p (some (t, 0, 0))), (3, .p (some (H.next, 0, 0))), (4, .p (some (H.next + 1, 0, 0))), (14, .b (vbad f c))]⟩ H1 ?_ ?_
  · refine AW_seq ?_
    refine AW_reg [0, 3, 4, 14] fun K hK => ?_ -- region 3
    simp [init_eq, aload, h3, take_cells]
    refine ACalls.mono (check_ok ..) fun r H' ⟨hr, e⟩ => ?_ -- hallmoot/cert.Check
    subst hr e
    simp
    refine hK _ _ ?_; clear hK K
    have hck : (c.check = 0) ↔ c.ok = true := by unfold Cert.check; cases c.ok <;> simp
    refine AW_cond' rfl rfl (fun hc => ?_) (fun hc => ?_)
    · refine AW_skip ?_
      refine ⟨?_, rfl⟩
      have : c.ok = false := by simpa [hck] using hc
      simp [vbad, this]
      simpa using hc
    have hok : c.ok = true := by simpa [hck] using hc
    refine AW_seq ?_
    refine AW_reg [0, 3, 4, 14] fun K hK => ?_ -- region 4
    simp [init_eq, afieldAddr, aload, h3]
    refine hK _ _ ?_; clear hK K
    refine AW_cond' rfl rfl (fun hc => ?_) (fun hc => ?_)
    · refine AW_skip ?_
      refine ⟨?_, rfl⟩
      have : c.kind = 0 := by simpa using hc
      simp [vbad, this]
    have hk0 : c.kind ≠ 0 := by simpa using hc
    refine AW_seq ?_
    refine AW_reg [0, 3, 4, 14] fun K hK => ?_ -- region 5
    simp [init_eq, afieldAddr, aload, h3]
    refine hK _ _ ?_; clear hK K
    refine AW_cond' rfl rfl (fun hc => ?_) (fun hc => ?_)
    · refine AW_skip ?_
      refine ⟨?_, rfl⟩
      have : c.coin ≠ 0#32 := by simpa using hc
      simp [vbad, this]
    have hcoin : c.coin = 0#32 := by simpa using hc
    refine AW_regd [0, 3, 4, 14] pl_9_6 pe_9_6 (by kernel_rfl) (by kernel_rfl) (by decide) fun K hK => ?_
    simp [init_eq, pl_9_6, afieldAddr, aload, h3, ht1]
    refine ACalls.mono (qcheck_ok ..) fun r H' ⟨hr, e⟩ => ?_ -- hallmoot/quorum.Check
    subst hr e
    simp
    refine hK _ _ ?_; clear hK K
    exact ⟨by simp [vbad, hok, hk0, hcoin], rfl⟩
  refine AW_cond' rfl rfl (fun hc => ?_) (fun hc => ?_)
  · have hb : vbad f c = true := hc
    have he : verr f fr es c = 110 := by simp [verr, hb]
    refine AW_seq ?_
    refine AW_reg [4, 5] fun K hK => ?_
    simp [init_eq, abuild, afill, astore, h4, hn, V.cells]
    refine hK _ _ ?_; clear hK K
    refine AW_ret (end_ret (ares_cell_tmp (v := .agg Cert.zero.cells) ?_) ?_)
    · simp [aload, AH.get_set, h4, hn, take_cells]
    · refine fin _ _ (by simp [vres, he]) (by simp [h4, hn]) fun j hj => ?_
      simp [AH.get_set, h4, hn, show j ≠ H.next + 1 by omega, ho j hj, vput, vclk, he]
      by_cases hj' : j = v
      · subst hj'; simp [hvg]
      · simp [hj']
  have hb : vbad f c = false := hc
  refine AW_skip ?_
  have hok : c.ok = true := by
    cases h : c.ok
    · simp [vbad, h] at hb
    · rfl
  have hview : 1 ≤ c.view ∧ c.view ≤ 1048576 := by
    have h0 : c.kind ≠ 0 := fun e => by simp [vbad, e] at hb
    have : c.base = true := by
      unfold Cert.ok at hok
      rw [if_neg h0] at hok
      split at hok
      · simp [Cert.reg] at hok; exact hok.1.1.1
      · split at hok
        · simp [Cert.fall] at hok; exact hok.1.1.1
        · cases hok
    simp [Cert.base, inR] at this
    omega
  refine AW_seq ?_
  refine AW_seq ?_
  refine AW_reg [0, 3, 4, 6] fun K hK => ?_ -- region 8
  simp [init_eq, afieldAddr, aload, h3]
  refine ACalls.mono (kept_ok H1 ht1 hfr (by omega)) fun r H' ⟨hr, e⟩ => ?_ -- (*hallmoot/tally.Tally).kept
  subst hr e
  try simp
  refine hK _ _ ?_; clear hK K
  refine AW_seq ?_
  refine AW_reg [0, 3, 4, 6, 38] fun K hK => ?_ -- region 9
  simp [init_eq]
  refine hK _ _ ?_; clear hK K
  refine AW_cond' rfl rfl (fun hc => ?_) (fun hc => ?_)
  · have hk : keptE fr c.view ≠ 0 := by simpa using hc
    have he : verr f fr es c = keptE fr c.view := by simp [verr, hb, hk]
    refine AW_seq ?_
    refine AW_reg [4, 5] fun K hK => ?_
    simp [init_eq, abuild, afill, astore, h4, hn, V.cells]
    refine hK _ _ ?_; clear hK K
    refine AW_ret (end_ret (ares_cell_tmp (v := .agg Cert.zero.cells) ?_) ?_)
    · simp [aload, AH.get_set, h4, hn, take_cells]
    · refine fin _ _ (by simp [vres, he, hk]) (by simp [h4, hn]) fun j hj => ?_
      simp [AH.get_set, h4, hn, show j ≠ H.next + 1 by omega, ho j hj, vput, vclk, he, hk]
      by_cases hj' : j = v
      · subst hj'; simp [hvg]
      · simp [hj']
  have hk : keptE fr c.view = 0 := by simpa using hc
  refine AW_skip ?_
  refine AW_seq ?_
  refine AW_reg [0, 3, 4, 7] fun K hK => ?_ -- region 11
  simp [init_eq, aload, h3, take_cells]
  refine ACalls.mono (plain_ok ..) fun r H' ⟨hr, e⟩ => ?_ -- hallmoot/cert.Plain
  subst hr e
  simp [astore, AH.get_new, hn, V.cells]
  generalize hH2 : (H'.new (.cells _ 0 false 0)).set (H.next + 2) _ = H2
  have h72 : H2.get (H.next + 2) = some (.cells c.plain.cells 0 false 0) := by rw [← hH2]; simp [AH.get_set, hn]
  have hn2 : H2.next = H.next + 3 := by rw [← hH2]; simp [hn]
  have ho2 : ∀ j, j < H.next + 2 → H2.get j = H'.get j := fun j hj => by
    rw [← hH2]; simp [AH.get_set, AH.get_new, hn, show j ≠ H.next + 2 by omega]
  have h32 := (ho2 _ (by omega)).trans h3
  have h42 := (ho2 _ (by omega)).trans h4
  have ht2 := (ho2 t (by omega)).trans ht1
  have hv2 := (ho2 v (by omega)).trans hv1
  have ho3 : ∀ j, j < H.next → H2.get j = H.get j := fun j hj => (ho2 j (by omega)).trans (ho j hj)
  clear hH2
  refine hK _ _ ?_; clear hK K
  have hlk : alookup Try.prog H2 71 (.m (some v)) (.agg c.plain.cells) true = some (.tup [u32 ((mget es c.plain).getD 0#32), .b (mget es c.plain).isSome]) := by
    refine (alookup_ents (P := Try.prog) (ke := cke) (ve := u32) (z := u32 0#32) qmap_71 qkey_32 cke_fits cke_keq (by simp) hv2 c.plain true).trans ?_
    cases mget es c.plain <;> rfl
  refine AW_seq ?_
  refine AW_regd [0, 3, 4, 7, 8, 9] pl_9_12 pe_9_12 (by kernel_rfl) (by kernel_rfl) (by decide) fun K hK => ?_
  simp [init_eq, pl_9_12, afieldAddr, aload, ht2, h72, take_cells, hlk]
  refine hK _ _ ?_; clear hK K
  refine AW_seq ?_
  refine AW_seq ?_
  have hlen' : alen Try.prog H2 71 (.m (some v)) = some (.i .i64 es.length) := alen_ents (P := Try.prog) qmap_71 hv2
  refine AW_regto [0, 3, 4, 7, 8, 61] ⟨85, [(0, .p (some (t, 0, 0))), (3, .p (some (H.next, 0, 0))), (4, .p (some (H.next + 1, 0, 0))), (7, .p (some (H.next + 2, 0, 0))), (8, u32 ((mget es c.plain).getD 0#32)), (61, .b (decide (mget es c.plain = none ∧ (256 : Int) ≤ es.length)))]⟩ H2 (fun K hk => ?_) ?_ -- region 13
  · cases hm : mget es c.plain with
    | none =>
      rw [hm] at hk
      simp [init_eq, afieldAddr, aload, ht2, hlen']
      simpa using hk
    | some s =>
      rw [hm] at hk
      simp [init_eq]
      simpa using hk
  refine AW_cond' rfl rfl (fun hc => ?_) (fun hc => ?_)
  · have hm : mget es c.plain = none ∧ (256 : Int) ≤ es.length := by simpa using hc
    have he : verr f fr es c = 101 := by simp [verr, hb, hk, hm]
    refine AW_seq ?_
    refine AW_reg [4, 5] fun K hK => ?_
    simp [init_eq, abuild, afill, astore, h42, hn2, V.cells]
    refine hK _ _ ?_; clear hK K
    refine AW_ret (end_ret (ares_cell_tmp (v := .agg Cert.zero.cells) ?_) ?_)
    · simp [aload, AH.get_set, h42, hn2, take_cells]
    · refine fin _ _ (by simp [vres, he]) (by simp [h42, hn2]) fun j hj => ?_
      simp [AH.get_set, h42, hn2, show j ≠ H.next + 1 by omega, ho3 j hj, vput, vclk, he]
      by_cases hj' : j = v
      · subst hj'; simp [hvg]
      · simp [hj']
  have hm : ¬ (mget es c.plain = none ∧ (256 : Int) ≤ es.length) := by simpa using hc
  have he : verr f fr es c = 0 := by simp only [verr, hb, hk, hm]; simp
  refine AW_skip ?_
  refine AW_seq ?_
  refine AW_reg [0, 3, 4, 7, 8] fun K hK => ?_ -- region 15
  simp [init_eq, afieldAddr, aload, h32]
  refine hK _ _ ?_; clear hK K
  have hup : amapUpdate Try.prog H2 71 (.m (some v)) (.agg c.plain.cells) (u32 (vset es c)) = some (H2.set v (.map (ents cke u32 (mput es c.plain (vset es c) clk)) (mclk es c.plain clk))) :=
    amapUpdate_ents (P := Try.prog) (ke := cke) (ve := u32) qmap_71 qkey_32 cke_fits cke_keq hv2 c.plain (vset es c)
  refine AW_seq ?_
  refine AW_regd [0, 3, 4, 8] pl_9_16 pe_9_16 (by kernel_rfl) (by kernel_rfl) (by decide) fun K hK => ?_
  have hvs : (mget es c.plain).getD 0#32 ||| c.signers = vset es c := rfl
  simp [init_eq, pl_9_16, afieldAddr, aload, ht2, h72, take_cells, hvs, hup]
  refine hK _ _ ?_; clear hK K
  generalize hH3 : H2.set v _ = H3
  have hn3 : H3.next = H.next + 3 := by rw [← hH3]; simp [hn2]
  have ho4 : ∀ j, j ≠ v → H3.get j = H2.get j := fun j hj => by rw [← hH3]; simp [AH.get_set, hj]
  have hv3 : H3.get v = some (.map (ents cke u32 (mput es c.plain (vset es c) clk)) (mclk es c.plain clk)) := by rw [← hH3]; simp [AH.get_set, hn2]; omega
  have h33 := (ho4 H.next (by omega)).trans h32
  have h43 := (ho4 (H.next + 1) (by omega)).trans h42
  have ht3 := (ho4 t hne).trans ht2
  clear hH3
  refine AW_seq ?_
  refine AW_seq ?_
  refine AW_regd [3, 4, 8, 80] pl_9_17 pe_9_17 (by kernel_rfl) (by kernel_rfl) (by decide) fun K hK => ?_
  simp [init_eq, pl_9_17, afieldAddr, aload, ht3]
  refine ACalls.mono (count_ok ..) fun r H' ⟨hr, e⟩ => ?_ -- hallmoot/quorum.Count
  subst hr e
  simp [afieldAddr, aload, ht3]
  refine ACalls.mono (quorum_ok ..) fun r H'' ⟨hr, e⟩ => ?_ -- hallmoot/quorum.Quorum
  subst hr e
  simp
  refine hK _ _ ?_; clear hK K
  have key : ∀ j, j < H.next → H''.get j = if j = v then some (.map (ents cke u32 (vput f fr es clk c)) (vclk f fr es clk c)) else H.get j := fun j hj => by
    by_cases hj' : j = v
    · subst hj'; simp [hv3, vput, vclk, he]
    · simp [hj', ho4 j hj', ho3 j hj]
  refine AW_cond' rfl rfl (fun hc => ?_) (fun hc => ?_)
  · have hq : ¬ qtimes 2 f ≤ pop (vset es c) := Int.not_le.2 (by simpa using hc)
    refine AW_seq ?_
    refine AW_reg [4, 5] fun K hK => ?_ -- region 18
    simp [init_eq, abuild, afill, astore, h43, hn3, V.cells]
    refine hK _ _ ?_; clear hK K
    refine AW_ret (end_ret (ares_cell_tmp (v := .agg Cert.zero.cells) ?_) ?_)
    · simp [aload, AH.get_set, h43, hn3, take_cells]
    · refine fin _ _ (by simp [vres, he, hq]) (by simp [hn3]) fun j hj => ?_
      simp only [AH.get_set, show j ≠ H.next + 1 by omega, if_false]
      exact key j hj
  · have hq : qtimes 2 f ≤ pop (vset es c) := Int.not_lt.1 (by simpa using hc)
    refine AW_skip ?_
    refine AW_seq ?_
    refine AW_reg [3, 4] fun K hK => ?_ -- region 19
    simp [init_eq, afieldAddr, astore, h33, hn3, u32_cells]
    refine hK _ _ ?_; clear hK K
    refine AW_seq ?_
    refine AW_reg [4, 5] fun K hK => ?_ -- region 20
    simp [init_eq, aload, astore, AH.get_set, h33, h43, hn3, take_cells, V.cells]
    refine hK _ _ ?_; clear hK K
    refine AW_ret (end_ret (ares_cell_tmp (v := .agg (vres f fr es c).cells) ?_) ?_)
    · simp [aload, AH.get_set, h43, hn3, take_cells, vres, he, hq]
    · refine fin _ _ (by simp [he]) (by simp [hn3]) fun j hj => ?_
      simp only [AH.get_set, show j ≠ H.next + 1 by omega, show j ≠ H.next by omega, if_false]
      exact key j hj
end Go.Proofs.Ytdioggohbfgnfaa
