/-
  What the program's tally and the document's have alike (plain).
-/
import Derived.Test.YtdioggohbfgnfaaTP6
import Derived.Test.YtdioggohbfgnfaaTR7
set_option linter.unusedVariables false
set_option linter.unusedSimpArgs false
namespace Go.Proofs.Ytdioggohbfgnfaa
open Go Go.Abs Go.Proofs
set_option maxRecDepth 100000
attribute [local irreducible] AEnd AW ACalls

structure RelT (f : Int) (es : Votes) (ts : Turns) (cs ds : Sets) (vs : List Cert) (tl : List Tmo) (ms : List Mrk) : Prop where
  v0 : ∀ c ∈ vs, c.coin = 0#32 ∧ ∀ k ∈ bitsOf c.signers, (k : Int) < qtimes 3 f
  vk : ∀ k, (mget es k).isSome = vs.any fun v => decide (rplain v = k)
  vb : ∀ k i, i < 32 → ((mget es k).getD 0#32).getLsbD i = vs.any fun v => decide (rplain v = k) && v.signers.getLsbD i
  tp : (ts.map (·.2.1)).Perm tl
  tk : ∀ e ∈ ts, e.1 = (e.2.1.view, e.2.1.signer)
  tr : ∀ x ∈ tl, replB f x.signer = true
  mc : ∀ w i, i < 32 → ((mget cs w).getD 0#32).getLsbD i = ms.any (isM 1 w i)
  md : ∀ w i, i < 32 → ((mget ds w).getD 0#32).getLsbD i = ms.any (isM 2 w i)
  mr : ∀ m ∈ ms, replB f m.who = true
theorem RelT.nil (f : Int) : RelT f [] [] [] [] [] [] [] := by
  refine ⟨?_, ?_, ?_, ?_, ?_, ?_, ?_, ?_, ?_⟩ <;> simp [mget_nil]

/-! How many unlike ones there are. -/
theorem dnTo_spec (vs : List Cert) : ∀ i, i ≤ vs.length → ∃ L : List Cert, L.Nodup ∧ L.length = dnTo vs i ∧ ∀ k, k ∈ L ↔ ∃ v ∈ vs.take i, rplain v = k
  | 0, _ => ⟨[], by simp, rfl, by simp⟩
  | i + 1, h => by
    obtain ⟨L, h1, h2, h3⟩ := dnTo_spec vs i (by omega)
    have hg : vs.getD i Cert.zero = vs[i]'(by omega) := by simp [List.getD, show i < vs.length by omega]
    have ht : vs.take (i + 1) = vs.take i ++ [vs[i]'(by omega)] := List.take_succ_eq_append_getElem (by omega)
    rw [dnTo, hg, ht]
    by_cases hf : isFirst (vs.take i) (vs[i]'(by omega)) = true
    · rw [if_pos hf]
      refine ⟨L ++ [rplain (vs[i]'(by omega))], ?_, by simp [h2], fun k => ?_⟩
      · rw [List.nodup_append]
        refine ⟨h1, by simp, fun a ha b hb e => ?_⟩
        simp at hb; subst hb; subst e
        obtain ⟨v, hv, he⟩ := (h3 _).1 ha
        simp only [isFirst, List.all_eq_true] at hf
        simpa [he] using hf v hv
      · simp only [List.mem_append, h3, List.mem_singleton]
        constructor
        · rintro (⟨v, hv, he⟩ | e)
          · exact ⟨v, .inl hv, he⟩
          · exact ⟨_, .inr rfl, e.symm⟩
        · rintro ⟨v, hv | rfl, he⟩
          · exact .inl ⟨v, hv, he⟩
          · exact .inr he.symm
    · rw [if_neg hf]
      refine ⟨L, h1, by simp [h2], fun k => ?_⟩
      have : ∃ v ∈ vs.take i, rplain v = rplain (vs[i]'(by omega)) := by
        simp only [isFirst, Bool.not_eq_true, List.all_eq_false] at hf
        obtain ⟨v, hv, he⟩ := hf
        exact ⟨v, hv, by simpa using he⟩
      simp only [h3, List.mem_append, List.mem_singleton]
      constructor
      · rintro ⟨v, hv, he⟩; exact ⟨v, .inl hv, he⟩
      · rintro ⟨v, hv | rfl, he⟩
        · exact ⟨v, hv, he⟩
        · obtain ⟨u, hu, hue⟩ := this; exact ⟨u, hu, hue.trans he⟩
theorem mget_isSome {α β : Type} [DecidableEq α] {es : List (α × β × Nat)} {k : α} : (mget es k).isSome = true ↔ k ∈ es.map (·.1) := by
  have := mfind_none (es := es) (k := k)
  unfold mget
  cases h : mfind es k with
  | none => simp [this.1 h]
  | some x =>
    simp
    apply Classical.byContradiction
    intro hn
    rw [this.2 (by simpa using hn)] at h
    cases h
theorem dn_len {es : Votes} {vs : List Cert} (hn : (es.map (·.1)).Nodup) (hk : ∀ k, (mget es k).isSome = vs.any fun v => decide (rplain v = k)) : es.length = dn vs := by
  obtain ⟨L, h1, h2, h3⟩ := dnTo_spec vs vs.length (Nat.le_refl _)
  have hp : (es.map (·.1)).Perm L := (List.perm_ext_iff_of_nodup hn h1).2 fun k => by
    rw [← mget_isSome, hk k, h3 k]
    simp
  have := hp.length_eq
  simp at this
  rw [this, h2]; rfl

/-! Sets. -/
theorem pop_filter {s : BitVec 32} {n : Nat} (hn : n ≤ 32) {p : Nat → Bool} (h : ∀ i, i < 32 → s.getLsbD i = decide (i ∈ (List.range n).filter p)) : pop s = ((List.range n).filter p).length := by
  unfold pop
  have h1 : ((List.range 32).filter fun i => s.getLsbD i).Nodup := List.Pairwise.filter _ List.nodup_range
  have h2 : ((List.range n).filter p).Nodup := List.Pairwise.filter _ List.nodup_range
  refine ((List.perm_ext_iff_of_nodup h1 h2).2 fun k => ?_).length_eq
  rw [List.mem_filter, List.mem_range]
  constructor
  · rintro ⟨h3, h4⟩
    rw [h k h3] at h4; simpa using h4
  · intro h3
    have h4 := (List.mem_filter.1 h3).1
    rw [List.mem_range] at h4
    refine ⟨by omega, ?_⟩
    rw [h k (by omega)]; simpa using h3
theorem bits_eq {s t : BitVec 32} (h : ∀ i, i < 32 → s.getLsbD i = t.getLsbD i) : s = t := BitVec.eq_of_getLsbD_eq h
theorem hasB_nat (s : BitVec 32) (k : Nat) : hasB s (k : Int) = s.getLsbD k := by simp [hasB]
theorem N_le (f : Int) : (qtimes 3 f).toNat ≤ 10 := by rcases qtimes3 f with h | h | h | h <;> omega

/-! Votes. -/
theorem vbad_not {f : Int} {c : Cert} (h : vbad f c = false) : c.coin = 0#32 ∧ ∀ k ∈ bitsOf c.signers, (k : Int) < qtimes 3 f := by
  simp only [vbad, Bool.or_eq_false_iff, Bool.not_eq_false', decide_eq_true_eq] at h
  exact ⟨h.1.2, ((qcheck_zero f c.signers).1 h.2).2⟩
theorem plain_r {c : Cert} (h : c.coin = 0#32) : c.plain = rplain c := by
  cases c; simp only [Cert.plain, rplain] at *; simp [h]
theorem RelT.verrE {f fr : Int} {es : Votes} {ts : Turns} {cs ds : Sets} {vs : List Cert} {tl : List Tmo} {ms : List Mrk} (h : RelT f es ts cs ds vs tl ms) (hn : (es.map (·.1)).Nodup) (c : Cert) : verr f fr es c = rverr f fr vs c := by
  unfold verr rverr
  cases hb : vbad f c
  · have e := plain_r (vbad_not hb).1
    have h1 : (mget es c.plain = none) = (seenIn vs c = false) := by
      have := h.vk c.plain
      rw [e] at this ⊢
      unfold seenIn
      rw [← this]
      cases mget es (rplain c) <;> simp
    simp only [h1, dn_len hn h.vk]
  · simp
theorem RelT.vote {f fr : Int} {es : Votes} {ts : Turns} {cs ds : Sets} {vs : List Cert} {tl : List Tmo} {ms : List Mrk} (h : RelT f es ts cs ds vs tl ms) (hn : (es.map (·.1)).Nodup) (clk : Nat) (c : Cert) :
    RelT f (vput f fr es clk c) ts cs ds (if rverr f fr vs c = 0 then vs ++ [c] else vs) tl ms ∧
    ∀ s : BitVec 32, (∀ i, i < 32 → s.getLsbD i = decide (i ∈ whoV f (vs ++ [c]) c)) → vres f fr es c = (if rverr f fr vs c = 0 ∧ qtimes 2 f ≤ (whoV f (vs ++ [c]) c).length then { c with signers := s } else Cert.zero) := by
  have he := h.verrE (fr := fr) hn c
  unfold vput vres
  rw [he]
  by_cases h0 : rverr f fr vs c = 0
  · rw [if_pos h0, if_pos h0]
    have hb : vbad f c = false := by
      cases hb : vbad f c
      · rfl
      · unfold rverr at h0; rw [if_pos hb] at h0; cases h0
    have hc := vbad_not hb
    have e := plain_r hc.1
    have hset : ∀ i, i < 32 → (vset es c).getLsbD i = (vs ++ [c]).any fun v => decide (rplain v = rplain c) && v.signers.getLsbD i := fun i hi => by
      unfold vset
      rw [BitVec.getLsbD_or, h.vb _ i hi, e]
      simp
    refine ⟨⟨fun x hx => ?_, fun k => ?_, fun k i hi => ?_, h.tp, h.tk, h.tr, h.mc, h.md, h.mr⟩, fun s hs => ?_⟩
    · rcases List.mem_append.1 hx with hx | hx
      · exact h.v0 x hx
      · simp at hx; subst hx; exact hc
    · rw [mget_mput, e]
      by_cases hk : k = rplain c
      · subst hk; simp
      · rw [if_neg hk, h.vk k]
        simp [Ne.symm hk]
    · rw [mget_mput, e]
      by_cases hk : k = rplain c
      · subst hk
        rw [if_pos rfl]
        exact hset i hi
      · rw [if_neg hk, h.vb k i hi]
        simp [Ne.symm hk]
    · have hwho : ∀ i, i < 32 → (vset es c).getLsbD i = decide (i ∈ whoV f (vs ++ [c]) c) := fun i hi => by
        rw [hset i hi]
        unfold whoV
        rw [Bool.eq_iff_iff]
        simp only [List.any_eq_true, Bool.and_eq_true, decide_eq_true_eq, List.mem_filter, List.mem_range, hasV, hasB_nat]
        constructor
        · rintro ⟨v, hv, h1, h2⟩
          refine ⟨?_, v, hv, h1, h2⟩
          have hv' : ∀ k ∈ bitsOf v.signers, (k : Int) < qtimes 3 f := by
            rcases List.mem_append.1 hv with hv | hv
            · exact (h.v0 v hv).2
            · simp at hv; subst hv; exact hc.2
          have := hv' i (mem_bitsOf.2 h2)
          omega
        · rintro ⟨_, v, hv, h1, h2⟩
          exact ⟨v, hv, h1, h2⟩
      have hpop : pop (vset es c) = (whoV f (vs ++ [c]) c).length := pop_filter (by have := N_le f; omega) hwho
      have hse : vset es c = s := bits_eq fun i hi => by rw [hwho i hi, hs i hi]
      rw [hpop, hse]
  · rw [if_neg h0, if_neg h0]
    exact ⟨h, fun s _ => by rw [if_neg (fun k => h0 k.1), if_neg (fun k => h0 k.1)]⟩

/-! Timeouts. -/
theorem RelT.terrE {f fr : Int} {es : Votes} {ts : Turns} {cs ds : Sets} {vs : List Cert} {tl : List Tmo} {ms : List Mrk} (h : RelT f es ts cs ds vs tl ms) (x : Tmo) : perr f fr ts x = terr f fr tl x := by
  unfold perr terr
  have h1 : ((mget ts (x.view, x.signer)).isSome = true) = (tl.any (sameT x) = true) := by
    rw [mget_isSome, List.any_eq_true]
    apply propext
    constructor
    · intro hm
      obtain ⟨e, he, hk⟩ := List.mem_map.1 hm
      have hk2 := h.tk e he
      rw [hk] at hk2
      refine ⟨e.2.1, h.tp.mem_iff.1 (List.mem_map_of_mem he), ?_⟩
      simp at hk2
      simp [sameT, hk2.1, hk2.2]
    · rintro ⟨y, hy, hs⟩
      obtain ⟨e, he, rfl⟩ := List.mem_map.1 (h.tp.mem_iff.2 hy)
      simp [sameT] at hs
      refine List.mem_map.2 ⟨e, he, ?_⟩
      rw [h.tk e he, hs.1, hs.2]
  simp only [h1]
theorem replB_iff {f k : Int} : replB f k = true ↔ 0 ≤ k ∧ k < qtimes 3 f := by simp [replB]
theorem RelT.tput {f fr : Int} {es : Votes} {ts : Turns} {cs ds : Sets} {vs : List Cert} {tl : List Tmo} {ms : List Mrk} (h : RelT f es ts cs ds vs tl ms) (clk : Nat) (x : Tmo) :
    RelT f es (pput f fr ts clk x) cs ds vs (if terr f fr tl x = 0 then tl ++ [x] else tl) ms := by
  have he := h.terrE (fr := fr) x
  unfold pput
  rw [he]
  by_cases h0 : terr f fr tl x = 0
  · rw [if_pos h0, if_pos h0]
    have h1 : tbad f x = false := by
      cases hb : tbad f x
      · rfl
      · unfold terr at h0; rw [if_pos hb] at h0; cases h0
    have hnone : mfind ts (x.view, x.signer) = none := by
      rw [mfind_none, ← mget_isSome]
      intro hm
      rw [he.symm] at h0
      unfold perr at h0
      rw [if_neg (by simp [h1])] at h0
      split at h0
      · rename_i hk; exact hk h0
      · exact absurd h0 (by decide)
    have hput : mput ts (x.view, x.signer) x clk = ts ++ [((x.view, x.signer), x, clk)] := by unfold mput; rw [hnone]
    rw [hput]
    refine ⟨h.v0, h.vk, h.vb, ?_, fun e hm => ?_, fun y hy => ?_, h.mc, h.md, h.mr⟩
    · rw [List.map_append]; exact h.tp.append_right _
    · rcases List.mem_append.1 hm with hm | hm
      · exact h.tk e hm
      · simp at hm; subst hm; rfl
    · rcases List.mem_append.1 hy with hy | hy
      · exact h.tr y hy
      · simp at hy; subst hy
        simp [tbad] at h1
        exact h1.1.1
  · rw [if_neg h0, if_neg h0]; exact h
/-- Whose timeouts are told: all of a view, by their signers. -/
theorem RelT.all {f : Int} {es : Votes} {ts : Turns} {cs ds : Sets} {vs : List Cert} {tl : List Tmo} {ms : List Mrk} (h : RelT f es ts cs ds vs tl ms) (hn : (ts.map (·.1)).Nodup) (w : Int) :
    (allT ts w).Perm (tall f tl w) ∧ (allT ts w).length ≤ 10 ∧ ∀ zs : List Tmo, zs.Perm (allT ts w) → SortedTo zs zs.length → zs = tall f tl w := by
  -- one for each signer
  have huniq : ∀ x ∈ tl, ∀ y ∈ tl, x.view = y.view → x.signer = y.signer → x = y := by
    intro x hx y hy h1 h2
    obtain ⟨e, he, rfl⟩ := List.mem_map.1 (h.tp.mem_iff.2 hx)
    obtain ⟨e', he', rfl⟩ := List.mem_map.1 (h.tp.mem_iff.2 hy)
    have hk : e.1 = e'.1 := by rw [h.tk e he, h.tk e' he', h1, h2]
    have : e = e' := by
      obtain ⟨i, hi, hi2⟩ := List.mem_iff_getElem.1 he
      obtain ⟨j, hj, hj2⟩ := List.mem_iff_getElem.1 he'
      have hij : i = j := (List.getElem_inj (xs := ts.map (·.1)) (h₀ := by simpa using hi) (h₁ := by simpa using hj) hn).1 (by simp [hi2, hj2, hk])
      subst hij
      rw [← hi2, ← hj2]
    rw [this]
  have htn : tl.Nodup := by
    refine List.Nodup.perm (l := ts.map (·.2.1)) ?_ h.tp
    have h1 : (ts.map (·.1)) = (ts.map (·.2.1)).map fun x => (x.view, x.signer) := by
      rw [List.map_map]
      exact List.map_congr_left fun e he => h.tk e he
    rw [h1] at hn
    exact List.Pairwise.of_map _ (fun a b hab e => hab (by rw [e])) hn
  have hall : (allT ts w).Perm (tl.filter fun x => decide (x.view = w)) := by
    have h1 : allT ts w = (ts.map (·.2.1)).filter fun x => decide (x.view = w) := by
      unfold allT
      rw [List.filter_map]
      congr 1
      apply List.filter_congr
      intro e he
      simp [h.tk e he]
    rw [h1]
    exact h.tp.filter _
  have hmem : ∀ x, x ∈ tall f tl w ↔ x ∈ tl.filter fun x => decide (x.view = w) := by
    intro x
    unfold tall tallTo
    simp only [List.mem_flatMap, List.mem_range, List.mem_filter, selT, Bool.and_eq_true, decide_eq_true_eq]
    constructor
    · rintro ⟨k, _, h1, h2, _⟩; exact ⟨h1, h2⟩
    · rintro ⟨h1, h2⟩
      have := replB_iff.1 (h.tr x h1)
      exact ⟨x.signer.toNat, by omega, h1, h2, by omega⟩
  have hsorted : (tall f tl w).Pairwise fun a b => a.signer ≤ b.signer := by
    unfold tall tallTo
    rw [List.pairwise_flatMap]
    refine ⟨fun k _ => ?_, List.Pairwise.imp (R := (· < ·)) (fun {a b} hab x hx y hy => ?_) List.pairwise_lt_range⟩
    · rw [List.pairwise_iff_getElem]
      intro i j hi hj hij
      have e1 := (List.mem_filter.1 (List.getElem_mem hi)).2
      have e2 := (List.mem_filter.1 (List.getElem_mem hj)).2
      simp [selT] at e1 e2
      omega
    · have e1 := (List.mem_filter.1 hx).2
      have e2 := (List.mem_filter.1 hy).2
      simp [selT] at e1 e2
      omega
  have hnd : (tall f tl w).Nodup := by
    unfold tall tallTo List.Nodup
    rw [List.pairwise_flatMap]
    refine ⟨fun k _ => List.Pairwise.filter _ htn, List.Pairwise.imp (R := (· < ·)) (fun {a b} hab x hx y hy e => ?_) List.pairwise_lt_range⟩
    have e1 := (List.mem_filter.1 hx).2
    have e2 := (List.mem_filter.1 hy).2
    simp [selT] at e1 e2
    subst e
    omega
  have hp2 : (tl.filter fun x => decide (x.view = w)).Perm (tall f tl w) := (List.perm_ext_iff_of_nodup (List.Pairwise.filter _ htn) hnd).2 fun x => (hmem x).symm
  have hp : (allT ts w).Perm (tall f tl w) := hall.trans hp2
  refine ⟨hp, ?_, fun zs hz hs => ?_⟩
  · rw [hall.length_eq]
    have h1 : ((tl.filter fun x => decide (x.view = w)).map fun x => x.signer.toNat).Nodup := by
      unfold List.Nodup
      rw [List.pairwise_map, List.pairwise_iff_getElem]
      intro i j hi hj hij e
      have m1 := List.mem_filter.1 (List.getElem_mem hi)
      have m2 := List.mem_filter.1 (List.getElem_mem hj)
      have r1 := replB_iff.1 (h.tr _ m1.1)
      have r2 := replB_iff.1 (h.tr _ m2.1)
      have v1 := m1.2
      have v2 := m2.2
      simp only [decide_eq_true_eq] at v1 v2
      have := huniq _ m1.1 _ m2.1 (v1.trans v2.symm) (by omega)
      have hij2 := (List.getElem_inj (List.Pairwise.filter _ htn)).1 this
      omega
    have h2 : ((tl.filter fun x => decide (x.view = w)).map fun x => x.signer.toNat) ⊆ List.range 10 := by
      intro k hk
      obtain ⟨x, hx, rfl⟩ := List.mem_map.1 hk
      have r1 := replB_iff.1 (h.tr _ (List.mem_filter.1 hx).1)
      have := N_le f
      rw [List.mem_range]; omega
    have := h1.length_le_of_subset h2
    simpa using this
  · refine List.Perm.eq_of_pairwise (le := fun a b : Tmo => a.signer ≤ b.signer) (fun a b ha hb h1 h2 => ?_) ?_ hsorted (hz.trans hp)
    · have ha' := List.mem_filter.1 (hall.mem_iff.1 (hz.mem_iff.1 ha))
      have hb' := List.mem_filter.1 ((hmem b).1 hb)
      have v1 := ha'.2
      have v2 := hb'.2
      simp only [decide_eq_true_eq] at v1 v2
      exact huniq a ha'.1 b hb'.1 (v1.trans v2.symm) (by omega)
    · rw [List.pairwise_iff_getElem]
      intro i j hi hj hij
      exact hs i j hij hj hj

/-! Marks. -/
theorem isM_self (kind w : Int) (who : Int) (h : 0 ≤ who) (i : Nat) : isM kind w i ⟨kind, w, who⟩ = decide (i = who.toNat) := by
  unfold isM
  by_cases e : i = who.toNat
  · subst e; simp; omega
  · have : ¬ who = (i : Int) := by omega
    simp [e, this]
theorem isM_view {kind w w' : Int} {who : Int} {i : Nat} {kind' : Int} (h : ¬ (w = w' ∧ kind = kind')) : isM kind w i ⟨kind', w', who⟩ = false := by
  unfold isM
  simp
  intro h1 h2
  exact absurd ⟨h2.symm, h1.symm⟩ h
theorem one_bit {n i : Nat} (hi : i < 32) : (1#32 <<< n).getLsbD i = decide (i = n) := by
  rw [BitVec.getLsbD_shiftLeft, BitVec.getLsbD_one]
  by_cases h : i < n
  · simp [h]; omega
  · by_cases e : i = n
    · subst e; simp [hi]
    · simp [h, e, hi]; omega
/-- One of the two sets, and the marks of its kind. -/
def SetR (kind : Int) (cs : Sets) (ms : List Mrk) : Prop := ∀ w i, i < 32 → ((mget cs w).getD 0#32).getLsbD i = ms.any (isM kind w i)
theorem SetR.put {f kind : Int} {cs : Sets} {ms : List Mrk} (h : SetR kind cs ms) (clk : Nat) {w who : Int} (hw : replB f who = true) : SetR kind (mput cs w (aset cs w who) clk) (ms ++ [⟨kind, w, who⟩]) := fun w' i hi => by
  have h0 := (replB_iff.1 hw).1
  rw [mget_mput, List.any_append]
  by_cases e : w' = w
  · subst e
    rw [if_pos rfl]
    unfold aset
    simp [h w' i hi, isM_self kind w' who h0 i, one_bit hi]
  · rw [if_neg e, h w' i hi]
    simp [isM_view (kind := kind) (w := w') (w' := w) (who := who) (i := i) (kind' := kind) (fun k => e k.1)]
theorem SetR.other {kind kind' : Int} {cs : Sets} {ms : List Mrk} (h : SetR kind cs ms) (hk : kind ≠ kind') (w who : Int) : SetR kind cs (ms ++ [⟨kind', w, who⟩]) := fun w' i hi => by
  rw [h w' i hi, List.any_append]
  simp [isM_view (kind := kind) (w := w') (w' := w) (who := who) (i := i) (kind' := kind') (fun k => hk k.2)]
/-- What one more mark makes: the set's bits are those who are marked. -/
theorem SetR.bits {f kind : Int} {cs : Sets} {ms : List Mrk} (h : SetR kind cs ms) (hm : ∀ m ∈ ms, replB f m.who = true) {w who : Int} (hw : replB f who = true) : ∀ i, i < 32 → (aset cs w who).getLsbD i = decide (i ∈ whoM f (ms ++ [⟨kind, w, who⟩]) kind w) := fun i hi => by
  have h1 := h.put (f := f) 0 (w := w) hw w i hi
  rw [mget_mput, if_pos rfl] at h1
  simp only [Option.getD_some] at h1
  rw [h1]
  unfold whoM
  rw [Bool.eq_iff_iff]
  simp only [List.any_eq_true, decide_eq_true_eq, List.mem_filter, List.mem_range]
  constructor
  · rintro ⟨m, hm1, hm2⟩
    refine ⟨?_, m, hm1, hm2⟩
    have hr : replB f m.who = true := by
      rcases List.mem_append.1 hm1 with hx | hx
      · exact hm m hx
      · simp at hx; subst hx; exact hw
    simp [isM] at hm2
    subst hm2
    have := (replB_iff.1 hr).2
    simp at this
    omega
  · rintro ⟨_, h2⟩; exact h2
theorem SetR.pop {f kind : Int} {cs : Sets} {ms : List Mrk} (h : SetR kind cs ms) (hm : ∀ m ∈ ms, replB f m.who = true) {w who : Int} (hw : replB f who = true) : pop (aset cs w who) = (whoM f (ms ++ [⟨kind, w, who⟩]) kind w).length :=
  pop_filter (by have := N_le f; omega) (h.bits hm hw)
theorem merr_a (f fr kind w who : Int) : merr f fr ⟨kind, w, who⟩ = aerr f fr w who := rfl
theorem aerr_zero {f fr w who : Int} (h : aerr f fr w who = 0) : replB f who = true := by
  unfold aerr at h
  cases hr : replB f who
  · simp [hr] at h
  · rfl
theorem RelT.coin {f fr : Int} {es : Votes} {ts : Turns} {cs ds : Sets} {vs : List Cert} {tl : List Tmo} {ms : List Mrk} (h : RelT f es ts cs ds vs tl ms) (clk : Nat) (w who : Int) :
    RelT f es ts (aput f fr cs clk w who) ds vs tl (if aerr f fr w who = 0 then ms ++ [⟨1, w, who⟩] else ms) := by
  unfold aput
  by_cases h0 : aerr f fr w who = 0
  · rw [if_pos h0, if_pos h0]
    have hw := aerr_zero h0
    refine ⟨h.v0, h.vk, h.vb, h.tp, h.tk, h.tr, SetR.put h.mc clk hw, SetR.other h.md (by decide) w who, fun m hm => ?_⟩
    rcases List.mem_append.1 hm with hm | hm
    · exact h.mr m hm
    · simp at hm; subst hm; exact hw
  · rw [if_neg h0, if_neg h0]; exact h
theorem RelT.done {f fr : Int} {es : Votes} {ts : Turns} {cs ds : Sets} {vs : List Cert} {tl : List Tmo} {ms : List Mrk} (h : RelT f es ts cs ds vs tl ms) (clk : Nat) (w who : Int) :
    RelT f es ts cs (aput f fr ds clk w who) vs tl (if aerr f fr w who = 0 then ms ++ [⟨2, w, who⟩] else ms) := by
  unfold aput
  by_cases h0 : aerr f fr w who = 0
  · rw [if_pos h0, if_pos h0]
    have hw := aerr_zero h0
    refine ⟨h.v0, h.vk, h.vb, h.tp, h.tk, h.tr, SetR.other h.mc (by decide) w who, SetR.put h.md clk hw, fun m hm => ?_⟩
    rcases List.mem_append.1 hm with hm | hm
    · exact h.mr m hm
    · simp at hm; subst hm; exact hw
  · rw [if_neg h0, if_neg h0]; exact h

/-! Forgetting. -/
theorem SetR.forget {kind : Int} {cs : Sets} {ms : List Mrk} (h : SetR kind cs ms) (view : Int) : SetR kind (cs.filter fun e => !decide (e.1 < view)) (ms.filter (laterM view)) := fun w i hi => by
  rw [mget_filter (es := cs) (fun k => !decide (k < view))]
  by_cases hv : w < view
  · rw [if_neg (by simp [hv])]
    simp
    intro m hm hl
    simp [laterM] at hl
    cases hx : isM kind w i m
    · rfl
    · simp [isM] at hx; subst hx; simp at hl; omega
  · rw [if_pos (by simp [hv]), h w i hi, Bool.eq_iff_iff]
    simp only [List.any_eq_true, List.mem_filter]
    constructor
    · rintro ⟨m, hm, hx⟩
      refine ⟨m, ⟨hm, ?_⟩, hx⟩
      simp [isM] at hx; subst hx
      simp [laterM]; omega
    · rintro ⟨m, ⟨hm, _⟩, hx⟩; exact ⟨m, hm, hx⟩
theorem RelT.forget {f : Int} {es : Votes} {ts : Turns} {cs ds : Sets} {vs : List Cert} {tl : List Tmo} {ms : List Mrk} (h : RelT f es ts cs ds vs tl ms) (fr view : Int) :
    RelT f (vfor es fr view) (tfor ts fr view) (ifor cs fr view) (ifor ds fr view) (if view ≤ fr then vs else vs.filter (laterV view)) (if view ≤ fr then tl else tl.filter (laterT view)) (if view ≤ fr then ms else ms.filter (laterM view)) := by
  unfold vfor tfor ifor
  by_cases hle : view ≤ fr
  · simp only [if_pos hle]; exact h
  simp only [if_neg hle]
  have hgen : ∀ (q : Cert → Bool) (k : Cert), ((vs.filter (laterV view)).any fun v => decide (rplain v = k) && q v) = if k.view < view then false else vs.any fun v => decide (rplain v = k) && q v := fun q k => by
    rw [Bool.eq_iff_iff]
    by_cases hk : k.view < view
    · simp only [hk, if_true, Bool.false_eq_true, iff_false]
      simp
      intro v hv hl e
      exfalso
      simp [laterV] at hl
      subst e
      have : (rplain v).view = v.view := rfl
      omega
    · simp only [hk, if_false]
      simp only [List.any_eq_true, List.mem_filter, Bool.and_eq_true, decide_eq_true_eq]
      constructor
      · rintro ⟨v, ⟨hv, _⟩, hx⟩; exact ⟨v, hv, hx⟩
      · rintro ⟨v, hv, e, hx⟩
        refine ⟨v, ⟨hv, ?_⟩, e, hx⟩
        subst e
        have : (rplain v).view = v.view := rfl
        simp [laterV]; omega
  refine ⟨fun c hc => h.v0 c (List.mem_filter.1 hc).1, fun k => ?_, fun k i hi => ?_, ?_, fun e he => h.tk e (List.mem_filter.1 he).1, fun x hx => h.tr x (List.mem_filter.1 hx).1, SetR.forget h.mc view, SetR.forget h.md view, fun m hm => h.mr m (List.mem_filter.1 hm).1⟩
  · rw [mget_filter (es := es) (fun k => !decide (k.view < view))]
    have := hgen (fun _ => true) k
    simp only [Bool.and_true] at this
    rw [this, ← h.vk k]
    by_cases hk : k.view < view <;> simp [hk]
  · rw [mget_filter (es := es) (fun k => !decide (k.view < view)), hgen (fun v => v.signers.getLsbD i) k, ← h.vb k i hi]
    by_cases hk : k.view < view <;> simp [hk]
  · have h1 : (ts.filter fun e => !decide (e.1.1 < view)).map (·.2.1) = (ts.map (·.2.1)).filter (laterT view) := by
      rw [List.filter_map]
      congr 1
      apply List.filter_congr
      intro e he
      simp [h.tk e he, laterT]
      rw [Bool.eq_iff_iff]; simp
    rw [h1]
    exact h.tp.filter _
end Go.Proofs.Ytdioggohbfgnfaa
