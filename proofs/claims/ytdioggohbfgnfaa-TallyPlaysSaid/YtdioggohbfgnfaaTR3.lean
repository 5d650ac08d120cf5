/-
  The document's tally: how many unlike votes there are (certs, Certs).
-/
import Derived.Test.YtdioggohbfgnfaaTR2
set_option linter.unusedVariables false
set_option linter.unusedSimpArgs false
namespace Go.Proofs.Ytdioggohbfgnfaa
open Go Go.Abs Go.Proofs
set_option maxRecDepth 100000
attribute [local irreducible] AEnd AW ACalls

def isFirst (vs : List Cert) (c : Cert) : Bool := vs.all fun v => !decide (rplain v = rplain c)
def dnTo (vs : List Cert) : Nat → Nat
  | 0 => 0
  | i + 1 => dnTo vs i + if isFirst (vs.take i) (vs.getD i Cert.zero) = true then 1 else 0
/-- How many unlike ones. -/
def dn (vs : List Cert) : Nat := dnTo vs vs.length
theorem dnTo_le (vs : List Cert) (i : Nat) : dnTo vs i ≤ i := by
  induction i with
  | zero => simp [dnTo]
  | succ i ih => rw [dnTo]; split <;> omega
def seenIn (vs : List Cert) (c : Cert) : Bool := vs.any fun v => decide (rplain v = rplain c)
theorem all_snoc {α : Type} (p : α → Bool) (l : List α) (a : α) : (l ++ [a]).all p = (l.all p && p a) := by simp
theorem any_snoc {α : Type} (p : α → Bool) (l : List α) (a : α) : (l ++ [a]).any p = (l.any p || p a) := by simp
theorem cert_neq (x y : Cert) : abin Try.prog .neq 32 (.agg x.cells) (.agg y.cells) = some (.b (!decide (x = y))) := by
  show (Go.Abs.aeq ..).map _ = _; rw [Cert.aeq]; rfl
theorem cert_eql (x y : Cert) : abin Try.prog .eql 32 (.agg x.cells) (.agg y.cells) = some (.b (decide (x = y))) := by
  show (Go.Abs.aeq ..).map _ = _; rw [Cert.aeq]; rfl
theorem rcerts_ok (H : AH) {m : Nat} {f fr : Int} {vv tv mv : V} {vs : List Cert} (hm : H.get m = some (.cells [.i .i64 f, .i .i64 fr, vv, tv, mv] 0 false 0)) (hrs : RS H vv 8 (vs.map Cert.cells)) (hl : vs.length ≤ 100000) (c : Cert) :
    ACalls Try.prog 44 [.p (some (m, 0, 0)), .agg c.cells] H fun r H' => r = .tup [.i .i64 (dn vs), .b (seenIn vs c)] ∧ H' = H := by
  refine ACalls.pure (Q := fun r => r = .tup [.i .i64 (dn vs), .b (seenIn vs c)]) ⟨_, Try.func44, rfl, rfl⟩ ?_
  refine ACalls_body Try.func44 rfl rfl ?_
  repeat refine AW_seq ?_
  refine AW_reg [0, 3] fun K hK => ?_ -- region 0
  simp [init_eq, V.cells]
  generalize hH1 : H.new (.cells c.cells 0 false 0) = H1
  have n1 : H1.next = H.next + 1 := by rw [← hH1]; simp
  have x1 : H1.get H.next = some (.cells c.cells 0 false 0) := by rw [← hH1]; simp [AH.get_new]
  have o1 : ∀ j, j < H.next → H1.get j = H.get j := fun j hj => by rw [← hH1]; simp [AH.get_new]; omega
  clear hH1
  refine hK _ _ ?_; clear hK K
  have m1 := (o1 m (AH.get_lt hm)).trans hm
  have hrs1 := hrs.same o1
  have lx := hrs1.alen (P := Try.prog) qelem_29 H1
  have ldV : aload Try.prog H1 29 (.p (some (m, 0, 2))) = some vv := by simp [aload, m1]
  have ldC : aload Try.prog H1 32 (.p (some (H.next, 0, 0))) = some (.agg c.cells) := by simp [aload, x1, take_cells]
  have hat : ∀ i (hi : i < vs.length), ∃ ax, aindexAddr Try.prog 29 vv (.i .i64 i) = some ax ∧ aload Try.prog H1 32 ax = some (.agg vs[i].cells) := fun i hi => by
    obtain ⟨ax, px, qx⟩ := hrs1.rec (f := Cert.cells) (fun _ => rfl) (by decide) (P := Try.prog) qelem_29 qsize_32 qagg_32 hi
    exact ⟨ax, px, qx⟩
  repeat refine AW_seq ?_
  refine AW_reg [0, 3, 6] fun K hK => ?_ -- region 1
  simp [init_eq]
  refine hK _ _ ?_; clear hK K
  repeat refine AW_seq ?_
  refine AW_reg [0, 3, 6, 7] fun K hK => ?_ -- region 2
  simp [init_eq]
  refine hK _ _ ?_; clear hK K
  repeat refine AW_seq ?_
  refine AW_reg [0, 3, 6, 7, 8] fun K hK => ?_ -- region 3
  simp [init_eq]
  refine hK _ _ ?_; clear hK K
  refine AW_block ?_
  refine AW_loopx (fun i : Nat => ⟨64, [(0, .p (some (m, 0, 0))), (3, .p (some (H.next, 0, 0))), (6, .i .i64 (dnTo vs i)), (7, .b (seenIn (vs.take i) c)), (8, .i .i64 i)]⟩) (fun i G => G = H1 ∧ i ≤ vs.length) (fun i => vs.length - i) 0 (by simp [dnTo, seenIn]) ⟨rfl, by simp⟩ fun i G hM => ?_ -- loop
  obtain ⟨rfl, hi0⟩ := hM
  have hdn := dnTo_le vs i
  repeat refine AW_seq ?_
  refine AW_reg [0, 3, 6, 7, 8, 17] fun K hK => ?_ -- region 4
  simp [init_eq, afieldAddr, ldV, lx]
  refine hK _ _ ?_; clear hK K
  refine AW_cond' rfl rfl (fun hc => ?_) (fun hc => ?_)
  · have hi : i < vs.length := by simpa using hc
    obtain ⟨ax, px, qx⟩ := hat i hi
    have htk : vs.take (i + 1) = vs.take i ++ [vs[i]] := List.take_succ_eq_append_getElem hi
    have hgd : vs.getD i Cert.zero = vs[i] := by simp [List.getD, hi]
    refine AW_skip ?_
    repeat refine AW_seq ?_
    refine AW_block ?_
    repeat refine AW_seq ?_
    refine AW_reg [0, 3, 6, 7, 8, 9] fun K hK => ?_ -- region 6
    simp [init_eq]
    refine hK _ _ ?_; clear hK K
    repeat refine AW_seq ?_
    refine AW_reg [0, 3, 6, 7, 8, 9, 10] fun K hK => ?_ -- region 7
    simp [init_eq]
    refine hK _ _ ?_; clear hK K
    refine AW_block ?_
    refine AW_loopx (fun k : Nat => ⟨64, [(0, .p (some (m, 0, 0))), (3, .p (some (H.next, 0, 0))), (6, .i .i64 (dnTo vs i)), (7, .b (seenIn (vs.take i) c)), (8, .i .i64 i), (9, .b (isFirst (vs.take k) vs[i])), (10, .i .i64 k)]⟩) (fun k G' => G' = G ∧ k ≤ i) (fun k => i - k) 0 (by simp [isFirst]) ⟨rfl, by simp⟩ fun k G' hM => ?_ -- loop
    obtain ⟨rfl, hk0⟩ := hM
    repeat refine AW_seq ?_
    refine AW_reg [0, 3, 6, 7, 8, 9, 10, 22] fun K hK => ?_ -- region 8
    simp [init_eq]
    refine hK _ _ ?_; clear hK K
    refine AW_cond' rfl rfl (fun hc => ?_) (fun hc => ?_)
    · have hk : k < i := by simpa using hc
      obtain ⟨ay, py, qy⟩ := hat k (by omega)
      have htk2 : vs.take (k + 1) = vs.take k ++ [vs[k]] := List.take_succ_eq_append_getElem (by omega)
      have hst : isFirst (vs.take (k + 1)) vs[i] = (isFirst (vs.take k) vs[i] && !decide (rplain vs[k] = rplain vs[i])) := by unfold isFirst; rw [htk2, all_snoc]
      refine AW_skip ?_
      repeat refine AW_seq ?_
      refine AW_block ?_
      refine AW_regdto [0, 3, 6, 7, 8, 9, 10] pl_44_10 pe_44_10 ⟨64, [(0, .p (some (m, 0, 0))), (3, .p (some (H.next, 0, 0))), (6, .i .i64 (dnTo vs i)), (7, .b (seenIn (vs.take i) c)), (8, .i .i64 i), (9, .b (isFirst (vs.take (k + 1)) vs[i])), (10, .i .i64 k)]⟩ G' (by kernel_rfl) (by kernel_rfl) (by decide) (fun K hk => ?_) ?_ -- region 10
      · rw [hst] at hk
        cases hb : isFirst (vs.take k) vs[i]
        · rw [hb] at hk
          simpa [init_eq, pl_44_10] using hk
        · rw [hb] at hk
          simp [init_eq, pl_44_10, afieldAddr, ldV, px, qx, py, qy]
          refine ACalls.mono (rplain_ok G' vs[k]) fun r G2 ⟨hr, e⟩ => ?_ -- hallmoot/hallmootref22.plain
          subst hr e
          refine ⟨AH.ext.refl _, ?_⟩
          try simp [init_eq, afieldAddr, ldV, px, qx, py, qy]
          refine ACalls.mono (rplain_ok G2 vs[i]) fun r G3 ⟨hr, e⟩ => ?_ -- hallmoot/hallmootref22.plain
          subst hr e
          refine ⟨AH.ext.refl _, ?_⟩
          simpa [cert_neq] using hk
      refine bend (rend ?_)
      refine AW_reg [0, 3, 6, 7, 8, 9, 10] fun K hK => ?_ -- region 9
      simp [init_eq, wrap_id (x := (k : Int) + 1) (by omega) (by omega)]
      refine hK _ _ ?_; clear hK K
      exact rend ⟨k + 1, by simp, ⟨rfl, by omega⟩, by omega⟩ -- round's end
    · have hk : k = i := by have : ¬ k < i := by simpa using hc
                            omega
      subst hk
      refine AW_exit (then_exit (then_exit (block_here ?_)))
      have hst2 : seenIn (vs.take (k + 1)) c = (seenIn (vs.take k) c || decide (rplain vs[k] = rplain c)) := by unfold seenIn; rw [htk, any_snoc]
      have hdn2 : dnTo vs (k + 1) = dnTo vs k + if isFirst (vs.take k) vs[k] = true then 1 else 0 := by rw [dnTo, hgd]
      refine AW_cut (fun ρ G2 => ρ = ⟨64, [(0, .p (some (m, 0, 0))), (3, .p (some (H.next, 0, 0))), (6, .i .i64 (dnTo vs (k + 1))), (7, .b (seenIn (vs.take k) c)), (8, .i .i64 k)]⟩ ∧ G2 = G') ?_ fun ρ G2 ⟨e1, e2⟩ => ?_
      · repeat refine AW_seq ?_
        refine AW_reg [0, 3, 6, 7, 8, 45] fun K hK => ?_ -- region 11
        simp [init_eq]
        refine hK _ _ ?_; clear hK K
        refine AW_cond' rfl rfl (fun hc => ?_) (fun hc => ?_)
        · have hb : isFirst (vs.take k) vs[k] = true := hc
          refine AW_reg [0, 3, 6, 7, 8] fun K hK => ?_ -- region 12
          simp [init_eq, wrap_id (x := (dnTo vs k : Int) + 1) (by omega) (by omega)]
          refine hK _ _ ?_; clear hK K
          exact rend ⟨_, by simp [hdn2, hb], rfl, rfl⟩
        · have hb : isFirst (vs.take k) vs[k] = false := hc
          exact AW_skip (rend ⟨_, by simp [hdn2, hb], rfl, rfl⟩)
      subst e1 e2
      refine AW_regdto [0, 3, 6, 7, 8] pl_44_13 pe_44_13 ⟨64, [(0, .p (some (m, 0, 0))), (3, .p (some (H.next, 0, 0))), (6, .i .i64 (dnTo vs (k + 1))), (7, .b (seenIn (vs.take (k + 1)) c)), (8, .i .i64 k)]⟩ G2 (by kernel_rfl) (by kernel_rfl) (by decide) (fun K hk => ?_) ?_ -- region 13
      · rw [hst2] at hk
        cases hb : seenIn (vs.take k) c
        · rw [hb] at hk
          simp [init_eq, pl_44_13, afieldAddr, ldV, px, qx, ldC]
          refine ACalls.mono (rplain_ok G2 vs[k]) fun r G3 ⟨hr, e⟩ => ?_ -- hallmoot/hallmootref22.plain
          subst hr e
          refine ⟨AH.ext.refl _, ?_⟩
          try simp [init_eq, afieldAddr, ldV, px, qx, ldC]
          refine ACalls.mono (rplain_ok G3 c) fun r G3 ⟨hr, e⟩ => ?_ -- hallmoot/hallmootref22.plain
          subst hr e
          refine ⟨AH.ext.refl _, ?_⟩
          simpa [cert_eql] using hk
        · rw [hb] at hk
          simpa [init_eq, pl_44_13] using hk
      refine bend (rend ?_)
      refine AW_reg [0, 3, 6, 7, 8] fun K hK => ?_ -- region 5
      simp [init_eq, wrap_id (x := (k : Int) + 1) (by omega) (by omega)]
      refine hK _ _ ?_; clear hK K
      exact rend ⟨k + 1, by simp, ⟨rfl, by omega⟩, by omega⟩ -- round's end
  · have hi : i = vs.length := by have : ¬ i < vs.length := by simpa using hc
                                  omega
    subst hi
    refine AW_exit (then_exit (then_exit (block_here ?_)))
    repeat refine AW_seq ?_
    refine AW_reg [4, 5] fun K hK => ?_ -- region 14
    simp [init_eq]
    refine hK _ _ ?_; clear hK K
    exact AW_ret (end_ret rfl ⟨rfl, by simp, by omega, o1⟩)
theorem rCerts_ok (H : AH) {m : Nat} {f fr : Int} {vv tv mv : V} {vs : List Cert} (hm : H.get m = some (.cells [.i .i64 f, .i .i64 fr, vv, tv, mv] 0 false 0)) (hrs : RS H vv 8 (vs.map Cert.cells)) (hl : vs.length ≤ 100000) :
    ACalls Try.prog 24 [.p (some (m, 0, 0))] H fun r H' => r = .i .i64 (dn vs) ∧ H' = H := by
  have hz : abuild Try.prog 32 [] = some (.agg Cert.zero.cells) := by first | (simp [abuild, afill]; done) | (simp [abuild, afill]; rfl)
  refine ACalls_body Try.func24 rfl rfl ?_
  repeat refine AW_seq ?_
  refine AW_reg [0] fun K hK => ?_ -- region 0
  simp [init_eq]
  refine hK _ _ ?_; clear hK K
  repeat refine AW_seq ?_
  refine AW_reg [3] fun K hK => ?_ -- region 1
  simp [init_eq, hz]
  refine ACalls.mono (rcerts_ok H hm hrs hl Cert.zero) fun r H' ⟨hr, e⟩ => ?_ -- certs
  subst hr e
  try simp
  refine hK _ _ ?_; clear hK K
  repeat refine AW_seq ?_
  refine AW_reg [2] fun K hK => ?_ -- region 2
  simp [init_eq]
  refine hK _ _ ?_; clear hK K
  exact AW_ret (end_ret rfl ⟨rfl, rfl⟩)
end Go.Proofs.Ytdioggohbfgnfaa
