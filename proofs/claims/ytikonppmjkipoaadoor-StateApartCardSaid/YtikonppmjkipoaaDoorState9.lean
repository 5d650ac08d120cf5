/-
  The names, sorted: maps.Keys, slices.Collect, slices.SortedFunc.
-/
import Derived.Test.YtikonppmjkipoaaDoorState8
set_option linter.unusedVariables false
set_option linter.unusedSimpArgs false
namespace Go.Proofs.YtikonppmjkipoaaDoor
open Go Go.Abs Go.Proofs
set_option maxRecDepth 100000
attribute [local irreducible] AEnd AW ACalls

theorem keysS_ok (H : AH) {am : Nat} : ACalls Tryd.prog 28 [.m (some am)] H fun r H' => r = .fn (.func 52) [] [.p (some (H.next, 0, 0))] ∧ H' = H.new (.cells [.m (some am)] 0 false 0) := by
  refine ACalls_body Tryd.func28 rfl rfl ?_
  refine AW_seq ?_
  refine AW_reg [1, 2] fun K hK => ?_ -- region 0
  simp [init_eq, V.cells]
  refine hK _ _ ?_; clear hK K
  refine AW_seq ?_
  refine AW_reg [2] fun K hK => ?_ -- region 1
  simp [init_eq]
  refine hK _ _ ?_; clear hK K
  exact AW_ret (end_ret rfl ⟨rfl, rfl⟩)
theorem collectS_ok (H : AH) {am : Nat} {es : Accs} {clk : Nat} (hm : H.get am = some (.map (ents kS vA es) clk)) (ok : MOk es clk) (hl : es.length ≤ 1000000000) {bid : Nat} (hb : H.get bid = some (.cells [.m (some am)] 0 false 0)) :
    ACalls Tryd.prog 50 [.fn (.func 52) [] [.p (some (bid, 0, 0))]] H fun r H' => ∃ (ks : List (List UInt8)) (F : List Nat), ks.Perm (es.map (·.1)) ∧ Own H' r 1 (ks.map strK).flatten F ∧ Upd H H' [] ∧ (∀ j ∈ F, H.next ≤ j) ∧ (ks = [] → r = .sl none 0 false) := by
  refine ACalls_body Tryd.func50 rfl rfl ?_
  refine AW_seq ?_
  refine AW_reg [0, 2] fun K hK => ?_ -- region 0
  simp [init_eq]
  refine hK _ _ ?_; clear hK K
  refine AW_seq ?_
  refine AW_reg [2] fun K hK => ?_ -- region 1
  simp [init_eq]
  refine ACalls.mono (appendSeqS_ok H hm ok hl hb) fun r H' h => ?_
  try simp
  refine hK _ _ ?_; clear hK K
  exact AW_ret (end_ret rfl h)
theorem sortedS_ok (H : AH) {am : Nat} {es : Accs} {clk : Nat} (hm : H.get am = some (.map (ents kS vA es) clk)) (ok : MOk es clk) (hl : es.length ≤ 1000000000) (hn : ∀ e ∈ es, e.1.length ≤ 1000000000) {bid : Nat} (hb : H.get bid = some (.cells [.m (some am)] 0 false 0)) :
    ACalls Tryd.prog 27 [.fn (.func 52) [] [.p (some (bid, 0, 0))], .fn (.func 29) [] []] H fun r H' => ∃ (ks : List (List UInt8)) (F : List Nat), ks.Perm (es.map (·.1)) ∧ (ks.Pairwise fun a b => nameLt b a = false) ∧ Own H' r 1 (ks.map strK).flatten F ∧ Upd H H' [] ∧ (∀ j ∈ F, H.next ≤ j) := by
  refine ACalls_body Tryd.func27 rfl rfl ?_
  refine AW_seq ?_
  refine AW_reg [0, 1, 4] fun K hK => ?_ -- region 0
  simp [init_eq]
  refine hK _ _ ?_; clear hK K
  refine AW_seq ?_
  refine AW_reg [1, 4, 5] fun K hK => ?_ -- region 1
  simp [init_eq]
  refine ACalls.mono (collectS_ok H hm ok hl hb) fun r H1 ⟨ks, F, hp, hown, u, hF, hnil⟩ => ?_
  try simp
  refine hK _ _ ?_; clear hK K
  refine AW_seq ?_
  refine AW_reg [4, 5] fun K hK => ?_ -- region 2
  simp [init_eq]
  refine ACalls.mono (sort_names H1 hown hnil (fun k hk => ?_) ?_) fun r2 H2 ⟨hr, ys, hp2, hs, own2, u2⟩ => ?_
  · obtain ⟨e, he, rfl⟩ := List.mem_map.1 (hp.mem_iff.1 hk)
    exact hn e he
  · have := hp.length_eq; simp at this; omega
  try simp
  refine hK _ _ ?_; clear hK K
  refine AW_seq ?_
  refine AW_reg [4] fun K hK => ?_ -- region 3
  simp [init_eq]
  refine hK _ _ ?_; clear hK K
  exact AW_ret (end_ret rfl ⟨ys, F, hp2.trans hp, hs, own2, u.trans u2 (fun j hj => .inr (hF j hj)), hF⟩)
end Go.Proofs.YtikonppmjkipoaaDoor
