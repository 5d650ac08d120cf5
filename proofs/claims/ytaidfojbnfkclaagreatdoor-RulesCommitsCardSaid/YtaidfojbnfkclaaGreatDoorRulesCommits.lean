/-
  RulesCommits: the law says true of every certificate and every block.
-/
import Derived.Test.YtaidfojbnfkclaaGreatDoorRules1
import Derived.Test.YtaidfojbnfkclaaGreatDoorRulesAlive
import Derived.Test.YtaidfojbnfkclaaGreatDoorName4
set_option linter.unusedVariables false
set_option linter.unusedSimpArgs false
namespace Go.Proofs.YtaidfojbnfkclaaGreatDoor
open Go Go.Abs Go.Proofs
set_option maxRecDepth 100000
attribute [local irreducible] AEnd AW ACalls

theorem rcommits_law (H : AH) (c : Cert) {b : Blk} {pv tv : V} (hb : BlkAt H b pv tv) : ACalls Tryz.prog 3 [.agg c.cells, .agg (b.cells pv tv)] H fun r H' => r = .b true := by
  refine ACalls_body Tryz.func3 rfl rfl ?_
  refine AW_seq ?_
  refine AW_reg [2, 3] fun K hK => ?_ -- region 0
  simp [init_eq, V.cells]
  obtain ⟨H1, e1, hp, hp2, hn, ho⟩ := H.boxed2 c.cells (b.cells pv tv)
  rw [e1]
  refine hK _ _ ?_; clear hK K
  have hb1 := hb.same ho
  refine AW_seq ?_
  refine AW_seq ?_
  refine AW_reg [2, 3, 10] fun K hK => ?_ -- region 1
  simp [init_eq]
  refine ACalls.mono (alive_ok ..) fun r H' ⟨hr, e⟩ => ?_ -- hallmoot/hallmootlaw21.alive
  subst hr e
  simp
  refine hK _ _ ?_; clear hK K
  refine AW_cond' rfl rfl (fun hc => ?_) (fun hc => ?_)
  · cases hc
  refine AW_skip ?_
  refine AW_seq ?_
  refine AW_reg [2, 3, 5, 6] fun K hK => ?_ -- region 3
  simp [init_eq, aload, hp, hp2, blk_take, take_cells]
  refine ACalls.mono (commits_ok H' c hb1) fun r H2 ⟨hr, e⟩ => ?_ -- hallmoot/rules.Commits
  subst hr e
  simp [commitsV]
  refine hK _ _ ?_; clear hK K
  refine AW_seq ?_
  refine AW_reg [5, 6, 7, 8] fun K hK => ?_ -- region 4
  simp [init_eq, aload, hp, hp2, blk_take, take_cells]
  refine ACalls.mono (rcommits_ok H2 c hb1) fun r H3 ⟨hr, e⟩ => ?_ -- hallmoot/hallmootref21.Commits
  subst hr e
  simp [commitsV]
  refine hK _ _ ?_; clear hK K
  refine AW_seq ?_
  refine AW_reg [4] fun K hK => ?_ -- region 5
  simp [init_eq]
  refine hK _ _ ?_; clear hK K
  refine AW_ret (end_ret rfl ?_)
  simp
theorem rulesCommits_law (H : AH) (vs : List V) (hv : TVals Tryz.prog H Tryz.f3.params.toList vs) : ACalls Tryz.prog 3 vs H fun r _ => r = .b true := by
  have hv' : TVals Tryz.prog H [24, 28] vs := hv
  clear hv
  rcases vs with _ | ⟨a, _ | ⟨b, _ | ⟨z, r⟩⟩⟩
  · exact hv'.elim
  · exact hv'.2.elim
  · obtain ⟨l, rfl, _, h⟩ := hv'.1.struct Tryz.underlying24 cellsOf_24
    obtain ⟨c, rfl⟩ := tv_cert h
    obtain ⟨l, rfl, _, h⟩ := hv'.2.1.struct Tryz.underlying28 cellsOf_28
    obtain ⟨y, pb, tb, rfl, hb⟩ := tv_blk h
    exact rcommits_law H c hb
  · exact hv'.2.2.elim
end Go.Proofs.YtaidfojbnfkclaaGreatDoor
