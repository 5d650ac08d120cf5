/-
  Conditions whose answers are known.
-/
import Derived.Test.YtaidfojbnfkclaaGreatDoorTxtA
set_option linter.unusedVariables false
set_option linter.unusedSimpArgs false
namespace Go.Proofs.YtaidfojbnfkclaaGreatDoor
open Go Go.Abs Go.Proofs
set_option maxRecDepth 100000
attribute [local irreducible] AEnd AW ACalls
theorem AW_condT {r:Fm} {P:Program} [Laid P] {Q:Exit → Env → AH → Prop} {ρ:Env} {H:AH} {c:Operand} {x y:Code} (hv:aev ρ c = .b true) (h:AW r P x Q ρ H):AW r P (.cond c x y) Q ρ H:=AW_cond' hv rfl (fun _=>h) (fun h=>by cases h)
theorem AW_condF {r:Fm} {P:Program} [Laid P] {Q:Exit → Env → AH → Prop} {ρ:Env} {H:AH} {c:Operand} {x y:Code} (hv:aev ρ c = .b false) (h:AW r P y Q ρ H):AW r P (.cond c x y) Q ρ H:=AW_cond' hv rfl (fun h=>by cases h) (fun _=>h)
theorem rem_int {P:Program} {t:TypeId} (a b:Int) (hb:b ≠ 0):abin P .rem t (.i .i64 a) (.i .i64 b) = some (.i .i64 (a.tmod b)):=by
 show (if IntKind.i64 = IntKind.i64 then aint .rem .i64 a b else none) = _
 rw [if_pos rfl]
 unfold aint
 simp only []
 rw [if_neg hb]
end Go.Proofs.YtaidfojbnfkclaaGreatDoor
