import Derived.Test.YtaidfojbnfkclaaGreatDoorVotesFar
import Derived.Test.YtaidfojbnfkclaaGreatDoorAgain1
import Derived.Test.YtaidfojbnfkclaaGreatDoorRulesAlive
import Derived.Test.YtaidfojbnfkclaaGreatDoorTxtA
set_option linter.unusedVariables false
set_option linter.unusedSimpArgs false
namespace Go.Proofs.YtaidfojbnfkclaaGreatDoor
open Go Go.Abs Go.Proofs
set_option maxRecDepth 100000
attribute [local irreducible] AEnd AW ACalls
theorem boxSR (X:AH) (z y l m:List V):∃ Y,(((X.new (.cells z 0 false 0)).new (.cells y 0 false 0)).set X.next (.cells l 0 false 0)).set (X.next + 1) (.cells m 0 false 0) = Y ∧ Y.get X.next = some (.cells l 0 false 0) ∧ Y.get (X.next + 1) = some (.cells m 0 false 0) ∧ Y.next = X.next + 2 ∧ ∀ j,j < X.next → Y.get j = X.get j :=
 ⟨_,rfl,by rw [AH.get_set_ne (by omega),AH.get_set_same (by simp; omega)],AH.get_set_same (by simp),by simp,fun j hj=>by rw [AH.get_set_ne (by omega),AH.get_set_ne (by omega),AH.get_new,if_neg (by simp; omega),AH.get_new,if_neg (by omega)]⟩
end Go.Proofs.YtaidfojbnfkclaaGreatDoor
