import Derived.Test.YtaidfojbnfkclaaGreatDoorVote1
set_option linter.unusedVariables false
set_option linter.unusedSimpArgs false
namespace Go.Proofs.YtaidfojbnfkclaaGreatDoor
open Go Go.Abs Go.Proofs
set_option maxRecDepth 100000
attribute [local irreducible] AEnd AW ACalls
end Go.Proofs.YtaidfojbnfkclaaGreatDoor
