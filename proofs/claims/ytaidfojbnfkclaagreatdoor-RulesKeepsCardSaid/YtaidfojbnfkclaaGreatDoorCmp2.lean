import Derived.Test.YtaidfojbnfkclaaGreatDoorSaf9
set_option linter.unusedVariables false
set_option linter.unusedSimpArgs false
namespace Go.Proofs.YtaidfojbnfkclaaGreatDoor
open Go Go.Abs Go.Proofs
theorem cmpL_trans:∀ l m n:List Int,l.length = m.length → m.length = n.length → 0 ≤ cmpL l m → 0 ≤ cmpL m n → 0 ≤ cmpL l n
 | [],[],[],_,_,_,_=>by simp [cmpL]
 | x :: xs,y :: ys,z :: zs,h1,h2,h3,h4=>by
   have ih:=cmpL_trans xs ys zs (by simpa using h1) (by simpa using h2)
   simp only [cmpL,cmpI] at *
   repeat' split at h3
   all_goals repeat' split at h4
   all_goals repeat' split
   all_goals first | omega | (exact ih h3 h4) | (simp_all <;> omega) | skip
theorem cmpC_trans {a b c:Cert} (h:0 ≤ cmpC a b) (k:0 ≤ cmpC b c):0 ≤ cmpC a c:=cmpL_trans a.rank b.rank c.rank rfl rfl h k
end Go.Proofs.YtaidfojbnfkclaaGreatDoor
