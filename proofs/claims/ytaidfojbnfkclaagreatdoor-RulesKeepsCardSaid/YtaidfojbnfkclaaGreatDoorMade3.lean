import Derived.Test.YtaidfojbnfkclaaGreatDoorMade2
import Derived.Test.YtaidfojbnfkclaaGreatDoorTxtH
set_option linter.unusedVariables false
set_option linter.unusedSimpArgs false
namespace Go.Proofs.YtaidfojbnfkclaaGreatDoor
open Go Go.Abs Go.Proofs
set_option maxRecDepth 100000
attribute [local irreducible] AEnd AW ACalls
def openB (c:Cert) (view:Int):Bool:=if c.kind = 2 then c.endorsed && decide (c.view < view) else decide (c.view ≤ view)
theorem open_ok (H:AH) (c:Cert) (view:Int):ACalls Tryz.prog 56 [.agg c.cells,.i .i64 view] H fun r H'=>r = .b (openB c view) ∧ H' = H:=by
 refine ACalls.pure (Q:=fun r=>r = .b (openB c view)) ⟨_,Tryz.func56,rfl,rfl⟩ ?_
 refine ACalls_body Tryz.func56 rfl rfl ?_
 refine AW_seq ?_
 refine AW_reg [1,2] fun K hK=>?_
 simp [init_eq,V.cells]
 obtain ⟨G,e1,g1,gn,go⟩:=H.boxed c.cells
 rw [e1]
 apply hK;clear hK K
 refine AW_seq ?_
 refine AW_seq ?_
 refine AW_reg [1,2,7] fun K hK=>?_
 simp [init_eq,afieldAddr,aload,g1]
 apply hK;clear hK K
 refine AW_cond' rfl rfl (fun hc=>?_) (fun hc=>?_)
 · have hk:c.kind = 2:=by simpa using hc
   refine AW_seq ?_
   refine AW_reg [4] fun K hK=>?_
   simp [init_eq,aload,g1,take_cells]
   refine ACalls.mono (endorsed_ok G c) fun r H' ⟨hr,e⟩=>?_
   subst hr e
   cases he:c.endorsed
   · simp [he]
     apply hK;clear hK K
     exact AW_ret (end_ret rfl ⟨by simp [openB,hk,he],rfl,by omega,go⟩)
   · simp [he,afieldAddr,aload,g1]
     apply hK;clear hK K
     exact AW_ret (end_ret rfl ⟨by simp [openB,hk,he],rfl,by omega,go⟩)
 · have hk:¬ c.kind = 2:=by simpa using hc
   refine AW_skip ?_
   refine AW_seq ?_
   refine AW_reg [4] fun K hK=>?_
   simp [init_eq,afieldAddr,aload,g1]
   apply hK;clear hK K
   exact AW_ret (end_ret rfl ⟨by simp [openB,hk],rfl,by omega,go⟩)
end Go.Proofs.YtaidfojbnfkclaaGreatDoor
