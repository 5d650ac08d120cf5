/-
  law21's far: are block or records more than are looked at?
-/
import Derived.Test.YtaidfojbnfkclaaGreatDoorSafArg
import Derived.Test.YtaidfojbnfkclaaGreatDoorTxtA
import Derived.Test.YtaidfojbnfkclaaGreatDoorTxtB
set_option linter.unusedVariables false
set_option linter.unusedSimpArgs false
namespace Go.Proofs.YtaidfojbnfkclaaGreatDoor
open Go Go.Abs Go.Proofs
set_option maxRecDepth 100000
attribute [local irreducible] AEnd AW ACalls
def farVB (l:List SRec) (b:Blk):Bool:=decide (40 < l.length) || b.great || l.any fun r=>decide (5000 < r.text.length)
theorem vfar_ok (H:AH) {v:V} (l:List SRec) (hv:RS H v 22 (l.map SRec.cells)) {b:Blk} {pv tv:V} (hb:BlkAt H b pv tv) :
  ACalls Tryz.prog 11 [v,.agg (b.cells pv tv)] H fun x H'=>x = .b (farVB l b) ∧ H' = H:=by
 refine ACalls.pure (Q:=fun x=>x = .b (farVB l b)) ⟨_,Tryz.func11,rfl,rfl⟩ ?_
 refine ACalls_body Tryz.func11 rfl rfl ?_
 refine AW_seq ?_
 refine AW_reg [0,3] fun K hK=>?_
 simp [init_eq,V.cells]
 obtain ⟨G,e1,hp,gn,go⟩:=H.boxed (b.cells pv tv)
 try rw [e1]
 try simp
 apply hK;clear hK K
 have hv1:=hv.same go
 have hb1:=hb.same go
 have la:=hv1.alen (P:=Tryz.prog) qelem_35 G
 have c:∀ n:Nat,(40 < (n:Int)) = (40 < n):=fun n=>propext (by omega)
 refine AW_seq ?_
 refine AW_seq ?_
 refine AW_regto [0,12] ⟨24,[(0,v),(12,.b (decide (40 < l.length) || b.great))]⟩ G (fun K hk=>?_) ?_
 · by_cases h1:40 < l.length
   · simpa [init_eq,la,c,h1] using hk
   · simp [init_eq,la,c,h1,aload,hp,blk_take]
     refine ACalls.mono (greatBlk_ok G hb1) fun r H' ⟨hr,e⟩=>?_
     subst hr e
     simpa [h1] using hk
 refine AW_cond' rfl rfl (fun hc=>?_) (fun hc=>?_)
 · refine AW_seq ?_
   refine AW_reg [4] fun K hK=>?_
   simp [init_eq]
   apply hK;clear hK K
   refine AW_ret (end_ret rfl (pure_end gn go ?_ rfl))
   have hc:(decide (40 < l.length) || b.great) = true:=hc
   simp [farVB,hc]
 · have hg0:(decide (40 < l.length) || b.great) = false:=hc
   have hl40:l.length ≤ 40:=by simp at hg0; omega
   refine AW_skip ?_
   refine AW_seq ?_
   refine AW_seq ?_
   refine AW_reg [0,5] fun K hK=>?_
   simp [init_eq]
   apply hK;clear hK K
   refine AW_block ?_
   refine AW_loop0 (fun i:Nat=>⟨24,[(0,v),(5,.i .i64 i)]⟩) (fun i=>i ≤ l.length ∧ (l.take i).any (fun r=>decide (5000 < r.text.length)) = false) (fun i=>l.length - i) 0 (by simp) (by simp) (by dsimp only; omega) fun hw i ⟨hi,hno⟩=>?_
   refine AW_seq ?_
   refine AW_seq ?_
   refine AW_reg [0,5,16] fun K hK=>?_
   simp [init_eq,la]
   apply hK;clear hK K
   refine AW_cond' rfl rfl (fun hc=>?_) (fun hc=>?_)
   · have hlt:i < l.length:=by simpa using hc
     obtain ⟨ax,q1,q2⟩:=hv1.rec SRec.len (by decide) (P:=Tryz.prog) qelem_35 qsize_52 qagg_52 hlt
     refine AW_skip ?_
     refine AW_seq ?_
     refine AW_block ?_
     refine AW_seq ?_
     refine AW_reg [0,5,23] fun K hK=>?_
     simp [init_eq,q1,q2]
     refine ACalls.mono (sgreat_ok _ l[i]) fun x H' ⟨hr,e⟩=>?_
     subst hr e
     try simp
     apply hK;clear hK K
     refine AW_cond' rfl rfl (fun hc=>?_) (fun hc=>?_)
     · have hg:5000 < l[i].text.length:=by simpa using hc
       refine AW_seq ?_
       refine AW_reg [4] fun K hK=>?_
       simp [init_eq]
       apply hK;clear hK K
       refine AW_ret (end_ret rfl (pure_end gn go ?_ rfl))
       have:l.any (fun r=>decide (5000 < r.text.length)) = true:=List.any_eq_true.2 ⟨l[i],List.getElem_mem hlt,by simpa using hg⟩
       simp [farVB,this]
     · have hg:¬ 5000 < l[i].text.length:=by simpa using hc
       refine AW_skip ?_
       refine AW_reg [0,5] fun K hK=>?_
       simp [init_eq,wrap_id (x:=(i:Int) + 1) (by omega) (by omega)]
       apply hK;clear hK K
       refine rend ⟨i + 1,by simp,⟨by omega,?_⟩,by omega,.inl rfl⟩
       rw [List.take_succ_eq_append_getElem hlt,List.any_append,hno]
       simpa using hg
   · have hi':i = l.length:=by
       have:¬ i < l.length:=by simpa using hc
       omega
     subst hi'
     rw [List.take_length] at hno
     refine AW_exit (then_exit (then_exit (block_here ?_)))
     refine AW_seq ?_
     refine AW_reg [4] fun K hK=>?_
     simp [init_eq]
     apply hK;clear hK K
     refine AW_ret (end_ret rfl (pure_end gn go ?_ rfl))
     have hc:(decide (40 < l.length) || b.great) = false:=hg0
     simp [farVB,hc,hno]
theorem farVB_of {l:List SRec} {b:Blk} (h:farVB l b = false):l.length ≤ 40 ∧ b.great = false ∧ ∀ r ∈ l,r.text.length ≤ 5000:=by
 simp only [farVB,Bool.or_eq_false_iff,decide_eq_false_iff_not,List.any_eq_false,decide_eq_true_eq] at h
 exact ⟨by omega,h.1.2,fun r hr=>by have:=h.2 r hr; omega⟩
end Go.Proofs.YtaidfojbnfkclaaGreatDoor
