/-
  ValidBlocks: the law says true.
-/
import Derived.Test.YtmhaimdpfelkpaaGreatDoorTxtI
import Derived.Test.YtmhaimdpfelkpaaGreatDoorTxtG
import Derived.Test.YtmhaimdpfelkpaaGreatDoorTxtA
import Derived.Test.YtmhaimdpfelkpaaGreatDoorValidAlive
set_option linter.unusedVariables false
set_option linter.unusedSimpArgs false
namespace Go.Proofs.YtmhaimdpfelkpaaGreatDoor
open Go Go.Abs Go.Proofs
set_option maxRecDepth 100000
attribute [local irreducible] AEnd AW ACalls
set_option maxHeartbeats 4000000 in
theorem validblocks_law (H:AH) {i:InD} {li:List V} (hi:InAt H i li) {b:Blk} {pv tv:V} (hb:BlkAt H b pv tv):ACalls Tryz.prog 3 [.agg li,.agg (b.cells pv tv)] H fun r H'=>r = .b true:=by
 refine ACalls_body Tryz.func3 rfl rfl ?_
 repeat refine AW_seq ?_
 refine AW_reg [2,3] fun K hK=>?_
 simp [init_eq,V.cells]
 obtain ⟨H1,e1,hp1,hp2,hn,ho⟩:=H.boxed2 li (b.cells pv tv)
 rw [e1]
 apply hK;clear hK K
 have hi1:=hi.same ho
 have hb1:=hb.same ho
 have hl6:li.length = 6:=by obtain ⟨vb,vc,vs,vk,e,_⟩:=hi.ex; rw [e]; rfl
 have hlt6:li.take 6 = li:=List.take_of_length_le (by omega)
 have lb:∀ G:AH,G.get (H.next + 1) = some (.cells (b.cells pv tv) 0 false 0) → aload Tryz.prog G 33 (.p (some (H.next + 1,0,0))) = some (.agg (b.cells pv tv)):=fun G h=>by simp [aload,h,blk_take]
 clear e1
 generalize ha:H.next = a at *
 repeat refine AW_seq ?_
 refine AW_reg [2,3,13] fun K hK=>?_
 simp [init_eq]
 refine ACalls.mono (alive_ok ..) fun r H' ⟨hr,e⟩=>?_
 subst hr e
 try simp
 apply hK;clear hK K
 refine AW_condF rfl ?_
 refine AW_skip ?_
 repeat refine AW_seq ?_
 refine AW_regto [2,3,19] ⟨68,[(2,.p (some (a,0,0))),(3,.p (some (a + 1,0,0))),(19,.b (farB i || b.great))]⟩ H' (fun K hk=>?_) ?_
 · simp [init_eq,aload,hp1,hl6,hlt6]
   refine ACalls.mono (far_ok H' hi1) fun r H2 ⟨hr,e⟩=>?_
   subst hr e
   cases g1:farB i
   · simp [g1,aload,hp2,blk_take]
     refine ACalls.mono (greatBlk_ok H2 hb1) fun r H3 ⟨hr,e⟩=>?_
     subst hr e
     simpa [g1] using hk
   · simpa [g1] using hk
 refine AW_cond' rfl rfl (fun hc=>?_) (fun hc=>?_)
 · repeat refine AW_seq ?_
   refine AW_reg [4] fun K hK=>?_
   simp [init_eq]
   apply hK;clear hK K
   exact AW_ret (end_ret rfl rfl)
 have hfar:farB i = false:=by simp at hc; exact hc.1
 have hgr:b.great = false:=by simp at hc; exact hc.2
 have hsm:=Blk.small_of hgr
 have hpl:b.proof.length ≤ 40:=by
  unfold Blk.great at hgr
  simp only [Bool.or_eq_false_iff,decide_eq_false_iff_not] at hgr
  omega
 clear hc
 refine AW_skip ?_
 repeat refine AW_seq ?_
 refine AW_reg [3,5,6,7] fun K hK=>?_
 simp [init_eq,aload,hp1,hl6,hlt6]
 refine ACalls.mono (laws_ok H' hi1 hfar) fun r H2 hr=>?_
 rcases hr with ⟨rfl,u2⟩ | ⟨ib,is,ic,jb,js,jc,FB,FS,FC,GB,GS,GC,rfl,L⟩
 · simp [V.cells,astore,AH.get_new,AH.get_set]
   apply hK;clear hK K
   repeat refine AW_seq ?_
   refine AW_reg [3,5,6,27] fun K hK=>?_
   simp [init_eq]
   apply hK;clear hK K
   refine AW_condT rfl ?_
   repeat refine AW_seq ?_
   refine AW_reg [4] fun K hK=>?_
   simp [init_eq]
   apply hK;clear hK K
   exact AW_ret (end_ret rfl rfl)
 simp [V.cells,astore,AH.get_new,AH.get_set]
 apply hK;clear hK K
 generalize hG:AH.set _ (H2.next + 1) _ = G
 have x1:G.get H2.next = some (.cells (lawV ib is ic) 0 false 0):=by
  rw [← hG,AH.get_set_ne (by omega),AH.get_set_same (by simp; omega)]; rfl
 have x2:G.get (H2.next + 1) = some (.cells (lawV jb js jc) 0 false 0):=by
  rw [← hG,AH.get_set_same (by simp)]; rfl
 have ko:∀ j,j < H2.next → G.get j = H2.get j:=fun j hj=>by rw [← hG]; simp [AH.get_set,AH.get_new,show j ≠ H2.next by omega,show j ≠ H2.next + 1 by omega]
 have kn:G.next = H2.next + 2:=by rw [← hG]; simp
 clear hG
 have u3:Upd H2 G []:=⟨by omega,fun j hj _=>ko j hj⟩
 have u4:=L.upd.trans u3 (by simp)
 have k0:=L.both hfar u3 kn
 have hnB:H'.next = a + 2:=hn
 have g3:G.get (a + 1) = some (.cells (b.cells pv tv) 0 false 0):=u4.keep (by simp) hp2
 have hbG:∀ G':AH,(∀ j,j < H'.next → G'.get j = G.get j) → BlkAt G' b pv tv:=fun G' hG=>hb1.same fun j hj=>by rw [hG j hj,u4.2 j hj (by simp)]
 have hvlt:=rs_lt hb1.pf
 generalize regOf i = d at *
 generalize hy:H2.next = y at *
 have hin:∀ G':AH,(∀ j,(j < H'.next ∨ j = y ∨ j = y + 1) → G'.get j = G.get j) → aload Tryz.prog G' 41 (.p (some (y,0,0))) = some (.agg (lawV ib is ic)) ∧ aload Tryz.prog G' 46 (.p (some (y + 1,0,0))) = some (.agg (lawV jb js jc)) ∧ aload Tryz.prog G' 33 (.p (some (a + 1,0,0))) = some (.agg (b.cells pv tv)) ∧ BlkAt G' b pv tv:=fun G' hG=>by
  refine ⟨?_,?_,lb G' (by rw [hG _ (.inl (by omega))]; exact g3),hbG G' fun j hj=>hG j (.inl hj)⟩
  · simp [aload,hG y (.inr (.inl rfl)),x1]
  · simp [aload,hG (y + 1) (.inr (.inr rfl)),x2]
 obtain ⟨a1,a2,a3,a4⟩:=hin G (fun _ _=>rfl)
 repeat refine AW_seq ?_
 refine AW_reg [3,5,6,27] fun K hK=>?_
 simp [init_eq]
 apply hK;clear hK K
 refine AW_condF rfl ?_
 refine AW_skip ?_
 repeat refine AW_seq ?_
 refine AW_reg [3,5,6,8,9] fun K hK=>?_
 simp [init_eq,a1,a3]
 refine ACalls.mono (number_ok G k0.law a4 hsm) fun r G1 ⟨hr,e⟩=>?_
 subst hr e
 try simp
 apply hK;clear hK K
 repeat refine AW_seq ?_
 refine AW_reg [3,5,6,8,9,10,11] fun K hK=>?_
 simp [init_eq,a2,a3]
 refine ACalls.mono (rnumber_ok G1 k0.rlaw a4 hsm) fun r G2 ⟨hr,e⟩=>?_
 subst hr e
 try simp
 apply hK;clear hK K
 repeat refine AW_seq ?_
 refine AW_reg [3,5,6,47] fun K hK=>?_
 simp [init_eq]
 apply hK;clear hK K
 refine AW_condF rfl ?_
 refine AW_skip ?_
 repeat refine AW_seq ?_
 refine AW_reg [3,6,8,9] fun K hK=>?_
 simp [init_eq,a1,a3]
 refine ACalls.mono (block_ok G2 k0.law a4 hsm (k0.outF hvlt) (by omega)) fun r G3 ⟨hr,h1,h2⟩=>?_
 subst hr
 have k1:=k0.prog h1 h2
 obtain ⟨b1,b2,b3,b4⟩:=hin G3 k1.same
 try simp
 apply hK;clear hK K
 repeat refine AW_seq ?_
 refine AW_reg [8,9,10,11] fun K hK=>?_
 simp [init_eq,b2,b3]
 refine ACalls.mono (rblock_ok G3 k1.rlaw b4 hsm (k1.outG hvlt) (by omega) (by omega)) fun r G4 ⟨hr,_⟩=>?_
 subst hr
 try simp
 apply hK;clear hK K
 repeat refine AW_seq ?_
 refine AW_reg [4] fun K hK=>?_
 simp [init_eq]
 apply hK;clear hK K
 exact AW_ret (end_ret rfl rfl)
theorem validBlocks_law (H:AH) (vs:List V) (hv:TVals Tryz.prog H Tryz.f3.params.toList vs):ACalls Tryz.prog 3 vs H fun r _=>r = .b true:=by
 have hv':TVals Tryz.prog H [27,33] vs:=hv
 clear hv
 rcases vs with _ | ⟨a,_ | ⟨b,_ | ⟨z,r⟩⟩⟩
 · exact hv'.elim
 · exact hv'.2.elim
 · obtain ⟨l,rfl,_,h⟩:=hv'.1.struct Tryz.underlying27 cellsOf_27
   obtain ⟨i,hi⟩:=tv_in h
   obtain ⟨l,rfl,_,h⟩:=hv'.2.1.struct Tryz.underlying33 cellsOf_33
   obtain ⟨b,pv,tv,rfl,hb⟩:=tv_blk h
   exact validblocks_law H hi hb
 · exact hv'.2.2.elim
end Go.Proofs.YtmhaimdpfelkpaaGreatDoor
