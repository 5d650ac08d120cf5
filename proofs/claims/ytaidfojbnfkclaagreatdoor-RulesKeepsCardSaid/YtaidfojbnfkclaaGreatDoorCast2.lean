import Derived.Test.YtaidfojbnfkclaaGreatDoorCast1
set_option linter.unusedVariables false
set_option linter.unusedSimpArgs false
namespace Go.Proofs.YtaidfojbnfkclaaGreatDoor
open Go Go.Abs Go.Proofs
set_option maxRecDepth 100000
attribute [local irreducible] AEnd AW ACalls
def castSet (me:Int):BitVec 32:=if 0 ≤ me ∧ me < 32 then 1#32 <<< me.toNat else 0#32
def castC (me n:Int) (b:Blk):Cert:=if b.height = 0 then ⟨1,n,b.view,b.round,0,0,castSet me,0#32⟩ else ⟨2,n,b.view,b.round,b.height,b.author,castSet me,0#32⟩
theorem cast_build (n v w:Int) (x:BitVec 32):abuild Tryz.prog 24 [(0,.i .i64 1),(1,.i .i64 n),(2,.i .i64 v),(3,.i .i64 w),(6,u32 x)] = some (.agg (⟨1,n,v,w,0,0,x,0#32⟩:Cert).cells):=by
 simp [abuild,afill,u32_cells,V.cells]
 repeat (refine ⟨by simp [splice],?_⟩)
 rfl
theorem cast_ok (H:AH) (me n:Int) (b:Blk) (pv tv:V):ACalls Tryz.prog 17 [.i .i64 me,.i .i64 n,.agg (b.cells pv tv)] H fun r H'=>r = .agg (castC me n b).cells ∧ H' = H:=by
 refine ACalls.pure (Q:=fun r=>r = .agg (castC me n b).cells) ⟨_,Tryz.func17,rfl,rfl⟩ ?_
 refine ACalls_body Tryz.func17 rfl rfl ?_
 refine AW_seq ?_
 refine AW_reg [0,1,5,6] fun K hK=>?_
 simp [init_eq,V.cells]
 obtain ⟨H1,e1,g1,g2,n1,o1⟩:=H.boxed2 (b.cells pv tv) Cert.zero.cells
 rw [e1]
 have u1:Upd H H1 []:=⟨by omega,fun j hj _=>o1 j hj⟩
 apply hK;clear hK K
 refine AW_seq ?_
 refine AW_reg [1,5,6,7] fun K hK=>?_
 simp [init_eq]
 refine ACalls.mono (put_ok H1 0#32 me) fun v H' ⟨hr,e⟩=>?_
 rw [e]
 obtain ⟨er,hv⟩:∃ er,v = .tup [u32 (castSet me),.i .i64 er]:=by
  rw [hr]; unfold castSet
  split
  · exact ⟨0,by simp⟩
  · exact ⟨40,rfl⟩
 subst hv
 try simp
 apply hK;clear hK K
 refine AW_seq ?_
 refine AW_reg [5,6,9] fun K hK=>?_
 simp [init_eq,aload,afieldAddr,g1,cast_build,V.cells]
 refine ⟨_,cert_store (AH.get_new_same ..) rfl _,?_⟩
 obtain ⟨H2,e2,g3,n2,o2⟩:=boxS H1 Cert.zero.cells (⟨1,n,b.view,b.round,0,0,castSet me,0#32⟩:Cert).cells
 rw [e2]
 have u2:Upd H1 H2 []:=⟨by omega,fun j hj _=>o2 j hj⟩
 have b2:=u2.keep (by simp) g1
 have z2:=u2.keep (by simp) g2
 apply hK;clear hK K
 refine AW_cut (fun ρ' X=>ρ' = ⟨33,[(6,.p (some (H.next + 1,0,0))),(9,.p (some (H1.next,0,0)))]⟩ ∧ X.get H1.next = some (.cells (castC me n b).cells 0 false 0) ∧ X.get (H.next + 1) = some (.cells Cert.zero.cells 0 false 0) ∧ Upd H X []) ?_ ?_
 · refine AW_seq ?_
   refine AW_reg [5,6,9,24] fun K hK=>?_
   simp [init_eq,aload,afieldAddr,b2]
   apply hK;clear hK K
   refine AW_cond' rfl rfl (fun hx=>?_) (fun hx=>?_)
   · have hh:b.height ≠ 0:=by simpa using hx
     have hC:castC me n b = ⟨2,n,b.view,b.round,b.height,b.author,castSet me,0#32⟩:=by unfold castC; rw [if_neg hh]
     obtain ⟨W1,a1,q1,w1⟩:=stF (P:=Tryz.prog) (t:=3) (o:=0) (x:=.i .i64 2) g3 rfl qsize_3 (by simp)
     obtain ⟨W2,a2,q2,w2⟩:=stF (P:=Tryz.prog) (t:=3) (o:=4) (x:=.i .i64 b.height) q1 rfl qsize_3 (by simp [splice])
     obtain ⟨W3,a3,q3,w3⟩:=stF (P:=Tryz.prog) (t:=3) (o:=5) (x:=.i .i64 b.author) q2 rfl qsize_3 (by simp [splice])
     have k1:W1.get H.next = H2.get H.next:=w1.2 _ (AH.get_lt b2) (by simp; omega)
     have k2:W2.get H.next = W1.get H.next:=w2.2 _ (by have:=AH.get_lt b2; have:=w1.1; omega) (by simp; omega)
     have n1':=w1.1
     have n2':=w2.1
     have ww:Upd H2 W3 [H1.next]:=(w1.trans w2 (fun j hj=>.inl hj)).trans w3 (fun j hj=>.inl hj)
     have hlt:H.next < H2.next:=AH.get_lt b2
     refine AW_regm (.only [H.next]) [6,9] pl_17_4 pe_17_4 (by kernel_rfl) (by kernel_rfl) (by decide) fun K hK=>?_
     simp [init_eq,pl_17_4,APlan_takem,through,tkOk,Go.Abs.rid,aload,afieldAddr,b2,a1,a2,a3,k1,k2,n1',n2']
     refine hK _ _ (rend ⟨_,by simp,rfl,?_,ww.keep (by simp; omega) z2,(u1.trans u2 (by simp)).trans ww (fun j hj=>.inr (by simp at hj; omega))⟩)
     rw [q3,hC]; rfl
   · have hh:b.height = 0:=by simpa using hx
     have hC:castC me n b = ⟨1,n,b.view,b.round,0,0,castSet me,0#32⟩:=by unfold castC; rw [if_pos hh]
     refine AW_skip (rend ⟨_,by simp,rfl,?_,z2,u1.trans u2 (by simp)⟩)
     rw [g3,hC]
 · rintro ρ' X ⟨rfl,x1,x2,uX⟩
   refine AW_seq ?_
   refine AW_reg [6] fun K hK=>?_
   simp [init_eq,aload,x1,take_cells,cert_store x2 rfl]
   apply hK;clear hK K
   exact AW_ret (end_ret (ares_cell (v:=.agg (castC me n b).cells) (by simp [aload,AH.get_set_same (AH.get_lt x2),take_cells])) ⟨rfl,rfl,by have:=uX.1; simp; omega,fun j hj=>by rw [AH.get_set_ne (by omega)]; exact uX.2 j hj (by simp)⟩)
end Go.Proofs.YtaidfojbnfkclaaGreatDoor
