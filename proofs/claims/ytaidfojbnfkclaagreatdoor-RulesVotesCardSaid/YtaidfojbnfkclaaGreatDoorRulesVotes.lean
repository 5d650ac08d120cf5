/-
  RulesVotes: the walk and the law.
-/
import Derived.Test.YtaidfojbnfkclaaGreatDoorVotesFar
import Derived.Test.YtaidfojbnfkclaaGreatDoorAgain1
import Derived.Test.YtaidfojbnfkclaaGreatDoorRulesAlive
import Derived.Test.YtaidfojbnfkclaaGreatDoorTxtA
set_option linter.unusedVariables false
set_option linter.unusedSimpArgs false
namespace Go.Proofs.YtaidfojbnfkclaaGreatDoor
open Go Go.Abs Go.Proofs
set_option maxRecDepth 100000
attribute [local irreducible] AEnd AW ACalls
theorem boxSR (X:AH) (z y l m:List V):∃ Y,(((X.new (.cells z 0 false 0)).new (.cells y 0 false 0)).set X.next (.cells l 0 false 0)).set (X.next + 1) (.cells m 0 false 0) = Y ∧ Y.get X.next = some (.cells l 0 false 0) ∧ Y.get (X.next + 1) = some (.cells m 0 false 0) ∧ Y.next = X.next + 2 ∧ ∀ j,j < X.next → Y.get j = X.get j :=
 ⟨_,rfl,by rw [AH.get_set_ne (by omega),AH.get_set_same (by simp; omega)],AH.get_set_same (by simp),by simp,fun j hj=>by rw [AH.get_set_ne (by omega),AH.get_set_ne (by omega),AH.get_new,if_neg (by simp; omega),AH.get_new,if_neg (by omega)]⟩
theorem rulesVotes_walk (H:AH) {v:V} (l:List SRec) (hv:RS H v 22 (l.map SRec.cells)) (me n:Int) {b:Blk} {pv tv:V} (hb:BlkAt H b pv tv) :
  ACalls Tryz.prog 5 [v,.i .i64 me,.i .i64 n,.agg (b.cells pv tv)] H fun x _=>x = .b true:=by
 refine ACalls_body Tryz.func5 rfl rfl ?_
 refine AW_seq ?_
 refine AW_reg [0,1,2,7] fun K hK=>?_
 simp [init_eq,V.cells]
 obtain ⟨G,e1,hp,gn,go⟩:=H.boxed (b.cells pv tv)
 rw [e1]
 apply hK;clear hK K
 have hv1:=hv.same go
 have hb1:=hb.same go
 refine AW_seq ?_
 refine AW_seq ?_
 refine AW_reg [0,1,2,7,16] fun K hK=>?_
 simp [init_eq]
 refine ACalls.mono (alive_ok ..) fun r H' ⟨hr,e⟩=>?_
 subst hr e
 try simp
 apply hK;clear hK K
 refine AW_cond' rfl rfl (fun hc=>?_) (fun hc=>?_)
 · cases hc
 refine AW_skip ?_
 refine AW_seq ?_
 refine AW_seq ?_
 refine AW_reg [0,1,2,7,19] fun K hK=>?_
 simp [init_eq,aload,hp,blk_take]
 refine ACalls.mono (vfar_ok H' l hv1 hb1) fun r H2 ⟨hr,e⟩=>?_
 subst hr e
 try simp
 apply hK;clear hK K
 refine AW_cond' rfl rfl (fun hc=>?_) (fun hc=>?_)
 · refine AW_seq ?_
   refine AW_reg [8] fun K hK=>?_
   simp [init_eq]
   apply hK;clear hK K
   refine AW_ret (end_ret rfl ?_)
   simp
 have hfar:farVB l b = false:=by simpa using hc
 obtain ⟨f1,f2,f3⟩:=farVB_of hfar
 have hsm:b.small:=Blk.small_of f2
 refine AW_skip ?_
 refine AW_seq ?_
 refine AW_reg [1,2,7,9,10] fun K hK=>?_
 simp [init_eq]
 refine ACalls.mono (behind_ok H2 l hv1 f1 f3) fun r X ⟨s,m,fv,hv',pv',bv,pm,bm,hr,rel,ok,sat,op,ob,u⟩=>?_
 subst hr
 simp [V.cells]
 have z0:((X.new (.cells zeroS 0 false 0)).new (.cells zeroR 0 false 0)).get X.next = some (.cells zeroS 0 false 0):=by rw [AH.get_new,if_neg (by simp),AH.get_new_same]
 have z1:(((X.new (.cells zeroS 0 false 0)).new (.cells zeroR 0 false 0)).set X.next (.cells (s.cells fv hv' pv' bv) 0 false 0)).get (X.next + 1) = some (.cells zeroR 0 false 0):=by rw [AH.get_set_ne (by omega),AH.get_new,if_pos (by simp)]
 refine ⟨_,safe_store2 z0 rfl s fv hv' pv' bv,_,rs_store z1 zeroR_len rel.wf pm bm,?_⟩
 obtain ⟨Y,eY,gs,gm,nY,oY⟩:=boxSR X zeroS zeroR (s.cells fv hv' pv' bv) (m.cells pm bm)
 rw [eY]
 have uY:Upd X Y []:=⟨by omega,fun j hj _=>oY j hj⟩
 apply hK;clear hK K
 have satY:SAt Y s fv hv' pv' bv:=sat.upd uY
 have opY:OXR Y [] pm 1 (m.past.map setC).flatten:=op.step uY (by simp) (fun j h=>.inl h)
 have obY:OXR Y [] bm 1 (m.blocks.map strC).flatten:=ob.step uY (by simp) (fun j h=>.inl h)
 have u2:Upd H2 Y []:=u.trans uY (by simp)
 have hpY:Y.get H.next = some (.cells (b.cells pv tv) 0 false 0):=u2.keep (by simp) hp
 have hbY:BlkAt Y b pv tv:=hb1.same fun j hj=>u2.2 j hj (by simp)
 have lb:aload Tryz.prog Y 28 (.p (some (H.next,0,0))) = some (.agg (b.cells pv tv)):=by simp [aload,hpY,blk_take]
 have ls:aload Tryz.prog Y 42 (.p (some (X.next,0,0))) = some (.agg (s.cells fv hv' pv' bv)):=by simp [aload,gs,SSt.take]
 have lm:aload Tryz.prog Y 45 (.p (some (X.next + 1,0,0))) = some (.agg (m.cells pm bm)):=by simp [aload,gm,RSt.take rel.wf,RSt.len rel.wf]
 refine AW_seq ?_
 refine AW_reg [1,2,7,9,10,11,12] fun K hK=>?_
 simp [init_eq,lb,ls]
 refine ACalls.mono (vote_ok Y satY ok (by omega) hbY hsm.fits me n) fun r H' ⟨hr,e⟩=>?_
 subst hr e
 simp [V.cells]
 refine ⟨_,vrec_store (AH.get_new_same ..) rfl (voteD (fun r=>(s.doR r).2) me n b).1,?_⟩
 obtain ⟨Z,eZ,gr,nZ,oZ⟩:=boxS H' SRec.zero.cells (voteD (fun r=>(s.doR r).2) me n b).1.cells
 change K _ ((H'.new (.cells SRec.zero.cells 0 false 0)).set H'.next (.cells (voteD (fun r=>(s.doR r).2) me n b).1.cells 0 false 0))
 rw [eZ]
 have uZ:Upd H' Z []:=⟨by omega,fun j hj _=>oZ j hj⟩
 apply hK;clear hK K
 have lbZ:aload Tryz.prog Z 28 (.p (some (H.next,0,0))) = some (.agg (b.cells pv tv)):=by simp [aload,uZ.keep (by simp) hpY,blk_take]
 have lmZ:aload Tryz.prog Z 45 (.p (some (X.next + 1,0,0))) = some (.agg (m.cells pm bm)):=by simp [aload,uZ.keep (by simp) gm,RSt.take rel.wf,RSt.len rel.wf]
 have opZ:OXR Z [] pm 1 (m.past.map setC).flatten:=opY.step uZ (by simp) (fun j h=>.inl h)
 have obZ:OXR Z [] bm 1 (m.blocks.map strC).flatten:=obY.step uZ (by simp) (fun j h=>.inl h)
 have hv0:-4611686018427387904 ≤ m.view ∧ m.view ≤ 4611686018427387904:=by have:=ok.v1; have:=ok.vl; have:=ok.lm; have:=rel.view; omega
 have hpl:m.past.length ≤ 10000000:=by have:=ok.pl; have:=ok.vl; have:=ok.lm; have:=congrArg List.length rel.past; omega
 have hbl:m.blocks.length ≤ 10000000:=by have:=ok.bl; have:=congrArg List.length rel.blocks; omega
 have hbZ:BlkAt Z b pv tv:=hbY.same fun j hj=>oZ j hj
 refine AW_seq ?_
 refine AW_reg [1,2,7,9,10,11,12,13,14] fun K hK=>?_
 simp [init_eq,lbZ,lmZ]
 refine ACalls.mono (rvote21_ok Z rel.wf opZ obZ hv0 hpl hbl hbZ hsm me n) fun r H3 ⟨hr,e⟩=>?_
 have hD:(fun r=>(m.doR r).2) = (fun r=>(s.doR r).2):=funext fun r=>rel.err2.symm
 rw [hD] at hr
 subst hr e
 simp [V.cells]
 refine ⟨_,rvrec_store (AH.get_new_same ..) rfl (voteD (fun r=>(s.doR r).2) me n b).1,?_⟩
 obtain ⟨W,eW,gq,nW,oW⟩:=boxS H3 SRec.zero.cells (voteD (fun r=>(s.doR r).2) me n b).1.cells
 change K _ ((H3.new (.cells SRec.zero.cells 0 false 0)).set H3.next (.cells (voteD (fun r=>(s.doR r).2) me n b).1.cells 0 false 0))
 rw [eW]
 have uW:Upd H3 W []:=⟨by omega,fun j hj _=>oW j hj⟩
 apply hK;clear hK K
 generalize hd:voteD (fun r=>(s.doR r).2) me n b = d at *
 have uYW:Upd H' W []:=uZ.trans uW (by simp)
 have lbW:aload Tryz.prog W 28 (.p (some (H.next,0,0))) = some (.agg (b.cells pv tv)):=by simp [aload,uYW.keep (by simp) hpY,blk_take]
 have lsW:aload Tryz.prog W 42 (.p (some (X.next,0,0))) = some (.agg (s.cells fv hv' pv' bv)):=by simp [aload,uYW.keep (by simp) gs,SSt.take]
 have lmW:aload Tryz.prog W 45 (.p (some (X.next + 1,0,0))) = some (.agg (m.cells pm bm)):=by simp [aload,uYW.keep (by simp) gm,RSt.take rel.wf,RSt.len rel.wf]
 have lrW:aload Tryz.prog W 49 (.p (some (H'.next,0,0))) = some (.agg d.1.cells):=by simp [aload,uW.keep (by simp) gr]; rfl
 have lqW:aload Tryz.prog W 52 (.p (some (H3.next,0,0))) = some (.agg d.1.cells):=by simp [aload,gq]; rfl
 have satW:SAt W s fv hv' pv' bv:=satY.upd uYW
 refine AW_seq ?_
 refine AW_regd [8] pl_5_8 pe_5_8 (by kernel_rfl) (by kernel_rfl) (by decide) fun K hK=>?_
 simp [init_eq,pl_5_8,lbW,lsW,lmW,lrW,lqW,SRec.aeqR]
 refine ACalls.mono (again_ok W b pv tv satW ok (by omega) n) fun r M1 ⟨hr,e⟩=>?_
 subst hr e
 simp [lbW,lsW,lmW]
 refine ACalls.mono (ragain_ok M1 b pm bm pv tv rel.wf n) fun r M2 ⟨hr,e⟩=>?_
 rw [← rel.again ok n b] at hr
 subst hr e
 simp [lbW,lsW,lmW]
 refine ACalls.mono (cast_ok M2 me n b pv tv) fun r M3 ⟨hr,e⟩=>?_
 subst hr e
 simp [lbW]
 refine ACalls.mono (rcast_ok M3 me n b pv tv) fun r M4 ⟨hr,e⟩=>?_
 subst hr e
 simp
 apply hK;clear hK K
 refine AW_ret (end_ret rfl ?_)
 simp
theorem rulesVotes_law (H:AH) (vs:List V) (hv:TVals Tryz.prog H Tryz.f5.params.toList vs):ACalls Tryz.prog 5 vs H fun r _=>r = .b true:=by
 have hv':TVals Tryz.prog H [35,3,3,28] vs:=hv
 clear hv
 rcases vs with _ | ⟨a,_ | ⟨b,_ | ⟨c,_ | ⟨d,_ | ⟨e,r⟩⟩⟩⟩⟩
 · exact hv'.elim
 · exact hv'.2.elim
 · exact hv'.2.2.elim
 · exact hv'.2.2.2.elim
 · obtain ⟨ls,h1,h2,h3⟩:=hv'.1.rs Tryz.underlying35 cellsOf_52
   obtain ⟨l,rfl⟩:∃ l:List SRec,ls = l.map SRec.cells:=by
    clear h1 h3
    induction ls with
    | nil=>exact ⟨[],rfl⟩
    | cons x xs ih =>
      obtain ⟨r,rfl⟩:=tv_srec (h2 x (by simp))
      obtain ⟨l,rfl⟩:=ih fun y hy=>h2 y (by simp [hy])
      exact ⟨r :: l,rfl⟩
   obtain ⟨me,rfl,_⟩:=hv'.2.1.i Tryz.underlying3
   obtain ⟨n,rfl,_⟩:=hv'.2.2.1.i Tryz.underlying3
   obtain ⟨q,rfl,_,h⟩:=hv'.2.2.2.1.struct Tryz.underlying28 cellsOf_28
   obtain ⟨y,pb,tb,rfl,hb⟩:=tv_blk h
   exact rulesVotes_walk H l h1 me n hb
 · exact hv'.2.2.2.2.elim
end Go.Proofs.YtaidfojbnfkclaaGreatDoor
