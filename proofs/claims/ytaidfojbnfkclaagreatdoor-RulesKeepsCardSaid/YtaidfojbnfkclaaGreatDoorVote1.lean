import Derived.Test.YtaidfojbnfkclaaGreatDoorCast3
import Derived.Test.YtaidfojbnfkclaaGreatDoorTxtB
set_option linter.unusedVariables false
set_option linter.unusedSimpArgs false
namespace Go.Proofs.YtaidfojbnfkclaaGreatDoor
open Go Go.Abs Go.Proofs
set_option maxRecDepth 100000
attribute [local irreducible] AEnd AW ACalls
def voteRec (me n:Int) (b:Blk):SRec:={ SRec.zero with kind:=(if b.height = 0 then 1 else 4),cert:=castC me n b,parent:=b.parent }
def voteD (err:SRec → Int) (me n:Int) (b:Blk):SRec × Int :=
 if me < 0 ∨ 10 ≤ me then (SRec.zero,1) else if b.err ≠ 0 then (SRec.zero,b.err) else if err (voteRec me n b) ≠ 0 then (SRec.zero,err (voteRec me n b)) else (voteRec me n b,0)
theorem vrec_store {M:AH} {q:Nat} {l:List V} (hq:M.get q = some (.cells l 0 false 0)) (hl:l.length = 22) (r:SRec):astore Tryz.prog M 49 (.p (some (q,0,0))) (.agg r.cells) = some (M.set q (.cells r.cells 0 false 0)):=by
 simp [astore,V.cells,hq,show splice l 0 r.cells = r.cells from splice_all (by rw [hl]; rfl),hl]
theorem bzRec:abuild Tryz.prog 49 [] = some (.agg SRec.zero.cells):=by first | (simp [abuild,afill]; done) | (simp [abuild,afill]; rfl)
theorem vote_build (c p:Cert):abuild Tryz.prog 49 [(0,.i .i64 1),(1,.agg c.cells),(2,.agg p.cells)] = some (.agg ({ SRec.zero with kind:=1,cert:=c,parent:=p }:SRec).cells):=by
 simp [abuild,afill,V.cells]
 repeat (refine ⟨by simp [splice],?_⟩)
 first | done | rfl
set_option maxHeartbeats 2000000 in
theorem vote_ok (H:AH) {s:SSt} {fv hv pv bv:V} {k:Nat} {b:Blk} {pb tb:V} (ha:SAt H s fv hv pv bv) (ok:s.Ok k) (hk:k ≤ 1000000) (hb:BlkAt H b pb tb) (hs:b.fits) (me n:Int) :
  ACalls Tryz.prog 13 [.agg (s.cells fv hv pv bv),.i .i64 me,.i .i64 n,.agg (b.cells pb tb)] H fun v H'=>v = .tup [.agg (voteD (fun r=>(s.doR r).2) me n b).1.cells,.i .i64 (voteD (fun r=>(s.doR r).2) me n b).2] ∧ H' = H:=by
 refine ACalls.pure (Q:=fun v=>v = .tup [.agg (voteD (fun r=>(s.doR r).2) me n b).1.cells,.i .i64 (voteD (fun r=>(s.doR r).2) me n b).2]) ⟨_,Tryz.func13,rfl,rfl⟩ ?_
 refine ACalls_body Tryz.func13 rfl rfl ?_
 refine AW_seq ?_
 refine AW_reg [1,2,4,7,8] fun K hK=>?_
 simp [init_eq,V.cells]
 obtain ⟨H1,e1,g1,g2,g3,n1,o1⟩:=H.boxed3 (s.cells fv hv pv bv) (b.cells pb tb) SRec.zero.cells
 change K _ (((H.new (.cells (s.cells fv hv pv bv) 0 false 0)).new (.cells (b.cells pb tb) 0 false 0)).new (.cells SRec.zero.cells 0 false 0))
 rw [e1,show H.next + 1 + 1 = H.next + 2 from rfl]
 have u1:Upd H H1 []:=⟨by omega,fun j hj _=>o1 j hj⟩
 have hend:∀ (X:AH) (x:SRec) (e:Int) (ρ:Env),X.get (H.next + 2) = some (.cells SRec.zero.cells 0 false 0) → Upd H X [] → voteD (fun r=>(s.doR r).2) me n b = (x,e) → ρ.get 8 = .p (some (H.next + 2,0,0)) → ρ.get 9 = .i .i64 e →
   AEnd Tryz.prog Tryz.f13 (fun v H'=>(v = .tup [.agg (voteD (fun r=>(s.doR r).2) me n b).1.cells,.i .i64 (voteD (fun r=>(s.doR r).2) me n b).2]) ∧ V.lt H.next v = true ∧ H.next ≤ H'.next ∧ ∀ j,j < H.next → H'.get j = H.get j) .ret ρ (X.set (H.next + 2) (.cells x.cells 0 false 0)):=by
  intro X x e ρ g u hd h8 h9
  rw [hd]
  refine end_ret (r:=.tup [.agg x.cells,.i .i64 e]) ?_ ⟨rfl,rfl,by have:=u.1; simp; omega,fun j hj=>by rw [AH.get_set_ne (by omega)]; exact u.2 j hj (by simp)⟩
  have h6:aload Tryz.prog (X.set (H.next + 2) (.cells x.cells 0 false 0)) 49 (ρ.get 8) = some (.agg x.cells):=by
   rw [h8]; simp [aload,AH.get_set_same (AH.get_lt g),SRec.take]
  have:=ares_cell_tmp (P:=Tryz.prog) (u:=9) h6
  rw [h9] at this
  exact this
 apply hK;clear hK K
 refine AW_seq ?_
 refine AW_cutto ⟨49,[(1,.i .i64 me),(2,.i .i64 n),(4,.p (some (H.next,0,0))),(7,.p (some (H.next + 1,0,0))),(8,.p (some (H.next + 2,0,0))),(19,.b (decide (me < 0 ∨ 10 ≤ me)))]⟩ H1 ?_ ?_
 · refine AW_regto [1,2,4,7,8,19] ⟨49,[(1,.i .i64 me),(2,.i .i64 n),(4,.p (some (H.next,0,0))),(7,.p (some (H.next + 1,0,0))),(8,.p (some (H.next + 2,0,0))),(19,.b (decide (me < 0 ∨ 10 ≤ me)))]⟩ H1 (fun K hk=>?_) (rend ⟨rfl,rfl⟩)
   by_cases h1:me < 0
   · simpa [init_eq,h1] using hk
   · simpa [init_eq,h1] using hk
 refine AW_cond' rfl rfl (fun hc=>?_) (fun hc=>?_)
 · have hm:me < 0 ∨ 10 ≤ me:=by simpa using hc
   refine AW_seq ?_
   refine AW_reg [8,9] fun K hK=>?_
   simp [init_eq,bzRec,vrec_store g3 rfl]
   apply hK;clear hK K
   exact AW_ret (hend H1 SRec.zero 1 _ g3 u1 (by unfold voteD; rw [if_pos hm]) rfl rfl)
 have hm:¬ (me < 0 ∨ 10 ≤ me):=by simpa using hc
 refine AW_skip ?_
 refine AW_seq ?_
 refine AW_seq ?_
 refine AW_reg [1,2,4,7,8,10] fun K hK=>?_
 simp [init_eq,aload,g2,blk_take]
 have hb1:BlkAt H1 b pb tb:=⟨hb.pf.upd u1,hb.tx.upd u1⟩
 refine ACalls.mono (bcheck_ok H1 hb1 hs) fun v H' ⟨hr,e⟩=>?_
 subst hr
 rw [e]
 try simp
 apply hK;clear hK K
 refine AW_seq ?_
 refine AW_reg [1,2,4,7,8,10,24] fun K hK=>?_
 simp [init_eq]
 apply hK;clear hK K
 refine AW_cond' rfl rfl (fun hx=>?_) (fun hx=>?_)
 · have he:b.err ≠ 0:=by simpa using hx
   refine AW_seq ?_
   refine AW_reg [8,9] fun K hK=>?_
   simp [init_eq,bzRec,vrec_store g3 rfl]
   apply hK;clear hK K
   exact AW_ret (hend H1 SRec.zero b.err _ g3 u1 (by unfold voteD; rw [if_neg hm,if_pos he]) rfl rfl)
 have he:b.err = 0:=by simpa using hx
 refine AW_skip ?_
 have hdv:voteD (fun r=>(s.doR r).2) me n b = if (s.doR (voteRec me n b)).2 ≠ 0 then (SRec.zero,(s.doR (voteRec me n b)).2) else (voteRec me n b,0):=by unfold voteD; rw [if_neg hm,if_neg (by simp [he])]
 refine AW_cut (fun ρ' X=>∃ q,ρ' = ⟨49,[(4,.p (some (H.next,0,0))),(7,.p (some (H.next + 1,0,0))),(8,.p (some (H.next + 2,0,0))),(11,.p (some (q,0,0)))]⟩ ∧ X.get q = some (.cells ({ SRec.zero with kind:=1,cert:=castC me n b,parent:=b.parent }:SRec).cells 0 false 0) ∧ Upd H1 X [] ∧ H1.next ≤ q) ?_ ?_
 · refine AW_regd [4,7,8,11] pl_13_6 pe_13_6 (by kernel_rfl) (by kernel_rfl) (by decide) fun K hK=>?_
   have lb:∀ M:AH,Upd H1 M [] → aload Tryz.prog M 28 (.p (some (H.next + 1,0,0))) = some (.agg (b.cells pb tb)):=fun M u=>by simp [aload,u.keep (by simp) g2,blk_take]
   have lp:∀ M:AH,Upd H1 M [] → aload Tryz.prog M 24 (.p (some (H.next + 1,0,4))) = some (.agg b.parent.cells):=fun M u=>by simp [aload,u.keep (by simp) g2,Blk.parent_cells]
   have uZ:Upd H1 (H1.new (.cells SRec.zero.cells 0 false 0)) []:=Upd.new ..
   simp [init_eq,pl_13_6,afieldAddr,lb H1 (Upd.refl ..),lp H1 (Upd.refl ..),V.cells]
   have fin:∀ (M:AH) (q:Nat),M.get q = some (.cells SRec.zero.cells 0 false 0) → Upd H1 M [] → H1.next ≤ q → ∃ M2,astore Tryz.prog M 49 (.p (some (q,0,0))) (.agg ({ SRec.zero with kind:=1,cert:=castC me n b,parent:=b.parent }:SRec).cells) = some M2 ∧ K ⟨49,[(4,.p (some (H.next,0,0))),(7,.p (some (H.next + 1,0,0))),(8,.p (some (H.next + 2,0,0))),(11,.p (some (q,0,0)))]⟩ M2:=fun M q hq u hn =>
    ⟨_,vrec_store hq rfl _,hK _ _ (rend ⟨_,by simp,q,rfl,AH.get_set_same (AH.get_lt hq),u.trans (Upd.set M q _ (F:=[q]) (by simp)) (fun j hj=>.inr (by simp at hj; omega)),hn⟩)⟩
   refine ⟨?_,?_⟩
   · refine ACalls.mono (cast_ok H1 me n b pb tb) fun v M ⟨hr,e⟩=>?_
     subst hr
     rw [e]
     exact ⟨AH.ext.refl _,_,vote_build ..,fin _ _ (AH.get_new_same ..) uZ (Nat.le_refl _)⟩
   · refine ACalls.mono (cast_ok (H1.new (.cells SRec.zero.cells 0 false 0)) me n b pb tb) fun v M ⟨hr,e⟩=>?_
     subst hr
     rw [e]
     exact ⟨AH.ext.refl _,_,vote_build ..,fin _ _ (AH.get_new_same ..) uZ (Nat.le_refl _)⟩
 · rintro ρ' X ⟨q,rfl,gq,uX,hq⟩
   have x2:=uX.keep (by simp) g2
   refine AW_cut (fun ρ' Y=>ρ' = ⟨49,[(4,.p (some (H.next,0,0))),(8,.p (some (H.next + 2,0,0))),(11,.p (some (q,0,0)))]⟩ ∧ Y.get q = some (.cells (voteRec me n b).cells 0 false 0) ∧ Upd X Y [q]) ?_ ?_
   · refine AW_seq ?_
     refine AW_reg [4,8,11,36] fun K hK=>?_
     simp [init_eq,aload,afieldAddr,x2]
     apply hK;clear hK K
     refine AW_cond' rfl rfl (fun hx=>?_) (fun hx=>?_)
     · have hh:b.height ≠ 0:=by simpa using hx
       obtain ⟨W1,a1,q1,w1⟩:=stF (P:=Tryz.prog) (t:=3) (o:=0) (x:=.i .i64 4) gq rfl qsize_3 (by simp)
       rw [SRec.w0] at q1
       refine AW_reg [4,8,11] fun K hK=>?_
       simp [init_eq,afieldAddr,a1]
       refine hK _ _ (rend ⟨_,by simp,rfl,?_,w1⟩)
       rw [q1]; unfold voteRec; rw [if_neg hh]
     · have hh:b.height = 0:=by simpa using hx
       refine AW_skip (rend ⟨_,by simp,rfl,?_,Upd.refl ..⟩)
       rw [gq]; unfold voteRec; rw [if_pos hh]
   · rintro ρ' Y ⟨rfl,gY,uY⟩
     have uHY:Upd H Y []:=(u1.trans uX (by simp)).trans uY (fun j hj=>.inr (by simp at hj; omega))
     have y1:=uY.keep (by simp; omega) (uX.keep (by simp) g1)
     have y3:=uY.keep (by simp; omega) (uX.keep (by simp) g3)
     refine AW_seq ?_
     refine AW_seq ?_
     refine AW_reg [8,11,13] fun K hK=>?_
     simp [init_eq,aload,y1,gY,SSt.take,SRec.take]
     refine ACalls.mono (do_ok Y (r:=voteRec me n b) (ha.upd uHY) ok hk (by show ([]:List UInt8).length ≤ _; decide)) fun v Z ⟨fv2,hv2,pv2,bv2,hr,so,uZ⟩=>?_
     subst hr
     simp [V.cells]
     refine ⟨_,safe_store2 (AH.get_new_same ..) rfl _ fv2 hv2 pv2 bv2,?_⟩
     obtain ⟨W,eW,gW,nW,oW⟩:=boxS Z zeroS ((s.doR (voteRec me n b)).1.cells fv2 hv2 pv2 bv2)
     change K _ ((Z.new (.cells zeroS 0 false 0)).set Z.next (.cells ((s.doR (voteRec me n b)).1.cells fv2 hv2 pv2 bv2) 0 false 0))
     rw [eW]
     have uYW:Upd Y W []:=uZ.trans (G:=[]) ⟨by omega,fun j hj _=>oW j hj⟩ (by simp)
     have w3:=uYW.keep (by simp) y3
     have wq:=uYW.keep (by simp) gY
     have uHW:=uHY.trans uYW (by simp)
     apply hK;clear hK K
     refine AW_seq ?_
     refine AW_reg [8,11,13,45] fun K hK=>?_
     simp [init_eq]
     apply hK;clear hK K
     refine AW_cond' rfl rfl (fun hx=>?_) (fun hx=>?_)
     · have h0:(s.doR (voteRec me n b)).2 ≠ 0:=by simpa using hx
       refine AW_seq ?_
       refine AW_reg [8,9] fun K hK=>?_
       simp [init_eq,bzRec,vrec_store w3 rfl]
       apply hK;clear hK K
       exact AW_ret (hend W SRec.zero _ _ w3 uHW (by rw [hdv,if_pos h0]) rfl rfl)
     · have h0:(s.doR (voteRec me n b)).2 = 0:=by simpa using hx
       refine AW_skip ?_
       refine AW_seq ?_
       refine AW_reg [8,9] fun K hK=>?_
       simp [init_eq,aload,wq,SRec.take,vrec_store w3 rfl]
       apply hK;clear hK K
       exact AW_ret (hend W (voteRec me n b) 0 _ w3 uHW (by rw [hdv,if_neg (by simp [h0])]) rfl rfl)
end Go.Proofs.YtaidfojbnfkclaaGreatDoor
