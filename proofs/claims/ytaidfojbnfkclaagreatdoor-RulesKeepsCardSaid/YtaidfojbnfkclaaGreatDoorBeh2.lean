/-
  Law 21's behind.
-/
import Derived.Test.YtaidfojbnfkclaaGreatDoorBeh1
set_option linter.unusedVariables false
set_option linter.unusedSimpArgs false
namespace Go.Proofs.YtaidfojbnfkclaaGreatDoor
open Go Go.Abs Go.Proofs
set_option maxRecDepth 100000
attribute [local irreducible] AEnd AW ACalls
theorem SOwn.upd {G M:AH} {n:Nat} {s:SSt} {fv hv pv bv:V} (h:SOwn G n s fv hv pv bv) (u:Upd G M []):SOwn M n s fv hv pv bv:=by
 obtain ⟨⟨A1,z1,y1⟩,⟨A2,z2,y2⟩,⟨A3,z3,y3⟩,⟨A4,z4,y4⟩⟩:=h
 exact ⟨⟨A1,z1.upd u (by simp),y1⟩,⟨A2,z2.upd u (by simp),y2⟩,⟨A3,z3.upd u (by simp),y3⟩,⟨A4,z4.upd u (by simp),y4⟩⟩
theorem safe_store2 {M:AH} {q:Nat} {l:List V} (hq:M.get q = some (.cells l 0 false 0)) (hl:l.length = 32) (s:SSt) (fv hv pv bv:V):astore Tryz.prog M 42 (.p (some (q,0,0))) (.agg (s.cells fv hv pv bv)) = some (M.set q (.cells (s.cells fv hv pv bv) 0 false 0)):=by
 simp [astore,V.cells,hq,show splice l 0 (s.cells fv hv pv bv) = s.cells fv hv pv bv from splice_all (by rw [hl]; rfl),hl]
theorem Rel.doR_wf {s:SSt} {m:RSt} {r:SRec} {k:Nat} (h:Rel s m) (ok:s.Ok k):(m.doR r).1.Wf:=by
 unfold RSt.doR
 split
 · exact RSt.zero_wf
 · rename_i hf
   have hf:r.form = 0:=by simpa using hf
   split
   · exact RSt.zero_wf
   · rename_i hm
     exact (h.act ok hf (by rw [h.err hf]; simpa using hm)).wf
theorem SSt.doR_zero' {s:SSt} {r:SRec} (h:(s.doR r).2 = 0):r.form = 0 ∧ s.mayE r = 0 ∧ s.doR r = (s.act r,0):=Go.Proofs.YtaidfojbnfkclaaGreatDoor.doR_zero h
theorem RSt.doR_zero {m:RSt} {r:SRec} (h:(m.doR r).2 = 0):m.doR r = (m.act r,0):=by
 unfold RSt.doR at h ⊢
 by_cases h1:r.form = 0
 · by_cases h2:m.errE r = 0
   · simp [h1,h2]
   · simp [h1,h2] at h
 · simp [h1] at h
set_option maxHeartbeats 4000000 in
theorem behind_ok (H:AH) {lv:V} (l:List SRec) (hv:RS H lv 22 (l.map SRec.cells)) (hlen:l.length ≤ 40) (htx:∀ r ∈ l,r.text.length ≤ 5000) :
  ACalls Tryz.prog 12 [lv] H fun v H'=>∃ s m fv hv pv bv pm bm,v = .tup [.agg (s.cells fv hv pv bv),.agg (m.cells pm bm)] ∧ Rel s m ∧ s.Ok 40 ∧ SAt H' s fv hv pv bv ∧ OXR H' [] pm 1 (m.past.map setC).flatten ∧ OXR H' [] bm 1 (m.blocks.map strC).flatten ∧ Upd H H' []:=by
 refine ACalls_body Tryz.func12 rfl rfl ?_
 have h3:lastOk 3 = true:=by decide
 refine AW_seq ?_
 refine AW_reg [0,2,3] fun K hK=>?_
 simp [init_eq,V.cells]
 obtain ⟨G0,e0,z0,z1,n0,o0⟩:=H.boxed2 zeroS zeroR
 change K _ ((H.new (.cells zeroS 0 false 0)).new (.cells zeroR 0 false 0))
 rw [e0]
 have u0:Upd H G0 []:=⟨by omega,fun j hj _=>o0 j hj⟩
 apply hK;clear hK K
 refine AW_seq ?_
 refine AW_reg [0,2,3,4] fun K hK=>?_
 simp [init_eq]
 refine ACalls.mono (snew_ok G0 3) fun v X ⟨hr,e⟩=>?_
 rw [h3] at hr
 subst hr
 rw [e]
 simp [V.cells]
 refine ⟨_,safe_store2 (AH.get_new_same ..) rfl (SSt.start 3) nilV nilV nilV nilV,?_⟩
 obtain ⟨G1,e1,gs,n1,o1⟩:=boxS G0 zeroS ((SSt.start 3).cells nilV nilV nilV nilV)
 change K _ ((G0.new (.cells zeroS 0 false 0)).set G0.next (.cells ((SSt.start 3).cells nilV nilV nilV nilV) 0 false 0))
 rw [e1]
 have u1:Upd G0 G1 []:=⟨by omega,fun j hj _=>o1 j hj⟩
 apply hK;clear hK K
 refine AW_seq ?_
 refine AW_reg [0,2,3,4,6] fun K hK=>?_
 simp [init_eq]
 refine ACalls.mono (rnew_ok G1 3) fun v X ⟨hr,e⟩=>?_
 rw [h3] at hr
 subst hr
 rw [e]
 simp [V.cells]
 refine ⟨_,rs_store (AH.get_new_same ..) zeroR_len (RSt.start_wf 3) nilV nilV,?_⟩
 obtain ⟨G2,e2,gm,n2,o2⟩:=boxS G1 zeroR ((RSt.start 3).cells nilV nilV)
 change K _ ((G1.new (.cells zeroR 0 false 0)).set G1.next (.cells ((RSt.start 3).cells nilV nilV) 0 false 0))
 rw [e2]
 have u2:Upd G1 G2 []:=⟨by omega,fun j hj _=>o2 j hj⟩
 have x2:G0.next = H.next + 2:=by omega
 have x3:G1.next = H.next + 3:=by omega
 rw [x2] at gs ⊢
 rw [x3] at gm ⊢
 have nilO:∀ (sz:Nat),OXR G2 [H.next,H.next + 1,H.next + 2,H.next + 3] nilV sz ([]:List (List V)).flatten:=fun sz=>⟨[],Own.nil ..,by simp⟩
 have bs0:BS H G2 (SSt.start 3) (RSt.start 3) nilV nilV nilV nilV nilV nilV 0 :=
  ⟨u2.keep (by simp) (u1.keep (by simp) z0),u2.keep (by simp) (u1.keep (by simp) z1),u2.keep (by simp) gs,gm,nilO 8,nilO 8,nilO 1,nilO 1,nilO 1,nilO 1,start_rel 3,start_ok h3,(u0.trans u1 (by simp)).trans u2 (by simp)⟩
 apply hK;clear hK K
 refine AW_seq ?_
 refine AW_seq ?_
 refine AW_reg [0,2,3,4,6,8] fun K hK=>?_
 simp [init_eq]
 apply hK;clear hK K
 refine AW_block ?_
 refine AW_loopx (fun i:Nat=>⟨55,[(0,lv),(2,.p (some (H.next,0,0))),(3,.p (some (H.next + 1,0,0))),(4,.p (some (H.next + 2,0,0))),(6,.p (some (H.next + 3,0,0))),(8,.i .i64 i)]⟩)
  (fun i G=>i ≤ l.length ∧ ∃ s m fv hv pv bv pm bm,BS H G s m fv hv pv bv pm bm i) (fun i=>l.length - i) 0 (by simp) ⟨Nat.zero_le _,_,_,_,_,_,_,_,_,bs0⟩ fun i G hM=>?_
 obtain ⟨hi,s,m,fv,hv',pv,bv,pm,bm,bs⟩:=hM
 have hvG:RS G lv 22 (l.map SRec.cells):=hv.upd bs.u
 refine AW_seq ?_
 refine AW_seq ?_
 refine AW_reg [0,2,3,4,6,8,24] fun K hK=>?_
 simp [init_eq,hvG.alen qelem_35]
 apply hK;clear hK K
 refine AW_cond' rfl rfl (fun hc=>?_) (fun hc=>?_)
 · have hlt:i < l.length:=by simpa using hc
   have htl:l[i].text.length ≤ 5000:=htx _ (List.getElem_mem hlt)
   obtain ⟨ax,q1,q2⟩:=hvG.rec SRec.len (by decide) (P:=Tryz.prog) qelem_35 qsize_52 qagg_52 hlt
   have hat:∀ M:AH,Upd G M [] → aload Tryz.prog M 52 ax = some (.agg l[i].cells):=fun M uM=>by
    obtain ⟨ay,r1,r2⟩:=(hvG.upd uM).rec SRec.len (by decide) (P:=Tryz.prog) qelem_35 qsize_52 qagg_52 hlt
    rw [q1] at r1; cases r1; exact r2
   clear q2
   generalize l[i] = r at hat htl
   have hnG:H.next + 4 ≤ G.next:=AH.get_lt bs.gm
   refine AW_skip ?_
   refine AW_seq ?_
   refine AW_block ?_
   refine AW_cut (fun ρ' X=>∃ tb fv2 hv2 pv2 bv2,ρ' = ⟨55,[(0,lv),(2,.p (some (H.next,0,0))),(3,.p (some (H.next + 1,0,0))),(4,.p (some (H.next + 2,0,0))),(6,.p (some (H.next + 3,0,0))),(8,.i .i64 i),(9,.p (some (tb,0,0))),(10,.i .i64 (s.doR r).2)]⟩ ∧
    X.get tb = some (.cells ((s.doR r).1.cells fv2 hv2 pv2 bv2) 0 false 0) ∧ SOwn X G.next (s.doR r).1 fv2 hv2 pv2 bv2 ∧ Upd G X [] ∧ G.next ≤ tb) ?_ ?_
   · refine AW_regd [0,2,3,4,6,8,9,10] pl_12_6 pe_12_6 (by kernel_rfl) (by kernel_rfl) (by decide) fun K hK=>?_
     have l1:∀ M:AH,Upd G M [] → aload Tryz.prog M 42 (.p (some (H.next + 2,0,0))) = some (.agg (s.cells fv hv' pv bv)):=fun M uM=>by simp [aload,uM.keep (by simp) bs.gs,SSt.take]
     have uN:Upd G (G.new (.cells zeroS 0 false 0)) []:=Upd.new ..
     simp [init_eq,pl_12_6,q1,hat G (Upd.refl ..),l1 G (Upd.refl ..)]
     refine ⟨?_,?_⟩
     · refine ACalls.mono (do_ok G (r:=r) bs.sat bs.ok (by omega) (by omega)) fun v X ⟨fv2,hv2,pv2,bv2,hr,so,u⟩=>?_
       subst hr
       simp
       refine ⟨_,safe_store2 (AH.get_new_same ..) rfl _ fv2 hv2 pv2 bv2,?_⟩
       obtain ⟨Y,eY,gY,nY,oY⟩:=boxS X zeroS ((s.doR r).1.cells fv2 hv2 pv2 bv2)
       change K _ ((X.new (.cells zeroS 0 false 0)).set X.next (.cells ((s.doR r).1.cells fv2 hv2 pv2 bv2) 0 false 0))
       rw [eY]
       have uY:Upd X Y []:=⟨by omega,fun j hj _=>oY j hj⟩
       exact hK _ _ (rend ⟨_,by simp,_,fv2,hv2,pv2,bv2,rfl,gY,so.upd uY,u.trans uY (by simp),u.1⟩)
     · refine ACalls.mono (do_ok (G.new (.cells zeroS 0 false 0)) (r:=r) (bs.upd uN).sat bs.ok (by omega) (by omega)) fun v X ⟨fv2,hv2,pv2,bv2,hr,so,u⟩=>?_
       subst hr
       have gX:X.get G.next = some (.cells zeroS 0 false 0):=u.keep (by simp) (AH.get_new_same ..)
       simp [safe_store2 gX rfl]
       obtain ⟨Y,hY⟩:∃ Y,Y = X.set G.next (.cells ((s.doR r).1.cells fv2 hv2 pv2 bv2) 0 false 0):=⟨_,rfl⟩
       rw [← hY]
       have uY:Upd X Y [G.next]:=by rw [hY]; exact Upd.set _ _ _ (by simp)
       have gY:Y.get G.next = some (.cells ((s.doR r).1.cells fv2 hv2 pv2 bv2) 0 false 0):=by rw [hY]; exact AH.get_set_same (AH.get_lt gX)
       obtain ⟨⟨A1,c1,d1⟩,⟨A2,c2,d2⟩,⟨A3,c3,d3⟩,⟨A4,c4,d4⟩⟩:=so
       have ap:∀ A:List Nat,(∀ j ∈ A,(G.new (.cells zeroS 0 false 0)).next ≤ j) → (∀ j ∈ A,j ∉ [G.next]) ∧ ∀ j ∈ A,G.next ≤ j:=fun A hA=>⟨fun j hj h=>by have:=hA j hj; simp at this h; omega,fun j hj=>by have:=hA j hj; simp at this; omega⟩
       exact hK _ _ (rend ⟨_,by simp,_,fv2,hv2,pv2,bv2,rfl,gY,⟨⟨A1,c1.upd uY (ap _ d1).1,(ap _ d1).2⟩,⟨A2,c2.upd uY (ap _ d2).1,(ap _ d2).2⟩,⟨A3,c3.upd uY (ap _ d3).1,(ap _ d3).2⟩,⟨A4,c4.upd uY (ap _ d4).1,(ap _ d4).2⟩⟩,(uN.trans u (by simp)).trans uY (fun j hj=>.inr (by simp at hj; omega)),Nat.le_refl _⟩)
   · rintro ρ' X ⟨tb,fv2,hv2,pv2,bv2,rfl,gt,so,uX,htb⟩
     have bX:=bs.upd uX
     have hB:∀ j ∈ [H.next,H.next + 1,H.next + 2,H.next + 3],j < X.next:=fun j hj=>by have:=uX.1; simp at hj; omega
     have mw:=bs.rel.doR_wf (r:=r) bs.ok
     have hvm:-4611686018427387904 ≤ m.view ∧ m.view ≤ 4611686018427387904:=by rw [← bs.rel.view]; have:=bs.ok.v1; have:=bs.ok.vl; have:=bs.ok.lm; omega
     have hpm:m.past.length ≤ 10000000:=by rw [← bs.rel.past]; have:=bs.ok.pl; have:=bs.ok.vl; have:=bs.ok.lm; omega
     have hbm:m.blocks.length ≤ 10000000:=by rw [← bs.rel.blocks]; have:=bs.ok.bl; omega
     refine AW_cut (fun ρ' Y=>∃ mb pm2 bm2,ρ' = ⟨55,[(0,lv),(2,.p (some (H.next,0,0))),(3,.p (some (H.next + 1,0,0))),(4,.p (some (H.next + 2,0,0))),(6,.p (some (H.next + 3,0,0))),(8,.i .i64 i),(9,.p (some (tb,0,0))),(10,.i .i64 (s.doR r).2),(11,.p (some (mb,0,0))),(12,.i .i64 (m.doR r).2)]⟩ ∧
      Y.get mb = some (.cells ((m.doR r).1.cells pm2 bm2) 0 false 0) ∧ OXR Y [H.next,H.next + 1,H.next + 2,H.next + 3] pm2 1 ((m.doR r).1.past.map setC).flatten ∧ OXR Y [H.next,H.next + 1,H.next + 2,H.next + 3] bm2 1 ((m.doR r).1.blocks.map strC).flatten ∧ Upd X Y [] ∧ X.next ≤ mb) ?_ ?_
     · refine AW_regd [0,2,3,4,6,8,9,10,11,12] pl_12_7 pe_12_7 (by kernel_rfl) (by kernel_rfl) (by decide) fun K hK=>?_
       have l2:∀ M:AH,Upd X M [] → aload Tryz.prog M 45 (.p (some (H.next + 3,0,0))) = some (.agg (m.cells pm bm)):=fun M uM=>by simp [aload,uM.keep (by simp) bX.gm,RSt.take bs.rel.wf,RSt.len bs.rel.wf]
       have uN:Upd X (X.new (.cells zeroR 0 false 0)) []:=Upd.new ..
       simp [init_eq,pl_12_7,q1,hat X uX,l2 X (Upd.refl ..)]
       refine ⟨?_,?_⟩
       · refine ACalls.mono (rdo_ok X (r:=r) bs.rel.wf bX.mp bX.mb hB hvm hpm hbm (by omega)) fun v Y ⟨pm2,bm2,hr,op,ob,u⟩=>?_
         subst hr
         simp
         refine ⟨_,rs_store (AH.get_new_same ..) zeroR_len mw pm2 bm2,?_⟩
         obtain ⟨Z,eZ,gZ,nZ,oZ⟩:=boxS Y zeroR ((m.doR r).1.cells pm2 bm2)
         change K _ ((Y.new (.cells zeroR 0 false 0)).set Y.next (.cells ((m.doR r).1.cells pm2 bm2) 0 false 0))
         rw [eZ]
         have uZ:Upd Y Z []:=⟨by omega,fun j hj _=>oZ j hj⟩
         exact hK _ _ (rend ⟨_,by simp,_,pm2,bm2,rfl,gZ,op.step uZ (by simp) (fun j h=>.inl h),ob.step uZ (by simp) (fun j h=>.inl h),u.trans uZ (by simp),u.1⟩)
       · have hB2:∀ j ∈ X.next :: [H.next,H.next + 1,H.next + 2,H.next + 3],j < (X.new (.cells zeroR 0 false 0)).next:=fun j hj=>by
           rcases List.mem_cons.1 hj with h | h
           · simp; omega
           · have:=hB j h; simp; omega
         have hnew:∀ j ∈ X.next :: [H.next,H.next + 1,H.next + 2,H.next + 3],j ∈ [H.next,H.next + 1,H.next + 2,H.next + 3] ∨ X.next ≤ j:=fun j hj=>by
          rcases List.mem_cons.1 hj with h | h
          · right; omega
          · exact .inl h
         refine ACalls.mono (rdo_ok (X.new (.cells zeroR 0 false 0)) (r:=r) bs.rel.wf (bX.mp.step uN (by simp) hnew) (bX.mb.step uN (by simp) hnew) hB2 hvm hpm hbm (by omega)) fun v Y ⟨pm2,bm2,hr,op,ob,u⟩=>?_
         subst hr
         have gY:Y.get X.next = some (.cells zeroR 0 false 0):=u.keep (by simp) (AH.get_new_same ..)
         simp [rs_store gY zeroR_len mw]
         obtain ⟨Z,hZ⟩:∃ Z,Z = Y.set X.next (.cells ((m.doR r).1.cells pm2 bm2) 0 false 0):=⟨_,rfl⟩
         rw [← hZ]
         have uZ:Upd Y Z [X.next]:=by rw [hZ]; exact Upd.set _ _ _ (by simp)
         have gZ:Z.get X.next = some (.cells ((m.doR r).1.cells pm2 bm2) 0 false 0):=by rw [hZ]; exact AH.get_set_same (AH.get_lt gY)
         exact hK _ _ (rend ⟨_,by simp,_,pm2,bm2,rfl,gZ,op.step uZ (by simp) (fun j h=>.inl (by simp [h])),ob.step uZ (by simp) (fun j h=>.inl (by simp [h])),(uN.trans u (by simp)).trans uZ (fun j hj=>.inr (by simp at hj; omega)),Nat.le_refl _⟩)
     · rintro ρ' Y ⟨mb,pm2,bm2,rfl,gmb,op,ob,uY,hmb⟩
       have bY:=bX.upd uY
       have gt:=uY.keep (by simp) gt
       have hee:=bs.rel.err2 (r:=r)
       refine AW_cutto ⟨55,[(0,lv),(2,.p (some (H.next,0,0))),(3,.p (some (H.next + 1,0,0))),(4,.p (some (H.next + 2,0,0))),(6,.p (some (H.next + 3,0,0))),(8,.i .i64 i),(9,.p (some (tb,0,0))),(11,.p (some (mb,0,0))),(50,.b (decide ((s.doR r).2 = 0)))]⟩ Y ?_ ?_
       · refine AW_regto [0,2,3,4,6,8,9,11,50] ⟨55,[(0,lv),(2,.p (some (H.next,0,0))),(3,.p (some (H.next + 1,0,0))),(4,.p (some (H.next + 2,0,0))),(6,.p (some (H.next + 3,0,0))),(8,.i .i64 i),(9,.p (some (tb,0,0))),(11,.p (some (mb,0,0))),(50,.b (decide ((s.doR r).2 = 0)))]⟩ Y (fun K hk=>?_) (rend ⟨rfl,rfl⟩)
         rw [← hee]
         by_cases h0:(s.doR r).2 = 0
         · simpa [init_eq,h0] using hk
         · simpa [init_eq,h0] using hk
       refine AW_cond' rfl rfl (fun hx=>?_) (fun hx=>?_)
       · have h0:(s.doR r).2 = 0:=by simpa using hx
         obtain ⟨hf,hm,hd⟩:=SSt.doR_zero' h0
         have hd2:=RSt.doR_zero (m:=m) (r:=r) (by rw [← hee]; exact h0)
         rw [hd] at gt so
         rw [hd2] at gmb op ob
         dsimp only at gt so gmb op ob
         have relN:=bs.rel.act bs.ok hf hm
         have okN:=step_ok bs.ok hf hm htl
         have lt:aload Tryz.prog Y 42 (.p (some (tb,0,0))) = some (.agg ((s.act r).cells fv2 hv2 pv2 bv2)):=by simp [aload,gt,SSt.take]
         have lm:aload Tryz.prog Y 45 (.p (some (mb,0,0))) = some (.agg ((m.act r).cells pm2 bm2)):=by simp [aload,gmb,RSt.take relN.wf,RSt.len relN.wf]
         obtain ⟨W1,hW1⟩:∃ W,W = Y.set (H.next + 2) (.cells ((s.act r).cells fv2 hv2 pv2 bv2) 0 false 0):=⟨_,rfl⟩
         have w1:Upd Y W1 [H.next + 2]:=by rw [hW1]; exact Upd.set _ _ _ (by simp)
         have s1:W1.get (H.next + 2) = some (.cells ((s.act r).cells fv2 hv2 pv2 bv2) 0 false 0):=by rw [hW1]; exact AH.get_set_same (AH.get_lt bY.gs)
         have t1:astore Tryz.prog Y 42 (.p (some (H.next + 2,0,0))) (.agg ((s.act r).cells fv2 hv2 pv2 bv2)) = some W1:=by rw [hW1]; exact safe_store2 bY.gs (SSt.len ..) ..
         have m1:=w1.keep (by simp) bY.gm
         obtain ⟨W2,hW2⟩:∃ W,W = W1.set (H.next + 3) (.cells ((m.act r).cells pm2 bm2) 0 false 0):=⟨_,rfl⟩
         have w2:Upd W1 W2 [H.next + 3]:=by rw [hW2]; exact Upd.set _ _ _ (by simp)
         have s2:W2.get (H.next + 3) = some (.cells ((m.act r).cells pm2 bm2) 0 false 0):=by rw [hW2]; exact AH.get_set_same (AH.get_lt m1)
         have t2:astore Tryz.prog W1 45 (.p (some (H.next + 3,0,0))) (.agg ((m.act r).cells pm2 bm2)) = some W2:=by rw [hW2]; exact rs_store m1 (RSt.len bs.rel.wf) relN.wf ..
         have ww:Upd Y W2 [H.next + 2,H.next + 3]:=(w1.mono (by simp)).trans (w2.mono (by simp)) (fun j hj=>.inl hj)
         have nX:=uX.1
         have wt:W1.get tb = Y.get tb:=w1.2 tb (AH.get_lt gt) (by simp; omega)
         have wm:W1.get mb = Y.get mb:=w1.2 mb (AH.get_lt gmb) (by simp; omega)
         have hne:Y.next ≤ W1.next:=w1.1
         refine AW_regm (.only [tb,mb]) [0,2,3,4,6,8] pl_12_9 pe_12_9 (by kernel_rfl) (by kernel_rfl) (by decide) fun K hK=>?_
         simp [init_eq,pl_12_9,APlan_takem,through,tkOk,Go.Abs.rid,lt,lm,t1,t2,wt,wm,hne]
         apply hK;clear hK K
         have key:∀ {v:V} {sz:Nat} {cs:List V},(∃ F,Own X v sz cs F ∧ ∀ j ∈ F,G.next ≤ j) → OXR W2 [H.next,H.next + 1,H.next + 2,H.next + 3] v sz cs:=by
          rintro v sz cs ⟨F,z1,z2⟩
          exact ⟨F,(z1.upd uY (by simp)).upd ww (fun j hj h=>by have:=z2 j hj; simp at h; omega),fun j hj h=>by have:=z2 j hj; simp at h; omega⟩
         have bN:BS H W2 (s.act r) (m.act r) fv2 hv2 pv2 bv2 pm2 bm2 (i + 1) :=
          ⟨ww.keep (by simp) bY.g0,ww.keep (by simp) bY.g1,w2.keep (by simp) s1,s2,key so.1,key so.2.1,key so.2.2.1,key so.2.2.2,op.step ww (by simp) (fun j h=>.inl h),ob.step ww (by simp) (fun j h=>.inl h),relN,okN,bY.u.trans ww (fun j hj=>.inr (by simp at hj; omega))⟩
         refine AW_reg [0,2,3,4,6,8] fun K hK=>?_
         simp [init_eq,wrap_id (x:=(i:Int) + 1) (by omega) (by omega)]
         apply hK;clear hK K
         exact rend ⟨i + 1,by simp,⟨by omega,_,_,_,_,_,_,_,_,bN⟩,by omega⟩
       · refine AW_skip ?_
         refine AW_reg [0,2,3,4,6,8] fun K hK=>?_
         simp [init_eq,wrap_id (x:=(i:Int) + 1) (by omega) (by omega)]
         apply hK;clear hK K
         exact rend ⟨i + 1,by simp,⟨by omega,_,_,_,_,_,_,_,_,bY.mono⟩,by omega⟩
 · have l1:aload Tryz.prog G 42 (.p (some (H.next + 2,0,0))) = some (.agg (s.cells fv hv' pv bv)):=by simp [aload,bs.gs,SSt.take]
   have l2:aload Tryz.prog G 45 (.p (some (H.next + 3,0,0))) = some (.agg (m.cells pm bm)):=by simp [aload,bs.gm,RSt.take bs.rel.wf,RSt.len bs.rel.wf]
   obtain ⟨W1,hW1⟩:∃ W,W = G.set H.next (.cells (s.cells fv hv' pv bv) 0 false 0):=⟨_,rfl⟩
   have w1:Upd G W1 [H.next]:=by rw [hW1]; exact Upd.set _ _ _ (by simp)
   have s1:W1.get H.next = some (.cells (s.cells fv hv' pv bv) 0 false 0):=by rw [hW1]; exact AH.get_set_same (AH.get_lt bs.g0)
   have t1:astore Tryz.prog G 42 (.p (some (H.next,0,0))) (.agg (s.cells fv hv' pv bv)) = some W1:=by rw [hW1]; exact safe_store2 bs.g0 rfl ..
   have m1:=w1.keep (by simp) bs.g1
   obtain ⟨W2,hW2⟩:∃ W,W = W1.set (H.next + 1) (.cells (m.cells pm bm) 0 false 0):=⟨_,rfl⟩
   have w2:Upd W1 W2 [H.next + 1]:=by rw [hW2]; exact Upd.set _ _ _ (by simp)
   have s2:W2.get (H.next + 1) = some (.cells (m.cells pm bm) 0 false 0):=by rw [hW2]; exact AH.get_set_same (AH.get_lt m1)
   have t2:astore Tryz.prog W1 45 (.p (some (H.next + 1,0,0))) (.agg (m.cells pm bm)) = some W2:=by rw [hW2]; exact rs_store m1 zeroR_len bs.rel.wf ..
   have ww:Upd G W2 [H.next,H.next + 1]:=(w1.mono (by simp)).trans (w2.mono (by simp)) (fun j hj=>.inl hj)
   have s1':=w2.keep (by simp) s1
   refine AW_exit (then_exit (then_exit (block_here ?_)))
   refine AW_seq ?_
   have wt:W1.get (H.next + 2) = G.get (H.next + 2):=w1.2 _ (AH.get_lt bs.gs) (by simp)
   have wm:W1.get (H.next + 3) = G.get (H.next + 3):=w1.2 _ (AH.get_lt bs.gm) (by simp)
   have hne:G.next ≤ W1.next:=w1.1
   refine AW_regm (.only [H.next + 2,H.next + 3]) [2,3] pl_12_10 pe_12_10 (by kernel_rfl) (by kernel_rfl) (by decide) fun K hK=>?_
   simp [init_eq,pl_12_10,APlan_takem,through,tkOk,Go.Abs.rid,l1,l2,t1,t2,wt,wm,hne]
   apply hK;clear hK K
   have key:∀ {v:V} {sz:Nat} {cs:List V},OXR G [H.next,H.next + 1,H.next + 2,H.next + 3] v sz cs → OXR W2 [H.next,H.next + 1,H.next + 2,H.next + 3] v sz cs:=fun h=>h.step ww (by simp) (fun j h=>.inl h)
   have e1':aload Tryz.prog W2 42 (.p (some (H.next,0,0))) = some (.agg (s.cells fv hv' pv bv)):=by simp [aload,s1',SSt.take]
   have e2':aload Tryz.prog W2 45 (.p (some (H.next + 1,0,0))) = some (.agg (m.cells pm bm)):=by simp [aload,s2,RSt.take bs.rel.wf,RSt.len bs.rel.wf]
   refine AW_ret (end_ret (r:=.tup [.agg (s.cells fv hv' pv bv),.agg (m.cells pm bm)]) (by simp [ares1,ares,e1',e2']) ⟨s,m,fv,hv',pv,bv,pm,bm,rfl,bs.rel,bs.ok.mono (by omega),⟨(key bs.f).rsC,(key bs.h).rsC,(key bs.p).rsS,(key bs.b).rsT⟩,(key bs.mp).less (by simp),(key bs.mb).less (by simp),bs.u.trans ww (fun j hj=>.inr (by simp at hj; omega))⟩)
end Go.Proofs.YtaidfojbnfkclaaGreatDoor
