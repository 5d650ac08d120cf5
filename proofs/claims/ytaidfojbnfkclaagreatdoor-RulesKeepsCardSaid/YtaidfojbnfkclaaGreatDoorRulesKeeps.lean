import Derived.Test.YtaidfojbnfkclaaGreatDoorRulesVotes
import Derived.Test.YtaidfojbnfkclaaGreatDoorKeep1
import Derived.Test.YtaidfojbnfkclaaGreatDoorMade5
set_option linter.unusedVariables false
set_option linter.unusedSimpArgs false
namespace Go.Proofs.YtaidfojbnfkclaaGreatDoor
open Go Go.Abs Go.Proofs
set_option maxRecDepth 100000
attribute [local irreducible] AEnd AW ACalls
def inC (rv:V) (f me:Int) (pv:V) (c:Cert) (tv:V):List V:=rv :: .i .i64 f :: .i .i64 me :: pv :: (c.cells ++ [tv])
section
variable (rv:V) (f me:Int) (pv:V) (c:Cert) (tv:V)
@[simp] theorem inC_len:(inC rv f me pv c tv).length = 13:=rfl
@[simp] theorem inC_0:(inC rv f me pv c tv)[0]? = some rv:=rfl
@[simp] theorem inC_2:(inC rv f me pv c tv)[2]? = some (.i .i64 me):=rfl
@[simp] theorem inC_3:(inC rv f me pv c tv)[3]? = some pv:=rfl
@[simp] theorem inC_12:(inC rv f me pv c tv)[12]? = some tv:=rfl
end
theorem keeps_build (ts:List Tmo) (txs:List Tx) (q p:Option (Nat × Nat × Nat)) (n m:Nat) (k j:Bool):abuild Tryz.prog 28 [(5,.sl p m j),(6,.sl q n k)] = some (.agg ((⟨0,0,0,0,Cert.zero,ts,txs⟩:Blk).cells (.sl p m j) (.sl q n k))):=by
 simp [abuild,afill,V.cells]
 repeat (refine ⟨by simp [splice],?_⟩)
 first | done | rfl
theorem leadD_zero {s:SSt} {me:Int} {txs:List Tx} (h:(leadD s me txs).2 = 0):(leadD s me txs).1.err = 0 ∧ (leadD s me txs).1.parent = s.high ∧ (leadD s me txs).1.author = me:=by
 unfold leadD at *
 split at h
 · cases h
 · rename_i h0
   rw [if_neg h0]
   unfold madeD at *
   split at h
   · rename_i h1; exact absurd h h1
   · rename_i h1
     rw [if_neg h1]
     exact ⟨by simpa using h1,rfl,rfl⟩
theorem leadD_small {s:SSt} {me:Int} {txs:List Tx} (hl:txs.length ≤ 1000000000) (he:∀ t ∈ txs,t.small):(leadD s me txs).1.small:=by
 have z:Blk.zero.small:=⟨by simp [Blk.zero],by simp [Blk.zero],by simp [Blk.zero]⟩
 unfold leadD
 split
 · exact z
 · unfold madeD
   split
   · exact z
   · exact ⟨by simp [madeB],hl,he⟩
set_option maxHeartbeats 4000000 in
theorem rulesKeeps_walk (H:AH) {rv pv tv:V} (l:List SRec) (hv:RS H rv 22 (l.map SRec.cells)) (f me:Int) (ts:List Tmo) (hts:RS H pv 10 (ts.map Tmo.cells)) (below:Cert) (txs:List Tx) (htx:RS H tv 7 (txs.map Tx.cells)) (n:Int) {b:Blk} {pb tb:V} (hb:BlkAt H b pb tb) :
  ACalls Tryz.prog 6 [.agg (inC rv f me pv below tv),.i .i64 n,.agg (b.cells pb tb)] H fun x _=>x = .b true:=by
 obtain ⟨q,qn,qk,rfl⟩:=sl_form htx
 obtain ⟨p,pn,pk,rfl⟩:=sl_form hts
 refine ACalls_body Tryz.func6 rfl rfl ?_
 refine AW_seq ?_
 refine AW_reg [1,3,5] fun K hK=>?_
 simp [init_eq,V.cells]
 obtain ⟨G,e1,gi,gb,gn,go⟩:=H.boxed2 (inC rv f me (.sl p pn pk) below (.sl q qn qk)) (b.cells pb tb)
 change K _ ((H.new (.cells (inC rv f me (.sl p pn pk) below (.sl q qn qk)) 0 false 0)).new (.cells (b.cells pb tb) 0 false 0))
 rw [e1]
 apply hK;clear hK K
 have u0:Upd H G []:=⟨by omega,fun j hj _=>go j hj⟩
 have hvG:=hv.upd u0
 have hbG:BlkAt G b pb tb:=hb.same go
 have htsG:=hts.upd u0
 have htxG:=htx.upd u0
 refine AW_seq ?_
 refine AW_seq ?_
 refine AW_reg [1,3,5,21] fun K hK=>?_
 simp [init_eq]
 refine ACalls.mono (alive_ok ..) fun r H' ⟨hr,e⟩=>?_
 subst hr e
 try simp
 apply hK;clear hK K
 refine AW_cond' rfl rfl (fun hc=>?_) (fun hc=>?_)
 · cases hc
 refine AW_skip ?_
 refine AW_seq ?_
 refine AW_seq ?_
 have hpb:BlkAt H' (⟨0,0,0,0,Cert.zero,ts,txs⟩:Blk) (.sl p pn pk) (.sl q qn qk):=⟨htsG,htxG⟩
 refine AW_regto [1,3,5,33] ⟨174,[(1,.i .i64 n),(3,.p (some (H.next,0,0))),(5,.p (some (H.next + 1,0,0))),(33,.b (farVB l b || farVB [] ⟨0,0,0,0,Cert.zero,ts,txs⟩))]⟩ H' (fun K hk=>?_) ?_
 · simp [init_eq,aload,afieldAddr,gi,gb,blk_take]
   refine ACalls.mono (vfar_ok H' l hvG hbG) fun r H2 ⟨hr,e⟩=>?_
   subst hr e
   cases hf:farVB l b
   · simp [hf,afieldAddr,aload,gi]
     refine ⟨_,keeps_build ts txs q p qn pn qk pk,?_⟩
     refine ACalls.mono (vfar_ok H2 [] (RS.nil ..) hpb) fun r H3 ⟨hr,e⟩=>?_
     subst hr e
     simpa [hf] using hk
   · simpa [hf] using hk
 refine AW_cond' rfl rfl (fun hc=>?_) (fun hc=>?_)
 · refine AW_seq ?_
   refine AW_reg [6] fun K hK=>?_
   simp [init_eq]
   apply hK;clear hK K
   refine AW_ret (end_ret rfl ?_)
   simp
 have hfar:farVB l b = false ∧ farVB [] ⟨0,0,0,0,Cert.zero,ts,txs⟩ = false:=by simpa using hc
 obtain ⟨f1,f2,f3⟩:=farVB_of hfar.1
 obtain ⟨_,p2,_⟩:=farVB_of hfar.2
 have hsm:b.small:=Blk.small_of f2
 obtain ⟨hlt,hll,hte⟩:=Blk.small_of p2
 have hlt:ts.length ≤ 1000000000:=hlt
 have hll:txs.length ≤ 1000000000:=hll
 have hte:∀ t ∈ txs,t.small:=hte
 refine AW_skip ?_
 refine AW_seq ?_
 refine AW_reg [1,3,5,7] fun K hK=>?_
 simp [init_eq,aload,afieldAddr,gi]
 refine ACalls.mono (behind_ok H' l hvG f1 f3) fun r X ⟨s,m,fv,hv',pv',bv,pm,bm,hr,rel,ok,sat,op,ob,u⟩=>?_
 subst hr
 simp [V.cells]
 have z0:((X.new (.cells zeroS 0 false 0)).new (.cells zeroR 0 false 0)).get X.next = some (.cells zeroS 0 false 0):=by rw [AH.get_new,if_neg (by simp),AH.get_new_same]
 have z1:(((X.new (.cells zeroS 0 false 0)).new (.cells zeroR 0 false 0)).set X.next (.cells (s.cells fv hv' pv' bv) 0 false 0)).get (X.next + 1) = some (.cells zeroR 0 false 0):=by rw [AH.get_set_ne (by omega),AH.get_new,if_pos (by simp)]
 refine ⟨_,safe_store2 z0 rfl s fv hv' pv' bv,_,rs_store z1 zeroR_len rel.wf pm bm,?_⟩
 obtain ⟨Y,eY,gs,gm,nY,oY⟩:=boxSR X zeroS zeroR (s.cells fv hv' pv' bv) (m.cells pm bm)
 rw [eY]
 have uY:Upd X Y []:=⟨by omega,fun j hj _=>oY j hj⟩
 apply hK;clear hK K
 have satY:SAt Y s fv hv' pv' bv:=sat.upd uY
 have u2:Upd H' Y []:=u.trans uY (by simp)
 have giY:=u2.keep (by simp) gi
 have gbY:=u2.keep (by simp) gb
 have hbY:BlkAt Y b pb tb:=hbG.same fun j hj=>u2.2 j hj (by simp)
 have htsY:=htsG.upd u2
 have htxY:=htxG.upd u2
 generalize X.next = sid at gs
 clear gm z0 z1 eY uY
 refine AW_seq ?_
 refine AW_reg [1,3,5,7,9,10] fun K hK=>?_
 simp [init_eq,aload,afieldAddr,giY,gbY,gs,blk_take,SSt.take]
 refine ACalls.mono (vote_ok Y satY ok (by omega) hbY hsm.fits me n) fun r H3 ⟨hr,e⟩=>?_
 subst hr e
 simp [V.cells]
 refine ⟨_,vrec_store (AH.get_new_same ..) rfl (voteD (fun r=>(s.doR r).2) me n b).1,?_⟩
 obtain ⟨Z,eZ,gr,nZ,oZ⟩:=boxS H3 SRec.zero.cells (voteD (fun r=>(s.doR r).2) me n b).1.cells
 change K _ ((H3.new (.cells SRec.zero.cells 0 false 0)).set H3.next (.cells (voteD (fun r=>(s.doR r).2) me n b).1.cells 0 false 0))
 rw [eZ]
 have uZ:Upd H3 Z []:=⟨by omega,fun j hj _=>oZ j hj⟩
 apply hK;clear hK K
 have gsZ:=uZ.keep (by simp) gs
 have giZ:=uZ.keep (by simp) giY
 have gbZ:=uZ.keep (by simp) gbY
 have hbZ:BlkAt Z b pb tb:=hbY.same fun j hj=>oZ j hj
 have satZ:=satY.upd uZ
 refine AW_cut (fun ρ' M=>ρ' = ⟨174,[(3,.p (some (H.next,0,0))),(7,.p (some (sid,0,0)))]⟩ ∧ Upd Z M []) ?_ ?_
 · refine AW_seq ?_
   refine AW_reg [1,3,5,7,9,50] fun K hK=>?_
   simp [init_eq]
   apply hK;clear hK K
   refine AW_cond' rfl rfl (fun hc=>?_) (fun hc=>?_)
   · have h0:(voteD (fun r=>(s.doR r).2) me n b).2 = 0:=by simpa using hc
     obtain ⟨_,_,hv1,hd0⟩:=vote_zero h0
     obtain ⟨w1,w2⟩:=vote_view h0
     have hag:=vote_again ok h0
     have htw:=vote_twice ok h0 (IntKind.i64.wrap (n + 1))
     obtain ⟨hform,hmay,hdoR⟩:=SSt.doR_zero' hd0
     rw [hv1] at gr
     refine AW_seq ?_
     refine AW_reg [1,3,5,7,11,12] fun K hK=>?_
     simp [init_eq,aload,gsZ,gr,SSt.take,SRec.take]
     refine ACalls.mono (do_ok Z (r:=voteRec me n b) satZ ok (by omega) (by show ([]:List UInt8).length ≤ _; decide)) fun r W ⟨fv2,hv2,pv2,bv2,hr,so,uW⟩=>?_
     subst hr
     simp [V.cells]
     refine ⟨_,safe_store2 (AH.get_new_same ..) rfl _ fv2 hv2 pv2 bv2,?_⟩
     obtain ⟨N,eN,gN,nN,oN⟩:=boxS W zeroS ((s.doR (voteRec me n b)).1.cells fv2 hv2 pv2 bv2)
     change K _ ((W.new (.cells zeroS 0 false 0)).set W.next (.cells ((s.doR (voteRec me n b)).1.cells fv2 hv2 pv2 bv2) 0 false 0))
     rw [eN]
     have uN:Upd W N []:=⟨by omega,fun j hj _=>oN j hj⟩
     have uZN:Upd Z N []:=uW.trans uN (by simp)
     apply hK;clear hK K
     have satN:SAt N (s.doR (voteRec me n b)).1 fv2 hv2 pv2 bv2:=so.sat.upd uN
     have okN:=step_ok ok hform hmay (r:=voteRec me n b) (by show ([]:List UInt8).length ≤ _; decide)
     rw [← show (s.doR (voteRec me n b)).1 = s.act (voteRec me n b) from by rw [hdoR]] at okN
     have gsN:=uZN.keep (by simp) gsZ
     have giN:=uZN.keep (by simp) giZ
     have gbN:=uZN.keep (by simp) gbZ
     have hbN:BlkAt N b pb tb:=hbZ.same fun j hj=>uZN.2 j hj (by simp)
     generalize W.next = tid at gN
     generalize (s.doR (voteRec me n b)).1 = t at *
     refine AW_seq ?_
     refine AW_seq ?_
     refine AW_regto [1,3,5,7,11,85] ⟨174,[(1,.i .i64 n),(3,.p (some (H.next,0,0))),(5,.p (some (H.next + 1,0,0))),(7,.p (some (sid,0,0))),(11,.p (some (tid,0,0))),(85,.b false)]⟩ N (fun K hk=>?_) ?_
     · have fin:ACalls Tryz.prog 15 [.agg (t.cells fv2 hv2 pv2 bv2),.i .i64 n,.agg (b.cells pb tb)] N fun r H'=>r = .b true ∧ H' = N:=by
         refine ACalls.mono (again_ok N b pb tb satN okN (by omega) n) fun r M ⟨hr,e⟩=>⟨by rw [hr,hag],e⟩
       by_cases hh:b.height = 0
       · have hcm:=w2 hh
         have hcm':¬ cmpC b.parent s.high < 0:=by omega
         simp [init_eq,hd0,aload,afieldAddr,gsN,gbN,gN,w1,hh,blk_take,SSt.take]
         refine ACalls.mono (certCmp_ok N b.parent s.high) fun r M ⟨hr,e⟩=>?_
         subst hr e
         simp [hcm',hh,aload,gbN,gN,blk_take,SSt.take]
         refine ACalls.mono fin fun r M ⟨hr,e⟩=>?_
         subst hr e
         simpa using hk
       · simp [init_eq,hd0,aload,afieldAddr,gsN,gbN,gN,w1,hh,blk_take,SSt.take]
         refine ACalls.mono fin fun r M ⟨hr,e⟩=>?_
         subst hr e
         simpa using hk
     refine AW_cond' rfl rfl (fun hc=>?_) (fun hc=>?_)
     · cases hc
     refine AW_skip ?_
     refine AW_seq ?_
     refine AW_reg [3,7,14] fun K hK=>?_
     simp [init_eq,aload,afieldAddr,giN,gbN,gN,blk_take,SSt.take]
     refine ACalls.mono (vote_ok N satN okN (by omega) hbN hsm.fits me (IntKind.i64.wrap (n + 1))) fun r M ⟨hr,e⟩=>?_
     subst hr e
     simp [V.cells]
     refine ⟨_,vrec_store (AH.get_new_same ..) rfl (voteD (fun r=>(t.doR r).2) me (IntKind.i64.wrap (n + 1)) b).1,?_⟩
     apply hK;clear hK K
     refine AW_seq ?_
     refine AW_reg [3,7,97] fun K hK=>?_
     simp [init_eq,htw]
     apply hK;clear hK K
     refine AW_cond' rfl rfl (fun hc=>?_) (fun hc=>?_)
     · cases hc
     refine AW_skip (rend ⟨_,by simp,rfl,?_⟩)
     exact uZN.trans (G:=[]) ⟨by simp,fun j hj _=>by rw [AH.get_set_ne (by omega),AH.get_new,if_neg (by omega)]⟩ (by simp)
   · exact AW_skip (rend ⟨_,by simp,rfl,Upd.refl ..⟩)
 rintro ρ' M ⟨rfl,uM⟩
 have gsM:=uM.keep (by simp) gsZ
 have giM:=uM.keep (by simp) giZ
 have satM:=satZ.upd uM
 have uYM:Upd H3 M []:=uZ.trans uM (by simp)
 have htsM:=htsY.upd uYM
 have htxM:=htxY.upd uYM
 clear gsZ giZ gbZ hbZ satZ
 refine AW_seq ?_
 refine AW_reg [3,7,15,16] fun K hK=>?_
 simp [init_eq,aload,afieldAddr,giM,gsM,SSt.take]
 refine ACalls.mono (lead_ok M (s:=s) me txs htxM hll hte) fun r A ⟨pc,tc,hr,bnew,uA⟩=>?_
 subst hr
 simp [V.cells]
 refine ⟨_,blk_put (AH.get_new_same ..) rfl (leadD s me txs).1 pc tc,?_⟩
 obtain ⟨B,eB,gB,nB,oB⟩:=boxS A (Blk.zero.cells nilV nilV) ((leadD s me txs).1.cells pc tc)
 change K _ ((A.new (.cells (Blk.zero.cells nilV nilV) 0 false 0)).set A.next (.cells ((leadD s me txs).1.cells pc tc) 0 false 0))
 rw [eB]
 have uB:Upd A B []:=⟨by omega,fun j hj _=>oB j hj⟩
 have uMB:Upd M B []:=uA.trans uB (by simp)
 apply hK;clear hK K
 have gsB:=uMB.keep (by simp) gsM
 have giB:=uMB.keep (by simp) giM
 have hcB:BlkAt B (leadD s me txs).1 pc tc:=bnew.at.same fun j hj=>uB.2 j hj (by simp)
 have hcs:=(leadD_small (s:=s) (me:=me) hll hte).fits
 refine AW_seq ?_
 refine AW_seq ?_
 refine AW_regto [3,7,127] ⟨174,[(3,.p (some (H.next,0,0))),(7,.p (some (sid,0,0))),(127,.b false)]⟩ B (fun K hk=>?_) ?_
 · by_cases hz:(leadD s me txs).2 = 0
   · obtain ⟨k1,k2,k3⟩:=leadD_zero hz
     simp [init_eq,hz,aload,gB,blk_take]
     refine ACalls.mono (bcheck_ok B hcB hcs) fun r M2 ⟨hr,e⟩=>?_
     subst hr e
     simp [k1,k2,k3,hz,aload,afieldAddr,gB,gsB,giB,Blk.parent_cells]
     simpa using hk
   · simp [init_eq,hz]
     simpa [hz] using hk
 refine AW_cond' rfl rfl (fun hc=>?_) (fun hc=>?_)
 · cases hc
 refine AW_skip ?_
 have satB:=satM.upd uMB
 have htsB:=htsM.upd uMB
 have htxB:=htxM.upd uMB
 refine AW_seq ?_
 refine AW_reg [3,7,17,18] fun K hK=>?_
 have hz:abuild Tryz.prog 24 [] = some (.agg Cert.zero.cells):=by first | (simp [abuild,afill]; done) | (simp [abuild,afill]; rfl)
 simp [init_eq,aload,afieldAddr,giB,gsB,SSt.take,hz]
 refine ACalls.mono (grow_ok B (s:=s) me ts txs htsB hlt htxB hll hte) fun r C ⟨d,e,pd,td,hr,dnew,uC,dsm,hd⟩=>?_
 subst hr
 simp [V.cells]
 refine ⟨_,blk_put (AH.get_new_same ..) rfl d pd td,?_⟩
 obtain ⟨D,eD,gD,nD,oD⟩:=boxS C (Blk.zero.cells nilV nilV) (d.cells pd td)
 change K _ ((C.new (.cells (Blk.zero.cells nilV nilV) 0 false 0)).set C.next (.cells (d.cells pd td) 0 false 0))
 rw [eD]
 have uD:Upd C D []:=⟨by omega,fun j hj _=>oD j hj⟩
 have uBD:Upd B D []:=uC.trans uD (by simp)
 apply hK;clear hK K
 have gsD:=uBD.keep (by simp) gsB
 have giD:=uBD.keep (by simp) giB
 have htsD:=htsB.upd uBD
 have hdD:BlkAt D d pd td:=dnew.at.same fun j hj=>uD.2 j hj (by simp)
 generalize C.next = did at gD
 refine AW_seq ?_
 refine AW_seq ?_
 refine AW_reg [3,7,17,141] fun K hK=>?_
 simp [init_eq]
 apply hK;clear hK K
 refine AW_cond' rfl rfl (fun hc=>?_) (fun hc=>?_)
 · refine AW_seq ?_
   refine AW_reg [6] fun K hK=>?_
   simp [init_eq]
   apply hK;clear hK K
   refine AW_ret (end_ret rfl ?_)
   simp
 have he0:e = 0:=by simpa using hc
 obtain ⟨d1,d2,d3,d4⟩:=hd he0
 refine AW_skip ?_
 have la:=htsD.alen (P:=Tryz.prog) qelem_25 D
 refine AW_seq ?_
 refine AW_seq ?_
 refine AW_reg [3,7,17,19] fun K hK=>?_
 simp [init_eq]
 apply hK;clear hK K
 refine AW_block ?_
 refine AW_loopx (fun i:Nat=>⟨174,[(3,.p (some (H.next,0,0))),(7,.p (some (sid,0,0))),(17,.p (some (did,0,0))),(19,.i .i64 i)]⟩) (fun i H'=>H' = D ∧ i ≤ ts.length) (fun i=>ts.length - i) 0 (by simp) ⟨rfl,Nat.zero_le _⟩ fun i D' ⟨hM,hi⟩=>?_
 subst hM
 refine AW_seq ?_
 refine AW_seq ?_
 refine AW_reg [3,7,17,19,146] fun K hK=>?_
 simp [init_eq,aload,afieldAddr,giD,la]
 apply hK;clear hK K
 refine AW_cond' rfl rfl (fun hc=>?_) (fun hc=>?_)
 · have hlti:i < ts.length:=by simpa using hc
   obtain ⟨ax,q1,q2⟩:=htsD.at (P:=Tryz.prog) (by omega) qelem_25 qsize_68 (k:=.i64) i (l:=ts[i].cells) (by simp [hlti])
   obtain ⟨tid,tg,toff,tc',tro,tesz,rfl,t1,t2,t3⟩:=q2
   have lh:aload Tryz.prog D' 24 (.p (some (tid,tg,toff + 2))) = some (.agg ts[i].high.cells):=by
    have e8:(tc'.drop (toff + 2)).take 8 = ts[i].high.cells:=by
     have:((tc'.drop toff).take 10).drop 2 = ts[i].cells.drop 2:=by rw [show (10:Nat) = ts[i].cells.length from rfl,t2]
     rw [List.drop_take,List.drop_drop] at this
     exact this
    have:toff + 10 ≤ tc'.length:=t3
    simp [aload,t1,e8]
    omega
   have hcm:¬ cmpC d.parent ts[i].high < 0:=by have:=d4 ts[i] (List.getElem_mem hlti); omega
   refine AW_skip ?_
   refine AW_seq ?_
   refine AW_block ?_
   refine AW_seq ?_
   refine AW_regd [3,7,17,19,158] pl_6_23 pe_6_23 (by kernel_rfl) (by kernel_rfl) (by decide) fun K hK=>?_
   have lp:aload Tryz.prog D' 24 (.p (some (did,0,4))) = some (.agg d.parent.cells):=by simp [aload,gD,Blk.parent_cells]
   have lr:aload Tryz.prog D' 25 (.p (some (H.next,0,3))) = some (.sl p pn pk):=by simp [aload,giD]
   simp [init_eq,pl_6_23,afieldAddr,lp,lr,q1,lh]
   refine ACalls.mono (certCmp_ok D' d.parent ts[i].high) fun r M2 ⟨hr,e⟩=>?_
   subst hr e
   simp [hcm]
   apply hK;clear hK K
   refine AW_cond' rfl rfl (fun hc=>?_) (fun hc=>?_)
   · cases hc
   · refine AW_skip ?_
     refine AW_reg [3,7,17,19] fun K hK=>?_
     simp [init_eq,wrap_id (x:=(i:Int) + 1) (by omega) (by omega)]
     apply hK;clear hK K
     exact rend ⟨i + 1,by simp,⟨rfl,by omega⟩,by omega⟩
 · refine AW_exit (then_exit (then_exit (block_here ?_)))
   refine AW_seq ?_
   refine AW_reg [6] fun K hK=>?_
   simp [init_eq,aload,gD,blk_take]
   refine ACalls.mono (bcheck_ok D' hdD dsm.fits) fun r M2 ⟨hr,e⟩=>?_
   subst hr e
   simp [d1,d2,d3,afieldAddr,aload,gD,gsD]
   apply hK;clear hK K
   refine AW_ret (end_ret rfl ?_)
   simp
theorem rulesKeeps_law (H:AH) (vs:List V) (hv:TVals Tryz.prog H Tryz.f6.params.toList vs):ACalls Tryz.prog 6 vs H fun r _=>r = .b true:=by
 have hv':TVals Tryz.prog H [60,3,28] vs:=hv
 clear hv
 rcases vs with _ | ⟨a,_ | ⟨b,_ | ⟨c,_ | ⟨d,r⟩⟩⟩⟩
 · exact hv'.elim
 · exact hv'.2.elim
 · exact hv'.2.2.elim
 · obtain ⟨w,rfl,_,h⟩:=hv'.1.struct Tryz.underlying60 cellsOf_60
   obtain ⟨rv,lr,e0,_,hr,hr2,_⟩:=(h.fld Tryz.underlying60 0 rfl rfl rfl cellsOf_35).rs Tryz.underlying35 cellsOf_52
   obtain ⟨x1,e1,_⟩:=(h.fld Tryz.underlying60 1 rfl rfl rfl cellsOf_3).int Tryz.underlying3
   obtain ⟨x2,e2,_⟩:=(h.fld Tryz.underlying60 2 rfl rfl rfl cellsOf_3).int Tryz.underlying3
   obtain ⟨pv,lp,e3,_,hp,hp2,_⟩:=(h.fld Tryz.underlying60 3 rfl rfl rfl cellsOf_25).rs Tryz.underlying25 cellsOf_68
   obtain ⟨cc,e4⟩:=tv_cert (h.fld Tryz.underlying60 4 rfl rfl rfl cellsOf_24)
   obtain ⟨tv,lt,e5,_,ht,ht2,_⟩:=(h.fld Tryz.underlying60 5 rfl rfl rfl cellsOf_26).rs Tryz.underlying26 cellsOf_75
   obtain ⟨rs,rfl⟩:=exists_map (f:=SRec.cells) fun l hl=>tv_srec (hr2 l hl)
   obtain ⟨ps,rfl⟩:=exists_map (f:=Tmo.cells) fun l hl=>tv_tmo (hp2 l hl)
   obtain ⟨ts,rfl⟩:=exists_map (f:=Tx.cells) fun l hl=>tv_tx (ht2 l hl)
   have hl:=h.size Tryz.underlying60 cellsOf_60
   obtain ⟨n,rfl,_⟩:=hv'.2.1.i Tryz.underlying3
   obtain ⟨q,rfl,_,h2⟩:=hv'.2.2.1.struct Tryz.underlying28 cellsOf_28
   obtain ⟨y,pb,tb,rfl,hb⟩:=tv_blk h2
   have ew:w = inC rv x1 x2 pv cc tv:=by
    rcases w with _ | ⟨a0,_ | ⟨a1,_ | ⟨a2,_ | ⟨a3,l⟩⟩⟩⟩ <;> simp at hl
    simp at e0 e1 e2 e3 e4 e5
    have e7:l = (l.take 8) ++ (l.drop 8).take 1:=by
     rw [List.take_of_length_le (l:=l.drop 8) (by simp; omega),List.take_append_drop]
    rw [e7,e4,e5,e0,e1,e2,e3]
    rfl
   rw [ew]
   exact rulesKeeps_walk H rs hr x1 x2 ps hp cc ts ht n hb
 · exact hv'.2.2.2.elim
end Go.Proofs.YtaidfojbnfkclaaGreatDoor
