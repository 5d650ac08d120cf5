/-
  ValidCerts: the law says true.
-/
import Derived.Test.YtmhaimdpfelkpaaGreatDoorTxtI
import Derived.Test.YtmhaimdpfelkpaaGreatDoorTxtG
import Derived.Test.YtmhaimdpfelkpaaGreatDoorTxtA
import Derived.Test.YtmhaimdpfelkpaaGreatDoorValidAlive
set_option linter.unusedVariables false
set_option linter.unusedSimpArgs false
namespace Go.Proofs.YtmhaimdpfelkpaaGreatDoor
open Go Go.Abs Go.Proofs
set_option maxRecDepth 100000
attribute [local irreducible] AEnd AW ACalls
theorem lawCont_lenN {N:Nat} (hN:10 ≤ N) (bk:List (List UInt8)) (n:Int):(lawCont bk n).1.proof.length ≤ N ∧ (lawCont bk n).1.txs.length ≤ N:=by
 have hz:Blk.zero.proof.length ≤ N ∧ Blk.zero.txs.length ≤ N:=⟨Nat.zero_le _,Nat.zero_le _⟩
 have hp:∀ l,(parseBlk l).1.proof.length ≤ N ∧ (parseBlk l).1.txs.length ≤ N:=fun l=>by
  by_cases e:(parseBlk l).2 = 0
  · have hg:=Blk.rng (parseBlk_inv e).1
    exact ⟨Nat.le_trans hg.proof hN,Nat.le_trans hg.txs (by omega)⟩
  · rw [parseBlk_bad e]; exact hz
 generalize hR:lawCont bk n = R
 unfold lawCont at hR
 split at hR
 · split at hR
   · rw [← hR]; exact hp _
   · rw [← hR]; exact hz
 · rw [← hR]; exact hz
theorem lawCont_len (bk:List (List UInt8)) (n:Int):(lawCont bk n).1.proof.length ≤ 1000000000 ∧ (lawCont bk n).1.txs.length ≤ 1000000000:=lawCont_lenN (by decide) bk n
theorem coinSeen_ok (H:AH) {ic:Nat} {F:List Nat} {f:Int} {co:Int → Tos} (hc:CoinAt H ic F f co) (view:Int):ACalls Tryz.prog 37 [.p (some (ic,0,0)),.i .i64 view] H fun r H'=>r = .b (co view).seen ∧ H' = H:=by
 obtain ⟨im,es,clk,rfl,h2,h3,h4,h5⟩:=hc
 have hlk:=tos_lookup h4 h5 view
 have hm:aload Tryz.prog H 148 (.p (some (ic,0,1))) = some (.m (some im)):=by simp [aload,h3]
 refine ACalls_body Tryz.func37 rfl rfl ?_
 repeat refine AW_seq ?_
 refine AW_reg [0,1] fun K hK=>?_
 simp [init_eq]
 apply hK;clear hK K
 repeat refine AW_seq ?_
 refine AW_reg [4] fun K hK=>?_
 simp [init_eq,afieldAddr,hm,hlk,afield]
 apply hK;clear hK K
 exact AW_ret (end_ret rfl ⟨by simp,rfl⟩)
theorem RDone.nx {H H':AH} {jb js jc:Nat} {GB GS GC:List Nat} {d:RegD} {n:Nat} (h:RDone H H' jb js jc GB GS GC d n):H.next ≤ H'.next:=by
 obtain ⟨_,_,h,_⟩:=h; exact h.1
theorem same4 {B y z:Nat} {K H1 H2:AH} {ib is ic jb js jc:Nat} {FB FS FC GB GS GC GC':List Nat} {d e d' e':RegD} {n n':Nat} (h1:Both B y z K H1 ib is ic jb js jc FB FS FC GB GS GC d e n) (h2:Both B y z K H2 ib is ic jb js jc FB FS FC GB GS GC' d' e' n') (hn:H1.next ≤ H2.next) {p q:Nat} (hp:p < B) (hq:q < B) :
  H1.next ≤ H2.next ∧ (y < H1.next → H2.get y = H1.get y) ∧ (z < H1.next → H2.get z = H1.get z) ∧ (p < H1.next → H2.get p = H1.get p) ∧ (q < H1.next → H2.get q = H1.get q) :=
 ⟨hn,fun _=>by rw [h2.same y (.inr (.inl rfl)),h1.same y (.inr (.inl rfl))],fun _=>by rw [h2.same z (.inr (.inr rfl)),h1.same z (.inr (.inr rfl))],fun _=>by rw [h2.same p (.inl hp),h1.same p (.inl hp)],fun _=>by rw [h2.same q (.inl hq),h1.same q (.inl hq)]⟩
theorem neq_cert (x:Cert):abin Tryz.prog .neq 29 (.agg x.cells) (.agg x.cells) = some (.b false):=by
 show (Go.Abs.aeq ..).map _ = _; rw [Cert.aeq]; simp
set_option maxHeartbeats 8000000 in
theorem validcerts_law (H:AH) {i:InD} {li:List V} (hi:InAt H i li) (c:Cert) (t:Tmo) {v:V} {ps:List Tmo} (hps:RS H v 10 (ps.map Tmo.cells)) (view:Int):ACalls Tryz.prog 6 [.agg li,.agg c.cells,.agg t.cells,v,.i .i64 view] H fun r H'=>r = .b true:=by
 refine ACalls_body Tryz.func6 rfl rfl ?_
 repeat refine AW_seq ?_
 refine AW_reg [3,4,5,6,7] fun K hK=>?_
 simp [init_eq,V.cells]
 obtain ⟨H1,e1,hp1,hp2,hp3,hn,ho⟩:=H.boxed3 li c.cells t.cells
 rw [e1]
 apply hK;clear hK K
 have hi1:=hi.same ho
 have hps1:=hps.same ho
 have hl6:li.length = 6:=by obtain ⟨vb,vc,vs,vk,e,_⟩:=hi.ex; rw [e]; rfl
 have hlt6:li.take 6 = li:=List.take_of_length_le (by omega)
 have lx:∀ G:AH,alen Tryz.prog G 30 v = some (.i .i64 ps.length):=fun G=>hps1.alen (P:=Tryz.prog) qelem_30 G
 clear e1
 generalize ha:H.next = a at *
 repeat refine AW_seq ?_
 refine AW_reg [3,4,5,6,7,19] fun K hK=>?_
 simp [init_eq]
 refine ACalls.mono (alive_ok ..) fun r H' ⟨hr,e⟩=>?_
 subst hr e
 try simp
 apply hK;clear hK K
 refine AW_condF rfl ?_
 refine AW_skip ?_
 repeat refine AW_seq ?_
 refine AW_regto [3,4,5,6,7,26] ⟨104,[(3,v),(4,.i .i64 view),(5,.p (some (a,0,0))),(6,.p (some (a + 1,0,0))),(7,.p (some (a + 2,0,0))),(26,.b (farB i || decide (30 < ps.length)))]⟩ H' (fun K hk=>?_) ?_
 · simp [init_eq,aload,hp1,hl6,hlt6]
   refine ACalls.mono (far_ok H' hi1) fun r H2 ⟨hr,e⟩=>?_
   subst hr e
   cases g1:farB i
   · have g2:((30:Int) < ps.length) = (30 < ps.length):=propext (by omega)
     simpa [g1,lx,g2] using hk
   · simpa [g1] using hk
 refine AW_cond' rfl rfl (fun hc=>?_) (fun hc=>?_)
 · repeat refine AW_seq ?_
   refine AW_reg [10] fun K hK=>?_
   simp [init_eq]
   apply hK;clear hK K
   exact AW_ret (end_ret rfl rfl)
 have hfar:farB i = false:=by simp at hc; exact hc.1
 have hpl:ps.length ≤ 30:=by simp at hc; omega
 clear hc
 refine AW_skip ?_
 repeat refine AW_seq ?_
 refine AW_reg [3,4,6,7,11,12,13] fun K hK=>?_
 simp [init_eq,aload,hp1,hl6,hlt6]
 refine ACalls.mono (laws_ok H' hi1 hfar) fun r H2 hr=>?_
 rcases hr with ⟨rfl,u2⟩ | ⟨ib,is,ic,jb,js,jc,FB,FS,FC,GB,GS,GC,rfl,L⟩
 · simp [V.cells,astore,AH.get_new,AH.get_set]
   apply hK;clear hK K
   repeat refine AW_seq ?_
   refine AW_reg [3,4,6,7,11,12,34] fun K hK=>?_
   simp [init_eq]
   apply hK;clear hK K
   refine AW_condT rfl ?_
   repeat refine AW_seq ?_
   refine AW_reg [10] fun K hK=>?_
   simp [init_eq]
   apply hK;clear hK K
   exact AW_ret (end_ret rfl rfl)
 simp [V.cells,astore,AH.get_new,AH.get_set]
 apply hK;clear hK K
 generalize hG:AH.set _ (H2.next + 1) _ = G
 have x1:G.get H2.next = some (.cells (lawV ib is ic) 0 false 0):=by
  rw [← hG,AH.get_set_ne (by omega),AH.get_set_same (by simp; omega)]; rfl
 have x2:G.get (H2.next + 1) = some (.cells (lawV jb js jc) 0 false 0):=by
  rw [← hG,AH.get_set_same (by simp)]; rfl
 have ko:∀ j,j < H2.next → G.get j = H2.get j:=fun j hj=>by rw [← hG]; simp [AH.get_set,AH.get_new,show j ≠ H2.next by omega,show j ≠ H2.next + 1 by omega]
 have kn:G.next = H2.next + 2:=by rw [← hG]; simp
 clear hG
 have u3:Upd H2 G []:=⟨by omega,fun j hj _=>ko j hj⟩
 have u4:=L.upd.trans u3 (by simp)
 have k0:=L.both hfar u3 kn
 have hnB:H'.next = a + 3:=hn
 have g2:G.get (a + 1) = some (.cells c.cells 0 false 0):=u4.keep (by simp) hp2
 have g3:G.get (a + 2) = some (.cells t.cells 0 false 0):=u4.keep (by simp) hp3
 have hvlt:=rs_lt hps1
 have hpsG:∀ G':AH,(∀ j,j < H'.next → G'.get j = G.get j) → RS G' v 10 (ps.map Tmo.cells):=fun G' hG=>hps1.same fun j hj=>by rw [hG j hj,u4.2 j hj (by simp)]
 have hyB:H'.next ≤ H2.next:=L.upd.1
 generalize regOf i = d at *
 generalize hy:H2.next = y at *
 have hin:∀ G':AH,(∀ j,(j < H'.next ∨ j = y ∨ j = y + 1) → G'.get j = G.get j) → G'.get y = some (.cells (lawV ib is ic) 0 false 0) ∧ G'.get (y + 1) = some (.cells (lawV jb js jc) 0 false 0) ∧ G'.get (a + 1) = some (.cells c.cells 0 false 0) ∧ G'.get (a + 2) = some (.cells t.cells 0 false 0) ∧ RS G' v 10 (ps.map Tmo.cells):=fun G' hG =>
  ⟨by rw [hG y (.inr (.inl rfl))]; exact x1,by rw [hG (y + 1) (.inr (.inr rfl))]; exact x2,by rw [hG _ (.inl (by omega))]; exact g2,by rw [hG _ (.inl (by omega))]; exact g3,hpsG G' fun j hj=>hG j (.inl hj)⟩
 have ldA:∀ G':AH,G'.get y = some (.cells (lawV ib is ic) 0 false 0) → aload Tryz.prog G' 41 (.p (some (y,0,0))) = some (.agg (lawV ib is ic)):=fun G' h=>by simp [aload,h]
 have ldB:∀ G':AH,G'.get (y + 1) = some (.cells (lawV jb js jc) 0 false 0) → aload Tryz.prog G' 46 (.p (some (y + 1,0,0))) = some (.agg (lawV jb js jc)):=fun G' h=>by simp [aload,h]
 have ldC:∀ G':AH,G'.get (a + 1) = some (.cells c.cells 0 false 0) → aload Tryz.prog G' 29 (.p (some (a + 1,0,0))) = some (.agg c.cells):=fun G' h=>by simp [aload,h,take_cells]
 have ldT:∀ G':AH,G'.get (a + 2) = some (.cells t.cells 0 false 0) → aload Tryz.prog G' 69 (.p (some (a + 2,0,0))) = some (.agg t.cells):=fun G' h=>by simp [aload,h,tmo_take]
 repeat refine AW_seq ?_
 refine AW_reg [3,4,6,7,11,12,34] fun K hK=>?_
 simp [init_eq]
 apply hK;clear hK K
 refine AW_condF rfl ?_
 refine AW_skip ?_
 obtain ⟨a1,a2,a3,a4,a5⟩:=hin G (fun _ _=>rfl)
 repeat refine AW_seq ?_
 refine AW_regm (.only [y,y + 1,a + 1,a + 2]) [6,11,12,68] pl_6_8 pe_6_8 (by kernel_rfl) (by kernel_rfl) (by decide) fun K hK=>?_
 simp [init_eq,pl_6_8,APlan_takem,through,tkOk,rid,ldA G a1,ldB G a2,ldC G a3]
 refine ACalls.mono (lawCert_ok G k0.law c) fun r G1 ⟨hr,h1,h2⟩=>?_
 subst hr
 have k1:=k0.prog h1 h2
 obtain ⟨a1,a2,a3,a4,a5⟩:=hin G1 k1.same
 refine ⟨same4 k0 k1 h2.1 (by omega) (by omega),?_⟩
 refine ACalls.mono (rlawCert_ok G1 k1.rlaw (by omega) c) fun r G2 ⟨hr,h3⟩=>?_
 subst hr
 obtain ⟨GC2,k2⟩:=k1.ref h3
 obtain ⟨a1,a2,a3,a4,a5⟩:=hin G2 k2.same
 refine ⟨same4 k1 k2 h3.nx (by omega) (by omega),?_⟩
 simp [init_eq,APlan_takem,through,tkOk,rid,ldA G2 a1,ldB G2 a2,ldC G2 a3,ldT G2 a4,neq_cert]
 generalize ({ d with co:=(certR d c).2 }:RegD) = d1 at k2
 refine ACalls.mono (lawTimeout_ok G2 k2.law t) fun r G3 ⟨hr,h1,h2⟩=>?_
 subst hr
 have k3:=k2.prog h1 h2
 obtain ⟨a1,a2,a3,a4,a5⟩:=hin G3 k3.same
 refine ⟨same4 k2 k3 h2.1 (by omega) (by omega),?_⟩
 refine ACalls.mono (rlawTimeout_ok G3 k3.rlaw (by omega) t) fun r G4 ⟨hr,h3⟩=>?_
 subst hr
 obtain ⟨GC4,k4⟩:=k3.ref h3
 obtain ⟨a1,a2,a3,a4,a5⟩:=hin G4 k4.same
 refine ⟨same4 k3 k4 h3.nx (by omega) (by omega),?_⟩
 simp [init_eq,APlan_takem,through,tkOk,rid,ldA G4 a1,ldB G4 a2,ldC G4 a3,ldT G4 a4,neq_cert]
 generalize d1.set (tmoR d1 t).2 = d2 at k4
 refine ACalls.mono (lawProof_ok G4 k4.law a5 (k4.outF hvlt) (by omega) view) fun r G5 ⟨hr,h1,h2⟩=>?_
 subst hr
 have k5:=k4.prog h1 h2
 obtain ⟨a1,a2,a3,a4,a5⟩:=hin G5 k5.same
 refine ⟨same4 k4 k5 h2.1 (by omega) (by omega),?_⟩
 refine ACalls.mono (rlawProof_ok G5 k5.rlaw a5 (k5.outG hvlt) (by omega) (by omega) view) fun r G6 ⟨hr,h3⟩=>?_
 subst hr
 obtain ⟨GC6,k6⟩:=k5.ref h3
 obtain ⟨a1,a2,a3,a4,a5⟩:=hin G6 k6.same
 refine ⟨same4 k5 k6 h3.nx (by omega) (by omega),?_⟩
 simp [init_eq,APlan_takem,through,tkOk,rid,ldA G6 a1,ldB G6 a2,ldC G6 a3,ldT G6 a4,neq_cert]
 generalize d2.set (proofR d2 view ps).2 = d3 at k6
 refine ACalls.mono (highest_ok G6 a5 (by omega)) fun r G7 ⟨hr,e⟩=>?_
 subst hr e
 refine ⟨⟨Nat.le_refl _,fun _=>rfl,fun _=>rfl,fun _=>rfl,fun _=>rfl⟩,?_⟩
 refine ACalls.mono (rhighest_ok G7 a5 (by omega)) fun r G8 ⟨hr,e⟩=>?_
 subst hr e
 refine ⟨⟨Nat.le_refl _,fun _=>rfl,fun _=>rfl,fun _=>rfl,fun _=>rfl⟩,?_⟩
 simp [init_eq,APlan_takem,through,tkOk,rid,neq_cert]
 apply hK;clear hK K
 refine AW_condF rfl ?_
 refine AW_skip ?_
 have ldK:∀ (G':AH) (q:Nat) (b:Blk) (pv tv:V),G'.get q = some (.cells (b.cells pv tv) 0 false 0) → aload Tryz.prog G' 33 (.p (some (q,0,0))) = some (.agg (b.cells pv tv)):=fun G' q b pv tv h=>by simp [aload,h,blk_take]
 have ldN:∀ G':AH,G'.get (a + 1) = some (.cells c.cells 0 false 0) → ∀ n v,c.cells[n]? = some v → aload Tryz.prog G' 3 (.p (some (a + 1,0,n))) = some v:=fun G' h n v e=>by simp [aload,h,e]
 obtain ⟨l1,l2⟩:=lawCont_len d3.bk c.block
 generalize hR:lawCont d3.bk c.block = R at l1 l2
 repeat refine AW_seq ?_
 refine AW_reg [6,11,12,14,15] fun K hK=>?_
 simp [init_eq,afieldAddr,ldA G8 a1,ldN G8 a3 1 _ rfl]
 refine ACalls.mono (lawContent_ok G8 k6.law c.block) fun r G9 ⟨pv,tv,hr,hb,u9⟩=>?_
 rw [hR] at hr hb
 subst hr
 have k7:=k6.upd0 u9
 simp [V.cells,astore,AH.get_new,AH.get_set]
 apply hK;clear hK K
 generalize hG:AH.set _ G9.next _ = G10
 have x10:G10.get G9.next = some (.cells (R.1.cells pv tv) 0 false 0):=by
  rw [← hG,AH.get_set_same (by simp)]; rfl
 have o10:∀ j,j < G9.next → G10.get j = G9.get j:=fun j hj=>by rw [← hG]; simp [AH.get_set,AH.get_new,show j ≠ G9.next by omega]
 have n10:G10.next = G9.next + 1:=by rw [← hG]; simp
 clear hG
 have u10:Upd G9 G10 []:=⟨by omega,fun j hj _=>o10 j hj⟩
 have k8:=k7.upd0 u10
 obtain ⟨a1,a2,a3,a4,a5⟩:=hin G10 k8.same
 repeat refine AW_seq ?_
 refine AW_reg [6,11,12,14,15,16,17] fun K hK=>?_
 simp [init_eq,afieldAddr,ldB G10 a2,ldN G10 a3 1 _ rfl]
 refine ACalls.mono (rlawContent_ok G10 k8.rlaw c.block) fun r G11 ⟨pw,tw,hr,hb',u11⟩=>?_
 rw [hR] at hr hb'
 subst hr
 have k9:=k8.upd0 u11
 simp [V.cells,astore,AH.get_new,AH.get_set]
 apply hK;clear hK K
 generalize hG:AH.set _ G11.next _ = G12
 have x12:G12.get G11.next = some (.cells (R.1.cells pw tw) 0 false 0):=by
  rw [← hG,AH.get_set_same (by simp)]; rfl
 have o12:∀ j,j < G11.next → G12.get j = G11.get j:=fun j hj=>by rw [← hG]; simp [AH.get_set,AH.get_new,show j ≠ G11.next by omega]
 have n12:G12.next = G11.next + 1:=by rw [← hG]; simp
 clear hG
 have u12:Upd G11 G12 []:=⟨by omega,fun j hj _=>o12 j hj⟩
 have k10:=k9.upd0 u12
 obtain ⟨a1,a2,a3,a4,a5⟩:=hin G12 k10.same
 have hbA:BlkAt G12 R.1 pv tv:=((hb.same o10).same fun j hj=>u11.2 j hj (by simp)).same o12
 have hbB:BlkAt G12 R.1 pw tw:=hb'.here.same o12
 have x10':G12.get G9.next = some (.cells (R.1.cells pv tv) 0 false 0):=by rw [o12 _ (by have:=u11.1; omega),u11.2 _ (by omega) (by simp)]; exact x10
 obtain ⟨gv,sn,c1,c2,c3,c4⟩:=k10.rlaw.coin
 have hseen:=(c2 c.view).2.2
 repeat refine AW_seq ?_
 refine AW_regd [10] pl_6_12 pe_6_12 (by kernel_rfl) (by kernel_rfl) (by decide) fun K hK=>?_
 simp [init_eq,pl_6_12,afieldAddr,ldK G12 _ _ _ _ x10',ldK G12 _ _ _ _ x12]
 refine ACalls.mono (rsameBlk_ok G12 hbA hbB l1 l2) fun r G13 ⟨hr,e⟩=>?_
 subst hr e
 refine ⟨AH.ext.refl _,?_⟩
 simp [init_eq,APlan_takem,through,tkOk,rid,afieldAddr,aload,a1,a2,a3]
 refine ACalls.mono (coinSeen_ok G13 k10.law.coin c.view) fun r G14 ⟨hr,e⟩=>?_
 subst hr e
 refine ⟨AH.ext.refl _,?_⟩
 refine ACalls.mono (rwas_ok G14 c1 (by omega) c.view) fun r G15 ⟨hr,e⟩=>?_
 subst hr e
 refine ⟨AH.ext.refl _,?_⟩
 simp [init_eq,hseen]
 apply hK;clear hK K
 exact AW_ret (end_ret rfl rfl)
theorem validCerts_law (H:AH) (vs:List V) (hv:TVals Tryz.prog H Tryz.f6.params.toList vs):ACalls Tryz.prog 6 vs H fun r _=>r = .b true:=by
 have hv':TVals Tryz.prog H [27,29,69,30,3] vs:=hv
 clear hv
 rcases vs with _ | ⟨a,_ | ⟨b,_ | ⟨c,_ | ⟨d,_ | ⟨e,_ | ⟨z,r⟩⟩⟩⟩⟩⟩
 · exact hv'.elim
 · exact hv'.2.elim
 · exact hv'.2.2.elim
 · exact hv'.2.2.2.elim
 · exact hv'.2.2.2.2.elim
 · obtain ⟨l,rfl,_,h⟩:=hv'.1.struct Tryz.underlying27 cellsOf_27
   obtain ⟨i,hi⟩:=tv_in h
   obtain ⟨l,rfl,_,h⟩:=hv'.2.1.struct Tryz.underlying29 cellsOf_29
   obtain ⟨c,rfl⟩:=tv_cert h
   obtain ⟨l,rfl,_,h⟩:=hv'.2.2.1.struct Tryz.underlying69 cellsOf_69
   obtain ⟨t,rfl⟩:=tv_tmo h
   obtain ⟨ls,h3,h4,_⟩:=hv'.2.2.2.1.rs Tryz.underlying30 cellsOf_69
   obtain ⟨ps,rfl⟩:=exists_map (f:=Tmo.cells) fun l hl=>tv_tmo (h4 l hl)
   obtain ⟨x,rfl,_⟩:=hv'.2.2.2.2.1.i Tryz.underlying3
   exact validcerts_law H hi c t h3 x
 · exact hv'.2.2.2.2.2.elim
end Go.Proofs.YtmhaimdpfelkpaaGreatDoor
