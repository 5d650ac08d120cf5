/-
  leave: the next view. (Printed by gen_saf7.py.)
-/
import Derived.Test.YtaidfojbnfkclaaGreatDoorSaf6
set_option linter.unusedVariables false
set_option linter.unusedSimpArgs false
namespace Go.Proofs.YtaidfojbnfkclaaGreatDoor
open Go Go.Abs Go.Proofs
set_option maxRecDepth 100000
attribute [local irreducible] AEnd AW ACalls
def SSt.leave (s:SSt) (r:SRec):SSt :=
 { SSt.zero with last:=s.last,view:=s.view + 1,high:=(if (s.head r.author).kind = 0 then s.high else maxC s.high { s.head r.author with coin:=r.set }),past:=s.past ++ [r.set],count:=s.count,tip:=s.tip,blocks:=s.blocks }
def setC (x:BitVec 32):List V:=[u32 x]
def strC (t:List UInt8):List V:=[.s t]
def nilV:V:=.sl none 0 false
def lq1:Plan:=.alt 25 false .done .stop
def lq2:Plan:=.alt 24 true lq1 .stop
def lq3:Plan:=.take 23 lq2
def lq4:Plan:=.take 23 lq1
def lq5:Plan:=.alt 22 true lq4 .stop
def lq6:Plan:=.alt 24 true lq5 .stop
def lq7:Plan:=.alt 22 true lq3 lq6
def lq8:Plan:=.alt 15 true lq5 .stop
def lq9:Plan:=.alt 24 true lq8 .stop
def lq10:Plan:=.alt 15 true lq7 lq9
def lq11:Plan:=.alt 14 true lq8 .stop
def lq12:Plan:=.alt 24 true lq11 .stop
def lq13:Plan:=.alt 14 true lq10 lq12
def lq14:Plan:=.alt 9 true lq8 .stop
def lq15:Plan:=.alt 24 true lq14 .stop
def lq16:Plan:=.alt 9 true lq10 lq15
def lq17:Plan:=.alt 14 true lq14 .stop
def lq18:Plan:=.alt 9 true lq11 lq17
def lq19:Plan:=.alt 24 true lq18 .stop
def lq20:Plan:=.alt 14 true lq16 lq19
def lq21:Plan:=.alt 9 true lq13 lq20
def lq0:Plan:=.take 0 (.take 1 (.take 2 (.take 3 (.take 4 (.take 5 (.take 6 (.take 7 (.take 8 (.take 10 (.take 11 (.take 12 (.take 13 (.take 16 (.take 17 (.take 18 (.take 19 (.take 20 (.take 21 lq21))))))))))))))))))
theorem one_set (x:BitVec 32) (M:AH):abuildSlice Tryz.prog M 39 1 [(0,u32 x)] = some (.sl (some (M.next,0,0)) 1 false,M.new (.cells [u32 x] 0 false 1)):=by
 simp [abuildSlice,afill,u32_cells,splice_zero]
 try rfl
theorem set_src {M:AH} {i:Nat} {x:BitVec 32} (h:M.get i = some (.cells [u32 x] 0 false 1)):asource Tryz.prog M 1 (.sl (some (i,0,0)) 1 false) = some ([u32 x],1):=by
 simp [asource,h]
theorem cert_store {G:AH} {q:Nat} {l:List V} (hq:G.get q = some (.cells l 0 false 0)) (hl:l.length = 8) (c:Cert):astore Tryz.prog G 24 (.p (some (q,0,0))) (.agg c.cells) = some (G.set q (.cells c.cells 0 false 0)):=by
 simp [astore,V.cells,hq,show splice l 0 c.cells = c.cells from splice_all (by rw [hl]; rfl),hl]
def zeroS:List V:=SSt.zero.cells nilV nilV nilV nilV
theorem keepU {M M':AH} {F:List Nat} {n:Nat} (u:Upd M M' F) (hF:∀ j ∈ F,n ≤ j):Keep n M M':=⟨u.1,fun j hj hn=>u.2 j hj fun hm=>by have:=hF j hm; omega⟩
theorem safe_store {M:AH} {q:Nat} (hq:M.get q = some (.cells zeroS 0 false 0)) (s:SSt) (fv hv pv bv:V):astore Tryz.prog M 42 (.p (some (q,0,0))) (.agg (s.cells fv hv pv bv)) = some (M.set q (.cells (s.cells fv hv pv bv) 0 false 0)):=by
 simp [astore,V.cells,hq,show splice zeroS 0 (s.cells fv hv pv bv) = s.cells fv hv pv bv from splice_all rfl,show zeroS.length = 32 from rfl]
theorem leave_build (s:SSt) (r:SRec) {pv bv:V} {c1 c2:List V} (hp:pv.cells = some [pv]) (hb:bv.cells = some [bv]) :
  abuild Tryz.prog 42 [(0,.i .i64 s.last),(1,.i .i64 (s.view + 1)),(5,.agg s.high.cells),(11,pv),(12,.i .i64 s.count),(13,.i .i64 s.tip),(14,bv)] =
   some (.agg (({ s.leave r with high:=s.high }:SSt).cells nilV nilV pv bv)):=by
 simp [abuild,afill,hp,hb]
 first | done | rfl
set_option maxHeartbeats 4000000 in
theorem leave_ok (H:AH) {rid:Nat} {s:SSt} {fv hv pv bv:V} {r:SRec} {k:Nat} (hrc:H.get rid = some (.cells r.cells 0 false 0)) (ha:SAt H s fv hv pv bv) (ok:s.Ok k) (hk:k ≤ 10000000) :
  ACalls Tryz.prog 50 [.agg (s.cells fv hv pv bv),.p (some (rid,0,0))] H fun v H'=>∃ pv' bv',v = .agg ((s.leave r).cells nilV nilV pv' bv') ∧ (∃ F1 F2,Own H' pv' 1 ((s.leave r).past.map setC).flatten F1 ∧ Own H' bv' 1 ((s.leave r).blocks.map strC).flatten F2 ∧ (∀ j ∈ F1,H.next ≤ j) ∧ (∀ j ∈ F2,H.next ≤ j)) ∧ Upd H H' []:=by
 refine ACalls_body Tryz.func50 rfl rfl ?_
 refine AW_seq ?_
 refine AW_reg [1,2,4] fun K hK=>?_
 simp [init_eq,V.cells]
 obtain ⟨H1,e1,hp1,hp2,hn,ho1⟩:=H.boxed2 (s.cells fv hv pv bv) zeroS
 change K _ ((H.new (.cells (s.cells fv hv pv bv) 0 false 0)).new (.cells zeroS 0 false 0))
 rw [e1]
 have u1:Upd H H1 []:=⟨by omega,fun j hj _=>ho1 j hj⟩
 have hrc1:=u1.keep (by simp) hrc
 have ha1:=ha.upd u1
 refine hK _ H1 ?_; clear hK K
 have hwv:IntKind.i64.wrap (s.view + 1) = s.view + 1:=wrap_id (by have:=ok.v1; have:=ok.vl; have:=ok.lm; omega) (by have:=ok.v1; have:=ok.vl; have:=ok.lm; omega)
 have hpl:s.past.length ≤ 10000000:=by have:=ok.pl; have:=ok.vl; have:=ok.lm; omega
 have hbl:=ok.bl
 refine AW_cut (fun ρ' G=>∃ q pv' bv',ρ' = ⟨51,[(1,.p (some (rid,0,0))),(2,.p (some (H.next,0,0))),(4,.p (some (H.next + 1,0,0))),(5,.p (some (q,0,0)))]⟩ ∧
  G.get q = some (.cells (({ s.leave r with high:=s.high }:SSt).cells nilV nilV pv' bv') 0 false 0) ∧ (∃ F1 F2,Own G pv' 1 ((s.past ++ [r.set]).map setC).flatten F1 ∧ Own G bv' 1 (s.blocks.map strC).flatten F2 ∧ q ∉ F1 ∧ q ∉ F2 ∧ (∀ j ∈ F1,H1.next ≤ j) ∧ (∀ j ∈ F2,H1.next ≤ j)) ∧ Upd H1 G [] ∧ H1.next ≤ q) ?_ ?_
 · refine AW_regm (.base H1.next) [1,2,4,5] lq0 pe_50_1 (by kernel_rfl) (by kernel_rfl) (by decide) fun K hK=>?_
   have fin:∀ (M:AH) (q:Nat) (pv' bv':V) (F1 F2:List Nat),M.get q = some (.cells zeroS 0 false 0) → H1.next ≤ q → Own M pv' 1 ((s.past ++ [r.set]).map setC).flatten F1 → Own M bv' 1 (s.blocks.map strC).flatten F2 → q ∉ F1 → q ∉ F2 → (∀ j ∈ F1,H1.next ≤ j) → (∀ j ∈ F2,H1.next ≤ j) → Upd H1 M [] →
     ∃ M2,astore Tryz.prog M 42 (.p (some (q,0,0))) (.agg (({ s.leave r with high:=s.high }:SSt).cells nilV nilV pv' bv')) = some M2 ∧ K ⟨51,[(1,.p (some (rid,0,0))),(2,.p (some (H.next,0,0))),(4,.p (some (H.next + 1,0,0))),(5,.p (some (q,0,0)))]⟩ M2:=by
    intro M q pv' bv' F1 F2 hq hqn o1 o2 n1 n2 l1 l2 u
    have uq:Upd M (M.set q (.cells (({ s.leave r with high:=s.high }:SSt).cells nilV nilV pv' bv') 0 false 0)) [q]:=Upd.set _ _ _ (by simp)
    refine ⟨_,safe_store hq ..,hK _ _ (rend ⟨_,by simp,q,pv',bv',rfl,AH.get_set_same (AH.get_lt hq),⟨F1,F2,o1.upd uq (fun j hj h=>n1 (by simp at h; exact h ▸ hj)),o2.upd uq (fun j hj h=>n2 (by simp at h; exact h ▸ hj)),n1,n2,l1,l2⟩,?_,hqn⟩)⟩
    exact u.trans uq (fun j hj=>.inr (by simp at hj; omega))
   unfold lq0
   have hb1:H.next + 1 ≤ H1.next:=by omega
   have hb2:rid + 1 ≤ H1.next:=AH.get_lt hrc1
   simp [init_eq,APlan_takem,through,tkOk,Go.Abs.rid,aload,afieldAddr,hp1,hrc1,hwv,hb1,hb2]
   rw [show lq21 = .alt 9 true lq13 lq20 from rfl,APlan_alt]
   refine ⟨?_,?_⟩
   · simp
     refine ACalls.mono (cloneSet H1 (ls:=s.past.map setC) ((ha1.past).upd (Upd.refl H1 [])) (by simp; omega)) fun v1 M1 ⟨F1,ow1',up1,fb1⟩=>?_
     refine ⟨keepU up1 (by simp),?_⟩
     have u1:Upd H1 M1 []:=(Upd.refl H1 []).trans up1 (by simp)
     have lt1:=ow1'.lt
     have nx1:=(Upd.refl H1 []).1
     have lo1:∀ j ∈ F1,H1.next ≤ j:=fun j hj=>by have:=fb1 j hj; omega
     rw [show lq13 = .alt 14 true lq10 lq12 from rfl,APlan_alt]
     refine ⟨?_,?_⟩
     · simp [one_set]
       obtain ⟨M2,hM2⟩:∃ X,X = M1.new (.cells [u32 r.set] 0 false 1):=⟨_,rfl⟩
       rw [← hM2]
       have up2:Upd M1 M2 []:=by rw [hM2]; exact Upd.new ..
       have u2:Upd H1 M2 []:=u1.trans up2 (by simp)
       have ow2:=(ow1').upd up2 (by simp)
       have gx2':M2.get M1.next = some (.cells [u32 r.set] 0 false 1):=by rw [hM2]; exact AH.get_new_same ..
       rw [show lq10 = .alt 15 true lq7 lq9 from rfl,APlan_alt]
       refine ⟨?_,?_⟩
       · obtain ⟨v3,M3,F3,a3,op3',up3,fp3⟩:=(ow2).append appSet (set_src gx2') (by simp) (by rw [flatten_len (sz:=1) (s.past.map setC) (fun l hl=>by obtain ⟨y,_,rfl⟩:=List.mem_map.1 hl; rfl)]; simp [roomOk]; omega)
         simp [a3]
         refine ⟨keepU up3 lo1,?_⟩
         have u3:Upd H1 M3 []:=u2.trans up3 (fun j hj=>.inr (lo1 j hj))
         have op3:Own M3 v3 1 ((s.past ++ [r.set]).map setC).flatten F3:=by simpa [setC] using op3'
         have pl3:∀ j ∈ F3,H1.next ≤ j:=fun j hj=>by
          rcases fp3 _ hj with h | h
          · exact lo1 j h
          · have:=u2.1; omega
         rw [show lq7 = .alt 22 true lq3 lq6 from rfl,APlan_alt]
         refine ⟨?_,?_⟩
         · simp
           refine ACalls.mono (cloneStr M3 (ls:=s.blocks.map strC) ((ha1.blocks).upd u3) (by simp; omega)) fun v4 M4 ⟨F4,ow4',up4,fb4⟩=>?_
           refine ⟨keepU up4 (by simp),?_⟩
           have u4:Upd H1 M4 []:=u3.trans up4 (by simp)
           have lt4:=ow4'.lt
           have nx4:=u3.1
           have op4:=(op3).upd up4 (by simp)
           have lo4:∀ j ∈ F4,H1.next ≤ j:=fun j hj=>by have:=fb4 j hj; omega
           rw [show lq3 = .take 23 lq2 from rfl,APlan_takem]
           refine ⟨by simp [through,tkOk,Go.Abs.rid],?_⟩
           simp [leave_build s r (c1:=[]) (c2:=[]) (op4).cells (ow4').cells]
           rw [show lq2 = .alt 24 true lq1 .stop from rfl,APlan_alt]
           refine ⟨?_,?_⟩
           · simp [V.cells]
             obtain ⟨M5,hM5⟩:∃ X,X = M4.new (.cells [V.i .i64 0,.i .i64 0,.i .i64 0,.i .i64 0,.i .i64 0,.i .i64 0,.i .i64 0,.i .i64 0,.i .i64 0,.i .i64 0,.i .i64 0,u32 0#32,u32 0#32,.i .i64 0,.i .i64 0,.i .i64 0,.i .i64 0,.i .i64 0,.i .i64 0,u32 0#32,u32 0#32,.sl none 0 false,.sl none 0 false,.b false,.s [],.s [],.s [],.s [],.sl none 0 false,.i .i64 0,.i .i64 0,.sl none 0 false] 0 false 0):=⟨_,rfl⟩
             rw [← hM5]
             have up5:Upd M4 M5 []:=by rw [hM5]; exact Upd.new ..
             have u5:Upd H1 M5 []:=u4.trans up5 (by simp)
             have op5:=(op4).upd up5 (by simp)
             have ob5:=(ow4').upd up5 (by simp)
             have gq5':M5.get M4.next = some (.cells zeroS 0 false 0):=by rw [hM5]; exact AH.get_new_same ..
             have lq5:H1.next ≤ M4.next:=u4.1
             have qp5:M4.next ∉ F3:=fun h=>by have:=(op4).lt _ h; omega
             have qb5:M4.next ∉ F4:=fun h=>by have:=(ow4').lt _ h; omega
             rw [show lq1 = .alt 25 false .done .stop from rfl,APlan_alt]
             refine ⟨?_,?_⟩
             · simp
               exact fin M5 _ _ _ _ _ gq5' lq5 op5 ob5 qp5 qb5 pl3 lo4 u5
             · simp
           · simp
         · rw [show lq6 = .alt 24 true lq5 .stop from rfl,APlan_alt]
           refine ⟨?_,?_⟩
           · simp [V.cells]
             obtain ⟨M7,hM7⟩:∃ X,X = M3.new (.cells [V.i .i64 0,.i .i64 0,.i .i64 0,.i .i64 0,.i .i64 0,.i .i64 0,.i .i64 0,.i .i64 0,.i .i64 0,.i .i64 0,.i .i64 0,u32 0#32,u32 0#32,.i .i64 0,.i .i64 0,.i .i64 0,.i .i64 0,.i .i64 0,.i .i64 0,u32 0#32,u32 0#32,.sl none 0 false,.sl none 0 false,.b false,.s [],.s [],.s [],.s [],.sl none 0 false,.i .i64 0,.i .i64 0,.sl none 0 false] 0 false 0):=⟨_,rfl⟩
             rw [← hM7]
             have up7:Upd M3 M7 []:=by rw [hM7]; exact Upd.new ..
             have u7:Upd H1 M7 []:=u3.trans up7 (by simp)
             have op7:=(op3).upd up7 (by simp)
             have gq7':M7.get M3.next = some (.cells zeroS 0 false 0):=by rw [hM7]; exact AH.get_new_same ..
             have lq7:H1.next ≤ M3.next:=u3.1
             have qp7:M3.next ∉ F3:=fun h=>by have:=(op3).lt _ h; omega
             rw [show lq5 = .alt 22 true lq4 .stop from rfl,APlan_alt]
             refine ⟨?_,?_⟩
             · simp
               refine ACalls.mono (cloneStr M7 (ls:=s.blocks.map strC) ((ha1.blocks).upd u7) (by simp; omega)) fun v8 M8 ⟨F8,ow8',up8,fb8⟩=>?_
               refine ⟨keepU up8 (by simp),?_⟩
               have u8:Upd H1 M8 []:=u7.trans up8 (by simp)
               have lt8:=ow8'.lt
               have nx8:=u7.1
               have op8:=(op7).upd up8 (by simp)
               have gq8:=up8.keep (by simp) gq7'
               have lo8:∀ j ∈ F8,H1.next ≤ j:=fun j hj=>by have:=fb8 j hj; omega
               have qF8:M3.next ∉ F8:=fun h=>by have:=fb8 _ h; have:=AH.get_lt gq7'; omega
               rw [show lq4 = .take 23 lq1 from rfl,APlan_takem]
               refine ⟨by simp [through,tkOk,Go.Abs.rid],?_⟩
               simp [leave_build s r (c1:=[]) (c2:=[]) (op8).cells (ow8').cells]
               rw [show lq1 = .alt 25 false .done .stop from rfl,APlan_alt]
               refine ⟨?_,?_⟩
               · simp
                 exact fin M8 _ _ _ _ _ gq8 lq7 op8 ow8' qp7 qF8 pl3 lo8 u8
               · simp
             · simp
           · simp
       · rw [show lq9 = .alt 24 true lq8 .stop from rfl,APlan_alt]
         refine ⟨?_,?_⟩
         · simp [V.cells]
           obtain ⟨M10,hM10⟩:∃ X,X = M2.new (.cells [V.i .i64 0,.i .i64 0,.i .i64 0,.i .i64 0,.i .i64 0,.i .i64 0,.i .i64 0,.i .i64 0,.i .i64 0,.i .i64 0,.i .i64 0,u32 0#32,u32 0#32,.i .i64 0,.i .i64 0,.i .i64 0,.i .i64 0,.i .i64 0,.i .i64 0,u32 0#32,u32 0#32,.sl none 0 false,.sl none 0 false,.b false,.s [],.s [],.s [],.s [],.sl none 0 false,.i .i64 0,.i .i64 0,.sl none 0 false] 0 false 0):=⟨_,rfl⟩
           rw [← hM10]
           have up10:Upd M2 M10 []:=by rw [hM10]; exact Upd.new ..
           have u10:Upd H1 M10 []:=u2.trans up10 (by simp)
           have ow10:=(ow2).upd up10 (by simp)
           have gx10:=up10.keep (by simp) gx2'
           have gq10':M10.get M2.next = some (.cells zeroS 0 false 0):=by rw [hM10]; exact AH.get_new_same ..
           have lq10:H1.next ≤ M2.next:=u2.1
           have qw10:M2.next ∉ F1:=fun h=>by have:=(ow2).lt _ h; omega
           rw [show lq8 = .alt 15 true lq5 .stop from rfl,APlan_alt]
           refine ⟨?_,?_⟩
           · obtain ⟨v11,M11,F11,a11,op11',up11,fp11⟩:=(ow10).append appSet (set_src gx10) (by simp) (by rw [flatten_len (sz:=1) (s.past.map setC) (fun l hl=>by obtain ⟨y,_,rfl⟩:=List.mem_map.1 hl; rfl)]; simp [roomOk]; omega)
             simp [a11]
             refine ⟨keepU up11 lo1,?_⟩
             have u11:Upd H1 M11 []:=u10.trans up11 (fun j hj=>.inr (lo1 j hj))
             have op11:Own M11 v11 1 ((s.past ++ [r.set]).map setC).flatten F11:=by simpa [setC] using op11'
             have gq11:=up11.keep qw10 gq10'
             have qp11:M2.next ∉ F11:=fun h=>by
              rcases fp11 _ h with h | h
              · exact qw10 h
              · have:=AH.get_lt gq10'; omega
             have pl11:∀ j ∈ F11,H1.next ≤ j:=fun j hj=>by
              rcases fp11 _ hj with h | h
              · exact lo1 j h
              · have:=u10.1; omega
             rw [show lq5 = .alt 22 true lq4 .stop from rfl,APlan_alt]
             refine ⟨?_,?_⟩
             · simp
               refine ACalls.mono (cloneStr M11 (ls:=s.blocks.map strC) ((ha1.blocks).upd u11) (by simp; omega)) fun v12 M12 ⟨F12,ow12',up12,fb12⟩=>?_
               refine ⟨keepU up12 (by simp),?_⟩
               have u12:Upd H1 M12 []:=u11.trans up12 (by simp)
               have lt12:=ow12'.lt
               have nx12:=u11.1
               have op12:=(op11).upd up12 (by simp)
               have gq12:=up12.keep (by simp) gq11
               have lo12:∀ j ∈ F12,H1.next ≤ j:=fun j hj=>by have:=fb12 j hj; omega
               have qF12:M2.next ∉ F12:=fun h=>by have:=fb12 _ h; have:=AH.get_lt gq11; omega
               rw [show lq4 = .take 23 lq1 from rfl,APlan_takem]
               refine ⟨by simp [through,tkOk,Go.Abs.rid],?_⟩
               simp [leave_build s r (c1:=[]) (c2:=[]) (op12).cells (ow12').cells]
               rw [show lq1 = .alt 25 false .done .stop from rfl,APlan_alt]
               refine ⟨?_,?_⟩
               · simp
                 exact fin M12 _ _ _ _ _ gq12 lq10 op12 ow12' qp11 qF12 pl11 lo12 u12
               · simp
             · simp
           · simp
         · simp
     · rw [show lq12 = .alt 24 true lq11 .stop from rfl,APlan_alt]
       refine ⟨?_,?_⟩
       · simp [V.cells]
         obtain ⟨M14,hM14⟩:∃ X,X = M1.new (.cells [V.i .i64 0,.i .i64 0,.i .i64 0,.i .i64 0,.i .i64 0,.i .i64 0,.i .i64 0,.i .i64 0,.i .i64 0,.i .i64 0,.i .i64 0,u32 0#32,u32 0#32,.i .i64 0,.i .i64 0,.i .i64 0,.i .i64 0,.i .i64 0,.i .i64 0,u32 0#32,u32 0#32,.sl none 0 false,.sl none 0 false,.b false,.s [],.s [],.s [],.s [],.sl none 0 false,.i .i64 0,.i .i64 0,.sl none 0 false] 0 false 0):=⟨_,rfl⟩
         rw [← hM14]
         have up14:Upd M1 M14 []:=by rw [hM14]; exact Upd.new ..
         have u14:Upd H1 M14 []:=u1.trans up14 (by simp)
         have ow14:=(ow1').upd up14 (by simp)
         have gq14':M14.get M1.next = some (.cells zeroS 0 false 0):=by rw [hM14]; exact AH.get_new_same ..
         have lq14:H1.next ≤ M1.next:=u1.1
         have qw14:M1.next ∉ F1:=fun h=>by have:=(ow1').lt _ h; omega
         rw [show lq11 = .alt 14 true lq8 .stop from rfl,APlan_alt]
         refine ⟨?_,?_⟩
         · simp [one_set]
           obtain ⟨M15,hM15⟩:∃ X,X = M14.new (.cells [u32 r.set] 0 false 1):=⟨_,rfl⟩
           rw [← hM15]
           have up15:Upd M14 M15 []:=by rw [hM15]; exact Upd.new ..
           have u15:Upd H1 M15 []:=u14.trans up15 (by simp)
           have ow15:=(ow14).upd up15 (by simp)
           have gq15:=up15.keep (by simp) gq14'
           have gx15':M15.get M14.next = some (.cells [u32 r.set] 0 false 1):=by rw [hM15]; exact AH.get_new_same ..
           rw [show lq8 = .alt 15 true lq5 .stop from rfl,APlan_alt]
           refine ⟨?_,?_⟩
           · obtain ⟨v16,M16,F16,a16,op16',up16,fp16⟩:=(ow15).append appSet (set_src gx15') (by simp) (by rw [flatten_len (sz:=1) (s.past.map setC) (fun l hl=>by obtain ⟨y,_,rfl⟩:=List.mem_map.1 hl; rfl)]; simp [roomOk]; omega)
             simp [a16]
             refine ⟨keepU up16 lo1,?_⟩
             have u16:Upd H1 M16 []:=u15.trans up16 (fun j hj=>.inr (lo1 j hj))
             have op16:Own M16 v16 1 ((s.past ++ [r.set]).map setC).flatten F16:=by simpa [setC] using op16'
             have gq16:=up16.keep qw14 gq15
             have qp16:M1.next ∉ F16:=fun h=>by
              rcases fp16 _ h with h | h
              · exact qw14 h
              · have:=AH.get_lt gq15; omega
             have pl16:∀ j ∈ F16,H1.next ≤ j:=fun j hj=>by
              rcases fp16 _ hj with h | h
              · exact lo1 j h
              · have:=u15.1; omega
             rw [show lq5 = .alt 22 true lq4 .stop from rfl,APlan_alt]
             refine ⟨?_,?_⟩
             · simp
               refine ACalls.mono (cloneStr M16 (ls:=s.blocks.map strC) ((ha1.blocks).upd u16) (by simp; omega)) fun v17 M17 ⟨F17,ow17',up17,fb17⟩=>?_
               refine ⟨keepU up17 (by simp),?_⟩
               have u17:Upd H1 M17 []:=u16.trans up17 (by simp)
               have lt17:=ow17'.lt
               have nx17:=u16.1
               have op17:=(op16).upd up17 (by simp)
               have gq17:=up17.keep (by simp) gq16
               have lo17:∀ j ∈ F17,H1.next ≤ j:=fun j hj=>by have:=fb17 j hj; omega
               have qF17:M1.next ∉ F17:=fun h=>by have:=fb17 _ h; have:=AH.get_lt gq16; omega
               rw [show lq4 = .take 23 lq1 from rfl,APlan_takem]
               refine ⟨by simp [through,tkOk,Go.Abs.rid],?_⟩
               simp [leave_build s r (c1:=[]) (c2:=[]) (op17).cells (ow17').cells]
               rw [show lq1 = .alt 25 false .done .stop from rfl,APlan_alt]
               refine ⟨?_,?_⟩
               · simp
                 exact fin M17 _ _ _ _ _ gq17 lq14 op17 ow17' qp16 qF17 pl16 lo17 u17
               · simp
             · simp
           · simp
         · simp
       · simp
   · rw [show lq20 = .alt 14 true lq16 lq19 from rfl,APlan_alt]
     refine ⟨?_,?_⟩
     · simp [one_set]
       obtain ⟨M19,hM19⟩:∃ X,X = H1.new (.cells [u32 r.set] 0 false 1):=⟨_,rfl⟩
       rw [← hM19]
       have up19:Upd H1 M19 []:=by rw [hM19]; exact Upd.new ..
       have u19:Upd H1 M19 []:=(Upd.refl H1 []).trans up19 (by simp)
       have gx19':M19.get H1.next = some (.cells [u32 r.set] 0 false 1):=by rw [hM19]; exact AH.get_new_same ..
       rw [show lq16 = .alt 9 true lq10 lq15 from rfl,APlan_alt]
       refine ⟨?_,?_⟩
       · simp
         refine ACalls.mono (cloneSet M19 (ls:=s.past.map setC) ((ha1.past).upd u19) (by simp; omega)) fun v20 M20 ⟨F20,ow20',up20,fb20⟩=>?_
         refine ⟨keepU up20 (by simp),?_⟩
         have u20:Upd H1 M20 []:=u19.trans up20 (by simp)
         have lt20:=ow20'.lt
         have nx20:=u19.1
         have gx20:=up20.keep (by simp) gx19'
         have lo20:∀ j ∈ F20,H1.next ≤ j:=fun j hj=>by have:=fb20 j hj; omega
         rw [show lq10 = .alt 15 true lq7 lq9 from rfl,APlan_alt]
         refine ⟨?_,?_⟩
         · obtain ⟨v21,M21,F21,a21,op21',up21,fp21⟩:=(ow20').append appSet (set_src gx20) (by simp) (by rw [flatten_len (sz:=1) (s.past.map setC) (fun l hl=>by obtain ⟨y,_,rfl⟩:=List.mem_map.1 hl; rfl)]; simp [roomOk]; omega)
           simp [a21]
           refine ⟨keepU up21 lo20,?_⟩
           have u21:Upd H1 M21 []:=u20.trans up21 (fun j hj=>.inr (lo20 j hj))
           have op21:Own M21 v21 1 ((s.past ++ [r.set]).map setC).flatten F21:=by simpa [setC] using op21'
           have pl21:∀ j ∈ F21,H1.next ≤ j:=fun j hj=>by
            rcases fp21 _ hj with h | h
            · exact lo20 j h
            · have:=u20.1; omega
           rw [show lq7 = .alt 22 true lq3 lq6 from rfl,APlan_alt]
           refine ⟨?_,?_⟩
           · simp
             refine ACalls.mono (cloneStr M21 (ls:=s.blocks.map strC) ((ha1.blocks).upd u21) (by simp; omega)) fun v22 M22 ⟨F22,ow22',up22,fb22⟩=>?_
             refine ⟨keepU up22 (by simp),?_⟩
             have u22:Upd H1 M22 []:=u21.trans up22 (by simp)
             have lt22:=ow22'.lt
             have nx22:=u21.1
             have op22:=(op21).upd up22 (by simp)
             have lo22:∀ j ∈ F22,H1.next ≤ j:=fun j hj=>by have:=fb22 j hj; omega
             rw [show lq3 = .take 23 lq2 from rfl,APlan_takem]
             refine ⟨by simp [through,tkOk,Go.Abs.rid],?_⟩
             simp [leave_build s r (c1:=[]) (c2:=[]) (op22).cells (ow22').cells]
             rw [show lq2 = .alt 24 true lq1 .stop from rfl,APlan_alt]
             refine ⟨?_,?_⟩
             · simp [V.cells]
               obtain ⟨M23,hM23⟩:∃ X,X = M22.new (.cells [V.i .i64 0,.i .i64 0,.i .i64 0,.i .i64 0,.i .i64 0,.i .i64 0,.i .i64 0,.i .i64 0,.i .i64 0,.i .i64 0,.i .i64 0,u32 0#32,u32 0#32,.i .i64 0,.i .i64 0,.i .i64 0,.i .i64 0,.i .i64 0,.i .i64 0,u32 0#32,u32 0#32,.sl none 0 false,.sl none 0 false,.b false,.s [],.s [],.s [],.s [],.sl none 0 false,.i .i64 0,.i .i64 0,.sl none 0 false] 0 false 0):=⟨_,rfl⟩
               rw [← hM23]
               have up23:Upd M22 M23 []:=by rw [hM23]; exact Upd.new ..
               have u23:Upd H1 M23 []:=u22.trans up23 (by simp)
               have op23:=(op22).upd up23 (by simp)
               have ob23:=(ow22').upd up23 (by simp)
               have gq23':M23.get M22.next = some (.cells zeroS 0 false 0):=by rw [hM23]; exact AH.get_new_same ..
               have lq23:H1.next ≤ M22.next:=u22.1
               have qp23:M22.next ∉ F21:=fun h=>by have:=(op22).lt _ h; omega
               have qb23:M22.next ∉ F22:=fun h=>by have:=(ow22').lt _ h; omega
               rw [show lq1 = .alt 25 false .done .stop from rfl,APlan_alt]
               refine ⟨?_,?_⟩
               · simp
                 exact fin M23 _ _ _ _ _ gq23' lq23 op23 ob23 qp23 qb23 pl21 lo22 u23
               · simp
             · simp
           · rw [show lq6 = .alt 24 true lq5 .stop from rfl,APlan_alt]
             refine ⟨?_,?_⟩
             · simp [V.cells]
               obtain ⟨M25,hM25⟩:∃ X,X = M21.new (.cells [V.i .i64 0,.i .i64 0,.i .i64 0,.i .i64 0,.i .i64 0,.i .i64 0,.i .i64 0,.i .i64 0,.i .i64 0,.i .i64 0,.i .i64 0,u32 0#32,u32 0#32,.i .i64 0,.i .i64 0,.i .i64 0,.i .i64 0,.i .i64 0,.i .i64 0,u32 0#32,u32 0#32,.sl none 0 false,.sl none 0 false,.b false,.s [],.s [],.s [],.s [],.sl none 0 false,.i .i64 0,.i .i64 0,.sl none 0 false] 0 false 0):=⟨_,rfl⟩
               rw [← hM25]
               have up25:Upd M21 M25 []:=by rw [hM25]; exact Upd.new ..
               have u25:Upd H1 M25 []:=u21.trans up25 (by simp)
               have op25:=(op21).upd up25 (by simp)
               have gq25':M25.get M21.next = some (.cells zeroS 0 false 0):=by rw [hM25]; exact AH.get_new_same ..
               have lq25:H1.next ≤ M21.next:=u21.1
               have qp25:M21.next ∉ F21:=fun h=>by have:=(op21).lt _ h; omega
               rw [show lq5 = .alt 22 true lq4 .stop from rfl,APlan_alt]
               refine ⟨?_,?_⟩
               · simp
                 refine ACalls.mono (cloneStr M25 (ls:=s.blocks.map strC) ((ha1.blocks).upd u25) (by simp; omega)) fun v26 M26 ⟨F26,ow26',up26,fb26⟩=>?_
                 refine ⟨keepU up26 (by simp),?_⟩
                 have u26:Upd H1 M26 []:=u25.trans up26 (by simp)
                 have lt26:=ow26'.lt
                 have nx26:=u25.1
                 have op26:=(op25).upd up26 (by simp)
                 have gq26:=up26.keep (by simp) gq25'
                 have lo26:∀ j ∈ F26,H1.next ≤ j:=fun j hj=>by have:=fb26 j hj; omega
                 have qF26:M21.next ∉ F26:=fun h=>by have:=fb26 _ h; have:=AH.get_lt gq25'; omega
                 rw [show lq4 = .take 23 lq1 from rfl,APlan_takem]
                 refine ⟨by simp [through,tkOk,Go.Abs.rid],?_⟩
                 simp [leave_build s r (c1:=[]) (c2:=[]) (op26).cells (ow26').cells]
                 rw [show lq1 = .alt 25 false .done .stop from rfl,APlan_alt]
                 refine ⟨?_,?_⟩
                 · simp
                   exact fin M26 _ _ _ _ _ gq26 lq25 op26 ow26' qp25 qF26 pl21 lo26 u26
                 · simp
               · simp
             · simp
         · rw [show lq9 = .alt 24 true lq8 .stop from rfl,APlan_alt]
           refine ⟨?_,?_⟩
           · simp [V.cells]
             obtain ⟨M28,hM28⟩:∃ X,X = M20.new (.cells [V.i .i64 0,.i .i64 0,.i .i64 0,.i .i64 0,.i .i64 0,.i .i64 0,.i .i64 0,.i .i64 0,.i .i64 0,.i .i64 0,.i .i64 0,u32 0#32,u32 0#32,.i .i64 0,.i .i64 0,.i .i64 0,.i .i64 0,.i .i64 0,.i .i64 0,u32 0#32,u32 0#32,.sl none 0 false,.sl none 0 false,.b false,.s [],.s [],.s [],.s [],.sl none 0 false,.i .i64 0,.i .i64 0,.sl none 0 false] 0 false 0):=⟨_,rfl⟩
             rw [← hM28]
             have up28:Upd M20 M28 []:=by rw [hM28]; exact Upd.new ..
             have u28:Upd H1 M28 []:=u20.trans up28 (by simp)
             have ow28:=(ow20').upd up28 (by simp)
             have gx28:=up28.keep (by simp) gx20
             have gq28':M28.get M20.next = some (.cells zeroS 0 false 0):=by rw [hM28]; exact AH.get_new_same ..
             have lq28:H1.next ≤ M20.next:=u20.1
             have qw28:M20.next ∉ F20:=fun h=>by have:=(ow20').lt _ h; omega
             rw [show lq8 = .alt 15 true lq5 .stop from rfl,APlan_alt]
             refine ⟨?_,?_⟩
             · obtain ⟨v29,M29,F29,a29,op29',up29,fp29⟩:=(ow28).append appSet (set_src gx28) (by simp) (by rw [flatten_len (sz:=1) (s.past.map setC) (fun l hl=>by obtain ⟨y,_,rfl⟩:=List.mem_map.1 hl; rfl)]; simp [roomOk]; omega)
               simp [a29]
               refine ⟨keepU up29 lo20,?_⟩
               have u29:Upd H1 M29 []:=u28.trans up29 (fun j hj=>.inr (lo20 j hj))
               have op29:Own M29 v29 1 ((s.past ++ [r.set]).map setC).flatten F29:=by simpa [setC] using op29'
               have gq29:=up29.keep qw28 gq28'
               have qp29:M20.next ∉ F29:=fun h=>by
                rcases fp29 _ h with h | h
                · exact qw28 h
                · have:=AH.get_lt gq28'; omega
               have pl29:∀ j ∈ F29,H1.next ≤ j:=fun j hj=>by
                rcases fp29 _ hj with h | h
                · exact lo20 j h
                · have:=u28.1; omega
               rw [show lq5 = .alt 22 true lq4 .stop from rfl,APlan_alt]
               refine ⟨?_,?_⟩
               · simp
                 refine ACalls.mono (cloneStr M29 (ls:=s.blocks.map strC) ((ha1.blocks).upd u29) (by simp; omega)) fun v30 M30 ⟨F30,ow30',up30,fb30⟩=>?_
                 refine ⟨keepU up30 (by simp),?_⟩
                 have u30:Upd H1 M30 []:=u29.trans up30 (by simp)
                 have lt30:=ow30'.lt
                 have nx30:=u29.1
                 have op30:=(op29).upd up30 (by simp)
                 have gq30:=up30.keep (by simp) gq29
                 have lo30:∀ j ∈ F30,H1.next ≤ j:=fun j hj=>by have:=fb30 j hj; omega
                 have qF30:M20.next ∉ F30:=fun h=>by have:=fb30 _ h; have:=AH.get_lt gq29; omega
                 rw [show lq4 = .take 23 lq1 from rfl,APlan_takem]
                 refine ⟨by simp [through,tkOk,Go.Abs.rid],?_⟩
                 simp [leave_build s r (c1:=[]) (c2:=[]) (op30).cells (ow30').cells]
                 rw [show lq1 = .alt 25 false .done .stop from rfl,APlan_alt]
                 refine ⟨?_,?_⟩
                 · simp
                   exact fin M30 _ _ _ _ _ gq30 lq28 op30 ow30' qp29 qF30 pl29 lo30 u30
                 · simp
               · simp
             · simp
           · simp
       · rw [show lq15 = .alt 24 true lq14 .stop from rfl,APlan_alt]
         refine ⟨?_,?_⟩
         · simp [V.cells]
           obtain ⟨M32,hM32⟩:∃ X,X = M19.new (.cells [V.i .i64 0,.i .i64 0,.i .i64 0,.i .i64 0,.i .i64 0,.i .i64 0,.i .i64 0,.i .i64 0,.i .i64 0,.i .i64 0,.i .i64 0,u32 0#32,u32 0#32,.i .i64 0,.i .i64 0,.i .i64 0,.i .i64 0,.i .i64 0,.i .i64 0,u32 0#32,u32 0#32,.sl none 0 false,.sl none 0 false,.b false,.s [],.s [],.s [],.s [],.sl none 0 false,.i .i64 0,.i .i64 0,.sl none 0 false] 0 false 0):=⟨_,rfl⟩
           rw [← hM32]
           have up32:Upd M19 M32 []:=by rw [hM32]; exact Upd.new ..
           have u32:Upd H1 M32 []:=u19.trans up32 (by simp)
           have gx32:=up32.keep (by simp) gx19'
           have gq32':M32.get M19.next = some (.cells zeroS 0 false 0):=by rw [hM32]; exact AH.get_new_same ..
           have lq32:H1.next ≤ M19.next:=u19.1
           rw [show lq14 = .alt 9 true lq8 .stop from rfl,APlan_alt]
           refine ⟨?_,?_⟩
           · simp
             refine ACalls.mono (cloneSet M32 (ls:=s.past.map setC) ((ha1.past).upd u32) (by simp; omega)) fun v33 M33 ⟨F33,ow33',up33,fb33⟩=>?_
             refine ⟨keepU up33 (by simp),?_⟩
             have u33:Upd H1 M33 []:=u32.trans up33 (by simp)
             have lt33:=ow33'.lt
             have nx33:=u32.1
             have gx33:=up33.keep (by simp) gx32
             have gq33:=up33.keep (by simp) gq32'
             have lo33:∀ j ∈ F33,H1.next ≤ j:=fun j hj=>by have:=fb33 j hj; omega
             have qF33:M19.next ∉ F33:=fun h=>by have:=fb33 _ h; have:=AH.get_lt gq32'; omega
             rw [show lq8 = .alt 15 true lq5 .stop from rfl,APlan_alt]
             refine ⟨?_,?_⟩
             · obtain ⟨v34,M34,F34,a34,op34',up34,fp34⟩:=(ow33').append appSet (set_src gx33) (by simp) (by rw [flatten_len (sz:=1) (s.past.map setC) (fun l hl=>by obtain ⟨y,_,rfl⟩:=List.mem_map.1 hl; rfl)]; simp [roomOk]; omega)
               simp [a34]
               refine ⟨keepU up34 lo33,?_⟩
               have u34:Upd H1 M34 []:=u33.trans up34 (fun j hj=>.inr (lo33 j hj))
               have op34:Own M34 v34 1 ((s.past ++ [r.set]).map setC).flatten F34:=by simpa [setC] using op34'
               have gq34:=up34.keep qF33 gq33
               have qp34:M19.next ∉ F34:=fun h=>by
                rcases fp34 _ h with h | h
                · exact qF33 h
                · have:=AH.get_lt gq33; omega
               have pl34:∀ j ∈ F34,H1.next ≤ j:=fun j hj=>by
                rcases fp34 _ hj with h | h
                · exact lo33 j h
                · have:=u33.1; omega
               rw [show lq5 = .alt 22 true lq4 .stop from rfl,APlan_alt]
               refine ⟨?_,?_⟩
               · simp
                 refine ACalls.mono (cloneStr M34 (ls:=s.blocks.map strC) ((ha1.blocks).upd u34) (by simp; omega)) fun v35 M35 ⟨F35,ow35',up35,fb35⟩=>?_
                 refine ⟨keepU up35 (by simp),?_⟩
                 have u35:Upd H1 M35 []:=u34.trans up35 (by simp)
                 have lt35:=ow35'.lt
                 have nx35:=u34.1
                 have op35:=(op34).upd up35 (by simp)
                 have gq35:=up35.keep (by simp) gq34
                 have lo35:∀ j ∈ F35,H1.next ≤ j:=fun j hj=>by have:=fb35 j hj; omega
                 have qF35:M19.next ∉ F35:=fun h=>by have:=fb35 _ h; have:=AH.get_lt gq34; omega
                 rw [show lq4 = .take 23 lq1 from rfl,APlan_takem]
                 refine ⟨by simp [through,tkOk,Go.Abs.rid],?_⟩
                 simp [leave_build s r (c1:=[]) (c2:=[]) (op35).cells (ow35').cells]
                 rw [show lq1 = .alt 25 false .done .stop from rfl,APlan_alt]
                 refine ⟨?_,?_⟩
                 · simp
                   exact fin M35 _ _ _ _ _ gq35 lq32 op35 ow35' qp34 qF35 pl34 lo35 u35
                 · simp
               · simp
             · simp
           · simp
         · simp
     · rw [show lq19 = .alt 24 true lq18 .stop from rfl,APlan_alt]
       refine ⟨?_,?_⟩
       · simp [V.cells]
         obtain ⟨M37,hM37⟩:∃ X,X = H1.new (.cells [V.i .i64 0,.i .i64 0,.i .i64 0,.i .i64 0,.i .i64 0,.i .i64 0,.i .i64 0,.i .i64 0,.i .i64 0,.i .i64 0,.i .i64 0,u32 0#32,u32 0#32,.i .i64 0,.i .i64 0,.i .i64 0,.i .i64 0,.i .i64 0,.i .i64 0,u32 0#32,u32 0#32,.sl none 0 false,.sl none 0 false,.b false,.s [],.s [],.s [],.s [],.sl none 0 false,.i .i64 0,.i .i64 0,.sl none 0 false] 0 false 0):=⟨_,rfl⟩
         rw [← hM37]
         have up37:Upd H1 M37 []:=by rw [hM37]; exact Upd.new ..
         have u37:Upd H1 M37 []:=(Upd.refl H1 []).trans up37 (by simp)
         have gq37':M37.get H1.next = some (.cells zeroS 0 false 0):=by rw [hM37]; exact AH.get_new_same ..
         have lq37:H1.next ≤ H1.next:=(Upd.refl H1 []).1
         rw [show lq18 = .alt 9 true lq11 lq17 from rfl,APlan_alt]
         refine ⟨?_,?_⟩
         · simp
           refine ACalls.mono (cloneSet M37 (ls:=s.past.map setC) ((ha1.past).upd u37) (by simp; omega)) fun v38 M38 ⟨F38,ow38',up38,fb38⟩=>?_
           refine ⟨keepU up38 (by simp),?_⟩
           have u38:Upd H1 M38 []:=u37.trans up38 (by simp)
           have lt38:=ow38'.lt
           have nx38:=u37.1
           have gq38:=up38.keep (by simp) gq37'
           have lo38:∀ j ∈ F38,H1.next ≤ j:=fun j hj=>by have:=fb38 j hj; omega
           have qF38:H1.next ∉ F38:=fun h=>by have:=fb38 _ h; have:=AH.get_lt gq37'; omega
           rw [show lq11 = .alt 14 true lq8 .stop from rfl,APlan_alt]
           refine ⟨?_,?_⟩
           · simp [one_set]
             obtain ⟨M39,hM39⟩:∃ X,X = M38.new (.cells [u32 r.set] 0 false 1):=⟨_,rfl⟩
             rw [← hM39]
             have up39:Upd M38 M39 []:=by rw [hM39]; exact Upd.new ..
             have u39:Upd H1 M39 []:=u38.trans up39 (by simp)
             have ow39:=(ow38').upd up39 (by simp)
             have gq39:=up39.keep (by simp) gq38
             have gx39':M39.get M38.next = some (.cells [u32 r.set] 0 false 1):=by rw [hM39]; exact AH.get_new_same ..
             rw [show lq8 = .alt 15 true lq5 .stop from rfl,APlan_alt]
             refine ⟨?_,?_⟩
             · obtain ⟨v40,M40,F40,a40,op40',up40,fp40⟩:=(ow39).append appSet (set_src gx39') (by simp) (by rw [flatten_len (sz:=1) (s.past.map setC) (fun l hl=>by obtain ⟨y,_,rfl⟩:=List.mem_map.1 hl; rfl)]; simp [roomOk]; omega)
               simp [a40]
               refine ⟨keepU up40 lo38,?_⟩
               have u40:Upd H1 M40 []:=u39.trans up40 (fun j hj=>.inr (lo38 j hj))
               have op40:Own M40 v40 1 ((s.past ++ [r.set]).map setC).flatten F40:=by simpa [setC] using op40'
               have gq40:=up40.keep qF38 gq39
               have qp40:H1.next ∉ F40:=fun h=>by
                rcases fp40 _ h with h | h
                · exact qF38 h
                · have:=AH.get_lt gq39; omega
               have pl40:∀ j ∈ F40,H1.next ≤ j:=fun j hj=>by
                rcases fp40 _ hj with h | h
                · exact lo38 j h
                · have:=u39.1; omega
               rw [show lq5 = .alt 22 true lq4 .stop from rfl,APlan_alt]
               refine ⟨?_,?_⟩
               · simp
                 refine ACalls.mono (cloneStr M40 (ls:=s.blocks.map strC) ((ha1.blocks).upd u40) (by simp; omega)) fun v41 M41 ⟨F41,ow41',up41,fb41⟩=>?_
                 refine ⟨keepU up41 (by simp),?_⟩
                 have u41:Upd H1 M41 []:=u40.trans up41 (by simp)
                 have lt41:=ow41'.lt
                 have nx41:=u40.1
                 have op41:=(op40).upd up41 (by simp)
                 have gq41:=up41.keep (by simp) gq40
                 have lo41:∀ j ∈ F41,H1.next ≤ j:=fun j hj=>by have:=fb41 j hj; omega
                 have qF41:H1.next ∉ F41:=fun h=>by have:=fb41 _ h; have:=AH.get_lt gq40; omega
                 rw [show lq4 = .take 23 lq1 from rfl,APlan_takem]
                 refine ⟨by simp [through,tkOk,Go.Abs.rid],?_⟩
                 simp [leave_build s r (c1:=[]) (c2:=[]) (op41).cells (ow41').cells]
                 rw [show lq1 = .alt 25 false .done .stop from rfl,APlan_alt]
                 refine ⟨?_,?_⟩
                 · simp
                   exact fin M41 _ _ _ _ _ gq41 lq37 op41 ow41' qp40 qF41 pl40 lo41 u41
                 · simp
               · simp
             · simp
           · simp
         · rw [show lq17 = .alt 14 true lq14 .stop from rfl,APlan_alt]
           refine ⟨?_,?_⟩
           · simp [one_set]
             obtain ⟨M43,hM43⟩:∃ X,X = M37.new (.cells [u32 r.set] 0 false 1):=⟨_,rfl⟩
             rw [← hM43]
             have up43:Upd M37 M43 []:=by rw [hM43]; exact Upd.new ..
             have u43:Upd H1 M43 []:=u37.trans up43 (by simp)
             have gq43:=up43.keep (by simp) gq37'
             have gx43':M43.get M37.next = some (.cells [u32 r.set] 0 false 1):=by rw [hM43]; exact AH.get_new_same ..
             rw [show lq14 = .alt 9 true lq8 .stop from rfl,APlan_alt]
             refine ⟨?_,?_⟩
             · simp
               refine ACalls.mono (cloneSet M43 (ls:=s.past.map setC) ((ha1.past).upd u43) (by simp; omega)) fun v44 M44 ⟨F44,ow44',up44,fb44⟩=>?_
               refine ⟨keepU up44 (by simp),?_⟩
               have u44:Upd H1 M44 []:=u43.trans up44 (by simp)
               have lt44:=ow44'.lt
               have nx44:=u43.1
               have gx44:=up44.keep (by simp) gx43'
               have gq44:=up44.keep (by simp) gq43
               have lo44:∀ j ∈ F44,H1.next ≤ j:=fun j hj=>by have:=fb44 j hj; omega
               have qF44:H1.next ∉ F44:=fun h=>by have:=fb44 _ h; have:=AH.get_lt gq43; omega
               rw [show lq8 = .alt 15 true lq5 .stop from rfl,APlan_alt]
               refine ⟨?_,?_⟩
               · obtain ⟨v45,M45,F45,a45,op45',up45,fp45⟩:=(ow44').append appSet (set_src gx44) (by simp) (by rw [flatten_len (sz:=1) (s.past.map setC) (fun l hl=>by obtain ⟨y,_,rfl⟩:=List.mem_map.1 hl; rfl)]; simp [roomOk]; omega)
                 simp [a45]
                 refine ⟨keepU up45 lo44,?_⟩
                 have u45:Upd H1 M45 []:=u44.trans up45 (fun j hj=>.inr (lo44 j hj))
                 have op45:Own M45 v45 1 ((s.past ++ [r.set]).map setC).flatten F45:=by simpa [setC] using op45'
                 have gq45:=up45.keep qF44 gq44
                 have qp45:H1.next ∉ F45:=fun h=>by
                  rcases fp45 _ h with h | h
                  · exact qF44 h
                  · have:=AH.get_lt gq44; omega
                 have pl45:∀ j ∈ F45,H1.next ≤ j:=fun j hj=>by
                  rcases fp45 _ hj with h | h
                  · exact lo44 j h
                  · have:=u44.1; omega
                 rw [show lq5 = .alt 22 true lq4 .stop from rfl,APlan_alt]
                 refine ⟨?_,?_⟩
                 · simp
                   refine ACalls.mono (cloneStr M45 (ls:=s.blocks.map strC) ((ha1.blocks).upd u45) (by simp; omega)) fun v46 M46 ⟨F46,ow46',up46,fb46⟩=>?_
                   refine ⟨keepU up46 (by simp),?_⟩
                   have u46:Upd H1 M46 []:=u45.trans up46 (by simp)
                   have lt46:=ow46'.lt
                   have nx46:=u45.1
                   have op46:=(op45).upd up46 (by simp)
                   have gq46:=up46.keep (by simp) gq45
                   have lo46:∀ j ∈ F46,H1.next ≤ j:=fun j hj=>by have:=fb46 j hj; omega
                   have qF46:H1.next ∉ F46:=fun h=>by have:=fb46 _ h; have:=AH.get_lt gq45; omega
                   rw [show lq4 = .take 23 lq1 from rfl,APlan_takem]
                   refine ⟨by simp [through,tkOk,Go.Abs.rid],?_⟩
                   simp [leave_build s r (c1:=[]) (c2:=[]) (op46).cells (ow46').cells]
                   rw [show lq1 = .alt 25 false .done .stop from rfl,APlan_alt]
                   refine ⟨?_,?_⟩
                   · simp
                     exact fin M46 _ _ _ _ _ gq46 lq37 op46 ow46' qp45 qF46 pl45 lo46 u46
                   · simp
                 · simp
               · simp
             · simp
           · simp
       · simp
 · rintro ρ' G ⟨q,pv',bv',rfl,hq,⟨F1,F2,o1,o2,n1,n2,l1,l2⟩,uG,hqn⟩
   have g1:=uG.keep (by simp) hp1
   have g2:=uG.keep (by simp) hp2
   have gr:=uG.keep (by simp) hrc1
   have hlt2:=AH.get_lt g2
   have hltq:=AH.get_lt hq
   refine AW_cut (fun ρ' X=>ρ' = ⟨51,[(4,.p (some (H.next + 1,0,0))),(5,.p (some (q,0,0)))]⟩ ∧ X.get q = some (.cells ((s.leave r).cells nilV nilV pv' bv') 0 false 0) ∧ Upd G X [q]) ?_ ?_
   · refine AW_cut (fun ρ' N=>∃ c,ρ' = ⟨51,[(1,.p (some (rid,0,0))),(4,.p (some (H.next + 1,0,0))),(5,.p (some (q,0,0))),(6,.p (some (c,0,0)))]⟩ ∧ N.get c = some (.cells (s.head r.author).cells 0 false 0) ∧ Upd G N [] ∧ G.next ≤ c) ?_ ?_
     · refine AW_regd [1,4,5,6] pl_50_2 pe_50_2 (by kernel_rfl) (by kernel_rfl) (by decide) fun K hK=>?_
       have hne1:H.next ≠ G.next:=by have:=AH.get_lt g1; omega
       have hne2:rid ≠ G.next:=by have:=AH.get_lt gr; omega
       simp [init_eq,pl_50_2,aload,afieldAddr,g1,gr,SSt.take,V.cells,AH.get_new,hne1,hne2]
       have aG:=ha1.upd uG
       refine ⟨?_,?_⟩
       · refine ACalls.mono (head_ok G aG ok hk r.author) fun v G2 ⟨hv',e⟩=>?_
         subst hv'
         rw [e]
         refine ⟨_,cert_store (AH.get_new_same ..) rfl _,?_⟩
         obtain ⟨N,eN,hc,hnN,hoN⟩:=boxS G Cert.zero.cells (s.head r.author).cells
         rw [eN]
         exact hK _ _ (rend ⟨_,by simp,_,rfl,hc,⟨by omega,fun j hj _=>hoN j hj⟩,Nat.le_refl _⟩)
       · refine ACalls.mono (head_ok (G.new (.cells Cert.zero.cells 0 false 0)) (aG.upd (Upd.new ..)) ok hk r.author) fun v G2 ⟨hv',e⟩=>?_
         subst hv'
         rw [e]
         refine ⟨_,cert_store (AH.get_new_same ..) rfl _,?_⟩
         obtain ⟨N,eN,hc,hnN,hoN⟩:=boxS G Cert.zero.cells (s.head r.author).cells
         rw [eN]
         exact hK _ _ (rend ⟨_,by simp,_,rfl,hc,⟨by omega,fun j hj _=>hoN j hj⟩,Nat.le_refl _⟩)
     · rintro ρ' N ⟨c,rfl,hc,uN,hcn⟩
       have nq:=uN.keep (by simp) hq
       have nr:=uN.keep (by simp) gr
       have hcq:q ≠ c:=by omega
       refine AW_seq ?_
       refine AW_reg [1,4,5,6,39] fun K hK=>?_
       simp [init_eq,afieldAddr,aload,hc]
       apply hK;clear hK K
       refine AW_cond' rfl rfl (fun hk0=>?_) (fun hk0=>?_)
       · have h0:(s.head r.author).kind ≠ 0:=by simpa using hk0
         have st4:astore Tryz.prog N 22 (.p (some (c,0,7))) (u32 r.set) = some (N.set c (.cells ({ s.head r.author with coin:=r.set }:Cert).cells 0 false 0)):=by
          simp [astore,hc]
         obtain ⟨N2,eN2⟩:∃ N2,N2 = N.set c (.cells ({ s.head r.author with coin:=r.set }:Cert).cells 0 false 0):=⟨_,rfl⟩
         have c2:N2.get c = some (.cells ({ s.head r.author with coin:=r.set }:Cert).cells 0 false 0):=by rw [eN2]; exact AH.get_set_same (AH.get_lt hc)
         have q2:N2.get q = some (.cells (({ s.leave r with high:=s.high }:SSt).cells nilV nilV pv' bv') 0 false 0):=by rw [eN2,AH.get_set_ne hcq]; exact nq
         refine AW_seq ?_
         refine AW_reg [4,5,6] fun K hK=>?_
         simp [init_eq,afieldAddr,aload,nr,st4]
         rw [← eN2]
         apply hK;clear hK K
         have st5:∀ x:Cert,astore Tryz.prog N2 24 (.p (some (q,0,5))) (.agg x.cells) = some (N2.set q (.cells (({ s.leave r with high:=x }:SSt).cells nilV nilV pv' bv') 0 false 0)):=fun x=>by
          simp [astore,q2,V.cells,SSt.w5]
         refine AW_reg [4,5] fun K hK=>?_
         simp [init_eq,afieldAddr,aload,q2,c2,take_cells]
         refine ACalls.mono (certMax_ok N2 s.high { s.head r.author with coin:=r.set }) fun v N3 ⟨hv',e⟩=>?_
         subst hv'
         rw [e]
         simp [st5]
         refine hK _ _ (rend ⟨_,by simp,rfl,?_,?_⟩)
         · rw [AH.get_set_same (AH.get_lt q2)]
           unfold SSt.leave
           rw [if_neg h0]
         · refine (uN.mono (by simp)).trans (F:=[q]) (G:=[c,q]) ?_ (fun j hj=>by simp at hj; rcases hj with rfl | rfl <;> simp; omega)
           rw [eN2]
           exact (Upd.set N c _ (by simp)).trans (Upd.set _ q _ (by simp)) (fun j hj=>.inl hj)
       · have h0:(s.head r.author).kind = 0:=by simpa using hk0
         refine AW_skip (rend ⟨_,by simp,rfl,?_,uN.mono (by simp)⟩)
         rw [nq]
         unfold SSt.leave
         rw [if_pos h0]
   · rintro ρ' X ⟨rfl,hX,uX⟩
     have hq1:H.next + 1 ≠ q:=by omega
     have x2:=uX.keep (by simp; omega) g2
     obtain ⟨Y,eY⟩:∃ Y,Y = X.set (H.next + 1) (.cells ((s.leave r).cells nilV nilV pv' bv') 0 false 0):=⟨_,rfl⟩
     have uY:Upd X Y [H.next + 1]:=by rw [eY]; exact Upd.set _ _ _ (by simp)
     have y2:Y.get (H.next + 1) = some (.cells ((s.leave r).cells nilV nilV pv' bv') 0 false 0):=by rw [eY]; exact AH.get_set_same (AH.get_lt x2)
     refine AW_seq ?_
     refine AW_reg [4] fun K hK=>?_
     simp [init_eq,aload,hX,SSt.take,safe_store x2]
     rw [← eY]
     apply hK;clear hK K
     have p1:=(o1.upd uX (fun j hj h=>n1 (by simp at h; exact h ▸ hj))).upd uY (fun j hj h=>by have:=l1 j hj; simp at h; omega)
     have p2:=(o2.upd uX (fun j hj h=>n2 (by simp at h; exact h ▸ hj))).upd uY (fun j hj h=>by have:=l2 j hj; simp at h; omega)
     refine AW_ret (end_ret (ares_cell (v:=.agg ((s.leave r).cells nilV nilV pv' bv')) (by simp [aload,y2,SSt.take])) ⟨pv',bv',rfl,⟨F1,F2,p1,p2,fun j hj=>by have:=l1 j hj; omega,fun j hj=>by have:=l2 j hj; omega⟩,?_⟩)
     refine (u1.trans uG (by simp)).trans (F:=[]) ((uX.mono (G:=[q,H.next + 1]) (by simp)).trans (uY.mono (G:=[q,H.next + 1]) (by simp)) (fun j hj=>.inl hj)) (fun j hj=>by simp at hj; rcases hj with rfl | rfl <;> exact .inr (by omega))
end Go.Proofs.YtaidfojbnfkclaaGreatDoor
