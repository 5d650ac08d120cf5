import Derived.Test.YtaidfojbnfkclaaGreatDoorMade4
set_option linter.unusedVariables false
set_option linter.unusedSimpArgs false
namespace Go.Proofs.YtaidfojbnfkclaaGreatDoor
open Go Go.Abs Go.Proofs
set_option maxRecDepth 100000
attribute [local irreducible] AEnd AW ACalls
theorem grow_build (v me:Int) (c:Cert) (ts:List Tmo) (txs:List Tx) (q p:Option (Nat × Nat × Nat)) (n m:Nat) (k j:Bool):abuild Tryz.prog 28 [(0,.i .i64 v),(2,.i .i64 1),(3,.i .i64 me),(4,.agg c.cells),(5,.sl p m j),(6,.sl q n k)] = some (.agg ((⟨v,0,1,me,c,ts,txs⟩:Blk).cells (.sl p m j) (.sl q n k))):=by
 simp [abuild,afill,V.cells]
 repeat (refine ⟨by simp [splice],?_⟩)
 first | done | rfl
theorem grow_ok (H:AH) {s:SSt} {fv hv pv bv tv txv:V} (me:Int) (ts:List Tmo) (txs:List Tx) (hts:RS H tv 10 (ts.map Tmo.cells)) (hlt:ts.length ≤ 1000000000) (ht:RS H txv 7 (txs.map Tx.cells)) (hl:txs.length ≤ 1000000000) (he:∀ t ∈ txs,t.small) :
  ACalls Tryz.prog 22 [.agg (s.cells fv hv pv bv),.i .i64 me,tv,.agg Cert.zero.cells,txv] H fun r H'=>∃ (c:Blk) (e:Int) (pv' tv':V),r = .tup [.agg (c.cells pv' tv'),.i .i64 e] ∧ BlkNewer H.next H' c pv' tv' ∧ Upd H H' [] ∧ c.small ∧
   (e = 0 → c.err = 0 ∧ c.height = 1 ∧ c.view = s.view ∧ ∀ t ∈ ts,0 ≤ cmpC c.parent t.high):=by
 refine ACalls_body Tryz.func22 rfl rfl ?_
 refine AW_seq ?_
 refine AW_reg [1,2,4,5,8,10] fun K hK=>?_
 simp [init_eq,V.cells]
 obtain ⟨G,e1,g1,g2,g3,gn,go⟩:=H.boxed3 (s.cells fv hv pv bv) Cert.zero.cells (Blk.zero.cells nilV nilV)
 change K _ (((H.new (.cells (s.cells fv hv pv bv) 0 false 0)).new (.cells Cert.zero.cells 0 false 0)).new (.cells (Blk.zero.cells nilV nilV) 0 false 0))
 rw [e1,show H.next + 1 + 1 = H.next + 2 from rfl]
 apply hK;clear hK K
 have u1:Upd H G []:=⟨by omega,fun j hj _=>go j hj⟩
 refine AW_seq ?_
 refine AW_block ?_
 refine AW_seq ?_
 refine AW_reg [1,2,4,5,8,10,12] fun K hK=>?_
 simp [init_eq,afieldAddr,aload,g1]
 apply hK;clear hK K
 have uE:∀ {M:AH} (_:Upd G M []) (c:Blk) (pc tc:V),Upd H (M.set (H.next + 2) (.cells (c.cells pc tc) 0 false 0)) []:=fun {M} u c pc tc=>⟨by have:=u.1; simp; omega,fun j hj h=>by rw [AH.get_set_ne (by omega),u.2 j (by omega) (by simp)]; exact go j hj⟩
 have lE:∀ {M:AH} (_:Upd G M []) (c:Blk) (pc tc:V),aload Tryz.prog (M.set (H.next + 2) (.cells (c.cells pc tc) 0 false 0)) 28 (.p (some (H.next + 2,0,0))) = some (.agg (c.cells pc tc)):=fun u c pc tc=>by simp [aload,AH.get_set_same (AH.get_lt (u.keep (by simp) g3)),blk_take]
 refine AW_cond' rfl rfl (fun hc=>?_) (fun hc=>?_)
 · refine AW_seq ?_
   refine AW_reg [10,11] fun K hK=>?_
   simp [init_eq,bzB]
   refine ⟨_,blk_put g3 rfl Blk.zero nilV nilV,?_⟩
   apply hK;clear hK K
   exact AW_ret (end_ret (ares_cell_tmp (lE (Upd.refl ..) Blk.zero nilV nilV)) ⟨Blk.zero,213,nilV,nilV,rfl,BlkNewer.nil _ _,uE (Upd.refl ..) ..,⟨by decide,by decide,by simp [Blk.zero]⟩,fun h=>by cases h⟩)
 · refine AW_seq ?_
   have hz:abuild Tryz.prog 24 [] = some (.agg Cert.zero.cells):=by first | (simp [abuild,afill]; done) | (simp [abuild,afill]; rfl)
   refine AW_reg [1,2,4,5,8,10,17] fun K hK=>?_
   simp [init_eq,aload,g2,take_cells,hz]
   apply hK;clear hK K
   refine AW_cond' rfl rfl (fun hc=>?_) (fun hc=>?_)
   · obtain ⟨q,n,k,rfl⟩:=sl_form ht
     obtain ⟨p,m,j,rfl⟩:=sl_form hts
     refine AW_seq ?_
     refine AW_regd [10,11] pl_22_4 pe_22_4 (by kernel_rfl) (by kernel_rfl) (by decide) fun K hK=>?_
     simp [init_eq,pl_22_4,afieldAddr,aload,g1,SSt.take]
     refine ACalls.mono (ahead_ok G ts (hts.upd u1) hlt) fun r X ⟨c,hr,hcm,u2⟩=>?_
     subst hr
     try simp
     have hb0:BlkAt X (⟨s.view,0,1,me,c,ts,txs⟩:Blk) (.sl p m j) (.sl q n k):=⟨(hts.upd u1).upd u2,(ht.upd u1).upd u2⟩
     refine ⟨u2.ext,_,grow_build s.view me c ts txs q p n m k j,?_⟩
     refine ACalls.mono (made_ok X hb0 ⟨hlt,hl,he⟩) fun r Y ⟨pv',tv',hr,hb',u3⟩=>?_
     subst hr
     simp
     have u:Upd G Y []:=u2.trans u3 (by simp)
     generalize hD:madeD (⟨s.view,0,1,me,c,ts,txs⟩:Blk) = d at *
     refine ⟨_,blk_put (u.keep (by simp) g3) rfl d.1 pv' tv',?_⟩
     apply hK;clear hK K
     have uX:Upd Y (Y.set (H.next + 2) (.cells (d.1.cells pv' tv') 0 false 0)) [H.next + 2]:=⟨by simp,fun j _ hj=>AH.get_set_ne (by simpa using hj) ..⟩
     have hn:H.next + 3 ≤ X.next:=by have:=u2.1; omega
     have hd:d.1.small ∧ (d.2 = 0 → d.1.err = 0 ∧ d.1.height = 1 ∧ d.1.view = s.view ∧ ∀ t ∈ ts,0 ≤ cmpC d.1.parent t.high):=by
      subst hD
      unfold madeD
      split
      · rename_i h0
        exact ⟨⟨by simp [Blk.zero],by simp [Blk.zero],by simp [Blk.zero]⟩,fun h=>absurd h h0⟩
      · rename_i h0
        exact ⟨⟨hlt,hl,he⟩,fun _=>⟨by simpa using h0,rfl,rfl,hcm⟩⟩
     exact AW_ret (end_ret (ares_cell_tmp (lE u d.1 pv' tv')) ⟨d.1,d.2,pv',tv',rfl,hb'.upd uX (by simp; omega) (by omega),uE u ..,hd.1,hd.2⟩)
   · cases hc
end Go.Proofs.YtaidfojbnfkclaaGreatDoor
