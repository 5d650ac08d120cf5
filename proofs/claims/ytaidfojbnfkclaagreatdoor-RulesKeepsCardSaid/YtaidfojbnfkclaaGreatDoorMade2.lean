import Derived.Test.YtaidfojbnfkclaaGreatDoorMade1
set_option linter.unusedVariables false
set_option linter.unusedSimpArgs false
namespace Go.Proofs.YtaidfojbnfkclaaGreatDoor
open Go Go.Abs Go.Proofs
set_option maxRecDepth 100000
attribute [local irreducible] AEnd AW ACalls
def leadD (s:SSt) (me:Int) (txs:List Tx):Blk × Int:=if s.mode ≠ 0 then (Blk.zero,213) else madeD ⟨s.view,0,0,me,s.high,[],txs⟩
theorem bzB:abuild Tryz.prog 28 [] = some (.agg (Blk.zero.cells nilV nilV)):=by first | (simp [abuild,afill]; done) | (simp [abuild,afill]; rfl)
theorem blk_put {M:AH} {q:Nat} {l:List V} (hq:M.get q = some (.cells l 0 false 0)) (hl:l.length = 14) (c:Blk) (pc tc:V):astore Tryz.prog M 28 (.p (some (q,0,0))) (.agg (c.cells pc tc)) = some (M.set q (.cells (c.cells pc tc) 0 false 0)):=by
 simp [astore,hq,V.cells,show splice l 0 (c.cells pc tc) = c.cells pc tc from splice_all (by rw [hl]; rfl),hl]
theorem sl_form {H:AH} {v:V} {sz:Nat} {ls:List (List V)} (h:RS H v sz ls):∃ q n c,v = .sl q n c:=by rcases h.2 with ⟨c,e,_⟩ | ⟨_,_,_,_,_,_,e,_⟩ <;> exact ⟨_,_,_,e⟩
theorem lead_build (v me:Int) (c:Cert) (txs:List Tx) (q:Option (Nat × Nat × Nat)) (n:Nat) (k:Bool):abuild Tryz.prog 28 [(0,.i .i64 v),(3,.i .i64 me),(4,.agg c.cells),(6,.sl q n k)] = some (.agg ((⟨v,0,0,me,c,[],txs⟩:Blk).cells nilV (.sl q n k))):=by
 simp [abuild,afill,V.cells]
 repeat (refine ⟨by simp [splice],?_⟩)
 first | done | rfl
theorem lead_ok (H:AH) {s:SSt} {fv hv pv bv txv:V} (me:Int) (txs:List Tx) (ht:RS H txv 7 (txs.map Tx.cells)) (hl:txs.length ≤ 1000000000) (he:∀ t ∈ txs,t.small) :
  ACalls Tryz.prog 21 [.agg (s.cells fv hv pv bv),.i .i64 me,txv] H fun r H'=>∃ pv' tv',r = .tup [.agg ((leadD s me txs).1.cells pv' tv'),.i .i64 (leadD s me txs).2] ∧ BlkNewer H.next H' (leadD s me txs).1 pv' tv' ∧ Upd H H' []:=by
 refine ACalls_body Tryz.func21 rfl rfl ?_
 refine AW_seq ?_
 refine AW_reg [1,2,3,6] fun K hK=>?_
 simp [init_eq,V.cells]
 obtain ⟨G,e1,g1,g2,gn,go⟩:=H.boxed2 (s.cells fv hv pv bv) (Blk.zero.cells nilV nilV)
 change K _ ((H.new (.cells (s.cells fv hv pv bv) 0 false 0)).new (.cells (Blk.zero.cells nilV nilV) 0 false 0))
 rw [e1]
 apply hK;clear hK K
 have u1:Upd H G []:=⟨by omega,fun j hj _=>go j hj⟩
 have uE:∀ {M:AH} (_:Upd G M []) (c:Blk) (pc tc:V),Upd H (M.set (H.next + 1) (.cells (c.cells pc tc) 0 false 0)) []:=fun {M} u c pc tc=>⟨by have:=u.1; simp; omega,fun j hj h=>by rw [AH.get_set_ne (by omega),u.2 j (by omega) (by simp)]; exact go j hj⟩
 have lE:∀ {M:AH} (_:Upd G M []) (c:Blk) (pc tc:V),aload Tryz.prog (M.set (H.next + 1) (.cells (c.cells pc tc) 0 false 0)) 28 (.p (some (H.next + 1,0,0))) = some (.agg (c.cells pc tc)):=fun u c pc tc=>by simp [aload,AH.get_set_same (AH.get_lt (u.keep (by simp) g2)),blk_take]
 refine AW_seq ?_
 refine AW_seq ?_
 refine AW_reg [1,2,3,6,10] fun K hK=>?_
 simp [init_eq,afieldAddr,aload,g1]
 apply hK;clear hK K
 refine AW_cond' rfl rfl (fun hc=>?_) (fun hc=>?_)
 · have hm:s.mode ≠ 0:=by simpa using hc
   have hD:leadD s me txs = (Blk.zero,213):=if_pos hm
   refine AW_seq ?_
   refine AW_reg [6,7] fun K hK=>?_
   simp [init_eq,bzB]
   refine ⟨_,blk_put g2 rfl Blk.zero nilV nilV,?_⟩
   apply hK;clear hK K
   exact AW_ret (end_ret (ares_cell_tmp (lE (Upd.refl ..) Blk.zero nilV nilV)) ⟨nilV,nilV,by rw [hD]; rfl,by rw [hD]; exact BlkNewer.nil _ _,uE (Upd.refl ..) ..⟩)
 · have hm:s.mode = 0:=by simpa using hc
   have hD:leadD s me txs = madeD ⟨s.view,0,0,me,s.high,[],txs⟩:=if_neg (by simpa using hm)
   obtain ⟨q,n,k,rfl⟩:=sl_form ht
   refine AW_skip ?_
   refine AW_seq ?_
   refine AW_reg [6,7] fun K hK=>?_
   simp [init_eq,afieldAddr,aload,g1]
   refine ⟨_,lead_build s.view me s.high txs q n k,?_⟩
   have hbG:BlkAt G (⟨s.view,0,0,me,s.high,[],txs⟩:Blk) nilV (.sl q n k):=⟨RS.nil ..,ht.same go⟩
   refine ACalls.mono (made_ok G hbG ⟨by simp,hl,he⟩) fun r X ⟨pv',tv',hr,hb',u⟩=>?_
   rw [← hD] at hr hb'
   subst hr
   simp
   refine ⟨_,blk_put (u.keep (by simp) g2) rfl _ pv' tv',?_⟩
   apply hK;clear hK K
   have uX:Upd X (X.set (H.next + 1) (.cells ((leadD s me txs).1.cells pv' tv') 0 false 0)) [H.next + 1]:=⟨by simp,fun j _ hj=>AH.get_set_ne (by simpa using hj) ..⟩
   exact AW_ret (end_ret (ares_cell_tmp (lE u (leadD s me txs).1 pv' tv')) ⟨pv',tv',rfl,hb'.upd uX (by simp; omega) (by omega),uE u ..⟩)
end Go.Proofs.YtaidfojbnfkclaaGreatDoor
