import Derived.Test.YtaidfojbnfkclaaGreatDoorMade0
import Derived.Test.YtaidfojbnfkclaaGreatDoorSaf7
import Derived.Test.YtaidfojbnfkclaaGreatDoorTxtC
set_option linter.unusedVariables false
set_option linter.unusedSimpArgs false
namespace Go.Proofs.YtaidfojbnfkclaaGreatDoor
open Go Go.Abs Go.Proofs
set_option maxRecDepth 100000
attribute [local irreducible] AEnd AW ACalls
def madeB (b:Blk):Blk:={ b with round:=IntKind.i64.wrap (b.parent.round + 1) }
def madeD (b:Blk):Blk × Int:=if (madeB b).err ≠ 0 then (Blk.zero,(madeB b).err) else (madeB b,0)
def BlkNewer (n:Nat) (G:AH) (c:Blk) (pv tv:V):Prop:=∀ (M:AH) (C:List Nat),Upd G M C → (∀ j ∈ C,j < n) → BlkAt M c pv tv
theorem BlkNewer.at {n:Nat} {G:AH} {c:Blk} {pv tv:V} (h:BlkNewer n G c pv tv):BlkAt G c pv tv:=h G [] (Upd.refl ..) (by simp)
theorem BlkNewer.nil (n:Nat) (G:AH):BlkNewer n G Blk.zero nilV nilV:=fun _ _ _ _=>⟨RS.nil ..,RS.nil ..⟩
theorem BlkNewer.upd {n m:Nat} {G M:AH} {C:List Nat} {c:Blk} {pv tv:V} (h:BlkNewer n G c pv tv) (u:Upd G M C) (hC:∀ j ∈ C,j < n) (hm:m ≤ n):BlkNewer m M c pv tv:=fun N D uN hD =>
 h N (C ++ D) ⟨Nat.le_trans u.1 uN.1,fun j hj hx=>by rw [uN.2 j (Nat.lt_of_lt_of_le hj u.1) (fun h=>hx (by simp [h])),u.2 j hj (fun h=>hx (by simp [h]))]⟩ fun j hj=>by
  rcases List.mem_append.1 hj with h | h
  · exact hC j h
  · exact Nat.lt_of_lt_of_le (hD j h) hm
theorem made_ok (H:AH) {b:Blk} {pv tv:V} (hb:BlkAt H b pv tv) (hs:b.small) :
  ACalls Tryz.prog 54 [.agg (b.cells pv tv)] H fun r H'=>∃ pv' tv',r = .tup [.agg ((madeD b).1.cells pv' tv'),.i .i64 (madeD b).2] ∧ BlkNewer H.next H' (madeD b).1 pv' tv' ∧ Upd H H' []:=by
 refine ACalls_body Tryz.func54 rfl rfl ?_
 refine AW_seq ?_
 refine AW_reg [1,2] fun K hK=>?_
 simp [init_eq,V.cells]
 obtain ⟨G,e1,g1,g2,gn,go⟩:=H.boxed2 (b.cells pv tv) (Blk.zero.cells nilV nilV)
 change K _ ((H.new (.cells (b.cells pv tv) 0 false 0)).new (.cells (Blk.zero.cells nilV nilV) 0 false 0))
 rw [e1]
 apply hK;clear hK K
 have u1:Upd H G []:=⟨by omega,fun j hj _=>go j hj⟩
 have hbG:=hb.same go
 have f5:afieldAddr Tryz.prog 28 5 (.p (some (H.next,0,0))) = some (.p (some (H.next,0,12))):=by simp [afieldAddr]
 have f6:afieldAddr Tryz.prog 28 6 (.p (some (H.next,0,0))) = some (.p (some (H.next,0,13))):=by simp [afieldAddr]
 refine AW_seq ?_
 refine AW_regd [1,2] pl_54_1 pe_54_1 (by kernel_rfl) (by kernel_rfl) (by decide) fun K hK=>?_
 simp [init_eq,pl_54_1,f5,f6,aload,g1]
 refine ACalls.mono (cloneTmoS G hbG.pf (by simpa using hs.pf)) fun pv' X ⟨F1,w1,u2,q1⟩=>?_
 refine ⟨u2.ext,?_⟩
 refine ACalls.mono (cloneTxS X (hbG.tx.upd u2) (by simpa using hs.tx)) fun tv' Y ⟨F2,w2,u3,q2⟩=>?_
 have r1:RS Y pv' 10 (b.proof.map Tmo.cells):=(w1.rsR (f:=Tmo.cells) (by decide) Tmo.len).upd u3
 have r2:RS Y tv' 7 (b.txs.map Tx.cells):=w2.rsR (f:=Tx.cells) (by decide) Tx.len
 have c1:V.cells pv' = [pv']:=by rcases r1.2 with ⟨c,e,_⟩ | ⟨_,_,_,_,_,_,e,_⟩ <;> rw [e] <;> rfl
 have c2:V.cells tv' = [tv']:=by rcases r2.2 with ⟨c,e,_⟩ | ⟨_,_,_,_,_,_,e,_⟩ <;> rw [e] <;> rfl
 have gY:Y.get H.next = some (.cells (b.cells pv tv) 0 false 0):=u3.keep (by simp) (u2.keep (by simp) g1)
 have s1:astore Tryz.prog Y 25 (.p (some (H.next,0,12))) pv' = some (Y.set H.next (.cells (b.cells pv' tv) 0 false 0)):=by
  simp [astore,gY,c1]; rfl
 have s2:astore Tryz.prog (Y.set H.next (.cells (b.cells pv' tv) 0 false 0)) 26 (.p (some (H.next,0,13))) tv' = some ((Y.set H.next (.cells (b.cells pv' tv) 0 false 0)).set H.next (.cells (b.cells pv' tv') 0 false 0)):=by
  simp [astore,AH.get_set_same (AH.get_lt gY),c2]; rfl
 refine ⟨_,s1,_,s2,?_⟩
 obtain ⟨Z,eZ,z1,nZ,oZ⟩:∃ Z,(Y.set H.next (.cells (b.cells pv' tv) 0 false 0)).set H.next (.cells (b.cells pv' tv') 0 false 0) = Z ∧ Z.get H.next = some (.cells (b.cells pv' tv') 0 false 0) ∧ Z.next = Y.next ∧ ∀ j,j ≠ H.next → Z.get j = Y.get j :=
  ⟨_,rfl,AH.get_set_same (by simpa using AH.get_lt gY),by simp,fun j hj=>by rw [AH.get_set_ne (by omega),AH.get_set_ne (by omega)]⟩
 rw [eZ]
 apply hK;clear hK K
 have w1Y:Own Y pv' 10 (b.proof.map Tmo.cells).flatten F1:=w1.upd u3 (by simp)
 have p7:(b.cells pv' tv')[7]? = some (.i .i64 b.parent.round):=rfl
 have s3:astore Tryz.prog Z 3 (.p (some (H.next,0,1))) (.i .i64 (IntKind.i64.wrap (b.parent.round + 1))) = some (Z.set H.next (.cells ((madeB b).cells pv' tv') 0 false 0)):=by
  simp [astore,z1]; rfl
 obtain ⟨W,eW,y1,nW,oW⟩:∃ W,Z.set H.next (.cells ((madeB b).cells pv' tv') 0 false 0) = W ∧ W.get H.next = some (.cells ((madeB b).cells pv' tv') 0 false 0) ∧ W.next = Y.next ∧ ∀ j,j ≠ H.next → W.get j = Y.get j :=
  ⟨_,rfl,AH.get_set_same (AH.get_lt z1),by simpa using nZ,fun j hj=>by rw [AH.get_set_ne (by omega)]; exact oZ j hj⟩
 have uYW:Upd Y W [H.next]:=⟨by omega,fun j _ hj=>oW j (by simpa using hj)⟩
 have uGY:Upd G Y []:=u2.trans u3 (by simp)
 have uHW:Upd H W []:=⟨by have:=u1.1; have:=uGY.1; omega,fun j hj _=>by rw [oW j (by omega),uGY.2 j (by omega) (by simp)]; exact go j hj⟩
 have q2':∀ j ∈ F2,G.next ≤ j:=fun j hj=>Nat.le_trans u2.1 (q2 j hj)
 have hbW:BlkAt W (madeB b) pv' tv':=⟨(w1Y.upd uYW (fun j hj h=>by have:=q1 j hj; simp at h; omega)).rsR (f:=Tmo.cells) (by decide) Tmo.len,(w2.upd uYW (fun j hj h=>by have:=q2' j hj; simp at h; omega)).rsR (f:=Tx.cells) (by decide) Tx.len⟩
 have gz:W.get (H.next + 1) = some (.cells (Blk.zero.cells nilV nilV) 0 false 0):=by rw [oW _ (by omega)]; exact uGY.keep (by simp) g2
 have hsm:(madeB b).small:=⟨hs.pf,hs.tx,hs.each⟩
 refine AW_seq ?_
 refine AW_reg [1,2] fun K hK=>?_
 simp [init_eq,afieldAddr,aload,z1,p7,s3]
 rw [eW]
 apply hK;clear hK K
 have lW:aload Tryz.prog W 28 (.p (some (H.next,0,0))) = some (.agg ((madeB b).cells pv' tv')):=by simp [aload,y1,blk_take]
 refine AW_seq ?_
 refine AW_seq ?_
 refine AW_reg [1,2,4] fun K hK=>?_
 simp [init_eq,lW]
 refine ACalls.mono (bcheck_ok W hbW hsm.fits) fun r H' ⟨hr,e⟩=>?_
 subst hr e
 try simp
 apply hK;clear hK K
 refine AW_seq ?_
 refine AW_reg [1,2,4,21] fun K hK=>?_
 simp [init_eq]
 apply hK;clear hK K
 have hst:∀ (c:Blk) (pc tc:V),astore Tryz.prog H' 28 (.p (some (H.next + 1,0,0))) (.agg (c.cells pc tc)) = some (H'.set (H.next + 1) (.cells (c.cells pc tc) 0 false 0)):=fun c pc tc=>by
  simp [astore,gz,V.cells]; rfl
 have uE:∀ (c:Blk) (pc tc:V),Upd H (H'.set (H.next + 1) (.cells (c.cells pc tc) 0 false 0)) []:=fun c pc tc=>⟨by have:=uHW.1; simp; omega,fun j hj h=>by rw [AH.get_set_ne (by omega)]; exact uHW.2 j hj h⟩
 have lE:∀ (c:Blk) (pc tc:V),aload Tryz.prog (H'.set (H.next + 1) (.cells (c.cells pc tc) 0 false 0)) 28 (.p (some (H.next + 1,0,0))) = some (.agg (c.cells pc tc)):=fun c pc tc=>by simp [aload,AH.get_set_same (AH.get_lt gz),blk_take]
 refine AW_cond' rfl rfl (fun hc=>?_) (fun hc=>?_)
 · have he:(madeB b).err ≠ 0:=by simpa using hc
   have hz:abuild Tryz.prog 28 [] = some (.agg (Blk.zero.cells nilV nilV)):=by first | (simp [abuild,afill]; done) | (simp [abuild,afill]; rfl)
   refine AW_seq ?_
   refine AW_reg [2,3] fun K hK=>?_
   simp [init_eq,hz,hst]
   apply hK;clear hK K
   have hD:madeD b = (Blk.zero,(madeB b).err):=if_pos he
   exact AW_ret (end_ret (ares_cell_tmp (lE Blk.zero nilV nilV)) ⟨nilV,nilV,by rw [hD]; rfl,by rw [hD]; exact BlkNewer.nil _ _,uE ..⟩)
 · have he:(madeB b).err = 0:=by simpa using hc
   refine AW_skip ?_
   refine AW_seq ?_
   refine AW_reg [2,3] fun K hK=>?_
   simp [init_eq,lW,hst]
   apply hK;clear hK K
   have hD:madeD b = (madeB b,0):=if_neg (by simpa using he)
   have uX:Upd H' (H'.set (H.next + 1) (.cells ((madeB b).cells pv' tv') 0 false 0)) [H.next + 1]:=⟨by simp,fun j _ hj=>AH.get_set_ne (by simpa using hj) ..⟩
   refine AW_ret (end_ret (ares_cell_tmp (lE (madeB b) pv' tv')) ⟨pv',tv',by rw [hD]; rfl,?_,uE ..⟩)
   rw [hD]
   exact fun M C u hC=>⟨(((w1Y.upd uYW (fun j hj h=>by have:=q1 j hj; simp at h; omega)).upd uX (fun j hj h=>by have:=q1 j hj; simp at h; omega)).upd u (fun j hj h=>by have:=q1 j hj; have:=hC j h; omega)).rsR (f:=Tmo.cells) (by decide) Tmo.len,(((w2.upd uYW (fun j hj h=>by have:=q2' j hj; simp at h; omega)).upd uX (fun j hj h=>by have:=q2' j hj; simp at h; omega)).upd u (fun j hj h=>by have:=q2' j hj; have:=hC j h; omega)).rsR (f:=Tx.cells) (by decide) Tx.len⟩
end Go.Proofs.YtaidfojbnfkclaaGreatDoor
