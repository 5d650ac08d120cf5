/-
  The document's Cast.
-/
import Derived.Test.YtaidfojbnfkclaaGreatDoorCast2
set_option linter.unusedVariables false
set_option linter.unusedSimpArgs false
namespace Go.Proofs.YtaidfojbnfkclaaGreatDoor
open Go Go.Abs Go.Proofs
set_option maxRecDepth 100000
attribute [local irreducible] AEnd AW ACalls
theorem set_one {s:BitVec 32} {me:Int} (h:∀ i,i < 32 → s.getLsbD i = decide ((i:Int) ∈ [me])):s = castSet me:=by
 apply BitVec.eq_of_getLsbD_eq
 intro i hi
 rw [h i hi]
 unfold castSet
 split
 · rename_i hm
   rw [BitVec.getLsbD_shiftLeft,BitVec.getLsbD_one]
   by_cases hx:i = me.toNat
   · have:(i:Int) = me:=by omega
     simp [this]; omega
   · have h1:¬ (i:Int) = me:=by omega
     simp [h1]; omega
 · rename_i hm
   have h1:¬ (i:Int) = me:=by omega
   simp [h1]
theorem one_int (M:AH) (me:Int):abuildSlice Tryz.prog M 92 1 [(0,.i .i64 me)] = some (.sl (some (M.next,0,0)) 1 false,M.new (.cells [.i .i64 me] 0 false 1)):=by
 simp [abuildSlice,afill,V.cells,splice_zero]
theorem int_rs {M:AH} {i:Nat} {me:Int} (h:M.get i = some (.cells [.i .i64 me] 0 false 1)):RS M (.sl (some (i,0,0)) 1 false) 1 ([me].map intC) :=
 ⟨by simp [intC],.inr ⟨i,0,0,_,_,_,rfl,h,.inr rfl,by simp,by simp [intC]⟩⟩
theorem rcast_ok (H:AH) (me n:Int) (b:Blk) (pv tv:V):ACalls Tryz.prog 18 [.i .i64 me,.i .i64 n,.agg (b.cells pv tv)] H fun r H'=>r = .agg (castC me n b).cells ∧ H' = H:=by
 refine ACalls.pure (Q:=fun r=>r = .agg (castC me n b).cells) ⟨_,Tryz.func18,rfl,rfl⟩ ?_
 refine ACalls_body Tryz.func18 rfl rfl ?_
 refine AW_seq ?_
 refine AW_reg [0,1,5,6] fun K hK=>?_
 simp [init_eq,V.cells]
 obtain ⟨H1,e1,g1,g2,n1,o1⟩:=H.boxed2 (b.cells pv tv) Cert.zero.cells
 rw [e1]
 have u1:Upd H H1 []:=⟨by omega,fun j hj _=>o1 j hj⟩
 apply hK;clear hK K
 refine AW_cut (fun ρ' X=>∃ q,ρ' = ⟨28,[(5,.p (some (H.next,0,0))),(6,.p (some (H.next + 1,0,0))),(7,.p (some (q,0,0)))]⟩ ∧ X.get q = some (.cells (⟨1,n,b.view,b.round,0,0,castSet me,0#32⟩:Cert).cells 0 false 0) ∧ Upd H1 X [] ∧ H1.next ≤ q) ?_ ?_
 · refine AW_regd [5,6,7] pl_18_1 pe_18_1 (by kernel_rfl) (by kernel_rfl) (by decide) fun K hK=>?_
   simp [init_eq,pl_18_1,aload,afieldAddr,g1,one_int,V.cells]
   have uI:Upd H1 (H1.new (.cells [.i .i64 me] 0 false 1)) []:=Upd.new ..
   have uZ:Upd H1 (H1.new (.cells Cert.zero.cells 0 false 0)) []:=Upd.new ..
   have fin:∀ (M:AH) (q:Nat),M.get q = some (.cells Cert.zero.cells 0 false 0) → Upd H1 M [] → H1.next ≤ q → ∃ M2,astore Tryz.prog M 24 (.p (some (q,0,0))) (.agg (⟨1,n,b.view,b.round,0,0,castSet me,0#32⟩:Cert).cells) = some M2 ∧ K ⟨28,[(5,.p (some (H.next,0,0))),(6,.p (some (H.next + 1,0,0))),(7,.p (some (q,0,0)))]⟩ M2:=fun M q hq u hn =>
    ⟨_,cert_store hq rfl _,hK _ _ (rend ⟨_,by simp,q,rfl,AH.get_set_same (AH.get_lt hq),u.trans (Upd.set M q _ (F:=[q]) (by simp)) (fun j hj=>.inr (by simp at hj; omega)),hn⟩)⟩
   refine ⟨⟨?_,?_⟩,?_⟩
   · refine ACalls.mono (rofI_ok _ (int_rs (AH.get_new_same ..)) (by simp)) fun v M ⟨⟨x,hr,hx⟩,e⟩=>?_
     subst hr
     rw [set_one hx,e]
     exact ⟨AH.ext.refl _,_,cast_build ..,fin _ _ (AH.get_new_same ..) (uI.trans (G:=[]) (Upd.new ..) (by simp)) (by simp)⟩
   · have uB:Upd (H1.new (.cells [.i .i64 me] 0 false 1)) ((H1.new (.cells [.i .i64 me] 0 false 1)).new (.cells Cert.zero.cells 0 false 0)) []:=Upd.new ..
     refine ACalls.mono (rofI_ok _ (int_rs (uB.keep (by simp) (AH.get_new_same ..))) (by simp)) fun v M ⟨⟨x,hr,hx⟩,e⟩=>?_
     subst hr
     rw [set_one hx,e]
     exact ⟨AH.ext.refl _,_,cast_build ..,fin _ _ (AH.get_new_same ..) (uI.trans uB (by simp)) (by omega)⟩
   · have uB:Upd (H1.new (.cells Cert.zero.cells 0 false 0)) ((H1.new (.cells Cert.zero.cells 0 false 0)).new (.cells [.i .i64 me] 0 false 1)) []:=Upd.new ..
     refine ACalls.mono (rofI_ok _ (int_rs (AH.get_new_same ..)) (by simp)) fun v M ⟨⟨x,hr,hx⟩,e⟩=>?_
     subst hr
     rw [set_one hx,e]
     exact ⟨AH.ext.refl _,_,cast_build ..,fin _ _ (uB.keep (by simp) (AH.get_new_same ..)) (uZ.trans uB (by simp)) (by omega)⟩
 · rintro ρ' X ⟨q,rfl,gq,uX,hq⟩
   have x1:=uX.keep (by simp) g1
   have x2:=uX.keep (by simp) g2
   have end':∀ (Y:AH) (ρ:Env),Y.get q = some (.cells (castC me n b).cells 0 false 0) → Upd X Y [q] → ρ.get 6 = .p (some (H.next + 1,0,0)) → ∃ Z,astore Tryz.prog Y 24 (.p (some (H.next + 1,0,0))) (.agg (castC me n b).cells) = some Z ∧
     Z = Y.set (H.next + 1) (.cells (castC me n b).cells 0 false 0) ∧ AEnd Tryz.prog Tryz.f18 (fun r H'=>(r = .agg (castC me n b).cells) ∧ V.lt H.next r = true ∧ H.next ≤ H'.next ∧ ∀ j,j < H.next → H'.get j = H.get j) .ret ρ Z:=by
    intro Y ρ gY uY h6
    have y2:=uY.keep (by simp; omega) x2
    refine ⟨_,cert_store y2 rfl _,rfl,?_⟩
    refine end_ret (ares_cell (v:=.agg (castC me n b).cells) ?_) ⟨rfl,rfl,?_,fun j hj=>?_⟩
    · show aload _ _ _ (ρ.get 6) = _
      rw [h6]; simp [aload,AH.get_set_same (AH.get_lt y2),take_cells]
    · have:=uX.1; have:=uY.1; simp; omega
    · rw [AH.get_set_ne (by omega),uY.2 j (by have:=uX.1; omega) (by simp; omega),uX.2 j (by omega) (by simp),o1 j hj]
   refine AW_cut (fun ρ' Y=>ρ' = ⟨28,[(6,.p (some (H.next + 1,0,0))),(7,.p (some (q,0,0)))]⟩ ∧ Y.get q = some (.cells (castC me n b).cells 0 false 0) ∧ Upd X Y [q]) ?_ ?_
   · refine AW_seq ?_
     refine AW_reg [5,6,7,19] fun K hK=>?_
     simp [init_eq,aload,afieldAddr,x1]
     apply hK;clear hK K
     refine AW_cond' rfl rfl (fun hx=>?_) (fun hx=>?_)
     · have hh:b.height ≠ 0:=by simpa using hx
       have hC:castC me n b = ⟨2,n,b.view,b.round,b.height,b.author,castSet me,0#32⟩:=by unfold castC; rw [if_neg hh]
       obtain ⟨W1,a1,q1,w1⟩:=stF (P:=Tryz.prog) (t:=3) (o:=0) (x:=.i .i64 2) gq rfl qsize_3 (by simp)
       obtain ⟨W2,a2,q2,w2⟩:=stF (P:=Tryz.prog) (t:=3) (o:=4) (x:=.i .i64 b.height) q1 rfl qsize_3 (by simp [splice])
       obtain ⟨W3,a3,q3,w3⟩:=stF (P:=Tryz.prog) (t:=3) (o:=5) (x:=.i .i64 b.author) q2 rfl qsize_3 (by simp [splice])
       have k1:=w1.keep (by simp; omega) x1
       have k2:=w2.keep (by simp; omega) k1
       refine AW_seq ?_
       refine AW_reg [5,6,7] fun K hK=>?_
       simp [init_eq,afieldAddr,a1]
       apply hK;clear hK K
       refine AW_seq ?_
       refine AW_reg [5,6,7] fun K hK=>?_
       simp [init_eq,aload,afieldAddr,k1,a2]
       apply hK;clear hK K
       refine AW_reg [6,7] fun K hK=>?_
       simp [init_eq,aload,afieldAddr,k2,a3]
       refine hK _ _ (rend ⟨_,by simp,rfl,?_,(w1.trans w2 (fun j hj=>.inl hj)).trans w3 (fun j hj=>.inl hj)⟩)
       rw [q3,hC]; rfl
     · have hh:b.height = 0:=by simpa using hx
       have hC:castC me n b = ⟨1,n,b.view,b.round,0,0,castSet me,0#32⟩:=by unfold castC; rw [if_pos hh]
       refine AW_skip (rend ⟨_,by simp,rfl,?_,Upd.refl ..⟩)
       rw [gq,hC]
   · rintro ρ' Y ⟨rfl,gY,uY⟩
     obtain ⟨Z,aZ,hZ,eZ⟩:=end' Y ⟨28,[(6,.p (some (H.next + 1,0,0)))]⟩ gY uY rfl
     refine AW_seq ?_
     refine AW_reg [6] fun K hK=>?_
     simp [init_eq,aload,gY,take_cells,aZ]
     apply hK;clear hK K
     exact AW_ret eZ
end Go.Proofs.YtaidfojbnfkclaaGreatDoor
