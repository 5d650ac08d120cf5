/-
  The registers that an input makes.
-/
import Derived.Test.YtmhaimdpfelkpaaGreatDoorTxtG
import Derived.Test.YtmhaimdpfelkpaaGreatDoorTxtC
set_option linter.unusedVariables false
set_option linter.unusedSimpArgs false
namespace Go.Proofs.YtmhaimdpfelkpaaGreatDoor
open Go Go.Abs Go.Proofs
set_option maxRecDepth 100000
attribute [local irreducible] AEnd AW ACalls
def bkBlk (cs:List (List UInt8)) (x:Blk × V × V):List (List UInt8):=if x.1.err = 0 then bkEnter cs x.1.bytes else cs
def bkB (i:InD) (k:Nat):List (List UInt8):=(i.bl.take k).foldl bkBlk []
def bkC (i:InD) (k:Nat):List (List UInt8):=(i.ct.take k).foldl bkEnter (bkB i i.bl.length)
def shI (i:InD) (k:Nat):List Shr:=(i.sh.take k).foldl (shIssue i.f) []
def coI (i:InD) (k:Nat):Int → Tos:=(i.cn.take k).foldl (fun co x=>coChoose i.f co x.stmt.view x.signer) fun _=>Tos.zero
def gvI (i:InD) (k:Nat):List (Int × Int):=(i.cn.take k).foldl (fun gv x=>gvChoose i.f gv [] x.stmt.view x.signer) []
theorem foldl_take_succ {α β:Type} (g:β → α → β) (b:β) (l:List α) {k:Nat} (h:k < l.length):(l.take (k + 1)).foldl g b = g ((l.take k).foldl g b) l[k]:=by
 rw [List.take_succ_eq_append_getElem h,List.foldl_append]; rfl
theorem foldl_len {α β:Type} (g:List β → α → List β) (hg:∀ b a,(g b a).length ≤ b.length + 1):∀ (l:List α) (b:List β),(l.foldl g b).length ≤ b.length + l.length
 | [],b=>by simp
 | a :: l,b=>by
   have:=foldl_len g hg l (g b a)
   have:=hg b a
   simp only [List.foldl_cons,List.length_cons]; omega
theorem bkBlk_len (cs:List (List UInt8)) (x:Blk × V × V):(bkBlk cs x).length ≤ cs.length + 1:=by
 unfold bkBlk; split
 · exact bkEnter_len ..
 · omega
theorem bkB_len (i:InD) (k:Nat):(bkB i k).length ≤ k:=by
 have:=foldl_len bkBlk bkBlk_len (i.bl.take k) []
 have h2:=List.length_take (l:=i.bl) (i:=k)
 simp at this h2 ⊢; unfold bkB; omega
theorem bkC_len (i:InD) (k:Nat):(bkC i k).length ≤ i.bl.length + k:=by
 have:=foldl_len bkEnter bkEnter_len (i.ct.take k) (bkB i i.bl.length)
 have h1:=bkB_len i i.bl.length
 have h2:=List.length_take (l:=i.ct) (i:=k)
 unfold bkC; omega
theorem shI_len (i:InD) (k:Nat):(shI i k).length ≤ k:=by
 have:=foldl_len (shIssue i.f) (shIssue_len i.f) (i.sh.take k) []
 have h2:=List.length_take (l:=i.sh) (i:=k)
 unfold shI; simp at this h2 ⊢; omega
theorem gvI_len (i:InD) (k:Nat):(gvI i k).length ≤ k:=by
 have:=foldl_len (fun gv (x:Shr)=>gvChoose i.f gv [] x.stmt.view x.signer) (fun b a=>gvChoose_len ..) (i.cn.take k) []
 have h2:=List.length_take (l:=i.cn) (i:=k)
 unfold gvI; simp at this h2 ⊢; omega
theorem bkEnter_txt {cs:List (List UInt8)} {s:List UInt8} (h:∀ t ∈ cs,t.length ≤ 65536):∀ t ∈ bkEnter cs s,t.length ≤ 65536:=by
 unfold bkEnter addN
 split
 · exact h
 · split
   · exact h
   · intro t ht
     rcases List.mem_append.1 ht with e | e
     · exact h t e
     · simp at e; subst e; omega
theorem foldl_all {α β:Type} (g:β → α → β) (p:β → Prop) (hg:∀ b a,p b → p (g b a)):∀ (l:List α) (b:β),p b → p (l.foldl g b)
 | [],b,h=>h
 | a :: l,b,h=>foldl_all g p hg l _ (hg b a h)
theorem bkC_txt (i:InD) (k:Nat):∀ t ∈ bkC i k,t.length ≤ 65536:=by
 unfold bkC bkB
 refine foldl_all bkEnter (fun cs=>∀ t ∈ cs,t.length ≤ 65536) (fun b a h=>bkEnter_txt h) _ _ (foldl_all bkBlk (fun cs=>∀ t ∈ cs,t.length ≤ 65536) (fun b a h=>?_) _ _ (by simp))
 unfold bkBlk; split
 · exact bkEnter_txt h
 · exact h
/-- What the registers of an input know. -/
def regOf (i:InD):RegD:=⟨i.f,i.bad,bkC i i.ct.length,shI i i.sh.length,coI i i.cn.length⟩
def gvOf (i:InD):List (Int × Int):=gvI i i.cn.length
theorem signNew' (H:AH) (f:Int) (bad:BitVec 32):ACalls Tryz.prog 41 [.i .i64 f,u32 bad] H fun r H'=>∃ (v:V) (e:Int),r = .tup [v,.i .i64 e] ∧ Upd H H' [] ∧ (e = 0 → qcheck f bad = 0 ∧ (pop bad:Int) ≤ f ∧ ∃ is F,v = .p (some (is,0,0)) ∧ SignAt H' is F f bad [] ∧ ∀ j ∈ F,H.next ≤ j) :=
 (signNew_ok H f bad).mono fun r H' h=>by
   rcases h with ⟨e,h0,h1,h2⟩ | ⟨h1,h2,is,F,h3,h4,h5,h6⟩
   · exact ⟨_,e,h1,h2 ▸ Upd.refl ..,fun h=>absurd h h0⟩
   · exact ⟨_,0,h3,h5,fun _=>⟨h1,h2,is,F,rfl,h4,h6⟩⟩
theorem rsignNew' (H:AH) (f:Int) (bad:BitVec 32):ACalls Tryz.prog 42 [.i .i64 f,u32 bad] H fun r H'=>∃ (v:V) (e:Int),r = .tup [v,.i .i64 e] ∧ Upd H H' [] ∧ (e = 0 → ∃ is F,v = .p (some (is,0,0)) ∧ RSignAt H' is F f bad [] ∧ ∀ j ∈ F,H.next ≤ j) :=
 (rsignNew_ok H f bad).mono fun r H' h=>by
   rcases h with ⟨e,h0,h1,h2⟩ | ⟨is,F,h3,h4,h5,h6⟩
   · exact ⟨_,e,h1,h2,fun h=>absurd h h0⟩
   · exact ⟨_,0,h3,h5,fun _=>⟨is,F,rfl,h4,h6⟩⟩
theorem coinNew' (H:AH) (f:Int):ACalls Tryz.prog 43 [.i .i64 f] H fun r H'=>∃ (v:V) (e:Int),r = .tup [v,.i .i64 e] ∧ Upd H H' [] ∧ (e = 0 → qtimes 3 f ≠ 0 ∧ ∃ ic F,v = .p (some (ic,0,0)) ∧ CoinAt H' ic F f (fun _=>Tos.zero) ∧ ∀ j ∈ F,H.next ≤ j) :=
 (coinNew_ok H f).mono fun r H' h=>by
   rcases h with ⟨e,h0,h1,h2⟩ | ⟨h1,is,F,h3,h4,h5,h6⟩
   · exact ⟨_,e,h1,h2 ▸ Upd.refl ..,fun h=>absurd h h0⟩
   · exact ⟨_,0,h3,h5,fun _=>⟨h1,is,F,rfl,h4,h6⟩⟩
theorem ares_cct {P:Program} {H:AH} {ρ:Env} {a t b s u:Nat} {v w:V} (h:aload P H t (ρ.get a) = some v) (h':aload P H s (ρ.get b) = some w):ares1 P H ρ [.cell a t,.cell b s,.tmp u] = some (.tup [v,w,ρ.get u]):=by simp [ares1,ares,h,h']
/-- The registers of an input, the program's and the document's. -/
structure LawsAt (H H':AH) (i:InD) (ib is ic jb js jc:Nat) (FB FS FC GB GS GC:List Nat):Prop where
 law:LawAt H' ib is ic FB FS FC (regOf i)
 rbook:RBookAt H' jb GB (regOf i).bk
 rsign:RSignAt H' js GS i.f i.bad (regOf i).sh
 rcoin:RCoinAt H' jc GC i.f (gvOf i) []
 dis:Dis [FB,FS,FC,GB,GS,GC]
 new:∀ A ∈ [FB,FS,FC,GB,GS,GC],∀ j ∈ A,H.next ≤ j
 upd:Upd H H' []
 chk:qcheck i.f i.bad = 0
 few:(pop i.bad:Int) ≤ i.f
theorem dis6 {A B C D E F:List Nat} (h1:∀ j ∈ A,j ∉ B) (h2:∀ j ∈ A,j ∉ C) (h3:∀ j ∈ A,j ∉ D) (h4:∀ j ∈ A,j ∉ E) (h5:∀ j ∈ A,j ∉ F) (h6:∀ j ∈ B,j ∉ C) (h7:∀ j ∈ B,j ∉ D) (h8:∀ j ∈ B,j ∉ E) (h9:∀ j ∈ B,j ∉ F) (h10:∀ j ∈ C,j ∉ D) (h11:∀ j ∈ C,j ∉ E) (h12:∀ j ∈ C,j ∉ F) (h13:∀ j ∈ D,j ∉ E) (h14:∀ j ∈ D,j ∉ F) (h15:∀ j ∈ E,j ∉ F):Dis [A,B,C,D,E,F]:=by
 simp [Dis]
 exact ⟨⟨h1,h2,h3,h4,h5⟩,⟨h6,h7,h8,h9⟩,⟨h10,h11,h12⟩,⟨h13,h14⟩,h15⟩
theorem far_facts {i:InD} (h:farB i = false):i.bl.length ≤ 30 ∧ i.ct.length ≤ 10 ∧ i.sh.length ≤ 120 ∧ i.cn.length ≤ 20 ∧ ∀ x ∈ i.bl,x.1.great = false:=by
 unfold farB at h
 simp only [Bool.or_eq_false_iff,decide_eq_false_iff_not,not_or,List.any_eq_false] at h
 obtain ⟨⟨⟨a1,a2,a3,a4⟩,a5⟩,_⟩:=h
 exact ⟨by omega,by omega,by omega,by omega,fun x hx=>by have:=a5 x hx; simpa using this⟩
def noLaw3:List V:=[.p none,.p none,.p none]
@[simp] theorem noLaw3_len:noLaw3.length = 3:=rfl
@[simp] theorem noLaw3_spl:splice noLaw3 0 noLaw3 = noLaw3:=rfl
@[simp] theorem noLaw3_take:noLaw3.take 3 = noLaw3:=rfl
set_option maxHeartbeats 8000000 in
theorem laws_ok (H:AH) {i:InD} {l:List V} (hi:InAt H i l) (hfar:farB i = false):ACalls Tryz.prog 11 [.agg l] H fun r H' =>
  (r = .tup [.agg noLaw3,.agg noLaw3,.b false] ∧ Upd H H' []) ∨ ∃ ib is ic jb js jc FB FS FC GB GS GC,r = .tup [.agg (lawV ib is ic),.agg (lawV jb js jc),.b true] ∧ LawsAt H H' i ib is ic jb js jc FB FS FC GB GS GC:=by
 obtain ⟨m1,m2,m3,m4,m5⟩:=far_facts hfar
 refine ACalls_body Tryz.func11 rfl rfl ?_
 repeat refine AW_seq ?_
 refine AW_reg [1,2,3] fun K hK=>?_
 simp [init_eq,V.cells]
 apply hK;clear hK K
 obtain ⟨H1,e1,hp,hp2,hp3,hn,ho⟩:=H.boxed3 l noLaw3 noLaw3
 show AThen _ _ _ _ (((H.new (O.cells l 0 false 0)).new (O.cells noLaw3 0 false 0)).new (O.cells noLaw3 0 false 0))
 rw [e1]
 have u1:Upd H H1 []:=⟨by omega,fun j hj _=>ho j hj⟩
 have hi1:=hi.same ho
 obtain ⟨vb,vc,vs,vk,el,h1,h2,h3,h4⟩:=hi1.ex
 rw [el] at hp
 generalize ha:H.next = a at *
 clear e1
 repeat refine AW_seq ?_
 refine AW_reg [1,2,3,5,6] fun K hK=>?_
 simp [init_eq,afieldAddr,aload,hp]
 refine ACalls.mono (signNew' H1 i.f i.bad) fun r H2 ⟨v5,e5,hr,u2,k5⟩=>?_
 subst hr
 try simp
 apply hK;clear hK K
 have hp_2:=u2.keep (by simp) hp
 repeat refine AW_seq ?_
 refine AW_reg [1,2,3,5,6,7,8] fun K hK=>?_
 simp [init_eq,afieldAddr,aload,hp_2]
 refine ACalls.mono (rsignNew' H2 i.f i.bad) fun r H3 ⟨v7,e7,hr,u3,k7⟩=>?_
 subst hr
 try simp
 apply hK;clear hK K
 have hp_3:=u3.keep (by simp) hp_2
 repeat refine AW_seq ?_
 refine AW_reg [1,2,3,5,6,7,8,9,10] fun K hK=>?_
 simp [init_eq,afieldAddr,aload,hp_3]
 refine ACalls.mono (coinNew' H3 i.f) fun r H4 ⟨v9,e9,hr,u4,k9⟩=>?_
 subst hr
 try simp
 apply hK;clear hK K
 have hp_4:=u4.keep (by simp) hp_3
 have u14:Upd H1 H4 []:=(u2.trans u3 (by simp)).trans u4 (by simp)
 repeat refine AW_seq ?_
 refine AW_regto [1,2,3,5,7,9,49] ⟨176,[(1,.p (some (a,0,0))),(2,.p (some (a + 1,0,0))),(3,.p (some (a + 2,0,0))),(5,v5),(7,v7),(9,v9),(49,.b (decide (e5 ≠ 0 ∨ e7 ≠ 0 ∨ e9 ≠ 0)))]⟩ H4 (fun K hk=>?_) ?_
 · by_cases g1:e5 = 0
   · by_cases g2:e7 = 0
     · simpa [init_eq,g1,g2] using hk
     · simpa [init_eq,g1,g2] using hk
   · simpa [init_eq,g1] using hk
 refine AW_cond' rfl rfl (fun hc=>?_) (fun hc=>?_)
 · have hab:abuild Tryz.prog 41 [] = some (.agg noLaw3):=by simp [abuild,afill]; rfl
   have hab2:abuild Tryz.prog 46 [] = some (.agg noLaw3):=by simp [abuild,afill]; rfl
   have q2:=u14.keep (by simp) hp2
   have q3:=u14.keep (by simp) hp3
   have b2:=AH.get_lt q2
   have b3:=AH.get_lt q3
   repeat refine AW_seq ?_
   refine AW_reg [2,3,4] fun K hK=>?_
   simp [init_eq,hab,hab2,astore,q2,q3,V.cells,AH.get_set,b2,b3]
   apply hK;clear hK K
   refine AW_ret (end_ret (ares_cct (v:=.agg noLaw3) (w:=.agg noLaw3) ?_ ?_) (.inl ⟨rfl,?_⟩))
   · simp [aload,AH.get_set,b2,b3]
   · simp [aload,AH.get_set,b2,b3]
   · have s1:Upd H4 (H4.set (a + 1) (.cells noLaw3 0 false 0)) [a + 1,a + 2]:=Upd.set _ _ _ (by simp)
     have s2:Upd (H4.set (a + 1) (.cells noLaw3 0 false 0)) ((H4.set (a + 1) (.cells noLaw3 0 false 0)).set (a + 2) (.cells noLaw3 0 false 0)) [a + 1,a + 2]:=Upd.set _ _ _ (by simp)
     exact (u1.trans u14 (by simp)).trans (s1.trans s2 fun j hj=>.inl hj) fun j hj=>.inr (by simp at hj; omega)
 · have g:e5 = 0 ∧ e7 = 0 ∧ e9 = 0:=by simpa using hc
   obtain ⟨rfl,rfl,rfl⟩:=g
   obtain ⟨c1,c2,is,FS,rfl,hS,nS⟩:=k5 rfl
   obtain ⟨js,GS,rfl,hRS,nRS⟩:=k7 rfl
   obtain ⟨c3,ic,FC,rfl,hC,nC⟩:=k9 rfl
   clear k5 k7 k9 hc
   have bS:=hS.lt
   have bRS:=hRS.lt
   have bC:=hC.lt
   have hS4:=(hS.upd u3 (by simp)).upd u4 (by simp)
   have hRS4:=hRS.upd u4 (by simp)
   refine AW_skip ?_
   repeat refine AW_seq ?_
   refine AW_reg [1,2,3,5,7,9,11] fun K hK=>?_
   simp [init_eq]
   refine ACalls.mono (bookNew_ok H4) fun r H5 ⟨ib,FB,hr,hB,u5,nB⟩=>?_
   subst hr
   have hab:abuild Tryz.prog 41 [(0,.p (some (ib,0,0))),(1,.p (some (is,0,0))),(2,.p (some (ic,0,0)))] = some (.agg (lawV ib is ic)):=by simp [abuild,afill,V.cells,splice,lawV]
   simp [hab,V.cells,astore,AH.get_new]
   apply hK;clear hK K
   have bB:=hB.lt
   generalize hG6:AH.set _ H5.next _ = H6
   have x1:H6.get H5.next = some (.cells (lawV ib is ic) 0 false 0):=by
    rw [← hG6]; simp [AH.get_set]; exact splice_all rfl
   have ko:∀ j,j < H5.next → H6.get j = H5.get j:=fun j hj=>by rw [← hG6,AH.get_set_ne (by omega),AH.get_new,if_neg (by omega)]
   have kn:H6.next = H5.next + 1:=by rw [← hG6]; simp
   clear hG6
   have u6:Upd H5 H6 []:=⟨by omega,fun j hj _=>ko j hj⟩
   have u46:=u5.trans u6 (by simp)
   have hp_6:=u46.keep (by simp) hp_4
   generalize hx1:H5.next = y1 at *
   repeat refine AW_seq ?_
   refine AW_reg [1,2,3,5,7,9,11,12] fun K hK=>?_
   have hab2:abuild Tryz.prog 100 [] = some (.agg [.sl none 0 false]):=by simp [abuild,afill]
   have hab3:abuild Tryz.prog 102 [(0,.i .i64 i.f)] = some (.agg [.i .i64 i.f,.sl none 0 false,.sl none 0 false]):=by simp [abuild,afill,V.cells,splice]
   obtain ⟨G7,e7,p7,n7,o7⟩:=H6.boxed [.sl none 0 false]
   obtain ⟨G8,e8,p8,n8,o8⟩:=G7.boxed [.i .i64 i.f,.sl none 0 false,.sl none 0 false]
   have by1:=AH.get_lt x1
   have bp6:=AH.get_lt hp_6
   have lf:aload Tryz.prog G7 3 (.p (some (a,0,0))) = some (.i .i64 i.f):=by simp [aload,o7 a bp6,hp_6]
   have e7':=e7
   have e8':=e8
   generalize hjb:H6.next = jb at *
   have hab4:abuild Tryz.prog 46 [(0,.p (some (jb,0,0))),(1,.p (some (js,0,0))),(2,.p (some (jb + 1,0,0)))] = some (.agg (lawV jb js (jb + 1))):=by simp [abuild,afill,V.cells,splice,lawV]
   have n8':G8.next = jb + 1 + 1:=by omega
   simp [init_eq,hab2,ci,e7,hjb,afieldAddr,lf,hab3,e8,V.cells,n7,hab4,astore,AH.get_new,n8']
   apply hK;clear hK K
   generalize hG9:AH.set _ (jb + 1 + 1) _ = HK
   have x2:HK.get (jb + 2) = some (.cells (lawV jb js (jb + 1)) 0 false 0):=by
    rw [← hG9]; simp [AH.get_set,n8']; exact splice_all rfl
   have o9:∀ j,j < jb + 2 → HK.get j = G8.get j:=fun j hj=>by rw [← hG9,AH.get_set_ne (by omega),AH.get_new,if_neg (by omega)]
   have n9:HK.next = jb + 3:=by rw [← hG9]; simp [n8']
   clear hG9 e7 e8 e7' e8'
   have u7:Upd H6 G7 []:=⟨by omega,fun j hj _=>o7 j (by omega)⟩
   have u8:Upd G7 G8 []:=⟨by omega,fun j hj _=>o8 j (by omega)⟩
   have u9:Upd G8 HK []:=⟨by omega,fun j hj _=>o9 j (by omega)⟩
   have u69:=(u7.trans u8 (by simp)).trans u9 (by simp)
   have u49:=u46.trans u69 (by simp)
   have u19:=u14.trans u49 (by simp)
   have pjb:HK.get jb = some (.cells [.sl none 0 false] 0 false 0):=by rw [o9 jb (by omega),o8 jb (by omega)]; exact p7
   have pjc:HK.get (jb + 1) = some (.cells [.i .i64 i.f,.sl none 0 false,.sl none 0 false] 0 false 0):=by rw [o9 _ (by omega)]; rw [n7] at p8; exact p8
   have q1:=u69.keep (by simp) x1
   have hS9:=hS4.upd u49 (by simp)
   have hRS9:=hRS4.upd u49 (by simp)
   have hC9:=hC.upd u49 (by simp)
   have hB9:=(hB.upd u6 (by simp)).upd u69 (by simp)
   have w2:=u2.1; have w3:=u3.1; have w4:=u4.1; have w5:=u5.1
   have six0:Six (fun j=>j < a + 3 ∨ j = y1 ∨ j = jb + 2) HK HK ib is ic jb js (jb + 1) i.f i.bad [] [] [] [] (fun _=>Tos.zero) [] FB FS FC [jb] GS [jb + 1]:=by
    refine ⟨hB9,hS9,hC9,⟨.sl none 0 false,[],rfl,by simp,pjb,.inl ⟨false,rfl,rfl,rfl⟩⟩,hRS9,⟨.sl none 0 false,.sl none 0 false,[],[],rfl,by simp,pjc,.inl ⟨false,rfl,rfl,rfl⟩,.inl ⟨false,rfl,rfl,rfl⟩⟩,dis6 ?_ ?_ ?_ ?_ ?_ ?_ ?_ ?_ ?_ ?_ ?_ ?_ ?_ ?_ ?_,?_,fun _ _=>rfl,?_,Nat.le_refl _⟩
    · intro j h1 h2; have:=nB j h1; have:=bS j h2; omega
    · intro j h1 h2; have:=nB j h1; have:=bC j h2; omega
    · intro j h1 h2; have:=bB j h1; simp at h2; omega
    · intro j h1 h2; have:=nB j h1; have:=bRS j h2; omega
    · intro j h1 h2; have:=bB j h1; simp at h2; omega
    · intro j h1 h2; have:=bS j h1; have:=nC j h2; omega
    · intro j h1 h2; have:=bS j h1; simp at h2; omega
    · intro j h1 h2; have:=bS j h1; have:=nRS j h2; omega
    · intro j h1 h2; have:=bS j h1; simp at h2; omega
    · intro j h1 h2; have:=bC j h1; simp at h2; omega
    · intro j h1 h2; have:=nC j h1; have:=bRS j h2; omega
    · intro j h1 h2; have:=bC j h1; simp at h2; omega
    · intro j h1 h2; have:=bRS j h2; simp at h1; omega
    · intro j h1 h2; simp at h1 h2; omega
    · intro j h1 h2; have:=bRS j h1; simp at h2; omega
    · intro A hA j hj hk
      simp only [List.mem_cons,List.not_mem_nil,or_false] at hA
      rcases hA with rfl | rfl | rfl | rfl | rfl | rfl
      · have:=nB j hj; have:=bB j hj; omega
      · have:=nS j hj; have:=bS j hj; omega
      · have:=nC j hj; have:=bC j hj; omega
      · simp at hj; omega
      · have:=nRS j hj; have:=bRS j hj; omega
      · simp at hj; omega
    · intro j hj; have:=AH.get_lt q1; omega
   have hin:∀ G:AH,(∀ j,j < a + 3 → G.get j = HK.get j) → G.get a = some (.cells [.i .i64 i.f,u32 i.bad,vb,vc,vs,vk] 0 false 0) ∧ RS G vb 14 (i.bl.map blkC) ∧ RS G vc 1 (i.ct.map txtC) ∧ RS G vs 11 (i.sh.map Shr.cells) ∧ RS G vk 11 (i.cn.map Shr.cells) ∧ ∀ x ∈ i.bl,BlkAt G x.1 x.2.1 x.2.2:=by
    intro G hG
    have hg:∀ j,j < H1.next → G.get j = H1.get j:=fun j hj=>by rw [hG j (by omega),u19.2 j hj (by simp)]
    exact ⟨by rw [hg a (by omega)]; exact hp,h1.same hg,h2.same hg,h3.same hg,h4.same hg,fun x hx=>(hi1.blk x hx).same hg⟩
   have z2:HK.get (a + 1) = some (.cells noLaw3 0 false 0):=by rw [u19.2 _ (by omega) (by simp)]; exact hp2
   have z3:HK.get (a + 2) = some (.cells noLaw3 0 false 0):=by rw [u19.2 _ (by omega) (by simp)]; exact hp3
   have hyy:a + 3 ≤ y1 ∧ y1 < jb:=by omega
   have hkeep:∀ j,j < a → HK.get j = H.get j:=fun j hj=>by rw [u19.2 j (by omega) (by simp),ho j hj]
   have hH1:∀ G:AH,(∀ j,j < a + 3 → G.get j = HK.get j) → ∀ j,j < H1.next → G.get j = H1.get j:=fun G hG j hj=>by rw [hG j (by omega),u19.2 j hj (by simp)]
   clear hS4 hRS4 hS9 hRS9 hC9 hB9 hB hC hS hRS u49 u69 u7 u8 u9 o9 o8 o7 p7 p8 pjb pjc lf hab hab2 hab3 hab4 u46 ko kn u6 u14 u2 u3 u4 u5 nB nS nC nRS bS bRS bC bB hp_2 hp_3 hp_4 hp_6 x1 h1 h3 hi1 hp hp2 hp3
   repeat refine AW_seq ?_
   refine AW_reg [1,2,3,5,7,9,11,12,13] fun K hK=>?_
   simp [init_eq]
   apply hK;clear hK K
   refine AW_block ?_
   refine AW_loopx (fun k:Nat=>⟨176,[(1,.p (some (a,0,0))),(2,.p (some (a + 1,0,0))),(3,.p (some (a + 2,0,0))),(5,.p (some (is,0,0))),(7,.p (some (js,0,0))),(9,.p (some (ic,0,0))),(11,.p (some (y1,0,0))),(12,.p (some (jb + 2,0,0))),(13,.i .i64 k)]⟩)
    (fun k G=>k ≤ i.bl.length ∧ ∃ FB FS FC GB GS GC,Six (fun j=>j < a + 3 ∨ j = y1 ∨ j = jb + 2) HK G ib is ic jb js (jb + 1) i.f i.bad (bkB i k) (bkB i k) [] [] (fun _=>Tos.zero) [] FB FS FC GB GS GC) (fun k=>i.bl.length - k) 0 (by simp) ⟨by simp,_,_,_,_,_,_,six0⟩ fun k G hM=>?_
   obtain ⟨hk0,FB,FS,FC,GB,GS,GC,six⟩:=hM
   obtain ⟨g0,r1,r2,r3,r4,rb⟩:=hin G fun j hj=>six.same j (.inl hj)
   have lx:=r1.alen (P:=Tryz.prog) qelem_23 G
   have hlb:aload Tryz.prog G 23 (.p (some (a,0,2))) = some vb:=by simp [aload,g0]
   repeat refine AW_seq ?_
   refine AW_reg [1,2,3,5,7,9,11,12,13,68] fun K hK=>?_
   simp [init_eq,afieldAddr,hlb,lx]
   apply hK;clear hK K
   refine AW_cond' rfl rfl (fun hc=>?_) (fun hc=>?_)
   · have hk:k < i.bl.length:=by simpa using hc
     obtain ⟨ax,px,qx⟩:=r1.rec blkC_len (by decide) (P:=Tryz.prog) qelem_23 qsize_33 qagg_33 hk
     have hmem:=List.getElem_mem hk
     have hsm:i.bl[k].1.small:=Blk.small_of (m5 _ hmem)
     have hstep:bkB i (k + 1) = bkBlk (bkB i k) i.bl[k]:=foldl_take_succ bkBlk [] i.bl hk
     have hlen:=bkB_len i k
     refine AW_skip ?_
     repeat refine AW_seq ?_
     refine AW_block ?_
     repeat refine AW_seq ?_
     refine AW_reg [1,2,3,5,7,9,11,12,13,77] fun K hK=>?_
     simp [init_eq,afieldAddr,hlb,px,qx,blkC]
     refine ACalls.mono (rcheckBlk_ok G (rb _ hmem) hsm) fun r H' ⟨hr,e⟩=>?_
     subst hr e
     try simp
     apply hK;clear hK K
     refine AW_cond' rfl rfl (fun hc=>?_) (fun hc=>?_)
     · have he:i.bl[k].1.err = 0:=by simpa using hc
       have hst:bkBlk (bkB i k) i.bl[k] = bkEnter (bkB i k) i.bl[k].1.bytes:=by rw [bkBlk,if_pos he]
       rw [hst] at hstep
       refine AW_seq ?_
       refine AW_reg [1,2,3,5,7,9,11,12,13,14] fun K hK=>?_
       simp [init_eq,afieldAddr,hlb,px,qx,blkC]
       refine ACalls.mono (rbytes_ok H' (rb _ hmem) he) fun r H2 ⟨hr,e⟩=>?_
       subst hr e
       try simp
       apply hK;clear hK K
       have gy:H2.get y1 = some (.cells (lawV ib is ic) 0 false 0):=by rw [six.same y1 (.inr (.inl rfl))]; exact q1
       repeat refine AW_seq ?_
       refine AW_reg [1,2,3,5,7,9,11,12,13,14] fun K hK=>?_
       simp [init_eq,afieldAddr,aload,gy]
       refine ACalls.mono (six_enter six (by omega) i.bl[k].1.bytes) fun r H3 ⟨_,hnx,FB',six2⟩=>?_
       try simp
       apply hK;clear hK K
       have gy2:H3.get (jb + 2) = some (.cells (lawV jb js (jb + 1)) 0 false 0):=by rw [six2.same _ (.inr (.inr rfl))]; exact x2
       refine AW_reg [1,2,3,5,7,9,11,12,13] fun K hK=>?_
       simp [init_eq,afieldAddr,aload,gy2]
       refine ACalls.mono (six_renter six2 (by omega) i.bl[k].1.bytes) fun r H4 ⟨_,hnx,GB',six3⟩=>?_
       try simp
       apply hK;clear hK K
       refine bend (rend ?_)
       refine AW_reg [1,2,3,5,7,9,11,12,13] fun K hK=>?_
       simp [init_eq,wrap_id (x:=(k:Int) + 1) (by omega) (by omega)]
       apply hK;clear hK K
       exact rend ⟨k + 1,by simp,⟨by omega,_,_,_,_,_,_,by rw [hstep]; exact six3⟩,by omega⟩
     · have he:¬ i.bl[k].1.err = 0:=by simpa using hc
       have hst:bkBlk (bkB i k) i.bl[k] = bkB i k:=by rw [bkBlk,if_neg he]
       rw [hst] at hstep
       refine AW_skip ?_
       refine AW_reg [1,2,3,5,7,9,11,12,13] fun K hK=>?_
       simp [init_eq,wrap_id (x:=(k:Int) + 1) (by omega) (by omega)]
       apply hK;clear hK K
       exact rend ⟨k + 1,by simp,⟨by omega,_,_,_,_,_,_,by rw [hstep]; exact six⟩,by omega⟩
   have hk : k = i.bl.length := by have : ¬ k < i.bl.length := by simpa using hc
                                   omega
   subst hk
   clear six0 hc hk0 lx hlb r1 r2 r3 r4 rb g0
   refine AW_exit (then_exit (then_exit (block_here ?_)))
   have hb0:bkB i i.bl.length = bkC i 0:=rfl
   rw [hb0] at six
   clear hb0
   repeat refine AW_seq ?_
   refine AW_reg [1,2,3,5,7,9,11,12,15] fun K hK=>?_
   simp [init_eq]
   apply hK;clear hK K
   refine AW_block ?_
   refine AW_loopx (fun k:Nat=>⟨176,[(1,.p (some (a,0,0))),(2,.p (some (a + 1,0,0))),(3,.p (some (a + 2,0,0))),(5,.p (some (is,0,0))),(7,.p (some (js,0,0))),(9,.p (some (ic,0,0))),(11,.p (some (y1,0,0))),(12,.p (some (jb + 2,0,0))),(15,.i .i64 k)]⟩)
    (fun k G=>k ≤ i.ct.length ∧ ∃ FB FS FC GB GS GC,Six (fun j=>j < a + 3 ∨ j = y1 ∨ j = jb + 2) HK G ib is ic jb js (jb + 1) i.f i.bad (bkC i k) (bkC i k) [] [] (fun _=>Tos.zero) [] FB FS FC GB GS GC) (fun k=>i.ct.length - k) 0 (by simp) ⟨by simp,_,_,_,_,_,_,six⟩ fun k G hM=>?_
   clear six
   obtain ⟨hk0,FB,FS,FC,GB,GS,GC,six⟩:=hM
   obtain ⟨g0,r1,r2,r3,r4,rb⟩:=hin G fun j hj=>six.same j (.inl hj)
   have hGH:=hH1 G fun j hj=>six.same j (.inl hj)
   have lx:=r2.alen (P:=Tryz.prog) qelem_24 G
   have hlb:aload Tryz.prog G 24 (.p (some (a,0,3))) = some vc:=by simp [aload,g0]
   repeat refine AW_seq ?_
   refine AW_reg [1,2,3,5,7,9,11,12,15,96] fun K hK=>?_
   simp [init_eq,afieldAddr,hlb,lx]
   apply hK;clear hK K
   refine AW_cond' rfl rfl (fun hc=>?_) (fun hc=>?_)
   · have hk:k < i.ct.length:=by simpa using hc
     obtain ⟨ax,px,hrec⟩:=h2.at (P:=Tryz.prog) (t:=24) (by decide) qelem_24 qsize_9 (k:=.i64) k (l:=txtC i.ct[k]) (by simp [hk])
     obtain ⟨idc,gc,oc,cc,roc,eszc,rfl,w1,w2,w3⟩:=hrec
     have hidc:idc < a + 3:=by have:=AH.get_lt w1; omega
     have w1G:G.get idc = some (.cells cc gc roc eszc):=by rw [hGH idc (by omega)]; exact w1
     have wv:cc[oc]? = some (.s i.ct[k]):=by
      have:=congrArg (fun l=>l[0]?) w2
      simpa [txtC,List.getElem?_take,List.getElem?_drop] using this
     have hstep:bkC i (k + 1) = bkEnter (bkC i k) i.ct[k]:=foldl_take_succ bkEnter _ i.ct hk
     have hlen:=bkC_len i k
     have gy:G.get y1 = some (.cells (lawV ib is ic) 0 false 0):=by rw [six.same y1 (.inr (.inl rfl))]; exact q1
     refine AW_skip ?_
     repeat refine AW_seq ?_
     refine AW_block ?_
     repeat refine AW_seq ?_
     refine AW_regm (.only [y1,a,idc]) [1,2,3,5,7,9,11,12,15] pl_11_18 pe_11_18 (by kernel_rfl) (by kernel_rfl) (by decide) fun K hK=>?_
     simp [init_eq,pl_11_18,APlan_takem,through,tkOk,rid,afieldAddr,aload,gy,g0,px,w1G,wv]
     refine ACalls.mono (six_enter six (by omega) i.ct[k]) fun r H3 ⟨_,hnx,FB',six2⟩=>?_
     refine ⟨⟨hnx,?_,?_,?_⟩,hK _ _ ?_⟩
     · intro _; rw [six2.same y1 (.inr (.inl rfl)),← six.same y1 (.inr (.inl rfl))]; exact gy
     · intro _; rw [six2.same a (.inl (by omega)),← six.same a (.inl (by omega))]; exact g0
     · intro _; rw [six2.same idc (.inl hidc),← six.same idc (.inl hidc)]; exact w1G
     clear hK K
     obtain ⟨g0',_⟩:=hin H3 fun j hj=>six2.same j (.inl hj)
     have w1G':H3.get idc = some (.cells cc gc roc eszc):=by rw [hH1 H3 (fun j hj=>six2.same j (.inl hj)) idc (by omega)]; exact w1
     have gy2:H3.get (jb + 2) = some (.cells (lawV jb js (jb + 1)) 0 false 0):=by rw [six2.same _ (.inr (.inr rfl))]; exact x2
     refine AW_regm (.only [jb + 2,a,idc]) [1,2,3,5,7,9,11,12,15] pl_11_19 pe_11_19 (by kernel_rfl) (by kernel_rfl) (by decide) fun K hK=>?_
     simp [init_eq,pl_11_19,APlan_takem,through,tkOk,rid,afieldAddr,aload,gy2,g0',px,w1G',wv]
     refine ACalls.mono (six_renter six2 (by omega) i.ct[k]) fun r H4 ⟨_,hnx,GB',six3⟩=>?_
     refine ⟨⟨hnx,?_,?_,?_⟩,hK _ _ ?_⟩
     · intro _; rw [six3.same (jb + 2) (.inr (.inr rfl)),← six2.same (jb + 2) (.inr (.inr rfl))]; exact gy2
     · intro _; rw [six3.same a (.inl (by omega)),← six2.same a (.inl (by omega))]; exact g0'
     · intro _; rw [six3.same idc (.inl hidc),← six2.same idc (.inl hidc)]; exact w1G'
     clear hK K
     refine bend (rend ?_)
     refine AW_reg [1,2,3,5,7,9,11,12,15] fun K hK=>?_
     simp [init_eq,wrap_id (x:=(k:Int) + 1) (by omega) (by omega)]
     apply hK;clear hK K
     exact rend ⟨k + 1,by simp,⟨by omega,_,_,_,_,_,_,by rw [hstep]; exact six3⟩,by omega⟩
   have hk : k = i.ct.length := by have : ¬ k < i.ct.length := by simpa using hc
                                   omega
   subst hk
   clear hc hk0 lx hlb r1 r2 r3 r4 rb g0 hGH
   refine AW_exit (then_exit (then_exit (block_here ?_)))
   have hs0:([]:List Shr) = shI i 0:=rfl
   repeat refine AW_seq ?_
   refine AW_reg [1,2,3,5,7,9,11,12,16] fun K hK=>?_
   simp [init_eq]
   apply hK;clear hK K
   refine AW_block ?_
   refine AW_loopx (fun k:Nat=>⟨176,[(1,.p (some (a,0,0))),(2,.p (some (a + 1,0,0))),(3,.p (some (a + 2,0,0))),(5,.p (some (is,0,0))),(7,.p (some (js,0,0))),(9,.p (some (ic,0,0))),(11,.p (some (y1,0,0))),(12,.p (some (jb + 2,0,0))),(16,.i .i64 k)]⟩)
    (fun k G=>k ≤ i.sh.length ∧ ∃ FB FS FC GB GS GC,Six (fun j=>j < a + 3 ∨ j = y1 ∨ j = jb + 2) HK G ib is ic jb js (jb + 1) i.f i.bad (bkC i i.ct.length) (bkC i i.ct.length) (shI i k) (shI i k) (fun _=>Tos.zero) [] FB FS FC GB GS GC) (fun k=>i.sh.length - k) 0 (by simp) ⟨by simp,_,_,_,_,_,_,six⟩ fun k G hM=>?_
   clear six hs0
   obtain ⟨hk0,FB,FS,FC,GB,GS,GC,six⟩:=hM
   obtain ⟨g0,r1,r2,r3,r4,rb⟩:=hin G fun j hj=>six.same j (.inl hj)
   have lx:=r3.alen (P:=Tryz.prog) qelem_25 G
   have hlb:aload Tryz.prog G 25 (.p (some (a,0,4))) = some vs:=by simp [aload,g0]
   repeat refine AW_seq ?_
   refine AW_reg [1,2,3,5,7,9,11,12,16,119] fun K hK=>?_
   simp [init_eq,afieldAddr,hlb,lx]
   apply hK;clear hK K
   refine AW_cond' rfl rfl (fun hc=>?_) (fun hc=>?_)
   · have hk:k < i.sh.length:=by simpa using hc
     obtain ⟨ax,px,qx⟩:=r3.rec Shr.len (by decide) (P:=Tryz.prog) qelem_25 qsize_60 qagg_60 hk
     have hstep:shI i (k + 1) = shIssue i.f (shI i k) i.sh[k]:=foldl_take_succ (shIssue i.f) _ i.sh hk
     have hlen:=shI_len i k
     refine AW_skip ?_
     repeat refine AW_seq ?_
     refine AW_block ?_
     repeat refine AW_seq ?_
     refine AW_reg [1,2,3,5,7,9,11,12,16] fun K hK=>?_
     simp [init_eq,afieldAddr,hlb,px,qx]
     refine ACalls.mono (six_issue six (by omega) i.sh[k]) fun r H3 ⟨_,hnx,FS',six2⟩=>?_
     try simp
     apply hK;clear hK K
     obtain ⟨g0',_,_,r3',_⟩:=hin H3 fun j hj=>six2.same j (.inl hj)
     obtain ⟨ax',px',qx'⟩:=r3'.rec Shr.len (by decide) (P:=Tryz.prog) qelem_25 qsize_60 qagg_60 hk
     have hlb':aload Tryz.prog H3 25 (.p (some (a,0,4))) = some vs:=by simp [aload,g0']
     refine AW_reg [1,2,3,5,7,9,11,12,16] fun K hK=>?_
     simp [init_eq,afieldAddr,hlb',px',qx']
     refine ACalls.mono (six_rissue six2 (by omega) i.sh[k]) fun r H4 ⟨_,hnx,GS',six3⟩=>?_
     try simp
     apply hK;clear hK K
     refine bend (rend ?_)
     refine AW_reg [1,2,3,5,7,9,11,12,16] fun K hK=>?_
     simp [init_eq,wrap_id (x:=(k:Int) + 1) (by omega) (by omega)]
     apply hK;clear hK K
     exact rend ⟨k + 1,by simp,⟨by omega,_,_,_,_,_,_,by rw [hstep]; exact six3⟩,by omega⟩
   have hk : k = i.sh.length := by have : ¬ k < i.sh.length := by simpa using hc
                                   omega
   subst hk
   clear hc hk0 lx hlb r1 r2 r3 r4 rb g0
   refine AW_exit (then_exit (then_exit (block_here ?_)))
   repeat refine AW_seq ?_
   refine AW_reg [1,2,3,9,11,12,17] fun K hK=>?_
   simp [init_eq]
   apply hK;clear hK K
   refine AW_block ?_
   refine AW_loopx (fun k:Nat=>⟨176,[(1,.p (some (a,0,0))),(2,.p (some (a + 1,0,0))),(3,.p (some (a + 2,0,0))),(9,.p (some (ic,0,0))),(11,.p (some (y1,0,0))),(12,.p (some (jb + 2,0,0))),(17,.i .i64 k)]⟩)
    (fun k G=>k ≤ i.cn.length ∧ ∃ FB FS FC GB GS GC,Six (fun j=>j < a + 3 ∨ j = y1 ∨ j = jb + 2) HK G ib is ic jb js (jb + 1) i.f i.bad (bkC i i.ct.length) (bkC i i.ct.length) (shI i i.sh.length) (shI i i.sh.length) (coI i k) (gvI i k) FB FS FC GB GS GC) (fun k=>i.cn.length - k) 0 (by simp) ⟨by simp,_,_,_,_,_,_,six⟩ fun k G hM=>?_
   clear six
   obtain ⟨hk0,FB,FS,FC,GB,GS,GC,six⟩:=hM
   obtain ⟨g0,r1,r2,r3,r4,rb⟩:=hin G fun j hj=>six.same j (.inl hj)
   have hGH:=hH1 G fun j hj=>six.same j (.inl hj)
   have lx:=r4.alen (P:=Tryz.prog) qelem_25 G
   have hlb:aload Tryz.prog G 25 (.p (some (a,0,5))) = some vk:=by simp [aload,g0]
   have gy:G.get y1 = some (.cells (lawV ib is ic) 0 false 0):=by rw [six.same y1 (.inr (.inl rfl))]; exact q1
   have gz:G.get (jb + 2) = some (.cells (lawV jb js (jb + 1)) 0 false 0):=by rw [six.same _ (.inr (.inr rfl))]; exact x2
   repeat refine AW_seq ?_
   refine AW_reg [1,2,3,9,11,12,17,140] fun K hK=>?_
   simp [init_eq,afieldAddr,hlb,lx]
   apply hK;clear hK K
   refine AW_cond' rfl rfl (fun hc=>?_) (fun hc=>?_)
   · have hk:k < i.cn.length:=by simpa using hc
     obtain ⟨ax,px,hrec⟩:=h4.at (P:=Tryz.prog) (t:=25) (by decide) qelem_25 qsize_60 (k:=.i64) k (l:=i.cn[k].cells) (by simp [hk])
     obtain ⟨idc,gc,oc,cc,roc,eszc,rfl,w1,w2,w3⟩:=hrec
     have hidc:idc < a + 3:=by have:=AH.get_lt w1; omega
     have w1G:G.get idc = some (.cells cc gc roc eszc):=by rw [hGH idc (by omega)]; exact w1
     have wv:cc[oc]? = some (.i .i64 i.cn[k].signer):=by
      have:=congrArg (fun l=>l[0]?) w2
      simpa [List.getElem?_take,List.getElem?_drop] using this
     have wv3:cc[oc + 1 + 2]? = some (.i .i64 i.cn[k].stmt.view):=by
      have:=congrArg (fun l=>l[3]?) w2
      have h3:i.cn[k].cells[3]? = some (.i .i64 i.cn[k].stmt.view):=rfl
      simpa [h3,List.getElem?_take,List.getElem?_drop] using this
     have hs1:coI i (k + 1) = coChoose i.f (coI i k) i.cn[k].stmt.view i.cn[k].signer:=foldl_take_succ (fun co (x:Shr)=>coChoose i.f co x.stmt.view x.signer) _ i.cn hk
     have hs2:gvI i (k + 1) = gvChoose i.f (gvI i k) [] i.cn[k].stmt.view i.cn[k].signer:=foldl_take_succ (fun gv (x:Shr)=>gvChoose i.f gv [] x.stmt.view x.signer) _ i.cn hk
     have hlen:=gvI_len i k
     refine AW_skip ?_
     repeat refine AW_seq ?_
     refine AW_block ?_
     repeat refine AW_seq ?_
     refine AW_regm (.only [a,idc]) [1,2,3,9,11,12,17] pl_11_28 pe_11_28 (by kernel_rfl) (by kernel_rfl) (by decide) fun K hK=>?_
     simp [init_eq,pl_11_28,APlan_takem,through,tkOk,rid,afieldAddr,aload,g0,px,w1G,wv,wv3]
     refine ACalls.mono (six_choose six i.cn[k].stmt.view i.cn[k].signer) fun r H3 ⟨_,hnx,FC',six2⟩=>?_
     refine ⟨⟨hnx,?_,?_⟩,hK _ _ ?_⟩
     · intro _; rw [six2.same a (.inl (by omega)),← six.same a (.inl (by omega))]; exact g0
     · intro _; rw [six2.same idc (.inl hidc),← six.same idc (.inl hidc)]; exact w1G
     clear hK K
     obtain ⟨g0',_⟩:=hin H3 fun j hj=>six2.same j (.inl hj)
     have w1G':H3.get idc = some (.cells cc gc roc eszc):=by rw [hH1 H3 (fun j hj=>six2.same j (.inl hj)) idc (by omega)]; exact w1
     have gy2:H3.get (jb + 2) = some (.cells (lawV jb js (jb + 1)) 0 false 0):=by rw [six2.same _ (.inr (.inr rfl))]; exact x2
     refine AW_regm (.only [jb + 2,a,idc]) [1,2,3,9,11,12,17] pl_11_29 pe_11_29 (by kernel_rfl) (by kernel_rfl) (by decide) fun K hK=>?_
     simp [init_eq,pl_11_29,APlan_takem,through,tkOk,rid,afieldAddr,aload,gy2,g0',px,w1G',wv,wv3]
     refine ACalls.mono (six_rchoose six2 (by omega) i.cn[k].stmt.view i.cn[k].signer) fun r H4 ⟨_,hnx,GC',six3⟩=>?_
     refine ⟨⟨hnx,?_,?_,?_⟩,hK _ _ ?_⟩
     · intro _; rw [six3.same (jb + 2) (.inr (.inr rfl)),← six2.same (jb + 2) (.inr (.inr rfl))]; exact gy2
     · intro _; rw [six3.same a (.inl (by omega)),← six2.same a (.inl (by omega))]; exact g0'
     · intro _; rw [six3.same idc (.inl hidc),← six2.same idc (.inl hidc)]; exact w1G'
     clear hK K
     refine bend (rend ?_)
     refine AW_reg [1,2,3,9,11,12,17] fun K hK=>?_
     simp [init_eq,wrap_id (x:=(k:Int) + 1) (by omega) (by omega)]
     apply hK;clear hK K
     exact rend ⟨k + 1,by simp,⟨by omega,_,_,_,_,_,_,by rw [hs1,hs2]; exact six3⟩,by omega⟩
   have hk : k = i.cn.length := by have : ¬ k < i.cn.length := by simpa using hc
                                   omega
   subst hk
   clear hc hk0 lx hlb r1 r2 r3 r4 rb g0 hGH
   refine AW_exit (then_exit (then_exit (block_here ?_)))
   have k2:G.get (a + 1) = some (.cells noLaw3 0 false 0):=by rw [six.same _ (.inl (by omega))]; exact z2
   have k3:G.get (a + 2) = some (.cells noLaw3 0 false 0):=by rw [six.same _ (.inl (by omega))]; exact z3
   have b2:=AH.get_lt k2
   have b3:=AH.get_lt k3
   have hy1:¬ y1 = a + 1:=by omega
   have hz1:¬ jb + 2 = a + 1:=by omega
   repeat refine AW_seq ?_
   refine AW_regm (.only [y1,jb + 2]) [2,3,4] pl_11_30 pe_11_30 (by kernel_rfl) (by kernel_rfl) (by decide) fun K hK=>?_
   simp [init_eq,pl_11_30,APlan_takem,through,tkOk,rid,aload,gy,gz,astore,k2,k3,V.cells,AH.get_set,b2,b3,hy1,hz1]
   apply hK;clear hK K
   generalize hHf:(G.set (a + 1) _).set (a + 2) _ = Hf
   have kf2:Hf.get (a + 1) = some (.cells (splice noLaw3 0 (lawV ib is ic)) 0 false 0):=by rw [← hHf,AH.get_set_ne (by omega),AH.get_set]; simp [b2]
   have kf3:Hf.get (a + 2) = some (.cells (splice noLaw3 0 (lawV jb js (jb + 1))) 0 false 0):=by rw [← hHf,AH.get_set]; simp [b3]
   have uf:Upd G Hf [a + 1,a + 2]:=by
    rw [← hHf]
    exact (Upd.set (F:=[a + 1,a + 2]) _ _ _ (by simp)).trans (Upd.set (F:=[a + 1,a + 2]) _ _ _ (by simp)) fun j hj=>.inl hj
   clear hHf
   have hnk:∀ A ∈ [FB,FS,FC,GB,GS,GC],∀ j ∈ A,j ∉ [a + 1,a + 2]:=fun A hA j hj hj'=>six.nkp A hA j hj (.inl (by simp at hj'; omega))
   refine AW_ret (end_ret (ares_cct (v:=.agg (lawV ib is ic)) (w:=.agg (lawV jb js (jb + 1))) ?_ ?_) (.inr ⟨ib,is,ic,jb,js,jb + 1,FB,FS,FC,GB,GS,GC,rfl,?_⟩))
   · simp [aload,kf2]; exact ⟨Nat.le_refl 3,rfl⟩
   · simp [aload,kf3]; exact ⟨Nat.le_refl 3,rfl⟩
   · have t1:=bkC_len i i.ct.length
     refine ⟨⟨six.book.upd uf (hnk _ (by simp)),six.sign.upd uf (hnk _ (by simp)),six.coin.upd uf (hnk _ (by simp)),six.dis.ne (i:=0) (k:=1) rfl rfl (by decide),six.dis.ne (i:=0) (k:=2) rfl rfl (by decide),six.dis.ne (i:=1) (k:=2) rfl rfl (by decide),?_,bkC_txt i _⟩,six.rbook.upd uf (hnk _ (by simp)),six.rsign.upd uf (hnk _ (by simp)),six.rcoin.upd uf (hnk _ (by simp)),six.dis,?_,?_,c1,c2⟩
     · show (bkC i i.ct.length).length ≤ 10000
       omega
     · intro A hA j hj
       have:=six.nkp A hA j hj
       exact Nat.le_of_not_lt fun h=>this (.inl (by omega))
     · refine ⟨by have:=uf.1; have:=six.next; have:=AH.get_lt z2; omega,fun j hj _=>?_⟩
       rw [uf.2 j (by have:=six.next; have:=AH.get_lt z2; omega) (by simp; omega),six.same j (.inl (by omega)),hkeep j (by omega)]
end Go.Proofs.YtmhaimdpfelkpaaGreatDoor
