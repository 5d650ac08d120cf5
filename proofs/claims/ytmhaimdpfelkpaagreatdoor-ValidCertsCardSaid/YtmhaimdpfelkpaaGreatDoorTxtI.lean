/-
  Contracts of the program's functions (TxtI). No conditions of my own.
-/
import Derived.Test.YtmhaimdpfelkpaaGreatDoorValid17
import Derived.Test.YtmhaimdpfelkpaaGreatDoorTxtG
import Derived.Test.YtmhaimdpfelkpaaGreatDoorValid18
import Derived.Test.YtmhaimdpfelkpaaGreatDoorTxtB
import Derived.Test.YtmhaimdpfelkpaaGreatDoorTxtH
import Derived.Test.YtmhaimdpfelkpaaGreatDoorTxtF
import Derived.Test.YtmhaimdpfelkpaaGreatDoorTxtC
import Derived.Test.YtmhaimdpfelkpaaGreatDoorValid16
set_option linter.unusedVariables false
set_option linter.unusedSimpArgs false
namespace Go.Proofs.YtmhaimdpfelkpaaGreatDoor
open Go Go.Abs Go.Proofs
set_option maxRecDepth 100000
attribute [local irreducible] AEnd AW ACalls
theorem qcheck_40 {f:Int} {s:BitVec 32} (h:¬ qtimes 3 f = 0) {k:Nat} (hk:k ∈ bitsOf s) (h2:qtimes 3 f ≤ k):qcheck f s = 40:=by
 have hn:¬ qcheck f s = 0:=fun e=>by have:=((qcheck_zero ..).1 e).2 k hk; omega
 unfold qcheck at hn ⊢
 rw [if_neg h] at hn ⊢
 split
 · rename_i h3; rw [if_pos h3] at hn; exact absurd rfl hn
 · rfl
theorem rqcheckE_ok (H:AH) (f:Int) (s:BitVec 32):ACalls Tryz.prog 102 [.i .i64 f,u32 s] H fun r H'=>r = .i .i64 (qcheck f s) ∧ H' = H:=by
 refine ACalls.pure (Q:=fun r=>r = .i .i64 (qcheck f s)) ⟨_,Tryz.func102,rfl,rfl⟩ ?_
 refine ACalls_body Tryz.func102 rfl rfl ?_
 repeat refine AW_seq ?_
 refine AW_reg [0,1] fun K hK=>?_
 simp [init_eq]
 apply hK;clear hK K
 repeat refine AW_seq ?_
 refine AW_reg [0,1,9] fun K hK=>?_
 simp [init_eq]
 refine ACalls.mono (rall_ok H f) fun r H' ⟨hr,e⟩=>?_
 subst hr e
 try simp
 apply hK;clear hK K
 refine AW_cond' rfl rfl (fun hc=>?_) (fun hc=>?_)
 · have g:qtimes 3 f = 0:=by simpa using hc
   repeat refine AW_seq ?_
   refine AW_reg [4] fun K hK=>?_
   simp [init_eq]
   apply hK;clear hK K
   exact AW_ret (end_ret rfl (same_end (by rw [qcheck,if_pos g]; rfl) rfl))
 · have g:¬ qtimes 3 f = 0:=by simpa using hc
   refine AW_skip ?_
   repeat refine AW_seq ?_
   refine AW_reg [0,5] fun K hK=>?_
   simp [init_eq]
   refine ACalls.mono (rlist_ok H' s) fun v H2 hr=>?_
   obtain ⟨FL,ol,u2,lF⟩:=hr
   have hrs:RS H2 v 1 ((bitsOf s).map cntC):=ol.rsR (by decide) cntC_len
   have lx:=hrs.alen (P:=Tryz.prog) qelem_64 H2
   have hle:=bitsOf_len s
   try simp
   apply hK;clear hK K
   repeat refine AW_seq ?_
   refine AW_reg [0,5,6] fun K hK=>?_
   simp [init_eq]
   apply hK;clear hK K
   refine AW_block ?_
   refine AW_loop0 (fun i:Nat=>⟨25,[(0,.i .i64 f),(5,v),(6,.i .i64 i)]⟩) (fun i=>i ≤ (bitsOf s).length ∧ ∀ j (hj:j < (bitsOf s).length),j < i → ((bitsOf s)[j]:Int) < qtimes 3 f) (fun i=>(bitsOf s).length - i) 0 (by simp) (by simp) (by have:=u2.1; dsimp only; omega) fun hw i hM=>?_
   repeat refine AW_seq ?_
   refine AW_reg [0,5,6,15] fun K hK=>?_
   simp [init_eq,lx]
   apply hK;clear hK K
   refine AW_cond' rfl rfl (fun hc=>?_) (fun hc=>?_)
   · have hi:i < (bitsOf s).length:=by simpa using hc
     obtain ⟨ax,px,qx⟩:=hrs.at1 (P:=Tryz.prog) (t:=64) (e:=3) qelem_64 qsize_3 qagg_3 (k:=.i64) i (x:=cnt (bitsOf s)[i]) (by simp [hi,cntC])
     refine AW_skip ?_
     repeat refine AW_seq ?_
     refine AW_block ?_
     repeat refine AW_seq ?_
     refine AW_regd [0,5,6,24] pl_102_7 pe_102_7 (by kernel_rfl) (by kernel_rfl) (by decide) fun K hK=>?_
     simp [init_eq,pl_102_7,px,qx,cnt]
     refine ACalls.mono (rall_ok H2 f) fun r H3 ⟨hr,e⟩=>?_
     subst hr e
     simp [px,qx,cnt]
     apply hK;clear hK K
     refine AW_cond' rfl rfl (fun hc=>?_) (fun hc=>?_)
     · have g2:qtimes 3 f ≤ (bitsOf s)[i]:=by simpa using hc
       repeat refine AW_seq ?_
       refine AW_reg [4] fun K hK=>?_
       simp [init_eq]
       apply hK;clear hK K
       refine AW_ret (end_ret rfl ⟨?_,rfl,u2.1,fun j hj=>u2.2 j hj (by simp)⟩)
       rw [qcheck_40 g (List.getElem_mem hi) g2]; rfl
     · have g2:¬ qtimes 3 f ≤ (bitsOf s)[i]:=by simpa using hc
       refine AW_skip ?_
       refine AW_reg [0,5,6] fun K hK=>?_
       simp [init_eq,wrap_id (x:=(i:Int) + 1) (by omega) (by omega)]
       apply hK;clear hK K
       exact rend ⟨i + 1,by simp,⟨by omega,fun j hj hj'=>(Nat.lt_or_eq_of_le (Nat.le_of_lt_succ hj')).elim (fun h=>hM.2 j hj h) (fun h=>by subst h; omega)⟩,by omega,.inl rfl⟩
   · have hi : i = (bitsOf s).length := by have := hM.1
                                           have:¬ i < (bitsOf s).length:=by simpa using hc
                                           omega
     have g2:qcheck f s = 0:=(qcheck_zero ..).2 ⟨g,fun k hk=>by
      obtain ⟨j,hj,e⟩:=List.mem_iff_getElem.1 hk
      have:=hM.2 j hj (by omega)
      rw [← e]; exact this⟩
     refine AW_exit (then_exit (then_exit (block_here ?_)))
     repeat refine AW_seq ?_
     refine AW_reg [4] fun K hK=>?_
     simp [init_eq]
     apply hK;clear hK K
     exact AW_ret (end_ret rfl ⟨by rw [g2]; rfl,rfl,u2.1,fun j hj=>u2.2 j hj (by simp)⟩)
theorem hasB_mem (s:BitVec 32) (k:Int):hasB s k = true ↔ ∃ n ∈ bitsOf s,(n:Int) = k:=by
 unfold hasB
 constructor
 · intro h
   simp only [Bool.and_eq_true,decide_eq_true_eq] at h
   exact ⟨k.toNat,mem_bitsOf.2 h.2,by omega⟩
 · rintro ⟨n,hn,rfl⟩
   simp [mem_bitsOf.1 hn]
theorem rsetHas_ok (H:AH) (s:BitVec 32) (k:Int):ACalls Tryz.prog 119 [u32 s,.i .i64 k] H fun r H'=>r = .b (hasB s k) ∧ H' = H:=by
 refine ACalls.pure (Q:=fun r=>r = .b (hasB s k)) ⟨_,Tryz.func119,rfl,rfl⟩ ?_
 refine ACalls_body Tryz.func119 rfl rfl ?_
 repeat refine AW_seq ?_
 refine AW_reg [0,1] fun K hK=>?_
 simp [init_eq]
 apply hK;clear hK K
 repeat refine AW_seq ?_
 refine AW_reg [1,5] fun K hK=>?_
 simp [init_eq]
 refine ACalls.mono (rlist_ok H s) fun v H2 hr=>?_
 obtain ⟨FL,ol,u2,lF⟩:=hr
 have hrs:RS H2 v 1 ((bitsOf s).map cntC):=ol.rsR (by decide) cntC_len
 have lx:=hrs.alen (P:=Tryz.prog) qelem_64 H2
 have hle:=bitsOf_len s
 try simp
 apply hK;clear hK K
 repeat refine AW_seq ?_
 refine AW_reg [1,5,6] fun K hK=>?_
 simp [init_eq]
 apply hK;clear hK K
 refine AW_block ?_
 refine AW_loop0 (fun i:Nat=>⟨21,[(1,.i .i64 k),(5,v),(6,.i .i64 i)]⟩) (fun i=>i ≤ (bitsOf s).length ∧ ∀ j (hj:j < (bitsOf s).length),j < i → ¬ ((bitsOf s)[j]:Int) = k) (fun i=>(bitsOf s).length - i) 0 (by simp) (by simp) (by have:=u2.1; dsimp only; omega) fun hw i hM=>?_
 repeat refine AW_seq ?_
 refine AW_reg [1,5,6,12] fun K hK=>?_
 simp [init_eq,lx]
 apply hK;clear hK K
 refine AW_cond' rfl rfl (fun hc=>?_) (fun hc=>?_)
 · have hi:i < (bitsOf s).length:=by simpa using hc
   obtain ⟨ax,px,qx⟩:=hrs.at1 (P:=Tryz.prog) (t:=64) (e:=3) qelem_64 qsize_3 qagg_3 (k:=.i64) i (x:=cnt (bitsOf s)[i]) (by simp [hi,cntC])
   refine AW_skip ?_
   repeat refine AW_seq ?_
   refine AW_block ?_
   repeat refine AW_seq ?_
   refine AW_reg [1,5,6,20] fun K hK=>?_
   simp [init_eq,px,qx,cnt]
   apply hK;clear hK K
   refine AW_cond' rfl rfl (fun hc=>?_) (fun hc=>?_)
   · have g:((bitsOf s)[i]:Int) = k:=by simpa using hc
     have hh:hasB s k = true:=(hasB_mem s k).2 ⟨_,List.getElem_mem hi,g⟩
     repeat refine AW_seq ?_
     refine AW_reg [4] fun K hK=>?_
     simp [init_eq]
     apply hK;clear hK K
     exact AW_ret (end_ret rfl ⟨by rw [hh]; rfl,rfl,u2.1,fun j hj=>u2.2 j hj (by simp)⟩)
   · have g:¬ ((bitsOf s)[i]:Int) = k:=by simpa using hc
     refine AW_skip ?_
     refine AW_reg [1,5,6] fun K hK=>?_
     simp [init_eq,wrap_id (x:=(i:Int) + 1) (by omega) (by omega)]
     apply hK;clear hK K
     exact rend ⟨i + 1,by simp,⟨by omega,fun j hj hj'=>(Nat.lt_or_eq_of_le (Nat.le_of_lt_succ hj')).elim (fun h=>hM.2 j hj h) (fun h=>by subst h; exact g)⟩,by omega,.inl rfl⟩
 · have hi : i = (bitsOf s).length := by have := hM.1
                                         have:¬ i < (bitsOf s).length:=by simpa using hc
                                         omega
   have hh:hasB s k = false:=by
    rw [Bool.eq_false_iff]; intro h
    obtain ⟨n,hn,e⟩:=(hasB_mem s k).1 h
    obtain ⟨j,hj,e2⟩:=List.mem_iff_getElem.1 hn
    exact hM.2 j hj (by omega) (by rw [e2]; exact e)
   refine AW_exit (then_exit (then_exit (block_here ?_)))
   repeat refine AW_seq ?_
   refine AW_reg [4] fun K hK=>?_
   simp [init_eq]
   apply hK;clear hK K
   exact AW_ret (end_ret rfl ⟨by rw [hh]; rfl,rfl,u2.1,fun j hj=>u2.2 j hj (by simp)⟩)
theorem rcounts_ok (H:AH) {is:Nat} {F:List Nat} {f:Int} {bad:BitVec 32} {sh:List Shr} (hs:RSignAt H is F f bad sh) (hl:sh.length ≤ 10000) (x:Shr):ACalls Tryz.prog 63 [.p (some (is,0,0)),.agg x.cells] H fun r H'=>r = .i .i64 (cntsE f bad sh x) ∧ H' = H:=by
 refine ACalls.pure (Q:=fun r=>r = .i .i64 (cntsE f bad sh x)) ⟨_,Tryz.func63,rfl,rfl⟩ ?_
 refine ACalls_body Tryz.func63 rfl rfl ?_
 repeat refine AW_seq ?_
 refine AW_reg [0,3] fun K hK=>?_
 simp [init_eq,V.cells]
 obtain ⟨H1,e1,hp,hn,ho⟩:=H.boxed x.cells
 rw [e1]
 apply hK;clear hK K
 have u1:Upd H H1 []:=⟨by omega,fun j hj _=>ho j hj⟩
 have hs1:=hs.upd u1 (by simp)
 obtain ⟨vs,Fs,rfl,h2,h3,h4⟩:=hs1
 have hs1:RSignAt H1 is (is :: Fs) f bad sh:=hs.upd u1 (by simp)
 have hx0:x.cells[0]? = some (.i .i64 x.signer):=rfl
 have hlx:aload Tryz.prog H1 60 (.p (some (H.next,0,0))) = some (.agg x.cells):=by simp [aload,hp,Shr.take]
 repeat refine AW_seq ?_
 have g0:cntsE f bad sh x = (if replE f x.signer ≠ 0 then 40 else if hasB bad x.signer then 0 else if x ∈ sh then 0 else 60):=by
  unfold cntsE replE; split <;> rfl
 have hre:replE f x.signer ≠ 0 ↔ (x.signer < 0 ∨ qtimes 3 f ≤ x.signer):=by
  unfold replE; split <;> simp_all
 refine AW_regdto [0,3,17] pl_63_1 pe_63_1 ⟨30,[(0,.p (some (is,0,0))),(3,.p (some (H.next,0,0))),(17,.b (decide (x.signer < 0 ∨ qtimes 3 f ≤ x.signer)))]⟩ H1 (by kernel_rfl) (by kernel_rfl) (by decide) (fun K hk=>?_) ?_
 · by_cases g1:x.signer < 0
   · simpa [init_eq,pl_63_1,afieldAddr,aload,hp,hx0,g1] using hk
   · simp [init_eq,pl_63_1,afieldAddr,aload,hp,hx0,g1,h3]
     refine ACalls.mono (rall_ok H1 f) fun r H' ⟨hr,e⟩=>?_
     subst hr e
     simpa [g1,afieldAddr,aload,hp,hx0] using hk
 refine AW_cond' rfl rfl (fun hc=>?_) (fun hc=>?_)
 · have g:x.signer < 0 ∨ qtimes 3 f ≤ x.signer:=by simpa using hc
   repeat refine AW_seq ?_
   refine AW_reg [4] fun K hK=>?_
   simp [init_eq]
   apply hK;clear hK K
   exact AW_ret (end_ret rfl (pure_end hn ho (by rw [g0,if_pos (hre.2 g)]; rfl) rfl))
 have g:¬ (x.signer < 0 ∨ qtimes 3 f ≤ x.signer):=by simpa using hc
 rw [if_neg (fun h=>g (hre.1 h))] at g0
 refine AW_skip ?_
 repeat refine AW_seq ?_
 refine AW_regdto [0,3,29] pl_63_3 pe_63_3 ⟨30,[(0,.p (some (is,0,0))),(3,.p (some (H.next,0,0))),(29,.b (hasB bad x.signer || decide (x ∈ sh)))]⟩ H1 (by kernel_rfl) (by kernel_rfl) (by decide) (fun K hk=>?_) ?_
 · simp [init_eq,pl_63_3,afieldAddr,aload,hp,hx0,h3]
   refine ACalls.mono (rsetHas_ok H1 bad x.signer) fun r H' ⟨hr,e⟩=>⟨e ▸ AH.ext.refl _,?_⟩
   subst hr e
   cases g2:hasB bad x.signer
   · simp [g2,hlx]
     refine ACalls.mono (rhas_ok H' hs1 hl x) fun r H' ⟨hr,e⟩=>?_
     subst hr e
     simpa [g2] using hk
   · simpa [g2] using hk
 refine AW_cond' rfl rfl (fun hc=>?_) (fun hc=>?_)
 · have g2:cntsE f bad sh x = 0:=by
     have:hasB bad x.signer = true ∨ x ∈ sh:=by simpa using hc
     rw [g0]
     by_cases h1:hasB bad x.signer = true
     · rw [if_pos h1]
     · rw [if_neg h1,if_pos (this.resolve_left h1)]
   repeat refine AW_seq ?_
   refine AW_reg [4] fun K hK=>?_
   simp [init_eq]
   apply hK;clear hK K
   exact AW_ret (end_ret rfl (pure_end hn ho (by rw [g2]; rfl) rfl))
 · have g2:cntsE f bad sh x = 60:=by
     have:hasB bad x.signer = false ∧ x ∉ sh:=by simpa using hc
     rw [g0,if_neg (by simp [this.1]),if_neg this.2]
   refine AW_skip ?_
   repeat refine AW_seq ?_
   refine AW_reg [4] fun K hK=>?_
   simp [init_eq]
   apply hK;clear hK K
   exact AW_ret (end_ret rfl (pure_end hn ho (by rw [g2]; rfl) rfl))
end Go.Proofs.YtmhaimdpfelkpaaGreatDoor
set_option linter.unusedVariables false
set_option linter.unusedSimpArgs false
namespace Go.Proofs.YtmhaimdpfelkpaaGreatDoor
open Go Go.Abs Go.Proofs
set_option maxRecDepth 100000
attribute [local irreducible] AEnd AW ACalls
theorem renough_ok (H:AH) {is:Nat} {F:List Nat} {f:Int} {bad:BitVec 32} {sh:List Shr} (hs:RSignAt H is F f bad sh) (hl:sh.length ≤ 10000) (st:Stm) (set:BitVec 32) (least:Int):ACalls Tryz.prog 90 [.p (some (is,0,0)),.agg st.cells,u32 set,.i .i64 least] H fun r H'=>r = .i .i64 (enE f bad sh st set least) ∧ H' = H:=by
 refine ACalls.pure (Q:=fun r=>r = .i .i64 (enE f bad sh st set least)) ⟨_,Tryz.func90,rfl,rfl⟩ ?_
 refine ACalls_body Tryz.func90 rfl rfl ?_
 repeat refine AW_seq ?_
 refine AW_reg [0,2,3,5] fun K hK=>?_
 simp [init_eq,V.cells]
 obtain ⟨H1,e1,hp,hn,ho⟩:=H.boxed st.cells
 rw [e1]
 apply hK;clear hK K
 have u1:Upd H H1 []:=⟨by omega,fun j hj _=>ho j hj⟩
 have hs1:=hs.upd u1 (by simp)
 obtain ⟨vs,Fs,rfl,h2,h3,h4⟩:=hs1
 have hs1:RSignAt H1 is (is :: Fs) f bad sh:=hs.upd u1 (by simp)
 repeat refine AW_seq ?_
 refine AW_reg [0,2,3,5,9] fun K hK=>?_
 simp [init_eq,afieldAddr,aload,h3]
 refine ACalls.mono (rqcheckE_ok H1 f set) fun r H' ⟨hr,e⟩=>?_
 subst hr e
 try simp
 apply hK;clear hK K
 repeat refine AW_seq ?_
 refine AW_reg [0,2,3,5,9,19] fun K hK=>?_
 simp [init_eq]
 apply hK;clear hK K
 refine AW_cond' rfl rfl (fun hc=>?_) (fun hc=>?_)
 · have g1:¬ qcheck f set = 0:=by simpa using hc
   have ga:allE f bad sh st set = qcheck f set:=by rw [allE,if_pos g1]
   repeat refine AW_seq ?_
   refine AW_reg [8] fun K hK=>?_
   simp [init_eq]
   apply hK;clear hK K
   exact AW_ret (end_ret rfl (pure_end hn ho (by rw [enE,ga,if_pos g1]; rfl) rfl))
 have g1:qcheck f set = 0:=by simpa using hc
 have ga:allE f bad sh st set = firstOf ((bitsOf set).map fun (k:Nat)=>cntsE f bad sh ⟨k,st⟩):=by rw [allE,if_neg (by simp [g1])]
 refine AW_skip ?_
 repeat refine AW_seq ?_
 refine AW_reg [0,3,5,10] fun K hK=>?_
 simp [init_eq]
 refine ACalls.mono (rlist_ok H' set) fun v H2 hr=>?_
 obtain ⟨FL,ol,u2,lF⟩:=hr
 have hrs:RS H2 v 1 ((bitsOf set).map cntC):=ol.rsR (by decide) cntC_len
 have lx:=hrs.alen (P:=Tryz.prog) qelem_64 H2
 have hp2:=u2.keep (by simp) hp
 have hs2:=hs1.upd u2 (by simp)
 have uH:Upd H H2 []:=u1.trans u2 (by simp)
 have hle:=bitsOf_len set
 try simp
 apply hK;clear hK K
 repeat refine AW_seq ?_
 refine AW_reg [0,3,5,10,11] fun K hK=>?_
 simp [init_eq]
 apply hK;clear hK K
 refine AW_block ?_
 refine AW_loop0 (fun i:Nat=>⟨44,[(0,.p (some (is,0,0))),(3,.i .i64 least),(5,.p (some (H.next,0,0))),(10,v),(11,.i .i64 i)]⟩) (fun i=>i ≤ (bitsOf set).length ∧ ∀ j (hj:j < (bitsOf set).length),j < i → cntsE f bad sh ⟨(bitsOf set)[j],st⟩ = 0) (fun i=>(bitsOf set).length - i) 0 (by simp) (by simp) (by have:=uH.1; dsimp only; omega) fun hw i hM=>?_
 repeat refine AW_seq ?_
 refine AW_reg [0,3,5,10,11,26] fun K hK=>?_
 simp [init_eq,lx]
 apply hK;clear hK K
 refine AW_cond' rfl rfl (fun hc=>?_) (fun hc=>?_)
 · have hi:i < (bitsOf set).length:=by simpa using hc
   obtain ⟨ax,px,qx⟩:=hrs.at1 (P:=Tryz.prog) (t:=64) (e:=3) qelem_64 qsize_3 qagg_3 (k:=.i64) i (x:=cnt (bitsOf set)[i]) (by simp [hi,cntC])
   have hls:aload Tryz.prog H2 58 (.p (some (H.next,0,0))) = some (.agg st.cells):=by simp [aload,hp2,Stm.take]
   have hab:abuild Tryz.prog 60 [(0,cnt (bitsOf set)[i]),(1,.agg st.cells)] = some (.agg (Shr.cells ⟨((bitsOf set)[i]:Nat),st⟩)):=by
    simp [abuild,afill,V.cells,splice_zero,splice_succ,cnt,Stm.cells,Shr.cells,splice]
   refine AW_skip ?_
   repeat refine AW_seq ?_
   refine AW_block ?_
   repeat refine AW_seq ?_
   refine AW_regd [0,3,5,9,10,11] pl_90_8 pe_90_8 (by kernel_rfl) (by kernel_rfl) (by decide) fun K hK=>?_
   simp [init_eq,pl_90_8,px,qx,hls,hab]
   refine ACalls.mono (rcounts_ok H2 hs2 hl _) fun r H3 ⟨hr,e⟩=>?_
   subst hr e
   try simp
   apply hK;clear hK K
   repeat refine AW_seq ?_
   refine AW_reg [0,3,5,9,10,11,38] fun K hK=>?_
   simp [init_eq]
   apply hK;clear hK K
   refine AW_cond' rfl rfl (fun hc=>?_) (fun hc=>?_)
   · have g2:¬ cntsE f bad sh ⟨((bitsOf set)[i]:Nat),st⟩ = 0:=by simpa using hc
     have ge:=firstOf_at (l:=(bitsOf set).map fun (k:Nat)=>cntsE f bad sh ⟨k,st⟩) (i:=i) (by simpa using hi) (fun j hj=>by simpa using hM.2 j (by omega) hj) (by simpa using g2)
     have ge2:allE f bad sh st set = cntsE f bad sh ⟨((bitsOf set)[i]:Nat),st⟩:=by rw [ga,ge]; simp
     repeat refine AW_seq ?_
     refine AW_reg [8] fun K hK=>?_
     simp [init_eq]
     apply hK;clear hK K
     refine AW_ret (end_ret rfl ⟨?_,rfl,uH.1,fun j hj=>uH.2 j hj (by simp)⟩)
     rw [enE,ge2,if_pos g2]; rfl
   · have g2:cntsE f bad sh ⟨((bitsOf set)[i]:Nat),st⟩ = 0:=by simpa using hc
     refine AW_skip ?_
     refine AW_reg [0,3,5,10,11] fun K hK=>?_
     simp [init_eq,wrap_id (x:=(i:Int) + 1) (by omega) (by omega)]
     apply hK;clear hK K
     exact rend ⟨i + 1,by simp,⟨by omega,fun j hj hj'=>(Nat.lt_or_eq_of_le (Nat.le_of_lt_succ hj')).elim (fun h=>hM.2 j hj h) (fun h=>by subst h; exact g2)⟩,by omega,.inl rfl⟩
 · have hi : i = (bitsOf set).length := by have := hM.1
                                           have:¬ i < (bitsOf set).length:=by simpa using hc
                                           omega
   have g2:allE f bad sh st set = 0:=by
    rw [ga]
    exact firstOf_zero fun e he=>by
     obtain ⟨c,hc,rfl⟩:=List.mem_map.1 he
     obtain ⟨j,hj,rfl⟩:=List.mem_iff_getElem.1 hc
     exact hM.2 j hj (by omega)
   refine AW_exit (then_exit (then_exit (block_here ?_)))
   repeat refine AW_seq ?_
   refine AW_reg [43] fun K hK=>?_
   simp [init_eq,lx]
   apply hK;clear hK K
   refine AW_cond' rfl rfl (fun hc=>?_) (fun hc=>?_)
   · have g3:(pop set:Int) < least:=by rw [pop_bits]; simpa using hc
     repeat refine AW_seq ?_
     refine AW_reg [8] fun K hK=>?_
     simp [init_eq]
     apply hK;clear hK K
     refine AW_ret (end_ret rfl ⟨?_,rfl,uH.1,fun j hj=>uH.2 j hj (by simp)⟩)
     rw [enE,if_neg (by simp [g2]),if_pos g3]; rfl
   · have g3:¬ (pop set:Int) < least:=by rw [pop_bits]; simpa using hc
     refine AW_skip ?_
     repeat refine AW_seq ?_
     refine AW_reg [8] fun K hK=>?_
     simp [init_eq]
     apply hK;clear hK K
     refine AW_ret (end_ret rfl ⟨?_,rfl,uH.1,fun j hj=>uH.2 j hj (by simp)⟩)
     rw [enE,if_neg (by simp [g2]),if_neg g3]; rfl
theorem rquorum_ok (H:AH) (f:Int):ACalls Tryz.prog 92 [.i .i64 f] H fun r H'=>r = .i .i64 (qtimes 2 f) ∧ H' = H:=by
 refine ACalls_body Tryz.func92 rfl rfl ?_
 repeat refine AW_seq ?_
 refine AW_reg [0] fun K hK=>?_
 simp [init_eq]
 apply hK;clear hK K
 repeat refine AW_seq ?_
 refine AW_reg [0,5] fun K hK=>?_
 simp [init_eq]
 refine ACalls.mono (rall_ok H f) fun r H' ⟨hr,e⟩=>?_
 subst hr e
 try simp
 apply hK;clear hK K
 refine AW_cond' rfl rfl (fun hc=>?_) (fun hc=>?_)
 · have g:qtimes 3 f = 0:=by simpa using hc
   have e:qtimes 2 f = 0:=by
    unfold qtimes at g ⊢
    split
    · rfl
    · rename_i h; rw [if_neg h] at g; omega
   repeat refine AW_seq ?_
   refine AW_reg [2] fun K hK=>?_
   simp [init_eq]
   apply hK;clear hK K
   exact AW_ret (end_ret rfl ⟨by rw [e]; rfl,rfl⟩)
 · have g:¬ qtimes 3 f = 0:=by simpa using hc
   have hf:¬ (f < 1 ∨ 3 < f):=fun h=>g (by unfold qtimes; rw [if_pos h])
   have e:qtimes 2 f = f + f + 1:=by unfold qtimes; rw [if_neg hf]; omega
   refine AW_skip ?_
   repeat refine AW_seq ?_
   refine AW_reg [2] fun K hK=>?_
   simp [init_eq,wrap_id (x:=f + f) (by omega) (by omega),wrap_id (x:=f + f + 1) (by omega) (by omega)]
   apply hK;clear hK K
   exact AW_ret (end_ret rfl ⟨by rw [e]; rfl,rfl⟩)
theorem rleader_ok (H:AH) (f n:Int):ACalls Tryz.prog 62 [.i .i64 f,.i .i64 n] H fun r H'=>r = .i .i64 (leadN f n) ∧ H' = H:=by
 refine ACalls_body Tryz.func62 rfl rfl ?_
 repeat refine AW_seq ?_
 refine AW_reg [0,1] fun K hK=>?_
 simp [init_eq]
 apply hK;clear hK K
 repeat refine AW_seq ?_
 refine AW_reg [1,5] fun K hK=>?_
 simp [init_eq]
 refine ACalls.mono (rall_ok H f) fun r H' ⟨hr,e⟩=>?_
 subst hr e
 try simp
 apply hK;clear hK K
 repeat refine AW_seq ?_
 refine AW_reg [1,5,10] fun K hK=>?_
 simp [init_eq]
 apply hK;clear hK K
 refine AW_cond' rfl rfl (fun hc=>?_) (fun hc=>?_)
 · have g:qtimes 3 f = 0:=by simpa using hc
   repeat refine AW_seq ?_
   refine AW_reg [4] fun K hK=>?_
   simp [init_eq]
   apply hK;clear hK K
   exact AW_ret (end_ret rfl ⟨by rw [leadN,if_pos g]; rfl,rfl⟩)
 have g:¬ qtimes 3 f = 0:=by simpa using hc
 have hN:0 < qtimes 3 f ∧ qtimes 3 f ≤ 10:=by have:=qtimes3 f; omega
 have hl:leadN f n = n % qtimes 3 f:=by rw [leadN,if_neg g]
 have hm:=tmod_fix n (qtimes 3 f) hN.1
 have hmb:n % qtimes 3 f = if n.tmod (qtimes 3 f) < 0 then n.tmod (qtimes 3 f) + qtimes 3 f else n.tmod (qtimes 3 f):=by
  have h1:=hm.1
  by_cases h0:n.tmod (qtimes 3 f) < 0
  · rw [if_pos h0,← h1,Int.tmod_eq_emod_of_nonneg (by omega),Int.emod_eq_of_lt (by omega) (by omega)]
  · rw [if_neg h0,← h1,Int.tmod_eq_emod_of_nonneg (by omega)]
    rw [Int.add_emod_right,Int.emod_eq_of_lt (by omega) (by omega)]
 have hrem:aint .rem .i64 n (qtimes 3 f) = some (.i .i64 (n.tmod (qtimes 3 f))):=rem_int (P:=Tryz.prog) (t:=3) n (qtimes 3 f) g
 generalize n.tmod (qtimes 3 f) = k at *
 generalize qtimes 3 f = N at *
 refine AW_skip ?_
 repeat refine AW_seq ?_
 refine AW_reg [5,6] fun K hK=>?_
 simp [init_eq,hrem]
 apply hK;clear hK K
 refine AW_cut (fun ρ G=>ρ = ⟨20,[(6,.i .i64 (leadN f n))]⟩ ∧ G = H') ?_ fun ρ G ⟨e1,e2⟩=>?_
 · repeat refine AW_seq ?_
   refine AW_reg [5,6,15] fun K hK=>?_
   simp [init_eq]
   apply hK;clear hK K
   refine AW_cond' rfl rfl (fun hc=>?_) (fun hc=>?_)
   · have h0:k < 0:=by simpa using hc
     refine AW_reg [6] fun K hK=>?_
     simp [init_eq,wrap_id (x:=k + N) (by omega) (by omega)]
     apply hK;clear hK K
     exact rend ⟨_,by simp [hl,hmb,h0],rfl,rfl⟩
   · have h0:¬ k < 0:=by simpa using hc
     exact AW_skip (rend ⟨_,by simp [hl,hmb,h0],rfl,rfl⟩)
 subst e1 e2
 repeat refine AW_seq ?_
 refine AW_reg [4] fun K hK=>?_
 simp [init_eq]
 apply hK;clear hK K
 exact AW_ret (end_ret rfl ⟨rfl,rfl⟩)
/-- What the program knows of coins and what the document keeps. -/
def CoRel (co:Int → Tos) (gv:List (Int × Int)) (sn:List Int):Prop :=
 ∀ v,(co v).chosen = decide (0 ≤ chosenN gv v) ∧ ((co v).chosen = true → (co v).who = chosenN gv v) ∧ (co v).seen = decide (v ∈ sn)
theorem CoRel.eff {co:Int → Tos} {gv:List (Int × Int)} {sn:List Int} (h:CoRel co gv sn) (f v:Int):eff f co v = if chosenN gv v < 0 then leadN f v else chosenN gv v:=by
 obtain ⟨h1,h2,_⟩:=h v
 unfold Go.Proofs.YtmhaimdpfelkpaaGreatDoor.eff
 by_cases g:chosenN gv v < 0
 · rw [if_pos g,h1]; simp [show ¬ 0 ≤ chosenN gv v by omega]
 · have:(co v).chosen = true:=by rw [h1]; simp; omega
   rw [if_neg g,if_pos this,h2 this]
theorem rwho_ok (H:AH) {ic:Nat} {F:List Nat} {f:Int} {gv:List (Int × Int)} {sn:List Int} (hs:RCoinAt H ic F f gv sn) (hl:gv.length ≤ 10000) (view:Int):ACalls Tryz.prog 132 [.p (some (ic,0,0)),.i .i64 view] H fun r H'=>r = .i .i64 (if chosenN gv view < 0 then leadN f view else chosenN gv view) ∧ H' = H:=by
 have hs0:=hs
 obtain ⟨vg,vn,Fg,Fn,rfl,h2,h3,h4,h5⟩:=hs
 refine ACalls_body Tryz.func132 rfl rfl ?_
 repeat refine AW_seq ?_
 refine AW_reg [0,1] fun K hK=>?_
 simp [init_eq]
 apply hK;clear hK K
 repeat refine AW_seq ?_
 refine AW_reg [0,1,5] fun K hK=>?_
 simp [init_eq]
 refine ACalls.mono (rchosen_ok H hs0 hl view) fun r H' ⟨hr,e⟩=>?_
 subst hr e
 try simp
 apply hK;clear hK K
 refine AW_cut (fun ρ G=>ρ = ⟨18,[(5,.i .i64 (if chosenN gv view < 0 then leadN f view else chosenN gv view))]⟩ ∧ G = H') ?_ fun ρ G ⟨e1,e2⟩=>?_
 · repeat refine AW_seq ?_
   refine AW_reg [0,1,5,10] fun K hK=>?_
   simp [init_eq]
   apply hK;clear hK K
   refine AW_cond' rfl rfl (fun hc=>?_) (fun hc=>?_)
   · have g:chosenN gv view < 0:=by simpa using hc
     refine AW_reg [5] fun K hK=>?_
     simp [init_eq,afieldAddr,aload,h3]
     refine ACalls.mono (rleader_ok ..) fun r G ⟨hr,e⟩=>?_
     subst hr e
     try simp
     apply hK;clear hK K
     exact rend ⟨_,by simp [g],rfl,rfl⟩
   · have g:¬ chosenN gv view < 0:=by simpa using hc
     exact AW_skip (rend ⟨_,by simp [g],rfl,rfl⟩)
 subst e1 e2
 repeat refine AW_seq ?_
 refine AW_reg [4] fun K hK=>?_
 simp [init_eq]
 apply hK;clear hK K
 exact AW_ret (end_ret rfl ⟨rfl,rfl⟩)
end Go.Proofs.YtmhaimdpfelkpaaGreatDoor
set_option linter.unusedVariables false
set_option linter.unusedSimpArgs false
namespace Go.Proofs.YtmhaimdpfelkpaaGreatDoor
open Go Go.Abs Go.Proofs
set_option maxRecDepth 100000
attribute [local irreducible] AEnd AW ACalls
theorem enE_bad {f:Int} (h:qtimes 3 f = 0) (bad:BitVec 32) (sh:List Shr) (st:Stm) (set:BitVec 32) (n:Int):enE f bad sh st set n = 1:=by
 have e:qcheck f set = 1:=by unfold qcheck; rw [if_pos h]
 have e2:allE f bad sh st set = 1:=by unfold allE; rw [e]; rfl
 unfold enE; rw [e2]; rfl
theorem enE_some (f:Int) (bad:BitVec 32) (sh:List Shr) (st:Stm) (set:BitVec 32):enE f bad sh st set (IntKind.i64.wrap (f + 1)) = enE f bad sh st set (qtimes 1 f):=by
 by_cases h:f < 1 ∨ 3 < f
 · have h3:qtimes 3 f = 0:=by unfold qtimes; rw [if_pos h]
   rw [enE_bad h3,enE_bad h3]
 · rw [wrap_id (by omega) (by omega),show qtimes 1 f = f + 1 by unfold qtimes; rw [if_neg h]; omega]
theorem CoRel.see {co:Int → Tos} {gv:List (Int × Int)} {sn:List Int} (h:CoRel co gv sn) (view w:Int) (hw:(co view).chosen = true → w = (co view).who) (sn':List Int) (hn:∀ v,v ∈ sn' ↔ v ∈ sn ∨ v = view):CoRel (coUpd co view ⟨w,(co view).chosen,true⟩) gv sn':=by
 intro v
 unfold coUpd
 by_cases e:v = view
 · subst e
   rw [if_pos rfl]
   refine ⟨(h v).1,fun hc=>?_,by simp [hn]⟩
   rw [hw hc]; exact (h v).2.1 hc
 · rw [if_neg e]
   refine ⟨(h v).1,(h v).2.1,?_⟩
   rw [(h v).2.2]
   exact decide_eq_decide.2 (by rw [hn]; simp [e])
theorem rsee_ok (H:AH) {ic is:Nat} {F G:List Nat} {f:Int} {bad:BitVec 32} {sh:List Shr} {co:Int → Tos} {gv:List (Int × Int)} {sn:List Int} (hc0:RCoinAt H ic F f gv sn) (hs:RSignAt H is G f bad sh) (hrel:CoRel co gv sn) (hl:sh.length ≤ 10000) (hg:gv.length ≤ 10000) (hn9:sn.length ≤ 9000) (view:Int) (set:BitVec 32) :
  ACalls Tryz.prog 93 [.p (some (ic,0,0)),.p (some (is,0,0)),.i .i64 view,u32 set] H fun r H' =>
   r = .tup [.i .i64 (seeR f bad sh co view set).1,.i .i64 (seeR f bad sh co view set).2.1] ∧ ∃ F' sn',RCoinAt H' ic F' f gv sn' ∧ CoRel (seeR f bad sh co view set).2.2 gv sn' ∧ sn'.length ≤ sn.length + 1 ∧ Upd H H' F ∧ ∀ j ∈ F',j ∈ F ∨ H.next ≤ j:=by
 have hcc:=hc0
 have hss:=hs
 obtain ⟨vs,Fs,rfl,k2,k3,k4⟩:=hs
 have hs:RSignAt H is (is :: Fs) f bad sh:=hss
 obtain ⟨vg,vn,Fg,Fn,rfl,h2,h3,h4,h5⟩:=hc0
 have hc0:RCoinAt H ic (ic :: (Fg ++ Fn)) f gv sn:=hcc
 refine ACalls_body Tryz.func93 rfl rfl ?_
 repeat refine AW_seq ?_
 refine AW_reg [0,1,2,3] fun K hK=>?_
 simp [init_eq]
 apply hK;clear hK K
 repeat refine AW_seq ?_
 refine AW_reg [0,1,2,3,13] fun K hK=>?_
 simp [init_eq]
 refine ACalls.mono (rmay_ok H view) fun r H' ⟨hr,e⟩=>?_
 subst hr e
 try simp
 apply hK;clear hK K
 refine AW_cond' rfl rfl (fun hc=>?_) (fun hc=>?_)
 · have g1:¬ mayE view = 0:=by simpa using hc
   have e70:mayE view = 70:=by unfold mayE at g1 ⊢; split at g1 <;> simp_all
   have hsee:seeR f bad sh co view set = (0,70,co):=by rw [seeR,if_pos g1,e70]
   repeat refine AW_seq ?_
   refine AW_reg [8,9] fun K hK=>?_
   simp [init_eq]
   apply hK;clear hK K
   exact AW_ret (end_ret rfl ⟨by rw [hsee]; rfl,_,sn,hc0,by rw [hsee]; exact hrel,by omega,Upd.refl ..,fun j hj=>.inl hj⟩)
 have g1:mayE view = 0:=by simpa using hc
 refine AW_skip ?_
 repeat refine AW_seq ?_
 refine AW_regd [0,1,2,3,22] pl_93_3 pe_93_3 (by kernel_rfl) (by kernel_rfl) (by decide) fun K hK=>?_
 simp [init_eq,pl_93_3,afieldAddr,aload,h3,k3]
 apply hK;clear hK K
 refine AW_condF rfl ?_
 refine AW_skip ?_
 have hab:abuild Tryz.prog 58 [(0,.i .i64 5),(2,.i .i64 view)] = some (.agg (coinStm view).cells):=by simp [abuild,afill,V.cells,splice,coinStm,Stm.zero,Stm.cells]
 repeat refine AW_seq ?_
 refine AW_reg [0,2,10] fun K hK=>?_
 simp [init_eq,hab,afieldAddr,aload,h3]
 refine ACalls.mono (renough_ok H' hs hl (coinStm view) set _) fun r H2 ⟨hr,e⟩=>?_
 subst hr e
 rw [enE_some]
 try simp
 apply hK;clear hK K
 repeat refine AW_seq ?_
 refine AW_reg [0,2,10,34] fun K hK=>?_
 simp [init_eq]
 apply hK;clear hK K
 refine AW_cond' rfl rfl (fun hc=>?_) (fun hc=>?_)
 · have g2:¬ enE f bad sh (coinStm view) set (qtimes 1 f) = 0:=by simpa using hc
   have hsee:seeR f bad sh co view set = (0,enE f bad sh (coinStm view) set (qtimes 1 f),co):=by rw [seeR,if_neg (by simp [g1]),if_pos g2]
   repeat refine AW_seq ?_
   refine AW_reg [8,9] fun K hK=>?_
   simp [init_eq]
   apply hK;clear hK K
   exact AW_ret (end_ret rfl ⟨by rw [hsee]; rfl,_,sn,hc0,by rw [hsee]; exact hrel,by omega,Upd.refl ..,fun j hj=>.inl hj⟩)
 have g2:enE f bad sh (coinStm view) set (qtimes 1 f) = 0:=by simpa using hc
 have hsee:seeR f bad sh co view set = (eff f co view,0,coUpd co view ⟨if (co view).chosen then (co view).who else leadN f view,(co view).chosen,true⟩):=by rw [seeR,if_neg (by simp [g1]),if_neg (by simp [g2])]; rfl
 have hrel2:∀ sn':List Int,(∀ v,v ∈ sn' ↔ v ∈ sn ∨ v = view) → CoRel (seeR f bad sh co view set).2.2 gv sn':=fun sn' h=>by
  rw [hsee]; exact hrel.see view _ (fun hc=>by rw [hc]; rfl) sn' h
 refine AW_skip ?_
 refine AW_cut (fun ρ G=>ρ = ⟨53,[(0,.p (some (ic,0,0))),(2,.i .i64 view)]⟩ ∧ ∃ F' sn',RCoinAt G ic F' f gv sn' ∧ CoRel (seeR f bad sh co view set).2.2 gv sn' ∧ sn'.length ≤ sn.length + 1 ∧ Upd H2 G (ic :: (Fg ++ Fn)) ∧ ∀ j ∈ F',j ∈ (ic :: (Fg ++ Fn)) ∨ H2.next ≤ j) ?_ fun ρ G ⟨e1,F',sn',q1,q2,q3,q4,q5⟩=>?_
 · repeat refine AW_seq ?_
   refine AW_reg [0,2,39] fun K hK=>?_
   simp [init_eq]
   refine ACalls.mono (rwas_ok H2 hc0 (by omega) view) fun r H3 ⟨hr,e⟩=>?_
   subst hr e
   try simp
   apply hK;clear hK K
   refine AW_cond' rfl rfl (fun hc=>?_) (fun hc=>?_)
   · have g3:view ∉ sn:=by simpa using hc
     obtain ⟨H1,v',H4,F',q1,q2,q3,q4,q5⟩:=h5.pushR (P:=Tryz.prog) (f:=viewC) (t:=64) app_ints qelem_64 qsize_3 qzero_3 rfl rfl (by decide) viewC_len (x:=.i .i64 view) view rfl (by simp [roomOk]; omega)
     have hnd:ic ∉ Fg ∧ ic ∉ Fn ∧ Fg.Nodup ∧ Fn.Nodup ∧ ∀ j ∈ Fg,j ∉ Fn:=by
      simp only [List.nodup_cons,List.mem_append,not_or,List.nodup_append] at h2
      exact ⟨h2.1.1,h2.1.2,h2.2.1,h2.2.2.1,fun j hj hj'=>h2.2.2.2 j hj j hj' rfl⟩
     have g4:=q4.keep hnd.2.1 h3
     have hi1:=AH.get_lt h3
     have hl3:aload Tryz.prog H3 64 (.p (some (ic,0,2))) = some vn:=by simp [aload,h3]
     have hst:astore Tryz.prog H4 64 (.p (some (ic,0,2))) v' = some (H4.set ic (.cells [.i .i64 f,vg,v'] 0 false 0)):=by simp [astore,g4,q3.cells,splice]
     have hn2:=q4.1
     have hF:ic ∉ F':=fun h=>(q5 _ h).elim hnd.2.1 (by omega)
     have hFg:∀ j ∈ F',j ∉ Fg:=fun j hj hj'=>(q5 j hj).elim (fun h=>hnd.2.2.2.2 j hj' h) (fun h=>by have:=h4.lt j hj'; omega)
     have u3:Upd H4 (H4.set ic (.cells [.i .i64 f,vg,v'] 0 false 0)) [ic]:=Upd.set _ _ _ (by simp)
     refine AW_reg [0,2] fun K hK=>?_
     simp [init_eq,afieldAddr,hl3,q1,q2,hst]
     apply hK;clear hK K
     refine rend ⟨_,by simp,rfl,ic :: (Fg ++ F'),sn ++ [view],⟨vg,v',Fg,F',rfl,?_,by rw [AH.get_set]; simp; omega,(h4.upd q4 fun j hj=>hnd.2.2.2.2 j hj).upd u3 fun j hj=>by simp; exact fun e=>hnd.1 (e ▸ hj),q3.upd u3 fun j hj=>by simp; exact fun e=>hF (e ▸ hj)⟩,hrel2 _ (by simp),by simp,?_,fun j hj=>?_⟩
     · simp only [List.nodup_cons,List.mem_append,not_or,List.nodup_append]
       exact ⟨⟨hnd.1,hF⟩,hnd.2.2.1,own_nodup q3,fun a ha b hb e=>hFg b hb (e ▸ ha)⟩
     · exact (q4.mono (fun j hj=>by simp [hj]):Upd H3 H4 (ic :: (Fg ++ Fn))).trans (u3.mono (by simp)) (fun j hj=>.inl hj)
     · simp only [List.mem_cons,List.mem_append] at hj ⊢
       rcases hj with rfl | hj | hj
       · simp
       · simp [hj]
       · rcases q5 j hj with h | h
         · simp [h]
         · exact .inr h
   · have g3:view ∈ sn:=by simpa using hc
     exact AW_skip (rend ⟨_,by simp,rfl,_,sn,hc0,hrel2 _ (fun v=>⟨.inl,fun h=>h.elim id (fun e=>e ▸ g3)⟩),by omega,Upd.refl ..,fun j hj=>.inl hj⟩)
 subst e1
 repeat refine AW_seq ?_
 refine AW_reg [8,9] fun K hK=>?_
 simp [init_eq]
 refine ACalls.mono (rwho_ok G q1 hg view) fun r G2 ⟨hr,e⟩=>?_
 subst hr e
 try simp
 apply hK;clear hK K
 exact AW_ret (end_ret rfl ⟨by rw [hsee,hrel.eff]; rfl,F',sn',q1,q2,q3,q4,q5⟩)
theorem rstmt_ok (H:AH) (c:Cert):ACalls Tryz.prog 91 [.agg c.cells] H fun r H'=>r = .agg c.stm.cells ∧ H' = H:=by
 refine ACalls.pure (Q:=fun r=>r = .agg c.stm.cells) ⟨_,Tryz.func91,rfl,rfl⟩ ?_
 refine ACalls_body Tryz.func91 rfl rfl ?_
 have hz:abuild Tryz.prog 58 [] = some (.agg Stm.zero.cells):=by first | (simp [abuild,afill]; done) | (simp [abuild,afill]; rfl)
 have hb:abuild Tryz.prog 58 [(1,.i .i64 c.block),(2,.i .i64 c.view),(3,.i .i64 c.round)] = some (.agg (Stm.cells ⟨0,c.block,c.view,c.round,0,0,0,0,0,0⟩)):=by simp [abuild,afill,V.cells,splice,Stm.cells]
 repeat refine AW_seq ?_
 refine AW_reg [1,2] fun K hK=>?_
 simp [init_eq,V.cells]
 obtain ⟨H1,e1,hp,hp2,hn,ho⟩:=H.boxed2 c.cells Stm.zero.cells
 apply hK;clear hK K
 show AThen _ _ _ _ ((H.new (O.cells c.cells 0 false 0)).new (O.cells Stm.zero.cells 0 false 0))
 rw [e1]
 repeat refine AW_seq ?_
 refine AW_reg [1,2,3] fun K hK=>?_
 obtain ⟨H2,e2,hp3,hn2,ho2⟩:=AH.boxedS H1 Stm.zero.cells (Stm.cells ⟨0,c.block,c.view,c.round,0,0,0,0,0,0⟩)
 simp [init_eq,afieldAddr,aload,hp,hb,V.cells,astore,AH.get_new]
 apply hK;clear hK K
 show AThen _ _ _ _ ((H1.new (O.cells Stm.zero.cells 0 false 0)).set H1.next (O.cells (Stm.cells ⟨0,c.block,c.view,c.round,0,0,0,0,0,0⟩) 0 false 0))
 rw [e2]
 have hpc:H2.get H.next = some (.cells c.cells 0 false 0):=by rw [ho2 _ (by omega)]; exact hp
 have hpr:H2.get (H.next + 1) = some (.cells Stm.zero.cells 0 false 0):=by rw [ho2 _ (by omega)]; exact hp2
 have hps:H2.get (H.next + 2) = some (.cells (Stm.cells ⟨0,c.block,c.view,c.round,0,0,0,0,0,0⟩) 0 false 0):=by rw [show H.next + 2 = H1.next by omega]; exact hp3
 have hn3:H2.next = H.next + 3:=by omega
 have hoo:∀ j,j < H.next → H2.get j = H.get j:=fun j hj=>by rw [ho2 j (by omega),ho j hj]
 rw [hn]
 clear hp hp2 hp3 hn ho e1 e2 hn2 ho2
 have hend:∀ (G:AH) (s:Stm) (ρ:Env),G.next = H.next + 3 → (∀ j,j < H.next → G.get j = H.get j) → ρ.get 2 = .p (some (H.next + 1,0,0)) → s = c.stm → AEnd Tryz.prog Tryz.f91 (fun r H'=>r = .agg c.stm.cells ∧ V.lt H.next r = true ∧ H.next ≤ H'.next ∧ ∀ j,j < H.next → H'.get j = H.get j) .ret ρ (G.set (H.next + 1) (.cells s.cells 0 false 0)):=fun G s ρ hG hG2 h1 h2 =>
  end_ret (ares_cell (v:=.agg s.cells) (by rw [h1]; simp [aload,AH.get_set,hG,Stm.take])) ⟨by rw [h2],rfl,by simp; omega,fun j hj=>by rw [AH.get_set_ne (by omega)]; exact hG2 j hj⟩
 have hst:∀ (G:AH) (s:Stm),G.get (H.next + 1) = some (.cells Stm.zero.cells 0 false 0) → astore Tryz.prog G 58 (.p (some (H.next + 1,0,0))) (.agg s.cells) = some (G.set (H.next + 1) (.cells s.cells 0 false 0)):=fun G s h=>by simp [astore,h,V.cells,show splice Stm.zero.cells 0 s.cells = s.cells from rfl]
 repeat refine AW_seq ?_
 refine AW_reg [1,2,3,12] fun K hK=>?_
 simp [init_eq,afieldAddr,aload,hpc]
 apply hK;clear hK K
 refine AW_block ?_
 refine AW_seq ?_
 refine AW_reg [1,2,3,12,13] fun K hK=>?_
 simp [init_eq]
 apply hK;clear hK K
 have s0:∀ x:Int,splice (Stm.cells ⟨0,c.block,c.view,c.round,0,0,0,0,0,0⟩) 0 [.i .i64 x] = Stm.cells ⟨x,c.block,c.view,c.round,0,0,0,0,0,0⟩:=fun _=>rfl
 have s4:∀ k x:Int,splice (Stm.cells ⟨k,c.block,c.view,c.round,0,0,0,0,0,0⟩) 4 [.i .i64 x] = Stm.cells ⟨k,c.block,c.view,c.round,x,0,0,0,0,0⟩:=fun _ _=>rfl
 have s5:∀ k h x:Int,splice (Stm.cells ⟨k,c.block,c.view,c.round,h,0,0,0,0,0⟩) 5 [.i .i64 x] = Stm.cells ⟨k,c.block,c.view,c.round,h,x,0,0,0,0⟩:=fun _ _ _=>rfl
 have stp:∀ (G:AH) (s t:Stm),G.next = H.next + 3 → (∀ j,j < H.next → G.get j = H.get j) → G.get H.next = some (.cells c.cells 0 false 0) → G.get (H.next + 1) = some (.cells Stm.zero.cells 0 false 0) → ∀ G',G' = G.set (H.next + 2) (.cells t.cells 0 false 0) → G'.next = H.next + 3 ∧ (∀ j,j < H.next → G'.get j = H.get j) ∧ G'.get H.next = some (.cells c.cells 0 false 0) ∧ G'.get (H.next + 1) = some (.cells Stm.zero.cells 0 false 0) ∧ G'.get (H.next + 2) = some (.cells t.cells 0 false 0):=fun G s t g1 g2 g3 g4 G' e=>by
  subst e
  exact ⟨g1,fun j hj=>by rw [AH.get_set_ne (by omega)]; exact g2 j hj,by rw [AH.get_set_ne (by omega)]; exact g3,by rw [AH.get_set_ne (by omega)]; exact g4,by rw [AH.get_set_same (by omega)]⟩
 refine AW_cond' rfl rfl (fun hc=>?_) (fun hc=>?_)
 · have g:c.kind = 1:=by simpa using hc
   refine AW_seq ?_
   refine AW_reg [2,3] fun K hK=>?_
   simp [init_eq,afieldAddr,astore,hps,V.cells,s0]
   apply hK;clear hK K
   generalize hG:H2.set (H.next + 2) _ = G
   obtain ⟨q1,q2,q3,q4,q5⟩:=stp H2 ⟨0,c.block,c.view,c.round,0,0,0,0,0,0⟩ ⟨2,c.block,c.view,c.round,0,0,0,0,0,0⟩ hn3 hoo hpc hpr G hG.symm
   have hl:aload Tryz.prog G 58 (.p (some (H.next + 2,0,0))) = some (.agg (Stm.cells ⟨2,c.block,c.view,c.round,0,0,0,0,0,0⟩)):=by simp [aload,q5,Stm.take]
   refine AW_seq ?_
   refine AW_reg [2] fun K hK=>?_
   simp [init_eq,hl,hst _ _ q4]
   apply hK;clear hK K
   exact AW_ret (hend _ _ _ q1 q2 rfl (by unfold Cert.stm; rw [if_pos g]; rfl))
 · have g:¬ c.kind = 1:=by simpa using hc
   refine AW_seq ?_
   refine AW_reg [1,2,3,17] fun K hK=>?_
   simp [init_eq]
   apply hK;clear hK K
   refine AW_cond' rfl rfl (fun hc=>?_) (fun hc=>?_)
   · have g2:c.kind = 2:=by simpa using hc
     refine AW_seq ?_
     refine AW_reg [1,2,3] fun K hK=>?_
     simp [init_eq,afieldAddr,astore,hps,V.cells,s0]
     apply hK;clear hK K
     generalize hG:H2.set (H.next + 2) _ = G
     obtain ⟨q1,q2,q3,q4,q5⟩:=stp H2 ⟨0,c.block,c.view,c.round,0,0,0,0,0,0⟩ ⟨4,c.block,c.view,c.round,0,0,0,0,0,0⟩ hn3 hoo hpc hpr G hG.symm
     refine AW_seq ?_
     refine AW_reg [1,2,3] fun K hK=>?_
     simp [init_eq,afieldAddr,aload,q3,astore,q5,V.cells,s4]
     apply hK;clear hK K
     generalize hG2:G.set (H.next + 2) _ = G2
     obtain ⟨r1,r2,r3,r4,r5⟩:=stp G ⟨4,c.block,c.view,c.round,0,0,0,0,0,0⟩ ⟨4,c.block,c.view,c.round,c.height,0,0,0,0,0⟩ q1 q2 q3 q4 G2 hG2.symm
     refine AW_seq ?_
     refine AW_reg [2,3] fun K hK=>?_
     simp [init_eq,afieldAddr,aload,r3,astore,r5,V.cells,s5]
     apply hK;clear hK K
     generalize hG3:G2.set (H.next + 2) _ = G3
     obtain ⟨t1,t2,t3,t4,t5⟩:=stp G2 ⟨4,c.block,c.view,c.round,c.height,0,0,0,0,0⟩ ⟨4,c.block,c.view,c.round,c.height,c.author,0,0,0,0⟩ r1 r2 r3 r4 G3 hG3.symm
     have hl:aload Tryz.prog G3 58 (.p (some (H.next + 2,0,0))) = some (.agg (Stm.cells ⟨4,c.block,c.view,c.round,c.height,c.author,0,0,0,0⟩)):=by simp [aload,t5,Stm.take]
     refine AW_seq ?_
     refine AW_reg [2] fun K hK=>?_
     simp [init_eq,hl,hst _ _ t4]
     apply hK;clear hK K
     exact AW_ret (hend _ _ _ t1 t2 rfl (by unfold Cert.stm; rw [if_neg g,if_pos g2]; rfl))
   · have g2:¬ c.kind = 2:=by simpa using hc
     refine AW_skip ?_
     repeat refine AW_seq ?_
     refine AW_reg [2] fun K hK=>?_
     simp [init_eq,hz,hst _ _ hpr]
     apply hK;clear hK K
     exact AW_ret (hend _ _ _ hn3 hoo rfl (by unfold Cert.stm; rw [if_neg g,if_neg g2]))
end Go.Proofs.YtmhaimdpfelkpaaGreatDoor
set_option linter.unusedVariables false
set_option linter.unusedSimpArgs false
namespace Go.Proofs.YtmhaimdpfelkpaaGreatDoor
open Go Go.Abs Go.Proofs
set_option maxRecDepth 100000
attribute [local irreducible] AEnd AW ACalls
/-- The document's registers know what the program's know. -/
structure RLaw (H:AH) (jb js jc:Nat) (GB GS GC:List Nat) (d:RegD) (n:Nat):Prop where
 book:RBookAt H jb GB d.bk
 sign:RSignAt H js GS d.f d.bad d.sh
 coin:∃ gv sn,RCoinAt H jc GC d.f gv sn ∧ CoRel d.co gv sn ∧ gv.length ≤ 10000 ∧ sn.length ≤ n
 bs:∀ j ∈ GB,j ∉ GS
 bc:∀ j ∈ GB,j ∉ GC
 sc:∀ j ∈ GS,j ∉ GC
 len:d.bk.length ≤ 10000
 shl:d.sh.length ≤ 10000
 txt:∀ s ∈ d.bk,s.length ≤ 65536
theorem RLaw.upd {H H':AH} {jb js jc:Nat} {GB GS GC:List Nat} {d:RegD} {n:Nat} (h:RLaw H jb js jc GB GS GC d n) (hu:Upd H H' []):RLaw H' jb js jc GB GS GC d n:=by
 obtain ⟨gv,sn,c1,c2,c3,c4⟩:=h.coin
 exact ⟨h.book.upd hu (by simp),h.sign.upd hu (by simp),⟨gv,sn,c1.upd hu (by simp),c2,c3,c4⟩,h.bs,h.bc,h.sc,h.len,h.shl,h.txt⟩
theorem RLaw.more {H:AH} {jb js jc:Nat} {GB GS GC:List Nat} {d:RegD} {n m:Nat} (h:RLaw H jb js jc GB GS GC d n) (hm:n ≤ m):RLaw H jb js jc GB GS GC d m:=by
 obtain ⟨gv,sn,c1,c2,c3,c4⟩:=h.coin
 exact ⟨h.book,h.sign,⟨gv,sn,c1,c2,c3,by omega⟩,h.bs,h.bc,h.sc,h.len,h.shl,h.txt⟩
/-- What the document's methods leave: registers that know more of coins. -/
def RDone (H H':AH) (jb js jc:Nat) (GB GS GC:List Nat) (d:RegD) (n:Nat):Prop:=∃ GC',RLaw H' jb js jc GB GS GC' d n ∧ Upd H H' GC ∧ ∀ j ∈ GC',j ∈ GC ∨ H.next ≤ j
theorem RDone.refl {H:AH} {jb js jc:Nat} {GB GS GC:List Nat} {d:RegD} {n:Nat} (h:RLaw H jb js jc GB GS GC d n):RDone H H jb js jc GB GS GC d n:=⟨GC,h,Upd.refl ..,fun j hj=>.inl hj⟩
theorem RDone.after {H H1 H':AH} {jb js jc:Nat} {GB GS GC:List Nat} {d:RegD} {n:Nat} (hu:Upd H H1 []) (h:RDone H1 H' jb js jc GB GS GC d n):RDone H H' jb js jc GB GS GC d n:=by
 obtain ⟨GC',h1,h2,h3⟩:=h
 exact ⟨GC',h1,(hu.mono (by simp):Upd H H1 GC).trans h2 (fun j hj=>.inl hj),fun j hj=>(h3 j hj).imp id fun h=>Nat.le_trans hu.1 h⟩
theorem rbookContent_ok (H:AH) {ib:Nat} {F:List Nat} {cs:List (List UInt8)} (hb:RBookAt H ib F cs) (hl:cs.length ≤ 100000) (n:Int):ACalls Tryz.prog 97 [.p (some (ib,0,0)),.i .i64 n] H fun r H'=>(r = if 1 ≤ n ∧ n ≤ cs.length then .tup [.s (cs[n.toNat - 1]?.getD []),.b true] else .tup [.s [],.b false]) ∧ H' = H:=by
 obtain ⟨vs,Fs,rfl,h2,h3,h4⟩:=hb
 have hrs:RS H vs 1 (cs.map txtC):=h4.rsR (by decide) txtC_len
 have lx:=hrs.alen (P:=Tryz.prog) qelem_24 H
 have hl3:aload Tryz.prog H 24 (.p (some (ib,0,0))) = some vs:=by simp [aload,h3]
 refine ACalls_body Tryz.func97 rfl rfl ?_
 repeat refine AW_seq ?_
 refine AW_reg [0,1] fun K hK=>?_
 simp [init_eq]
 apply hK;clear hK K
 repeat refine AW_seq ?_
 refine AW_reg [0,1,6] fun K hK=>?_
 simp [init_eq]
 apply hK;clear hK K
 refine AW_block ?_
 refine AW_loop0 (fun i:Nat=>⟨27,[(0,.p (some (ib,0,0))),(1,.i .i64 n),(6,.i .i64 i)]⟩) (fun i=>i ≤ cs.length ∧ ¬ (1 ≤ n ∧ n ≤ i)) (fun i=>cs.length - i) 0 (by simp) ⟨by simp,by simp; omega⟩ (by dsimp only; omega) fun hw i hM=>?_
 repeat refine AW_seq ?_
 refine AW_reg [0,1,6,13] fun K hK=>?_
 simp [init_eq,afieldAddr,hl3,lx]
 apply hK;clear hK K
 refine AW_cond' rfl rfl (fun hc=>?_) (fun hc=>?_)
 · have hi:i < cs.length:=by simpa using hc
   obtain ⟨ax,px,qx⟩:=hrs.at1 (P:=Tryz.prog) (t:=24) (e:=9) qelem_24 qsize_9 qagg_9 (k:=.i64) i (x:=.s cs[i]) (by simp [hi,txtC])
   refine AW_skip ?_
   repeat refine AW_seq ?_
   refine AW_block ?_
   repeat refine AW_seq ?_
   refine AW_reg [0,1,6,19] fun K hK=>?_
   simp [init_eq,wrap_id (x:=(i:Int) + 1) (by omega) (by omega)]
   apply hK;clear hK K
   refine AW_cond' rfl rfl (fun hc=>?_) (fun hc=>?_)
   · have he:(i:Int) + 1 = n:=by simpa using hc
     have h1:1 ≤ n ∧ n ≤ cs.length:=by omega
     have h2:n.toNat - 1 = i:=by omega
     repeat refine AW_seq ?_
     refine AW_reg [4,5] fun K hK=>?_
     simp [init_eq,afieldAddr,hl3,px,qx]
     apply hK;clear hK K
     refine AW_ret (end_ret rfl ⟨?_,rfl⟩)
     rw [if_pos h1,h2,List.getElem?_eq_getElem hi]; rfl
   · have he:¬ (i:Int) + 1 = n:=by simpa using hc
     refine AW_skip ?_
     refine AW_reg [0,1,6] fun K hK=>?_
     simp [init_eq,wrap_id (x:=(i:Int) + 1) (by omega) (by omega)]
     apply hK;clear hK K
     exact rend ⟨i + 1,by simp,⟨by omega,by have:=hM.2; omega⟩,by omega,.inl rfl⟩
 · have hi : i = cs.length := by have := hM.1
                                 have:¬ i < cs.length:=by simpa using hc
                                 omega
   have h1:¬ (1 ≤ n ∧ n ≤ cs.length):=by rw [← hi]; exact hM.2
   refine AW_exit (then_exit (then_exit (block_here ?_)))
   repeat refine AW_seq ?_
   refine AW_reg [4,5] fun K hK=>?_
   simp [init_eq]
   apply hK;clear hK K
   exact AW_ret (end_ret rfl ⟨by rw [if_neg h1]; rfl,rfl⟩)
theorem rlawContent_ok (H:AH) {jb js jc:Nat} {GB GS GC:List Nat} {d:RegD} {n9:Nat} (hd:RLaw H jb js jc GB GS GC d n9) (n:Int):ACalls Tryz.prog 35 [.agg (lawV jb js jc),.i .i64 n] H fun r H' =>
  ∃ pv tv,r = .tup [.agg ((lawCont d.bk n).1.cells pv tv),.i .i64 (lawCont d.bk n).2] ∧ BlkNew H H' (lawCont d.bk n).1 pv tv ∧ Upd H H' []:=by
 have hz:abuild Tryz.prog 33 [] = some (.agg (Blk.zero.cells nilSl nilSl)):=by first | (simp [abuild,afill]; done) | (simp [abuild,afill]; rfl)
 have hzB:∀ G:AH,BlkNew H G Blk.zero nilSl nilSl:=fun G _ _ _=>⟨RS.nil ..,RS.nil ..⟩
 generalize hR:lawCont d.bk n = R
 refine ACalls_body Tryz.func35 rfl rfl ?_
 refine AW_seq ?_
 refine AW_reg [1,2,4] fun K hK=>?_
 simp [init_eq,V.cells]
 apply hK;clear hK K
 obtain ⟨H1,e1,hp,hp2,hn,ho⟩:=H.boxed2 (lawV jb js jc) (Blk.zero.cells nilSl nilSl)
 show AThen _ _ _ _ ((H.new (O.cells (lawV jb js jc) 0 false 0)).new (O.cells (Blk.zero.cells nilSl nilSl) 0 false 0))
 rw [e1]
 have u1:Upd H H1 []:=⟨by omega,fun j hj _=>ho j hj⟩
 have hd1:=hd.upd u1
 have hend:∀ (G:AH) (x:Blk) (v w:V) (e:Int) (ρ:Env),G.get (H.next + 1) = some (.cells (Blk.zero.cells nilSl nilSl) 0 false 0) → Upd H G [] → ρ.get 4 = .p (some (H.next + 1,0,0)) → ρ.get 5 = .i .i64 e → (x,e) = R → BlkNew H (G.set (H.next + 1) (.cells (x.cells v w) 0 false 0)) x v w → AEnd Tryz.prog Tryz.f35 (fun r H'=>∃ pv tv,r = .tup [.agg (R.1.cells pv tv),.i .i64 R.2] ∧ BlkNew H H' R.1 pv tv ∧ Upd H H' []) .ret ρ (G.set (H.next + 1) (.cells (x.cells v w) 0 false 0)):=fun G x v w e ρ hg hu h1 h2 h3 h4 =>
  end_ret (ares_cell_tmp (v:=.agg (x.cells v w)) (by rw [h1]; simp [aload,AH.get_set,AH.get_lt hg,blk_take])) ⟨v,w,by rw [← h3,h2],by rw [← h3]; exact h4,hu.1,fun j hj hn=>by rw [AH.get_set_ne (by omega)]; exact hu.2 j hj hn⟩
 have hst:∀ (G:AH) (x:Blk) (v w:V),G.get (H.next + 1) = some (.cells (Blk.zero.cells nilSl nilSl) 0 false 0) → astore Tryz.prog G 33 (.p (some (H.next + 1,0,0))) (.agg (x.cells v w)) = some (G.set (H.next + 1) (.cells (x.cells v w) 0 false 0)):=fun G x v w h=>by simp [astore,h,V.cells,show splice (Blk.zero.cells nilSl nilSl) 0 (x.cells v w) = x.cells v w from rfl]
 refine AW_seq ?_
 refine AW_reg [4,6,7] fun K hK=>?_
 simp [init_eq,afieldAddr,aload,hp]
 refine ACalls.mono (rbookContent_ok H1 hd1.book (by have:=hd.len; omega) n) fun r H' ⟨hr,e⟩=>?_
 subst hr e
 by_cases g1:1 ≤ n ∧ n ≤ d.bk.length
 · have hs:(d.bk[n.toNat - 1]?.getD []).length ≤ 65536:=by
     cases hq:d.bk[n.toNat - 1]? with
     | none=>simp
     | some s=>exact hd.txt s (List.mem_of_getElem? hq)
   have hlc:R = (if (parseBlk (d.bk[n.toNat - 1]?.getD [])).2 = 0 then ((parseBlk (d.bk[n.toNat - 1]?.getD [])).1,0) else (Blk.zero,120)):=by rw [← hR,lawCont,if_pos g1]
   rw [if_pos g1]
   clear hR
   generalize (d.bk[n.toNat - 1]?.getD []) = s at hs hlc ⊢
   simp
   apply hK;clear hK K
   repeat refine AW_seq ?_
   refine AW_reg [4,6,7,18] fun K hK=>?_
   simp [init_eq]
   apply hK;clear hK K
   refine AW_condF rfl ?_
   refine AW_skip ?_
   repeat refine AW_seq ?_
   refine AW_reg [4,8,9] fun K hK=>?_
   simp [init_eq]
   refine ACalls.mono (rparse_ok H' s) fun r H2 ⟨pv,tv,hr,hb,u2⟩=>?_
   subst hr
   obtain ⟨x1,x2⟩:=rparseBlk_eq s
   simp [astore,AH.get_new,V.cells]
   apply hK;clear hK K
   generalize rparseBlk s = y at *
   generalize parseBlk s = z at *
   obtain ⟨b,e⟩:=y
   simp only at x1 x2 hb ⊢
   generalize hG3:AH.set _ H2.next _ = G3
   have k5:G3.get H2.next = some (.cells (b.cells pv tv) 0 false 0):=by
    rw [← hG3]; simp [AH.get_set]; first | exact splice_all rfl | done
   have ko:∀ j,j < H2.next → G3.get j = H2.get j:=fun j hj=>by rw [← hG3,AH.get_set_ne (by omega),AH.get_new,if_neg (by omega)]
   have kn:G3.next = H2.next + 1:=by rw [← hG3]; simp
   have u3:Upd H2 G3 []:=⟨by omega,fun j hj _=>ko j hj⟩
   have uG:Upd H G3 []:=(u1.trans u2 (by simp)).trans u3 (by simp)
   have hpG:=(u2.trans u3 (by simp)).keep (by simp) hp2
   have hlb:aload Tryz.prog G3 33 (.p (some (H2.next,0,0))) = some (.agg (b.cells pv tv)):=by simp [aload,k5,blk_take]
   have hn2:=u2.1
   refine AW_seq ?_
   refine AW_seq ?_
   refine AW_reg [4,8,26] fun K hK=>?_
   simp [init_eq]
   apply hK;clear hK K
   refine AW_cond' rfl rfl (fun hc=>?_) (fun hc=>?_)
   · have g:¬ e = 0:=by simpa using hc
     have g2:¬ z.2 = 0:=fun h=>g (x2.2 h)
     repeat refine AW_seq ?_
     refine AW_reg [4,5] fun K hK=>?_
     simp [init_eq,hz,hst _ _ _ _ hpG]
     apply hK;clear hK K
     exact AW_ret (hend _ _ _ _ _ _ hpG uG rfl rfl (by rw [hlc,if_neg g2]) (hzB _))
   · have g:e = 0:=by simpa using hc
     have g2:z.2 = 0:=x2.1 g
     refine AW_skip ?_
     repeat refine AW_seq ?_
     refine AW_reg [4,5] fun K hK=>?_
     simp [init_eq,hlb,hst _ _ _ _ hpG]
     apply hK;clear hK K
     refine AW_ret (hend _ _ _ _ _ _ hpG uG rfl rfl (by rw [hlc,if_pos g2,x1]) fun G' hg hn'=>hb G' (fun j h1 h2=>?_) (by simp at hn'; omega))
     rw [hg j (by omega) (by simp; omega),AH.get_set_ne (by omega)]; exact ko j h2
 · have hlc:R = (Blk.zero,50):=by rw [← hR,lawCont,if_neg g1]
   rw [if_neg g1]
   simp
   apply hK;clear hK K
   repeat refine AW_seq ?_
   refine AW_reg [4,6,7,18] fun K hK=>?_
   simp [init_eq]
   apply hK;clear hK K
   refine AW_condT rfl ?_
   repeat refine AW_seq ?_
   refine AW_reg [4,5] fun K hK=>?_
   simp [init_eq,hz,hst _ _ _ _ hp2]
   apply hK;clear hK K
   exact AW_ret (hend _ _ _ _ _ _ hp2 u1 rfl rfl (by rw [hlc]) (hzB _))
theorem rlawCert_ok (H:AH) {jb js jc:Nat} {GB GS GC:List Nat} {d:RegD} {n9:Nat} (hd:RLaw H jb js jc GB GS GC d n9) (h9:n9 ≤ 9000) (c:Cert):ACalls Tryz.prog 29 [.agg (lawV jb js jc),.agg c.cells] H fun r H' =>
  r = .i .i64 (certR d c).1 ∧ RDone H H' jb js jc GB GS GC { d with co:=(certR d c).2 } (n9 + 1):=by
 refine ACalls_body Tryz.func29 rfl rfl ?_
 repeat refine AW_seq ?_
 refine AW_reg [2,3] fun K hK=>?_
 simp [init_eq,V.cells]
 obtain ⟨H1,e1,hp,hp2,hn,ho⟩:=H.boxed2 (lawV jb js jc) c.cells
 rw [e1]
 apply hK;clear hK K
 have u1:Upd H H1 []:=⟨by omega,fun j hj _=>ho j hj⟩
 have hd1:=hd.upd u1
 have hlc:aload Tryz.prog H1 29 (.p (some (H.next + 1,0,0))) = some (.agg c.cells):=by simp [aload,hp2,take_cells]
 have hll:aload Tryz.prog H1 46 (.p (some (H.next,0,0))) = some (.agg (lawV jb js jc)):=by simp [aload,hp]
 have fin:∀ {G:AH} {e:Int},Upd H G [] → certR d c = (e,d.co) → e = (certR d c).1 ∧ RDone H G jb js jc GB GS GC { d with co:=(certR d c).2 } (n9 + 1):=fun hu h=>by
  rw [h]
  exact ⟨rfl,RDone.after hu (RDone.refl ((hd.upd hu).more (by omega)))⟩
 repeat refine AW_seq ?_
 refine AW_reg [2,3,10] fun K hK=>?_
 simp [init_eq,hlc]
 refine ACalls.mono (rcheck_ok H1 c) fun r H' ⟨hr,e⟩=>?_
 subst hr e
 try simp
 apply hK;clear hK K
 have hck:c.check = if c.ok then 0 else 110:=rfl
 refine AW_cond' rfl rfl (fun hc=>?_) (fun hc=>?_)
 · have g:c.ok = false:=by simpa using hc
   have hR:certR d c = (110,d.co):=by rw [certR,hck,g]; rfl
   repeat refine AW_seq ?_
   refine AW_reg [4] fun K hK=>?_
   simp [init_eq]
   apply hK;clear hK K
   obtain ⟨f1,f2⟩:=fin u1 hR
   exact AW_ret (end_ret rfl ⟨by rw [← f1]; rfl,f2⟩)
 have g:c.ok = true:=by simpa using hc
 have hc0:c.check = 0:=by rw [hck,g]; rfl
 refine AW_skip ?_
 repeat refine AW_seq ?_
 refine AW_reg [2,3,13] fun K hK=>?_
 simp [init_eq,afieldAddr,aload,hp2]
 apply hK;clear hK K
 refine AW_cond' rfl rfl (fun hc=>?_) (fun hc=>?_)
 · have g2:c.kind = 0:=by simpa using hc
   have hR:certR d c = (0,d.co):=by rw [certR,if_neg (by simp [hc0]),if_pos g2]
   repeat refine AW_seq ?_
   refine AW_reg [4] fun K hK=>?_
   simp [init_eq]
   apply hK;clear hK K
   obtain ⟨f1,f2⟩:=fin u1 hR
   exact AW_ret (end_ret rfl ⟨by rw [← f1]; rfl,f2⟩)
 have g2:¬ c.kind = 0:=by simpa using hc
 have hkind:c.kind = 1 ∨ c.kind = 2:=by
  have:=g
  unfold Cert.ok at this
  rw [if_neg g2] at this
  split at this
  · exact .inl (by assumption)
  · split at this
    · exact .inr (by assumption)
    · cases this
 refine AW_skip ?_
 repeat refine AW_seq ?_
 refine AW_reg [2,3,5,6] fun K hK=>?_
 have hlbk:aload Tryz.prog H' 3 (.p (some (H.next + 1,0,1))) = some (.i .i64 c.block):=by simp [aload,hp2]
 simp [init_eq,hll,afieldAddr,hlbk]
 refine ACalls.mono (rlawContent_ok H' hd1 c.block) fun r H2 ⟨pv,tv,hr,hb,u2⟩=>?_
 subst hr
 simp [astore,AH.get_new,V.cells]
 apply hK;clear hK K
 have hcE:contE d c = if (lawCont d.bk c.block).2 = 0 ∧ fitsB c (lawCont d.bk c.block).1 = false then 110 else (lawCont d.bk c.block).2:=rfl
 generalize lawCont d.bk c.block = y at *
 obtain ⟨b,e⟩:=y
 simp only at hcE hb ⊢
 generalize hG3:AH.set _ H2.next _ = G
 have k5:G.get H2.next = some (.cells (b.cells pv tv) 0 false 0):=by
  rw [← hG3]; simp [AH.get_set]; first | exact splice_all rfl | done
 have ko:∀ j,j < H2.next → G.get j = H2.get j:=fun j hj=>by rw [← hG3,AH.get_set_ne (by omega),AH.get_new,if_neg (by omega)]
 have kn:G.next = H2.next + 1:=by rw [← hG3]; simp
 clear hG3
 have u3:Upd H2 G []:=⟨by omega,fun j hj _=>ko j hj⟩
 have u23:=u2.trans u3 (by simp)
 have uG:Upd H G []:=u1.trans u23 (by simp)
 have qp:=u23.keep (by simp) hp
 have qp2:=u23.keep (by simp) hp2
 have hdG:=hd.upd uG
 repeat refine AW_seq ?_
 refine AW_reg [2,3,5,6,22] fun K hK=>?_
 simp [init_eq]
 apply hK;clear hK K
 refine AW_cond' rfl rfl (fun hc=>?_) (fun hc=>?_)
 · have g3:¬ e = 0:=by simpa using hc
   have hE:contE d c = e:=by rw [hcE,if_neg (fun h=>g3 h.1)]
   have hR:certR d c = (e,d.co):=by rw [certR,if_neg (by simp [hc0]),if_neg g2,if_pos (by rw [hE]; exact g3),hE]
   repeat refine AW_seq ?_
   refine AW_reg [4] fun K hK=>?_
   simp [init_eq]
   apply hK;clear hK K
   obtain ⟨f1,f2⟩:=fin uG hR
   exact AW_ret (end_ret rfl ⟨by rw [← f1]; rfl,f2⟩)
 have g3:e = 0:=by simpa using hc
 subst g3
 refine AW_skip ?_
 repeat refine AW_seq ?_
 refine AW_regto [2,3,54] ⟨102,[(2,.p (some (H.next,0,0))),(3,.p (some (H.next + 1,0,0))),(54,.b (!fitsB c b))]⟩ G (fun K hk=>?_) ?_
 · have hfit:fitsB c b = (decide (b.view = c.view) && decide (b.round = c.round) && decide (b.height = c.height) && (!decide (c.kind = 2) || decide (b.author = c.author))):=by
     unfold fitsB
     have e1:decide (c.view = b.view) = decide (b.view = c.view):=decide_eq_decide.2 eq_comm
     have e2:decide (c.round = b.round) = decide (b.round = c.round):=decide_eq_decide.2 eq_comm
     have e3:decide (c.height = b.height) = decide (b.height = c.height):=decide_eq_decide.2 eq_comm
     have e4:decide (c.author = b.author) = decide (b.author = c.author):=decide_eq_decide.2 eq_comm
     have e5:decide (c.kind = 1) = !decide (c.kind = 2):=by rcases hkind with h | h <;> simp [h]
     rw [e1,e2,e3,e4,e5]
   rw [hfit] at hk
   by_cases q1:b.view = c.view
   · by_cases q2:b.round = c.round
     · by_cases q3:b.height = c.height
       · by_cases q4:c.kind = 2
         · simpa [init_eq,afieldAddr,aload,k5,qp2,q1,q2,q3,q4] using hk
         · simpa [init_eq,afieldAddr,aload,k5,qp2,q1,q2,q3,q4] using hk
       · simpa [init_eq,afieldAddr,aload,k5,qp2,q1,q2,q3] using hk
     · simpa [init_eq,afieldAddr,aload,k5,qp2,q1,q2] using hk
   · simpa [init_eq,afieldAddr,aload,k5,qp2,q1] using hk
 refine AW_cond' rfl rfl (fun hc=>?_) (fun hc=>?_)
 · have g3:fitsB c b = false:=by simpa using hc
   have hE:contE d c = 110:=by rw [hcE,if_pos ⟨rfl,g3⟩]
   have hR:certR d c = (110,d.co):=by rw [certR,if_neg (by simp [hc0]),if_neg g2,if_pos (by rw [hE]; decide),hE]
   repeat refine AW_seq ?_
   refine AW_reg [4] fun K hK=>?_
   simp [init_eq]
   apply hK;clear hK K
   obtain ⟨f1,f2⟩:=fin uG hR
   exact AW_ret (end_ret rfl ⟨by rw [← f1]; rfl,f2⟩)
 have g3:fitsB c b = true:=by simpa using hc
 have hE:contE d c = 0:=by rw [hcE,if_neg (fun h=>by rw [g3] at h; cases h.2)]
 have hR0:certR d c = if certE2 d c ≠ 0 then (certE2 d c,d.co) else endR d c:=by rw [certR,if_neg (by simp [hc0]),if_neg g2,if_neg (by simp [hE])]
 have hlcG:aload Tryz.prog G 29 (.p (some (H.next + 1,0,0))) = some (.agg c.cells):=by simp [aload,qp2,take_cells]
 obtain ⟨vs,Fs,e8,s2,s3,s4⟩:=hdG.sign
 have hlf:aload Tryz.prog G 3 (.p (some (js,0,0))) = some (.i .i64 d.f):=by simp [aload,s3]
 have hlj:aload Tryz.prog G 43 (.p (some (H.next,0,1))) = some (.p (some (js,0,0))):=by simp [aload,qp]
 have hlsg:aload Tryz.prog G 22 (.p (some (H.next + 1,0,6))) = some (u32 c.signers):=by simp [aload,qp2]
 have hljc:aload Tryz.prog G 44 (.p (some (H.next,0,2))) = some (.p (some (jc,0,0))):=by simp [aload,qp]
 refine AW_skip ?_
 repeat refine AW_seq ?_
 refine AW_regd [2,3,6] pl_29_10 pe_29_10 (by kernel_rfl) (by kernel_rfl) (by decide) fun K hK=>?_
 simp [init_eq,pl_29_10,afieldAddr,hlj,hlcG,hlf,hlsg]
 refine ACalls.mono (rstmt_ok ..) fun r G1 ⟨hr,e⟩=>⟨e ▸ AH.ext.refl _,?_⟩
 subst hr e
 refine ACalls.mono (rquorum_ok ..) fun r G2 ⟨hr,e⟩=>⟨e ▸ AH.ext.refl _,?_⟩
 subst hr e
 refine ACalls.mono (renough_ok G2 hdG.sign hdG.shl c.stm c.signers _) fun r G3 ⟨hr,e⟩=>⟨e ▸ AH.ext.refl _,?_⟩
 subst hr e
 try simp
 apply hK;clear hK K
 have hE2:enE d.f d.bad d.sh c.stm c.signers (qtimes 2 d.f) = certE2 d c:=rfl
 rw [hE2]
 have hen:c.endorsed = (decide (c.kind = 2) && !decide (c.coin = 0#32)):=rfl
 repeat refine AW_seq ?_
 refine AW_regto [2,3,6,79] ⟨102,[(2,.p (some (H.next,0,0))),(3,.p (some (H.next + 1,0,0))),(6,.i .i64 (certE2 d c)),(79,.b (decide (¬ certE2 d c = 0) || !c.endorsed))]⟩ G3 (fun K hk=>?_) ?_
 · by_cases q1:certE2 d c = 0
   · by_cases q2:c.kind = 1
     · simpa [init_eq,afieldAddr,aload,qp2,q1,q2,hen] using hk
     · have q3:c.kind = 2:=hkind.resolve_left q2
       by_cases q4:c.coin = 0#32
       · simpa [init_eq,afieldAddr,aload,qp2,q1,q2,q3,q4,hen] using hk
       · simpa [init_eq,afieldAddr,aload,qp2,q1,q2,q3,q4,hen] using hk
   · simpa [init_eq,q1] using hk
 refine AW_cond' rfl rfl (fun hc=>?_) (fun hc=>?_)
 · have g4:¬ certE2 d c = 0 ∨ c.endorsed = false:=by simpa using hc
   have hR:certR d c = (certE2 d c,d.co):=by
    rw [hR0]
    by_cases q:certE2 d c = 0
    · rw [if_neg (by simp [q]),q,endR,if_neg (by rw [g4.resolve_left (fun h=>h q)]; simp)]
    · rw [if_pos q]
   repeat refine AW_seq ?_
   refine AW_reg [4] fun K hK=>?_
   simp [init_eq]
   apply hK;clear hK K
   obtain ⟨f1,f2⟩:=fin uG hR
   exact AW_ret (end_ret rfl ⟨by rw [← f1]; rfl,f2⟩)
 have g4:certE2 d c = 0 ∧ c.endorsed = true:=by simpa using hc
 have hR:certR d c = endR d c:=by rw [hR0,if_neg (by simp [g4.1])]
 have hEnd:endR d c = (if (seeR d.f d.bad d.sh d.co c.view c.coin).2.1 = 0 ∧ (seeR d.f d.bad d.sh d.co c.view c.coin).1 ≠ c.author then 70 else (seeR d.f d.bad d.sh d.co c.view c.coin).2.1,(seeR d.f d.bad d.sh d.co c.view c.coin).2.2):=by rw [endR,if_pos g4.2]
 obtain ⟨gv,sn,c1,c2,c3,c4⟩:=hdG.coin
 have hlv:aload Tryz.prog G3 3 (.p (some (H.next + 1,0,2))) = some (.i .i64 c.view):=by simp [aload,qp2]
 have hlk:aload Tryz.prog G3 22 (.p (some (H.next + 1,0,7))) = some (u32 c.coin):=by simp [aload,qp2]
 refine AW_skip ?_
 repeat refine AW_seq ?_
 refine AW_reg [3,6,7] fun K hK=>?_
 simp [init_eq,afieldAddr,hlj,hljc,hlv,hlk]
 refine ACalls.mono (rsee_ok G3 c1 hdG.sign c2 hdG.shl c3 (by omega) c.view c.coin) fun r G4 ⟨hr,F',sn',z1,z2,z3,z4,z5⟩=>?_
 subst hr
 try simp
 apply hK;clear hK K
 have hGC:H.next + 1 ∉ GC:=fun h=>by have:=c1.lt _ h; have h2:=AH.get_lt hp2; have:=(hd.coin); obtain ⟨gv',sn',y1,_⟩:=this; have:=y1.lt _ h; omega
 have qp4:=z4.keep hGC qp2
 have hdone:RDone H G4 jb js jc GB GS GC { d with co:=(certR d c).2 } (n9 + 1):=by
  refine RDone.after uG ⟨F',⟨hdG.book.upd z4 fun j hj=>hdG.bc j hj,hdG.sign.upd z4 fun j hj=>hdG.sc j hj,⟨gv,sn',z1,by rw [hR,hEnd]; exact z2,c3,by omega⟩,hdG.bs,fun j hj hj'=>?_,fun j hj hj'=>?_,hdG.len,hdG.shl,hdG.txt⟩,z4,z5⟩
  · rcases z5 j hj' with h | h
    · exact hdG.bc j hj h
    · have:=hdG.book.lt j hj; omega
  · rcases z5 j hj' with h | h
    · exact hdG.sc j hj h
    · have:=hdG.sign.lt j hj; omega
 have hfinal:(certR d c).1 = if (seeR d.f d.bad d.sh d.co c.view c.coin).2.1 = 0 ∧ (seeR d.f d.bad d.sh d.co c.view c.coin).1 ≠ c.author then 70 else (seeR d.f d.bad d.sh d.co c.view c.coin).2.1:=by rw [hR,hEnd]
 generalize seeR d.f d.bad d.sh d.co c.view c.coin = w at *
 obtain ⟨who,e,co'⟩:=w
 simp only at hfinal ⊢
 repeat refine AW_seq ?_
 refine AW_regto [6,100] ⟨102,[(6,.i .i64 e),(100,.b (decide (e = 0 ∧ who ≠ c.author)))]⟩ G4 (fun K hk=>?_) ?_
 · by_cases q1:e = 0
   · by_cases q2:who = c.author
     · simpa [init_eq,afieldAddr,aload,qp4,q1,q2] using hk
     · simpa [init_eq,afieldAddr,aload,qp4,q1,q2] using hk
   · simpa [init_eq,q1] using hk
 refine AW_cond' rfl rfl (fun hc=>?_) (fun hc=>?_)
 · have q:e = 0 ∧ who ≠ c.author:=by simpa using hc
   repeat refine AW_seq ?_
   refine AW_reg [4] fun K hK=>?_
   simp [init_eq]
   apply hK;clear hK K
   exact AW_ret (end_ret rfl ⟨by rw [hfinal,if_pos q]; rfl,hdone⟩)
 · have q:¬ (e = 0 ∧ who ≠ c.author):=by simpa using hc
   refine AW_skip ?_
   repeat refine AW_seq ?_
   refine AW_reg [4] fun K hK=>?_
   simp [init_eq]
   apply hK;clear hK K
   exact AW_ret (end_ret rfl ⟨by rw [hfinal,if_neg q]; rfl,hdone⟩)
end Go.Proofs.YtmhaimdpfelkpaaGreatDoor
set_option linter.unusedVariables false
set_option linter.unusedSimpArgs false
namespace Go.Proofs.YtmhaimdpfelkpaaGreatDoor
open Go Go.Abs Go.Proofs
set_option maxRecDepth 100000
def Tmo.stm (t:Tmo):Stm:=⟨3,0,t.view,0,0,0,t.high.kind,t.high.block,t.high.view,t.high.round⟩
theorem Tmo.stm_cells (t:Tmo):t.stm.cells = t.signed:=rfl
/-- Is a timeout valid? What is known then. -/
def tmoR (d:RegD) (t:Tmo):Int × (Int → Tos) :=
 if t.ok = false then (121,d.co) else if cntsE d.f d.bad d.sh ⟨t.signer,t.stm⟩ ≠ 0 then (cntsE d.f d.bad d.sh ⟨t.signer,t.stm⟩,d.co) else certR d t.high
def RegD.set (d:RegD) (co:Int → Tos):RegD:={ d with co:=co }
/-- The first that isn't. -/
def tmosR:RegD → List Tmo → Int × (Int → Tos)
 | d,[]=>(0,d.co)
 | d,t :: ts=>if (tmoR d t).1 ≠ 0 then tmoR d t else tmosR (d.set (tmoR d t).2) ts
/-- Of one view, and rising? -/
def ordB (view:Int) (ps:List Tmo):Bool:=(List.range ps.length).all fun i=>(match ps[i]? with | some t=>decide (t.view = view) | none=>true) && sgnAt ps i
def proofR (d:RegD) (view:Int) (ps:List Tmo):Int × (Int → Tos) :=
 if ordB view ps = false then (121,d.co) else if (tmosR d ps).1 ≠ 0 then tmosR d ps else (if (ps.length:Int) < qtimes 2 d.f then 61 else 0,(tmosR d ps).2)
def highR:List Tmo → Cert
 | []=>Cert.zero
 | t :: ts=>ts.foldl (fun c t=>maxC c t.high) t.high
theorem ordB_stop {view:Int} {ps:List Tmo} {i:Nat} (hi:i < ps.length) (h:(decide (ps[i].view = view) && sgnAt ps i) = false):ordB view ps = false:=by
 unfold ordB
 rw [← Bool.not_eq_true,List.all_eq_true]
 intro hx
 have:=hx i (List.mem_range.2 hi)
 rw [List.getElem?_eq_getElem hi] at this
 simp only at this
 rw [this] at h; cases h
theorem ordB_all {view:Int} {ps:List Tmo} (h:∀ i (hi:i < ps.length),(decide (ps[i].view = view) && sgnAt ps i) = true):ordB view ps = true:=by
 unfold ordB
 rw [List.all_eq_true]
 intro i hi
 have hi:=List.mem_range.1 hi
 rw [List.getElem?_eq_getElem hi]
 exact h i hi
theorem tmosR_snoc (d:RegD) (ts:List Tmo):∀ (k:Nat) (hk:k < ts.length),(tmosR d (ts.take k)).1 = 0 → tmosR d (ts.take (k + 1)) = tmoR (d.set (tmosR d (ts.take k)).2) ts[k]:=by
 intro k hk
 induction k generalizing d ts with
 | zero =>
   intro _
   rcases ts with _ | ⟨t,ts⟩
   · simp at hk
   · simp only [List.take_zero,List.take_succ_cons,tmosR,List.getElem_cons_zero]
     have:d.set d.co = d:=rfl
     rw [this]
     by_cases h:(tmoR d t).1 = 0
     · rw [if_neg (not_not_intro h)]
       have:tmoR d t = ((tmoR d t).1,(tmoR d t).2):=rfl
       rw [this,h]; rfl
     · rw [if_pos h]
 | succ k ih =>
   rcases ts with _ | ⟨t,ts⟩
   · simp at hk
   · intro h
     simp only [List.take_succ_cons,tmosR,List.getElem_cons_succ] at h ⊢
     by_cases h0:(tmoR d t).1 = 0
     · rw [if_neg (not_not_intro h0)] at h ⊢
       rw [if_neg (not_not_intro h0)]
       exact ih (d.set (tmoR d t).2) ts (by simpa using hk) h
     · rw [if_pos h0] at h; exact absurd h h0
theorem tmosR_bad (d:RegD) (ts:List Tmo):∀ (k:Nat),k ≤ ts.length → (tmosR d (ts.take k)).1 ≠ 0 → tmosR d ts = tmosR d (ts.take k):=by
 intro k hk
 induction k generalizing d ts with
 | zero=>intro h; simp [tmosR] at h
 | succ k ih =>
   rcases ts with _ | ⟨t,ts⟩
   · simp at hk
   · intro h
     simp only [List.take_succ_cons,tmosR] at h ⊢
     by_cases h0:(tmoR d t).1 = 0
     · rw [if_neg (not_not_intro h0)] at h ⊢
       rw [if_neg (not_not_intro h0)]
       exact ih (d.set (tmoR d t).2) ts (by simpa using hk) h
     · rw [if_pos h0,if_pos h0]
theorem cmpC_self (c:Cert):cmpC c c = 0:=by rw [cmpC_def]; simp
theorem maxC_self (c:Cert):maxC c c = c:=by rw [maxC,cmpC_self]; rfl
theorem highR_succ (ps:List Tmo) (k:Nat) (hk:k < ps.length) (h0:0 < k):highR (ps.take (k + 1)) = maxC (highR (ps.take k)) ps[k].high:=by
 rcases ps with _ | ⟨t,ts⟩
 · simp at hk
 · obtain ⟨k,rfl⟩:∃ j,k = j + 1:=⟨k - 1,by omega⟩
   have hk':k < ts.length:=by simpa using hk
   simp only [List.take_succ_cons,highR,List.getElem_cons_succ]
   rw [List.take_succ_eq_append_getElem hk',List.foldl_append]; rfl
theorem highR_one (ps:List Tmo) (hk:0 < ps.length):highR (ps.take 1) = ps[0].high:=by
 rcases ps with _ | ⟨t,ts⟩
 · simp at hk
 · rfl
end Go.Proofs.YtmhaimdpfelkpaaGreatDoor
set_option linter.unusedVariables false
set_option linter.unusedSimpArgs false
namespace Go.Proofs.YtmhaimdpfelkpaaGreatDoor
open Go Go.Abs Go.Proofs
set_option maxRecDepth 100000
attribute [local irreducible] AEnd AW ACalls
theorem tmo_0 (t:Tmo):t.cells[0]? = some (.i .i64 t.signer):=rfl
theorem tmo_1 (t:Tmo):t.cells[1]? = some (.i .i64 t.view):=rfl
theorem rlawTimeout_ok (H:AH) {jb js jc:Nat} {GB GS GC:List Nat} {d:RegD} {n9:Nat} (hd:RLaw H jb js jc GB GS GC d n9) (h9:n9 ≤ 9000) (t:Tmo):ACalls Tryz.prog 30 [.agg (lawV jb js jc),.agg t.cells] H fun r H' =>
  r = .i .i64 (tmoR d t).1 ∧ RDone H H' jb js jc GB GS GC (d.set (tmoR d t).2) (n9 + 1):=by
 refine ACalls_body Tryz.func30 rfl rfl ?_
 repeat refine AW_seq ?_
 refine AW_reg [2,3] fun K hK=>?_
 simp [init_eq,V.cells]
 obtain ⟨H1,e1,hp,hp2,hn,ho⟩:=H.boxed2 (lawV jb js jc) t.cells
 rw [e1]
 apply hK;clear hK K
 have u1:Upd H H1 []:=⟨by omega,fun j hj _=>ho j hj⟩
 have hd1:=hd.upd u1
 have hlt:aload Tryz.prog H1 69 (.p (some (H.next + 1,0,0))) = some (.agg t.cells):=by simp [aload,hp2,tmo_take]
 have hll:aload Tryz.prog H1 46 (.p (some (H.next,0,0))) = some (.agg (lawV jb js jc)):=by simp [aload,hp]
 have hlj:aload Tryz.prog H1 43 (.p (some (H.next,0,1))) = some (.p (some (js,0,0))):=by simp [aload,hp]
 have hls:aload Tryz.prog H1 3 (.p (some (H.next + 1,0,0))) = some (.i .i64 t.signer):=by simp [aload,hp2]
 have hlh:aload Tryz.prog H1 29 (.p (some (H.next + 1,0,2))) = some (.agg t.high.cells):=by simp [aload,hp2,Tmo.high_cells]
 have fin:∀ {e:Int},tmoR d t = (e,d.co) → e = (tmoR d t).1 ∧ RDone H H1 jb js jc GB GS GC (d.set (tmoR d t).2) (n9 + 1):=fun h=>by
  rw [h]
  exact ⟨rfl,RDone.after u1 (RDone.refl (hd1.more (by omega)))⟩
 repeat refine AW_seq ?_
 refine AW_reg [2,3,8] fun K hK=>?_
 simp [init_eq,hlt]
 refine ACalls.mono (rtimeout_ok H1 t) fun r H' ⟨hr,e⟩=>?_
 subst hr e
 try simp
 apply hK;clear hK K
 refine AW_cond' rfl rfl (fun hc=>?_) (fun hc=>?_)
 · have g:t.ok = false:=by simpa using hc
   obtain ⟨f1,f2⟩:=fin (e:=121) (by rw [tmoR,if_pos g])
   repeat refine AW_seq ?_
   refine AW_reg [4] fun K hK=>?_
   simp [init_eq]
   apply hK;clear hK K
   exact AW_ret (end_ret rfl ⟨by rw [← f1]; rfl,f2⟩)
 have g:¬ t.ok = false:=by intro h; rw [h] at hc; simp at hc
 have hab:abuild Tryz.prog 60 [(0,.i .i64 t.signer),(1,.agg t.signed)] = some (.agg (Shr.cells ⟨t.signer,t.stm⟩)):=by
  rw [← Tmo.stm_cells]
  simp [abuild,afill,V.cells,splice_zero,splice_succ,Stm.cells,Shr.cells,splice]
 refine AW_skip ?_
 repeat refine AW_seq ?_
 refine AW_regd [2,3,5] pl_30_3 pe_30_3 (by kernel_rfl) (by kernel_rfl) (by decide) fun K hK=>?_
 simp [init_eq,pl_30_3,afieldAddr,hlj,hls,hlt]
 refine ACalls.mono (rsigned_ok ..) fun r G1 ⟨hr,e⟩=>⟨e ▸ AH.ext.refl _,?_⟩
 subst hr e
 simp [hab]
 refine ACalls.mono (rcounts_ok G1 hd1.sign hd1.shl _) fun r G2 ⟨hr,e⟩=>?_
 subst hr e
 try simp
 apply hK;clear hK K
 repeat refine AW_seq ?_
 refine AW_reg [2,3,5,18] fun K hK=>?_
 simp [init_eq]
 apply hK;clear hK K
 refine AW_cond' rfl rfl (fun hc=>?_) (fun hc=>?_)
 · have g2:¬ cntsE d.f d.bad d.sh ⟨t.signer,t.stm⟩ = 0:=by simpa using hc
   obtain ⟨f1,f2⟩:=fin (e:=cntsE d.f d.bad d.sh ⟨t.signer,t.stm⟩) (by rw [tmoR,if_neg g,if_pos g2])
   repeat refine AW_seq ?_
   refine AW_reg [4] fun K hK=>?_
   simp [init_eq]
   apply hK;clear hK K
   exact AW_ret (end_ret rfl ⟨by rw [← f1]; rfl,f2⟩)
 · have g2:¬ cntsE d.f d.bad d.sh ⟨t.signer,t.stm⟩ ≠ 0:=by simpa using hc
   have hR:tmoR d t = certR d t.high:=by rw [tmoR,if_neg g,if_neg g2]
   refine AW_skip ?_
   repeat refine AW_seq ?_
   refine AW_reg [4] fun K hK=>?_
   simp [init_eq,hll,afieldAddr,hlh]
   refine ACalls.mono (rlawCert_ok G2 hd1 h9 t.high) fun r G3 ⟨hr,hD⟩=>?_
   subst hr
   try simp
   apply hK;clear hK K
   exact AW_ret (end_ret rfl ⟨by rw [hR]; rfl,RDone.after u1 (by rw [hR]; exact hD)⟩)
/-- A list that lies outside. -/
def OutS (v:V) (F:List Nat):Prop:=∀ id g o l b,v = .sl (some (id,g,o)) l b → id ∉ F
theorem rsOut {H H':AH} {v:V} {sz:Nat} {ls:List (List V)} {F:List Nat} (h:RS H v sz ls) (hu:Upd H H' F) (ho:OutS v F):RS H' v sz ls:=by
 refine ⟨h.1,?_⟩
 rcases h.2 with h2 | ⟨id,g,off,c,ro,esz,r1,r2,r⟩
 · exact .inl h2
 · exact .inr ⟨id,g,off,c,ro,esz,r1,hu.keep (ho _ _ _ _ _ r1) r2,r⟩
theorem rlawProof_ok (H:AH) {jb js jc:Nat} {GB GS GC:List Nat} {d:RegD} {n9:Nat} (hd:RLaw H jb js jc GB GS GC d n9) {v:V} {ps:List Tmo} (hps:RS H v 10 (ps.map Tmo.cells)) (hout:OutS v GC) (hl:ps.length ≤ 1000) (h9:n9 + ps.length ≤ 9000) (view:Int) :
  ACalls Tryz.prog 32 [.agg (lawV jb js jc),.i .i64 view,v] H fun r H'=>r = .i .i64 (proofR d view ps).1 ∧ RDone H H' jb js jc GB GS GC (d.set (proofR d view ps).2) (n9 + ps.length):=by
 refine ACalls_body Tryz.func32 rfl rfl ?_
 repeat refine AW_seq ?_
 refine AW_reg [1,2,3] fun K hK=>?_
 simp [init_eq,V.cells]
 obtain ⟨H1,e1,hp,hn,ho⟩:=H.boxed (lawV jb js jc)
 rw [e1]
 apply hK;clear hK K
 have u1:Upd H H1 []:=⟨by omega,fun j hj _=>ho j hj⟩
 have hd1:=hd.upd u1
 have hps1:=hps.same ho
 have lx:∀ G:AH,alen Tryz.prog G 30 v = some (.i .i64 ps.length):=fun G=>hps1.alen (P:=Tryz.prog) qelem_30 G
 repeat refine AW_seq ?_
 refine AW_reg [1,2,3,7] fun K hK=>?_
 simp [init_eq]
 apply hK;clear hK K
 refine AW_block ?_
 refine AW_loop0 (fun i:Nat=>⟨65,[(1,.i .i64 view),(2,v),(3,.p (some (H.next,0,0))),(7,.i .i64 i)]⟩) (fun i=>i ≤ ps.length ∧ ∀ j (hj:j < ps.length),j < i → (decide (ps[j].view = view) && sgnAt ps j) = true) (fun i=>ps.length - i) 0 (by simp) (by simp) (by dsimp only; omega) fun hw i hM=>?_
 repeat refine AW_seq ?_
 refine AW_reg [1,2,3,7,13] fun K hK=>?_
 simp [init_eq,lx]
 apply hK;clear hK K
 refine AW_cond' rfl rfl (fun hc=>?_) (fun hc=>?_)
 · have hi:i < ps.length:=by simpa using hc
   obtain ⟨ai,av,pi,pv,qv⟩:=hps1.fld (f:=Tmo.cells) (sz:=10) (P:=Tryz.prog) (fun _=>rfl) (by decide) qelem_30 qsize_69 hi qfield_69_1 qagg_3 qsize_3 (tmo_1 _)
   obtain ⟨ai',as',pi',ps',qs⟩:=hps1.fld (f:=Tmo.cells) (sz:=10) (P:=Tryz.prog) (fun _=>rfl) (by decide) qelem_30 qsize_69 hi qfield_69_0 qagg_3 qsize_3 (tmo_0 _)
   obtain rfl:ai' = ai:=by rw [pi] at pi'; cases pi'; rfl
   refine AW_skip ?_
   repeat refine AW_seq ?_
   refine AW_block ?_
   repeat refine AW_seq ?_
   refine AW_regdto [1,2,3,7,40] pl_32_4 pe_32_4 ⟨65,[(1,.i .i64 view),(2,v),(3,.p (some (H.next,0,0))),(7,.i .i64 i),(40,.b (!(decide (ps[i].view = view) && sgnAt ps i)))]⟩ H1 (by kernel_rfl) (by kernel_rfl) (by decide) (fun K hk=>?_) ?_
   · by_cases g1:ps[i].view = view
     · by_cases g2:i = 0
       · have g3:¬ 0 < i:=by omega
         rw [sgnAt_zero ps g2] at hk
         simpa [init_eq,pl_32_4,pi,pv,qv,g1,g3] using hk
       · have g3:0 < i:=by omega
         rw [sgnAt_pos g2 hi] at hk
         obtain ⟨aj,au,pj,pu,qu⟩:=hps1.fld (f:=Tmo.cells) (sz:=10) (P:=Tryz.prog) (i:=i - 1) (fun _=>rfl) (by decide) qelem_30 qsize_69 (by omega) qfield_69_0 qagg_3 qsize_3 (tmo_0 _)
         have hcast:((i - 1:Nat):Int) = (i:Int) - 1:=by omega
         rw [hcast] at pj
         generalize (ps[i - 1]'(by omega)).signer = x at *
         generalize ps[i].signer = y at *
         have hxy:decide (y ≤ x) = !decide (x < y):=by rw [← decide_not]; exact decide_eq_decide.2 (by omega)
         simpa [init_eq,pl_32_4,pi,pv,qv,ps',qs,g1,g3,wrap_id (x:=(i:Int) - 1) (by omega) (by omega),pj,pu,qu,hxy] using hk
     · simpa [init_eq,pl_32_4,pi,pv,qv,g1] using hk
   refine AW_cond' rfl rfl (fun hc=>?_) (fun hc=>?_)
   · have g:(decide (ps[i].view = view) && sgnAt ps i) = false:=by
       have hc2:(!(decide (ps[i].view = view) && sgnAt ps i)) = true:=hc
       cases h:(decide (ps[i].view = view) && sgnAt ps i) with
       | false=>rfl
       | true=>rw [h] at hc2; cases hc2
     have hR:proofR d view ps = (121,d.co):=by rw [proofR,if_pos (ordB_stop hi g)]
     repeat refine AW_seq ?_
     refine AW_reg [6] fun K hK=>?_
     simp [init_eq]
     apply hK;clear hK K
     exact AW_ret (end_ret rfl ⟨by rw [hR]; rfl,by rw [hR]; exact RDone.after u1 (RDone.refl (hd1.more (by omega)))⟩)
   · have g:(decide (ps[i].view = view) && sgnAt ps i) = true:=by
       have hc2:(!(decide (ps[i].view = view) && sgnAt ps i)) = false:=hc
       cases h:(decide (ps[i].view = view) && sgnAt ps i) with
       | false=>rw [h] at hc2; cases hc2
       | true=>rfl
     refine AW_skip ?_
     refine AW_reg [1,2,3,7] fun K hK=>?_
     simp [init_eq,wrap_id (x:=(i:Int) + 1) (by omega) (by omega)]
     apply hK;clear hK K
     exact rend ⟨i + 1,by simp,⟨by omega,fun j hj hj'=>(Nat.lt_or_eq_of_le (Nat.le_of_lt_succ hj')).elim (fun h=>hM.2 j hj h) (fun h=>by subst h; exact g)⟩,by omega,.inl rfl⟩
 have hi : i = ps.length := by have := hM.1
                               have:¬ i < ps.length:=by simpa using hc
                               omega
 have hord:ordB view ps = true:=ordB_all fun j hj=>hM.2 j hj (by omega)
 clear hc
 refine AW_exit (then_exit (then_exit (block_here ?_)))
 repeat refine AW_seq ?_
 refine AW_reg [2,3,8] fun K hK=>?_
 simp [init_eq]
 apply hK;clear hK K
 refine AW_block ?_
 refine AW_loopx (fun i:Nat=>⟨65,[(2,v),(3,.p (some (H.next,0,0))),(8,.i .i64 i)]⟩) (fun i G=>i ≤ ps.length ∧ (tmosR d (ps.take i)).1 = 0 ∧ Upd H1 G GC ∧ ∃ GC',RLaw G jb js jc GB GS GC' (d.set (tmosR d (ps.take i)).2) (n9 + i) ∧ ∀ j ∈ GC',j ∈ GC ∨ H1.next ≤ j) (fun i=>ps.length - i) 0 (by simp) ⟨by simp,rfl,Upd.refl ..,GC,hd1,fun j hj=>.inl hj⟩ fun i G hM=>?_
 obtain ⟨hi0,hz,uG,GC',hL,hGC⟩:=hM
 have hcl:=hd.coin
 obtain ⟨gv,sn,cc1,_⟩:=hcl
 have hbox:H.next ∉ GC:=fun h=>by have:=cc1.lt _ h; omega
 have hpG:=uG.keep hbox hp
 have hall:aload Tryz.prog G 46 (.p (some (H.next,0,0))) = some (.agg (lawV jb js jc)):=by simp [aload,hpG]
 repeat refine AW_seq ?_
 refine AW_reg [2,3,8,44] fun K hK=>?_
 simp [init_eq,lx]
 apply hK;clear hK K
 have hpsG:=rsOut hps1 uG hout
 refine AW_cond' rfl rfl (fun hc=>?_) (fun hc=>?_)
 · have hi:i < ps.length:=by simpa using hc
   have hsn:=tmosR_snoc d ps i hi hz
   obtain ⟨ax,px,qx⟩:=hpsG.rec (f:=Tmo.cells) (fun _=>rfl) (by decide) (P:=Tryz.prog) qelem_30 qsize_69 qagg_69 hi
   refine AW_skip ?_
   repeat refine AW_seq ?_
   refine AW_block ?_
   refine AW_seq ?_
   refine AW_regd [2,3,8,9] pl_32_9 pe_32_9 (by kernel_rfl) (by kernel_rfl) (by decide) fun K hK=>?_
   simp [init_eq,pl_32_9,hall,px,qx]
   refine ACalls.mono (rlawTimeout_ok G hL (by omega) ps[i]) fun r G2 ⟨hr,GC2,hL2,u2,hG2⟩=>?_
   subst hr
   rw [← hsn] at hL2 ⊢
   try simp
   apply hK;clear hK K
   have hbG:H.next ∉ GC':=fun h=>(hGC _ h).elim hbox (by omega)
   have uG2:Upd H1 G2 GC:=uG.trans u2 hGC
   have hG3:∀ j ∈ GC2,j ∈ GC ∨ H1.next ≤ j:=fun j hj=>(hG2 j hj).elim (hGC j) fun h=>.inr (Nat.le_trans uG.1 h)
   have hL3:RLaw G2 jb js jc GB GS GC2 (d.set (tmosR d (ps.take (i + 1))).2) (n9 + (i + 1)):=hL2
   repeat refine AW_seq ?_
   refine AW_reg [2,3,8,9,54] fun K hK=>?_
   simp [init_eq]
   apply hK;clear hK K
   refine AW_cond' rfl rfl (fun hc=>?_) (fun hc=>?_)
   · have g:(tmosR d (ps.take (i + 1))).1 ≠ 0:=by simpa using hc
     have hb:=tmosR_bad d ps (i + 1) (by omega) g
     have hR:proofR d view ps = tmosR d (ps.take (i + 1)):=by rw [proofR,if_neg (by simp [hord]),hb,if_pos g]
     repeat refine AW_seq ?_
     refine AW_reg [6] fun K hK=>?_
     simp [init_eq]
     apply hK;clear hK K
     exact AW_ret (end_ret rfl ⟨by rw [hR]; rfl,by rw [hR]; exact RDone.after u1 ⟨GC2,hL3.more (by omega),uG2,hG3⟩⟩)
   · have g:(tmosR d (ps.take (i + 1))).1 = 0:=by simpa using hc
     refine AW_skip ?_
     refine AW_reg [2,3,8] fun K hK=>?_
     simp [init_eq,wrap_id (x:=(i:Int) + 1) (by omega) (by omega)]
     apply hK;clear hK K
     exact rend ⟨i + 1,by simp,⟨by omega,g,uG2,GC2,hL3,hG3⟩,by omega⟩
 have hi : i = ps.length := by have : ¬ i < ps.length := by simpa using hc
                               omega
 subst hi
 rw [List.take_length] at hz hL
 obtain ⟨vs,Fs,e8,s2,s3,s4⟩:=hL.sign
 have hlj:aload Tryz.prog G 43 (.p (some (H.next,0,1))) = some (.p (some (js,0,0))):=by simp [aload,hpG]
 have hlf:aload Tryz.prog G 3 (.p (some (js,0,0))) = some (.i .i64 d.f):=by simp [aload,s3]; rfl
 have hR:proofR d view ps = (if (ps.length:Int) < qtimes 2 d.f then 61 else 0,(tmosR d ps).2):=by rw [proofR,if_neg (by simp [hord]),if_neg (by simp [hz])]
 have hfin:RDone H G jb js jc GB GS GC (d.set (proofR d view ps).2) (n9 + ps.length):=by rw [hR]; exact RDone.after u1 ⟨GC',hL,uG,hGC⟩
 refine AW_exit (then_exit (then_exit (block_here ?_)))
 repeat refine AW_seq ?_
 refine AW_reg [64] fun K hK=>?_
 simp [init_eq,lx,afieldAddr,hlj,hlf]
 refine ACalls.mono (rquorum_ok ..) fun r G2 ⟨hr,e⟩=>?_
 subst hr e
 try simp
 apply hK;clear hK K
 refine AW_cond' rfl rfl (fun hc=>?_) (fun hc=>?_)
 · have g:(ps.length:Int) < qtimes 2 d.f:=by simpa using hc
   repeat refine AW_seq ?_
   refine AW_reg [6] fun K hK=>?_
   simp [init_eq]
   apply hK;clear hK K
   exact AW_ret (end_ret rfl ⟨by rw [hR,if_pos g]; rfl,hfin⟩)
 · have g:¬ (ps.length:Int) < qtimes 2 d.f:=by simpa using hc
   refine AW_skip ?_
   repeat refine AW_seq ?_
   refine AW_reg [6] fun K hK=>?_
   simp [init_eq]
   apply hK;clear hK K
   exact AW_ret (end_ret rfl ⟨by rw [hR,if_neg g]; rfl,hfin⟩)
theorem rhighest_ok (H:AH) {v:V} {ps:List Tmo} (hps:RS H v 10 (ps.map Tmo.cells)) (hl:ps.length ≤ 1000):ACalls Tryz.prog 34 [v] H fun r H'=>r = .agg (highR ps).cells ∧ H' = H:=by
 refine ACalls.pure (Q:=fun r=>r = .agg (highR ps).cells) ⟨_,Tryz.func34,rfl,rfl⟩ ?_
 refine ACalls_body Tryz.func34 rfl rfl ?_
 have hz:abuild Tryz.prog 29 [] = some (.agg Cert.zero.cells):=by first | (simp [abuild,afill]; done) | (simp [abuild,afill]; rfl)
 refine AW_seq ?_
 refine AW_reg [0,2] fun K hK=>?_
 simp [init_eq,V.cells]
 obtain ⟨H1,e1,hp,hn,ho⟩:=H.boxed Cert.zero.cells
 apply hK;clear hK K
 show AThen _ _ _ _ (H.new (O.cells Cert.zero.cells 0 false 0))
 rw [e1]
 have hps1:=hps.same ho
 have lx:∀ G:AH,alen Tryz.prog G 30 v = some (.i .i64 ps.length):=fun G=>hps1.alen (P:=Tryz.prog) qelem_30 G
 refine AW_seq ?_
 refine AW_seq ?_
 refine AW_reg [0,2,7] fun K hK=>?_
 simp [init_eq,lx]
 apply hK;clear hK K
 have hst:∀ (G:AH) (c:Cert),G.get H.next = some (.cells Cert.zero.cells 0 false 0) → astore Tryz.prog G 29 (.p (some (H.next,0,0))) (.agg c.cells) = some (G.set H.next (.cells c.cells 0 false 0)):=fun G c h=>by simp [astore,h,V.cells,show splice Cert.zero.cells 0 c.cells = c.cells from rfl]
 have hend:∀ (G:AH) (c:Cert) (ρ:Env),G.get H.next = some (.cells Cert.zero.cells 0 false 0) → (∀ j,j < H.next → G.get j = H.get j) → ρ.get 2 = .p (some (H.next,0,0)) → c = highR ps → AEnd Tryz.prog Tryz.f34 (fun r H'=>r = .agg (highR ps).cells ∧ V.lt H.next r = true ∧ H.next ≤ H'.next ∧ ∀ j,j < H.next → H'.get j = H.get j) .ret ρ (G.set H.next (.cells c.cells 0 false 0)):=fun G c ρ hg ho h1 h2 =>
  end_ret (ares_cell (v:=.agg c.cells) (by rw [h1]; simp [aload,AH.get_set,AH.get_lt hg,take_cells])) ⟨by rw [h2],rfl,by have:=AH.get_lt hg; simp; omega,fun j hj=>by rw [AH.get_set_ne (by omega)]; exact ho j hj⟩
 refine AW_cond' rfl rfl (fun hc=>?_) (fun hc=>?_)
 · have g:ps = []:=by simpa using hc
   refine AW_seq ?_
   refine AW_reg [2] fun K hK=>?_
   simp [init_eq,hz,hst _ _ hp]
   apply hK;clear hK K
   exact AW_ret (hend _ _ _ hp ho rfl (by rw [g]; rfl))
 have g:0 < ps.length:=by
  have:¬ ps = []:=by simpa using hc
  exact List.length_pos_iff.2 this
 clear hc
 obtain ⟨a0,p0,r0⟩:=hps1.at (P:=Tryz.prog) (t:=30) (by decide) qelem_30 qsize_69 (k:=.i64) 0 (l:=ps[0].cells) (by simp [g])
 have hfld:∀ {G:AH} {a:V} {t:Tmo},Rec G a t.cells → ∃ a',afieldAddr Tryz.prog 69 2 a = some a' ∧ aload Tryz.prog G 29 a' = some (.agg t.high.cells):=fun {G a t} h=>by
  obtain ⟨id,gg,off,c,ro,esz,rfl,h1,h2,h3⟩:=h
  have hl10:t.cells.length = 10:=rfl
  rw [hl10] at h2 h3
  refine ⟨.p (some (id,gg,off + 2)),by simp [afieldAddr],?_⟩
  have e:(c.drop (off + 2)).take 8 = t.high.cells:=by
   rw [← Tmo.high_cells,← h2]; simp [List.drop_take,List.take_take,List.drop_drop,Nat.add_comm]
  simp only [aload,h1,if_true,qagg_29,qsize_29]
  rw [if_pos (by omega),e]
 obtain ⟨a0',f0,q0⟩:=hfld r0
 refine AW_skip ?_
 refine AW_seq ?_
 refine AW_reg [0,2,3] fun K hK=>?_
 obtain ⟨H2,e2,hp2,hn2,ho2⟩:=AH.boxedS H1 Cert.zero.cells ps[0].high.cells
 have hix:aindexAddr Tryz.prog 30 v (.i .i64 0) = some a0:=p0
 simp [init_eq,hix,f0,q0,V.cells,astore,AH.get_new]
 apply hK;clear hK K
 show AThen _ _ _ _ ((H1.new (O.cells Cert.zero.cells 0 false 0)).set H1.next (O.cells ps[0].high.cells 0 false 0))
 rw [e2]
 have hoo:∀ j,j < H.next → H2.get j = H.get j:=fun j hj=>by rw [ho2 j (by omega),ho j hj]
 have hpz:H2.get H.next = some (.cells Cert.zero.cells 0 false 0):=by rw [ho2 _ (by omega)]; exact hp
 refine AW_seq ?_
 refine AW_seq ?_
 refine AW_reg [0,2,3,4] fun K hK=>?_
 simp [init_eq]
 apply hK;clear hK K
 refine AW_block ?_
 refine AW_loopx (fun i:Nat=>⟨27,[(0,v),(2,.p (some (H.next,0,0))),(3,.p (some (H1.next,0,0))),(4,.i .i64 i)]⟩) (fun i G=>1 ≤ i ∧ i ≤ ps.length ∧ G.get H1.next = some (.cells (highR (ps.take i)).cells 0 false 0) ∧ ∀ j,j < H1.next → G.get j = H1.get j) (fun i=>ps.length - i) 1 (by simp) ⟨by omega,by omega,by rw [highR_one ps g]; exact hp2,ho2⟩ fun i G hM=>?_
 obtain ⟨hi1,hi2,hc1,hoG⟩:=hM
 have hpsG:=hps1.same hoG
 refine AW_seq ?_
 refine AW_seq ?_
 refine AW_reg [0,2,3,4,16] fun K hK=>?_
 simp [init_eq,lx]
 apply hK;clear hK K
 refine AW_cond' rfl rfl (fun hc=>?_) (fun hc=>?_)
 · have hi:i < ps.length:=by simpa using hc
   obtain ⟨ai,pi,ri⟩:=hpsG.at (P:=Tryz.prog) (t:=30) (by decide) qelem_30 qsize_69 (k:=.i64) i (l:=ps[i].cells) (by simp [hi])
   obtain ⟨ai',fi,qi⟩:=hfld ri
   have hlc:aload Tryz.prog G 29 (.p (some (H1.next,0,0))) = some (.agg (highR (ps.take i)).cells):=by simp [aload,hc1,take_cells]
   have hsc:=highR_succ ps i hi hi1
   have hst2:∀ c:Cert,astore Tryz.prog G 29 (.p (some (H1.next,0,0))) (.agg c.cells) = some (G.set H1.next (.cells c.cells 0 false 0)):=fun c=>by simp [astore,hc1,V.cells,show splice (highR (ps.take i)).cells 0 c.cells = c.cells from rfl]
   refine AW_skip ?_
   refine AW_seq ?_
   refine AW_block ?_
   refine AW_regd [0,2,3,4] pl_34_7 pe_34_7 (by kernel_rfl) (by kernel_rfl) (by decide) fun K hK=>?_
   simp [init_eq,pl_34_7,hlc,pi,fi,qi]
   refine ACalls.mono (rmax_ok G _ _) fun r G2 ⟨hr,e⟩=>?_
   subst hr e
   rw [← hsc]
   simp [hst2]
   apply hK;clear hK K
   refine bend (rend ?_)
   refine AW_reg [0,2,3,4] fun K hK=>?_
   simp [init_eq,wrap_id (x:=(i:Int) + 1) (by omega) (by omega)]
   apply hK;clear hK K
   exact rend ⟨i + 1,by simp,⟨by omega,by omega,AH.get_set_same (AH.get_lt hc1),fun j hj=>by rw [AH.get_set_ne (by omega)]; exact hoG j hj⟩,by omega⟩
 have hi : i = ps.length := by have : ¬ i < ps.length := by simpa using hc
                               omega
 subst hi
 rw [List.take_length] at hc1
 have hlc:aload Tryz.prog G 29 (.p (some (H1.next,0,0))) = some (.agg (highR ps).cells):=by simp [aload,hc1,take_cells]
 have hpG:G.get H.next = some (.cells Cert.zero.cells 0 false 0):=by rw [hoG _ (by omega)]; exact hp
 refine AW_exit (then_exit (then_exit (block_here ?_)))
 refine AW_seq ?_
 refine AW_reg [2] fun K hK=>?_
 simp [init_eq,hlc,hst _ _ hpG]
 apply hK;clear hK K
 exact AW_ret (hend _ _ _ hpG (fun j hj=>by rw [hoG j (by omega),ho j hj]) rfl rfl)
end Go.Proofs.YtmhaimdpfelkpaaGreatDoor
set_option linter.unusedVariables false
set_option linter.unusedSimpArgs false
namespace Go.Proofs.YtmhaimdpfelkpaaGreatDoor
open Go Go.Abs Go.Proofs
set_option maxRecDepth 100000
attribute [local irreducible] AEnd AW ACalls
end Go.Proofs.YtmhaimdpfelkpaaGreatDoor
set_option linter.unusedVariables false
set_option linter.unusedSimpArgs false
namespace Go.Proofs.YtmhaimdpfelkpaaGreatDoor
open Go Go.Abs Go.Proofs
set_option maxRecDepth 100000
attribute [local irreducible] AEnd AW ACalls
theorem tmoF1_ok (H:AH) {j:Nat} {t:Tmo} (hj:H.get j = some (.cells t.cells 0 false 0)):ACalls Tryz.prog 85 [.p (some (j,0,0))] H fun r H'=>r = .i .i64 (if t.ok then 0 else 121) ∧ H' = H:=by
 have hl:aload Tryz.prog H 69 (.p (some (j,0,0))) = some (.agg t.cells):=by simp [aload,hj,tmo_take]
 refine ACalls_body Tryz.func85 rfl rfl ?_
 repeat refine AW_seq ?_
 refine AW_reg [0] fun K hK=>?_
 simp [init_eq]
 apply hK;clear hK K
 repeat refine AW_seq ?_
 refine AW_reg [1] fun K hK=>?_
 simp [init_eq,hl]
 refine ACalls.mono (btimeout_ok H t) fun r G ⟨hr,e⟩=>?_
 subst hr e
 try simp
 apply hK;clear hK K
 exact AW_ret (end_ret rfl ⟨rfl,rfl⟩)
theorem tmoF2_ok (H:AH) {ib is ic:Nat} {FB FS FC:List Nat} {d:RegD} (hd:LawAt H ib is ic FB FS FC d) {i j:Nat} {t:Tmo} (hi:H.get i = some (.cells (lawV ib is ic) 0 false 0)) (hj:H.get j = some (.cells t.cells 0 false 0)) :
  ACalls Tryz.prog 87 [.p (some (i,0,0)),.p (some (j,0,0))] H fun r H'=>r = .i .i64 (cntsE d.f d.bad d.sh ⟨t.signer,t.stm⟩) ∧ H' = H:=by
 have hl:aload Tryz.prog H 69 (.p (some (j,0,0))) = some (.agg t.cells):=by simp [aload,hj,tmo_take]
 have hls:aload Tryz.prog H 3 (.p (some (j,0,0))) = some (.i .i64 t.signer):=by simp [aload,hj]
 have hli:aload Tryz.prog H 38 (.p (some (i,0,1))) = some (.p (some (is,0,0))):=by simp [aload,hi]
 have hab:abuild Tryz.prog 60 [(0,.i .i64 t.signer),(1,.agg t.signed)] = some (.agg (Shr.cells ⟨t.signer,t.stm⟩)):=by
  rw [← Tmo.stm_cells]
  simp [abuild,afill,V.cells,splice_zero,splice_succ,Stm.cells,Shr.cells,splice]
 refine ACalls_body Tryz.func87 rfl rfl ?_
 repeat refine AW_seq ?_
 refine AW_reg [0,1] fun K hK=>?_
 simp [init_eq]
 apply hK;clear hK K
 repeat refine AW_seq ?_
 refine AW_regd [2] pl_87_1 pe_87_1 (by kernel_rfl) (by kernel_rfl) (by decide) fun K hK=>?_
 simp [init_eq,pl_87_1,afieldAddr,hli,hls,hl]
 refine ACalls.mono (bsigned_ok ..) fun r G1 ⟨hr,e⟩=>⟨e ▸ AH.ext.refl _,?_⟩
 subst hr e
 simp [hab]
 refine ACalls.mono (counts_ok G1 hd.sign _) fun r G2 ⟨hr,e⟩=>?_
 subst hr e
 try simp
 apply hK;clear hK K
 exact AW_ret (end_ret rfl ⟨rfl,rfl⟩)
theorem tmoF3_ok (H:AH) {ib is ic:Nat} {FB FS FC:List Nat} {d:RegD} (hd:LawAt H ib is ic FB FS FC d) {i j:Nat} {t:Tmo} (hi:H.get i = some (.cells (lawV ib is ic) 0 false 0)) (hj:H.get j = some (.cells t.cells 0 false 0)) :
  ACalls Tryz.prog 89 [.p (some (i,0,0)),.p (some (j,0,0))] H fun r H'=>r = .i .i64 (certR d t.high).1 ∧ LawAt H' ib is ic FB FS FC (d.set (certR d t.high).2) ∧ Upd H H' FC:=by
 have hl:aload Tryz.prog H 29 (.p (some (j,0,2))) = some (.agg t.high.cells):=by simp [aload,hj,Tmo.high_cells]
 have hli:aload Tryz.prog H 41 (.p (some (i,0,0))) = some (.agg (lawV ib is ic)):=by simp [aload,hi]
 refine ACalls_body Tryz.func89 rfl rfl ?_
 repeat refine AW_seq ?_
 refine AW_reg [0,1] fun K hK=>?_
 simp [init_eq]
 apply hK;clear hK K
 repeat refine AW_seq ?_
 refine AW_reg [2] fun K hK=>?_
 simp [init_eq,afieldAddr,hli,hl]
 refine ACalls.mono (lawCert_ok H hd t.high) fun r G2 ⟨hr,h1,h2⟩=>?_
 subst hr
 try simp
 apply hK;clear hK K
 exact AW_ret (end_ret rfl ⟨rfl,h1,h2⟩)
theorem lawTimeout_ok (H:AH) {ib is ic:Nat} {FB FS FC:List Nat} {d:RegD} (hd:LawAt H ib is ic FB FS FC d) (t:Tmo):ACalls Tryz.prog 28 [.agg (lawV ib is ic),.agg t.cells] H fun r H' =>
  r = .i .i64 (tmoR d t).1 ∧ LawAt H' ib is ic FB FS FC (d.set (tmoR d t).2) ∧ Upd H H' FC:=by
 refine ACalls_body Tryz.func28 rfl rfl ?_
 repeat refine AW_seq ?_
 refine AW_reg [2,3] fun K hK=>?_
 simp [init_eq,V.cells]
 obtain ⟨H1,e1,hp,hp2,hn,ho⟩:=H.boxed2 (lawV ib is ic) t.cells
 rw [e1]
 apply hK;clear hK K
 have u1:Upd H H1 []:=⟨by omega,fun j hj _=>ho j hj⟩
 have hd1:=hd.upd u1
 obtain ⟨G1,b1,b2,b3,b4⟩:=three_raw H1 (⟨85,[.p (some (H.next + 1,0,0))]⟩:FuncId × List V) ⟨87,[.p (some (H.next,0,0)),.p (some (H.next + 1,0,0))]⟩ ⟨89,[.p (some (H.next,0,0)),.p (some (H.next + 1,0,0))]⟩
 have uG:Upd H1 G1 []:=⟨by omega,fun j hj _=>b4 j hj⟩
 have hdG:=hd1.upd uG
 have q1:=uG.keep (by simp) hp
 have q2:=uG.keep (by simp) hp2
 have uH:=u1.trans uG (by simp)
 have hFC:H1.next ∉ FC:=fun h=>by have:=hd1.coin.lt _ h; omega
 have hT:tmoR d t = if t.ok = false then (121,d.co) else if cntsE d.f d.bad d.sh ⟨t.signer,t.stm⟩ ≠ 0 then (cntsE d.f d.bad d.sh ⟨t.signer,t.stm⟩,d.co) else certR d t.high:=rfl
 repeat refine AW_seq ?_
 refine AW_reg [4] fun K hK=>?_
 simp [init_eq,evs,b1]
 refine ACalls.mono (first_gen G1 (cs:=[(85,[.p (some (H.next + 1,0,0))]),(87,[.p (some (H.next,0,0)),.p (some (H.next + 1,0,0))]),(89,[.p (some (H.next,0,0)),.p (some (H.next + 1,0,0))])]) (by simp) (fun i G=>(i ≤ 2 ∧ G = G1 ∧ (1 ≤ i → ¬ t.ok = false) ∧ (2 ≤ i → ¬ cntsE d.f d.bad d.sh ⟨t.signer,t.stm⟩ ≠ 0)) ∨ (i = 3 ∧ (tmoR d t).1 = 0 ∧ LawAt G ib is ic FB FS FC (d.set (tmoR d t).2) ∧ Upd G1 G FC))
   (fun e G=>e = (tmoR d t).1 ∧ LawAt G ib is ic FB FS FC (d.set (tmoR d t).2) ∧ Upd G1 G FC) (.inl ⟨by simp,rfl,by simp,by simp⟩) (fun i G hG=>?_) fun i hi G hG=>?_) fun r G2 ⟨e,hr,he⟩=>?_
 · rcases hG with ⟨_,rfl,_⟩ | ⟨_,_,_,hu⟩
   · exact b2
   · exact rs_updF b2 hu rfl hFC
 · rcases hG with ⟨hi2,rfl,k1,k2⟩ | ⟨rfl,_⟩
   · rcases i with _ | _ | _ | i
     · refine ACalls.mono (tmoF1_ok G q2) fun r G' ⟨hr,hG⟩=>⟨_,hr,?_⟩
       subst hG
       cases h:t.ok with
       | true=>exact .inl ⟨rfl,.inl ⟨by omega,rfl,fun _=>by simp,by omega⟩⟩
       | false =>
         have hR:tmoR d t = (121,d.co):=by rw [hT,if_pos h]
         exact .inr ⟨by decide,by rw [hR]; rfl,by rw [hR]; exact hdG,Upd.refl ..⟩
     · refine ACalls.mono (tmoF2_ok G hdG q1 q2) fun r G' ⟨hr,hG⟩=>⟨_,hr,?_⟩
       subst hG
       have h1:=k1 (by omega)
       by_cases h:cntsE d.f d.bad d.sh ⟨t.signer,t.stm⟩ = 0
       · exact .inl ⟨h,.inl ⟨by omega,rfl,fun _=>h1,fun _=>not_not_intro h⟩⟩
       · have hR:tmoR d t = (cntsE d.f d.bad d.sh ⟨t.signer,t.stm⟩,d.co):=by rw [hT,if_neg h1,if_pos h]
         exact .inr ⟨h,by rw [hR],by rw [hR]; exact hdG,Upd.refl ..⟩
     · have h1:=k1 (by omega)
       have h2:=k2 (by omega)
       have hR:tmoR d t = certR d t.high:=by rw [hT,if_neg h1,if_neg h2]
       refine ACalls.mono (tmoF3_ok G hdG q1 q2) fun r G' ⟨hr,hL,hU⟩=>⟨_,hr,?_⟩
       by_cases h:(certR d t.high).1 = 0
       · exact .inl ⟨h,.inr ⟨rfl,by rw [hR]; exact h,by rw [hR]; exact hL,hU⟩⟩
       · exact .inr ⟨h,by rw [hR],by rw [hR]; exact hL,hU⟩
     · omega
   · simp at hi
 subst hr
 try simp
 apply hK;clear hK K
 rcases he with ⟨h0,hS⟩ | ⟨h0,hE,hL,hU⟩
 · rcases hS with ⟨hi2,_⟩ | ⟨_,h3,hL,hU⟩
   · simp at hi2
   · exact AW_ret (end_ret rfl ⟨by rw [h3,h0]; rfl,hL,(uH.mono (by simp):Upd H G1 FC).trans hU (fun j hj=>.inl hj)⟩)
 · exact AW_ret (end_ret rfl ⟨by rw [← hE]; rfl,hL,(uH.mono (by simp):Upd H G1 FC).trans hU (fun j hj=>.inl hj)⟩)
theorem highest_ok (H:AH) {v:V} {ps:List Tmo} (hps:RS H v 10 (ps.map Tmo.cells)) (hl:ps.length ≤ 1000):ACalls Tryz.prog 33 [v] H fun r H'=>r = .agg (highR ps).cells ∧ H' = H:=by
 refine ACalls.pure (Q:=fun r=>r = .agg (highR ps).cells) ⟨_,Tryz.func33,rfl,rfl⟩ ?_
 refine ACalls_body Tryz.func33 rfl rfl ?_
 refine AW_seq ?_
 refine AW_reg [0,2] fun K hK=>?_
 simp [init_eq,V.cells]
 obtain ⟨H1,e1,hp,hn,ho⟩:=H.boxed Cert.zero.cells
 apply hK;clear hK K
 show AThen _ _ _ _ (H.new (O.cells Cert.zero.cells 0 false 0))
 rw [e1]
 refine AW_seq ?_
 refine AW_reg [0,2,3] fun K hK=>?_
 simp [init_eq,V.cells]
 obtain ⟨H2,e2,hp2,hn2,ho2⟩:=H1.boxed Cert.zero.cells
 apply hK;clear hK K
 show AThen _ _ _ _ (H1.new (O.cells Cert.zero.cells 0 false 0))
 rw [e2]
 have hps1:RS H2 v 10 (ps.map Tmo.cells):=(hps.same ho).same ho2
 have hoo:∀ j,j < H.next → H2.get j = H.get j:=fun j hj=>by rw [ho2 j (by omega),ho j hj]
 have hpz:H2.get H.next = some (.cells Cert.zero.cells 0 false 0):=by rw [ho2 _ (by omega)]; exact hp
 have lx:∀ G:AH,alen Tryz.prog G 30 v = some (.i .i64 ps.length):=fun G=>hps1.alen (P:=Tryz.prog) qelem_30 G
 have hfld:∀ {G:AH} {i:Nat} {t:Tmo},G.get i = some (.cells t.cells 0 false 0) → aload Tryz.prog G 29 (.p (some (i,0,2))) = some (.agg t.high.cells):=fun {G i t} h=>by simp [aload,h,Tmo.high_cells]
 have hn1:H1.next = H.next + 1:=hn
 generalize hx:H1.next = x at *
 refine AW_seq ?_
 refine AW_seq ?_
 refine AW_reg [2,3,6,7,8] fun K hK=>?_
 simp [init_eq,lx]
 apply hK;clear hK K
 refine AW_block ?_
 refine AW_loopx (fun i:Nat=>⟨23,[(2,.p (some (H.next,0,0))),(3,.p (some (x,0,0))),(6,v),(7,.i .i64 ps.length),(8,.i .i64 i)]⟩) (fun i G=>i ≤ ps.length ∧ G.get x = some (.cells (highR (ps.take i)).cells 0 false 0) ∧ H2.next ≤ G.next ∧ ∀ j,j < H2.next → j ≠ x → G.get j = H2.get j) (fun i=>ps.length - i) 0 (by simp) ⟨by omega,hp2,Nat.le_refl _,fun _ _ _=>rfl⟩ fun i G hM=>?_
 obtain ⟨hi2,hc1,hnG,hoG⟩:=hM
 have hpsG:RS G v 10 (ps.map Tmo.cells):=by
  refine rsOut (F:=[x]) hps1 ⟨hnG,fun j hj hm=>hoG j hj (by simpa using hm)⟩ fun id g o l b e hm=>?_
  rcases hps.2 with ⟨c,e1,e2⟩ | ⟨id',g',off,c,ro,esz,r1,r2,r⟩
  · rw [e1] at e; cases e
  · rw [r1] at e; cases e; have:=AH.get_lt r2; simp at hm; omega
 refine AW_seq ?_
 refine AW_reg [2,3,6,7,8,9] fun K hK=>?_
 simp [init_eq]
 apply hK;clear hK K
 refine AW_seq ?_
 refine AW_cond' rfl rfl (fun hc=>?_) (fun hc=>?_)
 · have hi:i < ps.length:=by simpa using hc
   obtain ⟨ax,px,qx⟩:=hpsG.rec (f:=Tmo.cells) (fun _=>rfl) (by decide) (P:=Tryz.prog) qelem_30 qsize_69 qagg_69 hi
   refine AW_skip ?_
   refine AW_seq ?_
   refine AW_block ?_
   refine AW_seq ?_
   refine AW_reg [2,3,4,5,6,7,8] fun K hK=>?_
   obtain ⟨G1,e3,hp3,hn3,ho3⟩:=AH.boxedS G (Tmo.cells ⟨0,0,Cert.zero⟩) ps[i].cells
   have hG:G.next ≠ x:=by have:=AH.get_lt hc1; omega
   simp [init_eq,px,qx,V.cells,astore,AH.get_new]
   apply hK;clear hK K
   show AThen _ _ _ _ ((G.new (O.cells (Tmo.cells ⟨0,0,Cert.zero⟩) 0 false 0)).set G.next (O.cells ps[i].cells 0 false 0))
   rw [e3]
   have hc3:G1.get x = some (.cells (highR (ps.take i)).cells 0 false 0):=by rw [ho3 _ (AH.get_lt hc1)]; exact hc1
   have hlt:=AH.get_lt hc3
   have hgx:=AH.get_lt hc1
   generalize hm:G.next = m at *
   refine AW_cut (fun ρ G2=>ρ = ⟨23,[(2,.p (some (H.next,0,0))),(3,.p (some (x,0,0))),(5,.p (some (m,0,0))),(6,v),(7,.i .i64 ps.length),(8,.i .i64 i)]⟩ ∧ G2.next = G1.next ∧ G2.get m = some (.cells ps[i].cells 0 false 0) ∧ G2.get x = some (.cells (if i = 0 then ps[i].high else highR (ps.take i)).cells 0 false 0) ∧ ∀ j,j < m → j ≠ x → G2.get j = G.get j) ?_ fun ρ G2 ⟨f1,f2,f3,f4,f5⟩=>?_
   · refine AW_seq ?_
     refine AW_reg [2,3,5,6,7,8,14] fun K hK=>?_
     simp [init_eq]
     apply hK;clear hK K
     refine AW_cond' rfl rfl (fun hc=>?_) (fun hc=>?_)
     · have h0 : i = 0 := by have : (i : Int) = 0 := by simpa using hc
                             omega
       refine AW_reg [2,3,5,6,7,8] fun K hK=>?_
       simp [init_eq,afieldAddr,hfld hp3,astore,hc3,V.cells,show splice (highR (ps.take i)).cells 0 ps[i].high.cells = ps[i].high.cells from rfl]
       apply hK;clear hK K
       exact rend ⟨_,by simp,rfl,rfl,by rw [AH.get_set_ne (by omega)]; exact hp3,by rw [AH.get_set_same hlt,if_pos h0],fun j hj hjx=>by rw [AH.get_set_ne hjx]; exact ho3 j hj⟩
     · have h0:¬ i = 0:=fun h=>by
         have:¬ (i:Int) = 0:=by simpa using hc
         omega
       exact AW_skip (rend ⟨_,by simp,rfl,rfl,hp3,by rw [if_neg h0]; exact hc3,fun j hj hjx=>ho3 j hj⟩)
   subst f1
   have hmx:maxC (if i = 0 then ps[i].high else highR (ps.take i)) ps[i].high = highR (ps.take (i + 1)):=by
    by_cases h0:i = 0
    · subst h0; rw [if_pos rfl,maxC_self,highR_one ps hi]
    · rw [if_neg h0,highR_succ ps i hi (by omega)]
   generalize (if i = 0 then ps[i].high else highR (ps.take i)) = c at *
   have hlc:aload Tryz.prog G2 29 (.p (some (x,0,0))) = some (.agg c.cells):=by simp [aload,f4,take_cells]
   refine AW_reg [2,3,6,7,8] fun K hK=>?_
   simp [init_eq,hlc,afieldAddr,hfld f3]
   refine ACalls.mono (certMax_ok G2 c ps[i].high) fun r G3 ⟨hr,e⟩=>?_
   subst hr e
   rw [hmx]
   simp [astore,f4,V.cells,show ∀ y:Cert,splice c.cells 0 y.cells = y.cells from fun _=>rfl]
   apply hK;clear hK K
   refine bend (rend ?_)
   refine AW_reg [2,3,6,7,8] fun K hK=>?_
   simp [init_eq,wrap_id (x:=(i:Int) + 1) (by omega) (by omega)]
   apply hK;clear hK K
   exact rend ⟨i + 1,by simp,⟨by omega,AH.get_set_same (AH.get_lt f4),by simp; omega,fun j hj hjx=>by rw [AH.get_set_ne hjx,f5 j (by omega) hjx,hoG j hj hjx]⟩,by omega⟩
 have hi : i = ps.length := by have : ¬ i < ps.length := by simpa using hc
                               omega
 subst hi
 rw [List.take_length] at hc1
 have hlc:aload Tryz.prog G 29 (.p (some (x,0,0))) = some (.agg (highR ps).cells):=by simp [aload,hc1,take_cells]
 have hpG:G.get H.next = some (.cells Cert.zero.cells 0 false 0):=by rw [hoG _ (by omega) (by omega)]; exact hpz
 refine AW_exit (then_exit (then_exit (block_here ?_)))
 refine AW_seq ?_
 refine AW_reg [2] fun K hK=>?_
 simp [init_eq,hlc,astore,hpG,V.cells,show splice Cert.zero.cells 0 (highR ps).cells = (highR ps).cells from rfl]
 apply hK;clear hK K
 exact AW_ret (end_ret (ares_cell (v:=.agg (highR ps).cells) (by simp [aload,AH.get_set,AH.get_lt hpG,take_cells])) ⟨rfl,rfl,by simp; omega,fun j hj=>by rw [AH.get_set_ne (by omega),hoG j (by omega) (by omega),hoo j hj]⟩)
theorem lawProof_ok (H:AH) {ib is ic:Nat} {FB FS FC:List Nat} {d:RegD} (hd:LawAt H ib is ic FB FS FC d) {v:V} {ps:List Tmo} (hps:RS H v 10 (ps.map Tmo.cells)) (hout:OutS v FC) (hl:ps.length ≤ 1000) (view:Int) :
  ACalls Tryz.prog 31 [.agg (lawV ib is ic),.i .i64 view,v] H fun r H'=>r = .i .i64 (proofR d view ps).1 ∧ LawAt H' ib is ic FB FS FC (d.set (proofR d view ps).2) ∧ Upd H H' FC:=by
 refine ACalls_body Tryz.func31 rfl rfl ?_
 repeat refine AW_seq ?_
 refine AW_reg [1,2,3] fun K hK=>?_
 simp [init_eq,V.cells]
 obtain ⟨H1,e1,hp,hn,ho⟩:=H.boxed (lawV ib is ic)
 rw [e1]
 apply hK;clear hK K
 have u1:Upd H H1 []:=⟨by omega,fun j hj _=>ho j hj⟩
 have hd1:=hd.upd u1
 have hps1:=hps.same ho
 have hbox:H.next ∉ FC:=fun h=>by have:=hd.coin.lt _ h; omega
 have lx:∀ G:AH,alen Tryz.prog G 30 v = some (.i .i64 ps.length):=fun G=>hps1.alen (P:=Tryz.prog) qelem_30 G
 repeat refine AW_seq ?_
 refine AW_reg [1,2,3,12,13,14] fun K hK=>?_
 simp [init_eq,lx]
 apply hK;clear hK K
 refine AW_block ?_
 refine AW_loopx (fun i:Nat=>⟨62,[(1,.i .i64 view),(2,v),(3,.p (some (H.next,0,0))),(12,v),(13,.i .i64 ps.length),(14,.i .i64 i)]⟩) (fun i G=>i ≤ ps.length ∧ Upd H1 G [] ∧ ∀ j (hj:j < ps.length),j < i → (decide (ps[j].view = view) && sgnAt ps j) = true) (fun i=>ps.length - i) 0 (by simp) ⟨by simp,Upd.refl ..,by simp⟩ fun i G hM=>?_
 obtain ⟨hi0,uG,hord0⟩:=hM
 have hpsG:=rsOut hps1 uG (fun _ _ _ _ _ _ h=>by simp at h)
 repeat refine AW_seq ?_
 refine AW_reg [1,2,3,12,13,14,15] fun K hK=>?_
 simp [init_eq]
 apply hK;clear hK K
 repeat refine AW_seq ?_
 refine AW_cond' rfl rfl (fun hc=>?_) (fun hc=>?_)
 · have hi:i < ps.length:=by simpa using hc
   obtain ⟨ax,px,qx⟩:=hpsG.rec (f:=Tmo.cells) (fun _=>rfl) (by decide) (P:=Tryz.prog) qelem_30 qsize_69 qagg_69 hi
   refine AW_skip ?_
   repeat refine AW_seq ?_
   refine AW_block ?_
   repeat refine AW_seq ?_
   refine AW_reg [1,2,3,7,8,12,13,14] fun K hK=>?_
   obtain ⟨G1,e3,hp3,hn3,ho3⟩:=AH.boxedS G (Tmo.cells ⟨0,0,Cert.zero⟩) ps[i].cells
   simp [init_eq,px,qx,V.cells,astore,AH.get_new]
   apply hK;clear hK K
   show AThen _ _ _ _ ((G.new (O.cells (Tmo.cells ⟨0,0,Cert.zero⟩) 0 false 0)).set G.next (O.cells ps[i].cells 0 false 0))
   rw [e3]
   have uG1:Upd H1 G1 []:=uG.trans (⟨by omega,fun j hj _=>ho3 j hj⟩:Upd G G1 []) (by simp)
   have hpsG1:=rsOut hps1 uG1 (fun _ _ _ _ _ _ h=>by simp at h)
   have hlv:aload Tryz.prog G1 3 (.p (some (G.next,0,1))) = some (.i .i64 ps[i].view):=by simp [aload,hp3]
   have hlsg:aload Tryz.prog G1 3 (.p (some (G.next,0,0))) = some (.i .i64 ps[i].signer):=by simp [aload,hp3]
   repeat refine AW_seq ?_
   refine AW_regdto [1,2,3,12,13,14,37] pl_31_4 pe_31_4 ⟨62,[(1,.i .i64 view),(2,v),(3,.p (some (H.next,0,0))),(12,v),(13,.i .i64 ps.length),(14,.i .i64 i),(37,.b (!(decide (ps[i].view = view) && sgnAt ps i)))]⟩ G1 (by kernel_rfl) (by kernel_rfl) (by decide) (fun K hk=>?_) ?_
   · by_cases g1:ps[i].view = view
     · by_cases g2:i = 0
       · have g3:¬ 0 < i:=by omega
         rw [sgnAt_zero ps g2] at hk
         simpa [init_eq,pl_31_4,afieldAddr,hlv,g1,g3] using hk
       · have g3:0 < i:=by omega
         rw [sgnAt_pos g2 hi] at hk
         obtain ⟨aj,au,pj,pu,qu⟩:=hpsG1.fld (f:=Tmo.cells) (sz:=10) (P:=Tryz.prog) (i:=i - 1) (fun _=>rfl) (by decide) qelem_30 qsize_69 (by omega) qfield_69_0 qagg_3 qsize_3 (tmo_0 _)
         have hcast:((i - 1:Nat):Int) = (i:Int) - 1:=by omega
         rw [hcast] at pj
         have hfa:afieldAddr Tryz.prog 69 0 (.p (some (G.next,0,0))) = some (.p (some (G.next,0,0))):=by simp [afieldAddr]
         have hfb:afieldAddr Tryz.prog 69 1 (.p (some (G.next,0,0))) = some (.p (some (G.next,0,1))):=by simp [afieldAddr]
         generalize (ps[i - 1]'(by omega)).signer = x at *
         generalize ps[i].signer = y at *
         have hxy:decide (y ≤ x) = !decide (x < y):=by rw [← decide_not]; exact decide_eq_decide.2 (by omega)
         simpa [init_eq,pl_31_4,hfa,hfb,hlv,hlsg,g1,g3,wrap_id (x:=(i:Int) - 1) (by omega) (by omega),pj,pu,qu,hxy] using hk
     · simpa [init_eq,pl_31_4,afieldAddr,hlv,g1] using hk
   refine AW_cond' rfl rfl (fun hc=>?_) (fun hc=>?_)
   · have g:(decide (ps[i].view = view) && sgnAt ps i) = false:=by
       have hc2:(!(decide (ps[i].view = view) && sgnAt ps i)) = true:=hc
       cases h:(decide (ps[i].view = view) && sgnAt ps i) with
       | false=>rfl
       | true=>rw [h] at hc2; cases hc2
     have hR:proofR d view ps = (121,d.co):=by rw [proofR,if_pos (ordB_stop hi g)]
     have uH:=u1.trans uG1 (by simp)
     repeat refine AW_seq ?_
     refine AW_reg [6] fun K hK=>?_
     simp [init_eq]
     apply hK;clear hK K
     exact AW_ret (end_ret rfl ⟨by rw [hR]; rfl,by rw [hR]; exact hd.upd uH,uH.mono (by simp)⟩)
   · have g:(decide (ps[i].view = view) && sgnAt ps i) = true:=by
       have hc2:(!(decide (ps[i].view = view) && sgnAt ps i)) = false:=hc
       cases h:(decide (ps[i].view = view) && sgnAt ps i) with
       | false=>rw [h] at hc2; cases hc2
       | true=>rfl
     refine AW_skip ?_
     refine AW_reg [1,2,3,12,13,14] fun K hK=>?_
     simp [init_eq,wrap_id (x:=(i:Int) + 1) (by omega) (by omega)]
     apply hK;clear hK K
     exact rend ⟨i + 1,by simp,⟨by omega,uG1,fun j hj hj'=>(Nat.lt_or_eq_of_le (Nat.le_of_lt_succ hj')).elim (fun h=>hord0 j hj h) (fun h=>by subst h; exact g)⟩,by omega⟩
 have hi : i = ps.length := by have : ¬ i < ps.length := by simpa using hc
                               omega
 have hord:ordB view ps = true:=ordB_all fun j hj=>hord0 j hj (by omega)
 have hdG:=hd1.upd uG
 have hpG:=uG.keep (by simp) hp
 have uHG:=u1.trans uG (by simp)
 clear hc hord0
 refine AW_exit (then_exit (then_exit (block_here ?_)))
 repeat refine AW_seq ?_
 refine AW_reg [2,3,39,40,41] fun K hK=>?_
 simp [init_eq,lx]
 apply hK;clear hK K
 refine AW_block ?_
 refine AW_loopx (fun i:Nat=>⟨62,[(2,v),(3,.p (some (H.next,0,0))),(39,v),(40,.i .i64 ps.length),(41,.i .i64 i)]⟩) (fun i G2=>i ≤ ps.length ∧ (tmosR d (ps.take i)).1 = 0 ∧ Upd G G2 FC ∧ LawAt G2 ib is ic FB FS FC (d.set (tmosR d (ps.take i)).2)) (fun i=>ps.length - i) 0 (by simp) ⟨by simp,rfl,Upd.refl ..,hdG⟩ fun i G2 hM=>?_
 clear hi hi0
 obtain ⟨hi0,hz,uG2,hL⟩:=hM
 have hpG2:=uG2.keep hbox hpG
 have hpsG2:=rsOut hpsG uG2 hout
 repeat refine AW_seq ?_
 refine AW_reg [2,3,39,40,41,42] fun K hK=>?_
 simp [init_eq]
 apply hK;clear hK K
 repeat refine AW_seq ?_
 refine AW_cond' rfl rfl (fun hc=>?_) (fun hc=>?_)
 · have hi:i < ps.length:=by simpa using hc
   have hsn:=tmosR_snoc d ps i hi hz
   obtain ⟨ax,px,qx⟩:=hpsG2.rec (f:=Tmo.cells) (fun _=>rfl) (by decide) (P:=Tryz.prog) qelem_30 qsize_69 qagg_69 hi
   refine AW_skip ?_
   repeat refine AW_seq ?_
   refine AW_block ?_
   repeat refine AW_seq ?_
   refine AW_reg [2,3,10,39,40,41] fun K hK=>?_
   obtain ⟨G3,e3,hp3,hn3,ho3⟩:=AH.boxedS G2 (Tmo.cells ⟨0,0,Cert.zero⟩) ps[i].cells
   simp [init_eq,px,qx,V.cells,astore,AH.get_new]
   apply hK;clear hK K
   show AThen _ _ _ _ ((G2.new (O.cells (Tmo.cells ⟨0,0,Cert.zero⟩) 0 false 0)).set G2.next (O.cells ps[i].cells 0 false 0))
   rw [e3]
   have u3:Upd G2 G3 []:=⟨by omega,fun j hj _=>ho3 j hj⟩
   have hL3:=hL.upd u3
   have hp4:=u3.keep (by simp) hpG2
   have hll:aload Tryz.prog G3 41 (.p (some (H.next,0,0))) = some (.agg (lawV ib is ic)):=by simp [aload,hp4]
   have hlt:aload Tryz.prog G3 69 (.p (some (G2.next,0,0))) = some (.agg ps[i].cells):=by simp [aload,hp3,tmo_take]
   repeat refine AW_seq ?_
   refine AW_reg [2,3,11,39,40,41] fun K hK=>?_
   simp [init_eq,hll,hlt]
   refine ACalls.mono (lawTimeout_ok G3 hL3 ps[i]) fun r G4 ⟨hr,hL4,u4⟩=>?_
   subst hr
   rw [← hsn] at hL4 ⊢
   try simp
   apply hK;clear hK K
   have u24:Upd G G4 FC:=(uG2.trans (u3.mono (by simp):Upd G2 G3 FC) (fun j hj=>.inl hj)).trans u4 (fun j hj=>.inl hj)
   have hL5:LawAt G4 ib is ic FB FS FC (d.set (tmosR d (ps.take (i + 1))).2):=hL4
   repeat refine AW_seq ?_
   refine AW_reg [2,3,11,39,40,41,49] fun K hK=>?_
   simp [init_eq]
   apply hK;clear hK K
   refine AW_cond' rfl rfl (fun hc=>?_) (fun hc=>?_)
   · have g:(tmosR d (ps.take (i + 1))).1 ≠ 0:=by simpa using hc
     have hb:=tmosR_bad d ps (i + 1) (by omega) g
     have hR:proofR d view ps = tmosR d (ps.take (i + 1)):=by rw [proofR,if_neg (by simp [hord]),hb,if_pos g]
     repeat refine AW_seq ?_
     refine AW_reg [6] fun K hK=>?_
     simp [init_eq]
     apply hK;clear hK K
     exact AW_ret (end_ret rfl ⟨by rw [hR]; rfl,by rw [hR]; exact hL5,(uHG.mono (by simp):Upd H G FC).trans u24 (fun j hj=>.inl hj)⟩)
   · have g:(tmosR d (ps.take (i + 1))).1 = 0:=by simpa using hc
     refine AW_skip ?_
     refine AW_reg [2,3,39,40,41] fun K hK=>?_
     simp [init_eq,wrap_id (x:=(i:Int) + 1) (by omega) (by omega)]
     apply hK;clear hK K
     exact rend ⟨i + 1,by simp,⟨by omega,g,u24,hL5⟩,by omega⟩
 have hi : i = ps.length := by have : ¬ i < ps.length := by simpa using hc
                               omega
 subst hi
 rw [List.take_length] at hz hL
 have hli:aload Tryz.prog G2 38 (.p (some (H.next,0,1))) = some (.p (some (is,0,0))):=by simp [aload,hpG2]
 have hR:proofR d view ps = (if (ps.length:Int) < qtimes 2 d.f then 61 else 0,(tmosR d ps).2):=by rw [proofR,if_neg (by simp [hord]),if_neg (by simp [hz])]
 have hfin:LawAt G2 ib is ic FB FS FC (d.set (proofR d view ps).2) ∧ Upd H G2 FC:=by rw [hR]; exact ⟨hL,(uHG.mono (by simp):Upd H G FC).trans uG2 (fun j hj=>.inl hj)⟩
 have hdf:(d.set (tmosR d ps).2).f = d.f:=rfl
 refine AW_exit (then_exit (then_exit (block_here ?_)))
 repeat refine AW_seq ?_
 refine AW_reg [2,3,54] fun K hK=>?_
 simp [init_eq,afieldAddr,hli]
 apply hK;clear hK K
 refine AW_condF rfl ?_
 refine AW_skip ?_
 repeat refine AW_seq ?_
 refine AW_reg [61] fun K hK=>?_
 simp [init_eq,lx,afieldAddr,hli]
 refine ACalls.mono (signF_ok G2 hL.sign) fun r G3 ⟨hr,e⟩=>?_
 subst hr e
 rw [hdf]
 refine ACalls.mono (quorum_ok ..) fun r G4 ⟨hr,e⟩=>?_
 subst hr e
 try simp
 apply hK;clear hK K
 refine AW_cond' rfl rfl (fun hc=>?_) (fun hc=>?_)
 · have g:(ps.length:Int) < qtimes 2 d.f:=by simpa using hc
   repeat refine AW_seq ?_
   refine AW_reg [6] fun K hK=>?_
   simp [init_eq]
   apply hK;clear hK K
   exact AW_ret (end_ret rfl ⟨by rw [hR,if_pos g]; rfl,hfin⟩)
 · have g:¬ (ps.length:Int) < qtimes 2 d.f:=by simpa using hc
   refine AW_skip ?_
   repeat refine AW_seq ?_
   refine AW_reg [6] fun K hK=>?_
   simp [init_eq]
   apply hK;clear hK K
   exact AW_ret (end_ret rfl ⟨by rw [hR,if_neg g]; rfl,hfin⟩)
end Go.Proofs.YtmhaimdpfelkpaaGreatDoor
set_option linter.unusedVariables false
set_option linter.unusedSimpArgs false
namespace Go.Proofs.YtmhaimdpfelkpaaGreatDoor
open Go Go.Abs Go.Proofs
set_option maxRecDepth 100000
attribute [local irreducible] AEnd AW ACalls
end Go.Proofs.YtmhaimdpfelkpaaGreatDoor
set_option linter.unusedVariables false
set_option linter.unusedSimpArgs false
namespace Go.Proofs.YtmhaimdpfelkpaaGreatDoor
open Go Go.Abs Go.Proofs
set_option maxRecDepth 100000
attribute [local irreducible] AEnd AW ACalls
theorem chosenN_none' {gv:List (Int × Int)} (hp:∀ g ∈ gv,0 ≤ g.2) {v:Int} (h:chosenN gv v < 0):∀ g ∈ gv,g.1 ≠ v:=by
 induction gv with
 | nil=>simp
 | cons g l ih =>
   rw [chosenN] at h
   by_cases e:g.1 = v
   · rw [if_pos e] at h; have:=hp g (by simp); omega
   · rw [if_neg e] at h
     intro x hx
     rcases List.mem_cons.1 hx with rfl | hx
     · exact e
     · exact ih (fun g hg=>hp g (by simp [hg])) h x hx
theorem chosenN_app_none {gv:List (Int × Int)} {v:Int} (h:∀ g ∈ gv,g.1 ≠ v) (a w:Int):chosenN (gv ++ [(a,w)]) v = if a = v then w else -1:=by
 induction gv with
 | nil=>rfl
 | cons g l ih =>
   rw [List.cons_append,chosenN,if_neg (h g (by simp))]
   exact ih fun g hg=>h g (by simp [hg])
theorem chosenN_app_some {gv:List (Int × Int)} {v:Int} (h:0 ≤ chosenN gv v) (x:Int × Int):chosenN (gv ++ [x]) v = chosenN gv v:=by
 induction gv with
 | nil=>simp [chosenN] at h
 | cons g l ih =>
   rw [List.cons_append,chosenN,chosenN]
   by_cases e:g.1 = v
   · rw [if_pos e,if_pos e]
   · rw [chosenN,if_neg e] at h
     rw [if_neg e,if_neg e]; exact ih h
theorem corel_choose {f:Int} {co:Int → Tos} {gv:List (Int × Int)} (h:CoRel co gv []) (hp:∀ g ∈ gv,0 ≤ g.2) (view who:Int):CoRel (coChoose f co view who) (gvChoose f gv [] view who) [] ∧ ∀ g ∈ gvChoose f gv [] view who,0 ≤ g.2:=by
 unfold coChoose gvChoose
 by_cases h1:mayE view = 0
 · rw [if_neg (not_not_intro h1),if_neg (not_not_intro h1)]
   by_cases h2:who < 0 ∨ qtimes 3 f ≤ who
   · rw [if_pos h2,if_pos h2]; exact ⟨h,hp⟩
   · rw [if_neg h2,if_neg h2]
     obtain ⟨c1,c2,c3⟩:=h view
     by_cases h3:0 ≤ chosenN gv view
     · rw [if_pos (by rw [c1]; simp [h3]),if_pos (.inl h3)]; exact ⟨h,hp⟩
     · have hn:chosenN gv view < 0:=by omega
       have hno:=chosenN_none' hp hn
       rw [if_neg (by rw [c1,c3]; simp [h3]),if_neg (by simp; omega)]
       refine ⟨fun v=>?_,fun g hg=>?_⟩
       · unfold coUpd
         by_cases e:v = view
         · subst e
           rw [if_pos rfl,chosenN_app_none hno,if_pos rfl]
           refine ⟨?_,fun _=>rfl,by simp⟩
           have:0 ≤ who:=by omega
           simp [this]
         · rw [if_neg e]
           obtain ⟨d1,d2,d3⟩:=h v
           by_cases h4:0 ≤ chosenN gv v
           · rw [chosenN_app_some h4]; exact ⟨d1,d2,d3⟩
           · have hno2:=chosenN_none' hp (show chosenN gv v < 0 by omega)
             rw [chosenN_app_none hno2,if_neg (fun k=>e k.symm)]
             rw [d1]
             refine ⟨by simp [h4],fun k=>absurd k (by simp [h4]),d3⟩
       · rcases List.mem_append.1 hg with k | k
         · exact hp g k
         · simp at k; subst k; simp only; omega
 · rw [if_pos h1,if_pos h1]; exact ⟨h,hp⟩
theorem corel_in (i:InD):∀ k,CoRel (coI i k) (gvI i k) []:=by
 suffices ∀ (l:List Shr) (co:Int → Tos) (gv:List (Int × Int)),CoRel co gv [] → (∀ g ∈ gv,0 ≤ g.2) → CoRel (l.foldl (fun co x=>coChoose i.f co x.stmt.view x.signer) co) (l.foldl (fun gv x=>gvChoose i.f gv [] x.stmt.view x.signer) gv) [] from
  fun k=>this _ _ _ (fun v=>⟨rfl,fun h=>(by simp [Tos.zero] at h),rfl⟩) (by simp)
 intro l
 induction l with
 | nil=>intro co gv h _; exact h
 | cons x l ih =>
   intro co gv h hp
   obtain ⟨h1,h2⟩:=corel_choose h hp x.stmt.view x.signer (f:=i.f)
   exact ih _ _ h1 h2
structure Both (B y z:Nat) (K H:AH) (ib is ic jb js jc:Nat) (FB FS FC GB GS GC:List Nat) (d e:RegD) (n:Nat):Prop where
 law:LawAt H ib is ic FB FS FC d
 rlaw:RLaw H jb js jc GB GS GC e n
 fg:∀ j ∈ FC,j ∉ GB ∧ j ∉ GS ∧ j ∉ GC
 gf:∀ j ∈ GC,j ∉ FB ∧ j ∉ FS
 new:∀ j,j ∈ FC ∨ j ∈ GC → B ≤ j ∧ j ≠ y ∧ j ≠ z
 same:∀ j,(j < B ∨ j = y ∨ j = z) → H.get j = K.get j
 lt:B ≤ H.next ∧ y < H.next ∧ z < H.next
section
variable {B y z:Nat} {K H:AH} {ib is ic jb js jc:Nat} {FB FS FC GB GS GC:List Nat} {d e:RegD} {n:Nat}
theorem Both.upd0 (h:Both B y z K H ib is ic jb js jc FB FS FC GB GS GC d e n) {H':AH} (hu:Upd H H' []):Both B y z K H' ib is ic jb js jc FB FS FC GB GS GC d e n :=
 ⟨h.law.upd hu,h.rlaw.upd hu,h.fg,h.gf,h.new,fun j hj=>by rw [hu.2 j (by have:=h.lt; omega) (by simp),h.same j hj],by have:=hu.1; have:=h.lt; omega⟩
theorem Both.prog (h:Both B y z K H ib is ic jb js jc FB FS FC GB GS GC d e n) {H':AH} {d':RegD} (h1:LawAt H' ib is ic FB FS FC d') (h2:Upd H H' FC):Both B y z K H' ib is ic jb js jc FB FS FC GB GS GC d' e n:=by
 obtain ⟨gv,sn,c1,c2,c3,c4⟩:=h.rlaw.coin
 refine ⟨h1,⟨h.rlaw.book.upd h2 fun j hj hf=>(h.fg j hf).1 hj,h.rlaw.sign.upd h2 fun j hj hf=>(h.fg j hf).2.1 hj,⟨gv,sn,c1.upd h2 fun j hj hf=>(h.fg j hf).2.2 hj,c2,c3,c4⟩,h.rlaw.bs,h.rlaw.bc,h.rlaw.sc,h.rlaw.len,h.rlaw.shl,h.rlaw.txt⟩,h.fg,h.gf,h.new,fun j hj=>?_,by have:=h2.1; have:=h.lt; omega⟩
 rw [h2.2 j (by have:=h.lt; omega) (fun hf=>by have:=h.new j (.inl hf); omega),h.same j hj]
theorem Both.ref (h:Both B y z K H ib is ic jb js jc FB FS FC GB GS GC d e n) {H':AH} {e':RegD} {m:Nat} (h1:RDone H H' jb js jc GB GS GC e' m):∃ GC',Both B y z K H' ib is ic jb js jc FB FS FC GB GS GC' d e' m:=by
 obtain ⟨GC',h1,h2,h3⟩:=h1
 have hlt:=h.lt
 refine ⟨GC',⟨h.law.book.upd h2 fun j hj hg=>(h.gf j hg).1 hj,h.law.sign.upd h2 fun j hj hg=>(h.gf j hg).2 hj,h.law.coin.upd h2 fun j hj hg=>(h.fg j hj).2.2 hg,h.law.bs,h.law.bc,h.law.sc,h.law.len,h.law.txt⟩,h1,fun j hj=>⟨(h.fg j hj).1,(h.fg j hj).2.1,fun hg=>?_⟩,fun j hj=>⟨fun hf=>?_,fun hf=>?_⟩,fun j hj=>?_,fun j hj=>?_,by have:=h2.1; omega⟩
 · rcases h3 j hg with k | k
   · exact (h.fg j hj).2.2 k
   · have:=h.law.coin.lt j hj; omega
 · rcases h3 j hj with k | k
   · exact (h.gf j k).1 hf
   · have:=h.law.book.lt j hf; omega
 · rcases h3 j hj with k | k
   · exact (h.gf j k).2 hf
   · have:=h.law.sign.lt j hf; omega
 · rcases hj with k | k
   · exact h.new j (.inl k)
   · rcases h3 j k with k | k
     · exact h.new j (.inr k)
     · omega
 · rw [h2.2 j (by omega) (fun hf=>by have:=h.new j (.inr hf); omega),h.same j hj]
theorem Both.outF (h:Both B y z K H ib is ic jb js jc FB FS FC GB GS GC d e n) {v:V} (hv:∀ id g o l b,v = .sl (some (id,g,o)) l b → id < B):OutS v FC:=fun id g o l b e hm=>by have:=hv id g o l b e; have:=h.new id (.inl hm); omega
theorem Both.outG (h:Both B y z K H ib is ic jb js jc FB FS FC GB GS GC d e n) {v:V} (hv:∀ id g o l b,v = .sl (some (id,g,o)) l b → id < B):OutS v GC:=fun id g o l b e hm=>by have:=hv id g o l b e; have:=h.new id (.inr hm); omega
end
theorem rs_lt {H:AH} {v:V} {sz:Nat} {ls:List (List V)} (h:RS H v sz ls):∀ id g o l b,v = .sl (some (id,g,o)) l b → id < H.next:=fun id g o l b e=>by
 rcases h.2 with ⟨c,e1,e2⟩ | ⟨id',g',off,c,ro,esz,r1,r2,r⟩
 · rw [e1] at e; cases e
 · rw [r1] at e; cases e; exact AH.get_lt r2
/-- Both, as an input makes them. -/
theorem LawsAt.both {H H' G:AH} {i:InD} {ib is ic jb js jc:Nat} {FB FS FC GB GS GC:List Nat} (L:LawsAt H H' i ib is ic jb js jc FB FS FC GB GS GC) (hfar:farB i = false) (hu:Upd H' G []) (hn:G.next = H'.next + 2) :
  Both H.next H'.next (H'.next + 1) G G ib is ic jb js jc FB FS FC GB GS GC (regOf i) (regOf i) 0:=by
 obtain ⟨m1,m2,m3,m4,m5⟩:=far_facts hfar
 have hlaw:=L.law.upd hu
 have l1:(regOf i).sh.length ≤ i.sh.length:=shI_len i i.sh.length
 have l2:(regOf i).bk.length ≤ i.bl.length + i.ct.length:=bkC_len i i.ct.length
 have l3:(gvOf i).length ≤ i.cn.length:=gvI_len i i.cn.length
 have hd:=L.dis
 have hlt:∀ A ∈ [FB,FS,FC,GB,GS,GC],∀ j ∈ A,j < H'.next:=by
  intro A hA j hj
  simp only [List.mem_cons,List.not_mem_nil,or_false] at hA
  rcases hA with rfl | rfl | rfl | rfl | rfl | rfl
  · exact L.law.book.lt j hj
  · exact L.law.sign.lt j hj
  · exact L.law.coin.lt j hj
  · exact L.rbook.lt j hj
  · exact L.rsign.lt j hj
  · exact L.rcoin.lt j hj
 refine ⟨hlaw,⟨L.rbook.upd hu (by simp),L.rsign.upd hu (by simp),⟨gvOf i,[],L.rcoin.upd hu (by simp),corel_in i i.cn.length,by omega,by simp⟩,hd.ne (i:=3) (k:=4) rfl rfl (by decide),hd.ne (i:=3) (k:=5) rfl rfl (by decide),hd.ne (i:=4) (k:=5) rfl rfl (by decide),by omega,by omega,L.law.txt⟩,
  fun j hj=>⟨hd.ne (i:=2) (k:=3) rfl rfl (by decide) j hj,hd.ne (i:=2) (k:=4) rfl rfl (by decide) j hj,hd.ne (i:=2) (k:=5) rfl rfl (by decide) j hj⟩,fun j hj=>⟨hd.ne (i:=5) (k:=0) rfl rfl (by decide) j hj,hd.ne (i:=5) (k:=1) rfl rfl (by decide) j hj⟩,fun j hj=>?_,fun _ _=>rfl,by have:=L.upd.1; omega⟩
 rcases hj with hj | hj
 · have h1:=L.new FC (by simp) j hj
   have h2:=hlt FC (by simp) j hj
   omega
 · have h1:=L.new GC (by simp) j hj
   have h2:=hlt GC (by simp) j hj
   omega
end Go.Proofs.YtmhaimdpfelkpaaGreatDoor
