/-
  Contracts of the program's functions (TxtG). No conditions of my own.
-/
import Derived.Test.YtmhaimdpfelkpaaGreatDoorTxtF
import Derived.Test.YtmhaimdpfelkpaaGreatDoorTxtA
set_option linter.unusedVariables false
set_option linter.unusedSimpArgs false
namespace Go.Proofs.YtmhaimdpfelkpaaGreatDoor
open Go Go.Abs Go.Proofs
set_option maxRecDepth 100000
attribute [local irreducible] AEnd AW ACalls
theorem rall_ok (H:AH) (f:Int):ACalls Tryz.prog 61 [.i .i64 f] H fun r H'=>r = .i .i64 (qtimes 3 f) ∧ H' = H:=by
 refine ACalls_body Tryz.func61 rfl rfl ?_
 repeat refine AW_seq ?_
 refine AW_reg [0] fun K hK=>?_
 simp [init_eq]
 apply hK;clear hK K
 repeat refine AW_seq ?_
 refine AW_regto [0,8] ⟨15,[(0,.i .i64 f),(8,.b (decide (f < 1 ∨ 3 < f)))]⟩ H (fun K hk=>?_) ?_
 · by_cases g1:f < 1
   · simpa [init_eq,g1] using hk
   · simpa [init_eq,g1] using hk
 refine AW_cond' rfl rfl (fun hc=>?_) (fun hc=>?_)
 · have g1:f < 1 ∨ 3 < f:=by simpa using hc
   repeat refine AW_seq ?_
   refine AW_reg [2] fun K hK=>?_
   simp [init_eq]
   apply hK;clear hK K
   exact AW_ret (end_ret rfl ⟨by rw [qtimes,if_pos g1]; rfl,rfl⟩)
 · have g1:¬ (f < 1 ∨ 3 < f):=by simpa using hc
   refine AW_skip ?_
   repeat refine AW_seq ?_
   refine AW_reg [2] fun K hK=>?_
   simp [init_eq,wrap_id (x:=f + f) (by omega) (by omega),wrap_id (x:=f + f + f) (by omega) (by omega),wrap_id (x:=f + f + f + 1) (by omega) (by omega)]
   apply hK;clear hK K
   refine AW_ret (end_ret rfl ⟨?_,rfl⟩)
   rw [qtimes,if_neg g1]
   simp; omega
theorem rqcheck_ok (H:AH) (f:Int) (s:BitVec 32):ACalls Tryz.prog 102 [.i .i64 f,u32 s] H fun r H'=>(∃ e:Int,r = .i .i64 e) ∧ H' = H:=by
 refine ACalls.pure (Q:=fun r=>∃ e:Int,r = .i .i64 e) ⟨_,Tryz.func102,rfl,rfl⟩ ?_
 refine ACalls_body Tryz.func102 rfl rfl ?_
 repeat refine AW_seq ?_
 refine AW_reg [0,1] fun K hK=>?_
 simp [init_eq]
 apply hK;clear hK K
 repeat refine AW_seq ?_
 refine AW_reg [0,1,9] fun K hK=>?_
 simp [init_eq]
 refine ACalls.mono (rall_ok H f) fun r H' ⟨hr,e⟩=>?_
 subst hr e
 try simp
 apply hK;clear hK K
 refine AW_cond' rfl rfl (fun hc=>?_) (fun hc=>?_)
 · repeat refine AW_seq ?_
   refine AW_reg [4] fun K hK=>?_
   simp [init_eq]
   apply hK;clear hK K
   exact AW_ret (end_ret rfl (same_end ⟨_,rfl⟩ rfl))
 · refine AW_skip ?_
   repeat refine AW_seq ?_
   refine AW_reg [0,5] fun K hK=>?_
   simp [init_eq]
   refine ACalls.mono (rlist_ok H' s) fun v H2 hr=>?_
   obtain ⟨FL,ol,u2,lF⟩:=hr
   have hrs:RS H2 v 1 ((bitsOf s).map cntC):=ol.rsR (by decide) cntC_len
   have lx:=hrs.alen (P:=Tryz.prog) qelem_64 H2
   have hle:=bitsOf_len s
   try simp
   apply hK;clear hK K
   repeat refine AW_seq ?_
   refine AW_reg [0,5,6] fun K hK=>?_
   simp [init_eq]
   apply hK;clear hK K
   refine AW_block ?_
   refine AW_loop0 (fun i:Nat=>⟨25,[(0,.i .i64 f),(5,v),(6,.i .i64 i)]⟩) (fun i=>i ≤ (bitsOf s).length) (fun i=>(bitsOf s).length - i) 0 (by simp) (by simp) (by have:=u2.1; dsimp only; omega) fun hw i hM=>?_
   repeat refine AW_seq ?_
   refine AW_reg [0,5,6,15] fun K hK=>?_
   simp [init_eq,lx]
   apply hK;clear hK K
   refine AW_cond' rfl rfl (fun hc=>?_) (fun hc=>?_)
   · have hi:i < (bitsOf s).length:=by simpa using hc
     obtain ⟨ax,px,qx⟩:=hrs.at1 (P:=Tryz.prog) (t:=64) (e:=3) qelem_64 qsize_3 qagg_3 (k:=.i64) i (x:=cnt (bitsOf s)[i]) (by simp [hi,cntC])
     refine AW_skip ?_
     repeat refine AW_seq ?_
     refine AW_block ?_
     repeat refine AW_seq ?_
     refine AW_regd [0,5,6,24] pl_102_7 pe_102_7 (by kernel_rfl) (by kernel_rfl) (by decide) fun K hK=>?_
     simp [init_eq,pl_102_7,px,qx,cnt]
     refine ACalls.mono (rall_ok H2 f) fun r H3 ⟨hr,e⟩=>?_
     subst hr e
     simp [px,qx,cnt]
     apply hK;clear hK K
     refine AW_cond' rfl rfl (fun hc=>?_) (fun hc=>?_)
     · repeat refine AW_seq ?_
       refine AW_reg [4] fun K hK=>?_
       simp [init_eq]
       apply hK;clear hK K
       exact AW_ret (end_ret rfl ⟨⟨_,rfl⟩,rfl,u2.1,fun j hj=>u2.2 j hj (by simp)⟩)
     · refine AW_skip ?_
       refine AW_reg [0,5,6] fun K hK=>?_
       simp [init_eq,wrap_id (x:=(i:Int) + 1) (by omega) (by omega)]
       apply hK;clear hK K
       exact rend ⟨i + 1,by simp,by omega,by omega,.inl rfl⟩
   · refine AW_exit (then_exit (then_exit (block_here ?_)))
     repeat refine AW_seq ?_
     refine AW_reg [4] fun K hK=>?_
     simp [init_eq]
     apply hK;clear hK K
     exact AW_ret (end_ret rfl ⟨⟨_,rfl⟩,rfl,u2.1,fun j hj=>u2.2 j hj (by simp)⟩)
/-- The document's shares. -/
def RSignAt (H:AH) (is:Nat) (F:List Nat) (f:Int) (bad:BitVec 32) (sh:List Shr):Prop :=
 ∃ vs Fs,F = is :: Fs ∧ F.Nodup ∧ H.get is = some (.cells [.i .i64 f,u32 bad,vs] 0 false 0) ∧ Own H vs 11 (sh.map Shr.cells).flatten Fs
theorem RSignAt.upd {H H':AH} {is:Nat} {F G:List Nat} {f:Int} {bad:BitVec 32} {sh:List Shr} (h:RSignAt H is F f bad sh) (hu:Upd H H' G) (hd:∀ j ∈ F,j ∉ G):RSignAt H' is F f bad sh:=by
 obtain ⟨vb,Fb,rfl,h2,h3,h6⟩:=h
 exact ⟨vb,Fb,rfl,h2,hu.keep (hd is (by simp)) h3,h6.upd hu fun j hj=>hd j (by simp [hj])⟩
theorem RSignAt.lt {H:AH} {is:Nat} {F:List Nat} {f:Int} {bad:BitVec 32} {sh:List Shr} (h:RSignAt H is F f bad sh):∀ j ∈ F,j < H.next:=by
 obtain ⟨vb,Fb,rfl,h2,h3,h6⟩:=h
 intro j hj
 simp only [List.mem_cons] at hj
 rcases hj with rfl | hj
 · exact AH.get_lt h3
 · exact h6.lt j hj
theorem rsignNew_ok (H:AH) (f:Int) (bad:BitVec 32):ACalls Tryz.prog 42 [.i .i64 f,u32 bad] H fun r H' =>
  (∃ e:Int,e ≠ 0 ∧ r = .tup [.p none,.i .i64 e] ∧ Upd H H' []) ∨ (∃ is F,r = .tup [.p (some (is,0,0)),.i .i64 0] ∧ RSignAt H' is F f bad [] ∧ Upd H H' [] ∧ ∀ j ∈ F,H.next ≤ j):=by
 refine ACalls_body Tryz.func42 rfl rfl ?_
 repeat refine AW_seq ?_
 refine AW_reg [0,1] fun K hK=>?_
 simp [init_eq]
 apply hK;clear hK K
 repeat refine AW_seq ?_
 refine AW_reg [0,1,6] fun K hK=>?_
 simp [init_eq]
 refine ACalls.mono (rqcheck_ok H f bad) fun r H' ⟨⟨e0,hr⟩,e⟩=>?_
 subst hr e
 try simp
 apply hK;clear hK K
 repeat refine AW_seq ?_
 refine AW_reg [0,1,6,11] fun K hK=>?_
 simp [init_eq]
 apply hK;clear hK K
 refine AW_cond' rfl rfl (fun hc=>?_) (fun hc=>?_)
 · have h0:¬ e0 = 0:=by simpa using hc
   repeat refine AW_seq ?_
   refine AW_reg [4,5] fun K hK=>?_
   simp [init_eq]
   apply hK;clear hK K
   exact AW_ret (end_ret rfl (.inl ⟨_,h0,rfl,Upd.refl ..⟩))
 · refine AW_skip ?_
   repeat refine AW_seq ?_
   refine AW_reg [0,1,17] fun K hK=>?_
   simp [init_eq]
   refine ACalls.mono (rlist_ok H' bad) fun v H2 hr=>?_
   obtain ⟨FL,ol,u2,lF⟩:=hr
   have hrs:RS H2 v 1 ((bitsOf bad).map cntC):=ol.rsR (by decide) cntC_len
   have lx:=hrs.alen (P:=Tryz.prog) qelem_64 H2
   simp [lx]
   apply hK;clear hK K
   refine AW_cond' rfl rfl (fun hc=>?_) (fun hc=>?_)
   · repeat refine AW_seq ?_
     refine AW_reg [4,5] fun K hK=>?_
     simp [init_eq]
     apply hK;clear hK K
     exact AW_ret (end_ret rfl (.inl ⟨1,by decide,rfl,u2⟩))
   · refine AW_skip ?_
     repeat refine AW_seq ?_
     refine AW_reg [4,5] fun K hK=>?_
     have hab:abuild Tryz.prog 117 [(0,.i .i64 f),(1,u32 bad)] = some (.agg [.i .i64 f,u32 bad,.sl none 0 false]):=by simp [abuild,afill,splice_zero,splice_succ,ci]
     simp [init_eq,hab,V.cells]
     apply hK;clear hK K
     refine AW_ret (end_ret rfl (.inr ⟨H2.next,[H2.next],rfl,⟨.sl none 0 false,[],rfl,by simp,by simp [AH.get_new],.inl ⟨false,rfl,rfl,rfl⟩⟩,u2.trans (Upd.new H2 _ []) (by simp),by have:=u2.1; simp; omega⟩))
theorem rhas_ok (H:AH) {is:Nat} {F:List Nat} {f:Int} {bad:BitVec 32} {sh:List Shr} (hs:RSignAt H is F f bad sh) (hl:sh.length ≤ 10000) (x:Shr):ACalls Tryz.prog 108 [.p (some (is,0,0)),.agg x.cells] H fun r H'=>r = .b (decide (x ∈ sh)) ∧ H' = H:=by
 refine ACalls.pure (Q:=fun r=>r = .b (decide (x ∈ sh))) ⟨_,Tryz.func108,rfl,rfl⟩ ?_
 refine ACalls_body Tryz.func108 rfl rfl ?_
 repeat refine AW_seq ?_
 refine AW_reg [0,3] fun K hK=>?_
 simp [init_eq,V.cells]
 obtain ⟨H1,e1,hp,hn,ho⟩:=H.boxed x.cells
 rw [e1]
 apply hK;clear hK K
 have u1:Upd H H1 []:=⟨by omega,fun j hj _=>ho j hj⟩
 have hs1:=hs.upd u1 (by simp)
 obtain ⟨vs,Fs,rfl,h2,h3,h6⟩:=hs1
 have hrs:RS H1 vs 11 (sh.map Shr.cells):=h6.rsR (by decide) Shr.len
 have lx:=hrs.alen (P:=Tryz.prog) qelem_25 H1
 have hl3:aload Tryz.prog H1 25 (.p (some (is,0,2))) = some vs:=by simp [aload,h3]
 have hlx:aload Tryz.prog H1 60 (.p (some (H.next,0,0))) = some (.agg x.cells):=by simp [aload,hp,Shr.take]
 repeat refine AW_seq ?_
 refine AW_reg [0,3,5] fun K hK=>?_
 simp [init_eq]
 apply hK;clear hK K
 refine AW_block ?_
 refine AW_loop0 (fun i:Nat=>⟨24,[(0,.p (some (is,0,0))),(3,.p (some (H.next,0,0))),(5,.i .i64 i)]⟩) (fun i=>i ≤ sh.length ∧ ∀ j (hj:j < sh.length),j < i → sh[j] ≠ x) (fun i=>sh.length - i) 0 (by simp) (by simp) (by dsimp only; omega) fun hw i hM=>?_
 repeat refine AW_seq ?_
 refine AW_reg [0,3,5,12] fun K hK=>?_
 simp [init_eq,afieldAddr,hl3,lx]
 apply hK;clear hK K
 refine AW_cond' rfl rfl (fun hc=>?_) (fun hc=>?_)
 · have hi:i < sh.length:=by simpa using hc
   have hbin:abin Tryz.prog .eql 60 (.agg sh[i].cells) (.agg x.cells) = some (.b (decide (sh[i] = x))):=by show (Go.Abs.aeq ..).map V.b = _; rw [Shr.aeq]; rfl
   obtain ⟨ax,px,qx⟩:=hrs.rec Shr.len (by decide) (P:=Tryz.prog) qelem_25 qsize_60 qagg_60 hi
   refine AW_skip ?_
   repeat refine AW_seq ?_
   refine AW_block ?_
   repeat refine AW_seq ?_
   refine AW_regd [0,3,5,23] pl_108_4 pe_108_4 (by kernel_rfl) (by kernel_rfl) (by decide) fun K hK=>?_
   simp [init_eq,pl_108_4,afieldAddr,hl3,hlx,px,qx,hbin]
   apply hK;clear hK K
   refine AW_cond' rfl rfl (fun hc=>?_) (fun hc=>?_)
   · have he:sh[i] = x:=by simpa using hc
     have hm:x ∈ sh:=he ▸ List.getElem_mem hi
     repeat refine AW_seq ?_
     refine AW_reg [4] fun K hK=>?_
     simp [init_eq]
     apply hK;clear hK K
     exact AW_ret (end_ret rfl (pure_end hn ho (by simp [hm]) rfl))
   · have he:¬ sh[i] = x:=by simpa using hc
     refine AW_skip ?_
     refine AW_reg [0,3,5] fun K hK=>?_
     simp [init_eq,wrap_id (x:=(i:Int) + 1) (by omega) (by omega)]
     apply hK;clear hK K
     exact rend ⟨i + 1,by simp,⟨by omega,fun j hj hj'=>(Nat.lt_or_eq_of_le (Nat.le_of_lt_succ hj')).elim (fun h=>hM.2 j hj h) (fun h=>by subst h; exact he)⟩,by omega,.inl rfl⟩
 · have hi : i = sh.length := by have : ¬ i < sh.length := by simpa using hc
                                 omega
   have hm:x ∉ sh:=fun h=>by
    obtain ⟨j,hj,e⟩:=List.mem_iff_getElem.1 h
    exact hM.2 j hj (by omega) e
   refine AW_exit (then_exit (then_exit (block_here ?_)))
   repeat refine AW_seq ?_
   refine AW_reg [4] fun K hK=>?_
   simp [init_eq]
   apply hK;clear hK K
   exact AW_ret (end_ret rfl (pure_end hn ho (by simp [hm]) rfl))
end Go.Proofs.YtmhaimdpfelkpaaGreatDoor
set_option linter.unusedVariables false
set_option linter.unusedSimpArgs false
namespace Go.Proofs.YtmhaimdpfelkpaaGreatDoor
open Go Go.Abs Go.Proofs
set_option maxRecDepth 100000
attribute [local irreducible] AEnd AW ACalls
theorem asrc_new {P:Program} {G:AH} {l:List V} {sz:Nat} (hl:l.length = sz) (hs:0 < sz) {id:Nat} {b:Bool} (h:G.get id = some (.cells l 0 b sz)):asource P G sz (.sl (some (id,0,0)) 1 false) = some (l,1):=by
 simp [asource,h,hl,hs,List.take_of_length_le (Nat.le_of_eq hl)]
/-- All of a list behind a new one that is empty, then one more that lies there already. -/
theorem late_push {sh:List Shr} {x:Shr} (hl:sh.length ≤ 10000) {M:AH} {vs:V} {Fs:List Nat} {i0 ix:Nat} (h0:M.get i0 = some (.cells [] 0 false 11)) (hx:M.get ix = some (.cells x.cells 0 false 11)) (hs:Own M vs 11 (sh.map Shr.cells).flatten Fs) :
  ∃ v1 M1 v2 M2 F',aappend Tryz.prog M 25 25 (.sl (some (i0,0,0)) 0 false) vs = some (v1,M1) ∧ aappend Tryz.prog M1 25 25 v1 (.sl (some (ix,0,0)) 1 false) = some (v2,M2) ∧
   Own M2 v2 11 ((sh ++ [x]).map Shr.cells).flatten F' ∧ Upd M M1 [i0] ∧ Upd M M2 [i0] ∧ ∀ j ∈ F',j = i0 ∨ M.next ≤ j:=by
 have hne:ix ≠ i0:=fun e=>by rw [e,h0] at hx; cases hx
 have o1:Own M (.sl (some (i0,0,0)) 0 false) 11 [] [i0]:=.inr ⟨i0,0,0,rfl,h0,by simp,rfl⟩
 have hsrc:=hs.sl.asource (P:=Tryz.prog) (by decide)
 have hfl:(sh.map Shr.cells).flatten.length = sh.length * 11:=flatten_len (sz:=11) _ (fun l hl=>by obtain ⟨b,_,rfl⟩:=List.mem_map.1 hl; rfl) |>.trans (by simp)
 have hd:(sh.map Shr.cells).flatten.length / 11 = sh.length:=by rw [hfl,Nat.mul_div_cancel _ (by decide)]
 rw [hd] at hsrc
 obtain ⟨v1,M1,F1,q1,q2,q3,q4⟩:=Own.append app_shrs o1 hsrc hfl (by simp [roomOk]; omega)
 simp only [List.nil_append] at q2
 have hx1:=q3.keep (by simpa using hne) hx
 obtain ⟨v2,M2,F2,p1,p2,p3,p4⟩:=Own.append app_shrs q2 (asrc_new (P:=Tryz.prog) (Shr.len x) (by decide) hx1) (by simp) (by rw [hd]; simp [roomOk]; omega)
 refine ⟨v1,M1,v2,M2,F2,q1,p1,by simpa using p2,q3,q3.trans p3 (fun j hj=>?_),fun j hj=>?_⟩
 · rcases q4 j hj with h | h
   · exact .inl h
   · exact .inr h
 · rcases p4 j hj with h | h
   · rcases q4 j h with h | h
     · exact .inl (by simpa using h)
     · exact .inr h
   · have:=q3.1; exact .inr (by omega)
theorem mid_push {sh:List Shr} {x:Shr} (hl:sh.length ≤ 10000) {M:AH} {vs:V} {Fs:List Nat} {i0:Nat} (h0:M.get i0 = some (.cells [] 0 false 11)) (hs:Own M vs 11 (sh.map Shr.cells).flatten Fs) :
  ∃ v1 M1 v2 M2 F',aappend Tryz.prog M 25 25 (.sl (some (i0,0,0)) 0 false) vs = some (v1,M1) ∧ aappend Tryz.prog (M1.new (.cells x.cells 0 false 11)) 25 25 v1 (.sl (some (M1.next,0,0)) 1 false) = some (v2,M2) ∧
   Own M2 v2 11 ((sh ++ [x]).map Shr.cells).flatten F' ∧ Upd M M1 [i0] ∧ Upd M M2 [i0] ∧ ∀ j ∈ F',j = i0 ∨ M.next ≤ j:=by
 have o1:Own M (.sl (some (i0,0,0)) 0 false) 11 [] [i0]:=.inr ⟨i0,0,0,rfl,h0,by simp,rfl⟩
 have hsrc:=hs.sl.asource (P:=Tryz.prog) (by decide)
 have hfl:(sh.map Shr.cells).flatten.length = sh.length * 11:=flatten_len (sz:=11) _ (fun l hl=>by obtain ⟨b,_,rfl⟩:=List.mem_map.1 hl; rfl) |>.trans (by simp)
 have hd:(sh.map Shr.cells).flatten.length / 11 = sh.length:=by rw [hfl,Nat.mul_div_cancel _ (by decide)]
 rw [hd] at hsrc
 obtain ⟨v1,M1,F1,q1,q2,q3,q4⟩:=Own.append app_shrs o1 hsrc hfl (by simp [roomOk]; omega)
 simp only [List.nil_append] at q2
 have un:Upd M1 (M1.new (.cells x.cells 0 false 11)) []:=Upd.new ..
 obtain ⟨v2,M2,F2,p1,p2,p3,p4⟩:=Own.append app_shrs (q2.upd un (by simp)) (asrc_new (P:=Tryz.prog) (Shr.len x) (by decide) (AH.get_new_same M1 _)) (by simp) (by rw [hd]; simp [roomOk]; omega)
 have p3':=un.mono (by simp:∀ j ∈ [],j ∈ F1) |>.trans p3 (fun j hj=>.inl hj)
 refine ⟨v1,M1,v2,M2,F2,q1,p1,by simpa using p2,q3,q3.trans p3' (fun j hj=>?_),fun j hj=>?_⟩
 · rcases q4 j hj with h | h
   · exact .inl h
   · exact .inr h
 · rcases p4 j hj with h | h
   · rcases q4 j h with h | h
     · exact .inl (by simpa using h)
     · exact .inr h
   · have:=q3.1; simp at h; exact .inr (by omega)
theorem rissue_ok (H:AH) {is:Nat} {F:List Nat} {f:Int} {bad:BitVec 32} {sh:List Shr} (hs:RSignAt H is F f bad sh) (hl:sh.length ≤ 10000) (x:Shr):ACalls Tryz.prog 47 [.p (some (is,0,0)),.agg x.cells] H fun r H'=>(∃ e,r = .i .i64 e) ∧ ∃ F',RSignAt H' is F' f bad (shIssue f sh x) ∧ Upd H H' F ∧ ∀ j ∈ F',j ∈ F ∨ H.next ≤ j:=by
 refine ACalls_body Tryz.func47 rfl rfl ?_
 repeat refine AW_seq ?_
 refine AW_reg [0,3] fun K hK=>?_
 simp [init_eq,V.cells]
 obtain ⟨H1,e1,hp,hn,ho⟩:=H.boxed x.cells
 rw [e1]
 apply hK;clear hK K
 have u1:Upd H H1 []:=⟨by omega,fun j hj _=>ho j hj⟩
 have hs1:=hs.upd u1 (by simp)
 have hs1':=hs1
 have hlF:=hs.lt
 obtain ⟨vs,Fs,rfl,h2,h3,h6⟩:=hs1'
 have hl3:aload Tryz.prog H1 25 (.p (some (is,0,2))) = some vs:=by simp [aload,h3]
 have hlx:aload Tryz.prog H1 60 (.p (some (H.next,0,0))) = some (.agg x.cells):=by simp [aload,hp,Shr.take]
 repeat refine AW_seq ?_
 refine AW_regdto [0,3,17] pl_47_1 pe_47_1 ⟨34,[(0,.p (some (is,0,0))),(3,.p (some (H.next,0,0))),(17,.b (decide (x.signer < 0 ∨ qtimes 3 f ≤ x.signer)))]⟩ H1 (by kernel_rfl) (by kernel_rfl) (by decide) (fun K hk=>?_) ?_
 · simp [init_eq,pl_47_1,afieldAddr,aload,hp]
   by_cases g1:x.signer < 0
   · simpa [g1] using hk
   · simp [g1,afieldAddr,aload,hp,h3]
     refine ACalls.mono (rall_ok H1 f) fun r H' ⟨hr,e⟩=>?_
     subst hr e
     simpa [g1,afieldAddr,aload,hp] using hk
 refine AW_cond' rfl rfl (fun hc=>?_) (fun hc=>?_)
 · have g1:x.signer < 0 ∨ qtimes 3 f ≤ x.signer:=by simpa using hc
   repeat refine AW_seq ?_
   refine AW_reg [4] fun K hK=>?_
   simp [init_eq]
   apply hK;clear hK K
   refine AW_ret (end_ret rfl ⟨⟨_,rfl⟩,_,?_,u1.mono (by simp),fun j hj=>.inl hj⟩)
   have:shIssue f sh x = sh:=by rw [shIssue,replE,if_pos g1,if_pos (by decide)]
   rw [this]; exact hs1
 · have g1:¬ (x.signer < 0 ∨ qtimes 3 f ≤ x.signer):=by simpa using hc
   have g1':replE f x.signer = 0:=by rw [replE,if_neg g1]
   refine AW_skip ?_
   refine AW_cut (fun ρ G=>ρ = ⟨34,[]⟩ ∧ ∃ F',RSignAt G is F' f bad (shIssue f sh x) ∧ Upd H G (is :: Fs) ∧ ∀ j ∈ F',j ∈ (is :: Fs) ∨ H.next ≤ j) ?_ fun ρ G ⟨e1,F',q1,q2,q3⟩=>?_
   · repeat refine AW_seq ?_
     refine AW_reg [0,3,21] fun K hK=>?_
     simp [init_eq,hlx]
     refine ACalls.mono (rhas_ok H1 hs1 hl x) fun r H' ⟨hr,e⟩=>?_
     subst hr e
     try simp
     apply hK;clear hK K
     refine AW_cond' rfl rfl (fun hc=>?_) (fun hc=>?_)
     · have hm:x ∉ sh:=by simpa using hc
       have hsi:shIssue f sh x = sh ++ [x]:=by rw [shIssue,if_neg (by simp [g1']),addN,if_neg hm]
       rw [hsi]
       have hnd:is ∉ Fs ∧ Fs.Nodup:=by simpa using h2
       have hia:is < H'.next:=AH.get_lt h3
       have hi0:is < H.next:=hlF is (by simp)
       have key:∀ (M2:AH) (v2:V) (F':List Nat),Own M2 v2 11 ((sh ++ [x]).map Shr.cells).flatten F' → M2.get is = some (.cells [.i .i64 f,u32 bad,vs] 0 false 0) → H'.next ≤ M2.next → (∀ j,j < H'.next → M2.get j = H'.get j) → (∀ j ∈ F',H'.next ≤ j) →
         astore Tryz.prog M2 25 (.p (some (is,0,2))) v2 = some (M2.set is (.cells [.i .i64 f,u32 bad,v2] 0 false 0)) ∧ ∃ F',RSignAt (M2.set is (.cells [.i .i64 f,u32 bad,v2] 0 false 0)) is F' f bad (sh ++ [x]) ∧ Upd H (M2.set is (.cells [.i .i64 f,u32 bad,v2] 0 false 0)) (is :: Fs) ∧ ∀ j ∈ F',j ∈ (is :: Fs) ∨ H.next ≤ j:=by
        intro M2 v2 F' ho hg hn2 hk hF
        have hF':is ∉ F':=fun h=>by have:=hF _ h; omega
        have us:Upd M2 (M2.set is (.cells [.i .i64 f,u32 bad,v2] 0 false 0)) [is]:=Upd.set _ _ _ (by simp)
        refine ⟨by simp [astore,hg,ho.cells,splice],is :: F',⟨v2,F',rfl,by simp only [List.nodup_cons]; exact ⟨hF',own_nodup ho⟩,by rw [AH.get_set]; simp; omega,ho.upd us fun j hj=>by simp; exact fun e=>hF' (e ▸ hj)⟩,?_,fun j hj=>?_⟩
        · have um:Upd H' M2 []:=⟨hn2,fun j hj _=>hk j hj⟩
          exact ((u1.trans um (by simp)).mono (by simp):Upd H M2 (is :: Fs)).trans (us.mono (by simp)) (fun j hj=>.inl hj)
        · simp only [List.mem_cons] at hj
          rcases hj with rfl | hj
          · simp
          · have:=hF j hj; exact .inr (by omega)
       have e0:∀ G:AH,abuildSlice Tryz.prog G 25 0 [] = some (.sl (some (G.next,0,0)) 0 false,G.new (.cells [] 0 false 11)):=fun G=>by simp [abuildSlice,afill,V.cells]
       have ex:∀ G:AH,abuildSlice Tryz.prog G 25 1 [(0,.agg x.cells)] = some (.sl (some (G.next,0,0)) 1 false,G.new (.cells x.cells 0 false 11)):=fun G=>by
        simp [abuildSlice,afill,V.cells,List.replicate]; rw [splice_all]; rfl
       refine AW_regm (.base H'.next) [] pl_47_4 pe_47_4 (by kernel_rfl) (by kernel_rfl) (by decide) fun K hK=>?_
       simp [init_eq,pl_47_4,APlan_takem,through,tkOk,rid,afieldAddr,hl3,hlx,e0,ex,hia,hi0,hn]
       have fin:∀ (M2:AH) (v2:V) (F':List Nat),Own M2 v2 11 ((sh ++ [x]).map Shr.cells).flatten F' → Upd H' M2 [] → (∀ j ∈ F',H'.next ≤ j) → ∃ H'_2,astore Tryz.prog M2 25 (.p (some (is,0,2))) v2 = some H'_2 ∧ K { n:=34,l:=[] } H'_2:=by
        intro M2 v2 F' k1 k2 k3
        obtain ⟨r1,F2,r2,r3,r4⟩:=key M2 v2 F' k1 (k2.keep (by simp) h3) k2.1 (fun j hj=>k2.2 j hj (by simp)) k3
        exact ⟨_,r1,hK _ _ (rend ⟨_,by simp,rfl,F2,r2,r3,r4⟩)⟩
       refine ⟨by omega,⟨?_,?_⟩,?_⟩
       · have un:Upd H' (H'.new (.cells [] 0 false 11)) []:=Upd.new ..
         obtain ⟨v1,M1,v2,M2,F',q1,q2,q3,q4,q5,q6⟩:=mid_push (x:=x) hl (M:=H'.new (.cells [] 0 false 11)) (i0:=H.next + 1) (by rw [← hn]; exact AH.get_new_same ..) (h6.upd un (by simp))
         exact ⟨v1,M1,q1,⟨q4.1,fun j hj hl=>q4.2 j hj (by simp; omega)⟩,v2,M2,q2,fin M2 v2 F' q3 (un.trans q5 fun j hj=>.inr (by simp at hj; omega)) fun j hj=>(q6 j hj).elim (fun h=>by omega) (fun h=>by simp at h; omega)⟩
       · have un:Upd H' ((H'.new (.cells [] 0 false 11)).new (.cells x.cells 0 false 11)) []:=(Upd.new H' _ []).trans (Upd.new _ _ []) (by simp)
         obtain ⟨v1,M1,v2,M2,F',q1,q2,q3,q4,q5,q6⟩:=late_push (x:=x) hl (M:=(H'.new (.cells [] 0 false 11)).new (.cells x.cells 0 false 11)) (i0:=H.next + 1) (ix:=H.next + 1 + 1) (by rw [AH.get_new,if_neg (by simp; omega),← hn]; exact AH.get_new_same ..) (by rw [AH.get_new,if_pos (by simp; omega)]) (h6.upd un (by simp))
         exact ⟨v1,M1,q1,⟨q4.1,fun j hj hl=>q4.2 j hj (by simp; omega)⟩,v2,M2,q2,fin M2 v2 F' q3 (un.trans q5 fun j hj=>.inr (by simp at hj; omega)) fun j hj=>(q6 j hj).elim (fun h=>by omega) (fun h=>by simp at h; omega)⟩
       · have un:Upd H' ((H'.new (.cells x.cells 0 false 11)).new (.cells [] 0 false 11)) []:=(Upd.new H' _ []).trans (Upd.new _ _ []) (by simp)
         obtain ⟨v1,M1,v2,M2,F',q1,q2,q3,q4,q5,q6⟩:=late_push (x:=x) hl (M:=(H'.new (.cells x.cells 0 false 11)).new (.cells [] 0 false 11)) (i0:=H.next + 1 + 1) (ix:=H.next + 1) (by rw [AH.get_new,if_pos (by simp; omega)]) (by rw [AH.get_new,if_neg (by simp; omega),← hn]; exact AH.get_new_same ..) (h6.upd un (by simp))
         exact ⟨v1,M1,q1,⟨q4.1,fun j hj hl=>q4.2 j hj (by simp; omega)⟩,v2,M2,q2,fin M2 v2 F' q3 (un.trans q5 fun j hj=>.inr (by simp at hj; omega)) fun j hj=>(q6 j hj).elim (fun h=>by omega) (fun h=>by simp at h; omega)⟩
     · have hm:x ∈ sh:=by simpa using hc
       have hsi:shIssue f sh x = sh:=by rw [shIssue,if_neg (by simp [g1']),addN,if_pos hm]
       rw [hsi]
       exact AW_skip (rend ⟨_,by simp,rfl,_,hs1,u1.mono (by simp),fun j hj=>.inl hj⟩)
   subst e1
   repeat refine AW_seq ?_
   refine AW_reg [4] fun K hK=>?_
   simp [init_eq]
   apply hK;clear hK K
   exact AW_ret (end_ret rfl ⟨⟨_,rfl⟩,F',q1,q2,q3⟩)
end Go.Proofs.YtmhaimdpfelkpaaGreatDoor
set_option linter.unusedVariables false
set_option linter.unusedSimpArgs false
namespace Go.Proofs.YtmhaimdpfelkpaaGreatDoor
open Go Go.Abs Go.Proofs
set_option maxRecDepth 100000
attribute [local irreducible] AEnd AW ACalls
/-- What the document keeps of one that was chosen. -/
def givC (g:Int × Int):List V:=Shr.cells ⟨g.2,{ Stm.zero with view:=g.1 }⟩
theorem givC_len (g:Int × Int):(givC g).length = 11:=rfl
theorem givC_0 (g:Int × Int):(givC g)[0]? = some (.i .i64 g.2):=rfl
theorem givC_3 (g:Int × Int):(givC g)[3]? = some (.i .i64 g.1):=rfl
def viewC (n:Int):List V:=[.i .i64 n]
theorem viewC_len (n:Int):(viewC n).length = 1:=rfl
def RCoinAt (H:AH) (ic:Nat) (F:List Nat) (f:Int) (gv:List (Int × Int)) (sn:List Int):Prop :=
 ∃ vg vn Fg Fn,F = ic :: (Fg ++ Fn) ∧ F.Nodup ∧ H.get ic = some (.cells [.i .i64 f,vg,vn] 0 false 0) ∧ Own H vg 11 (gv.map givC).flatten Fg ∧ Own H vn 1 (sn.map viewC).flatten Fn
theorem RCoinAt.upd {H H':AH} {ic:Nat} {F G:List Nat} {f:Int} {gv:List (Int × Int)} {sn:List Int} (h:RCoinAt H ic F f gv sn) (hu:Upd H H' G) (hd:∀ j ∈ F,j ∉ G):RCoinAt H' ic F f gv sn:=by
 obtain ⟨vg,vn,Fg,Fn,rfl,h2,h3,h4,h5⟩:=h
 exact ⟨vg,vn,Fg,Fn,rfl,h2,hu.keep (hd ic (by simp)) h3,h4.upd hu fun j hj=>hd j (by simp [hj]),h5.upd hu fun j hj=>hd j (by simp [hj])⟩
theorem RCoinAt.lt {H:AH} {ic:Nat} {F:List Nat} {f:Int} {gv:List (Int × Int)} {sn:List Int} (h:RCoinAt H ic F f gv sn):∀ j ∈ F,j < H.next:=by
 obtain ⟨vg,vn,Fg,Fn,rfl,h2,h3,h4,h5⟩:=h
 intro j hj
 simp only [List.mem_cons,List.mem_append] at hj
 rcases hj with rfl | hj | hj
 · exact AH.get_lt h3
 · exact h4.lt j hj
 · exact h5.lt j hj
theorem rmay_ok (H:AH) (view:Int):ACalls Tryz.prog 110 [.i .i64 view] H fun r H'=>r = .b (decide (mayE view = 0)) ∧ H' = H:=by
 refine ACalls_body Tryz.func110 rfl rfl ?_
 repeat refine AW_seq ?_
 refine AW_reg [0] fun K hK=>?_
 simp [init_eq]
 apply hK;clear hK K
 repeat refine AW_seq ?_
 refine AW_regto [2] ⟨9,[(2,.b (decide (mayE view = 0)))]⟩ H (fun K hk=>?_) (AW_ret (end_ret rfl ⟨rfl,rfl⟩))
 by_cases g1:1 ≤ view
 · by_cases g2:view ≤ 1048576
   · have:mayE view = 0:=by rw [mayE,if_neg (by omega)]
     simpa [init_eq,g1,g2,this] using hk
   · have:mayE view = 70:=by rw [mayE,if_pos (by omega)]
     simpa [init_eq,g1,g2,this] using hk
 · have:mayE view = 70:=by rw [mayE,if_pos (by omega)]
   simpa [init_eq,g1,this] using hk
/-- Who was chosen for a view; -1: nobody. -/
def chosenN:List (Int × Int) → Int → Int
 | [],_=>-1
 | g :: l,view=>if g.1 = view then g.2 else chosenN l view
theorem chosenN_at:∀ {l:List (Int × Int)} {view:Int} {i:Nat} (hi:i < l.length),(∀ j (hj:j < l.length),j < i → l[j].1 ≠ view) → l[i].1 = view → chosenN l view = l[i].2
 | [],_,i,hi,_,_=>by simp at hi
 | g :: l,view,0,hi,_,h=>by simp at h; simp [chosenN,h]
 | g :: l,view,i + 1,hi,hn,h=>by
   have h0:¬ g.1 = view:=fun e=>hn 0 (by simp) (by omega) (by simp [e])
   simp only [chosenN,if_neg h0]
   rw [chosenN_at (l:=l) (i:=i) (by simpa using hi) (fun j hj hj'=>by have:=hn (j + 1) (by simpa using hj) (by omega); simpa using this) (by simpa using h)]
   rfl
theorem chosenN_none:∀ {l:List (Int × Int)} {view:Int},(∀ g ∈ l,g.1 ≠ view) → chosenN l view = -1
 | [],_,_=>rfl
 | g :: l,view,h=>by
   rw [chosenN,if_neg (h g (by simp)),chosenN_none fun g hg=>h g (by simp [hg])]
theorem rchosen_ok (H:AH) {ic:Nat} {F:List Nat} {f:Int} {gv:List (Int × Int)} {sn:List Int} (hs:RCoinAt H ic F f gv sn) (hl:gv.length ≤ 10000) (view:Int):ACalls Tryz.prog 111 [.p (some (ic,0,0)),.i .i64 view] H fun r H'=>r = .i .i64 (chosenN gv view) ∧ H' = H:=by
 obtain ⟨vg,vn,Fg,Fn,rfl,h2,h3,h4,h5⟩:=hs
 have hrs:RS H vg 11 (gv.map givC):=h4.rsR (by decide) givC_len
 have lx:=hrs.alen (P:=Tryz.prog) qelem_25 H
 have hl3:aload Tryz.prog H 25 (.p (some (ic,0,1))) = some vg:=by simp [aload,h3]
 refine ACalls_body Tryz.func111 rfl rfl ?_
 repeat refine AW_seq ?_
 refine AW_reg [0,1] fun K hK=>?_
 simp [init_eq]
 apply hK;clear hK K
 repeat refine AW_seq ?_
 refine AW_reg [0,1,5] fun K hK=>?_
 simp [init_eq]
 apply hK;clear hK K
 refine AW_block ?_
 refine AW_loop0 (fun i:Nat=>⟨34,[(0,.p (some (ic,0,0))),(1,.i .i64 view),(5,.i .i64 i)]⟩) (fun i=>i ≤ gv.length ∧ ∀ j (hj:j < gv.length),j < i → gv[j].1 ≠ view) (fun i=>gv.length - i) 0 (by simp) (by simp) (by dsimp only; omega) fun hw i hM=>?_
 repeat refine AW_seq ?_
 refine AW_reg [0,1,5,12] fun K hK=>?_
 simp [init_eq,afieldAddr,hl3,lx]
 apply hK;clear hK K
 refine AW_cond' rfl rfl (fun hc=>?_) (fun hc=>?_)
 · have hi:i < gv.length:=by simpa using hc
   obtain ⟨a0,px,hrec⟩:=hrs.at (P:=Tryz.prog) (t:=25) (by decide) qelem_25 qsize_60 (k:=.i64) i (l:=givC gv[i]) (by simp [hi])
   obtain ⟨id,g,off,c,ro,esz,rfl,r1,r2,r3⟩:=hrec
   have w0:c[off]? = some (.i .i64 gv[i].2):=by
    have:=congrArg (fun l=>l[0]?) r2
    simpa [givC_0,List.getElem?_take,List.getElem?_drop,givC_len] using this
   have w3:c[off + 1 + 2]? = some (.i .i64 gv[i].1):=by
    have:=congrArg (fun l=>l[3]?) r2
    simpa [givC_3,List.getElem?_take,List.getElem?_drop,givC_len] using this
   refine AW_skip ?_
   repeat refine AW_seq ?_
   refine AW_block ?_
   repeat refine AW_seq ?_
   refine AW_reg [0,1,5,25] fun K hK=>?_
   simp [init_eq,afieldAddr,h3,px,aload,r1,w3]
   apply hK;clear hK K
   refine AW_cond' rfl rfl (fun hc=>?_) (fun hc=>?_)
   · have he:gv[i].1 = view:=by simpa using hc
     repeat refine AW_seq ?_
     refine AW_reg [4] fun K hK=>?_
     simp [init_eq,afieldAddr,h3,px,aload,r1,w0]
     apply hK;clear hK K
     exact AW_ret (end_ret rfl ⟨by rw [chosenN_at hi hM.2 he]; rfl,rfl⟩)
   · have he:¬ gv[i].1 = view:=by simpa using hc
     refine AW_skip ?_
     refine AW_reg [0,1,5] fun K hK=>?_
     simp [init_eq,wrap_id (x:=(i:Int) + 1) (by omega) (by omega)]
     apply hK;clear hK K
     exact rend ⟨i + 1,by simp,⟨by omega,fun j hj hj'=>(Nat.lt_or_eq_of_le (Nat.le_of_lt_succ hj')).elim (fun h=>hM.2 j hj h) (fun h=>by subst h; exact he)⟩,by omega,.inl rfl⟩
 · have hi : i = gv.length := by have : ¬ i < gv.length := by simpa using hc
                                 omega
   refine AW_exit (then_exit (then_exit (block_here ?_)))
   repeat refine AW_seq ?_
   refine AW_reg [4] fun K hK=>?_
   simp [init_eq]
   apply hK;clear hK K
   refine AW_ret (end_ret rfl ⟨?_,rfl⟩)
   rw [chosenN_none fun g hg=>by
    obtain ⟨j,hj,e⟩:=List.mem_iff_getElem.1 hg
    rw [← e]; exact hM.2 j hj (by omega)]
   rfl
theorem rwas_ok (H:AH) {ic:Nat} {F:List Nat} {f:Int} {gv:List (Int × Int)} {sn:List Int} (hs:RCoinAt H ic F f gv sn) (hl:sn.length ≤ 10000) (view:Int):ACalls Tryz.prog 38 [.p (some (ic,0,0)),.i .i64 view] H fun r H'=>r = .b (decide (view ∈ sn)) ∧ H' = H:=by
 obtain ⟨vg,vn,Fg,Fn,rfl,h2,h3,h4,h5⟩:=hs
 have hrs:RS H vn 1 (sn.map viewC):=h5.rsR (by decide) viewC_len
 have lx:=hrs.alen (P:=Tryz.prog) qelem_64 H
 have hl3:aload Tryz.prog H 64 (.p (some (ic,0,2))) = some vn:=by simp [aload,h3]
 refine ACalls_body Tryz.func38 rfl rfl ?_
 repeat refine AW_seq ?_
 refine AW_reg [0,1] fun K hK=>?_
 simp [init_eq]
 apply hK;clear hK K
 repeat refine AW_seq ?_
 refine AW_reg [0,1,5] fun K hK=>?_
 simp [init_eq]
 apply hK;clear hK K
 refine AW_block ?_
 refine AW_loop0 (fun i:Nat=>⟨24,[(0,.p (some (ic,0,0))),(1,.i .i64 view),(5,.i .i64 i)]⟩) (fun i=>i ≤ sn.length ∧ ∀ j (hj:j < sn.length),j < i → sn[j] ≠ view) (fun i=>sn.length - i) 0 (by simp) (by simp) (by dsimp only; omega) fun hw i hM=>?_
 repeat refine AW_seq ?_
 refine AW_reg [0,1,5,12] fun K hK=>?_
 simp [init_eq,afieldAddr,hl3,lx]
 apply hK;clear hK K
 refine AW_cond' rfl rfl (fun hc=>?_) (fun hc=>?_)
 · have hi:i < sn.length:=by simpa using hc
   obtain ⟨ax,px,qx⟩:=hrs.at1 (P:=Tryz.prog) (t:=64) (e:=3) qelem_64 qsize_3 qagg_3 (k:=.i64) i (x:=.i .i64 sn[i]) (by simp [hi,viewC])
   refine AW_skip ?_
   repeat refine AW_seq ?_
   refine AW_block ?_
   repeat refine AW_seq ?_
   refine AW_reg [0,1,5,23] fun K hK=>?_
   simp [init_eq,afieldAddr,hl3,px,qx]
   apply hK;clear hK K
   refine AW_cond' rfl rfl (fun hc=>?_) (fun hc=>?_)
   · have he:sn[i] = view:=by simpa using hc
     have hm:view ∈ sn:=he ▸ List.getElem_mem hi
     repeat refine AW_seq ?_
     refine AW_reg [4] fun K hK=>?_
     simp [init_eq]
     apply hK;clear hK K
     exact AW_ret (end_ret rfl ⟨by simp [hm],rfl⟩)
   · have he:¬ sn[i] = view:=by simpa using hc
     refine AW_skip ?_
     refine AW_reg [0,1,5] fun K hK=>?_
     simp [init_eq,wrap_id (x:=(i:Int) + 1) (by omega) (by omega)]
     apply hK;clear hK K
     exact rend ⟨i + 1,by simp,⟨by omega,fun j hj hj'=>(Nat.lt_or_eq_of_le (Nat.le_of_lt_succ hj')).elim (fun h=>hM.2 j hj h) (fun h=>by subst h; exact he)⟩,by omega,.inl rfl⟩
 · have hi : i = sn.length := by have : ¬ i < sn.length := by simpa using hc
                                 omega
   have hm:view ∉ sn:=fun h=>by
    obtain ⟨j,hj,e⟩:=List.mem_iff_getElem.1 h
    exact hM.2 j hj (by omega) e
   refine AW_exit (then_exit (then_exit (block_here ?_)))
   repeat refine AW_seq ?_
   refine AW_reg [4] fun K hK=>?_
   simp [init_eq]
   apply hK;clear hK K
   exact AW_ret (end_ret rfl ⟨by simp [hm],rfl⟩)
/-- What the document keeps when one is chosen. -/
def gvChoose (f:Int) (gv:List (Int × Int)) (sn:List Int) (view who:Int):List (Int × Int) :=
 if mayE view ≠ 0 then gv else if who < 0 ∨ qtimes 3 f ≤ who then gv else if 0 ≤ chosenN gv view ∨ view ∈ sn then gv else gv ++ [(view,who)]
theorem gvChoose_len (f:Int) (gv:List (Int × Int)) (sn:List Int) (view who:Int):(gvChoose f gv sn view who).length ≤ gv.length + 1:=by
 unfold gvChoose; split
 · omega
 · split
   · omega
   · split <;> simp
theorem rchoose_ok (H:AH) {ic:Nat} {F:List Nat} {f:Int} {gv:List (Int × Int)} {sn:List Int} (hs:RCoinAt H ic F f gv sn) (hl:gv.length ≤ 10000) (hl2:sn.length ≤ 10000) (view who:Int):ACalls Tryz.prog 49 [.p (some (ic,0,0)),.i .i64 view,.i .i64 who] H fun r H'=>(∃ e,r = .i .i64 e) ∧ ∃ F',RCoinAt H' ic F' f (gvChoose f gv sn view who) sn ∧ Upd H H' F ∧ ∀ j ∈ F',j ∈ F ∨ H.next ≤ j:=by
 have hs0:=hs
 obtain ⟨vg,vn,Fg,Fn,rfl,h2,h3,h4,h5⟩:=hs
 refine ACalls_body Tryz.func49 rfl rfl ?_
 repeat refine AW_seq ?_
 refine AW_reg [0,1,2] fun K hK=>?_
 simp [init_eq]
 apply hK;clear hK K
 repeat refine AW_seq ?_
 refine AW_reg [0,1,2,9] fun K hK=>?_
 simp [init_eq]
 refine ACalls.mono (rmay_ok H view) fun r H' ⟨hr,e⟩=>?_
 subst hr e
 try simp
 apply hK;clear hK K
 refine AW_cond' rfl rfl (fun hc=>?_) (fun hc=>?_)
 · have g1:¬ mayE view = 0:=by simpa using hc
   repeat refine AW_seq ?_
   refine AW_reg [6] fun K hK=>?_
   simp [init_eq]
   apply hK;clear hK K
   refine AW_ret (end_ret rfl ⟨⟨_,rfl⟩,_,?_,Upd.refl ..,fun j hj=>.inl hj⟩)
   have:gvChoose f gv sn view who = gv:=by rw [gvChoose,if_pos g1]
   rw [this]; exact hs0
 · have g1:mayE view = 0:=by simpa using hc
   refine AW_skip ?_
   repeat refine AW_seq ?_
   refine AW_regto [0,1,2,20] ⟨43,[(0,.p (some (ic,0,0))),(1,.i .i64 view),(2,.i .i64 who),(20,.b (decide (who < 0 ∨ qtimes 3 f ≤ who)))]⟩ H' (fun K hk=>?_) ?_
   · by_cases g2:who < 0
     · simpa [init_eq,g2] using hk
     · simp [init_eq,g2,afieldAddr,aload,h3]
       refine ACalls.mono (rall_ok H' f) fun r H' ⟨hr,e⟩=>?_
       subst hr e
       simpa [g2] using hk
   refine AW_cond' rfl rfl (fun hc=>?_) (fun hc=>?_)
   · have g2:who < 0 ∨ qtimes 3 f ≤ who:=by simpa using hc
     repeat refine AW_seq ?_
     refine AW_reg [6] fun K hK=>?_
     simp [init_eq]
     apply hK;clear hK K
     refine AW_ret (end_ret rfl ⟨⟨_,rfl⟩,_,?_,Upd.refl ..,fun j hj=>.inl hj⟩)
     have:gvChoose f gv sn view who = gv:=by rw [gvChoose,if_neg (fun h=>h g1),if_pos g2]
     rw [this]; exact hs0
   · have g2:¬ (who < 0 ∨ qtimes 3 f ≤ who):=by simpa using hc
     refine AW_skip ?_
     repeat refine AW_seq ?_
     refine AW_regto [0,1,2,29] ⟨43,[(0,.p (some (ic,0,0))),(1,.i .i64 view),(2,.i .i64 who),(29,.b (decide (0 ≤ chosenN gv view ∨ view ∈ sn)))]⟩ H' (fun K hk=>?_) ?_
     · simp [init_eq]
       refine ACalls.mono (rchosen_ok H' hs0 hl view) fun r H' ⟨hr,e⟩=>?_
       subst hr e
       by_cases g3:0 ≤ chosenN gv view
       · simpa [g3] using hk
       · simp [g3]
         refine ACalls.mono (rwas_ok H' hs0 hl2 view) fun r H' ⟨hr,e⟩=>?_
         subst hr e
         simpa [g3] using hk
     refine AW_cond' rfl rfl (fun hc=>?_) (fun hc=>?_)
     · have g3:0 ≤ chosenN gv view ∨ view ∈ sn:=by simpa using hc
       repeat refine AW_seq ?_
       refine AW_reg [6] fun K hK=>?_
       simp [init_eq]
       apply hK;clear hK K
       refine AW_ret (end_ret rfl ⟨⟨_,rfl⟩,_,?_,Upd.refl ..,fun j hj=>.inl hj⟩)
       have:gvChoose f gv sn view who = gv:=by rw [gvChoose,if_neg (fun h=>h g1),if_neg g2,if_pos g3]
       rw [this]; exact hs0
     · have g3:¬ (0 ≤ chosenN gv view ∨ view ∈ sn):=by simpa using hc
       have hgv:gvChoose f gv sn view who = gv ++ [(view,who)]:=by rw [gvChoose,if_neg (fun h=>h g1),if_neg g2,if_neg g3]
       rw [hgv]
       obtain ⟨H1,v',H2,F',q1,q2,q3,q4,q5⟩:=h4.pushR (P:=Tryz.prog) (f:=givC) (t:=25) app_shrs qelem_25 qsize_60 qzero_60 rfl rfl (by decide) givC_len (x:=.agg (givC (view,who))) (view,who) rfl (by simp [roomOk]; omega)
       have hnd:ic ∉ Fg ∧ ic ∉ Fn ∧ Fg.Nodup ∧ Fn.Nodup ∧ ∀ j ∈ Fg,j ∉ Fn:=by
        simp only [List.nodup_cons,List.mem_append,not_or,List.nodup_append] at h2
        exact ⟨h2.1.1,h2.1.2,h2.2.1,h2.2.2.1,fun j hj hj'=>h2.2.2.2 j hj j hj' rfl⟩
       have g4:=q4.keep hnd.1 h3
       have hi1:=AH.get_lt h3
       have hl3:aload Tryz.prog H' 25 (.p (some (ic,0,1))) = some vg:=by simp [aload,h3]
       have hab:abuild Tryz.prog 58 [(2,.i .i64 view)] = some (.agg (Stm.cells { Stm.zero with view:=view })):=by simp [abuild,afill,V.cells,splice,Stm.zero,Stm.cells]
       have hab2:abuild Tryz.prog 60 [(0,.i .i64 who),(1,.agg (Stm.cells { Stm.zero with view:=view }))] = some (.agg (givC (view,who))):=by simp [abuild,afill,V.cells,splice,Stm.zero,Stm.cells,givC,Shr.cells]
       have hst:astore Tryz.prog H2 25 (.p (some (ic,0,1))) v' = some (H2.set ic (.cells [.i .i64 f,v',vn] 0 false 0)):=by simp [astore,g4,q3.cells,splice]
       refine AW_skip ?_
       repeat refine AW_seq ?_
       refine AW_reg [] fun K hK=>?_
       simp [init_eq,afieldAddr,hl3,hab,hab2,q1,q2,hst]
       apply hK;clear hK K
       have hn2:=q4.1
       have hF:ic ∉ F':=fun h=>(q5 _ h).elim hnd.1 (by omega)
       have hFn:∀ j ∈ F',j ∉ Fn:=fun j hj hj'=>(q5 j hj).elim (fun h=>hnd.2.2.2.2 j h hj') (fun h=>by have:=h5.lt j hj'; omega)
       have u3:Upd H2 (H2.set ic (.cells [.i .i64 f,v',vn] 0 false 0)) [ic]:=Upd.set _ _ _ (by simp)
       repeat refine AW_seq ?_
       refine AW_reg [6] fun K hK=>?_
       simp [init_eq]
       apply hK;clear hK K
       refine AW_ret (end_ret rfl ⟨⟨_,rfl⟩,ic :: (F' ++ Fn),⟨v',vn,F',Fn,rfl,?_,by rw [AH.get_set]; simp; omega,q3.upd u3 fun j hj=>by simp; exact fun e=>hF (e ▸ hj),(h5.upd q4 fun j hj hj'=>hnd.2.2.2.2 j hj' hj).upd u3 fun j hj=>by simp; exact fun e=>hnd.2.1 (e ▸ hj)⟩,?_,fun j hj=>?_⟩)
       · simp only [List.nodup_cons,List.mem_append,not_or,List.nodup_append]
         exact ⟨⟨hF,hnd.2.1⟩,own_nodup q3,hnd.2.2.2.1,fun a ha b hb e=>hFn a ha (e ▸ hb)⟩
       · exact (q4.mono (fun j hj=>by simp [hj]):Upd H' H2 (ic :: (Fg ++ Fn))).trans (u3.mono (by simp)) (fun j hj=>.inl hj)
       · simp only [List.mem_cons,List.mem_append] at hj
         rcases hj with rfl | hj | hj
         · simp
         · rcases q5 j hj with h | h
           · simp [h]
           · exact .inr h
         · simp [hj]
end Go.Proofs.YtmhaimdpfelkpaaGreatDoor
set_option linter.unusedVariables false
set_option linter.unusedSimpArgs false
namespace Go.Proofs.YtmhaimdpfelkpaaGreatDoor
open Go Go.Abs Go.Proofs
set_option maxRecDepth 100000
attribute [local irreducible] AEnd AW ACalls
/-- Nothing is in two of them. -/
def Dis (L:List (List Nat)):Prop:=L.Pairwise fun A B=>∀ j ∈ A,j ∉ B
theorem Dis.ne:∀ {L:List (List Nat)},Dis L → ∀ {i k:Nat} {A B:List Nat},L[i]? = some A → L[k]? = some B → i ≠ k → ∀ j ∈ A,j ∉ B
 | [],_,i,k,A,B,hi,_,_=>by simp at hi
 | X :: L,h,0,0,A,B,hi,hk,hne=>absurd rfl hne
 | X :: L,h,0,k + 1,A,B,hi,hk,hne=>by
   have h1:=(List.pairwise_cons.1 h).1
   simp at hi hk
   subst hi
   exact h1 B (List.mem_of_getElem? hk)
 | X :: L,h,i + 1,0,A,B,hi,hk,hne=>by
   have h1:=(List.pairwise_cons.1 h).1
   simp at hi hk
   subst hk
   exact fun j hj hj'=>h1 A (List.mem_of_getElem? hi) j hj' hj
 | X :: L,h,i + 1,k + 1,A,B,hi,hk,hne=>Dis.ne (List.pairwise_cons.1 h).2 (by simpa using hi) (by simpa using hk) (by omega)
theorem Dis.set:∀ {L:List (List Nat)},Dis L → ∀ {k:Nat} {A F':List Nat} {n:Nat},(∀ B ∈ L,∀ j ∈ B,j < n) → L[k]? = some A → (∀ j ∈ F',j ∈ A ∨ n ≤ j) → Dis (L.set k F')
 | [],h,k,A,F',n,hlt,hk,hF=>by simp at hk
 | X :: L,h,0,A,F',n,hlt,hk,hF=>by
   simp at hk; subst hk
   obtain ⟨h1,h2⟩:=List.pairwise_cons.1 h
   refine List.pairwise_cons.2 ⟨fun B hB j hj hj'=>?_,h2⟩
   rcases hF j hj with e | e
   · exact h1 B hB j e hj'
   · have:=hlt B (by simp [hB]) j hj'; omega
 | X :: L,h,k + 1,A,F',n,hlt,hk,hF=>by
   obtain ⟨h1,h2⟩:=List.pairwise_cons.1 h
   have hk':L[k]? = some A:=by simpa using hk
   refine List.pairwise_cons.2 ⟨fun B hB j hj hj'=>?_,Dis.set h2 (fun B hB=>hlt B (by simp [hB])) hk' hF⟩
   rcases List.mem_or_eq_of_mem_set hB with e | e
   · exact h1 B e j hj hj'
   · subst e
     rcases hF j hj' with e | e
     · exact h1 A (List.mem_of_getElem? hk') j hj e
     · have:=hlt X (by simp) j hj; omega
/-- All six; what lies at 'kp' is as it was in 'HK'. -/
structure Six (kp:Nat → Prop) (HK H:AH) (ib is ic jb js jc:Nat) (f:Int) (bad:BitVec 32) (bk bk':List (List UInt8)) (sh sh':List Shr) (co:Int → Tos) (gv:List (Int × Int)) (FB FS FC GB GS GC:List Nat):Prop where
 book:BookAt H ib FB bk
 sign:SignAt H is FS f bad sh
 coin:CoinAt H ic FC f co
 rbook:RBookAt H jb GB bk'
 rsign:RSignAt H js GS f bad sh'
 rcoin:RCoinAt H jc GC f gv []
 dis:Dis [FB,FS,FC,GB,GS,GC]
 nkp:∀ A ∈ [FB,FS,FC,GB,GS,GC],∀ j ∈ A,¬ kp j
 same:∀ j,kp j → H.get j = HK.get j
 lt:∀ j,kp j → j < HK.next
 next:HK.next ≤ H.next
section
variable {kp:Nat → Prop} {HK H:AH} {ib is ic jb js jc:Nat} {f:Int} {bad:BitVec 32} {bk bk':List (List UInt8)} {sh sh':List Shr} {co:Int → Tos} {gv:List (Int × Int)} {FB FS FC GB GS GC:List Nat}
theorem Six.all (h:Six kp HK H ib is ic jb js jc f bad bk bk' sh sh' co gv FB FS FC GB GS GC):∀ B ∈ [FB,FS,FC,GB,GS,GC],∀ j ∈ B,j < H.next:=by
 intro B hB j hj
 simp only [List.mem_cons,List.not_mem_nil,or_false] at hB
 rcases hB with rfl | rfl | rfl | rfl | rfl | rfl
 · exact h.book.lt j hj
 · exact h.sign.lt j hj
 · exact h.coin.lt j hj
 · exact h.rbook.lt j hj
 · exact h.rsign.lt j hj
 · exact h.rcoin.lt j hj
theorem six_side (h:Six kp HK H ib is ic jb js jc f bad bk bk' sh sh' co gv FB FS FC GB GS GC) {k:Nat} {A F':List Nat} (hk:[FB,FS,FC,GB,GS,GC][k]? = some A) {H':AH} (hu:Upd H H' A) (hF:∀ j ∈ F',j ∈ A ∨ H.next ≤ j) :
  Dis ([FB,FS,FC,GB,GS,GC].set k F') ∧ (∀ B ∈ [FB,FS,FC,GB,GS,GC].set k F',∀ j ∈ B,¬ kp j) ∧ (∀ j,kp j → H'.get j = HK.get j) ∧ HK.next ≤ H'.next:=by
 have hA:=List.mem_of_getElem? hk
 refine ⟨h.dis.set h.all hk hF,fun B hB j hj hp=>?_,fun j hp=>?_,Nat.le_trans h.next hu.1⟩
 · rcases List.mem_or_eq_of_mem_set hB with e | e
   · exact h.nkp B e j hj hp
   · subst e
     rcases hF j hj with e | e
     · exact h.nkp A hA j e hp
     · have:=h.lt j hp; have:=h.next; omega
 · rw [hu.2 j (by have:=h.lt j hp; have:=h.next; omega) fun hj=>h.nkp A hA j hj hp,h.same j hp]
theorem six_enter (h:Six kp HK H ib is ic jb js jc f bad bk bk' sh sh' co gv FB FS FC GB GS GC) (hl:bk.length ≤ 10000) (s:List UInt8):ACalls Tryz.prog 18 [.p (some (ib,0,0)),.s s] H fun r H'=>(∃ a b,r = .tup [.i .i64 a,.i .i64 b]) ∧ H.next ≤ H'.next ∧ ∃ FB,Six kp HK H' ib is ic jb js jc f bad (bkEnter bk s) bk' sh sh' co gv FB FS FC GB GS GC :=
 (bookEnter_ok H h.book (by omega) s).mono fun r H' ⟨hr,F',h1,h2,h3⟩=>by
   obtain ⟨s1,s2,s3,s4⟩:=six_side h (k:=0) rfl h2 h3
   exact ⟨hr,h2.1,F',h1,h.sign.upd h2 (h.dis.ne (i:=1) (k:=0) rfl rfl (by decide)),h.coin.upd h2 (h.dis.ne (i:=2) (k:=0) rfl rfl (by decide)),h.rbook.upd h2 (h.dis.ne (i:=3) (k:=0) rfl rfl (by decide)),h.rsign.upd h2 (h.dis.ne (i:=4) (k:=0) rfl rfl (by decide)),h.rcoin.upd h2 (h.dis.ne (i:=5) (k:=0) rfl rfl (by decide)),s1,s2,s3,h.lt,s4⟩
theorem six_renter (h:Six kp HK H ib is ic jb js jc f bad bk bk' sh sh' co gv FB FS FC GB GS GC) (hl:bk'.length ≤ 10000) (s:List UInt8):ACalls Tryz.prog 46 [.p (some (jb,0,0)),.s s] H fun r H'=>(∃ a b,r = .tup [.i .i64 a,.i .i64 b]) ∧ H.next ≤ H'.next ∧ ∃ GB,Six kp HK H' ib is ic jb js jc f bad bk (bkEnter bk' s) sh sh' co gv FB FS FC GB GS GC :=
 (rbookEnter_ok H h.rbook hl s).mono fun r H' ⟨hr,F',h1,h2,h3⟩=>by
   obtain ⟨s1,s2,s3,s4⟩:=six_side h (k:=3) rfl h2 h3
   exact ⟨hr,h2.1,F',h.book.upd h2 (h.dis.ne (i:=0) (k:=3) rfl rfl (by decide)),h.sign.upd h2 (h.dis.ne (i:=1) (k:=3) rfl rfl (by decide)),h.coin.upd h2 (h.dis.ne (i:=2) (k:=3) rfl rfl (by decide)),h1,h.rsign.upd h2 (h.dis.ne (i:=4) (k:=3) rfl rfl (by decide)),h.rcoin.upd h2 (h.dis.ne (i:=5) (k:=3) rfl rfl (by decide)),s1,s2,s3,h.lt,s4⟩
theorem six_issue (h:Six kp HK H ib is ic jb js jc f bad bk bk' sh sh' co gv FB FS FC GB GS GC) (hl:sh.length ≤ 10000) (x:Shr):ACalls Tryz.prog 17 [.p (some (is,0,0)),.agg x.cells] H fun r H'=>(∃ e,r = .i .i64 e) ∧ H.next ≤ H'.next ∧ ∃ FS,Six kp HK H' ib is ic jb js jc f bad bk bk' (shIssue f sh x) sh' co gv FB FS FC GB GS GC :=
 (issue_ok H h.sign (by omega) x).mono fun r H' ⟨hr,F',h1,h2,h3⟩=>by
   obtain ⟨s1,s2,s3,s4⟩:=six_side h (k:=1) rfl h2 h3
   exact ⟨hr,h2.1,F',h.book.upd h2 (h.dis.ne (i:=0) (k:=1) rfl rfl (by decide)),h1,h.coin.upd h2 (h.dis.ne (i:=2) (k:=1) rfl rfl (by decide)),h.rbook.upd h2 (h.dis.ne (i:=3) (k:=1) rfl rfl (by decide)),h.rsign.upd h2 (h.dis.ne (i:=4) (k:=1) rfl rfl (by decide)),h.rcoin.upd h2 (h.dis.ne (i:=5) (k:=1) rfl rfl (by decide)),s1,s2,s3,h.lt,s4⟩
theorem six_rissue (h:Six kp HK H ib is ic jb js jc f bad bk bk' sh sh' co gv FB FS FC GB GS GC) (hl:sh'.length ≤ 10000) (x:Shr):ACalls Tryz.prog 47 [.p (some (js,0,0)),.agg x.cells] H fun r H'=>(∃ e,r = .i .i64 e) ∧ H.next ≤ H'.next ∧ ∃ GS,Six kp HK H' ib is ic jb js jc f bad bk bk' sh (shIssue f sh' x) co gv FB FS FC GB GS GC :=
 (rissue_ok H h.rsign hl x).mono fun r H' ⟨hr,F',h1,h2,h3⟩=>by
   obtain ⟨s1,s2,s3,s4⟩:=six_side h (k:=4) rfl h2 h3
   exact ⟨hr,h2.1,F',h.book.upd h2 (h.dis.ne (i:=0) (k:=4) rfl rfl (by decide)),h.sign.upd h2 (h.dis.ne (i:=1) (k:=4) rfl rfl (by decide)),h.coin.upd h2 (h.dis.ne (i:=2) (k:=4) rfl rfl (by decide)),h.rbook.upd h2 (h.dis.ne (i:=3) (k:=4) rfl rfl (by decide)),h1,h.rcoin.upd h2 (h.dis.ne (i:=5) (k:=4) rfl rfl (by decide)),s1,s2,s3,h.lt,s4⟩
theorem six_choose (h:Six kp HK H ib is ic jb js jc f bad bk bk' sh sh' co gv FB FS FC GB GS GC) (view who:Int):ACalls Tryz.prog 48 [.p (some (ic,0,0)),.i .i64 view,.i .i64 who] H fun r H'=>(∃ e,r = .i .i64 e) ∧ H.next ≤ H'.next ∧ ∃ FC,Six kp HK H' ib is ic jb js jc f bad bk bk' sh sh' (coChoose f co view who) gv FB FS FC GB GS GC :=
 (choose_ok H h.coin view who).mono fun r H' ⟨hr,h1,h2⟩=>by
   obtain ⟨s1,s2,s3,s4⟩:=six_side h (k:=2) (F':=FC) rfl h2 (fun j hj=>.inl hj)
   exact ⟨hr,h2.1,FC,h.book.upd h2 (h.dis.ne (i:=0) (k:=2) rfl rfl (by decide)),h.sign.upd h2 (h.dis.ne (i:=1) (k:=2) rfl rfl (by decide)),h1,h.rbook.upd h2 (h.dis.ne (i:=3) (k:=2) rfl rfl (by decide)),h.rsign.upd h2 (h.dis.ne (i:=4) (k:=2) rfl rfl (by decide)),h.rcoin.upd h2 (h.dis.ne (i:=5) (k:=2) rfl rfl (by decide)),s1,s2,s3,h.lt,s4⟩
theorem six_rchoose (h:Six kp HK H ib is ic jb js jc f bad bk bk' sh sh' co gv FB FS FC GB GS GC) (hl:gv.length ≤ 10000) (view who:Int):ACalls Tryz.prog 49 [.p (some (jc,0,0)),.i .i64 view,.i .i64 who] H fun r H'=>(∃ e,r = .i .i64 e) ∧ H.next ≤ H'.next ∧ ∃ GC,Six kp HK H' ib is ic jb js jc f bad bk bk' sh sh' co (gvChoose f gv [] view who) FB FS FC GB GS GC :=
 (rchoose_ok H h.rcoin hl (by simp) view who).mono fun r H' ⟨hr,F',h1,h2,h3⟩=>by
   obtain ⟨s1,s2,s3,s4⟩:=six_side h (k:=5) rfl h2 h3
   exact ⟨hr,h2.1,F',h.book.upd h2 (h.dis.ne (i:=0) (k:=5) rfl rfl (by decide)),h.sign.upd h2 (h.dis.ne (i:=1) (k:=5) rfl rfl (by decide)),h.coin.upd h2 (h.dis.ne (i:=2) (k:=5) rfl rfl (by decide)),h.rbook.upd h2 (h.dis.ne (i:=3) (k:=5) rfl rfl (by decide)),h.rsign.upd h2 (h.dis.ne (i:=4) (k:=5) rfl rfl (by decide)),h1,s1,s2,s3,h.lt,s4⟩
end
/-! What makes registers. -/
structure InD where
 f:Int
 bad:BitVec 32
 bl:List (Blk × V × V)
 ct:List (List UInt8)
 sh:List Shr
 cn:List Shr
def blkC (x:Blk × V × V):List V:=x.1.cells x.2.1 x.2.2
theorem blkC_len (x:Blk × V × V):(blkC x).length = 14:=rfl
structure InAt (H:AH) (i:InD) (l:List V):Prop where
 ex:∃ vb vc vs vk,l = [.i .i64 i.f,u32 i.bad,vb,vc,vs,vk] ∧ RS H vb 14 (i.bl.map blkC) ∧ RS H vc 1 (i.ct.map txtC) ∧ RS H vs 11 (i.sh.map Shr.cells) ∧ RS H vk 11 (i.cn.map Shr.cells)
 blk:∀ x ∈ i.bl,BlkAt H x.1 x.2.1 x.2.2
theorem InAt.same {H H':AH} {i:InD} {l:List V} (h:InAt H i l) (hx:∀ j,j < H.next → H'.get j = H.get j):InAt H' i l:=by
 obtain ⟨vb,vc,vs,vk,e,h1,h2,h3,h4⟩:=h.ex
 exact ⟨⟨vb,vc,vs,vk,e,h1.same hx,h2.same hx,h3.same hx,h4.same hx⟩,fun x hxx=>(h.blk x hxx).same hx⟩
/-- Is it more than is looked at? -/
def farB (i:InD):Bool:=decide (30 < i.bl.length ∨ 10 < i.ct.length ∨ 120 < i.sh.length ∨ 20 < i.cn.length) || i.bl.any (fun x=>x.1.great) || i.ct.any fun s=>decide (3000 < s.length)
end Go.Proofs.YtmhaimdpfelkpaaGreatDoor
set_option linter.unusedVariables false
set_option linter.unusedSimpArgs false
namespace Go.Proofs.YtmhaimdpfelkpaaGreatDoor
open Go Go.Abs Go.Proofs
set_option maxRecDepth 100000
attribute [local irreducible] AEnd AW ACalls
theorem far_ok (H:AH) {i:InD} {l:List V} (hi:InAt H i l):ACalls Tryz.prog 9 [.agg l] H fun r H'=>r = .b (farB i) ∧ H' = H:=by
 refine ACalls.pure (Q:=fun r=>r = .b (farB i)) ⟨_,Tryz.func9,rfl,rfl⟩ ?_
 refine ACalls_body Tryz.func9 rfl rfl ?_
 repeat refine AW_seq ?_
 refine AW_reg [1] fun K hK=>?_
 simp [init_eq,V.cells]
 obtain ⟨H1,e1,hp,hn,ho⟩:=H.boxed l
 rw [e1]
 apply hK;clear hK K
 have hi1:=hi.same ho
 obtain ⟨vb,vc,vs,vk,el,h1,h2,h3,h4⟩:=hi1.ex
 rw [el] at hp
 have l1:=h1.alen (P:=Tryz.prog) qelem_23 H1
 have l2:=h2.alen (P:=Tryz.prog) qelem_24 H1
 have l3:=h3.alen (P:=Tryz.prog) qelem_25 H1
 have l4:=h4.alen (P:=Tryz.prog) qelem_25 H1
 repeat refine AW_seq ?_
 refine AW_regto [1,26] ⟨54,[(1,.p (some (H.next,0,0))),(26,.b (decide (30 < i.bl.length ∨ 10 < i.ct.length ∨ 120 < i.sh.length ∨ 20 < i.cn.length)))]⟩ H1 (fun K hk=>?_) ?_
 · by_cases g1:30 < i.bl.length
   · have g1':(30:Int) < i.bl.length:=by omega
     simpa [init_eq,afieldAddr,aload,hp,l1,g1,g1'] using hk
   have g1':¬ (30:Int) < i.bl.length:=by omega
   by_cases g2:10 < i.ct.length
   · have g2':(10:Int) < i.ct.length:=by omega
     simpa [init_eq,afieldAddr,aload,hp,l1,l2,g1,g1',g2,g2'] using hk
   have g2':¬ (10:Int) < i.ct.length:=by omega
   by_cases g3:120 < i.sh.length
   · have g3':(120:Int) < i.sh.length:=by omega
     simpa [init_eq,afieldAddr,aload,hp,l1,l2,l3,g1,g1',g2,g2',g3,g3'] using hk
   have g3':¬ (120:Int) < i.sh.length:=by omega
   by_cases g4:20 < i.cn.length
   · have g4':(20:Int) < i.cn.length:=by omega
     simpa [init_eq,afieldAddr,aload,hp,l1,l2,l3,l4,g1,g1',g2,g2',g3,g3',g4,g4'] using hk
   · have g4':¬ (20:Int) < i.cn.length:=by omega
     simpa [init_eq,afieldAddr,aload,hp,l1,l2,l3,l4,g1,g1',g2,g2',g3,g3',g4,g4'] using hk
 refine AW_cond' rfl rfl (fun hc=>?_) (fun hc=>?_)
 · have g:decide (30 < i.bl.length ∨ 10 < i.ct.length ∨ 120 < i.sh.length ∨ 20 < i.cn.length) = true:=hc
   repeat refine AW_seq ?_
   refine AW_reg [2] fun K hK=>?_
   simp [init_eq]
   apply hK;clear hK K
   exact AW_ret (end_ret rfl (pure_end hn ho (by simp only [farB,g]; rfl) rfl))
 · have g:¬ (30 < i.bl.length ∨ 10 < i.ct.length ∨ 120 < i.sh.length ∨ 20 < i.cn.length):=by simpa using hc
   have fb:farB i = (i.bl.any (fun x=>x.1.great) || i.ct.any fun s=>decide (3000 < s.length)):=by simp only [farB,g,decide_false,Bool.false_or]
   refine AW_skip ?_
   repeat refine AW_seq ?_
   refine AW_reg [1,3] fun K hK=>?_
   simp [init_eq]
   apply hK;clear hK K
   refine AW_block ?_
   refine AW_loop0 (fun k:Nat=>⟨54,[(1,.p (some (H.next,0,0))),(3,.i .i64 k)]⟩) (fun k=>k ≤ i.bl.length ∧ ∀ j (hj:j < i.bl.length),j < k → i.bl[j].1.great = false) (fun k=>i.bl.length - k) 0 (by simp) (by simp) (by dsimp only; omega) fun hw k hM=>?_
   repeat refine AW_seq ?_
   refine AW_reg [1,3,31] fun K hK=>?_
   simp [init_eq,afieldAddr,aload,hp,l1]
   apply hK;clear hK K
   refine AW_cond' rfl rfl (fun hc=>?_) (fun hc=>?_)
   · have hk:k < i.bl.length:=by simpa using hc
     obtain ⟨ax,px,qx⟩:=h1.rec blkC_len (by decide) (P:=Tryz.prog) qelem_23 qsize_33 qagg_33 hk
     have hlb:aload Tryz.prog H1 23 (.p (some (H.next,0,2))) = some vb:=by simp [aload,hp]
     refine AW_skip ?_
     repeat refine AW_seq ?_
     refine AW_block ?_
     repeat refine AW_seq ?_
     refine AW_reg [1,3,39] fun K hK=>?_
     simp [init_eq,afieldAddr,hlb,px,qx,blkC]
     refine ACalls.mono (greatBlk_ok H1 (hi1.blk _ (List.getElem_mem hk))) fun r H' ⟨hr,e⟩=>?_
     subst hr e
     try simp
     apply hK;clear hK K
     refine AW_cond' rfl rfl (fun hc=>?_) (fun hc=>?_)
     · have hg:i.bl[k].1.great = true:=by simpa using hc
       repeat refine AW_seq ?_
       refine AW_reg [2] fun K hK=>?_
       simp [init_eq]
       apply hK;clear hK K
       refine AW_ret (end_ret rfl (pure_end hn ho ?_ rfl))
       have:i.bl.any (fun x=>x.1.great) = true:=List.any_eq_true.2 ⟨_,List.getElem_mem hk,hg⟩
       rw [fb,this]; rfl
     · have hg:i.bl[k].1.great = false:=by simpa using hc
       refine AW_skip ?_
       refine AW_reg [1,3] fun K hK=>?_
       simp [init_eq,wrap_id (x:=(k:Int) + 1) (by omega) (by omega)]
       apply hK;clear hK K
       exact rend ⟨k + 1,by simp,⟨by omega,fun j hj hj'=>(Nat.lt_or_eq_of_le (Nat.le_of_lt_succ hj')).elim (fun h=>hM.2 j hj h) (fun h=>by subst h; exact hg)⟩,by omega,.inl rfl⟩
   · have hk : k = i.bl.length := by have : ¬ k < i.bl.length := by simpa using hc
                                     omega
     have fb2:farB i = i.ct.any fun s=>decide (3000 < s.length):=by
      have:i.bl.any (fun x=>x.1.great) = false:=by
       rw [List.any_eq_false]
       intro x hx
       obtain ⟨j,hj,e⟩:=List.mem_iff_getElem.1 hx
       have:=hM.2 j hj (by omega)
       rw [← e]; simp [this]
      rw [fb,this]; rfl
     refine AW_exit (then_exit (then_exit (block_here ?_)))
     clear hM
     repeat refine AW_seq ?_
     refine AW_reg [1,4] fun K hK=>?_
     simp [init_eq]
     apply hK;clear hK K
     refine AW_block ?_
     refine AW_loop0 (fun k:Nat=>⟨54,[(1,.p (some (H.next,0,0))),(4,.i .i64 k)]⟩) (fun k=>k ≤ i.ct.length ∧ ∀ j (hj:j < i.ct.length),j < k → ¬ 3000 < i.ct[j].length) (fun k=>i.ct.length - k) 0 (by simp) (by simp) (by dsimp only; omega) fun hw k hM=>?_
     repeat refine AW_seq ?_
     refine AW_reg [1,4,44] fun K hK=>?_
     simp [init_eq,afieldAddr,aload,hp,l2]
     apply hK;clear hK K
     refine AW_cond' rfl rfl (fun hc=>?_) (fun hc=>?_)
     · have hk:k < i.ct.length:=by simpa using hc
       obtain ⟨ax,px,qx⟩:=h2.at1 (P:=Tryz.prog) (t:=24) (e:=9) qelem_24 qsize_9 qagg_9 (k:=.i64) k (x:=.s i.ct[k]) (by simp [hk,txtC])
       have hlb:aload Tryz.prog H1 24 (.p (some (H.next,0,3))) = some vc:=by simp [aload,hp]
       refine AW_skip ?_
       repeat refine AW_seq ?_
       refine AW_block ?_
       repeat refine AW_seq ?_
       refine AW_reg [1,4,53] fun K hK=>?_
       simp [init_eq,afieldAddr,hlb,px,qx,alen]
       apply hK;clear hK K
       refine AW_cond' rfl rfl (fun hc=>?_) (fun hc=>?_)
       · have hg:3000 < i.ct[k].length:=by simp at hc; omega
         repeat refine AW_seq ?_
         refine AW_reg [2] fun K hK=>?_
         simp [init_eq]
         apply hK;clear hK K
         refine AW_ret (end_ret rfl (pure_end hn ho ?_ rfl))
         have:i.ct.any (fun s=>decide (3000 < s.length)) = true:=List.any_eq_true.2 ⟨_,List.getElem_mem hk,by simpa using hg⟩
         rw [fb2,this]; rfl
       · have hg:¬ 3000 < i.ct[k].length:=by simp at hc; omega
         refine AW_skip ?_
         refine AW_reg [1,4] fun K hK=>?_
         simp [init_eq,wrap_id (x:=(k:Int) + 1) (by omega) (by omega)]
         apply hK;clear hK K
         exact rend ⟨k + 1,by simp,⟨by omega,fun j hj hj'=>(Nat.lt_or_eq_of_le (Nat.le_of_lt_succ hj')).elim (fun h=>hM.2 j hj h) (fun h=>by subst h; exact hg)⟩,by omega,.inl rfl⟩
     · have hk : k = i.ct.length := by have : ¬ k < i.ct.length := by simpa using hc
                                       omega
       refine AW_exit (then_exit (then_exit (block_here ?_)))
       repeat refine AW_seq ?_
       refine AW_reg [2] fun K hK=>?_
       simp [init_eq]
       apply hK;clear hK K
       refine AW_ret (end_ret rfl (pure_end hn ho ?_ rfl))
       have:i.ct.any (fun s=>decide (3000 < s.length)) = false:=by
        rw [List.any_eq_false]
        intro x hx
        obtain ⟨j,hj,e⟩:=List.mem_iff_getElem.1 hx
        have:=hM.2 j hj (by omega)
        rw [← e]; simp; omega
       rw [fb2,this]; rfl
end Go.Proofs.YtmhaimdpfelkpaaGreatDoor
set_option linter.unusedVariables false
set_option linter.unusedSimpArgs false
namespace Go.Proofs.YtmhaimdpfelkpaaGreatDoor
open Go Go.Abs Go.Proofs
set_option maxRecDepth 100000
theorem tv_stm {H:AH} {n:Nat} {l:List V} (h:TV Tryz.prog H (n + 2) 58 l):∃ s:Stm,l = s.cells:=by
 obtain ⟨x0,e0,_⟩:=(h.fld Tryz.underlying58 0 rfl rfl rfl cellsOf_3).int Tryz.underlying3
 obtain ⟨x1,e1,_⟩:=(h.fld Tryz.underlying58 1 rfl rfl rfl cellsOf_3).int Tryz.underlying3
 obtain ⟨x2,e2,_⟩:=(h.fld Tryz.underlying58 2 rfl rfl rfl cellsOf_3).int Tryz.underlying3
 obtain ⟨x3,e3,_⟩:=(h.fld Tryz.underlying58 3 rfl rfl rfl cellsOf_3).int Tryz.underlying3
 obtain ⟨x4,e4,_⟩:=(h.fld Tryz.underlying58 4 rfl rfl rfl cellsOf_3).int Tryz.underlying3
 obtain ⟨x5,e5,_⟩:=(h.fld Tryz.underlying58 5 rfl rfl rfl cellsOf_3).int Tryz.underlying3
 obtain ⟨x6,e6,_⟩:=(h.fld Tryz.underlying58 6 rfl rfl rfl cellsOf_3).int Tryz.underlying3
 obtain ⟨x7,e7,_⟩:=(h.fld Tryz.underlying58 7 rfl rfl rfl cellsOf_3).int Tryz.underlying3
 obtain ⟨x8,e8,_⟩:=(h.fld Tryz.underlying58 8 rfl rfl rfl cellsOf_3).int Tryz.underlying3
 obtain ⟨x9,e9,_⟩:=(h.fld Tryz.underlying58 9 rfl rfl rfl cellsOf_3).int Tryz.underlying3
 have hl:=h.size Tryz.underlying58 cellsOf_58
 refine ⟨⟨x0,x1,x2,x3,x4,x5,x6,x7,x8,x9⟩,?_⟩
 rcases l with _ | ⟨a0,_ | ⟨a1,_ | ⟨a2,_ | ⟨a3,_ | ⟨a4,_ | ⟨a5,_ | ⟨a6,_ | ⟨a7,_ | ⟨a8,_ | ⟨a9,_ | ⟨d,r⟩⟩⟩⟩⟩⟩⟩⟩⟩⟩⟩ <;> simp at hl
 simp at e0 e1 e2 e3 e4 e5 e6 e7 e8 e9
 simp [Stm.cells,e0,e1,e2,e3,e4,e5,e6,e7,e8,e9]
theorem tv_shr {H:AH} {n:Nat} {l:List V} (h:TV Tryz.prog H (n + 3) 60 l):∃ x:Shr,l = x.cells:=by
 obtain ⟨x0,e0,_⟩:=(h.fld Tryz.underlying60 0 rfl rfl rfl cellsOf_3).int Tryz.underlying3
 obtain ⟨s,e1⟩:=tv_stm (h.fld Tryz.underlying60 1 rfl rfl rfl cellsOf_58)
 have hl:=h.size Tryz.underlying60 cellsOf_60
 refine ⟨⟨x0,s⟩,?_⟩
 rcases l with _ | ⟨a0,l⟩ <;> simp at hl
 have h8:List.take 10 l = l:=List.take_of_length_le (by omega)
 simp at e0 e1
 rw [h8] at e1
 simp [Shr.cells,e0,e1]
theorem tv_txt {H:AH} {n:Nat} {l:List V} (h:TV Tryz.prog H (n + 1) 9 l):∃ s:List UInt8,l = txtC s:=by
 obtain ⟨x,e,_⟩:=h.str Tryz.underlying9
 exact ⟨x,e⟩
theorem exists_blks {H:AH}:∀ {ls:List (List V)},(∀ l ∈ ls,∃ (b:Blk) (pv tv:V),l = b.cells pv tv ∧ BlkAt H b pv tv) → ∃ xs:List (Blk × V × V),ls = xs.map blkC ∧ ∀ x ∈ xs,BlkAt H x.1 x.2.1 x.2.2
 | [],_=>⟨[],rfl,by simp⟩
 | l :: ls,h=>by
   obtain ⟨b,pv,tv,rfl,hb⟩:=h l (by simp)
   obtain ⟨xs,rfl,hx⟩:=exists_blks (ls:=ls) fun l hl=>h l (by simp [hl])
   refine ⟨(b,pv,tv) :: xs,rfl,fun x hxx=>?_⟩
   rcases List.mem_cons.1 hxx with rfl | h
   · exact hb
   · exact hx x h
theorem tv_in {H:AH} {n:Nat} {l:List V} (h:TV Tryz.prog H (n + 8) 27 l):∃ i:InD,InAt H i l:=by
 obtain ⟨x0,e0,_⟩:=(h.fld Tryz.underlying27 0 rfl rfl rfl cellsOf_3).int Tryz.underlying3
 obtain ⟨x1,e1,b1⟩:=(h.fld Tryz.underlying27 1 rfl rfl rfl cellsOf_22).int Tryz.underlying22
 obtain ⟨vb,lb,e2,_,hb,hb2,_⟩:=(h.fld Tryz.underlying27 2 rfl rfl rfl cellsOf_23).rs Tryz.underlying23 cellsOf_33
 obtain ⟨vc,lc,e3,_,hc,hc2,_⟩:=(h.fld Tryz.underlying27 3 rfl rfl rfl cellsOf_24).rs Tryz.underlying24 cellsOf_9
 obtain ⟨vs,ls,e4,_,hs,hs2,_⟩:=(h.fld Tryz.underlying27 4 rfl rfl rfl cellsOf_25).rs Tryz.underlying25 cellsOf_60
 obtain ⟨vk,lk,e5,_,hk,hk2,_⟩:=(h.fld Tryz.underlying27 5 rfl rfl rfl cellsOf_25).rs Tryz.underlying25 cellsOf_60
 obtain ⟨s1,g1⟩:=u32_of b1.1 b1.2
 obtain ⟨bl,rfl,hbl⟩:=exists_blks fun l hl=>tv_blk (hb2 l hl)
 obtain ⟨ct,rfl⟩:=exists_map (f:=txtC) fun l hl=>tv_txt (hc2 l hl)
 obtain ⟨sh,rfl⟩:=exists_map (f:=Shr.cells) fun l hl=>tv_shr (hs2 l hl)
 obtain ⟨cn,rfl⟩:=exists_map (f:=Shr.cells) fun l hl=>tv_shr (hk2 l hl)
 have hl:=h.size Tryz.underlying27 cellsOf_27
 refine ⟨⟨x0,s1,bl,ct,sh,cn⟩,⟨⟨vb,vc,vs,vk,?_,hb,hc,hs,hk⟩,hbl⟩⟩
 rcases l with _ | ⟨a0,_ | ⟨a1,_ | ⟨a2,_ | ⟨a3,_ | ⟨a4,_ | ⟨a5,_ | ⟨d,r⟩⟩⟩⟩⟩⟩⟩ <;> simp at hl
 simp at e0 e1 e2 e3 e4 e5
 simp [e0,e1,e2,e3,e4,e5,← g1]
end Go.Proofs.YtmhaimdpfelkpaaGreatDoor
