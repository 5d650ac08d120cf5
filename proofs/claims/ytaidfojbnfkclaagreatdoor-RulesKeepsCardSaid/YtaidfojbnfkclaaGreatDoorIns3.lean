/-
  slices.Clone,slices.Insert and slices.Contains over abstract states. (Printed by gen_ins3.py.)
-/
import Derived.Test.YtaidfojbnfkclaaGreatDoorIns2
set_option linter.unusedVariables false
set_option linter.unusedSimpArgs false
namespace Go.Proofs.YtaidfojbnfkclaaGreatDoor
open Go Go.Abs Go.Proofs
set_option maxRecDepth 100000
attribute [local irreducible] AEnd AW ACalls
/-- A new slice of one's own: records. -/
def FreshL (H H':AH) (v:V) (sz:Nat) (ls:List (List V)):Prop:=∃ F,Own H' v sz ls.flatten F ∧ Upd H H' [] ∧ ∀ j ∈ F,H.next ≤ j
theorem appCert:App Tryz.prog 37 37 8 56:=App.mk' qelem_37 qsize_24 qbytes_24 qzero_24 qsrc_37 rfl (by decide)
theorem nilCert (n m:Nat) (c e:Bool):aeq Tryz.prog 37 (.sl none n c) (.sl none m e) = some true:=by simp [aeq,Tryz.underlying37]
theorem someCert (q:Nat × Nat × Nat) (n m:Nat) (c e:Bool):aeq Tryz.prog 37 (.sl (some q) n c) (.sl none m e) = some false:=by simp [aeq,Tryz.underlying37]
theorem cloneCert (H:AH) {v:V} {ls:List (List V)} (hv:RS H v 8 ls) (hl:ls.length ≤ 1000000000):ACalls Tryz.prog 43 [v] H fun r H'=>FreshL H H' r 8 ls:=by
 refine ACalls_body Tryz.func43 rfl rfl ?_
 refine AW_seq ?_
 refine AW_reg [0] fun K hK=>?_
 simp [init_eq]
 apply hK;clear hK K
 refine AW_seq ?_
 refine AW_seq ?_
 have hv0:=hv
 rcases hv.2 with ⟨c,rfl,hl0⟩ | ⟨id,g,off,c,ro,esz,rfl,hg,_⟩
 · subst hl0
   refine AW_reg [0,4] fun K hK=>?_
   simp [init_eq,nilCert]
   apply hK;clear hK K
   refine AW_cond' rfl rfl (fun hc=>?_) (fun hc=>?_)
   · refine AW_seq ?_
     refine AW_reg [2] fun K hK=>?_
     simp [init_eq]
     apply hK;clear hK K
     refine AW_ret (end_ret rfl ?_)
     exact ⟨[],Own.nil ..,Upd.refl ..,by simp⟩
   · cases hc
 · refine AW_reg [0,4] fun K hK=>?_
   simp [init_eq,someCert]
   apply hK;clear hK K
   refine AW_cond' rfl rfl (fun hc=>?_) (fun hc=>?_)
   · cases hc
   · refine AW_skip ?_
     refine AW_seq ?_
     have hx:=(hv0.ext (ext_new H (.cells [] 0 false 8))).source (P:=Tryz.prog) (by decide)
     obtain ⟨v',H',F',h1,h2,h3,h4⟩:=(Own.made H 8).append appCert hx (flatten_len ls hv0.1) (by simp [roomOk]; omega)
     refine AW_reg [2] fun K hK=>?_
     have hbs:abuildSlice Tryz.prog H 37 0 [] = some (.sl (some (H.next,0,0)) 0 false,H.new (.cells [] 0 false 8)):=by
      first | (simp [abuildSlice,afill,V.cells]; done) | (simp [abuildSlice,afill,V.cells]; rfl)
     simp [init_eq,hbs,h1]
     apply hK;clear hK K
     refine AW_ret (end_ret rfl ?_)
     refine ⟨F',by simpa using h2,(Upd.new H _ []).trans h3 (by simp),fun j hj=>?_⟩
     rcases h4 j hj with h | h
     · simp at h; omega
     · simp at h; omega
theorem appSet:App Tryz.prog 39 39 1 4:=App.mk' qelem_39 qsize_22 qbytes_22 qzero_22 qsrc_39 rfl (by decide)
theorem nilSet (n m:Nat) (c e:Bool):aeq Tryz.prog 39 (.sl none n c) (.sl none m e) = some true:=by simp [aeq,Tryz.underlying39]
theorem someSet (q:Nat × Nat × Nat) (n m:Nat) (c e:Bool):aeq Tryz.prog 39 (.sl (some q) n c) (.sl none m e) = some false:=by simp [aeq,Tryz.underlying39]
theorem cloneSet (H:AH) {v:V} {ls:List (List V)} (hv:RS H v 1 ls) (hl:ls.length ≤ 1000000000):ACalls Tryz.prog 44 [v] H fun r H'=>FreshL H H' r 1 ls:=by
 refine ACalls_body Tryz.func44 rfl rfl ?_
 refine AW_seq ?_
 refine AW_reg [0] fun K hK=>?_
 simp [init_eq]
 apply hK;clear hK K
 refine AW_seq ?_
 refine AW_seq ?_
 have hv0:=hv
 rcases hv.2 with ⟨c,rfl,hl0⟩ | ⟨id,g,off,c,ro,esz,rfl,hg,_⟩
 · subst hl0
   refine AW_reg [0,4] fun K hK=>?_
   simp [init_eq,nilSet]
   apply hK;clear hK K
   refine AW_cond' rfl rfl (fun hc=>?_) (fun hc=>?_)
   · refine AW_seq ?_
     refine AW_reg [2] fun K hK=>?_
     simp [init_eq]
     apply hK;clear hK K
     refine AW_ret (end_ret rfl ?_)
     exact ⟨[],Own.nil ..,Upd.refl ..,by simp⟩
   · cases hc
 · refine AW_reg [0,4] fun K hK=>?_
   simp [init_eq,someSet]
   apply hK;clear hK K
   refine AW_cond' rfl rfl (fun hc=>?_) (fun hc=>?_)
   · cases hc
   · refine AW_skip ?_
     refine AW_seq ?_
     have hx:=(hv0.ext (ext_new H (.cells [] 0 false 1))).source (P:=Tryz.prog) (by decide)
     obtain ⟨v',H',F',h1,h2,h3,h4⟩:=(Own.made H 1).append appSet hx (flatten_len ls hv0.1) (by simp [roomOk]; omega)
     refine AW_reg [2] fun K hK=>?_
     have hbs:abuildSlice Tryz.prog H 39 0 [] = some (.sl (some (H.next,0,0)) 0 false,H.new (.cells [] 0 false 1)):=by
      first | (simp [abuildSlice,afill,V.cells]; done) | (simp [abuildSlice,afill,V.cells]; rfl)
     simp [init_eq,hbs,h1]
     apply hK;clear hK K
     refine AW_ret (end_ret rfl ?_)
     refine ⟨F',by simpa using h2,(Upd.new H _ []).trans h3 (by simp),fun j hj=>?_⟩
     rcases h4 j hj with h | h
     · simp at h; omega
     · simp at h; omega
theorem appStr:App Tryz.prog 40 40 1 16:=App.mk' qelem_40 qsize_9 qbytes_9 qzero_9 qsrc_40 rfl (by decide)
theorem nilStr (n m:Nat) (c e:Bool):aeq Tryz.prog 40 (.sl none n c) (.sl none m e) = some true:=by simp [aeq,Tryz.underlying40]
theorem someStr (q:Nat × Nat × Nat) (n m:Nat) (c e:Bool):aeq Tryz.prog 40 (.sl (some q) n c) (.sl none m e) = some false:=by simp [aeq,Tryz.underlying40]
theorem cloneStr (H:AH) {v:V} {ls:List (List V)} (hv:RS H v 1 ls) (hl:ls.length ≤ 1000000000):ACalls Tryz.prog 45 [v] H fun r H'=>FreshL H H' r 1 ls:=by
 refine ACalls_body Tryz.func45 rfl rfl ?_
 refine AW_seq ?_
 refine AW_reg [0] fun K hK=>?_
 simp [init_eq]
 apply hK;clear hK K
 refine AW_seq ?_
 refine AW_seq ?_
 have hv0:=hv
 rcases hv.2 with ⟨c,rfl,hl0⟩ | ⟨id,g,off,c,ro,esz,rfl,hg,_⟩
 · subst hl0
   refine AW_reg [0,4] fun K hK=>?_
   simp [init_eq,nilStr]
   apply hK;clear hK K
   refine AW_cond' rfl rfl (fun hc=>?_) (fun hc=>?_)
   · refine AW_seq ?_
     refine AW_reg [2] fun K hK=>?_
     simp [init_eq]
     apply hK;clear hK K
     refine AW_ret (end_ret rfl ?_)
     exact ⟨[],Own.nil ..,Upd.refl ..,by simp⟩
   · cases hc
 · refine AW_reg [0,4] fun K hK=>?_
   simp [init_eq,someStr]
   apply hK;clear hK K
   refine AW_cond' rfl rfl (fun hc=>?_) (fun hc=>?_)
   · cases hc
   · refine AW_skip ?_
     refine AW_seq ?_
     have hx:=(hv0.ext (ext_new H (.cells [] 0 false 1))).source (P:=Tryz.prog) (by decide)
     obtain ⟨v',H',F',h1,h2,h3,h4⟩:=(Own.made H 1).append appStr hx (flatten_len ls hv0.1) (by simp [roomOk]; omega)
     refine AW_reg [2] fun K hK=>?_
     have hbs:abuildSlice Tryz.prog H 40 0 [] = some (.sl (some (H.next,0,0)) 0 false,H.new (.cells [] 0 false 1)):=by
      first | (simp [abuildSlice,afill,V.cells]; done) | (simp [abuildSlice,afill,V.cells]; rfl)
     simp [init_eq,hbs,h1]
     apply hK;clear hK K
     refine AW_ret (end_ret rfl ?_)
     refine ⟨F',by simpa using h2,(Upd.new H _ []).trans h3 (by simp),fun j hj=>?_⟩
     rcases h4 j hj with h | h
     · simp at h; omega
     · simp at h; omega
set_option maxHeartbeats 1000000 in
/-- One more certificate, at its place. -/
theorem insert_ok (H:AH) {v:V} {ls:List (List V)} {F:List Nat} (ho:Own H v 8 ls.flatten F) (h8:∀ l ∈ ls,l.length = 8) (hlen:ls.length ≤ 100000000) {i:Nat} (hi:i ≤ ls.length)
  {xid xg:Nat} {l:List V} (hx:H.get xid = some (.cells l xg false 8)) (hl8:l.length = 8) (hxF:xid ∉ F) (clip:Bool) :
  ACalls Tryz.prog 96 [v,.i .i64 i,.sl (some (xid,xg,0)) 1 clip] H fun r H' =>
   ∃ F',Own H' r 8 (ls.take i ++ l :: ls.drop i).flatten F' ∧ Upd H H' F ∧ ∀ j ∈ F',j ∈ F ∨ H.next ≤ j:=by
 by_cases hin:i < ls.length
 · have hfl:=flatten_len ls h8
   rcases ho with ⟨c,r1,r2,r3⟩ | ⟨id,g,len,rfl,h2,h3,rfl⟩
   · rw [r2] at hfl
     simp at hfl
     omega
   · have hle:len = ls.length:=by omega
     subst hle
     refine ACalls.mono (insert_mid H (i:=i) h2 (by omega) hx (by omega) (by simpa using hxF) hin (by omega) clip) fun r H' ⟨e1,e2⟩=>?_
     have e:((ls.flatten.drop 0).take (ls.length * 8)).take (i * 8) ++ (l.drop 0).take 8 ++ ((ls.flatten.drop 0).take (ls.length * 8)).drop (i * 8) = (ls.take i ++ l :: ls.drop i).flatten:=by
      rw [List.drop_zero,List.drop_zero,← hfl,List.take_length,← hl8,List.take_length,hl8,flatten_take ls i h8 hi,flatten_drop ls i h8 hi]
      simp
     rw [e] at e2
     subst e1 e2
     refine ⟨[id],.inr ⟨id,g + 1,ls.length + 1,rfl,AH.get_set_same (AH.get_lt h2),?_,rfl⟩,Upd.set _ _ _ (by simp),fun j hj=>.inl hj⟩
     rw [flatten_len (sz:=8) _ (fun x hx=>by
      rcases List.mem_append.1 hx with h | h
      · exact h8 x (List.mem_of_mem_take h)
      · rcases List.mem_cons.1 h with rfl | h
        · exact hl8
        · exact h8 x (List.mem_of_mem_drop h))]
     simp; omega
 · obtain rfl:i = ls.length:=by omega
   have hr:RS H v 8 ls:=ho.rs (by omega) h8
   have hxr:RS H (.sl (some (xid,xg,0)) 1 false) 8 [l]:=⟨by simpa using hl8,.inr ⟨xid,xg,0,l,false,8,by simp,hx,.inr rfl,by simp [hl8],by simp [hl8]; exact List.take_of_length_le (by omega)⟩⟩
   have hxs:asource Tryz.prog H 8 (.sl (some (xid,xg,0)) 1 clip) = some ([l].flatten,1):=by
    have:=hxr.source (P:=Tryz.prog) (by decide)
    simpa [asource] using this
   obtain ⟨v1,q1,_⟩:=hr.slice (P:=Tryz.prog) qelem_37 qsize_24 (lo:=some (.i .i64 (ls.length:Int))) (hi:=none) (k:=ls.length) (m:=ls.length) rfl (by simp [abound]) (Nat.le_refl _) (Nat.le_refl _)
   obtain ⟨v2,H2,F2,p1,p2,p3,p4⟩:=ho.append appCert hxs (by simp [hl8]) (by rw [flatten_len ls h8,Nat.mul_div_cancel _ (by omega)]; simp [roomOk]; omega)
   have hlx:∀ G,alen Tryz.prog G 37 (.sl (some (xid,xg,0)) 1 clip) = some (.i .i64 1):=fun G=>by simp [alen]
   refine ACalls_body Tryz.func96 rfl rfl ?_
   refine AW_seq ?_
   refine AW_reg [0,1,2] fun K hK=>?_
   simp [init_eq]
   apply hK;clear hK K
   refine AW_seq ?_
   refine AW_reg [0,1,2] fun K hK=>?_
   simp [init_eq,q1]
   apply hK;clear hK K
   refine AW_seq ?_
   refine AW_reg [0,1,2,7] fun K hK=>?_
   simp [init_eq,hlx]
   apply hK;clear hK K
   refine AW_seq ?_
   refine AW_seq ?_
   refine AW_reg [0,1,2,7,16] fun K hK=>?_
   simp [init_eq]
   apply hK;clear hK K
   refine AW_cond' rfl rfl (fun hc=>?_) (fun hc=>?_)
   · cases hc
   · refine AW_skip ?_
     refine AW_seq ?_
     refine AW_reg [0,1,2,7,8] fun K hK=>?_
     simp [init_eq,hr.len qelem_37]
     apply hK;clear hK K
     refine AW_seq ?_
     refine AW_seq ?_
     refine AW_reg [0,1,2,7,8,22] fun K hK=>?_
     simp [init_eq]
     apply hK;clear hK K
     refine AW_cond' rfl rfl (fun hc=>?_) (fun hc=>?_)
     · refine AW_seq ?_
       refine AW_reg [6] fun K hK=>?_
       simp [init_eq,p1]
       apply hK;clear hK K
       refine AW_ret (end_ret rfl ?_)
       refine ⟨F2,?_,p3,p4⟩
       simpa using p2
     · cases hc
/-- Does a text lie there? -/
theorem sindex_ok (H:AH) {v:V} {ts:List (List UInt8)} (hv:RS H v 1 (ts.map fun t=>[.s t])) (hl:ts.length ≤ 1000000000) (t:List UInt8) :
  ACalls Tryz.prog 118 [v,.s t] H fun r H'=>(∃ k:Int,r = .i .i64 k ∧ (0 ≤ k ↔ t ∈ ts)) ∧ H' = H:=by
 refine ACalls_body Tryz.func118 rfl rfl ?_
 refine AW_seq ?_
 refine AW_reg [0,1] fun K hK=>?_
 simp [init_eq]
 apply hK;clear hK K
 refine AW_seq ?_
 refine AW_seq ?_
 refine AW_reg [0,1,7,8] fun K hK=>?_
 simp [init_eq,hv.alen qelem_40]
 apply hK;clear hK K
 refine AW_block ?_
 refine AW_loop0 (fun i:Nat=>⟨19,[(0,v),(1,.s t),(7,.i .i64 ts.length),(8,.i .i64 i)]⟩) (fun i=>i ≤ ts.length ∧ ∀ j x,j < i → ts[j]? = some x → x ≠ t) (fun i=>ts.length - i) 0 (by simp) (by simp) (by dsimp only; omega) fun hw i ⟨hi,hno⟩=>?_
 refine AW_seq ?_
 refine AW_reg [0,1,7,8,9] fun K hK=>?_
 simp [init_eq]
 apply hK;clear hK K
 refine AW_seq ?_
 refine AW_cond' rfl rfl (fun hc=>?_) (fun hc=>?_)
 · have hlt:i < ts.length:=by simpa using hc
   obtain ⟨a,q1,q2⟩:=hv.at1 (P:=Tryz.prog) qelem_40 qsize_9 qagg_9 (k:=.i64) i (x:=.s ts[i]) (by simp [hlt])
   refine AW_skip ?_
   refine AW_seq ?_
   refine AW_block ?_
   refine AW_seq ?_
   refine AW_reg [0,1,5,7,8] fun K hK=>?_
   simp [init_eq]
   apply hK;clear hK K
   refine AW_seq ?_
   refine AW_reg [0,1,5,7,8,16] fun K hK=>?_
   simp [init_eq,q1,q2]
   apply hK;clear hK K
   refine AW_cond' rfl rfl (fun hc=>?_) (fun hc=>?_)
   · have he:t = ts[i]:=by simpa using hc
     refine AW_seq ?_
     refine AW_reg [4] fun K hK=>?_
     simp [init_eq]
     apply hK;clear hK K
     refine AW_ret (end_ret rfl ?_)
     exact ⟨⟨i,rfl,by rw [he]; simp⟩,rfl⟩
   · have he:t ≠ ts[i]:=by simpa using hc
     refine AW_skip ?_
     refine AW_reg [0,1,7,8] fun K hK=>?_
     simp [init_eq,wrap_id (x:=(i:Int) + 1) (by omega) (by omega)]
     apply hK;clear hK K
     refine rend ⟨i + 1,by simp,⟨by omega,fun j x hj hx=>?_⟩,by omega,.inl rfl⟩
     by_cases hji:j < i
     · exact hno j x hji hx
     · obtain rfl:j = i:=by omega
       rw [List.getElem?_eq_getElem hlt] at hx
       cases hx
       exact fun e=>he e.symm
 · have hi':i = ts.length:=by
     have:¬ i < ts.length:=by simpa using hc
     omega
   refine AW_exit (then_exit (then_exit (block_here ?_)))
   refine AW_seq ?_
   refine AW_reg [4] fun K hK=>?_
   simp [init_eq]
   apply hK;clear hK K
   refine AW_ret (end_ret rfl ?_)
   refine ⟨⟨-1,rfl,?_⟩,rfl⟩
   refine ⟨fun h=>absurd h (by decide),fun h=>?_⟩
   obtain ⟨j,hj,e⟩:=List.getElem_of_mem h
   exact absurd e (hno j _ (by omega) (List.getElem?_eq_getElem hj))
theorem scontains_ok (H:AH) {v:V} {ts:List (List UInt8)} (hv:RS H v 1 (ts.map fun t=>[.s t])) (hl:ts.length ≤ 1000000000) (t:List UInt8) :
  ACalls Tryz.prog 93 [v,.s t] H fun r H'=>r = .b (decide (t ∈ ts)) ∧ H' = H:=by
 refine ACalls_body Tryz.func93 rfl rfl ?_
 refine AW_seq ?_
 refine AW_reg [0,1] fun K hK=>?_
 simp [init_eq]
 apply hK;clear hK K
 refine AW_seq ?_
 refine AW_reg [4] fun K hK=>?_
 simp [init_eq]
 refine ACalls.mono (sindex_ok H hv hl t) fun r H' ⟨⟨k,hr,hk⟩,e⟩=>?_
 subst hr e
 try simp
 apply hK;clear hK K
 refine AW_ret (end_ret rfl ?_)
 refine ⟨?_,rfl⟩
 simp [hk]
end Go.Proofs.YtaidfojbnfkclaaGreatDoor
