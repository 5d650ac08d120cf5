/-
  Certificates of authors: of, find and put.
-/
import Derived.Test.YtaidfojbnfkclaaGreatDoorIns3
import Derived.Test.YtaidfojbnfkclaaGreatDoorSafe0
set_option linter.unusedVariables false
set_option linter.unusedSimpArgs false
namespace Go.Proofs.YtaidfojbnfkclaaGreatDoor
open Go Go.Abs Go.Proofs
set_option maxRecDepth 100000
attribute [local irreducible] AEnd AW ACalls
/-! Lists of certificates, one for an author (plain). -/
def findC (ls:List Cert) (a:Int):Option Cert:=ls.find? fun c=>decide (c.author = a)
def ofC (ls:List Cert) (a:Int):Cert:=(findC ls a).getD Cert.zero
def putC:List Cert → Cert → List Cert
 | [],c=>[c]
 | x :: l,c=>if x.author < c.author then x :: putC l c else if x.author = c.author then c :: l else c :: x :: l
def SortedC (ls:List Cert):Prop:=ls.Pairwise fun x y=>x.author < y.author
def RangeC (ls:List Cert):Prop:=∀ c ∈ ls,0 ≤ c.author ∧ c.author ≤ 9
theorem putC_at {c:Cert}:∀ (ls:List Cert) (i:Nat),(∀ j x,j < i → ls[j]? = some x → x.author < c.author) → i ≤ ls.length → putC ls c = ls.take i ++ putC (ls.drop i) c
 | _,0,_,_=>by simp
 | [],i + 1,_,h=>by simp at h
 | x :: l,i + 1,h,hi=>by
   have hx:=h 0 x (by omega) (by simp)
   simp only [putC,if_pos hx,List.take_succ_cons,List.drop_succ_cons,List.cons_append]
   rw [← putC_at l i (fun j y hj hy=>h (j + 1) y (by omega) (by simpa using hy)) (by simpa using hi)]
theorem mem_putC {c x:Cert}:∀ {ls:List Cert},x ∈ putC ls c → x = c ∨ x ∈ ls
 | [],h=>by simp [putC] at h; exact .inl h
 | y :: l,h=>by
   unfold putC at h
   split at h
   · rcases List.mem_cons.1 h with rfl | h
     · exact .inr (by simp)
     · exact (mem_putC h).imp (fun h=>h) fun h=>by simp [h]
   · split at h
     · rcases List.mem_cons.1 h with rfl | h
       · exact .inl rfl
       · exact .inr (by simp [h])
     · rcases List.mem_cons.1 h with rfl | h
       · exact .inl rfl
       · exact .inr h
theorem putC_range {ls:List Cert} {c:Cert} (h:RangeC ls) (hc:0 ≤ c.author ∧ c.author ≤ 9):RangeC (putC ls c):=fun x hx=>by
 rcases mem_putC hx with rfl | hx
 · exact hc
 · exact h x hx
theorem putC_sorted {c:Cert}:∀ {ls:List Cert},SortedC ls → SortedC (putC ls c)
 | [],_=>by simp [putC,SortedC]
 | y :: l,h=>by
   have h':=List.pairwise_cons.1 h
   unfold putC
   split
   · rename_i hy
     refine List.pairwise_cons.2 ⟨fun x hx=>?_,putC_sorted h'.2⟩
     rcases mem_putC hx with rfl | hx
     · exact hy
     · exact h'.1 x hx
   · split
     · rename_i hy hy2
       exact List.pairwise_cons.2 ⟨fun x hx=>by have:=h'.1 x hx; omega,h'.2⟩
     · rename_i hy hy2
       refine List.pairwise_cons.2 ⟨fun x hx=>?_,h⟩
       rcases List.mem_cons.1 hx with rfl | hx
       · omega
       · have:=h'.1 x hx; omega
theorem findC_put {c:Cert} (a:Int):∀ {ls:List Cert},SortedC ls → findC (putC ls c) a = if c.author = a then some c else findC ls a
 | [],_=>by
   by_cases h:c.author = a <;> simp [putC,findC,h]
 | y :: l,hs=>by
   have h':=List.pairwise_cons.1 hs
   have ih:=findC_put (c:=c) a (ls:=l) h'.2
   unfold putC
   split
   · rename_i hy
     unfold findC at ih ⊢
     by_cases hya:y.author = a
     · rw [List.find?_cons_of_pos (by simpa using hya),List.find?_cons_of_pos (by simpa using hya),if_neg (by omega)]
     · rw [List.find?_cons_of_neg (by simpa using hya),List.find?_cons_of_neg (by simpa using hya),ih]
   · split
     · rename_i hy hy2
       unfold findC
       by_cases hya:c.author = a
       · rw [List.find?_cons_of_pos (by simpa using hya),if_pos hya]
       · rw [List.find?_cons_of_neg (by simpa using hya),if_neg hya,List.find?_cons_of_neg (by simpa [hy2] using hya)]
     · unfold findC
       by_cases hya:c.author = a
       · rw [List.find?_cons_of_pos (by simpa using hya),if_pos hya]
       · rw [List.find?_cons_of_neg (by simpa using hya),if_neg hya]
theorem putC_len (c:Cert):∀ ls:List Cert,(putC ls c).length ≤ ls.length + 1
 | []=>by simp [putC]
 | y :: l=>by
   have:=putC_len c l
   unfold putC
   split
   · simpa using this
   · split <;> simp
theorem ofC_mem {ls:List Cert} {a:Int}:ofC ls a = Cert.zero ∨ (ofC ls a ∈ ls ∧ (ofC ls a).author = a):=by
 unfold ofC
 cases h:findC ls a with
 | none=>exact .inl rfl
 | some c =>
   refine .inr ⟨List.mem_of_find?_eq_some h,?_⟩
   have:=List.find?_some h
   simpa using this
/-! of. -/
def ofF (aid:Nat):V:=.fn (.func 116) [] [.p (some (aid,0,0))]
theorem of1_ok (H:AH) {aid:Nat} {a:Int} (ha:H.get aid = some (.cells [.i .i64 a] 0 false 0)) (c:Cert) :
  ACalls Tryz.prog 116 [.agg c.cells,.p (some (aid,0,0))] H fun r H'=>r = .b (decide (c.author = a)) ∧ H' = H:=by
 refine ACalls.pure (Q:=fun r=>r = .b (decide (c.author = a))) ⟨_,Tryz.func116,rfl,rfl⟩ ?_
 refine ACalls_body Tryz.func116 rfl rfl ?_
 refine AW_seq ?_
 refine AW_reg [1,2] fun K hK=>?_
 simp [init_eq,V.cells]
 obtain ⟨H1,e1,hp,hn,ho⟩:=H.boxed c.cells
 rw [e1]
 have ha1:H1.get aid = some (.cells [.i .i64 a] 0 false 0):=by rw [ho aid (AH.get_lt ha)]; exact ha
 apply hK;clear hK K
 refine AW_seq ?_
 refine AW_reg [3] fun K hK=>?_
 simp [init_eq,afieldAddr,aload,hp,ha1]
 apply hK;clear hK K
 exact AW_ret (end_ret rfl (pure_end hn ho (by simp) rfl))
theorem indexf_ok (H:AH) {v:V} {ls:List Cert} (hv:RS H v 8 (ls.map Cert.cells)) (hl:ls.length ≤ 1000000000) {aid:Nat} {a:Int} (ha:H.get aid = some (.cells [.i .i64 a] 0 false 0)) :
  ACalls Tryz.prog 115 [v,ofF aid] H fun r H' =>
   (∃ k:Int,r = .i .i64 k ∧ ((∃ (i:Nat) (hi:i < ls.length),k = i ∧ findC ls a = some ls[i]) ∨ (k = -1 ∧ findC ls a = none))) ∧ H' = H:=by
 refine ACalls_body Tryz.func115 rfl rfl ?_
 refine AW_seq ?_
 refine AW_reg [0,1] fun K hK=>?_
 simp [init_eq]
 apply hK;clear hK K
 refine AW_seq ?_
 refine AW_seq ?_
 refine AW_reg [0,1,7,8] fun K hK=>?_
 simp [init_eq,hv.alen qelem_37]
 apply hK;clear hK K
 refine AW_block ?_
 refine AW_loop0 (fun i:Nat=>⟨19,[(0,v),(1,ofF aid),(7,.i .i64 ls.length),(8,.i .i64 i)]⟩) (fun i=>i ≤ ls.length ∧ findC (ls.take i) a = none) (fun i=>ls.length - i) 0 (by simp) (by simp [findC]) (by dsimp only; omega) fun hw i ⟨hi,hno⟩=>?_
 refine AW_seq ?_
 refine AW_reg [0,1,7,8,9] fun K hK=>?_
 simp [init_eq]
 apply hK;clear hK K
 refine AW_seq ?_
 refine AW_cond' rfl rfl (fun hc=>?_) (fun hc=>?_)
 · have hlt:i < ls.length:=by simpa using hc
   obtain ⟨ax,q1,q2⟩:=hv.rec Cert.len (by decide) (P:=Tryz.prog) qelem_37 qsize_24 qagg_24 hlt
   have hsp:ls = ls.take i ++ ls[i] :: ls.drop (i + 1):=by rw [← List.drop_eq_getElem_cons hlt,List.take_append_drop]
   refine AW_skip ?_
   refine AW_seq ?_
   refine AW_block ?_
   refine AW_seq ?_
   refine AW_reg [0,1,5,7,8] fun K hK=>?_
   simp [init_eq]
   apply hK;clear hK K
   refine AW_seq ?_
   refine AW_reg [0,1,5,7,8,16] fun K hK=>?_
   simp [init_eq,q1,q2]
   rw [AOp_callv (f:=116) (first:=[]) (caps:=[.p (some (aid,0,0))]) (by simp [ofF])]
   simp
   refine ACalls.mono (of1_ok H ha ls[i]) fun r H' ⟨hr,e⟩=>?_
   subst hr e
   try simp
   apply hK;clear hK K
   refine AW_cond' rfl rfl (fun hc=>?_) (fun hc=>?_)
   · have he:ls[i].author = a:=by simpa using hc
     refine AW_seq ?_
     refine AW_reg [4] fun K hK=>?_
     simp [init_eq]
     apply hK;clear hK K
     refine AW_ret (end_ret rfl ?_)
     refine ⟨⟨i,rfl,.inl ⟨i,hlt,rfl,?_⟩⟩,rfl⟩
     unfold findC at hno ⊢
     have key:(ls.take i ++ ls[i] :: ls.drop (i + 1)).find? (fun c=>decide (c.author = a)) = some ls[i]:=by
      rw [List.find?_append,hno,List.find?_cons_of_pos (by simpa using he)]; rfl
     rw [← hsp] at key
     exact key
   · have he:ls[i].author ≠ a:=by simpa using hc
     refine AW_skip ?_
     refine AW_reg [0,1,7,8] fun K hK=>?_
     simp [init_eq,wrap_id (x:=(i:Int) + 1) (by omega) (by omega)]
     apply hK;clear hK K
     refine rend ⟨i + 1,by simp,⟨by omega,?_⟩,by omega,.inl rfl⟩
     unfold findC at hno ⊢
     rw [List.take_succ_eq_append_getElem hlt,List.find?_append,hno]
     simpa using he
 · have hi':i = ls.length:=by
     have:¬ i < ls.length:=by simpa using hc
     omega
   subst hi'
   rw [List.take_length] at hno
   refine AW_exit (then_exit (then_exit (block_here ?_)))
   refine AW_seq ?_
   refine AW_reg [4] fun K hK=>?_
   simp [init_eq]
   apply hK;clear hK K
   refine AW_ret (end_ret rfl ?_)
   exact ⟨⟨-1,rfl,.inr ⟨rfl,hno⟩⟩,rfl⟩
theorem bzC:abuild Tryz.prog 24 [] = some (.agg Cert.zero.cells):=by first | (simp [abuild,afill]; done) | (simp [abuild,afill]; rfl)
theorem of_ok (H:AH) {v:V} {ls:List Cert} (hv:RS H v 8 (ls.map Cert.cells)) (hl:ls.length ≤ 1000000000) (a:Int) :
  ACalls Tryz.prog 75 [v,.i .i64 a] H fun r H'=>r = .agg (ofC ls a).cells ∧ H' = H:=by
 refine ACalls.pure (Q:=fun r=>r = .agg (ofC ls a).cells) ⟨_,Tryz.func75,rfl,rfl⟩ ?_
 refine ACalls_body Tryz.func75 rfl rfl ?_
 refine AW_seq ?_
 refine AW_reg [0,3,4] fun K hK=>?_
 simp [init_eq,V.cells]
 obtain ⟨H1,e1,hp1,hp2,hn,ho⟩:=H.boxed2 [.i .i64 a] Cert.zero.cells
 rw [e1]
 have u1:Upd H H1 []:=⟨by omega,fun j hj _=>ho j hj⟩
 apply hK;clear hK K
 refine AW_seq ?_
 refine AW_seq ?_
 refine AW_reg [0,4,5] fun K hK=>?_
 simp [init_eq]
 refine ACalls.mono (indexf_ok H1 (hv.upd u1) hl hp1) fun r H' ⟨⟨k,hr,hk⟩,e⟩=>?_
 subst hr e
 try simp
 apply hK;clear hK K
 refine AW_seq ?_
 refine AW_reg [0,4,5,10] fun K hK=>?_
 simp [init_eq]
 apply hK;clear hK K
 have hend:∀ (G:AH),G = H'.set (H.next + 1) (.cells (ofC ls a).cells 0 false 0) → (V.agg (ofC ls a).cells = .agg (ofC ls a).cells) ∧ V.lt H.next (.agg (ofC ls a).cells) = true ∧ H.next ≤ G.next ∧ ∀ j,j < H.next → G.get j = H.get j:=by
  rintro G rfl
  refine ⟨rfl,rfl,by simp; omega,fun j hj=>?_⟩
  rw [AH.get_set_ne (by omega)]; exact ho j hj
 refine AW_cond' rfl rfl (fun hc=>?_) (fun hc=>?_)
 · have h0:0 ≤ k:=by simpa using hc
   obtain ⟨i,hi,rfl,hf⟩:∃ (i:Nat) (hi:i < ls.length),k = i ∧ findC ls a = some ls[i]:=by
    rcases hk with h | ⟨h,_⟩
    · exact h
    · omega
   obtain ⟨ax,q1,q2⟩:=(hv.upd u1).rec Cert.len (by decide) (P:=Tryz.prog) qelem_37 qsize_24 qagg_24 hi
   have hof:ofC ls a = ls[i]:=by unfold ofC; rw [hf]; rfl
   have hst:astore Tryz.prog H' 24 (.p (some (H.next + 1,0,0))) (.agg ls[i].cells) = some (H'.set (H.next + 1) (.cells ls[i].cells 0 false 0)):=by
    simp [astore,hp2,V.cells,show splice Cert.zero.cells 0 ls[i].cells = ls[i].cells from splice_all rfl]
   refine AW_seq ?_
   refine AW_reg [4] fun K hK=>?_
   simp [init_eq,q1,q2,hst]
   apply hK;clear hK K
   refine AW_ret (end_ret (ares_cell (v:=.agg (ofC ls a).cells) (by rw [hof]; simp [aload,AH.get_set_same (AH.get_lt hp2),take_cells])) (hend _ (by rw [hof])))
 · have h0:¬ 0 ≤ k:=by simpa using hc
   have hf:findC ls a = none:=by
    rcases hk with ⟨i,hi,rfl,_⟩ | ⟨h,h2⟩
    · omega
    · exact h2
   have hof:ofC ls a = Cert.zero:=by unfold ofC; rw [hf]; rfl
   have hst:astore Tryz.prog H' 24 (.p (some (H.next + 1,0,0))) (.agg Cert.zero.cells) = some (H'.set (H.next + 1) (.cells Cert.zero.cells 0 false 0)):=by
    simp [astore,hp2,V.cells,show splice Cert.zero.cells 0 Cert.zero.cells = Cert.zero.cells from splice_all rfl]
   refine AW_skip ?_
   refine AW_seq ?_
   refine AW_reg [4] fun K hK=>?_
   simp [init_eq,bzC,hst]
   apply hK;clear hK K
   refine AW_ret (end_ret (ares_cell (v:=.agg (ofC ls a).cells) (by rw [hof]; simp [aload,AH.get_set_same (AH.get_lt hp2),take_cells])) (hend _ (by rw [hof])))
/-! find. -/
theorem shr_half {P:Program} {t:TypeId} (n:Nat):abin P .shr t (.i .u64 (n:Int)) (.i .u64 1) = some (.i .u64 ((n / 2:Nat):Int)):=by
 have:min (1:Int).toNat IntKind.u64.bits = 1:=rfl
 simp only [abin,ashift,this]
 have h2:((n:Int)).fdiv (2 ^ 1) = ((n / 2:Nat):Int):=by
  rw [Int.fdiv_eq_ediv_of_nonneg _ (by decide)]
  rfl
 rw [h2]; rfl
theorem conv_up (G:AH) (n:Nat) (h:n < 1000000000000):aconvert Tryz.prog G 3 187 (.i .i64 (n:Int)) = some (.i .u64 (n:Int),G):=by
 simp [aconvert,Tryz.underlying3,Tryz.underlying187,wrap_u64 (n:=n) (by omega)]
theorem conv_down (G:AH) (n:Nat) (h:n < 1000000000000):aconvert Tryz.prog G 187 3 (.i .u64 (n:Int)) = some (.i .i64 (n:Int),G):=by
 simp [aconvert,Tryz.underlying3,Tryz.underlying187,wrap_id (x:=(n:Int)) (by omega) (by omega)]
def findF:V:=.fn (.func 120) [] []
theorem find1_ok (H:AH) (c:Cert) (a:Int) (h1:0 ≤ c.author ∧ c.author ≤ 9) (h2:0 ≤ a ∧ a ≤ 9) :
  ACalls Tryz.prog 120 [.agg c.cells,.i .i64 a] H fun r H'=>r = .i .i64 (c.author - a) ∧ H' = H:=by
 refine ACalls.pure (Q:=fun r=>r = .i .i64 (c.author - a)) ⟨_,Tryz.func120,rfl,rfl⟩ ?_
 refine ACalls_body Tryz.func120 rfl rfl ?_
 refine AW_seq ?_
 refine AW_reg [1,2] fun K hK=>?_
 simp [init_eq,V.cells]
 obtain ⟨H1,e1,hp,hn,ho⟩:=H.boxed c.cells
 rw [e1]
 apply hK;clear hK K
 refine AW_seq ?_
 refine AW_reg [4] fun K hK=>?_
 simp [init_eq,afieldAddr,aload,hp,wrap_id (x:=c.author - a) (by omega) (by omega)]
 apply hK;clear hK K
 exact AW_ret (end_ret rfl (pure_end hn ho (by simp) rfl))
/-- How many stand ahead of an author. -/
structure Low (ls:List Cert) (a:Int) (i:Nat):Prop where
 le:i ≤ ls.length
 below:∀ j x,j < i → ls[j]? = some x → x.author < a
 above:∀ j x,i ≤ j → ls[j]? = some x → a ≤ x.author
theorem bsearch_ok (H:AH) {v:V} {ls:List Cert} (hv:RS H v 8 (ls.map Cert.cells)) (hl:ls.length ≤ 1000000000) (hs:SortedC ls) (hr:RangeC ls) {a:Int} (ha:0 ≤ a ∧ a ≤ 9) :
  ACalls Tryz.prog 119 [v,.i .i64 a,findF] H fun r H'=>(∃ i:Nat,Low ls a i ∧ r = .tup [.i .i64 i,.b (decide ((ls[i]?).map Cert.author = some a))]) ∧ H' = H:=by
 refine ACalls_body Tryz.func119 rfl rfl ?_
 refine AW_seq ?_
 refine AW_reg [0,1,2] fun K hK=>?_
 simp [init_eq]
 apply hK;clear hK K
 refine AW_seq ?_
 refine AW_reg [0,1,2,8] fun K hK=>?_
 simp [init_eq,hv.alen qelem_37]
 apply hK;clear hK K
 refine AW_seq ?_
 refine AW_reg [0,1,2,8,9,10] fun K hK=>?_
 simp [init_eq]
 apply hK;clear hK K
 refine AW_seq ?_
 refine AW_block ?_
 have hlt:=List.pairwise_iff_getElem.1 hs
 refine AW_loop0 (fun p:Nat × Nat=>⟨49,[(0,v),(1,.i .i64 a),(2,findF),(8,.i .i64 ls.length),(9,.i .i64 p.1),(10,.i .i64 p.2)]⟩)
  (fun p=>p.1 ≤ p.2 ∧ p.2 ≤ ls.length ∧ (∀ j x,j < p.1 → ls[j]? = some x → x.author < a) ∧ (∀ j x,p.2 ≤ j → ls[j]? = some x → a ≤ x.author)) (fun p=>p.2 - p.1) (0,ls.length) (by simp) ⟨by simp,by simp,fun j x h=>by omega,fun j x h hx=>by rw [List.getElem?_eq_none h] at hx; cases hx⟩ (by dsimp only; omega) fun hw ⟨i,j⟩ ⟨hij,hj,hb,hab⟩=>?_
 dsimp only at hij hj hb hab ⊢
 refine AW_seq ?_
 refine AW_seq ?_
 refine AW_reg [0,1,2,8,9,10,17] fun K hK=>?_
 simp [init_eq]
 apply hK;clear hK K
 refine AW_cond' rfl rfl (fun hc=>?_) (fun hc=>?_)
 · have hltij:i < j:=by simpa using hc
   have hh:(i + j) / 2 < ls.length:=by omega
   have hh1:i ≤ (i + j) / 2:=by omega
   have hh2:(i + j) / 2 < j:=by omega
   generalize hhe:(i + j) / 2 = h at hh hh1 hh2
   obtain ⟨ax,q1,q2⟩:=hv.rec Cert.len (by decide) (P:=Tryz.prog) qelem_37 qsize_24 qagg_24 hh
   have hrh:=hr ls[h] (List.getElem_mem hh)
   have hwr:IntKind.i64.wrap ((i:Int) + (j:Int)) = ((i + j:Nat):Int):=by rw [wrap_id (by omega) (by omega)]; simp
   refine AW_skip ?_
   refine AW_block ?_
   refine AW_seq ?_
   refine AW_reg [0,1,2,8,9,10,11] fun K hK=>?_
   simp [init_eq,hwr,-Int.natCast_add,conv_up _ (i + j) (by omega),shr_half,hhe,conv_down _ h (by omega)]
   apply hK;clear hK K
   refine AW_seq ?_
   refine AW_reg [0,1,2,8,9,10,11,31] fun K hK=>?_
   simp [init_eq,q1,q2]
   rw [AOp_callv (f:=120) (first:=[]) (caps:=[]) (by simp [findF])]
   simp
   refine ACalls.mono (find1_ok H ls[h] a hrh ha) fun r H' ⟨hr,e⟩=>?_
   subst hr e
   try simp
   apply hK;clear hK K
   refine AW_cond' rfl rfl (fun hc=>?_) (fun hc=>?_)
   · have hl2:ls[h].author - a < 0:=by simpa using hc
     refine AW_reg [0,1,2,8,9,10] fun K hK=>?_
     simp [init_eq,wrap_id (x:=(h:Int) + 1) (by omega) (by omega)]
     apply hK;clear hK K
     refine bend (rend ⟨(h + 1,j),by simp,⟨by dsimp only; omega,hj,fun k x hk hx=>?_,hab⟩,by dsimp only; omega,.inl rfl⟩)
     obtain ⟨hkl,rfl⟩:=List.getElem?_eq_some_iff.1 hx
     by_cases hkh:k = h
     · subst hkh; omega
     · have:=hlt k h hkl hh (by dsimp only at hk; omega); omega
   · have hl2:¬ ls[h].author - a < 0:=by simpa using hc
     refine AW_reg [0,1,2,8,9,10] fun K hK=>?_
     simp [init_eq]
     apply hK;clear hK K
     refine bend (rend ⟨(i,h),by simp,⟨by dsimp only; omega,by dsimp only; omega,hb,fun k x hk hx=>?_⟩,by dsimp only; omega,.inl rfl⟩)
     obtain ⟨hkl,rfl⟩:=List.getElem?_eq_some_iff.1 hx
     by_cases hkh:k = h
     · subst hkh; omega
     · have:=hlt h k hh hkl (by dsimp only at hk; omega); omega
 · have hij':i = j:=by
     have:¬ i < j:=by simpa using hc
     omega
   subst hij'
   have low:Low ls a i:=⟨hj,hb,hab⟩
   refine AW_exit (then_exit (then_exit (block_here ?_)))
   refine AW_seq ?_
   by_cases hlt2:i < ls.length
   · obtain ⟨ax,q1,q2⟩:=hv.rec Cert.len (by decide) (P:=Tryz.prog) qelem_37 qsize_24 qagg_24 hlt2
     have hrh:=hr ls[i] (List.getElem_mem hlt2)
     refine AW_reg [6,7] fun K hK=>?_
     simp [init_eq,hlt2,q1,q2]
     rw [AOp_callv (f:=120) (first:=[]) (caps:=[]) (by simp [findF])]
     simp
     refine ACalls.mono (find1_ok H ls[i] a hrh ha) fun r H' ⟨hr,e⟩=>?_
     subst hr e
     try simp
     apply hK;clear hK K
     refine AW_ret (end_ret rfl ⟨⟨i,low,?_⟩,rfl⟩)
     have:(ls[i].author - a = 0) ↔ ((ls[i]?).map Cert.author = some a):=by
      rw [List.getElem?_eq_getElem hlt2]; simp; omega
     simp [this]
   · refine AW_reg [6,7] fun K hK=>?_
     simp [init_eq,hlt2]
     apply hK;clear hK K
     refine AW_ret (end_ret rfl ⟨⟨i,low,?_⟩,rfl⟩)
     rw [List.getElem?_eq_none (by omega)]
     simp
theorem find_ok (H:AH) {v:V} {ls:List Cert} (hv:RS H v 8 (ls.map Cert.cells)) (hl:ls.length ≤ 1000000000) (hs:SortedC ls) (hr:RangeC ls) {a:Int} (ha:0 ≤ a ∧ a ≤ 9) :
  ACalls Tryz.prog 95 [v,.i .i64 a] H fun r H'=>(∃ i:Nat,Low ls a i ∧ r = .tup [.i .i64 i,.b (decide ((ls[i]?).map Cert.author = some a))]) ∧ H' = H:=by
 refine ACalls_body Tryz.func95 rfl rfl ?_
 refine AW_seq ?_
 refine AW_reg [0,1] fun K hK=>?_
 simp [init_eq]
 apply hK;clear hK K
 refine AW_seq ?_
 refine AW_reg [4,5] fun K hK=>?_
 simp [init_eq]
 refine ACalls.mono (bsearch_ok H hv hl hs hr ha) fun r H' ⟨⟨i,low,hr⟩,e⟩=>?_
 subst hr e
 try simp
 apply hK;clear hK K
 exact AW_ret (end_ret rfl ⟨⟨i,low,by simp⟩,rfl⟩)
end Go.Proofs.YtaidfojbnfkclaaGreatDoor
