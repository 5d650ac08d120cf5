/-
  Contracts of the program's functions (TxtE). No conditions of my own.
-/
import Derived.Test.YtmhaimdpfelkpaaGreatDoorTxtB
import Derived.Test.YtmhaimdpfelkpaaGreatDoorTxtC
import Derived.Test.YtmhaimdpfelkpaaGreatDoorTxtA
set_option linter.unusedVariables false
set_option linter.unusedSimpArgs false
namespace Go.Proofs.YtmhaimdpfelkpaaGreatDoor
open Go Go.Abs Go.Proofs
set_option maxRecDepth 100000
attribute [local irreducible] AEnd AW ACalls
theorem AW_condT {r:Fm} {P:Program} [Laid P] {Q:Exit → Env → AH → Prop} {ρ:Env} {H:AH} {c:Operand} {x y:Code} (hv:aev ρ c = .b true) (h:AW r P x Q ρ H):AW r P (.cond c x y) Q ρ H:=AW_cond' hv rfl (fun _=>h) (fun h=>by cases h)
theorem AW_condF {r:Fm} {P:Program} [Laid P] {Q:Exit → Env → AH → Prop} {ρ:Env} {H:AH} {c:Operand} {x y:Code} (hv:aev ρ c = .b false) (h:AW r P y Q ρ H):AW r P (.cond c x y) Q ρ H:=AW_cond' hv rfl (fun h=>by cases h) (fun _=>h)
/-- The first that isn't 0. -/
def firstOf:List Int → Int
 | []=>0
 | e :: l=>if e = 0 then firstOf l else e
theorem firstOf_zero:∀ {l:List Int},(∀ e ∈ l,e = 0) → firstOf l = 0
 | [],_=>rfl
 | e :: l,h=>by rw [firstOf,if_pos (h e (by simp)),firstOf_zero fun e he=>h e (by simp [he])]
theorem firstOf_at:∀ {l:List Int} {i:Nat} (hi:i < l.length),(∀ j,(hj:j < i) → l[j] = 0) → l[i] ≠ 0 → firstOf l = l[i]
 | [],i,hi,_,_=>by simp at hi
 | e :: l,0,hi,_,h=>by simp only [List.getElem_cons_zero] at h ⊢; rw [firstOf,if_neg h]
 | e :: l,i + 1,hi,hz,h=>by
   have h0:e = 0:=hz 0 (by omega)
   have:=firstOf_at (l:=l) (i:=i) (by simpa using hi) (fun j hj=>hz (j + 1) (by omega)) h
   rw [firstOf,if_pos h0,this]
   rfl
/-! No registers. -/
end Go.Proofs.YtmhaimdpfelkpaaGreatDoor
set_option linter.unusedVariables false
set_option linter.unusedSimpArgs false
namespace Go.Proofs.YtmhaimdpfelkpaaGreatDoor
open Go Go.Abs Go.Proofs
set_option maxRecDepth 100000
attribute [local irreducible] AEnd AW ACalls
/-! Numbers of what is listed. -/
def lookN {α:Type} [DecidableEq α]:List α → α → Option Nat
 | [],_=>none
 | x :: l,s=>if s = x then some 1 else (lookN l s).map (· + 1)
section
variable {α:Type} [DecidableEq α]
theorem lookN_none:∀ {l:List α} {s:α},lookN l s = none ↔ s ∉ l
 | [],s=>by simp [lookN]
 | x :: l,s=>by
   simp only [lookN]
   by_cases h:s = x
   · simp [h]
   · simp [h,lookN_none (l:=l) (s:=s)]
theorem lookN_some:∀ {l:List α} {s:α} {n:Nat},lookN l s = some n → 1 ≤ n ∧ n ≤ l.length ∧ l[n - 1]? = some s
 | [],s,n,h=>by simp [lookN] at h
 | x :: l,s,n,h=>by
   simp only [lookN] at h
   split at h
   · cases h; subst_vars; simp
   · cases hl:lookN l s with
     | none=>simp [hl] at h
     | some m =>
       simp [hl] at h; subst h
       obtain ⟨h1,h2,h3⟩:=lookN_some hl
       refine ⟨by omega,by simp; omega,?_⟩
       obtain ⟨k,rfl⟩:∃ k,m = k + 1:=⟨m - 1,by omega⟩
       simpa using h3
theorem lookN_append:∀ {l:List α} {s:α} (h:s ∉ l) (t:α),lookN (l ++ [s]) t = if t = s then some (l.length + 1) else lookN l t
 | [],s,h,t=>by simp [lookN]
 | x :: l,s,h,t=>by
   have hx:s ≠ x:=fun e=>h (by simp [e])
   have hl:s ∉ l:=fun e=>h (by simp [e])
   simp only [List.cons_append,lookN,lookN_append hl t]
   by_cases h1:t = x
   · subst h1; simp [Ne.symm hx]
   · by_cases h2:t = s
     · subst h2; simp [h1]
     · simp [h1,h2]
/-- What is entered behind what is there. -/
def addN (l:List α) (s:α):List α:=if s ∈ l then l else l ++ [s]
theorem addN_len (l:List α) (s:α):(addN l s).length ≤ l.length + 1:=by
 unfold addN; split <;> simp
end
def txtC (s:List UInt8):List V:=[.s s]
theorem txtC_len (s:List UInt8):(txtC s).length = 1:=rfl
def cnt (n:Nat):V:=.i .i64 n
@[simp] theorem keq_txt (a b:List UInt8):keq Tryz.prog 9 (V.s a) (V.s b) = some (decide (a = b)):=(keq_s qstr_9).trans (congrArg some (Bool.eq_iff_iff.2 (by simp)))
@[simp] theorem fits_txt (a:List UInt8):keyFits Tryz.prog 9 (V.s a) = true:=by unfold keyFits; rw [Tryz.underlying9]
/-- The program's book. -/
def BookAt (H:AH) (ib:Nat) (F:List Nat) (cs:List (List UInt8)):Prop :=
 ∃ im vb Fb es clk,F = ib :: im :: Fb ∧ F.Nodup ∧ H.get ib = some (.cells [.m (some im),vb] 0 false 0) ∧ H.get im = some (.map (ents V.s cnt es) clk) ∧ (∀ s,mget es s = lookN cs s) ∧ Own H vb 1 (cs.map txtC).flatten Fb
theorem BookAt.upd {H H':AH} {ib:Nat} {F G:List Nat} {cs:List (List UInt8)} (h:BookAt H ib F cs) (hu:Upd H H' G) (hd:∀ j ∈ F,j ∉ G):BookAt H' ib F cs:=by
 obtain ⟨im,vb,Fb,es,clk,rfl,h2,h3,h4,h5,h6⟩:=h
 exact ⟨im,vb,Fb,es,clk,rfl,h2,hu.keep (hd ib (by simp)) h3,hu.keep (hd im (by simp)) h4,h5,h6.upd hu fun j hj=>hd j (by simp [hj])⟩
theorem BookAt.lt {H:AH} {ib:Nat} {F:List Nat} {cs:List (List UInt8)} (h:BookAt H ib F cs):∀ j ∈ F,j < H.next:=by
 obtain ⟨im,vb,Fb,es,clk,rfl,h2,h3,h4,h5,h6⟩:=h
 intro j hj
 simp only [List.mem_cons] at hj
 rcases hj with rfl | rfl | hj
 · exact AH.get_lt h3
 · exact AH.get_lt h4
 · exact h6.lt j hj
theorem bookNew_ok (H:AH):ACalls Tryz.prog 44 [] H fun r H'=>∃ ib F,r = .p (some (ib,0,0)) ∧ BookAt H' ib F [] ∧ Upd H H' [] ∧ ∀ j ∈ F,H.next ≤ j:=by
 refine ACalls_body Tryz.func44 rfl rfl ?_
 refine AW_seq ?_
 refine AW_reg [] fun K hK=>?_
 simp [init_eq]
 apply hK;clear hK K
 refine AW_seq ?_
 refine AW_reg [0] fun K hK=>?_
 simp [init_eq,abuild,afill,splice,V.cells]
 apply hK;clear hK K
 refine AW_ret (end_ret rfl ?_)
 refine ⟨H.next + 1,[H.next + 1,H.next],rfl,⟨H.next,.sl none 0 false,[],[],0,rfl,by simp,?_,?_,fun s=>by simp [lookN,mget_nil],.inl ⟨false,rfl,rfl,rfl⟩⟩,(Upd.new H _ []).trans (Upd.new _ _ []) (by simp),by simp⟩
 · simp [AH.get_new]
 · simp [AH.get_new,ents]
theorem bookContent_ok (H:AH) {ib:Nat} {F:List Nat} {cs:List (List UInt8)} (hb:BookAt H ib F cs) (hl:cs.length ≤ 100000) (n:Int):ACalls Tryz.prog 78 [.p (some (ib,0,0)),.i .i64 n] H fun r H'=>(r = if 1 ≤ n ∧ n ≤ cs.length then .tup [.s (cs[n.toNat - 1]?.getD []),.i .i64 0] else .tup [.s [],.i .i64 50]) ∧ H' = H:=by
 obtain ⟨im,vb,Fb,es,clk,rfl,h2,h3,h4,h5,h6⟩:=hb
 have hrs:RS H vb 1 (cs.map txtC):=h6.rsR (by decide) txtC_len
 have lx:=hrs.alen (P:=Tryz.prog) qelem_24 H
 refine ACalls_body Tryz.func78 rfl rfl ?_
 refine AW_seq ?_
 refine AW_reg [0,1] fun K hK=>?_
 simp [init_eq]
 apply hK;clear hK K
 refine AW_seq ?_
 refine AW_block ?_
 refine AW_seq ?_
 refine AW_reg [0,1,6] fun K hK=>?_
 simp [init_eq]
 apply hK;clear hK K
 refine AW_condF rfl ?_
 refine AW_seq ?_
 refine AW_regto [0,1,9] ⟨29,[(0,.p (some (ib,0,0))),(1,.i .i64 n),(9,.b (!decide (1 ≤ n ∧ n ≤ cs.length)))]⟩ H (fun K hk=>?_) ?_
 · by_cases g1:n < 1
   · have:¬ 1 ≤ n:=by omega
     simpa [init_eq,g1,this] using hk
   · have g1':1 ≤ n:=by omega
     have g2:decide ((cs.length:Int) < n) = !decide (n ≤ cs.length):=by rw [← decide_not]; exact decide_eq_decide.2 (by omega)
     simpa [init_eq,g1,g1',afieldAddr,aload,h3,lx,g2] using hk
 refine AW_cond' rfl rfl (fun hc=>?_) (fun hc=>?_)
 · have h0:¬ (1 ≤ n ∧ n ≤ cs.length):=by simp at hc; omega
   refine AW_seq ?_
   refine AW_reg [4,5] fun K hK=>?_
   simp [init_eq]
   apply hK;clear hK K
   refine AW_ret (end_ret rfl ⟨?_,rfl⟩)
   rw [if_neg h0]; rfl
 · have h0:1 ≤ n ∧ n ≤ cs.length:=by simpa using hc
   obtain ⟨i,hi⟩:∃ i:Nat,n = i + 1:=⟨n.toNat - 1,by omega⟩
   subst hi
   have hi:i < cs.length:=by omega
   obtain ⟨ax,px,qx⟩:=hrs.at1 (P:=Tryz.prog) (t:=24) (e:=9) qelem_24 qsize_9 qagg_9 (k:=.i64) i (x:=.s cs[i]) (by simp [hi,txtC])
   refine AW_skip ?_
   refine AW_seq ?_
   refine AW_reg [4,5] fun K hK=>?_
   have hl3:aload Tryz.prog H 24 (.p (some (ib,0,1))) = some vb:=by simp [aload,h3]
   have hwi:=wrap_id (x:=(i:Int)) (by omega) (by omega)
   simp [init_eq,afieldAddr,hl3,hwi,px,qx]
   apply hK;clear hK K
   refine AW_ret (end_ret rfl ⟨?_,rfl⟩)
   rw [if_pos h0]
   have:((i:Int) + 1).toNat - 1 = i:=by omega
   simp [this,hi]
end Go.Proofs.YtmhaimdpfelkpaaGreatDoor
set_option linter.unusedVariables false
set_option linter.unusedSimpArgs false
namespace Go.Proofs.YtmhaimdpfelkpaaGreatDoor
open Go Go.Abs Go.Proofs
set_option maxRecDepth 100000
attribute [local irreducible] AEnd AW ACalls
theorem app_strs:App Tryz.prog 24 24 1 16:=App.mk' qelem_24 qsize_9 qbytes_9 qzero_9 qsrc_24 rfl (by decide)
theorem own_nodup {H:AH} {v:V} {sz:Nat} {cs:List V} {F:List Nat} (h:Own H v sz cs F):F.Nodup:=by
 rcases h with ⟨c,h1,h2,h3⟩ | ⟨id,g,len,h1,h2,h3,h4⟩
 · subst h3; simp
 · subst h4; simp
/-- What a book holds when one more is entered. -/
def bkEnter (cs:List (List UInt8)) (s:List UInt8):List (List UInt8):=if 65536 < s.length then cs else addN cs s
theorem bkEnter_len (cs:List (List UInt8)) (s:List UInt8):(bkEnter cs s).length ≤ cs.length + 1:=by
 unfold bkEnter; split
 · omega
 · exact addN_len ..
theorem bookEnter_ok (H:AH) {ib:Nat} {F:List Nat} {cs:List (List UInt8)} (hb:BookAt H ib F cs) (hl:cs.length ≤ 100000) (s:List UInt8):ACalls Tryz.prog 18 [.p (some (ib,0,0)),.s s] H fun r H'=>(∃ a b,r = .tup [.i .i64 a,.i .i64 b]) ∧ ∃ F',BookAt H' ib F' (bkEnter cs s) ∧ Upd H H' F ∧ ∀ j ∈ F',j ∈ F ∨ H.next ≤ j:=by
 have hb0:=hb
 obtain ⟨im,vb,Fb,es,clk,rfl,h2,h3,h4,h5,h6⟩:=hb
 have hlk:alookup Tryz.prog H 127 (.m (some im)) (.s s) true = some (.tup [cnt ((lookN cs s).getD 0),.b (lookN cs s).isSome]):=by
  refine (alookup_ents (P:=Tryz.prog) (ke:=V.s) (ve:=cnt) (z:=.i .i64 0) qmap_127 qkey_9 fits_txt keq_txt (by simp) h4 s true).trans ?_
  rw [h5]; cases lookN cs s <;> rfl
 refine ACalls_body Tryz.func18 rfl rfl ?_
 refine AW_seq ?_
 refine AW_reg [0,1] fun K hK=>?_
 simp [init_eq]
 apply hK;clear hK K
 refine AW_seq ?_
 refine AW_block ?_
 refine AW_seq ?_
 refine AW_reg [0,1,8] fun K hK=>?_
 simp [init_eq]
 apply hK;clear hK K
 refine AW_condF rfl ?_
 refine AW_seq ?_
 refine AW_reg [0,1,11] fun K hK=>?_
 simp [init_eq,alen]
 apply hK;clear hK K
 refine AW_cond' rfl rfl (fun hc=>?_) (fun hc=>?_)
 · have h0:65536 < s.length:=by simp at hc; omega
   refine AW_seq ?_
   refine AW_reg [4,5] fun K hK=>?_
   simp [init_eq]
   apply hK;clear hK K
   refine AW_ret (end_ret rfl ⟨⟨_,_,rfl⟩,_,?_,Upd.refl ..,fun j hj=>.inl hj⟩)
   simpa [bkEnter,h0] using hb0
 · have h0:¬ 65536 < s.length:=by simp at hc; omega
   refine AW_skip ?_
   refine AW_seq ?_
   refine AW_seq ?_
   refine AW_reg [0,1,6,7] fun K hK=>?_
   simp [init_eq,afieldAddr,aload,h3,hlk]
   apply hK;clear hK K
   refine AW_seq ?_
   refine AW_reg [0,1,6,24] fun K hK=>?_
   simp [init_eq]
   apply hK;clear hK K
   refine AW_cond' rfl rfl (fun hc=>?_) (fun hc=>?_)
   · have hm:s ∈ cs:=Classical.byContradiction fun h=>by simp [lookN_none.2 h] at hc
     refine AW_seq ?_
     refine AW_reg [4,5] fun K hK=>?_
     simp [init_eq]
     apply hK;clear hK K
     refine AW_ret (end_ret rfl ⟨⟨_,_,rfl⟩,_,?_,Upd.refl ..,fun j hj=>.inl hj⟩)
     simpa [bkEnter,h0,addN,hm] using hb0
   · have hm:s ∉ cs:=fun h=>by
       have:lookN cs s ≠ none:=fun e=>lookN_none.1 e h
       cases hq:lookN cs s with
       | none=>exact this hq
       | some n=>simp [hq] at hc
     have hi1:ib < H.next:=AH.get_lt h3
     have hi2:im < H.next:=AH.get_lt h4
     obtain ⟨H1,v',H2,F',q1,q2,q3,q4,q5⟩:=h6.pushR (P:=Tryz.prog) (t:=24) app_strs qelem_24 qsize_9 qzero_9 rfl rfl (by decide) txtC_len (x:=.s s) s rfl (by simp [roomOk]; omega)
     have hnd:ib ∉ Fb ∧ im ∉ Fb ∧ ib ≠ im ∧ Fb.Nodup:=by simp only [List.nodup_cons,List.mem_cons,not_or] at h2; exact ⟨h2.1.2,h2.2.1,h2.1.1,h2.2.2⟩
     have g3:=q4.keep hnd.1 h3
     have g4:=q4.keep hnd.2.1 h4
     refine AW_skip ?_
     refine AW_seq ?_
     refine AW_reg [0,1] fun K hK=>?_
     have hl3:aload Tryz.prog H 24 (.p (some (ib,0,1))) = some vb:=by simp [aload,h3]
     have hst:astore Tryz.prog H2 24 (.p (some (ib,0,1))) v' = some (H2.set ib (.cells [.m (some im),v'] 0 false 0)):=by simp [astore,g3,q3.cells,splice]
     simp [init_eq,afieldAddr,hl3,q1,q2,hst]
     apply hK;clear hK K
     have hF:ib ∉ F' ∧ im ∉ F':=⟨fun h=>(q5 _ h).elim hnd.1 (by omega),fun h=>(q5 _ h).elim hnd.2.1 (by omega)⟩
     generalize hH3:H2.set ib _ = H3
     have k3:H3.get ib = some (.cells [.m (some im),v'] 0 false 0):=by rw [← hH3,AH.get_set]; simp; have:=q4.1; omega
     have u3:Upd H2 H3 [ib]:=by rw [← hH3]; exact Upd.set _ _ _ (by simp)
     have k4:H3.get im = some (.map (ents V.s cnt es) clk):=u3.keep (by simp; exact fun e=>hnd.2.2.1 e.symm) g4
     have o3:Own H3 v' 1 ((cs ++ [s]).map txtC).flatten F':=q3.upd u3 fun j hj=>by simp; exact fun e=>hF.1 (e ▸ hj)
     have lx:=(o3.rsR (by decide) txtC_len).alen (P:=Tryz.prog) qelem_24 H3
     have l3:aload Tryz.prog H3 24 (.p (some (ib,0,1))) = some v':=by simp [aload,k3]
     have m3:aload Tryz.prog H3 127 (.p (some (ib,0,0))) = some (.m (some im)):=by simp [aload,k3]
     have hup:amapUpdate Tryz.prog H3 127 (.m (some im)) (.s s) (cnt (cs.length + 1)) = some (H3.set im (.map (ents V.s cnt (mput es s (cs.length + 1) clk)) (mclk es s clk))) :=
      amapUpdate_ents (P:=Tryz.prog) (ke:=V.s) (ve:=cnt) qmap_127 qkey_9 fits_txt keq_txt k4 s (cs.length + 1)
     have hcn:V.i .i64 (((cs ++ [s]).length:Nat):Int) = cnt (cs.length + 1):=by simp [cnt]
     rw [hcn] at lx
     refine AW_seq ?_
     refine AW_regd [0] pl_18_9 pe_18_9 (by kernel_rfl) (by kernel_rfl) (by decide) fun K hK=>?_
     simp [init_eq,pl_18_9,afieldAddr,l3,m3,lx,hup]
     apply hK;clear hK K
     generalize hH4:H3.set im _ = H4
     have u4:Upd H3 H4 [im]:=by rw [← hH4]; exact Upd.set _ _ _ (by simp)
     have j3:H4.get ib = some (.cells [.m (some im),v'] 0 false 0):=u4.keep (by simp; exact hnd.2.2.1) k3
     have j4:H4.get im = some (.map (ents V.s cnt (mput es s (cs.length + 1) clk)) (mclk es s clk)):=by rw [← hH4,AH.get_set]; simp; exact AH.get_lt k4
     have o4:Own H4 v' 1 ((cs ++ [s]).map txtC).flatten F':=o3.upd u4 fun j hj=>by simp; exact fun e=>hF.2 (e ▸ hj)
     have l4:aload Tryz.prog H4 24 (.p (some (ib,0,1))) = some v':=by simp [aload,j3]
     have lx4:=(o4.rsR (by decide) txtC_len).alen (P:=Tryz.prog) qelem_24 H4
     refine AW_seq ?_
     refine AW_reg [4,5] fun K hK=>?_
     simp [init_eq,afieldAddr,l4,lx4]
     apply hK;clear hK K
     refine AW_ret (end_ret rfl ⟨⟨_,_,rfl⟩,ib :: im :: F',⟨im,v',F',_,_,rfl,?_,j3,j4,fun t=>?_,?_⟩,?_,fun j hj=>?_⟩)
     · simp only [List.nodup_cons,List.mem_cons,not_or]
       exact ⟨⟨hnd.2.2.1,hF.1⟩,hF.2,own_nodup q3⟩
     · rw [mget_mput,h5]
       simp only [bkEnter,if_neg h0,addN,if_neg hm,lookN_append hm]
     · simpa only [bkEnter,if_neg h0,addN,if_neg hm] using o4
     · exact ((q4.mono (fun j hj=>by simp [hj]):Upd H H2 (ib :: im :: Fb)).trans (u3.mono (by simp):Upd H2 H3 (ib :: im :: Fb)) (fun j hj=>.inl hj)).trans (u4.mono (by simp):Upd H3 H4 (ib :: im :: Fb)) (fun j hj=>.inl hj)
     · simp only [List.mem_cons] at hj
       rcases hj with rfl | rfl | hj
       · simp
       · simp
       · rcases q5 j hj with h | h
         · simp [h]
         · exact .inr h
/-- The document's book. -/
def RBookAt (H:AH) (ib:Nat) (F:List Nat) (cs:List (List UInt8)):Prop :=
 ∃ vb Fb,F = ib :: Fb ∧ F.Nodup ∧ H.get ib = some (.cells [vb] 0 false 0) ∧ Own H vb 1 (cs.map txtC).flatten Fb
theorem RBookAt.upd {H H':AH} {ib:Nat} {F G:List Nat} {cs:List (List UInt8)} (h:RBookAt H ib F cs) (hu:Upd H H' G) (hd:∀ j ∈ F,j ∉ G):RBookAt H' ib F cs:=by
 obtain ⟨vb,Fb,rfl,h2,h3,h6⟩:=h
 exact ⟨vb,Fb,rfl,h2,hu.keep (hd ib (by simp)) h3,h6.upd hu fun j hj=>hd j (by simp [hj])⟩
theorem RBookAt.lt {H:AH} {ib:Nat} {F:List Nat} {cs:List (List UInt8)} (h:RBookAt H ib F cs):∀ j ∈ F,j < H.next:=by
 obtain ⟨vb,Fb,rfl,h2,h3,h6⟩:=h
 intro j hj
 simp only [List.mem_cons] at hj
 rcases hj with rfl | hj
 · exact AH.get_lt h3
 · exact h6.lt j hj
theorem lookN_lt {α:Type} [DecidableEq α]:∀ {l:List α} {s:α} {i:Nat},i < l.length → (∀ j (hj:j < l.length),j < i → l[j] ≠ s) → (h:i < l.length) → l[i] = s → lookN l s = some (i + 1)
 | [],s,i,hi,_,_,_=>by simp at hi
 | x :: l,s,0,hi,_,_,h=>by simp at h; simp [lookN,h]
 | x :: l,s,i + 1,hi,hn,_,h=>by
   have h0:¬ s = x:=fun e=>hn 0 (by simp) (by omega) (by simp [e])
   simp only [lookN,if_neg h0]
   rw [lookN_lt (l:=l) (i:=i) (by simpa using hi) (fun j hj hj'=>by have:=hn (j + 1) (by simpa using hj) (by omega); simpa using this) (by simpa using hi) (by simpa using h)]
   rfl
theorem rbookLook_ok (H:AH) {ib:Nat} {F:List Nat} {cs:List (List UInt8)} (hb:RBookAt H ib F cs) (hl:cs.length ≤ 100000) (s:List UInt8):ACalls Tryz.prog 52 [.p (some (ib,0,0)),.s s] H fun r H'=>r = .i .i64 ((lookN cs s).getD 0:Nat) ∧ H' = H:=by
 obtain ⟨vb,Fb,rfl,h2,h3,h6⟩:=hb
 have hrs:RS H vb 1 (cs.map txtC):=h6.rsR (by decide) txtC_len
 have lx:=hrs.alen (P:=Tryz.prog) qelem_24 H
 have hl3:aload Tryz.prog H 24 (.p (some (ib,0,0))) = some vb:=by simp [aload,h3]
 refine ACalls_body Tryz.func52 rfl rfl ?_
 refine AW_seq ?_
 refine AW_reg [0,1] fun K hK=>?_
 simp [init_eq]
 apply hK;clear hK K
 refine AW_seq ?_
 refine AW_seq ?_
 refine AW_reg [0,1,5] fun K hK=>?_
 simp [init_eq]
 apply hK;clear hK K
 refine AW_block ?_
 refine AW_loop0 (fun i:Nat=>⟨26,[(0,.p (some (ib,0,0))),(1,.s s),(5,.i .i64 i)]⟩) (fun i=>i ≤ cs.length ∧ ∀ j (hj:j < cs.length),j < i → cs[j] ≠ s) (fun i=>cs.length - i) 0 (by simp) (by simp) (by dsimp only; omega) fun hw i hM=>?_
 refine AW_seq ?_
 refine AW_seq ?_
 refine AW_reg [0,1,5,12] fun K hK=>?_
 simp [init_eq,afieldAddr,hl3,lx]
 apply hK;clear hK K
 refine AW_cond' rfl rfl (fun hc=>?_) (fun hc=>?_)
 · have hi:i < cs.length:=by simpa using hc
   obtain ⟨ax,px,qx⟩:=hrs.at1 (P:=Tryz.prog) (t:=24) (e:=9) qelem_24 qsize_9 qagg_9 (k:=.i64) i (x:=.s cs[i]) (by simp [hi,txtC])
   refine AW_skip ?_
   refine AW_seq ?_
   refine AW_block ?_
   refine AW_seq ?_
   refine AW_reg [0,1,5,23] fun K hK=>?_
   simp [init_eq,afieldAddr,hl3,px,qx]
   apply hK;clear hK K
   refine AW_cond' rfl rfl (fun hc=>?_) (fun hc=>?_)
   · have he:cs[i] = s:=by simpa using hc
     refine AW_seq ?_
     refine AW_reg [4] fun K hK=>?_
     simp [init_eq,wrap_id (x:=(i:Int) + 1) (by omega) (by omega)]
     apply hK;clear hK K
     refine AW_ret (end_ret rfl ⟨?_,rfl⟩)
     simp [lookN_lt hi hM.2 hi he]
   · have he:¬ cs[i] = s:=by simpa using hc
     refine AW_skip ?_
     refine AW_reg [0,1,5] fun K hK=>?_
     simp [init_eq,wrap_id (x:=(i:Int) + 1) (by omega) (by omega)]
     apply hK;clear hK K
     exact rend ⟨i + 1,by simp,⟨by omega,fun j hj hj'=>(Nat.lt_or_eq_of_le (Nat.le_of_lt_succ hj')).elim (fun h=>hM.2 j hj h) (fun h=>by subst h; exact he)⟩,by omega,.inl rfl⟩
 · have hi : i = cs.length := by have : ¬ i < cs.length := by simpa using hc
                                 omega
   have hn:s ∉ cs:=fun h=>by
    obtain ⟨j,hj,e⟩:=List.mem_iff_getElem.1 h
    exact hM.2 j hj (by omega) e
   refine AW_exit (then_exit (then_exit (block_here ?_)))
   refine AW_seq ?_
   refine AW_reg [4] fun K hK=>?_
   simp [init_eq]
   apply hK;clear hK K
   refine AW_ret (end_ret rfl ⟨?_,rfl⟩)
   simp [lookN_none.2 hn]
/-- All of a list copied behind a new one, and one more. -/
theorem fresh_push {α:Type} {f:α → List V} {t e:TypeId} {sz bytes:Nat} {z:V} {zl:List V} (ha:App Tryz.prog t t sz bytes) (hq:qelem Tryz.prog t = some e) (hs:qsize Tryz.prog e = some sz) (hz:qzero Tryz.prog e = some z) (hzl:z.cells = some zl) (hzll:zl.length = sz) (hsz:sz ≤ 16777216) (hlf:∀ a,(f a).length = sz)
  {H:AH} {v:V} {xs:List α} {F:List Nat} (h:Own H v sz (xs.map f).flatten F) (a:α) {x:V} (hx:x.cells = some (f a)) (hr:roomOk (xs.length + 1) bytes = true) (hr0:roomOk xs.length bytes = true) :
  ∃ v0 H1 v1 H2 H3 v2 H4 F',abuildSlice Tryz.prog H t 0 [] = some (v0,H1) ∧ aappend Tryz.prog H1 t t v0 v = some (v1,H2) ∧ abuildSlice Tryz.prog H2 t 1 [(0,x)] = some (.sl (some (H2.next,0,0)) 1 false,H3) ∧ aappend Tryz.prog H3 t t v1 (.sl (some (H2.next,0,0)) 1 false) = some (v2,H4) ∧
   Own H4 v2 sz ((xs ++ [a]).map f).flatten F' ∧ Upd H H4 [] ∧ ∀ j ∈ F',H.next ≤ j:=by
 have hp:=ha.pos
 have e1:abuildSlice Tryz.prog H t 0 [] = some (.sl (some (H.next,0,0)) 0 false,H.new (.cells [] 0 false sz)):=by
  simp [abuildSlice,hq,hs,hz,hzl,hzll,hp,afill]
 have u1:Upd H (H.new (.cells [] 0 false sz)) []:=Upd.new ..
 have o1:Own (H.new (.cells [] 0 false sz)) (.sl (some (H.next,0,0)) 0 false) sz [] [H.next]:=.inr ⟨H.next,0,0,rfl,by simp [AH.get_new],by simp,rfl⟩
 have hsrc:=(h.upd u1 (by simp)).sl.asource (P:=Tryz.prog) hp
 have hfl:(xs.map f).flatten.length = xs.length * sz:=flatten_len _ (fun l hl=>by obtain ⟨b,_,rfl⟩:=List.mem_map.1 hl; exact hlf b) |>.trans (by simp)
 have hd:(xs.map f).flatten.length / sz = xs.length:=by rw [hfl,Nat.mul_div_cancel _ hp]
 rw [hd] at hsrc
 obtain ⟨v1,H2,F1,q1,q2,q3,q4⟩:=Own.append ha o1 hsrc hfl (by simpa using hr0)
 simp only [List.nil_append] at q2
 obtain ⟨H3,v2,H4,F',p1,p2,p3,p4,p5⟩:=q2.pushR (P:=Tryz.prog) (t:=t) ha hq hs hz hzl hzll hsz hlf a hx hr
 refine ⟨_,_,v1,H2,H3,v2,H4,F',e1,q1,p1,p2,p3,?_,fun j hj=>?_⟩
 · refine (u1.trans q3 fun j hj=>.inr (by simp at hj; omega)).trans p4 fun j hj=>.inr ?_
   rcases q4 j hj with h | h
   · simp at h; omega
   · have:=u1.1; omega
 · have:=u1.1
   have:=q3.1
   rcases p5 j hj with h | h
   · rcases q4 j h with h | h
     · simp at h; omega
     · omega
   · omega
theorem rbookEnter_ok (H:AH) {ib:Nat} {F:List Nat} {cs:List (List UInt8)} (hb:RBookAt H ib F cs) (hl:cs.length ≤ 10000) (s:List UInt8):ACalls Tryz.prog 46 [.p (some (ib,0,0)),.s s] H fun r H'=>(∃ a b,r = .tup [.i .i64 a,.i .i64 b]) ∧ ∃ F',RBookAt H' ib F' (bkEnter cs s) ∧ Upd H H' F ∧ ∀ j ∈ F',j ∈ F ∨ H.next ≤ j:=by
 have hb0:=hb
 obtain ⟨vb,Fb,rfl,h2,h3,h6⟩:=hb
 have hl3:aload Tryz.prog H 24 (.p (some (ib,0,0))) = some vb:=by simp [aload,h3]
 refine ACalls_body Tryz.func46 rfl rfl ?_
 refine AW_seq ?_
 refine AW_reg [0,1] fun K hK=>?_
 simp [init_eq]
 apply hK;clear hK K
 refine AW_seq ?_
 refine AW_seq ?_
 refine AW_reg [0,1,9] fun K hK=>?_
 simp [init_eq,alen]
 apply hK;clear hK K
 refine AW_cond' rfl rfl (fun hc=>?_) (fun hc=>?_)
 · have h0:65536 < s.length:=by simp at hc; omega
   refine AW_seq ?_
   refine AW_reg [4,5] fun K hK=>?_
   simp [init_eq]
   apply hK;clear hK K
   refine AW_ret (end_ret rfl ⟨⟨_,_,rfl⟩,_,?_,Upd.refl ..,fun j hj=>.inl hj⟩)
   simpa [bkEnter,h0] using hb0
 · have h0:¬ 65536 < s.length:=by simp at hc; omega
   refine AW_skip ?_
   refine AW_seq ?_
   refine AW_reg [0,1,6] fun K hK=>?_
   simp [init_eq]
   refine ACalls.mono (rbookLook_ok H hb0 (by omega) s) fun r H' ⟨hr,e⟩=>?_
   subst hr e
   try simp
   apply hK;clear hK K
   refine AW_seq ?_
   refine AW_seq ?_
   refine AW_reg [0,1,6,14] fun K hK=>?_
   simp [init_eq]
   apply hK;clear hK K
   refine AW_cond' rfl rfl (fun hc=>?_) (fun hc=>?_)
   · have hm:s ∉ cs:=fun h=>by
       cases hq:lookN cs s with
       | none=>exact lookN_none.1 hq h
       | some n=>have:=(lookN_some hq).1; simp [hq] at hc; omega
     have hi1:ib < H'.next:=AH.get_lt h3
     obtain ⟨v0,H1,v1,H2,H3,v2,H4,F',p1,p2,p3,p4,p5,p6,p7⟩:=fresh_push (t:=24) app_strs qelem_24 qsize_9 qzero_9 rfl rfl (by decide) txtC_len h6 s (x:=.s s) rfl (by simp [roomOk]; omega) (by simp [roomOk]; omega)
     have g3:=p6.keep (by simp) h3
     have hn4:=p6.1
     have hst:astore Tryz.prog H4 24 (.p (some (ib,0,0))) v2 = some (H4.set ib (.cells [v2] 0 false 0)):=by simp [astore,g3,p5.cells,splice]
     have u12:Upd H' H1 []:=by
      simp [abuildSlice,afill] at p1
      obtain ⟨rfl,rfl⟩:=p1
      exact Upd.new ..
     have hl1:aload Tryz.prog H1 24 (.p (some (ib,0,0))) = some vb:=by simp [aload,u12.keep (by simp) h3]
     refine AW_seq ?_
     refine AW_reg [0] fun K hK=>?_
     simp [init_eq,p1,afieldAddr,hl1,p2,p3,p4,hst]
     apply hK;clear hK K
     have hF:ib ∉ F':=fun h=>by have:=p7 _ h; omega
     generalize hH5:H4.set ib _ = H5
     have k3:H5.get ib = some (.cells [v2] 0 false 0):=by rw [← hH5,AH.get_set]; simp; omega
     have u5:Upd H4 H5 [ib]:=by rw [← hH5]; exact Upd.set _ _ _ (by simp)
     have o5:Own H5 v2 1 ((cs ++ [s]).map txtC).flatten F':=p5.upd u5 fun j hj=>by simp; exact fun e=>hF (e ▸ hj)
     have l5:aload Tryz.prog H5 24 (.p (some (ib,0,0))) = some v2:=by simp [aload,k3]
     have lx5:=(o5.rsR (by decide) txtC_len).alen (P:=Tryz.prog) qelem_24 H5
     refine AW_reg [6] fun K hK=>?_
     simp [init_eq,afieldAddr,l5,lx5]
     apply hK;clear hK K
     refine AW_seq ?_
     refine AW_reg [4,5] fun K hK=>?_
     simp [init_eq]
     apply hK;clear hK K
     refine AW_ret (end_ret rfl ⟨⟨_,_,rfl⟩,ib :: F',⟨v2,F',rfl,by simp only [List.nodup_cons]; exact ⟨hF,own_nodup p5⟩,k3,?_⟩,?_,fun j hj=>?_⟩)
     · simpa only [bkEnter,if_neg h0,addN,if_neg hm] using o5
     · exact (p6.mono (by simp):Upd H' H4 (ib :: Fb)).trans (u5.mono (by simp):Upd H4 H5 (ib :: Fb)) (fun j hj=>.inl hj)
     · simp only [List.mem_cons] at hj
       rcases hj with rfl | hj
       · simp
       · exact .inr (p7 j hj)
   · have hm:s ∈ cs:=Classical.byContradiction fun h=>by simp [lookN_none.2 h] at hc
     refine AW_skip ?_
     refine AW_seq ?_
     refine AW_reg [4,5] fun K hK=>?_
     simp [init_eq]
     apply hK;clear hK K
     refine AW_ret (end_ret rfl ⟨⟨_,_,rfl⟩,_,?_,Upd.refl ..,fun j hj=>.inl hj⟩)
     simpa [bkEnter,h0,addN,hm] using hb0
end Go.Proofs.YtmhaimdpfelkpaaGreatDoor
set_option linter.unusedVariables false
set_option linter.unusedSimpArgs false
namespace Go.Proofs.YtmhaimdpfelkpaaGreatDoor
open Go Go.Abs Go.Proofs
set_option maxRecDepth 100000
attribute [local irreducible] AEnd AW ACalls
def cntC (n:Nat):List V:=[cnt n]
theorem cntC_len (n:Nat):(cntC n).length = 1:=rfl
/-- The members below a number. -/
def bitsTo (s:BitVec 32) (k:Nat):List Nat:=(List.range k).filter fun i=>s.getLsbD i
def bitsOf (s:BitVec 32):List Nat:=bitsTo s 32
theorem bitsTo_succ (s:BitVec 32) (k:Nat):bitsTo s (k + 1) = bitsTo s k ++ (if s.getLsbD k then [k] else []):=by
 unfold bitsTo
 rw [List.range_succ,List.filter_append]
 cases h:s.getLsbD k <;> simp [h]
theorem mem_bitsOf {s:BitVec 32} {k:Nat}:k ∈ bitsOf s ↔ s.getLsbD k = true:=by
 unfold bitsOf bitsTo
 simp only [List.mem_filter,List.mem_range]
 exact ⟨fun h=>h.2,fun h=>⟨BitVec.lt_of_getLsbD h,h⟩⟩
theorem bitsTo_stop (s:BitVec 32):∀ (n:Nat) {k:Nat},k + n = 32 → s >>> k = 0#32 → bitsTo s k = bitsOf s
 | 0,k,h,_=>by simp at h; subst h; rfl
 | n + 1,k,h,hs=>by
   have h1:s.getLsbD k = false:=by
    have:=BitVec.getLsbD_ushiftRight s k 0
    rw [hs] at this; simpa using this.symm
   have h2:s >>> (k + 1) = 0#32:=by rw [BitVec.shiftRight_add,hs]; simp
   rw [← bitsTo_stop s n (k:=k + 1) (by omega) h2,bitsTo_succ,h1]; simp
theorem filter_first {p:Nat → Bool} {c:Nat}:∀ {n:Nat},c < n → p c = true → (∀ i,i < c → p i = false) → (List.range n).filter p = c :: (List.range n).filter fun i=>p i && !decide (i = c)
 | 0,h,_,_=>by omega
 | n + 1,h,hc,hn=>by
   rw [List.range_succ,List.filter_append,List.filter_append]
   by_cases e:c = n
   · subst e
     have h1:(List.range c).filter p = []:=by
      rw [List.filter_eq_nil_iff]; intro i hi; simp at hi; simp [hn i hi]
     have h2:((List.range c).filter fun i=>p i && !decide (i = c)) = []:=by
      rw [List.filter_eq_nil_iff]; intro i hi; simp at hi; simp [hn i hi]
     simp [h1,h2,hc]
   · rw [filter_first (n:=n) (by omega) hc hn]
     have hne:¬ n = c:=fun h=>e h.symm
     cases hp:p n <;> simp [hp,hne]
theorem low_bit {x:Nat} (h0:x ≠ 0) (h:x < 2 ^ 32):Lib.ctz 32 x < 32 ∧ x.testBit (Lib.ctz 32 x) = true ∧ (∀ i,i < Lib.ctz 32 x → x.testBit i = false) ∧ ∀ i,(x &&& (x - 1)).testBit i = (x.testBit i && !decide (i = Lib.ctz 32 x)):=by
 obtain ⟨m,hm,hc⟩:=Lib.ctzFrom_spec 32 x (by omega) h
 have e:Lib.ctz 32 x = Lib.ctzFrom 32 x:=by unfold Lib.ctz; rw [if_neg h0]
 rw [e]
 generalize Lib.ctzFrom 32 x = c at *
 have hx:∀ i,x.testBit i = (decide (c ≤ i) && (2 * m + 1).testBit (i - c)):=fun i=>by
  rw [hm,Nat.mul_comm,Nat.testBit_mul_two_pow]
 have hp:0 < 2 ^ c:=Nat.pos_of_ne_zero (by simp)
 have hx1:∀ i,(x - 1).testBit i = if i < c then (2 ^ c - 1).testBit i else (2 * m).testBit (i - c):=fun i=>by
  have:x - 1 = 2 ^ c * (2 * m) + (2 ^ c - 1):=by
   rw [hm,Nat.mul_add]; omega
  rw [this,Nat.testBit_two_pow_mul_add _ (by omega)]
 refine ⟨hc,by rw [hx]; simp [Nat.testBit_zero],fun i hi=>by rw [hx]; simp; omega,fun i=>?_⟩
 rw [Nat.testBit_and,hx1]
 by_cases h1:i < c
 · have:x.testBit i = false:=by rw [hx]; simp; omega
   simp [this]
 · rw [if_neg h1,hx]
   by_cases h2:i = c
   · subst h2; simp [Nat.testBit_zero]
   · obtain ⟨d,hd⟩:∃ d,i - c = d + 1:=⟨i - c - 1,by omega⟩
     have t1:(2 * m + 1).testBit (d + 1) = m.testBit d:=by rw [Nat.testBit_succ]; congr 1; omega
     have t2:(2 * m).testBit (d + 1) = m.testBit d:=by rw [Nat.testBit_succ]; congr 1; omega
     simp [hd,t1,t2,h2]
theorem bitsOf_low {t:BitVec 32} (h:t ≠ 0#32):bitsOf t = Lib.ctz 32 t.toNat :: bitsOf (t &&& (t - 1#32)):=by
 have h0:t.toNat ≠ 0:=fun e=>h (BitVec.eq_of_toNat_eq (by simpa using e))
 have hlt:=t.isLt
 obtain ⟨h1,h2,h3,h4⟩:=low_bit h0 hlt
 have ht:(t - 1#32).toNat = t.toNat - 1:=by rw [BitVec.toNat_sub]; simp; omega
 unfold bitsOf bitsTo
 rw [filter_first (p:=fun i=>t.getLsbD i) h1 h2 h3]
 congr 1
 apply List.filter_congr
 intro i hi
 have:=h4 i
 rw [← ht,← BitVec.toNat_and] at this
 exact this.symm
theorem bitsOf_zero:bitsOf 0#32 = []:=by
 unfold bitsOf bitsTo
 rw [List.filter_eq_nil_iff]; intro i _; simp
theorem bitsOf_len (t:BitVec 32):(bitsOf t).length ≤ 32:=by
 have:=List.length_filter_le (fun i=>t.getLsbD i) (List.range 32)
 simpa [bitsOf,bitsTo] using this
theorem u32_half {P:Program} {t:TypeId} (x:BitVec 32):abin P .quo t (u32 x) (u32 2#32) = some (u32 (x >>> 1)):=by
 show (if IntKind.u32 = IntKind.u32 then aint .quo .u32 (x.toNat:Int) ((2#32:BitVec 32).toNat:Int) else none) = _
 rw [if_pos rfl]
 unfold aint
 simp only []
 rw [show ((2#32:BitVec 32).toNat:Int) = 2 from rfl,if_neg (by decide),Int.tdiv_eq_ediv_of_nonneg (by omega)]
 have h2:(x.toNat:Int) / 2 = ((x.toNat / 2:Nat):Int):=by omega
 have h1:(x >>> 1).toNat = x.toNat / 2:=by simp [Nat.shiftRight_eq_div_pow]
 have hlt:=x.isLt
 rw [h2,wrap_u32 (by omega)]
 unfold u32
 rw [h1]
theorem u32_odd {P:Program} {t:TypeId} (x:BitVec 32):abin P .rem t (u32 x) (u32 2#32) = some (u32 (if x.toNat % 2 = 1 then 1#32 else 0#32)):=by
 show (if IntKind.u32 = IntKind.u32 then aint .rem .u32 (x.toNat:Int) ((2#32:BitVec 32).toNat:Int) else none) = _
 rw [if_pos rfl]
 unfold aint
 simp only []
 rw [show ((2#32:BitVec 32).toNat:Int) = 2 from rfl,if_neg (by decide),Int.tmod_eq_emod_of_nonneg (by omega)]
 by_cases h:x.toNat % 2 = 1
 · rw [if_pos h,show (x.toNat:Int) % 2 = 1 by omega]; rfl
 · rw [if_neg h,show (x.toNat:Int) % 2 = 0 by omega]; rfl
theorem bit_odd (s x:BitVec 32) (k:Nat) (hx:x = s >>> k):s.getLsbD k = decide (x.toNat % 2 = 1):=by
 have h1:=BitVec.getLsbD_ushiftRight s k 0
 rw [← hx] at h1
 rw [show k + 0 = k from rfl] at h1
 rw [← h1,BitVec.getLsbD,Nat.testBit_zero]
theorem rlist_ok (H:AH) (s:BitVec 32):ACalls Tryz.prog 103 [u32 s] H fun r H'=>∃ (F:List Nat),Own H' r 1 ((bitsOf s).map cntC).flatten F ∧ Upd H H' [] ∧ ∀ j ∈ F,H.next ≤ j:=by
 refine ACalls_body Tryz.func103 rfl rfl ?_
 refine AW_seq ?_
 refine AW_reg [0] fun K hK=>?_
 simp [init_eq]
 apply hK;clear hK K
 refine AW_seq ?_
 refine AW_reg [0,3] fun K hK=>?_
 simp [init_eq]
 apply hK;clear hK K
 refine AW_seq ?_
 refine AW_seq ?_
 refine AW_reg [0,3,4] fun K hK=>?_
 simp [init_eq]
 apply hK;clear hK K
 refine AW_block ?_
 refine AW_loopx (fun x:Nat × BitVec 32 × V=>⟨19,[(0,u32 x.2.1),(3,x.2.2),(4,.i .i64 (x.1:Int))]⟩)
  (fun x G=>x.1 ≤ 32 ∧ x.2.1 = s >>> x.1 ∧ Upd H G [] ∧ ∃ (l:List Nat) (F:List Nat),l = bitsTo s x.1 ∧ Own G x.2.2 1 (l.map cntC).flatten F ∧ ∀ j ∈ F,H.next ≤ j)
  (fun x=>32 - x.1) (0,s,.sl none 0 false) (by simp) ⟨(show 0 ≤ 32 by decide),(by simp:s = s >>> 0),Upd.refl _ _,[],[],rfl,Own.nil ..,by simp⟩ fun x G hM=>?_
 obtain ⟨k,x,v⟩:=x
 obtain ⟨hk0,hx,hu,l,F,hl,o,lF⟩:=hM
 simp only at hk0 hx hl o ⊢
 refine AW_seq ?_
 refine AW_seq ?_
 refine AW_reg [0,3,4,6] fun K hK=>?_
 simp [init_eq]
 apply hK;clear hK K
 refine AW_cond' rfl rfl (fun hc=>?_) (fun hc=>?_)
 · have hpos:0 < x.toNat:=by simpa using hc
   have hk:k < 32:=by
    apply Classical.byContradiction
    intro hn
    have:k = 32:=by omega
    subst this
    have h0:x = 0#32:=by
     rw [hx]
     apply BitVec.eq_of_toNat_eq
     rw [BitVec.toNat_ushiftRight,Nat.shiftRight_eq_div_pow]
     exact Nat.div_eq_of_lt s.isLt
    rw [h0] at hpos; simp at hpos
   have hb:=bit_odd s x k hx
   have hx1:x >>> 1 = s >>> (k + 1):=by rw [hx,BitVec.shiftRight_add]
   have hll:l.length ≤ k:=by
    rw [hl]; unfold bitsTo
    have:=List.length_filter_le (fun i=>s.getLsbD i) (List.range k)
    simpa using this
   refine AW_skip ?_
   refine AW_seq ?_
   refine AW_block ?_
   have key:∀ {v':V} {G':AH} {l':List Nat} {F':List Nat},l' = bitsTo s (k + 1) → Own G' v' 1 (l'.map cntC).flatten F' → Upd H G' [] → (∀ j ∈ F',H.next ≤ j) → (((k + 1,x >>> 1,v').1:Nat) ≤ 32 ∧ (k + 1,x >>> 1,v').2.1 = s >>> (k + 1) ∧ Upd H G' [] ∧ ∃ (l:List Nat) (F:List Nat),l = bitsTo s (k + 1) ∧ Own G' (k + 1,x >>> 1,v').2.2 1 (l.map cntC).flatten F ∧ ∀ j ∈ F,H.next ≤ j) :=
    fun h1 h2 h3 h4=>⟨(show k + 1 ≤ 32 by omega),hx1,h3,_,_,h1,h2,h4⟩
   refine AW_seq ?_
   refine AW_seq ?_
   refine AW_regto [0,3,4,11] ⟨19,[(0,u32 x),(3,v),(4,.i .i64 (k:Int)),(11,.b (decide (x.toNat % 2 = 1)))]⟩ G (fun K hk=>?_) ?_
   · by_cases hodd:x.toNat % 2 = 1
     · simpa [init_eq,u32_odd,hodd] using hk
     · simpa [init_eq,u32_odd,hodd] using hk
   refine AW_cond' rfl rfl (fun hc=>?_) (fun hc=>?_)
   · have hodd:x.toNat % 2 = 1:=by simpa using hc
     obtain ⟨G2,v',G3,F',b1,b2,b3,b4,b5⟩:=o.pushR (f:=cntC) app_ints qelem_64 qsize_3 qzero_3 rfl rfl (by decide) (fun _=>rfl) k (x:=.i .i64 (k:Int)) rfl (by simp [roomOk]; omega)
     refine AW_reg [0,3,4] fun K hK=>?_
     simp [init_eq,b1,b2]
     apply hK;clear hK K
     refine AW_reg [0,3,4] fun K hK=>?_
     simp [init_eq,u32_half]
     apply hK;clear hK K
     refine bend (rend ?_)
     refine AW_reg [0,3,4] fun K hK=>?_
     simp [init_eq,wrap_id (x:=(k:Int) + 1) (by omega) (by omega)]
     apply hK;clear hK K
     refine rend ⟨(k + 1,x >>> 1,v'),by simp,key (by rw [bitsTo_succ,hb]; simp [hodd,hl]) b3 (hu.trans b4 (fun j hj=>.inr (lF j hj))) (fun j hj=>?_),by simp; omega⟩
     rcases b5 j hj with h | h
     · exact lF j h
     · have:=hu.1; omega
   · have hodd:¬ x.toNat % 2 = 1:=by simpa using hc
     refine AW_skip ?_
     refine AW_reg [0,3,4] fun K hK=>?_
     simp [init_eq,u32_half]
     apply hK;clear hK K
     refine bend (rend ?_)
     refine AW_reg [0,3,4] fun K hK=>?_
     simp [init_eq,wrap_id (x:=(k:Int) + 1) (by omega) (by omega)]
     apply hK;clear hK K
     exact rend ⟨(k + 1,x >>> 1,v),by simp,key (by rw [bitsTo_succ,hb]; simp [hodd,hl]) o hu lF,by simp; omega⟩
 · have h0:x = 0#32:=by
     have:¬ 0 < x.toNat:=by simpa using hc
     apply BitVec.eq_of_toNat_eq; simp; omega
   have hpop:bitsTo s k = bitsOf s:=bitsTo_stop s (32 - k) (by omega) (by rw [← hx,h0])
   refine AW_exit (then_exit (then_exit (block_here ?_)))
   refine AW_seq ?_
   refine AW_reg [2] fun K hK=>?_
   simp [init_eq]
   apply hK;clear hK K
   rw [hl,hpop] at o
   exact AW_ret (end_ret rfl ⟨F,o,hu,lF⟩)
/-- Is it in a set? -/
def hasB (s:BitVec 32) (k:Int):Bool:=decide (0 ≤ k) && s.getLsbD k.toNat
theorem shr_one (s:BitVec 32) (n:Nat):((s >>> n) &&& 1#32 = 1#32) = (s.getLsbD n = true):=by
 have h:((s >>> n) &&& 1#32 = 1#32) ↔ (s >>> n).getLsbD 0 = true:=by
  constructor
  · intro h
    have:=congrArg (fun b=>BitVec.getLsbD b 0) h
    simpa using this
  · intro h
    apply BitVec.eq_of_getLsbD_eq
    intro i hi
    rw [BitVec.getLsbD_and]
    by_cases h0:i = 0
    · subst h0; simpa using h
    · have:(1#32).getLsbD i = false:=by simp [BitVec.getLsbD_one,h0]
      simp [this]
 exact propext (h.trans (by simp [BitVec.getLsbD_ushiftRight]))
theorem qhas_ok (H:AH) (s:BitVec 32) (k:Int):ACalls Tryz.prog 77 [u32 s,.i .i64 k] H fun r H'=>r = .b (hasB s k) ∧ H' = H:=by
 refine ACalls_body Tryz.func77 rfl rfl ?_
 refine AW_seq ?_
 refine AW_reg [0,1] fun K hK=>?_
 simp [init_eq]
 apply hK;clear hK K
 refine AW_seq ?_
 refine AW_regto [4] ⟨14,[(4,.b (hasB s k))]⟩ H (fun K hk=>?_) (AW_ret (end_ret rfl ⟨rfl,rfl⟩))
 simp [init_eq]
 refine ACalls.mono (may_ok H k) fun r H' ⟨hr,e⟩=>?_
 subst hr e
 by_cases h0:0 ≤ k
 · by_cases h1:k < 32
   · have e:hasB s k = decide ((s >>> k.toNat) &&& 1#32 = 1#32):=by
       rw [hasB]; simp only [h0,decide_true,Bool.true_and]
       rw [Bool.eq_iff_iff,decide_eq_true_iff,shr_one]
     rw [e] at hk
     simpa [h0,h1,u32_shr h0] using hk
   · have e:hasB s k = false:=by
       rw [hasB]; simp only [h0,decide_true,Bool.true_and]
       exact BitVec.getLsbD_of_ge s k.toNat (by omega)
     rw [e] at hk
     simpa [h0,h1] using hk
 · have e:hasB s k = false:=by simp [hasB,h0]
   rw [e] at hk
   simpa [h0] using hk
theorem some_ok (H:AH) (f:Int):ACalls Tryz.prog 20 [.i .i64 f] H fun r H'=>r = .i .i64 (qtimes 1 f) ∧ H' = H:=by
 refine ACalls_body Tryz.func20 rfl rfl ?_
 refine AW_seq ?_
 refine AW_reg [0] fun K hK=>?_
 simp [init_eq]
 apply hK;clear hK K
 refine AW_seq ?_
 refine AW_reg [2] fun K hK=>?_
 simp [init_eq]
 refine ACalls.mono (times_ok H 1 f (by decide)) fun r H' ⟨hr,e⟩=>?_
 subst hr e
 try simp
 apply hK;clear hK K
 exact AW_ret (end_ret rfl ⟨rfl,rfl⟩)
/-- The members of a set, in order. -/
theorem list_ok (H:AH) (s:BitVec 32):ACalls Tryz.prog 21 [u32 s] H fun r H'=>∃ F,Own H' r 1 ((bitsOf s).map cntC).flatten F ∧ Upd H H' [] ∧ ∀ j ∈ F,H.next ≤ j:=by
 refine ACalls_body Tryz.func21 rfl rfl ?_
 refine AW_seq ?_
 refine AW_reg [0] fun K hK=>?_
 simp [init_eq]
 apply hK;clear hK K
 refine AW_seq ?_
 refine AW_reg [0,3] fun K hK=>?_
 simp [init_eq]
 apply hK;clear hK K
 refine AW_seq ?_
 refine AW_block ?_
 refine AW_loopx (fun x:List Nat × BitVec 32 × V=>⟨16,[(0,u32 x.2.1),(3,x.2.2)]⟩)
  (fun x G=>x.1 ++ bitsOf x.2.1 = bitsOf s ∧ Upd H G [] ∧ ∃ F,Own G x.2.2 1 (x.1.map cntC).flatten F ∧ ∀ j ∈ F,H.next ≤ j)
  (fun x=>32 - x.1.length) ([],s,.sl none 0 false) (by simp) ⟨rfl,Upd.refl _ _,[],Own.nil ..,by simp⟩ fun x G hM=>?_
 obtain ⟨l,t,v⟩:=x
 obtain ⟨hl,hu,F,o,lF⟩:=hM
 simp only at hl o ⊢
 have hlen:=congrArg List.length hl
 rw [List.length_append] at hlen
 have hle:=bitsOf_len s
 refine AW_seq ?_
 refine AW_seq ?_
 refine AW_reg [0,3,5] fun K hK=>?_
 simp [init_eq]
 apply hK;clear hK K
 refine AW_cond' rfl rfl (fun hc=>?_) (fun hc=>?_)
 · have h0:t ≠ 0#32:=by simpa using hc
   have hb:=bitsOf_low h0
   rw [hb,List.length_cons] at hlen
   refine AW_skip ?_
   refine AW_seq ?_
   refine AW_block ?_
   refine AW_reg [0,3] fun K hK=>?_
   simp [init_eq]
   refine ACalls.mono (tz_ok G t) fun r H' ⟨hr,e⟩=>?_
   subst hr e
   obtain ⟨G2,v',G3,F',b1,b2,b3,b4,b5⟩:=o.pushR (f:=cntC) app_ints qelem_64 qsize_3 qzero_3 rfl rfl (by decide) (fun _=>rfl) (Lib.ctz 32 t.toNat) (x:=.i .i64 (Lib.ctz 32 t.toNat:Nat)) rfl (by simp [roomOk]; omega)
   simp [b1,b2]
   apply hK;clear hK K
   refine bend (rend ?_)
   refine AW_reg [0,3] fun K hK=>?_
   simp [init_eq]
   apply hK;clear hK K
   refine rend ⟨(l ++ [Lib.ctz 32 t.toNat],t &&& (t - 1#32),v'),by simp,⟨by rw [← hl,hb]; simp,hu.trans b4 (fun j hj=>.inr (lF j hj)),F',b3,fun j hj=>?_⟩,by simp; omega⟩
   rcases b5 j hj with h | h
   · exact lF j h
   · have:=hu.1; omega
 · have h0:t = 0#32:=by simpa using hc
   have hs:l = bitsOf s:=by rw [← hl,h0,bitsOf_zero]; simp
   refine AW_exit (then_exit (then_exit (block_here ?_)))
   refine AW_seq ?_
   refine AW_reg [2] fun K hK=>?_
   simp [init_eq]
   apply hK;clear hK K
   rw [hs] at o
   exact AW_ret (end_ret rfl ⟨F,o,hu,lF⟩)
end Go.Proofs.YtmhaimdpfelkpaaGreatDoor
set_option linter.unusedVariables false
set_option linter.unusedSimpArgs false
namespace Go.Proofs.YtmhaimdpfelkpaaGreatDoor
open Go Go.Abs Go.Proofs
set_option maxRecDepth 100000
attribute [local irreducible] AEnd AW ACalls
/-- A statement. -/
structure Stm where
 kind:Int
 block:Int
 view:Int
 round:Int
 height:Int
 author:Int
 hkind:Int
 hblock:Int
 hview:Int
 hround:Int
 deriving DecidableEq
def Stm.cells (s:Stm):List V:=[.i .i64 s.kind,.i .i64 s.block,.i .i64 s.view,.i .i64 s.round,.i .i64 s.height,.i .i64 s.author,.i .i64 s.hkind,.i .i64 s.hblock,.i .i64 s.hview,.i .i64 s.hround]
@[simp] theorem Stm.len (s:Stm):s.cells.length = 10:=rfl
theorem Stm.take (s:Stm):s.cells.take 10 = s.cells:=rfl
/-- A statement and whose it is. -/
structure Shr where
 signer:Int
 stmt:Stm
 deriving DecidableEq
def Shr.cells (x:Shr):List V:=.i .i64 x.signer :: x.stmt.cells
@[simp] theorem Shr.len (x:Shr):x.cells.length = 11:=rfl
theorem Shr.take (x:Shr):x.cells.take 11 = x.cells:=rfl
@[simp] theorem Shr.c0 (x:Shr):x.cells[0]? = some (.i .i64 x.signer):=rfl
def Shr.val (x:Shr):V:=.agg x.cells
theorem Shr.eq' (x y:Shr):(x.signer = y.signer ∧ x.stmt.kind = y.stmt.kind ∧ x.stmt.block = y.stmt.block ∧ x.stmt.view = y.stmt.view ∧ x.stmt.round = y.stmt.round ∧ x.stmt.height = y.stmt.height ∧ x.stmt.author = y.stmt.author ∧ x.stmt.hkind = y.stmt.hkind ∧ x.stmt.hblock = y.stmt.hblock ∧ x.stmt.hview = y.stmt.hview ∧ x.stmt.hround = y.stmt.hround) ↔ x = y:=by
 constructor
 · intro h
   obtain ⟨a,s⟩:=x; obtain ⟨b,t⟩:=y; cases s; cases t
   simp_all
 · rintro rfl; simp
@[simp] theorem Shr.aeq (x y:Shr):aeq Tryz.prog 60 (.agg x.cells) (.agg y.cells) = some (decide (x = y)):=by
 have:=Shr.eq' x y
 rw [Bool.eq_iff_iff.2 (by simpa using this.symm:decide (x = y) = true ↔ decide (x.signer = y.signer ∧ x.stmt.kind = y.stmt.kind ∧ x.stmt.block = y.stmt.block ∧ x.stmt.view = y.stmt.view ∧ x.stmt.round = y.stmt.round ∧ x.stmt.height = y.stmt.height ∧ x.stmt.author = y.stmt.author ∧ x.stmt.hkind = y.stmt.hkind ∧ x.stmt.hblock = y.stmt.hblock ∧ x.stmt.hview = y.stmt.hview ∧ x.stmt.hround = y.stmt.hround) = true)]
 simp [Go.Abs.aeq,Shr.cells,Stm.cells,fitsAll,CK.fits,ceqs,ceq]
 rfl
@[simp] theorem shr_keq (a b:Shr):keq Tryz.prog 60 a.val b.val = some (decide (a = b)):=by
 unfold Shr.val keq; exact Shr.aeq a b
@[simp] theorem shr_fits (a:Shr):keyFits Tryz.prog 60 a.val = true:=by
 unfold keyFits
 rw [Tryz.underlying60]
 simp [Shr.val,Shr.cells,Stm.cells,fitsAll,CK.fits]
theorem app_shrs:App Tryz.prog 25 25 11 88:=App.mk' qelem_25 qsize_60 qbytes_60 qzero_60 qsrc_25 rfl (by decide)
/-- The program's shares. -/
def SignAt (H:AH) (is:Nat) (F:List Nat) (f:Int) (bad:BitVec 32) (sh:List Shr):Prop :=
 ∃ im vs Fs es clk,F = is :: im :: Fs ∧ F.Nodup ∧ H.get is = some (.cells [.i .i64 f,u32 bad,.m (some im),vs] 0 false 0) ∧ H.get im = some (.map (ents Shr.val cnt es) clk) ∧ (∀ s,mget es s = lookN sh s) ∧ Own H vs 11 (sh.map Shr.cells).flatten Fs
theorem SignAt.upd {H H':AH} {is:Nat} {F G:List Nat} {f:Int} {bad:BitVec 32} {sh:List Shr} (h:SignAt H is F f bad sh) (hu:Upd H H' G) (hd:∀ j ∈ F,j ∉ G):SignAt H' is F f bad sh:=by
 obtain ⟨im,vb,Fb,es,clk,rfl,h2,h3,h4,h5,h6⟩:=h
 exact ⟨im,vb,Fb,es,clk,rfl,h2,hu.keep (hd is (by simp)) h3,hu.keep (hd im (by simp)) h4,h5,h6.upd hu fun j hj=>hd j (by simp [hj])⟩
theorem SignAt.lt {H:AH} {is:Nat} {F:List Nat} {f:Int} {bad:BitVec 32} {sh:List Shr} (h:SignAt H is F f bad sh):∀ j ∈ F,j < H.next:=by
 obtain ⟨im,vb,Fb,es,clk,rfl,h2,h3,h4,h5,h6⟩:=h
 intro j hj
 simp only [List.mem_cons] at hj
 rcases hj with rfl | rfl | hj
 · exact AH.get_lt h3
 · exact AH.get_lt h4
 · exact h6.lt j hj
theorem ci (k:IntKind) (n:Int):(V.i k n).cells = some [V.i k n]:=rfl
theorem cm (m:Option Nat):(V.m m).cells = some [V.m m]:=rfl
theorem signNew_ok (H:AH) (f:Int) (bad:BitVec 32):ACalls Tryz.prog 41 [.i .i64 f,u32 bad] H fun r H' =>
  (∃ e:Int,e ≠ 0 ∧ r = .tup [.p none,.i .i64 e] ∧ H' = H) ∨ (qcheck f bad = 0 ∧ (pop bad:Int) ≤ f ∧ ∃ is F,r = .tup [.p (some (is,0,0)),.i .i64 0] ∧ SignAt H' is F f bad [] ∧ Upd H H' [] ∧ ∀ j ∈ F,H.next ≤ j):=by
 refine ACalls_body Tryz.func41 rfl rfl ?_
 repeat refine AW_seq ?_
 refine AW_reg [0,1] fun K hK=>?_
 simp [init_eq]
 apply hK;clear hK K
 repeat refine AW_seq ?_
 refine AW_reg [0,1,6] fun K hK=>?_
 simp [init_eq]
 refine ACalls.mono (qcheck_ok H f bad) fun r H' ⟨hr,e⟩=>?_
 subst hr e
 try simp
 apply hK;clear hK K
 repeat refine AW_seq ?_
 refine AW_reg [0,1,6,11] fun K hK=>?_
 simp [init_eq]
 apply hK;clear hK K
 refine AW_cond' rfl rfl (fun hc=>?_) (fun hc=>?_)
 · have h0:¬ qcheck f bad = 0:=by simpa using hc
   repeat refine AW_seq ?_
   refine AW_reg [4,5] fun K hK=>?_
   simp [init_eq]
   apply hK;clear hK K
   exact AW_ret (end_ret rfl (.inl ⟨_,h0,rfl,rfl⟩))
 · have h0:qcheck f bad = 0:=by simpa using hc
   refine AW_skip ?_
   repeat refine AW_seq ?_
   refine AW_reg [0,1,16] fun K hK=>?_
   simp [init_eq]
   refine ACalls.mono (count_ok H' bad) fun r H2 ⟨hr,e⟩=>?_
   subst hr e
   try simp
   apply hK;clear hK K
   refine AW_cond' rfl rfl (fun hc=>?_) (fun hc=>?_)
   · repeat refine AW_seq ?_
     refine AW_reg [4,5] fun K hK=>?_
     simp [init_eq]
     apply hK;clear hK K
     exact AW_ret (end_ret rfl (.inl ⟨1,by decide,rfl,rfl⟩))
   · have h1:(pop bad:Int) ≤ f:=by simp at hc; omega
     refine AW_skip ?_
     repeat refine AW_seq ?_
     refine AW_reg [4,5] fun K hK=>?_
     have hab:∀ G:AH,abuild Tryz.prog 126 [(0,.i .i64 f),(1,u32 bad),(2,.m (some G.next))] = some (.agg [.i .i64 f,u32 bad,.m (some G.next),.sl none 0 false]):=fun G=>by simp [abuild,afill,splice_zero,splice_succ,ci,cm]
     simp [init_eq,hab,V.cells]
     apply hK;clear hK K
     refine AW_ret (end_ret rfl (.inr ⟨h0,h1,H2.next + 1,[H2.next + 1,H2.next],rfl,⟨H2.next,.sl none 0 false,[],[],0,rfl,by simp,?_,?_,fun s=>by simp [lookN,mget_nil],.inl ⟨false,rfl,rfl,rfl⟩⟩,(Upd.new H2 _ []).trans (Upd.new _ _ []) (by simp),by simp⟩))
     · simp [AH.get_new]
     · simp [AH.get_new,ents]
/-- May it sign? -/
def replE (f k:Int):Int:=if k < 0 ∨ qtimes 3 f ≤ k then 40 else 0
theorem replica_ok (H:AH) {is:Nat} {f:Int} {a b c:V} (h3:H.get is = some (.cells [.i .i64 f,a,b,c] 0 false 0)) (k:Int):ACalls Tryz.prog 73 [.p (some (is,0,0)),.i .i64 k] H fun r H'=>r = .i .i64 (replE f k) ∧ H' = H:=by
 refine ACalls_body Tryz.func73 rfl rfl ?_
 repeat refine AW_seq ?_
 refine AW_reg [0,1] fun K hK=>?_
 simp [init_eq]
 apply hK;clear hK K
 repeat refine AW_seq ?_
 refine AW_block ?_
 repeat refine AW_seq ?_
 refine AW_reg [0,1,5] fun K hK=>?_
 simp [init_eq]
 apply hK;clear hK K
 refine AW_condF rfl ?_
 repeat refine AW_seq ?_
 refine AW_regto [8] ⟨20,[(8,.b (decide (k < 0 ∨ qtimes 3 f ≤ k)))]⟩ H (fun K hk=>?_) ?_
 · by_cases g1:k < 0
   · simpa [init_eq,g1] using hk
   · simp [init_eq,g1,afieldAddr,aload,h3]
     refine ACalls.mono (all_ok H f) fun r H' ⟨hr,e⟩=>?_
     subst hr e
     simpa [g1] using hk
 refine AW_cond' rfl rfl (fun hc=>?_) (fun hc=>?_)
 · have h0:k < 0 ∨ qtimes 3 f ≤ k:=by simpa using hc
   repeat refine AW_seq ?_
   refine AW_reg [4] fun K hK=>?_
   simp [init_eq]
   apply hK;clear hK K
   exact AW_ret (end_ret rfl ⟨by rw [replE,if_pos h0]; rfl,rfl⟩)
 · have h0:¬ (k < 0 ∨ qtimes 3 f ≤ k):=by simpa using hc
   refine AW_skip ?_
   repeat refine AW_seq ?_
   refine AW_reg [4] fun K hK=>?_
   simp [init_eq]
   apply hK;clear hK K
   exact AW_ret (end_ret rfl ⟨by rw [replE,if_neg h0]; rfl,rfl⟩)
/-- Does a share count? -/
def cntsE (f:Int) (bad:BitVec 32) (sh:List Shr) (x:Shr):Int :=
 if replE f x.signer ≠ 0 then replE f x.signer else if hasB bad x.signer then 0 else if x ∈ sh then 0 else 60
theorem lookN_isSome {α:Type} [DecidableEq α] (l:List α) (s:α):(lookN l s).isSome = decide (s ∈ l):=by
 cases h:lookN l s with
 | none=>simp [lookN_none.1 h]
 | some n =>
   have:s ∈ l:=Classical.byContradiction fun hn=>by rw [lookN_none.2 hn] at h; cases h
   simp [this]
theorem shr_lookup {H:AH} {im:Nat} {es:List (Shr × Nat × Nat)} {clk:Nat} {sh:List Shr} (h4:H.get im = some (.map (ents Shr.val cnt es) clk)) (h5:∀ s,mget es s = lookN sh s) (x:Shr) :
  alookup Tryz.prog H 124 (.m (some im)) (.agg x.cells) true = some (.tup [cnt ((lookN sh x).getD 0),.b (decide (x ∈ sh))]):=by
 refine (alookup_ents (P:=Tryz.prog) (ke:=Shr.val) (ve:=cnt) (z:=.i .i64 0) qmap_124 qkey_60 shr_fits shr_keq (by simp) h4 x true).trans ?_
 rw [h5,← lookN_isSome]; cases lookN sh x <;> rfl
theorem counts_ok (H:AH) {is:Nat} {F:List Nat} {f:Int} {bad:BitVec 32} {sh:List Shr} (hs:SignAt H is F f bad sh) (x:Shr):ACalls Tryz.prog 22 [.p (some (is,0,0)),.agg x.cells] H fun r H'=>r = .i .i64 (cntsE f bad sh x) ∧ H' = H:=by
 obtain ⟨im,vs,Fs,es,clk,rfl,h2,h3,h4,h5,h6⟩:=hs
 refine ACalls.pure (Q:=fun r=>r = .i .i64 (cntsE f bad sh x)) ⟨_,Tryz.func22,rfl,rfl⟩ ?_
 refine ACalls_body Tryz.func22 rfl rfl ?_
 repeat refine AW_seq ?_
 refine AW_reg [0,3] fun K hK=>?_
 simp [init_eq,V.cells]
 obtain ⟨H1,e1,hp,hn,ho⟩:=H.boxed x.cells
 rw [e1]
 apply hK;clear hK K
 have k3:=(ho is (AH.get_lt h3)).trans h3
 have k4:=(ho im (AH.get_lt h4)).trans h4
 repeat refine AW_seq ?_
 refine AW_reg [0,3,5] fun K hK=>?_
 simp [init_eq,afieldAddr,aload,hp]
 refine ACalls.mono (replica_ok H1 k3 x.signer) fun r H' ⟨hr,e⟩=>?_
 subst hr e
 try simp
 apply hK;clear hK K
 repeat refine AW_seq ?_
 refine AW_regdto [0,3,5,22] pl_22_2 pe_22_2 ⟨35,[(0,.p (some (is,0,0))),(3,.p (some (H.next,0,0))),(5,.i .i64 (replE f x.signer)),(22,.b (!decide (replE f x.signer = 0) || hasB bad x.signer))]⟩ H' (by kernel_rfl) (by kernel_rfl) (by decide) (fun K hk=>?_) ?_
 · simp [init_eq,pl_22_2]
   by_cases g1:replE f x.signer = 0
   · simp [g1,afieldAddr,aload,hp,k3]
     refine ACalls.mono (qhas_ok H' bad x.signer) fun r H2 ⟨hr,e⟩=>?_
     subst hr e
     simpa [g1] using hk
   · simpa [g1] using hk
 refine AW_cond' rfl rfl (fun hc=>?_) (fun hc=>?_)
 · repeat refine AW_seq ?_
   refine AW_reg [4] fun K hK=>?_
   simp [init_eq]
   apply hK;clear hK K
   refine AW_ret (end_ret rfl (pure_end hn ho ?_ rfl))
   by_cases g1:replE f x.signer = 0
   · have g2:hasB bad x.signer = true:=by simpa [g1] using hc
     simp [cntsE,g1,g2]
   · simp [cntsE,g1]
 · have g1:replE f x.signer = 0:=by simp at hc; exact hc.1
   have g2:hasB bad x.signer = false:=by simp at hc; exact hc.2
   refine AW_skip ?_
   repeat refine AW_seq ?_
   refine AW_regd [7] pl_22_4 pe_22_4 (by kernel_rfl) (by kernel_rfl) (by decide) fun K hK=>?_
   simp [init_eq,pl_22_4,afieldAddr,aload,hp,k3,Shr.take,shr_lookup k4 h5 x]
   apply hK;clear hK K
   repeat refine AW_seq ?_
   refine AW_reg [34] fun K hK=>?_
   simp [init_eq]
   apply hK;clear hK K
   refine AW_cond' rfl rfl (fun hc=>?_) (fun hc=>?_)
   · have g3:x ∉ sh:=by simpa using hc
     repeat refine AW_seq ?_
     refine AW_reg [4] fun K hK=>?_
     simp [init_eq]
     apply hK;clear hK K
     exact AW_ret (end_ret rfl (pure_end hn ho (by simp [cntsE,g1,g2,g3]) rfl))
   · have g3:x ∈ sh:=by simpa using hc
     refine AW_skip ?_
     repeat refine AW_seq ?_
     refine AW_reg [4] fun K hK=>?_
     simp [init_eq]
     apply hK;clear hK K
     exact AW_ret (end_ret rfl (pure_end hn ho (by simp [cntsE,g1,g2,g3]) rfl))
end Go.Proofs.YtmhaimdpfelkpaaGreatDoor
set_option linter.unusedVariables false
set_option linter.unusedSimpArgs false
namespace Go.Proofs.YtmhaimdpfelkpaaGreatDoor
open Go Go.Abs Go.Proofs
set_option maxRecDepth 100000
attribute [local irreducible] AEnd AW ACalls
theorem bslice_upd {P:Program} {H H':AH} {t:TypeId} {n:Nat} {ps:List (Nat × V)} {v:V} (h:abuildSlice P H t n ps = some (v,H')):Upd H H' []:=by
 unfold abuildSlice at h
 split at h
 · split at h
   · split at h
     · split at h
       · split at h
         · cases h; exact Upd.new ..
         · cases h
       · cases h
     · cases h
   · cases h
 · cases h
/-- What is there when a share is issued. -/
def shIssue (f:Int) (sh:List Shr) (x:Shr):List Shr:=if replE f x.signer ≠ 0 then sh else addN sh x
theorem shIssue_len (f:Int) (sh:List Shr) (x:Shr):(shIssue f sh x).length ≤ sh.length + 1:=by
 unfold shIssue; split
 · omega
 · exact addN_len ..
theorem issue_ok (H:AH) {is:Nat} {F:List Nat} {f:Int} {bad:BitVec 32} {sh:List Shr} (hs:SignAt H is F f bad sh) (hl:sh.length ≤ 100000) (x:Shr):ACalls Tryz.prog 17 [.p (some (is,0,0)),.agg x.cells] H fun r H'=>(∃ e,r = .i .i64 e) ∧ ∃ F',SignAt H' is F' f bad (shIssue f sh x) ∧ Upd H H' F ∧ ∀ j ∈ F',j ∈ F ∨ H.next ≤ j:=by
 have hs0:=hs
 obtain ⟨im,vs,Fs,es,clk,rfl,h2,h3,h4,h5,h6⟩:=hs
 refine ACalls_body Tryz.func17 rfl rfl ?_
 repeat refine AW_seq ?_
 refine AW_reg [0,3] fun K hK=>?_
 simp [init_eq,V.cells]
 obtain ⟨H1,e1,hp,hn,ho⟩:=H.boxed x.cells
 rw [e1]
 apply hK;clear hK K
 have hi1:is < H.next:=AH.get_lt h3
 have hi2:im < H.next:=AH.get_lt h4
 have u1:Upd H H1 []:=⟨by omega,fun j hj _=>ho j hj⟩
 have k3:=(ho is (AH.get_lt h3)).trans h3
 have k4:=(ho im (AH.get_lt h4)).trans h4
 have k6:=h6.upd u1 (by simp)
 have hs1:=hs0.upd u1 (by simp)
 repeat refine AW_seq ?_
 refine AW_reg [0,3,5] fun K hK=>?_
 simp [init_eq,afieldAddr,aload,hp]
 refine ACalls.mono (replica_ok H1 k3 x.signer) fun r H' ⟨hr,e⟩=>?_
 subst hr e
 try simp
 apply hK;clear hK K
 repeat refine AW_seq ?_
 refine AW_reg [0,3,5,13] fun K hK=>?_
 simp [init_eq]
 apply hK;clear hK K
 refine AW_cond' rfl rfl (fun hc=>?_) (fun hc=>?_)
 · have g1:¬ replE f x.signer = 0:=by simpa using hc
   repeat refine AW_seq ?_
   refine AW_reg [4] fun K hK=>?_
   simp [init_eq]
   apply hK;clear hK K
   refine AW_ret (end_ret rfl ⟨⟨_,rfl⟩,_,?_,u1.mono (by simp),fun j hj=>.inl hj⟩)
   simpa [shIssue,g1] using hs1
 · have g1:replE f x.signer = 0:=by simpa using hc
   refine AW_skip ?_
   repeat refine AW_seq ?_
   refine AW_regd [0,3,7] pl_17_4 pe_17_4 (by kernel_rfl) (by kernel_rfl) (by decide) fun K hK=>?_
   simp [init_eq,pl_17_4,afieldAddr,aload,hp,k3,Shr.take,shr_lookup k4 h5 x]
   apply hK;clear hK K
   repeat refine AW_seq ?_
   refine AW_reg [0,3,25] fun K hK=>?_
   simp [init_eq]
   apply hK;clear hK K
   refine AW_cond' rfl rfl (fun hc=>?_) (fun hc=>?_)
   · have hm:x ∉ sh:=by simpa using hc
     obtain ⟨H2,v',H3,F',q1,q2,q3,q4,q5⟩:=k6.pushR (P:=Tryz.prog) (t:=25) app_shrs qelem_25 qsize_60 qzero_60 rfl rfl (by decide) Shr.len (x:=.agg x.cells) x rfl (by simp [roomOk]; omega)
     have hnd:is ∉ Fs ∧ im ∉ Fs ∧ is ≠ im ∧ Fs.Nodup:=by simp only [List.nodup_cons,List.mem_cons,not_or] at h2; exact ⟨h2.1.2,h2.2.1,h2.1.1,h2.2.2⟩
     have g3:=q4.keep hnd.1 k3
     have g4:=q4.keep hnd.2.1 k4
     have hFs:H.next ∉ Fs:=fun h=>by have:=h6.lt _ h; omega
     have gp:=q4.keep hFs hp
     have hl3:aload Tryz.prog H' 25 (.p (some (is,0,3))) = some vs:=by simp [aload,k3]
     have hlx:aload Tryz.prog H' 60 (.p (some (H.next,0,0))) = some (.agg x.cells):=by simp [aload,hp,Shr.take]
     have hst:astore Tryz.prog H3 25 (.p (some (is,0,3))) v' = some (H3.set is (.cells [.i .i64 f,u32 bad,.m (some im),v'] 0 false 0)):=by simp [astore,g3,q3.cells,splice]
     repeat refine AW_seq ?_
     refine AW_regd [0,3] pl_17_6 pe_17_6 (by kernel_rfl) (by kernel_rfl) (by decide) fun K hK=>?_
     simp [init_eq,pl_17_6,afieldAddr,hl3,hlx,q1,q2,hst]
     refine ⟨(bslice_upd q1).ext,hK _ _ ?_⟩; clear hK K
     have hF:is ∉ F' ∧ im ∉ F':=⟨fun h=>(q5 _ h).elim hnd.1 (by omega),fun h=>(q5 _ h).elim hnd.2.1 (by omega)⟩
     generalize hH4:H3.set is _ = H4
     have hn3:=q4.1
     have j3:H4.get is = some (.cells [.i .i64 f,u32 bad,.m (some im),v'] 0 false 0):=by rw [← hH4,AH.get_set]; simp; omega
     have u4:Upd H3 H4 [is]:=by rw [← hH4]; exact Upd.set _ _ _ (by simp)
     have j4:H4.get im = some (.map (ents Shr.val cnt es) clk):=u4.keep (by simp; exact fun e=>hnd.2.2.1 e.symm) g4
     have jp:H4.get H.next = some (.cells x.cells 0 false 0):=u4.keep (by simp; omega) gp
     have o4:Own H4 v' 11 ((sh ++ [x]).map Shr.cells).flatten F':=q3.upd u4 fun j hj=>by simp; exact fun e=>hF.1 (e ▸ hj)
     have lx:=(o4.rsR (by decide) Shr.len).alen (P:=Tryz.prog) qelem_25 H4
     have l4:aload Tryz.prog H4 25 (.p (some (is,0,3))) = some v':=by simp [aload,j3]
     have m4:aload Tryz.prog H4 124 (.p (some (is,0,2))) = some (.m (some im)):=by simp [aload,j3]
     have p4:aload Tryz.prog H4 60 (.p (some (H.next,0,0))) = some (.agg x.cells):=by simp [aload,jp,Shr.take]
     have hup:amapUpdate Tryz.prog H4 124 (.m (some im)) (.agg x.cells) (cnt (sh.length + 1)) = some (H4.set im (.map (ents Shr.val cnt (mput es x (sh.length + 1) clk)) (mclk es x clk))) :=
      amapUpdate_ents (P:=Tryz.prog) (ke:=Shr.val) (ve:=cnt) qmap_124 qkey_60 shr_fits shr_keq j4 x (sh.length + 1)
     have hcn:V.i .i64 (((sh ++ [x]).length:Nat):Int) = cnt (sh.length + 1):=by simp [cnt]
     rw [hcn] at lx
     refine AW_regd [] pl_17_7 pe_17_7 (by kernel_rfl) (by kernel_rfl) (by decide) fun K hK=>?_
     simp [init_eq,pl_17_7,afieldAddr,l4,m4,p4,lx,hup]
     apply hK;clear hK K
     generalize hH5:H4.set im _ = H5
     have u5:Upd H4 H5 [im]:=by rw [← hH5]; exact Upd.set _ _ _ (by simp)
     have i3:H5.get is = some (.cells [.i .i64 f,u32 bad,.m (some im),v'] 0 false 0):=u5.keep (by simp; exact hnd.2.2.1) j3
     have i4:H5.get im = some (.map (ents Shr.val cnt (mput es x (sh.length + 1) clk)) (mclk es x clk)):=by rw [← hH5,AH.get_set]; simp; exact AH.get_lt j4
     have o5:Own H5 v' 11 ((sh ++ [x]).map Shr.cells).flatten F':=o4.upd u5 fun j hj=>by simp; exact fun e=>hF.2 (e ▸ hj)
     repeat refine AW_seq ?_
     refine AW_reg [4] fun K hK=>?_
     simp [init_eq]
     apply hK;clear hK K
     refine AW_ret (end_ret rfl ⟨⟨_,rfl⟩,is :: im :: F',⟨im,v',F',_,_,rfl,?_,i3,i4,fun t=>?_,?_⟩,?_,fun j hj=>?_⟩)
     · simp only [List.nodup_cons,List.mem_cons,not_or]
       exact ⟨⟨hnd.2.2.1,hF.1⟩,hF.2,own_nodup q3⟩
     · rw [mget_mput,h5]
       simp [shIssue,g1,addN,hm,lookN_append hm]
     · simpa [shIssue,g1,addN,hm] using o5
     · exact (((u1.mono (by simp):Upd H H' (is :: im :: Fs)).trans (q4.mono (fun j hj=>by simp [hj]):Upd H' H3 (is :: im :: Fs)) (fun j hj=>.inl hj)).trans (u4.mono (by simp):Upd H3 H4 (is :: im :: Fs)) (fun j hj=>.inl hj)).trans (u5.mono (by simp):Upd H4 H5 (is :: im :: Fs)) (fun j hj=>.inl hj)
     · simp only [List.mem_cons] at hj
       rcases hj with rfl | rfl | hj
       · simp
       · simp
       · rcases q5 j hj with h | h
         · simp [h]
         · exact .inr (by omega)
   · have hm:x ∈ sh:=by simpa using hc
     refine AW_skip ?_
     repeat refine AW_seq ?_
     refine AW_reg [4] fun K hK=>?_
     simp [init_eq]
     apply hK;clear hK K
     refine AW_ret (end_ret rfl ⟨⟨_,rfl⟩,_,?_,u1.mono (by simp),fun j hj=>.inl hj⟩)
     simpa [shIssue,g1,addN,hm] using hs1
/-- Do the shares of a set count? -/
def allE (f:Int) (bad:BitVec 32) (sh:List Shr) (st:Stm) (set:BitVec 32):Int :=
 if qcheck f set ≠ 0 then qcheck f set else firstOf ((bitsOf set).map fun (k:Nat)=>cntsE f bad sh ⟨k,st⟩)
theorem all_shares_ok (H:AH) {is:Nat} {F:List Nat} {f:Int} {bad:BitVec 32} {sh:List Shr} (hs:SignAt H is F f bad sh) (st:Stm) (set:BitVec 32):ACalls Tryz.prog 121 [.p (some (is,0,0)),.agg st.cells,u32 set] H fun r H'=>r = .i .i64 (allE f bad sh st set) ∧ H' = H:=by
 refine ACalls.pure (Q:=fun r=>r = .i .i64 (allE f bad sh st set)) ⟨_,Tryz.func121,rfl,rfl⟩ ?_
 refine ACalls_body Tryz.func121 rfl rfl ?_
 repeat refine AW_seq ?_
 refine AW_reg [0,2,4] fun K hK=>?_
 simp [init_eq,V.cells]
 obtain ⟨H1,e1,hp,hn,ho⟩:=H.boxed st.cells
 rw [e1]
 apply hK;clear hK K
 have u1:Upd H H1 []:=⟨by omega,fun j hj _=>ho j hj⟩
 have hs1:=hs.upd u1 (by simp)
 have hs1':=hs1
 obtain ⟨im,vs,Fs,es,clk,rfl,h2,h3,h4,h5,h6⟩:=hs1'
 repeat refine AW_seq ?_
 refine AW_reg [0,2,4,12] fun K hK=>?_
 simp [init_eq]
 apply hK;clear hK K
 refine AW_condF rfl ?_
 refine AW_skip ?_
 repeat refine AW_seq ?_
 refine AW_reg [0,2,4,7] fun K hK=>?_
 simp [init_eq,afieldAddr,aload,h3]
 refine ACalls.mono (qcheck_ok H1 f set) fun r H' ⟨hr,e⟩=>?_
 subst hr e
 try simp
 apply hK;clear hK K
 repeat refine AW_seq ?_
 refine AW_reg [0,2,4,7,20] fun K hK=>?_
 simp [init_eq]
 apply hK;clear hK K
 refine AW_cond' rfl rfl (fun hc=>?_) (fun hc=>?_)
 · have g1:¬ qcheck f set = 0:=by simpa using hc
   repeat refine AW_seq ?_
   refine AW_reg [6] fun K hK=>?_
   simp [init_eq]
   apply hK;clear hK K
   exact AW_ret (end_ret rfl (pure_end hn ho (by simp [allE,g1]) rfl))
 · have g1:qcheck f set = 0:=by simpa using hc
   refine AW_skip ?_
   repeat refine AW_seq ?_
   refine AW_reg [0,4,23,24,25] fun K hK=>?_
   simp [init_eq]
   refine ACalls.mono (list_ok H' set) fun v H2 hr=>?_
   obtain ⟨FL,ol,u2,lF⟩:=hr
   have hrs:RS H2 v 1 ((bitsOf set).map cntC):=ol.rsR (by decide) cntC_len
   have lx:=hrs.alen (P:=Tryz.prog) qelem_64 H2
   have hp2:=u2.keep (by simp) hp
   have hs2:=hs1.upd u2 (by simp)
   have uH:Upd H H2 []:=u1.trans u2 (by simp)
   have hle:=bitsOf_len set
   simp [lx]
   apply hK;clear hK K
   refine AW_block ?_
   refine AW_loop0 (fun i:Nat=>⟨38,[(0,.p (some (is,0,0))),(4,.p (some (H.next,0,0))),(23,v),(24,.i .i64 (bitsOf set).length),(25,.i .i64 i)]⟩) (fun i=>i ≤ (bitsOf set).length ∧ ∀ j (hj:j < (bitsOf set).length),j < i → cntsE f bad sh ⟨(bitsOf set)[j],st⟩ = 0) (fun i=>(bitsOf set).length - i) 0 (by simp) (by simp) (by have:=uH.1; dsimp only; omega) fun hw i hM=>?_
   repeat refine AW_seq ?_
   refine AW_reg [0,4,23,24,25,26] fun K hK=>?_
   simp [init_eq]
   apply hK;clear hK K
   repeat refine AW_seq ?_
   refine AW_cond' rfl rfl (fun hc=>?_) (fun hc=>?_)
   · have hi:i < (bitsOf set).length:=by simpa using hc
     obtain ⟨ax,px,qx⟩:=hrs.at1 (P:=Tryz.prog) (t:=64) (e:=3) qelem_64 qsize_3 qagg_3 (k:=.i64) i (x:=cnt (bitsOf set)[i]) (by simp [hi,cntC])
     refine AW_skip ?_
     repeat refine AW_seq ?_
     refine AW_block ?_
     repeat refine AW_seq ?_
     refine AW_reg [0,4,9,23,24,25] fun K hK=>?_
     simp [init_eq,px,qx]
     apply hK;clear hK K
     repeat refine AW_seq ?_
     refine AW_reg [0,4,10,23,24,25] fun K hK=>?_
     have hls:aload Tryz.prog H2 58 (.p (some (H.next,0,0))) = some (.agg st.cells):=by simp [aload,hp2,Stm.take]
     have hab:abuild Tryz.prog 60 [(0,cnt (bitsOf set)[i]),(1,.agg st.cells)] = some (.agg (Shr.cells ⟨((bitsOf set)[i]:Nat),st⟩)):=by
      simp [abuild,afill,V.cells,splice_zero,splice_succ,cnt,Stm.cells,Shr.cells,splice]
     simp [init_eq,hls,hab]
     refine ACalls.mono (counts_ok H2 hs2 _) fun r H3 ⟨hr,e⟩=>?_
     subst hr e
     try simp
     apply hK;clear hK K
     repeat refine AW_seq ?_
     refine AW_reg [0,4,10,23,24,25,35] fun K hK=>?_
     simp [init_eq]
     apply hK;clear hK K
     refine AW_cond' rfl rfl (fun hc=>?_) (fun hc=>?_)
     · have g2:¬ cntsE f bad sh ⟨((bitsOf set)[i]:Nat),st⟩ = 0:=by simpa using hc
       repeat refine AW_seq ?_
       refine AW_reg [6] fun K hK=>?_
       simp [init_eq]
       apply hK;clear hK K
       have:=firstOf_at (l:=(bitsOf set).map fun (k:Nat)=>cntsE f bad sh ⟨k,st⟩) (i:=i) (by simpa using hi) (fun j hj=>by simpa using hM.2 j (by omega) hj) (by simpa using g2)
       refine AW_ret (end_ret rfl ⟨?_,rfl,uH.1,fun j hj=>uH.2 j hj (by simp)⟩)
       simp [allE,g1,this]
     · have g2:cntsE f bad sh ⟨((bitsOf set)[i]:Nat),st⟩ = 0:=by simpa using hc
       refine AW_skip ?_
       refine AW_reg [0,4,23,24,25] fun K hK=>?_
       simp [init_eq,wrap_id (x:=(i:Int) + 1) (by omega) (by omega)]
       apply hK;clear hK K
       exact rend ⟨i + 1,by simp,⟨by omega,fun j hj hj'=>(Nat.lt_or_eq_of_le (Nat.le_of_lt_succ hj')).elim (fun h=>hM.2 j hj h) (fun h=>by subst h; exact g2)⟩,by omega,.inl rfl⟩
   · have hi : i = (bitsOf set).length := by have : ¬ i < (bitsOf set).length := by simpa using hc
                                             omega
     refine AW_exit (then_exit (then_exit (block_here ?_)))
     repeat refine AW_seq ?_
     refine AW_reg [6] fun K hK=>?_
     simp [init_eq]
     apply hK;clear hK K
     have:=firstOf_zero (l:=(bitsOf set).map fun (k:Nat)=>cntsE f bad sh ⟨k,st⟩) fun e he=>by
      obtain ⟨c,hc,rfl⟩:=List.mem_map.1 he
      obtain ⟨j,hj,rfl⟩:=List.mem_iff_getElem.1 hc
      exact hM.2 j hj (by omega)
     refine AW_ret (end_ret rfl ⟨?_,rfl,uH.1,fun j hj=>uH.2 j hj (by simp)⟩)
     simp [allE,g1,this]
/-- And are they so many? -/
def enE (f:Int) (bad:BitVec 32) (sh:List Shr) (st:Stm) (set:BitVec 32) (least:Int):Int :=
 if allE f bad sh st set ≠ 0 then allE f bad sh st set else if (pop set:Int) < least then 61 else 0
theorem enough_ok (H:AH) {is:Nat} {F:List Nat} {f:Int} {bad:BitVec 32} {sh:List Shr} (hs:SignAt H is F f bad sh) (st:Stm) (set:BitVec 32) (least:Int):ACalls Tryz.prog 68 [.p (some (is,0,0)),.agg st.cells,u32 set,.i .i64 least] H fun r H'=>r = .i .i64 (enE f bad sh st set least) ∧ H' = H:=by
 refine ACalls.pure (Q:=fun r=>r = .i .i64 (enE f bad sh st set least)) ⟨_,Tryz.func68,rfl,rfl⟩ ?_
 refine ACalls_body Tryz.func68 rfl rfl ?_
 repeat refine AW_seq ?_
 refine AW_reg [0,2,3,5] fun K hK=>?_
 simp [init_eq,V.cells]
 obtain ⟨H1,e1,hp,hn,ho⟩:=H.boxed st.cells
 rw [e1]
 apply hK;clear hK K
 have u1:Upd H H1 []:=⟨by omega,fun j hj _=>ho j hj⟩
 have hs1:=hs.upd u1 (by simp)
 have hls:aload Tryz.prog H1 58 (.p (some (H.next,0,0))) = some (.agg st.cells):=by simp [aload,hp,Stm.take]
 repeat refine AW_seq ?_
 refine AW_reg [2,3,9] fun K hK=>?_
 simp [init_eq,hls]
 refine ACalls.mono (all_shares_ok H1 hs1 st set) fun r H' ⟨hr,e⟩=>?_
 subst hr e
 try simp
 apply hK;clear hK K
 repeat refine AW_seq ?_
 refine AW_reg [2,3,9,15] fun K hK=>?_
 simp [init_eq]
 apply hK;clear hK K
 refine AW_cond' rfl rfl (fun hc=>?_) (fun hc=>?_)
 · have g1:¬ allE f bad sh st set = 0:=by simpa using hc
   repeat refine AW_seq ?_
   refine AW_reg [8] fun K hK=>?_
   simp [init_eq]
   apply hK;clear hK K
   exact AW_ret (end_ret rfl (pure_end hn ho (by simp [enE,g1]) rfl))
 · have g1:allE f bad sh st set = 0:=by simpa using hc
   refine AW_skip ?_
   repeat refine AW_seq ?_
   refine AW_reg [20] fun K hK=>?_
   simp [init_eq]
   refine ACalls.mono (count_ok H' set) fun r H2 ⟨hr,e⟩=>?_
   subst hr e
   try simp
   apply hK;clear hK K
   refine AW_cond' rfl rfl (fun hc=>?_) (fun hc=>?_)
   · have g2:(pop set:Int) < least:=by simpa using hc
     repeat refine AW_seq ?_
     refine AW_reg [8] fun K hK=>?_
     simp [init_eq]
     apply hK;clear hK K
     exact AW_ret (end_ret rfl (pure_end hn ho (by simp [enE,g1,g2]) rfl))
   · have g2:¬ (pop set:Int) < least:=by simpa using hc
     refine AW_skip ?_
     repeat refine AW_seq ?_
     refine AW_reg [8] fun K hK=>?_
     simp [init_eq]
     apply hK;clear hK K
     exact AW_ret (end_ret rfl (pure_end hn ho (by simp [enE,g1,g2]) rfl))
theorem signF_ok (H:AH) {is:Nat} {F:List Nat} {f:Int} {bad:BitVec 32} {sh:List Shr} (hs:SignAt H is F f bad sh):ACalls Tryz.prog 70 [.p (some (is,0,0))] H fun r H'=>r = .i .i64 f ∧ H' = H:=by
 obtain ⟨im,vs,Fs,es,clk,rfl,h2,h3,h4,h5,h6⟩:=hs
 refine ACalls_body Tryz.func70 rfl rfl ?_
 repeat refine AW_seq ?_
 refine AW_reg [0] fun K hK=>?_
 simp [init_eq]
 apply hK;clear hK K
 repeat refine AW_seq ?_
 refine AW_reg [0,4] fun K hK=>?_
 simp [init_eq]
 apply hK;clear hK K
 refine AW_condF rfl ?_
 refine AW_skip ?_
 repeat refine AW_seq ?_
 refine AW_reg [2] fun K hK=>?_
 simp [init_eq,afieldAddr,aload,h3]
 apply hK;clear hK K
 exact AW_ret (end_ret rfl ⟨rfl,rfl⟩)
end Go.Proofs.YtmhaimdpfelkpaaGreatDoor
