/-
  Contracts of the program's functions (TxtF). No conditions of my own.
-/
import Derived.Test.YtmhaimdpfelkpaaGreatDoorTxtE
import Derived.Test.YtmhaimdpfelkpaaGreatDoorTxtD
set_option linter.unusedVariables false
set_option linter.unusedSimpArgs false
namespace Go.Proofs.YtmhaimdpfelkpaaGreatDoor
open Go Go.Abs Go.Proofs
set_option maxRecDepth 100000
attribute [local irreducible] AEnd AW ACalls
/-- Who leads. -/
def leadN (f n:Int):Int:=if qtimes 3 f = 0 then 0 else n % qtimes 3 f
theorem qtimes3 (f:Int):qtimes 3 f = 0 ∨ qtimes 3 f = 4 ∨ qtimes 3 f = 7 ∨ qtimes 3 f = 10:=by
 unfold qtimes
 split
 · exact .inl rfl
 · have:f = 1 ∨ f = 2 ∨ f = 3:=by omega
   rcases this with rfl | rfl | rfl <;> simp
theorem tmod_fix (n N:Int) (h:0 < N):(n.tmod N + N).tmod N = n % N ∧ -N < n.tmod N ∧ n.tmod N < N:=by
 have h1:=Int.tmod_lt_of_pos n h
 have h2:-N < n.tmod N:=by
  have:=Int.lt_tmod_of_pos n h
  omega
 refine ⟨?_,h2,h1⟩
 rw [Int.tmod_eq_emod_of_nonneg (by omega),Int.add_emod_right]
 rw [Int.tmod_def,Int.sub_mul_emod_self_left]
theorem rem_int {P:Program} {t:TypeId} (a b:Int) (hb:b ≠ 0):abin P .rem t (.i .i64 a) (.i .i64 b) = some (.i .i64 (a.tmod b)):=by
 show (if IntKind.i64 = IntKind.i64 then aint .rem .i64 a b else none) = _
 rw [if_pos rfl]
 unfold aint
 simp only []
 rw [if_neg hb]
theorem leader_ok (H:AH) (f n:Int):ACalls Tryz.prog 117 [.i .i64 f,.i .i64 n] H fun r H'=>r = .i .i64 (leadN f n) ∧ H' = H:=by
 refine ACalls_body Tryz.func117 rfl rfl ?_
 repeat refine AW_seq ?_
 refine AW_reg [0,1] fun K hK=>?_
 simp [init_eq]
 apply hK;clear hK K
 repeat refine AW_seq ?_
 refine AW_reg [1,5] fun K hK=>?_
 simp [init_eq]
 refine ACalls.mono (all_ok H f) fun r H' ⟨hr,e⟩=>?_
 subst hr e
 try simp
 apply hK;clear hK K
 repeat refine AW_seq ?_
 refine AW_reg [1,5,9] fun K hK=>?_
 simp [init_eq]
 apply hK;clear hK K
 refine AW_cond' rfl rfl (fun hc=>?_) (fun hc=>?_)
 · have g1:qtimes 3 f = 0:=by simpa using hc
   repeat refine AW_seq ?_
   refine AW_reg [4] fun K hK=>?_
   simp [init_eq]
   apply hK;clear hK K
   exact AW_ret (end_ret rfl ⟨by simp [leadN,g1],rfl⟩)
 · have g1:¬ qtimes 3 f = 0:=by simpa using hc
   have hN:=qtimes3 f
   have hN0:0 < qtimes 3 f ∧ qtimes 3 f ≤ 10:=by omega
   obtain ⟨m1,m2,m3⟩:=tmod_fix n (qtimes 3 f) hN0.1
   have e1:=rem_int (P:=Tryz.prog) (t:=3) n (qtimes 3 f) g1
   have hw:=wrap_id (x:=n.tmod (qtimes 3 f) + qtimes 3 f) (by omega) (by omega)
   have hlt:=Int.emod_lt_of_pos n hN0.1
   have hnn:=Int.emod_nonneg n g1
   have e2:=rem_int (P:=Tryz.prog) (t:=3) (n.tmod (qtimes 3 f) + qtimes 3 f) (qtimes 3 f) g1
   rw [m1] at e2
   refine AW_skip ?_
   repeat refine AW_seq ?_
   refine AW_reg [4] fun K hK=>?_
   simp [init_eq,e1,hw,e2]
   apply hK;clear hK K
   exact AW_ret (end_ret rfl ⟨by simp [leadN,g1],rfl⟩)
/-- What is known of a view's coin. -/
structure Tos where
 who:Int
 chosen:Bool
 seen:Bool
 deriving DecidableEq
def Tos.zero:Tos:=⟨0,false,false⟩
def Tos.cells (t:Tos):List V:=[.i .i64 t.who,.b t.chosen,.b t.seen]
@[simp] theorem Tos.len (x:Tos):x.cells.length = 3:=rfl
theorem Tos.take (x:Tos):x.cells.take 3 = x.cells:=rfl
@[simp] theorem Tos.c0 (x:Tos):x.cells[0]? = some (.i .i64 x.who):=rfl
@[simp] theorem Tos.c1 (x:Tos):x.cells[1]? = some (.b x.chosen):=rfl
@[simp] theorem Tos.c2 (x:Tos):x.cells[2]? = some (.b x.seen):=rfl
def Tos.val (t:Tos):V:=.agg t.cells
def keyI (n:Int):V:=.i .i64 n
@[simp] theorem int_keq (a b:Int):keq Tryz.prog 3 (keyI a) (keyI b) = some (decide (a = b)):=(keq_i qint_3).trans (congrArg some (Bool.eq_iff_iff.2 (by simp)))
@[simp] theorem int_fits (a:Int):keyFits Tryz.prog 3 (keyI a) = true:=by unfold keyFits; rw [Tryz.underlying3]
def CoinAt (H:AH) (ic:Nat) (F:List Nat) (f:Int) (co:Int → Tos):Prop :=
 ∃ im es clk,F = [ic,im] ∧ ic ≠ im ∧ H.get ic = some (.cells [.i .i64 f,.m (some im)] 0 false 0) ∧ H.get im = some (.map (ents keyI Tos.val es) clk) ∧ ∀ v,(mget es v).getD Tos.zero = co v
theorem CoinAt.upd {H H':AH} {ic:Nat} {F G:List Nat} {f:Int} {co:Int → Tos} (h:CoinAt H ic F f co) (hu:Upd H H' G) (hd:∀ j ∈ F,j ∉ G):CoinAt H' ic F f co:=by
 obtain ⟨im,es,clk,rfl,h2,h3,h4,h5⟩:=h
 exact ⟨im,es,clk,rfl,h2,hu.keep (hd ic (by simp)) h3,hu.keep (hd im (by simp)) h4,h5⟩
theorem CoinAt.lt {H:AH} {ic:Nat} {F:List Nat} {f:Int} {co:Int → Tos} (h:CoinAt H ic F f co):∀ j ∈ F,j < H.next:=by
 obtain ⟨im,es,clk,rfl,h2,h3,h4,h5⟩:=h
 intro j hj
 simp only [List.mem_cons,List.not_mem_nil,or_false] at hj
 rcases hj with rfl | rfl
 · exact AH.get_lt h3
 · exact AH.get_lt h4
def coUpd (co:Int → Tos) (v:Int) (t:Tos):Int → Tos:=fun w=>if w = v then t else co w
theorem coinNew_ok (H:AH) (f:Int):ACalls Tryz.prog 43 [.i .i64 f] H fun r H' =>
  (∃ e:Int,e ≠ 0 ∧ r = .tup [.p none,.i .i64 e] ∧ H' = H) ∨ (qtimes 3 f ≠ 0 ∧ ∃ ic F,r = .tup [.p (some (ic,0,0)),.i .i64 0] ∧ CoinAt H' ic F f (fun _=>Tos.zero) ∧ Upd H H' [] ∧ ∀ j ∈ F,H.next ≤ j):=by
 refine ACalls_body Tryz.func43 rfl rfl ?_
 repeat refine AW_seq ?_
 refine AW_reg [0] fun K hK=>?_
 simp [init_eq]
 apply hK;clear hK K
 repeat refine AW_seq ?_
 refine AW_reg [0,6] fun K hK=>?_
 simp [init_eq]
 refine ACalls.mono (all_ok H f) fun r H' ⟨hr,e⟩=>?_
 subst hr e
 try simp
 apply hK;clear hK K
 refine AW_cond' rfl rfl (fun hc=>?_) (fun hc=>?_)
 · repeat refine AW_seq ?_
   refine AW_reg [2,3] fun K hK=>?_
   simp [init_eq]
   apply hK;clear hK K
   exact AW_ret (end_ret rfl (.inl ⟨1,by decide,rfl,rfl⟩))
 · have g1:¬ qtimes 3 f = 0:=by simpa using hc
   refine AW_skip ?_
   repeat refine AW_seq ?_
   refine AW_reg [2,3] fun K hK=>?_
   simp [init_eq,abuild,afill,splice,V.cells]
   apply hK;clear hK K
   refine AW_ret (end_ret rfl (.inr ⟨g1,H'.next + 1,[H'.next + 1,H'.next],rfl,⟨H'.next,[],0,rfl,by omega,?_,?_,fun s=>by simp [mget_nil]⟩,(Upd.new H' _ []).trans (Upd.new _ _ []) (by simp),by simp⟩))
   · simp [AH.get_new]
   · simp [AH.get_new,ents]
def mayE (view:Int):Int:=if view < 1 ∨ 1048576 < view then 70 else 0
theorem coinMay_ok (H:AH) (ic:Nat) (view:Int):ACalls Tryz.prog 109 [.p (some (ic,0,0)),.i .i64 view] H fun r H'=>r = .i .i64 (mayE view) ∧ H' = H:=by
 refine ACalls_body Tryz.func109 rfl rfl ?_
 repeat refine AW_seq ?_
 refine AW_reg [0,1] fun K hK=>?_
 simp [init_eq]
 apply hK;clear hK K
 repeat refine AW_seq ?_
 refine AW_block ?_
 repeat refine AW_seq ?_
 refine AW_reg [1,5] fun K hK=>?_
 simp [init_eq]
 apply hK;clear hK K
 refine AW_condF rfl ?_
 repeat refine AW_seq ?_
 refine AW_regto [8] ⟨15,[(8,.b (decide (view < 1 ∨ 1048576 < view)))]⟩ H (fun K hk=>?_) ?_
 · by_cases g1:view < 1
   · simpa [init_eq,g1] using hk
   · simpa [init_eq,g1] using hk
 refine AW_cond' rfl rfl (fun hc=>?_) (fun hc=>?_)
 · have h0:view < 1 ∨ 1048576 < view:=by simpa using hc
   repeat refine AW_seq ?_
   refine AW_reg [4] fun K hK=>?_
   simp [init_eq]
   apply hK;clear hK K
   exact AW_ret (end_ret rfl ⟨by rw [mayE,if_pos h0]; rfl,rfl⟩)
 · have h0:¬ (view < 1 ∨ 1048576 < view):=by simpa using hc
   refine AW_skip ?_
   repeat refine AW_seq ?_
   refine AW_reg [4] fun K hK=>?_
   simp [init_eq]
   apply hK;clear hK K
   exact AW_ret (end_ret rfl ⟨by rw [mayE,if_neg h0]; rfl,rfl⟩)
theorem tos_lookup {H:AH} {im:Nat} {es:List (Int × Tos × Nat)} {clk:Nat} {co:Int → Tos} (h4:H.get im = some (.map (ents keyI Tos.val es) clk)) (h5:∀ v,(mget es v).getD Tos.zero = co v) (v:Int) :
  alookup Tryz.prog H 148 (.m (some im)) (.i .i64 v) false = some (.agg (co v).cells):=by
 refine (alookup_ents (P:=Tryz.prog) (ke:=keyI) (ve:=Tos.val) (z:=Tos.zero.val) qmap_148 qkey_3 int_fits int_keq (by simp [Tos.val,Tos.cells,Tos.zero]) h4 v false).trans ?_
 rw [← h5]; cases mget es v <;> rfl
/-- What is known when one is chosen. -/
def coChoose (f:Int) (co:Int → Tos) (view who:Int):Int → Tos :=
 if mayE view ≠ 0 then co else if who < 0 ∨ qtimes 3 f ≤ who then co else if (co view).chosen || (co view).seen then co else coUpd co view ⟨who,true,false⟩
theorem choose_ok (H:AH) {ic:Nat} {F:List Nat} {f:Int} {co:Int → Tos} (hc0:CoinAt H ic F f co) (view who:Int):ACalls Tryz.prog 48 [.p (some (ic,0,0)),.i .i64 view,.i .i64 who] H fun r H'=>(∃ e,r = .i .i64 e) ∧ CoinAt H' ic F f (coChoose f co view who) ∧ Upd H H' F:=by
 have hcc:=hc0
 obtain ⟨im,es,clk,rfl,h2,h3,h4,h5⟩:=hc0
 refine ACalls_body Tryz.func48 rfl rfl ?_
 repeat refine AW_seq ?_
 refine AW_reg [0,1,2] fun K hK=>?_
 simp [init_eq]
 apply hK;clear hK K
 repeat refine AW_seq ?_
 refine AW_reg [0,1,2,7] fun K hK=>?_
 simp [init_eq]
 refine ACalls.mono (coinMay_ok H ic view) fun r H' ⟨hr,e⟩=>?_
 subst hr e
 try simp
 apply hK;clear hK K
 repeat refine AW_seq ?_
 refine AW_reg [0,1,2,7,13] fun K hK=>?_
 simp [init_eq]
 apply hK;clear hK K
 refine AW_cond' rfl rfl (fun hc=>?_) (fun hc=>?_)
 · have g1:¬ mayE view = 0:=by simpa using hc
   repeat refine AW_seq ?_
   refine AW_reg [6] fun K hK=>?_
   simp [init_eq]
   apply hK;clear hK K
   refine AW_ret (end_ret rfl ⟨⟨_,rfl⟩,?_,Upd.refl ..⟩)
   simpa [coChoose,g1] using hcc
 · have g1:mayE view = 0:=by simpa using hc
   have hlk:=tos_lookup h4 h5 view
   have hm:aload Tryz.prog H' 148 (.p (some (ic,0,1))) = some (.m (some im)):=by simp [aload,h3]
   have hi1:=AH.get_lt h3
   have hi2:=AH.get_lt h4
   refine AW_skip ?_
   repeat refine AW_seq ?_
   refine AW_reg [0,1,2,8] fun K hK=>?_
   simp [init_eq,afieldAddr,hm,hlk,V.cells,astore,AH.get_new]
   apply hK;clear hK K
   generalize hH1:AH.set _ H'.next _ = H1
   have kt:H1.get H'.next = some (.cells (co view).cells 0 false 0):=by rw [← hH1,AH.get_set]; simp; exact splice_all rfl
   have ko:∀ j,j < H'.next → H1.get j = H'.get j:=fun j hj=>by rw [← hH1,AH.get_set_ne (by omega),AH.get_new,if_neg (by omega)]
   have kn:H1.next = H'.next + 1:=by rw [← hH1]; simp
   have u1:Upd H' H1 []:=⟨by omega,fun j hj _=>ko j hj⟩
   have k3:=u1.keep (by simp) h3
   have k4:=u1.keep (by simp) h4
   have hm1:aload Tryz.prog H1 148 (.p (some (ic,0,1))) = some (.m (some im)):=by simp [aload,k3]
   repeat refine AW_seq ?_
   refine AW_block ?_
   repeat refine AW_seq ?_
   refine AW_regto [0,1,2,8,21] ⟨47,[(0,.p (some (ic,0,0))),(1,.i .i64 view),(2,.i .i64 who),(8,.p (some (H'.next,0,0))),(21,.b (decide (who < 0 ∨ qtimes 3 f ≤ who)))]⟩ H1 (fun K hk=>?_) ?_
   · by_cases g2:who < 0
     · simpa [init_eq,g2] using hk
     · simp [init_eq,g2,afieldAddr,aload,k3]
       refine ACalls.mono (all_ok H1 f) fun r H' ⟨hr,e⟩=>?_
       subst hr e
       simpa [g2] using hk
   refine AW_cond' rfl rfl (fun hc=>?_) (fun hc=>?_)
   · have g2:who < 0 ∨ qtimes 3 f ≤ who:=by simpa using hc
     repeat refine AW_seq ?_
     refine AW_reg [6] fun K hK=>?_
     simp [init_eq]
     apply hK;clear hK K
     refine AW_ret (end_ret rfl ⟨⟨_,rfl⟩,?_,u1.mono (by simp)⟩)
     rw [coChoose,if_neg (by simp [g1]),if_pos g2]
     exact hcc.upd u1 (by simp)
   · have g2:¬ (who < 0 ∨ qtimes 3 f ≤ who):=by simpa using hc
     repeat refine AW_seq ?_
     refine AW_regto [0,1,2,33] ⟨47,[(0,.p (some (ic,0,0))),(1,.i .i64 view),(2,.i .i64 who),(33,.b ((co view).chosen || (co view).seen))]⟩ H1 (fun K hk=>?_) ?_
     · cases g3:(co view).chosen
       · simpa [init_eq,g3,afieldAddr,aload,kt] using hk
       · simpa [init_eq,g3,afieldAddr,aload,kt] using hk
     refine AW_cond' rfl rfl (fun hc=>?_) (fun hc=>?_)
     · have g3:((co view).chosen || (co view).seen) = true:=by simpa using hc
       repeat refine AW_seq ?_
       refine AW_reg [6] fun K hK=>?_
       simp [init_eq]
       apply hK;clear hK K
       refine AW_ret (end_ret rfl ⟨⟨_,rfl⟩,?_,u1.mono (by simp)⟩)
       rw [coChoose,if_neg (by simp [g1]),if_neg g2,if_pos g3]
       exact hcc.upd u1 (by simp)
     · have g3:((co view).chosen || (co view).seen) = false:=hc
       refine AW_skip (bend (rend ?_))
       have hup:amapUpdate Tryz.prog H1 148 (.m (some im)) (.i .i64 view) (.agg (Tos.cells ⟨who,true,false⟩)) = some (H1.set im (.map (ents keyI Tos.val (mput es view ⟨who,true,false⟩ clk)) (mclk es view clk))) :=
        amapUpdate_ents (P:=Tryz.prog) (ke:=keyI) (ve:=Tos.val) qmap_148 qkey_3 int_fits int_keq k4 view ⟨who,true,false⟩
       have hab:abuild Tryz.prog 147 [(0,.i .i64 who),(1,.b true)] = some (.agg (Tos.cells ⟨who,true,false⟩)):=by simp [abuild,afill,V.cells,splice,Tos.cells]
       repeat refine AW_seq ?_
       refine AW_reg [] fun K hK=>?_
       simp [init_eq,afieldAddr,hm1,hab,hup]
       apply hK;clear hK K
       generalize hH2:H1.set im _ = H2
       have u2:Upd H1 H2 [im]:=by rw [← hH2]; exact Upd.set _ _ _ (by simp)
       have j3:H2.get ic = some (.cells [.i .i64 f,.m (some im)] 0 false 0):=u2.keep (by simp; exact h2) k3
       have j4:H2.get im = some (.map (ents keyI Tos.val (mput es view ⟨who,true,false⟩ clk)) (mclk es view clk)):=by rw [← hH2,AH.get_set]; simp; exact AH.get_lt k4
       repeat refine AW_seq ?_
       refine AW_reg [6] fun K hK=>?_
       simp [init_eq]
       apply hK;clear hK K
       refine AW_ret (end_ret rfl ⟨⟨_,rfl⟩,⟨im,_,_,rfl,h2,j3,j4,fun v=>?_⟩,(u1.mono (by simp):Upd H' H1 [ic,im]).trans (u2.mono (by simp):Upd H1 H2 [ic,im]) (fun j hj=>.inl hj)⟩)
       have hco:coChoose f co view who = coUpd co view ⟨who,true,false⟩:=by rw [coChoose,if_neg (show ¬ mayE view ≠ 0 from by simp [g1]),if_neg g2,if_neg (by simp [g3])]
       rw [mget_mput,hco,coUpd]
       split
       · rfl
       · exact h5 v
end Go.Proofs.YtmhaimdpfelkpaaGreatDoor
set_option linter.unusedVariables false
set_option linter.unusedSimpArgs false
namespace Go.Proofs.YtmhaimdpfelkpaaGreatDoor
open Go Go.Abs Go.Proofs
set_option maxRecDepth 100000
attribute [local irreducible] AEnd AW ACalls
def Stm.zero:Stm:=⟨0,0,0,0,0,0,0,0,0,0⟩
/-- What a coin's shares say. -/
def coinStm (view:Int):Stm:={ Stm.zero with kind:=5,view:=view }
theorem coinStmt_ok (H:AH) (view:Int):ACalls Tryz.prog 147 [.i .i64 view] H fun r H'=>r = .agg (coinStm view).cells ∧ H' = H:=by
 refine ACalls.pure (Q:=fun r=>r = .agg (coinStm view).cells) ⟨_,Tryz.func147,rfl,rfl⟩ ?_
 refine ACalls_body Tryz.func147 rfl rfl ?_
 repeat refine AW_seq ?_
 refine AW_reg [0,2] fun K hK=>?_
 simp [init_eq,V.cells]
 obtain ⟨H1,e1,hp,hn,ho⟩:=H.boxed Stm.zero.cells
 apply hK;clear hK K
 show AThen _ _ _ _ (H.new (O.cells Stm.zero.cells 0 false 0))
 rw [e1]
 repeat refine AW_seq ?_
 refine AW_reg [2] fun K hK=>?_
 have hab:abuild Tryz.prog 58 [(0,.i .i64 5),(2,.i .i64 view)] = some (.agg (coinStm view).cells):=by simp [abuild,afill,V.cells,splice,coinStm,Stm.zero,Stm.cells]
 simp [init_eq,hab,astore,hp,V.cells]
 apply hK;clear hK K
 have hlt:H.next < H1.next:=by omega
 refine AW_ret (end_ret (ares_cell (v:=.agg (coinStm view).cells) ?_) ⟨rfl,by simp [Stm.cells],by simp [hn],fun j hj=>?_⟩)
 · simp [aload,AH.get_set,hlt]
   rw [splice_all (c:=Stm.zero.cells) (l:=(coinStm view).cells) rfl]; exact ⟨by simp,Stm.take _⟩
 · rw [AH.get_set_ne (by omega),ho j hj]
/-- What the signers of a certificate said. -/
def Cert.stm (c:Cert):Stm :=
 if c.kind = 1 then { Stm.zero with kind:=2,block:=c.block,view:=c.view,round:=c.round }
 else if c.kind = 2 then { Stm.zero with kind:=4,block:=c.block,view:=c.view,round:=c.round,height:=c.height,author:=c.author } else Stm.zero
theorem certStmt_ok (H:AH) (c:Cert):ACalls Tryz.prog 23 [.agg c.cells] H fun r H'=>r = .agg c.stm.cells ∧ H' = H:=by
 refine ACalls.pure (Q:=fun r=>r = .agg c.stm.cells) ⟨_,Tryz.func23,rfl,rfl⟩ ?_
 refine ACalls_body Tryz.func23 rfl rfl ?_
 repeat refine AW_seq ?_
 refine AW_reg [1,2] fun K hK=>?_
 simp [init_eq,V.cells]
 obtain ⟨H1,e1,hp,hp2,hn,ho⟩:=H.boxed2 c.cells Stm.zero.cells
 apply hK;clear hK K
 show AThen _ _ _ _ ((H.new (O.cells c.cells 0 false 0)).new (O.cells Stm.zero.cells 0 false 0))
 rw [e1]
 have hlt:H.next + 1 < H1.next:=by omega
 have fin:∀ (s:Stm),s = c.stm → AEnd Tryz.prog Tryz.f23 (fun r H'=>(r = .agg c.stm.cells) ∧ V.lt H.next r = true ∧ H.next ≤ H'.next ∧ ∀ j,j < H.next → H'.get j = H.get j) .ret ⟨28,[(2,.p (some (H.next + 1,0,0)))]⟩ (H1.set (H.next + 1) (.cells (splice Stm.zero.cells 0 s.cells) 0 false 0)):=by
  intro s hs
  refine end_ret (ares_cell (v:=.agg c.stm.cells) ?_) ⟨rfl,by simp [Stm.cells],by simp [hn],fun j hj=>?_⟩
  · simp [aload,AH.get_set,hlt]
    rw [splice_all (c:=Stm.zero.cells) (l:=s.cells) rfl,hs]; exact ⟨by simp,Stm.take _⟩
  · rw [AH.get_set_ne (by omega),ho j hj]
 repeat refine AW_seq ?_
 refine AW_reg [1,2,4] fun K hK=>?_
 simp [init_eq,afieldAddr,aload,hp]
 apply hK;clear hK K
 repeat refine AW_seq ?_
 refine AW_block ?_
 repeat refine AW_seq ?_
 refine AW_reg [1,2,4,5] fun K hK=>?_
 simp [init_eq]
 apply hK;clear hK K
 refine AW_cond' rfl rfl (fun hc=>?_) (fun hc=>?_)
 · have g1:c.kind = 1:=by simpa using hc
   have hab:abuild Tryz.prog 58 [(0,.i .i64 2),(1,.i .i64 c.block),(2,.i .i64 c.view),(3,.i .i64 c.round)] = some (.agg c.stm.cells):=by simp [abuild,afill,V.cells,splice,Cert.stm,g1,Stm.zero,Stm.cells]
   repeat refine AW_seq ?_
   refine AW_reg [2] fun K hK=>?_
   simp [init_eq,afieldAddr,aload,hp,hab,astore,hp2,V.cells]
   apply hK;clear hK K
   exact AW_ret (fin _ rfl)
 · have g1:¬ c.kind = 1:=by simpa using hc
   repeat refine AW_seq ?_
   refine AW_reg [1,2,14] fun K hK=>?_
   simp [init_eq]
   apply hK;clear hK K
   refine AW_cond' rfl rfl (fun hc=>?_) (fun hc=>?_)
   · have g2:c.kind = 2:=by simpa using hc
     have hab:abuild Tryz.prog 58 [(0,.i .i64 4),(1,.i .i64 c.block),(2,.i .i64 c.view),(3,.i .i64 c.round),(4,.i .i64 c.height),(5,.i .i64 c.author)] = some (.agg c.stm.cells):=by simp [abuild,afill,V.cells,splice,Cert.stm,g2,Stm.zero,Stm.cells]
     repeat refine AW_seq ?_
     refine AW_reg [2] fun K hK=>?_
     simp [init_eq,afieldAddr,aload,hp,hab,astore,hp2,V.cells]
     apply hK;clear hK K
     exact AW_ret (fin _ rfl)
   · have g2:¬ c.kind = 2:=by simpa using hc
     have hab:abuild Tryz.prog 58 [] = some (.agg c.stm.cells):=by simp [abuild,afill,Cert.stm,g1,g2,Stm.zero,Stm.cells]
     refine AW_skip (bend (rend ?_))
     repeat refine AW_seq ?_
     refine AW_reg [2] fun K hK=>?_
     simp [init_eq,hab,astore,hp2,V.cells]
     apply hK;clear hK K
     exact AW_ret (fin _ rfl)
/-- Is a certificate one of a block? -/
def fitsB (c:Cert) (b:Blk):Bool:=decide (c.view = b.view) && decide (c.round = b.round) && decide (c.height = b.height) && (decide (c.kind = 1) || decide (c.author = b.author))
theorem fits_ok (H:AH) (c:Cert) (b:Blk) (pv tv:V):ACalls Tryz.prog 66 [.agg c.cells,.agg (b.cells pv tv)] H fun r H'=>r = .b (fitsB c b) ∧ H' = H:=by
 refine ACalls.pure (Q:=fun r=>r = .b (fitsB c b)) ⟨_,Tryz.func66,rfl,rfl⟩ ?_
 refine ACalls_body Tryz.func66 rfl rfl ?_
 repeat refine AW_seq ?_
 refine AW_reg [2,3] fun K hK=>?_
 simp [init_eq,V.cells]
 obtain ⟨H1,e1,hp,hp2,hn,ho⟩:=H.boxed2 c.cells (b.cells pv tv)
 rw [e1]
 apply hK;clear hK K
 repeat refine AW_seq ?_
 refine AW_regto [2,3,23] ⟨34,[(2,.p (some (H.next,0,0))),(3,.p (some (H.next + 1,0,0))),(23,.b (!(decide (c.view = b.view) && decide (c.round = b.round) && decide (c.height = b.height))))]⟩ H1 (fun K hk=>?_) ?_
 · by_cases g1:c.view = b.view
   · by_cases g2:c.round = b.round
     · simpa [init_eq,afieldAddr,aload,hp,hp2,g1,g2] using hk
     · simpa [init_eq,afieldAddr,aload,hp,hp2,g1,g2] using hk
   · simpa [init_eq,afieldAddr,aload,hp,hp2,g1] using hk
 refine AW_cond' rfl rfl (fun hc=>?_) (fun hc=>?_)
 · have g1:(decide (c.view = b.view) && decide (c.round = b.round) && decide (c.height = b.height)) = false:=by rw [Bool.not_eq_true'] at hc; exact hc
   repeat refine AW_seq ?_
   refine AW_reg [4] fun K hK=>?_
   simp [init_eq]
   apply hK;clear hK K
   exact AW_ret (end_ret rfl (pure_end hn ho (by rw [fitsB,g1]; rfl) rfl))
 · have g1:(decide (c.view = b.view) && decide (c.round = b.round) && decide (c.height = b.height)) = true:=by simpa using hc
   refine AW_skip ?_
   repeat refine AW_seq ?_
   refine AW_regto [4] ⟨34,[(4,.b (decide (c.kind = 1) || decide (c.author = b.author)))]⟩ H1 (fun K hk=>?_) (AW_ret (end_ret rfl (pure_end hn ho (by rw [fitsB,g1]; rfl) rfl)))
   by_cases g2:c.kind = 1
   · simpa [init_eq,afieldAddr,aload,hp,hp2,g2] using hk
   · simpa [init_eq,afieldAddr,aload,hp,hp2,g2] using hk
/-- Who was elected, an error, what is known then. -/
def seeR (f:Int) (bad:BitVec 32) (sh:List Shr) (co:Int → Tos) (view:Int) (set:BitVec 32):Int × Int × (Int → Tos) :=
 if mayE view ≠ 0 then (0,mayE view,co)
 else if enE f bad sh (coinStm view) set (qtimes 1 f) ≠ 0 then (0,enE f bad sh (coinStm view) set (qtimes 1 f),co)
 else (if (co view).chosen then (co view).who else leadN f view,0,coUpd co view ⟨if (co view).chosen then (co view).who else leadN f view,(co view).chosen,true⟩)
theorem see_ok (H:AH) {ic is:Nat} {F G:List Nat} {f:Int} {bad:BitVec 32} {sh:List Shr} {co:Int → Tos} (hc0:CoinAt H ic F f co) (hs:SignAt H is G f bad sh) (view:Int) (set:BitVec 32):ACalls Tryz.prog 123 [.p (some (ic,0,0)),.p (some (is,0,0)),.i .i64 view,u32 set] H fun r H' =>
  r = .tup [.i .i64 (seeR f bad sh co view set).1,.i .i64 (seeR f bad sh co view set).2.1] ∧ CoinAt H' ic F f (seeR f bad sh co view set).2.2 ∧ Upd H H' F:=by
 have hcc:=hc0
 obtain ⟨im,es,clk,rfl,h2,h3,h4,h5⟩:=hc0
 refine ACalls_body Tryz.func123 rfl rfl ?_
 repeat refine AW_seq ?_
 refine AW_reg [0,1,2,3] fun K hK=>?_
 simp [init_eq]
 apply hK;clear hK K
 repeat refine AW_seq ?_
 refine AW_reg [0,1,2,3,10] fun K hK=>?_
 simp [init_eq]
 refine ACalls.mono (coinMay_ok H ic view) fun r H' ⟨hr,e⟩=>?_
 subst hr e
 try simp
 apply hK;clear hK K
 repeat refine AW_seq ?_
 refine AW_reg [0,1,2,3,10,17] fun K hK=>?_
 simp [init_eq]
 apply hK;clear hK K
 refine AW_cond' rfl rfl (fun hc=>?_) (fun hc=>?_)
 · have g1:¬ mayE view = 0:=by simpa using hc
   repeat refine AW_seq ?_
   refine AW_reg [8,9] fun K hK=>?_
   simp [init_eq]
   apply hK;clear hK K
   refine AW_ret (end_ret rfl ⟨?_,?_,Upd.refl ..⟩)
   · simp [seeR,g1]
   · simpa [seeR,g1] using hcc
 · have g1:mayE view = 0:=by simpa using hc
   refine AW_skip ?_
   repeat refine AW_seq ?_
   refine AW_regd [0,1,2,3,29] pl_123_4 pe_123_4 (by kernel_rfl) (by kernel_rfl) (by decide) fun K hK=>?_
   simp [init_eq,pl_123_4,afieldAddr,aload,h3]
   refine ACalls.mono (signF_ok H' hs) fun r H2 ⟨hr,e⟩=>?_
   subst hr e
   simp [afieldAddr,aload,h3]
   apply hK;clear hK K
   refine AW_condF rfl ?_
   refine AW_skip ?_
   repeat refine AW_seq ?_
   refine AW_regd [0,2,11] pl_123_6 pe_123_6 (by kernel_rfl) (by kernel_rfl) (by decide) fun K hK=>?_
   simp [init_eq,pl_123_6,afieldAddr,aload,h3]
   refine ACalls.mono (coinStmt_ok ..) fun r H3 ⟨hr,e⟩=>⟨e ▸ AH.ext.refl _,?_⟩
   subst hr e
   refine ACalls.mono (some_ok ..) fun r H4 ⟨hr,e⟩=>?_
   subst hr e
   refine ACalls.mono (enough_ok H4 hs (coinStm view) set (qtimes 1 f)) fun r H5 ⟨hr,e⟩=>?_
   subst hr e
   apply hK;clear hK K
   repeat refine AW_seq ?_
   refine AW_reg [0,2,11,41] fun K hK=>?_
   simp [init_eq]
   apply hK;clear hK K
   refine AW_cond' rfl rfl (fun hc=>?_) (fun hc=>?_)
   · have g2:¬ enE f bad sh (coinStm view) set (qtimes 1 f) = 0:=by simpa using hc
     repeat refine AW_seq ?_
     refine AW_reg [8,9] fun K hK=>?_
     simp [init_eq]
     apply hK;clear hK K
     refine AW_ret (end_ret rfl ⟨?_,?_,Upd.refl ..⟩)
     · simp [seeR,g1,g2]
     · simpa [seeR,g1,g2] using hcc
   · have g2:enE f bad sh (coinStm view) set (qtimes 1 f) = 0:=by simpa using hc
     have hlk:=tos_lookup h4 h5 view
     have hm:aload Tryz.prog H5 148 (.p (some (ic,0,1))) = some (.m (some im)):=by simp [aload,h3]
     refine AW_skip ?_
     repeat refine AW_seq ?_
     refine AW_reg [0,2,12] fun K hK=>?_
     simp [init_eq,afieldAddr,hm,hlk,V.cells,astore,AH.get_new]
     apply hK;clear hK K
     generalize hH1:AH.set _ H5.next _ = H1
     have kt:H1.get H5.next = some (.cells (co view).cells 0 false 0):=by rw [← hH1,AH.get_set]; simp; exact splice_all rfl
     have ko:∀ j,j < H5.next → H1.get j = H5.get j:=fun j hj=>by rw [← hH1,AH.get_set_ne (by omega),AH.get_new,if_neg (by omega)]
     have kn:H1.next = H5.next + 1:=by rw [← hH1]; simp
     have u1:Upd H5 H1 []:=⟨by omega,fun j hj _=>ko j hj⟩
     have k3:=u1.keep (by simp) h3
     have k4:=u1.keep (by simp) h4
     have hi1:=AH.get_lt h3
     have hi2:=AH.get_lt h4
     clear hH1 hm hlk
     generalize hit:H5.next = it at *
     generalize hwho:(if (co view).chosen then (co view).who else leadN f view) = who
     have hsee:seeR f bad sh co view set = (who,0,coUpd co view ⟨who,(co view).chosen,true⟩):=by
      rw [seeR,if_neg (by simp [g1]),if_neg (by simp [g2]),hwho]
     rw [hsee]
     refine AW_cut (fun ρ G=>ρ = ⟨68,[(0,.p (some (ic,0,0))),(2,.i .i64 view),(12,.p (some (it,0,0)))]⟩ ∧ G.get it = some (.cells (Tos.cells ⟨who,(co view).chosen,(co view).seen⟩) 0 false 0) ∧ G.next = it + 1 ∧ ∀ j,j < it → G.get j = H5.get j) ?_ fun ρ G ⟨e1,jt,jn,jo⟩=>?_
     · repeat refine AW_seq ?_
       refine AW_reg [0,2,12,51] fun K hK=>?_
       simp [init_eq,afieldAddr,aload,kt]
       apply hK;clear hK K
       refine AW_cond' rfl rfl (fun hc=>?_) (fun hc=>?_)
       · have g3:(co view).chosen = false:=by simpa using hc
         have hw:who = leadN f view:=by rw [← hwho,g3]; rfl
         refine AW_reg [0,2,12] fun K hK=>?_
         simp [init_eq,afieldAddr,aload,k3]
         refine ACalls.mono (leader_ok ..) fun r H6 ⟨hr,e⟩=>?_
         subst hr e
         simp [afieldAddr,astore,kt,V.cells]
         apply hK;clear hK K
         refine rend ⟨_,?_,rfl,?_,?_,?_⟩
         · simp
         · rw [AH.get_set]; simp [kn,hw,Tos.cells,splice_zero]
         · simp [kn]
         · intro j hj; rw [AH.get_set_ne (by omega)]; exact ko j hj
       · have g3:(co view).chosen = true:=by simpa using hc
         have hw:who = (co view).who:=by rw [← hwho,g3]; rfl
         refine AW_skip (rend ⟨_,?_,rfl,?_,kn,ko⟩)
         · simp
         · rw [kt,hw]
     subst e1
     have jlt:it < G.next:=by omega
     have j3:G.get ic = some (.cells [.i .i64 f,.m (some im)] 0 false 0):=by rw [jo ic (by omega)]; exact h3
     have j4:G.get im = some (.map (ents keyI Tos.val es) clk):=by rw [jo im (by omega)]; exact h4
     repeat refine AW_seq ?_
     refine AW_reg [0,2,12] fun K hK=>?_
     simp [init_eq,afieldAddr,astore,jt,V.cells]
     apply hK;clear hK K
     generalize hG1:AH.set _ it _ = G1
     have ot:G1.get it = some (.cells (Tos.cells ⟨who,(co view).chosen,true⟩) 0 false 0):=by
      rw [← hG1,AH.get_set]; simp [jlt,Tos.cells,splice_zero,splice_succ]
     have oo:∀ j,j < it → G1.get j = G.get j:=fun j hj=>by rw [← hG1,AH.get_set_ne (by omega)]
     have on:G1.next = it + 1:=by rw [← hG1]; simp [jn]
     have o3:G1.get ic = some (.cells [.i .i64 f,.m (some im)] 0 false 0):=by rw [oo ic (by omega)]; exact j3
     have o4:G1.get im = some (.map (ents keyI Tos.val es) clk):=by rw [oo im (by omega)]; exact j4
     clear hG1
     have lm:aload Tryz.prog G1 148 (.p (some (ic,0,1))) = some (.m (some im)):=by simp [aload,o3]
     have lt:aload Tryz.prog G1 147 (.p (some (it,0,0))) = some (.agg (Tos.cells ⟨who,(co view).chosen,true⟩)):=by simp [aload,ot,Tos.take]
     have hup:amapUpdate Tryz.prog G1 148 (.m (some im)) (.i .i64 view) (.agg (Tos.cells ⟨who,(co view).chosen,true⟩)) = some (G1.set im (.map (ents keyI Tos.val (mput es view ⟨who,(co view).chosen,true⟩ clk)) (mclk es view clk))) :=
      amapUpdate_ents (P:=Tryz.prog) (ke:=keyI) (ve:=Tos.val) qmap_148 qkey_3 int_fits int_keq o4 view ⟨who,(co view).chosen,true⟩
     repeat refine AW_seq ?_
     refine AW_regd [12] pl_123_13 pe_123_13 (by kernel_rfl) (by kernel_rfl) (by decide) fun K hK=>?_
     simp [init_eq,pl_123_13,afieldAddr,lm,lt,hup]
     apply hK;clear hK K
     generalize hG2:G1.set im _ = G2
     have u2:Upd G1 G2 [im]:=by rw [← hG2]; exact Upd.set _ _ _ (by simp)
     have p3:G2.get ic = some (.cells [.i .i64 f,.m (some im)] 0 false 0):=u2.keep (by simp; exact h2) o3
     have p4:G2.get im = some (.map (ents keyI Tos.val (mput es view ⟨who,(co view).chosen,true⟩ clk)) (mclk es view clk)):=by rw [← hG2,AH.get_set]; simp; exact AH.get_lt o4
     have pt:G2.get it = some (.cells (Tos.cells ⟨who,(co view).chosen,true⟩) 0 false 0):=u2.keep (by simp; omega) ot
     repeat refine AW_seq ?_
     refine AW_reg [8,9] fun K hK=>?_
     simp [init_eq,afieldAddr,aload,pt]
     apply hK;clear hK K
     refine AW_ret (end_ret rfl ⟨rfl,⟨im,_,_,rfl,h2,p3,p4,fun v=>?_⟩,?_⟩)
     · rw [mget_mput]
       simp only [coUpd]
       split
       · rfl
       · exact h5 v
     · have uA:Upd H5 G1 [ic,im]:=⟨by omega,fun j hj _=>by rw [oo j (by omega),jo j (by omega)]⟩
       exact uA.trans (u2.mono (by simp):Upd G1 G2 [ic,im]) (fun j hj=>.inl hj)
end Go.Proofs.YtmhaimdpfelkpaaGreatDoor
set_option linter.unusedVariables false
set_option linter.unusedSimpArgs false
namespace Go.Proofs.YtmhaimdpfelkpaaGreatDoor
open Go Go.Abs Go.Proofs
set_option maxRecDepth 100000
attribute [local irreducible] AEnd AW ACalls
/-- Checks that may change what is known: what holds ahead of each, what holds behind an error. -/
theorem first_gen (H:AH) {v:V} {cs:List (FuncId × List V)} (hb:cs.length ≤ 1000) (St:Nat → AH → Prop) (Fin:Int → AH → Prop) (h0:St 0 H)
  (hv:∀ i G,St i G → RS G v 1 (cs.map fun c=>[V.fn (.func c.1) [] c.2]))
  (hk:∀ i (hi:i < cs.length) G,St i G → ACalls Tryz.prog cs[i].1 cs[i].2 G fun r G'=>∃ e,r = .i .i64 e ∧ ((e = 0 ∧ St (i + 1) G') ∨ (e ≠ 0 ∧ Fin e G'))) :
  ACalls Tryz.prog 53 [v] H fun r G=>∃ e,r = .i .i64 e ∧ ((e = 0 ∧ St cs.length G) ∨ (e ≠ 0 ∧ Fin e G)):=by
 have lx:=(hv 0 H h0).len (P:=Tryz.prog) (t:=161) (e:=114) (H':=H) qelem_161
 rw [List.length_map] at lx
 refine ACalls_body Tryz.func53 rfl rfl ?_
 repeat refine AW_seq ?_
 refine AW_reg [0] fun K hK=>?_
 simp [init_eq]
 apply hK;clear hK K
 repeat refine AW_seq ?_
 refine AW_reg [6,7,8] fun K hK=>?_
 simp [init_eq,lx]
 apply hK;clear hK K
 refine AW_block ?_
 refine AW_loopx (fun i:Nat=>⟨18,[(6,v),(7,.i .i64 cs.length),(8,.i .i64 i)]⟩) (fun i G=>i ≤ cs.length ∧ St i G) (fun i=>cs.length - i) 0 (by simp) ⟨by simp,h0⟩ fun i G hM=>?_
 repeat refine AW_seq ?_
 refine AW_reg [6,7,8,9] fun K hK=>?_
 simp [init_eq]
 apply hK;clear hK K
 repeat refine AW_seq ?_
 refine AW_cond' rfl rfl (fun hc=>?_) (fun hc=>?_)
 · have hi:i < cs.length:=by simpa using hc
   obtain ⟨ax,px,qx⟩:=(hv i G hM.2).at1 (P:=Tryz.prog) (t:=161) (e:=114) qelem_161 qsize_114 qagg_114 (k:=.i64) i (x:=.fn (.func cs[i].1) [] cs[i].2) (by simp [hi])
   refine AW_skip ?_
   repeat refine AW_seq ?_
   refine AW_block ?_
   repeat refine AW_seq ?_
   refine AW_reg [4,6,7,8] fun K hK=>?_
   simp [init_eq,px,qx]
   apply hK;clear hK K
   repeat refine AW_seq ?_
   refine AW_reg [5,6,7,8] fun K hK=>?_
   simp [init_eq,AOp_callv (f:=cs[i].1) (first:=[]) (caps:=cs[i].2)]
   refine ACalls.mono (hk i hi G hM.2) fun r G' ⟨e,hr,he⟩=>?_
   subst hr
   try simp
   apply hK;clear hK K
   repeat refine AW_seq ?_
   refine AW_reg [5,6,7,8,15] fun K hK=>?_
   simp [init_eq]
   apply hK;clear hK K
   refine AW_cond' rfl rfl (fun hc=>?_) (fun hc=>?_)
   · have hg:¬ e = 0:=by simpa using hc
     repeat refine AW_seq ?_
     refine AW_reg [2] fun K hK=>?_
     simp [init_eq]
     apply hK;clear hK K
     refine AW_ret (end_ret rfl ⟨e,rfl,.inr ⟨hg,?_⟩⟩)
     rcases he with he | he
     · exact absurd he.1 hg
     · exact he.2
   · have hg:e = 0:=by simpa using hc
     refine AW_skip ?_
     refine AW_reg [6,7,8] fun K hK=>?_
     simp [init_eq,wrap_id (x:=(i:Int) + 1) (by omega) (by omega)]
     apply hK;clear hK K
     refine rend ⟨i + 1,by simp,⟨by omega,?_⟩,by omega⟩
     rcases he with he | he
     · exact he.2
     · exact absurd hg he.1
 · have hi : i = cs.length := by have := hM.1
                                 have:¬ i < cs.length:=by simpa using hc
                                 omega
   refine AW_exit (then_exit (then_exit (block_here ?_)))
   repeat refine AW_seq ?_
   refine AW_reg [2] fun K hK=>?_
   simp [init_eq]
   apply hK;clear hK K
   exact AW_ret (end_ret rfl ⟨0,rfl,.inl ⟨rfl,hi ▸ hM.2⟩⟩)
/-- What the registers know. -/
structure RegD where
 f:Int
 bad:BitVec 32
 bk:List (List UInt8)
 sh:List Shr
 co:Int → Tos
structure LawAt (H:AH) (ib is ic:Nat) (FB FS FC:List Nat) (d:RegD):Prop where
 book:BookAt H ib FB d.bk
 sign:SignAt H is FS d.f d.bad d.sh
 coin:CoinAt H ic FC d.f d.co
 bs:∀ j ∈ FB,j ∉ FS
 bc:∀ j ∈ FB,j ∉ FC
 sc:∀ j ∈ FS,j ∉ FC
 len:d.bk.length ≤ 10000
 txt:∀ s ∈ d.bk,s.length ≤ 65536
def lawV (ib is ic:Nat):List V:=[.p (some (ib,0,0)),.p (some (is,0,0)),.p (some (ic,0,0))]
@[simp] theorem lawV_len (ib is ic:Nat):(lawV ib is ic).length = 3:=rfl
@[simp] theorem lawV_take (ib is ic:Nat):(lawV ib is ic).take 3 = lawV ib is ic:=rfl
@[simp] theorem lawV_0 (ib is ic:Nat):(lawV ib is ic)[0]? = some (.p (some (ib,0,0))):=rfl
@[simp] theorem lawV_1 (ib is ic:Nat):(lawV ib is ic)[1]? = some (.p (some (is,0,0))):=rfl
@[simp] theorem lawV_2 (ib is ic:Nat):(lawV ib is ic)[2]? = some (.p (some (ic,0,0))):=rfl
theorem LawAt.upd {H H':AH} {ib is ic:Nat} {FB FS FC:List Nat} {d:RegD} (h:LawAt H ib is ic FB FS FC d) (hu:Upd H H' []):LawAt H' ib is ic FB FS FC d :=
 ⟨h.book.upd hu (by simp),h.sign.upd hu (by simp),h.coin.upd hu (by simp),h.bs,h.bc,h.sc,h.len,h.txt⟩
theorem LawAt.setCo {H H':AH} {ib is ic:Nat} {FB FS FC:List Nat} {d:RegD} (h:LawAt H ib is ic FB FS FC d) (hu:Upd H H' FC) {co:Int → Tos} (hc:CoinAt H' ic FC d.f co):LawAt H' ib is ic FB FS FC { d with co:=co } :=
 ⟨h.book.upd hu h.bc,h.sign.upd hu h.sc,hc,h.bs,h.bc,h.sc,h.len,h.txt⟩
/-- The block of a number. -/
def lawCont (bk:List (List UInt8)) (n:Int):Blk × Int :=
 if 1 ≤ n ∧ n ≤ bk.length then (if (parseBlk (bk[n.toNat - 1]?.getD [])).2 = 0 then ((parseBlk (bk[n.toNat - 1]?.getD [])).1,0) else (Blk.zero,120)) else (Blk.zero,50)
theorem lawContent_ok (H:AH) {ib is ic:Nat} {FB FS FC:List Nat} {d:RegD} (hd:LawAt H ib is ic FB FS FC d) (n:Int):ACalls Tryz.prog 24 [.agg (lawV ib is ic),.i .i64 n] H fun r H' =>
  ∃ pv tv,r = .tup [.agg ((lawCont d.bk n).1.cells pv tv),.i .i64 (lawCont d.bk n).2] ∧ BlkAt H' (lawCont d.bk n).1 pv tv ∧ Upd H H' []:=by
 have hab:abuild Tryz.prog 33 [] = some (.agg (Blk.zero.cells nilSl nilSl)):=by simp [abuild,afill]; rfl
 generalize hR:lawCont d.bk n = R
 refine ACalls_body Tryz.func24 rfl rfl ?_
 repeat refine AW_seq ?_
 refine AW_reg [1,2,4] fun K hK=>?_
 simp [init_eq,V.cells]
 apply hK;clear hK K
 obtain ⟨H1,e1,hp,hp2,hn,ho⟩:=H.boxed2 (lawV ib is ic) (Blk.zero.cells nilSl nilSl)
 show AThen _ _ _ _ ((H.new (O.cells (lawV ib is ic) 0 false 0)).new (O.cells (Blk.zero.cells nilSl nilSl) 0 false 0))
 rw [e1]
 have u1:Upd H H1 []:=⟨by omega,fun j hj _=>ho j hj⟩
 have hd1:=hd.upd u1
 repeat refine AW_seq ?_
 refine AW_reg [4,6,7] fun K hK=>?_
 simp [init_eq,afieldAddr,aload,hp]
 refine ACalls.mono (bookContent_ok H1 hd1.book (by have:=hd.len; omega) n) fun r H' ⟨hr,e⟩=>?_
 subst hr e
 by_cases g1:1 ≤ n ∧ n ≤ d.bk.length
 · have hs:(d.bk[n.toNat - 1]?.getD []).length ≤ 65536:=by
     cases hq:d.bk[n.toNat - 1]? with
     | none=>simp
     | some s=>exact hd.txt s (List.mem_of_getElem? hq)
   have hlc:R = (if (parseBlk (d.bk[n.toNat - 1]?.getD [])).2 = 0 then ((parseBlk (d.bk[n.toNat - 1]?.getD [])).1,0) else (Blk.zero,120)):=by rw [← hR,lawCont,if_pos g1]
   rw [if_pos g1]
   clear hR
   generalize (d.bk[n.toNat - 1]?.getD []) = s at hs hlc ⊢
   subst hlc
   simp
   apply hK;clear hK K
   repeat refine AW_seq ?_
   refine AW_reg [4,6,7,17] fun K hK=>?_
   simp [init_eq]
   apply hK;clear hK K
   refine AW_condF rfl ?_
   refine AW_skip ?_
   repeat refine AW_seq ?_
   refine AW_reg [4,7,8] fun K hK=>?_
   simp [init_eq]
   refine ACalls.mono (parse_new H' s (by omega)) fun r H2 hr=>?_
   obtain ⟨pv,tv,rfl,hat,u2⟩:=hr
   generalize parseBlk s = q at *
   obtain ⟨B,w⟩:=q
   simp only at hat ⊢
   simp [V.cells,astore,AH.get_new]
   apply hK;clear hK K
   generalize hG3:AH.set _ H2.next _ = G3
   have k5:G3.get H2.next = some (.cells (B.cells pv tv) 0 false 0):=by
    rw [← hG3]; simp [AH.get_set]; exact splice_all rfl
   have ko:∀ j,j < H2.next → G3.get j = H2.get j:=fun j hj=>by rw [← hG3,AH.get_set_ne (by omega),AH.get_new,if_neg (by omega)]
   have kn:G3.next = H2.next + 1:=by rw [← hG3]; simp
   have u3:Upd H2 G3 []:=⟨by omega,fun j hj _=>ko j hj⟩
   have g4:=(u2.trans u3 (by simp)).keep (by simp) hp2
   have hltn:H.next + 1 < G3.next:=AH.get_lt g4
   have uH:Upd H G3 []:=u1.trans (u2.trans u3 (by simp)) (by simp)
   have hltm:H.next + 1 < H'.next:=AH.get_lt hp2
   have hat3:BlkAt (G3.set (H.next + 1) (.cells (splice (Blk.zero.cells nilSl nilSl) 0 (B.cells pv tv)) 0 false 0)) B pv tv:=hat _ (fun j h1 h2=>by rw [AH.get_set_ne (by omega)]; exact ko j h2) (by simp; omega)
   have fin:∀ o,Upd H (G3.set (H.next + 1) o) []:=fun o=>uH.trans (Upd.set (F:=[H.next + 1]) _ _ _ (by simp)) (fun j hj=>.inr (by simp at hj; omega))
   clear hG3
   repeat refine AW_seq ?_
   refine AW_reg [4,8,26] fun K hK=>?_
   simp [init_eq]
   apply hK;clear hK K
   refine AW_cond' rfl rfl (fun hc=>?_) (fun hc=>?_)
   · have k1:¬ w = 0:=by simpa using hc
     rw [if_neg k1]
     repeat refine AW_seq ?_
     refine AW_reg [4,5] fun K hK=>?_
     simp [init_eq,hab,astore,g4,V.cells]
     apply hK;clear hK K
     refine AW_ret (end_ret (ares_cell_tmp (v:=.agg (Blk.zero.cells nilSl nilSl)) ?_) ⟨nilSl,nilSl,rfl,⟨RS.nil ..,RS.nil ..⟩,fin _⟩)
     simp [aload,AH.get_set,hltn]
     rw [splice_all (c:=Blk.zero.cells nilSl nilSl) (l:=Blk.zero.cells nilSl nilSl) rfl]; simp [blk_take]
   · have k1:w = 0:=by simpa using hc
     rw [if_pos k1]
     refine AW_skip ?_
     repeat refine AW_seq ?_
     refine AW_reg [4,5] fun K hK=>?_
     simp [init_eq,aload,k5,blk_take,astore,g4,V.cells]
     apply hK;clear hK K
     refine AW_ret (end_ret (ares_cell_tmp (v:=.agg (B.cells pv tv)) ?_) ⟨pv,tv,rfl,?_,fin _⟩)
     · simp [aload,AH.get_set,hltn]
       rw [splice_all (c:=Blk.zero.cells nilSl nilSl) (l:=B.cells pv tv) rfl]; simp [blk_take]
     · exact hat3
 · have hlc:R = (Blk.zero,50):=by rw [← hR,lawCont,if_neg g1]
   subst hlc
   rw [if_neg g1]
   try simp
   apply hK;clear hK K
   repeat refine AW_seq ?_
   refine AW_reg [4,6,7,17] fun K hK=>?_
   simp [init_eq]
   apply hK;clear hK K
   refine AW_condT rfl ?_
   repeat refine AW_seq ?_
   refine AW_reg [4,5] fun K hK=>?_
   simp [init_eq,hab,astore,hp2,V.cells]
   apply hK;clear hK K
   have hlt:H.next + 1 < H'.next:=by omega
   refine AW_ret (end_ret (ares_cell_tmp (v:=.agg (Blk.zero.cells nilSl nilSl)) ?_) ⟨nilSl,nilSl,rfl,⟨RS.nil ..,RS.nil ..⟩,u1.trans (Upd.set (F:=[H.next + 1]) _ _ _ (by simp)) (fun j hj=>.inr (by simp at hj; omega))⟩)
   simp [aload,AH.get_set,hlt]
   rw [splice_all (c:=Blk.zero.cells nilSl nilSl) (l:=Blk.zero.cells nilSl nilSl) rfl]; simp [blk_take]
end Go.Proofs.YtmhaimdpfelkpaaGreatDoor
set_option linter.unusedVariables false
set_option linter.unusedSimpArgs false
namespace Go.Proofs.YtmhaimdpfelkpaaGreatDoor
open Go Go.Abs Go.Proofs
set_option maxRecDepth 100000
attribute [local irreducible] AEnd AW ACalls
/-- Was its author elected? -/
def endR (d:RegD) (c:Cert):Int × (Int → Tos) :=
 if c.endorsed then (if (seeR d.f d.bad d.sh d.co c.view c.coin).2.1 = 0 ∧ (seeR d.f d.bad d.sh d.co c.view c.coin).1 ≠ c.author then 70 else (seeR d.f d.bad d.sh d.co c.view c.coin).2.1,(seeR d.f d.bad d.sh d.co c.view c.coin).2.2) else (0,d.co)
theorem cut3 {r:Fm} {P:Program} [Laid P] {x y:Code} {Q:Exit → Env → AH → Prop} {ρ:Env} {H:AH} (ρ1:Env) (H1:AH) (h1:AW r P x (AThen (fun ρ H=>ρ.sub ρ1 ∧ H = H1) Q) ρ H) (h2:AW r P y Q ρ1 H1):AW r P (.seq x y) Q ρ H :=
 AW_cut (fun ρ H=>ρ = ρ1 ∧ H = H1) (h1.mono fun e ρ H h=>by
  cases e with
  | normal=>exact ⟨ρ1,h.1,rfl,h.2⟩
  | exit id=>exact h
  | goto l=>exact h
  | ret=>exact h
  | panic c=>exact h
  | outgrown=>exact h) fun ρ H ⟨a,b⟩=>a ▸ b ▸ h2
theorem lawEndorsed_ok (H:AH) {ib is ic:Nat} {FB FS FC:List Nat} {d:RegD} (hd:LawAt H ib is ic FB FS FC d) (c:Cert):ACalls Tryz.prog 72 [.agg (lawV ib is ic),.agg c.cells] H fun r H' =>
  r = .i .i64 (endR d c).1 ∧ LawAt H' ib is ic FB FS FC { d with co:=(endR d c).2 } ∧ Upd H H' FC:=by
 refine ACalls_body Tryz.func72 rfl rfl ?_
 repeat refine AW_seq ?_
 refine AW_reg [2,3] fun K hK=>?_
 simp [init_eq,V.cells]
 obtain ⟨H1,e1,hp,hp2,hn,ho⟩:=H.boxed2 (lawV ib is ic) c.cells
 rw [e1]
 apply hK;clear hK K
 have u1:Upd H H1 []:=⟨by omega,fun j hj _=>ho j hj⟩
 have hd1:=hd.upd u1
 repeat refine AW_seq ?_
 refine AW_reg [2,3,9] fun K hK=>?_
 simp [init_eq,aload,hp2,take_cells]
 refine ACalls.mono (endorsed_ok H1 c) fun r H' ⟨hr,e⟩=>?_
 subst hr e
 try simp
 apply hK;clear hK K
 refine AW_cond' rfl rfl (fun hc=>?_) (fun hc=>?_)
 · have g1:c.endorsed = false:=by simpa using hc
   repeat refine AW_seq ?_
   refine AW_reg [4] fun K hK=>?_
   simp [init_eq]
   apply hK;clear hK K
   refine AW_ret (end_ret rfl ⟨by simp [endR,g1],?_,u1.mono (by simp)⟩)
   simpa [endR,g1] using hd1
 · have g1:c.endorsed = true:=by simpa using hc
   refine AW_skip ?_
   repeat refine AW_seq ?_
   refine AW_reg [3,5,6] fun K hK=>?_
   simp [init_eq,afieldAddr,aload,hp,hp2]
   refine ACalls.mono (see_ok H' hd1.coin hd1.sign c.view c.coin) fun r H2 ⟨hr,hc2,u2⟩=>?_
   subst hr
   have hpl:=AH.get_lt hp2
   have hFC:H.next + 1 ∉ FC:=fun h=>by have:=hd.coin.lt _ h; omega
   have k2:=u2.keep hFC hp2
   have hd2:=hd1.setCo u2 hc2
   have uA:Upd H H2 FC:=(u1.mono (by simp):Upd H H' FC).trans u2 (fun j hj=>.inl hj)
   try simp
   apply hK;clear hK K
   have hend:endR d c = (if (seeR d.f d.bad d.sh d.co c.view c.coin).2.1 = 0 ∧ (seeR d.f d.bad d.sh d.co c.view c.coin).1 ≠ c.author then 70 else (seeR d.f d.bad d.sh d.co c.view c.coin).2.1,(seeR d.f d.bad d.sh d.co c.view c.coin).2.2):=by rw [endR,if_pos g1]
   rw [hend]
   generalize seeR d.f d.bad d.sh d.co c.view c.coin = q at *
   obtain ⟨who,e,co⟩:=q
   simp only at hd2 ⊢
   refine cut3 ⟨31,[(6,.i .i64 (if e = 0 ∧ who ≠ c.author then 70 else e))]⟩ H2 ?_ ?_
   · repeat refine AW_seq ?_
     refine AW_regto [6,29] ⟨31,[(6,.i .i64 e),(29,.b (decide (e = 0 ∧ who ≠ c.author)))]⟩ H2 (fun K hk=>?_) ?_
     · by_cases g2:e = 0
       · by_cases g3:who = c.author
         · simpa [init_eq,g2,g3,afieldAddr,aload,k2] using hk
         · simpa [init_eq,g2,g3,afieldAddr,aload,k2] using hk
       · simpa [init_eq,g2] using hk
     refine AW_cond' rfl rfl (fun hc=>?_) (fun hc=>?_)
     · have g2:e = 0 ∧ who ≠ c.author:=by simpa using hc
       refine AW_reg [6] fun K hK=>?_
       simp [init_eq]
       apply hK;clear hK K
       refine rend ⟨?_,rfl⟩
       rw [if_pos g2]; simp
     · have g2:¬ (e = 0 ∧ who ≠ c.author):=by simpa using hc
       refine AW_skip (rend ⟨?_,rfl⟩)
       rw [if_neg g2]; simp
   · repeat refine AW_seq ?_
     refine AW_reg [4] fun K hK=>?_
     simp [init_eq]
     apply hK;clear hK K
     exact AW_ret (end_ret rfl ⟨rfl,hd2,uA⟩)
/-- Is it one of the block that it names? -/
def contE (d:RegD) (c:Cert):Int:=if (lawCont d.bk c.block).2 = 0 ∧ fitsB c (lawCont d.bk c.block).1 = false then 110 else (lawCont d.bk c.block).2
theorem certF1_ok (H:AH) {ib is ic:Nat} {FB FS FC:List Nat} {d:RegD} (hd:LawAt H ib is ic FB FS FC d) {i j:Nat} {c:Cert} (hi:H.get i = some (.cells (lawV ib is ic) 0 false 0)) (hj:H.get j = some (.cells c.cells 0 false 0)) :
  ACalls Tryz.prog 65 [.p (some (i,0,0)),.p (some (j,0,0))] H fun r H'=>r = .i .i64 (contE d c) ∧ H' = H:=by
 have hce:contE d c = (if (lawCont d.bk c.block).2 = 0 ∧ fitsB c (lawCont d.bk c.block).1 = false then 110 else (lawCont d.bk c.block).2):=rfl
 generalize contE d c = R at *
 refine ACalls.pure (Q:=fun r=>r = .i .i64 R) ⟨_,Tryz.func65,rfl,rfl⟩ ?_
 refine ACalls_body Tryz.func65 rfl rfl ?_
 repeat refine AW_seq ?_
 refine AW_reg [0,1] fun K hK=>?_
 simp [init_eq]
 apply hK;clear hK K
 repeat refine AW_seq ?_
 refine AW_reg [1,3,4] fun K hK=>?_
 have hlt:=AH.get_lt hj
 simp [init_eq,afieldAddr,aload,hi,hj]
 refine ACalls.mono (lawContent_ok H hd c.block) fun r H2 hr=>?_
 obtain ⟨pv,tv,rfl,hat,u2⟩:=hr
 generalize lawCont d.bk c.block = q at *
 obtain ⟨B,w⟩:=q
 simp only at hat hce ⊢
 subst hce
 have k2:=u2.keep (by simp) hj
 simp [V.cells,astore,AH.get_new]
 apply hK;clear hK K
 generalize hG3:AH.set _ H2.next _ = G3
 have k5:G3.get H2.next = some (.cells (B.cells pv tv) 0 false 0):=by
  rw [← hG3]; simp [AH.get_set]; exact splice_all rfl
 have ko:∀ j,j < H2.next → G3.get j = H2.get j:=fun j hj=>by rw [← hG3,AH.get_set_ne (by omega),AH.get_new,if_neg (by omega)]
 have kn:G3.next = H2.next + 1:=by rw [← hG3]; simp
 have u3:Upd H2 G3 []:=⟨by omega,fun j hj _=>ko j hj⟩
 have k3:=u3.keep (by simp) k2
 have uH:=u2.trans u3 (by simp)
 clear hG3
 refine cut3 ⟨21,[(4,.i .i64 (if w = 0 ∧ fitsB c B = false then 110 else w))]⟩ G3 ?_ ?_
 · repeat refine AW_seq ?_
   refine AW_regto [4,19] ⟨21,[(4,.i .i64 w),(19,.b (decide (w = 0 ∧ fitsB c B = false)))]⟩ G3 (fun K hk=>?_) ?_
   · by_cases g2:w = 0
     · simp [init_eq,g2,aload,k3,k5,take_cells,blk_take]
       refine ACalls.mono (fits_ok G3 c B pv tv) fun r H' ⟨hr,e⟩=>?_
       subst hr e
       cases g3:fitsB c B
       · simpa [g2,g3] using hk
       · simpa [g2,g3] using hk
     · simpa [init_eq,g2] using hk
   refine AW_cond' rfl rfl (fun hc=>?_) (fun hc=>?_)
   · have g2:w = 0 ∧ fitsB c B = false:=by simpa using hc
     refine AW_reg [4] fun K hK=>?_
     simp [init_eq]
     apply hK;clear hK K
     refine rend ⟨?_,rfl⟩
     rw [if_pos g2]; simp
   · have g2:¬ (w = 0 ∧ fitsB c B = false):=by simpa using hc
     refine AW_skip (rend ⟨?_,rfl⟩)
     rw [if_neg g2]; simp
 · repeat refine AW_seq ?_
   refine AW_reg [2] fun K hK=>?_
   simp [init_eq]
   apply hK;clear hK K
   exact AW_ret (end_ret rfl ⟨rfl,rfl,uH.1,fun j hj=>uH.2 j hj (by simp)⟩)
def certE2 (d:RegD) (c:Cert):Int:=enE d.f d.bad d.sh c.stm c.signers (qtimes 2 d.f)
theorem certF2_ok (H:AH) {ib is ic:Nat} {FB FS FC:List Nat} {d:RegD} (hd:LawAt H ib is ic FB FS FC d) {i j:Nat} {c:Cert} (hi:H.get i = some (.cells (lawV ib is ic) 0 false 0)) (hj:H.get j = some (.cells c.cells 0 false 0)) :
  ACalls Tryz.prog 67 [.p (some (i,0,0)),.p (some (j,0,0))] H fun r H'=>r = .i .i64 (certE2 d c) ∧ H' = H:=by
 refine ACalls_body Tryz.func67 rfl rfl ?_
 repeat refine AW_seq ?_
 refine AW_reg [0,1] fun K hK=>?_
 simp [init_eq]
 apply hK;clear hK K
 repeat refine AW_seq ?_
 refine AW_regd [2] pl_67_1 pe_67_1 (by kernel_rfl) (by kernel_rfl) (by decide) fun K hK=>?_
 simp [init_eq,pl_67_1,afieldAddr,aload,hi,hj,take_cells]
 refine ACalls.mono (certStmt_ok ..) fun r H3 ⟨hr,e⟩=>⟨e ▸ AH.ext.refl _,?_⟩
 subst hr e
 refine ACalls.mono (signF_ok H3 hd.sign) fun r H3 ⟨hr,e⟩=>⟨e ▸ AH.ext.refl _,?_⟩
 subst hr e
 refine ACalls.mono (quorum_ok ..) fun r H3 ⟨hr,e⟩=>⟨e ▸ AH.ext.refl _,?_⟩
 subst hr e
 refine ACalls.mono (enough_ok H3 hd.sign c.stm c.signers (qtimes 2 d.f)) fun r H5 ⟨hr,e⟩=>⟨e ▸ AH.ext.refl _,?_⟩
 subst hr e
 apply hK;clear hK K
 exact AW_ret (end_ret rfl ⟨rfl,rfl⟩)
theorem certF3_ok (H:AH) {ib is ic:Nat} {FB FS FC:List Nat} {d:RegD} (hd:LawAt H ib is ic FB FS FC d) {i j:Nat} {c:Cert} (hi:H.get i = some (.cells (lawV ib is ic) 0 false 0)) (hj:H.get j = some (.cells c.cells 0 false 0)) :
  ACalls Tryz.prog 71 [.p (some (i,0,0)),.p (some (j,0,0))] H fun r H'=>r = .i .i64 (endR d c).1 ∧ LawAt H' ib is ic FB FS FC { d with co:=(endR d c).2 } ∧ Upd H H' FC:=by
 refine ACalls_body Tryz.func71 rfl rfl ?_
 repeat refine AW_seq ?_
 refine AW_reg [0,1] fun K hK=>?_
 simp [init_eq]
 apply hK;clear hK K
 repeat refine AW_seq ?_
 refine AW_reg [2] fun K hK=>?_
 simp [init_eq,aload,hi,hj,take_cells]
 refine ACalls.mono (lawEndorsed_ok H hd c) fun r H5 ⟨hr,h1,h2⟩=>?_
 subst hr
 try simp
 apply hK;clear hK K
 exact AW_ret (end_ret rfl ⟨rfl,h1,h2⟩)
theorem three_raw (G:AH) (a b c:FuncId × List V):∃ G1,abuildSlice Tryz.prog G 161 3 [(0,.fn (.func a.1) [] a.2),(1,.fn (.func b.1) [] b.2),(2,.fn (.func c.1) [] c.2)] = some (.sl (some (G.next,0,0)) 3 false,G1) ∧ RS G1 (.sl (some (G.next,0,0)) 3 false) 1 ([a,b,c].map fun c=>[V.fn (.func c.1) [] c.2]) ∧ G1.next = G.next + 1 ∧ ∀ j,j < G.next → G1.get j = G.get j :=
 ⟨G.new (.cells [.fn (.func a.1) [] a.2,.fn (.func b.1) [] b.2,.fn (.func c.1) [] c.2] 0 false 1),by simp [abuildSlice,afill,V.cells,splice_zero,splice_succ,List.replicate],⟨by simp,.inr ⟨G.next,0,0,_,_,_,rfl,AH.get_new_same ..,.inr rfl,by simp,by simp⟩⟩,by simp,fun j hj=>by rw [AH.get_new,if_neg (by omega)]⟩
theorem rs_updF {H H':AH} {v:V} {sz:Nat} {ls:List (List V)} {F:List Nat} (h:RS H v sz ls) (hu:Upd H H' F) {id g o l:Nat} {b:Bool} (hv:v = .sl (some (id,g,o)) l b) (hid:id ∉ F):RS H' v sz ls:=by
 refine ⟨h.1,?_⟩
 rcases h.2 with ⟨c,r1,r2⟩ | ⟨id',g',off,c,ro,esz,r1,r2,r⟩
 · exact .inl ⟨c,r1,r2⟩
 · rw [hv] at r1
   cases r1
   exact .inr ⟨id,g,o,c,ro,esz,hv,hu.keep hid r2,r⟩
/-- Is it valid? What is known then. -/
def certR (d:RegD) (c:Cert):Int × (Int → Tos) :=
 if c.check ≠ 0 then (c.check,d.co) else if c.kind = 0 then (0,d.co) else if contE d c ≠ 0 then (contE d c,d.co) else if certE2 d c ≠ 0 then (certE2 d c,d.co) else endR d c
theorem lawCert_ok (H:AH) {ib is ic:Nat} {FB FS FC:List Nat} {d:RegD} (hd:LawAt H ib is ic FB FS FC d) (c:Cert):ACalls Tryz.prog 16 [.agg (lawV ib is ic),.agg c.cells] H fun r H' =>
  r = .i .i64 (certR d c).1 ∧ LawAt H' ib is ic FB FS FC { d with co:=(certR d c).2 } ∧ Upd H H' FC:=by
 refine ACalls_body Tryz.func16 rfl rfl ?_
 repeat refine AW_seq ?_
 refine AW_reg [2,3] fun K hK=>?_
 simp [init_eq,V.cells]
 obtain ⟨H1,e1,hp,hp2,hn,ho⟩:=H.boxed2 (lawV ib is ic) c.cells
 rw [e1]
 apply hK;clear hK K
 have u1:Upd H H1 []:=⟨by omega,fun j hj _=>ho j hj⟩
 have hd1:=hd.upd u1
 repeat refine AW_seq ?_
 refine AW_reg [2,3,5] fun K hK=>?_
 simp [init_eq,aload,hp2,take_cells]
 refine ACalls.mono (check_ok H1 c) fun r H' ⟨hr,e⟩=>?_
 subst hr e
 try simp
 apply hK;clear hK K
 by_cases g1:c.check = 0
 case neg =>
   repeat refine AW_seq ?_
   refine AW_reg [2,3,5,14] fun K hK=>?_
   simp [init_eq,g1]
   apply hK;clear hK K
   refine AW_condT rfl ?_
   repeat refine AW_seq ?_
   refine AW_reg [4] fun K hK=>?_
   simp [init_eq]
   apply hK;clear hK K
   refine AW_ret (end_ret rfl ⟨by simp [certR,g1],?_,u1.mono (by simp)⟩)
   simpa [certR,g1] using hd1
 by_cases g2:c.kind = 0
 · repeat refine AW_seq ?_
   refine AW_reg [2,3,5,14] fun K hK=>?_
   simp [init_eq,g1,g2,afieldAddr,aload,hp2]
   apply hK;clear hK K
   refine AW_condT rfl ?_
   repeat refine AW_seq ?_
   refine AW_reg [4] fun K hK=>?_
   simp [init_eq]
   apply hK;clear hK K
   refine AW_ret (end_ret rfl ⟨by simp [certR,g1,g2],?_,u1.mono (by simp)⟩)
   simpa [certR,g1,g2] using hd1
 · repeat refine AW_seq ?_
   refine AW_reg [2,3,5,14] fun K hK=>?_
   simp [init_eq,g1,g2,afieldAddr,aload,hp2]
   apply hK;clear hK K
   refine AW_condF rfl ?_
   refine AW_skip ?_
   obtain ⟨G1,b1,b2,b3,b4⟩:=three_raw H' (⟨65,[.p (some (H.next,0,0)),.p (some (H.next + 1,0,0))]⟩:FuncId × List V) ⟨67,[.p (some (H.next,0,0)),.p (some (H.next + 1,0,0))]⟩ ⟨71,[.p (some (H.next,0,0)),.p (some (H.next + 1,0,0))]⟩
   have uG:Upd H' G1 []:=⟨by omega,fun j hj _=>b4 j hj⟩
   have hdG:=hd1.upd uG
   have q1:=uG.keep (by simp) hp
   have q2:=uG.keep (by simp) hp2
   have uH:=u1.trans uG (by simp)
   have hFC:H'.next ∉ FC:=fun h=>by have:=hd1.coin.lt _ h; omega
   repeat refine AW_seq ?_
   refine AW_reg [4] fun K hK=>?_
   simp [init_eq,evs,b1]
   refine ACalls.mono (first_gen G1 (cs:=[(65,[.p (some (H.next,0,0)),.p (some (H.next + 1,0,0))]),(67,[.p (some (H.next,0,0)),.p (some (H.next + 1,0,0))]),(71,[.p (some (H.next,0,0)),.p (some (H.next + 1,0,0))])]) (by simp) (fun i G=>(i ≤ 2 ∧ G = G1 ∧ (1 ≤ i → contE d c = 0) ∧ (2 ≤ i → certE2 d c = 0)) ∨ (i = 3 ∧ contE d c = 0 ∧ certE2 d c = 0 ∧ (endR d c).1 = 0 ∧ LawAt G ib is ic FB FS FC { d with co:=(endR d c).2 } ∧ Upd G1 G FC))
    (fun e G=>e = (certR d c).1 ∧ LawAt G ib is ic FB FS FC { d with co:=(certR d c).2 } ∧ Upd G1 G FC) (.inl ⟨by simp,rfl,by simp,by simp⟩) (fun i G hG=>?_) fun i hi G hG=>?_) fun r G2 ⟨e,hr,he⟩=>?_
   · rcases hG with ⟨_,rfl,_⟩ | ⟨_,_,_,_,_,hu⟩
     · exact b2
     · exact rs_updF b2 hu rfl hFC
   · rcases hG with ⟨hi2,rfl,k1,k2⟩ | ⟨rfl,_⟩
     · rcases i with _ | _ | _ | i
       · refine ACalls.mono (certF1_ok G hdG q1 q2) fun r G' ⟨hr,hG⟩=>⟨_,hr,?_⟩
         subst hG
         by_cases h:contE d c = 0
         · exact .inl ⟨h,.inl ⟨by omega,rfl,fun _=>h,by omega⟩⟩
         · have hR:certR d c = (contE d c,d.co):=by rw [certR,if_neg (by simp [g1]),if_neg g2,if_pos h]
           exact .inr ⟨h,by rw [hR],by rw [hR]; exact hdG,Upd.refl ..⟩
       · refine ACalls.mono (certF2_ok G hdG q1 q2) fun r G' ⟨hr,hG⟩=>⟨_,hr,?_⟩
         subst hG
         have h1:=k1 (by omega)
         by_cases h:certE2 d c = 0
         · exact .inl ⟨h,.inl ⟨by omega,rfl,fun _=>h1,fun _=>h⟩⟩
         · have hR:certR d c = (certE2 d c,d.co):=by rw [certR,if_neg (by simp [g1]),if_neg g2,if_neg (by simp [h1]),if_pos h]
           exact .inr ⟨h,by rw [hR],by rw [hR]; exact hdG,Upd.refl ..⟩
       · have h1:=k1 (by omega)
         have h2:=k2 (by omega)
         refine ACalls.mono (certF3_ok G hdG q1 q2) fun r G' ⟨hr,hL,hU⟩=>⟨_,hr,?_⟩
         by_cases h:(endR d c).1 = 0
         · exact .inl ⟨h,.inr ⟨rfl,h1,h2,h,hL,hU⟩⟩
         · have hR:certR d c = endR d c:=by rw [certR,if_neg (by simp [g1]),if_neg g2,if_neg (by simp [h1]),if_neg (by simp [h2])]
           exact .inr ⟨h,by rw [hR],by rw [hR]; exact hL,hU⟩
       · omega
     · simp at hi
   subst hr
   try simp
   apply hK;clear hK K
   rcases he with ⟨h0,hS⟩ | ⟨h0,hE,hL,hU⟩
   · rcases hS with ⟨hi2,_⟩ | ⟨_,h1,h2,h3,hL,hU⟩
     · simp at hi2
     · have hR:certR d c = endR d c:=by rw [certR,if_neg (by simp [g1]),if_neg g2,if_neg (by simp [h1]),if_neg (by simp [h2])]
       exact AW_ret (end_ret rfl ⟨by rw [hR,h3,h0]; rfl,by rw [hR]; exact hL,(uH.mono (by simp):Upd H G1 FC).trans hU (fun j hj=>.inl hj)⟩)
   · exact AW_ret (end_ret rfl ⟨by rw [← hE]; rfl,hL,(uH.mono (by simp):Upd H G1 FC).trans hU (fun j hj=>.inl hj)⟩)
end Go.Proofs.YtmhaimdpfelkpaaGreatDoor
