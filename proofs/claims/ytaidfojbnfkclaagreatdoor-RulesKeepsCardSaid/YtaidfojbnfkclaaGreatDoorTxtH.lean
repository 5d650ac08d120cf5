/-
  Contracts of the program's functions (TxtH). No conditions of my own.
-/
import Derived.Test.YtaidfojbnfkclaaGreatDoorCond
import Derived.Test.YtaidfojbnfkclaaGreatDoorTxtC
import Derived.Test.YtaidfojbnfkclaaGreatDoorTxtB
import Derived.Test.YtaidfojbnfkclaaGreatDoorTxtD
import Derived.Test.YtaidfojbnfkclaaGreatDoorTxtA
set_option linter.unusedVariables false
set_option linter.unusedSimpArgs false
namespace Go.Proofs.YtaidfojbnfkclaaGreatDoor
open Go Go.Abs Go.Proofs
set_option maxRecDepth 100000
attribute [local irreducible] AEnd AW ACalls
/-- A reader as a value. -/
def rdC (s:St):List V:=[.s s.1,.i .i64 s.2]
def rdV (s:St):V:=.agg (rdC s)
@[simp] theorem rdC_len (s:St):(rdC s).length = 2:=rfl
@[simp] theorem rdC_take (s:St):(rdC s).take 2 = rdC s:=rfl
@[simp] theorem rdC_0 (s:St):(rdC s)[0]? = some (.s s.1):=rfl
@[simp] theorem rdC_1 (s:St):(rdC s)[1]? = some (.i .i64 s.2):=rfl
@[simp] theorem rdC_spl (s t:St):splice (rdC s) 0 (rdC t) = rdC t:=rfl
theorem ares_tc {P:Program} {H:AH} {ρ:Env} {a t u:Nat} {v:V} (h:aload P H t (ρ.get a) = some v):ares1 P H ρ [.tmp u,.cell a t] = some (.tup [ρ.get u,v]):=by simp [ares1,ares,h]
theorem ares_cc {P:Program} {H:AH} {ρ:Env} {a t b u:Nat} {v w:V} (h:aload P H t (ρ.get a) = some v) (h':aload P H u (ρ.get b) = some w):ares1 P H ρ [.cell a t,.cell b u] = some (.tup [v,w]):=by simp [ares1,ares,h,h']
/-- The end of a function that wrote its result's block. -/
theorem pure_end2 {H H1:AH} {n id:Nat} {o:O} (hn:H1.next = H.next + n) (ho:∀ j,j < H.next → H1.get j = H.get j) (hid:H.next ≤ id) {Q:Prop} {r:V} (hq:Q) (hl:V.lt H.next r = true):Q ∧ V.lt H.next r = true ∧ H.next ≤ (H1.set id o).next ∧ ∀ j,j < H.next → (H1.set id o).get j = H.get j :=
 ⟨hq,hl,by simp; omega,fun j hj=>by rw [AH.get_set_ne (by omega)]; exact ho j hj⟩
theorem rdFail_ok (H:AH) (s:St) (e:Int):ACalls Tryz.prog 139 [rdV s,.i .i64 e] H fun r H'=>r = rdV (rfail e s) ∧ H' = H:=by
 refine ACalls.pure (Q:=fun r=>r = rdV (rfail e s)) ⟨_,Tryz.func139,rfl,rfl⟩ ?_
 refine ACalls_body Tryz.func139 rfl rfl ?_
 repeat refine AW_seq ?_
 refine AW_reg [1,2,4] fun K hK=>?_
 simp [init_eq,V.cells,rdV]
 obtain ⟨H1,e1,hp,hp2,hn,ho⟩:=H.boxed2 (rdC s) [.s [],.i .i64 0]
 rw [e1]
 apply hK;clear hK K
 repeat refine AW_seq ?_
 refine AW_regto [1,2,4,11] ⟨15,[(1,.i .i64 e),(2,.p (some (H.next,0,0))),(4,.p (some (H.next + 1,0,0))),(11,.b (decide (¬ s.2 = 0 ∨ e = 0)))]⟩ H1 (fun K hk=>?_) ?_
 · by_cases g1:s.2 = 0
   · by_cases g2:e = 0
     · simpa [init_eq,afieldAddr,aload,hp,g1,g2] using hk
     · simpa [init_eq,afieldAddr,aload,hp,g1,g2] using hk
   · simpa [init_eq,afieldAddr,aload,hp,g1] using hk
 refine AW_cond' rfl rfl (fun hc=>?_) (fun hc=>?_)
 · have g:¬ s.2 = 0 ∨ e = 0:=by simpa using hc
   have hr:rfail e s = s:=by unfold rfail; rw [if_neg (by rintro ⟨h1,h2⟩; rcases g with g | g; exact g h1; exact h2 g)]
   repeat refine AW_seq ?_
   refine AW_reg [4] fun K hK=>?_
   simp [init_eq,aload,hp,astore,hp2,V.cells]
   apply hK;clear hK K
   refine AW_ret (end_ret (ares_cell (v:=rdV s) ?_) (pure_end2 hn ho (by omega) (by rw [hr]) rfl))
   simp [aload,AH.get_set,hn,splice,rdC,rdV]
 · have g:s.2 = 0 ∧ ¬ e = 0:=by simpa using hc
   have hr:rfail e s = ([],e):=by unfold rfail; rw [if_pos g]
   have hab:abuild Tryz.prog 145 [(1,.i .i64 e)] = some (rdV ([],e)):=by simp [abuild,afill,V.cells,splice,rdV,rdC]
   refine AW_skip ?_
   repeat refine AW_seq ?_
   refine AW_reg [4] fun K hK=>?_
   simp [init_eq,hab,astore,hp2,V.cells,rdV]
   apply hK;clear hK K
   refine AW_ret (end_ret (ares_cell (v:=rdV ([],e)) ?_) (pure_end2 hn ho (by omega) (by rw [hr]) rfl))
   simp [aload,AH.get_set,hn,splice,rdC,rdV]
theorem rdDone_ok (H:AH) (s:St):ACalls Tryz.prog 111 [rdV s] H fun r H'=>r = .i .i64 (rdone s) ∧ H' = H:=by
 refine ACalls.pure (Q:=fun r=>r = .i .i64 (rdone s)) ⟨_,Tryz.func111,rfl,rfl⟩ ?_
 refine ACalls_body Tryz.func111 rfl rfl ?_
 repeat refine AW_seq ?_
 refine AW_reg [1] fun K hK=>?_
 simp [init_eq,V.cells,rdV]
 obtain ⟨H1,e1,hp,hn,ho⟩:=H.boxed (rdC s)
 rw [e1]
 apply hK;clear hK K
 repeat refine AW_seq ?_
 refine AW_regto [1,10] ⟨13,[(1,.p (some (H.next,0,0))),(10,.b (decide (s.2 = 0 ∧ ¬ s.1 = [])))]⟩ H1 (fun K hk=>?_) ?_
 · by_cases g1:s.2 = 0
   · by_cases g2:s.1 = []
     · simpa [init_eq,afieldAddr,aload,hp,g1,g2] using hk
     · simpa [init_eq,afieldAddr,aload,hp,g1,g2] using hk
   · simpa [init_eq,afieldAddr,aload,hp,g1] using hk
 refine AW_cond' rfl rfl (fun hc=>?_) (fun hc=>?_)
 · have g:s.2 = 0 ∧ ¬ s.1 = []:=by simpa using hc
   have hr:rdone s = 32:=by unfold rdone; rw [if_pos g]
   repeat refine AW_seq ?_
   refine AW_reg [2] fun K hK=>?_
   simp [init_eq]
   apply hK;clear hK K
   exact AW_ret (end_ret rfl (pure_end hn ho (by rw [hr]; rfl) rfl))
 · have g:¬ (s.2 = 0 ∧ ¬ s.1 = []):=by simpa using hc
   have hr:rdone s = s.2:=by unfold rdone; rw [if_neg g]
   refine AW_skip ?_
   repeat refine AW_seq ?_
   refine AW_reg [2] fun K hK=>?_
   simp [init_eq,afieldAddr,aload,hp]
   apply hK;clear hK K
   exact AW_ret (end_ret rfl (pure_end hn ho (by rw [hr]; rfl) rfl))
theorem rem128 (c:Nat):aint .rem .i64 (c:Int) 128 = some (.i .i64 ((c % 128:Nat):Int)):=by
 have h:=rem_int (P:=Tryz.prog) (t:=2) (c:Int) 128 (by decide)
 rw [Int.tmod_eq_emod_of_nonneg (by omega)] at h
 exact h
def p128 (i:Nat):Nat:=128 ^ i
theorem p128_succ (i:Nat):p128 (i + 1) = p128 i * 128:=rfl
theorem p128_le {i j:Nat} (h:i ≤ j):p128 i ≤ p128 j:=pow128_le h
theorem numGo_cons' (i acc:Nat) (c:UInt8) (r:List UInt8):numGo i acc (c :: r) = if (c.toNat = 0 ∧ 0 < i) ∨ (i = 8 ∧ (128 ≤ c.toNat ∨ 4611686018427387904 < acc + c.toNat % 128 * p128 i)) then .inl 31
  else if c.toNat < 128 then .inr (acc + c.toNat % 128 * p128 i,r)
  else numGo (i + 1) (acc + c.toNat % 128 * p128 i) r:=rfl
theorem if_neg_or {α:Sort _} {p q:Prop} [Decidable p] [Decidable q] (a b:α) (h:¬ q):(if p ∨ q then a else b) = if p then a else b:=by by_cases hp:p <;> simp [hp,h]
theorem rdNum_ok (H:AH) (s:St):ACalls Tryz.prog 135 [rdV s] H fun r H'=>r = .tup [.i .i64 ((rnum s).1:Nat),rdV (rnum s).2] ∧ H' = H:=by
 refine ACalls.pure (Q:=fun r=>r = .tup [.i .i64 ((rnum s).1:Nat),rdV (rnum s).2]) ⟨_,Tryz.func135,rfl,rfl⟩ ?_
 refine ACalls_body Tryz.func135 rfl rfl ?_
 repeat refine AW_seq ?_
 refine AW_reg [1,3] fun K hK=>?_
 simp [init_eq,V.cells,rdV]
 obtain ⟨H1,e1,hp,hp2,hn,ho⟩:=H.boxed2 (rdC s) [.s [],.i .i64 0]
 rw [e1]
 apply hK;clear hK K
 have hld:aload Tryz.prog H1 145 (.p (some (H.next,0,0))) = some (rdV s):=by simp [aload,hp,rdV]
 have hst:∀ t:St,astore Tryz.prog H1 145 (.p (some (H.next + 1,0,0))) (rdV t) = some (H1.set (H.next + 1) (.cells (rdC t) 0 false 0)):=fun t=>by simp [astore,hp2,V.cells,rdV,splice,rdC]
 have hend:∀ (t:St) (n:Nat) (ρ:Env),ρ.get 2 = .i .i64 n → ρ.get 3 = .p (some (H.next + 1,0,0)) → (n,t) = rnum s → AEnd Tryz.prog Tryz.f135 (fun r H'=>r = .tup [.i .i64 ((rnum s).1:Nat),rdV (rnum s).2] ∧ V.lt H.next r = true ∧ H.next ≤ H'.next ∧ ∀ j,j < H.next → H'.get j = H.get j) .ret ρ (H1.set (H.next + 1) (.cells (rdC t) 0 false 0)):=fun t n ρ h1 h2 h3 =>
  end_ret (ares_tc (v:=rdV t) (by rw [h2]; simp [aload,AH.get_set,hn,rdV])) (pure_end2 hn ho (by omega) (by rw [h1,← h3]) (by rw [h1]; rfl))
 have hf31:∀ t:St,t.2 = 0 → rfail 31 t = ([],31):=fun t h=>by unfold rfail; rw [if_pos ⟨h,by decide⟩]
 have hf30:∀ t:St,t.2 = 0 → rfail 30 t = ([],30):=fun t h=>by unfold rfail; rw [if_pos ⟨h,by decide⟩]
 repeat refine AW_seq ?_
 refine AW_reg [1,3,10] fun K hK=>?_
 simp [init_eq,afieldAddr,aload,hp]
 apply hK;clear hK K
 refine AW_cond' rfl rfl (fun hc=>?_) (fun hc=>?_)
 · have g:¬ s.2 = 0:=by simpa using hc
   repeat refine AW_seq ?_
   refine AW_regd [2,3] pl_135_2 pe_135_2 (by kernel_rfl) (by kernel_rfl) (by decide) fun K hK=>?_
   simp [init_eq,pl_135_2,hld,hst]
   apply hK;clear hK K
   exact AW_ret (hend s 0 _ rfl rfl (by rw [rnum_err g]))
 have g:s.2 = 0:=by simpa using hc
 have hL:∀ x,numGo 0 0 s.1 = .inl x → rnum s = (0,([],x)):=fun x h=>by unfold rnum; rw [if_pos g,h]
 have hR:∀ n r,numGo 0 0 s.1 = .inr (n,r) → rnum s = (n,(r,0)):=fun n r h=>by unfold rnum; rw [if_pos g,h]
 refine AW_skip ?_
 repeat refine AW_seq ?_
 refine AW_reg [1,3,4] fun K hK=>?_
 simp [init_eq]
 apply hK;clear hK K
 repeat refine AW_seq ?_
 refine AW_reg [1,3,4,5] fun K hK=>?_
 simp [init_eq]
 apply hK;clear hK K
 repeat refine AW_seq ?_
 refine AW_reg [1,3,4,5,6] fun K hK=>?_
 simp [init_eq]
 apply hK;clear hK K
 refine AW_block ?_
 refine AW_loopx (fun i:Nat × Nat=>⟨81,[(1,.p (some (H.next,0,0))),(3,.p (some (H.next + 1,0,0))),(4,.i .i64 i.2),(5,.i .i64 ((p128 i.1:Nat):Int)),(6,.i .i64 i.1)]⟩) (fun i G=>G = H1 ∧ i.1 ≤ 8 ∧ i.1 ≤ s.1.length ∧ i.2 < p128 i.1 ∧ numGo 0 0 s.1 = numGo i.1 i.2 (s.1.drop i.1)) (fun i=>9 - i.1) (0,0) (by simp [p128]) ⟨rfl,by decide,by simp,by decide,by simp⟩ fun i G hM=>?_
 obtain ⟨i,n⟩:=i
 obtain ⟨rfl,hi8,hil,hn8,hgo⟩:=hM
 simp only at hi8 hil hn8 hgo
 have hpw:p128 i ≤ 72057594037927936:=p128_le hi8
 repeat refine AW_seq ?_
 refine AW_reg [1,3,4,5,6,13] fun K hK=>?_
 simp [init_eq,show (i:Int) < 9 by omega]
 apply hK;clear hK K
 refine AW_condT rfl ?_
 refine AW_skip ?_
 repeat refine AW_seq ?_
 refine AW_block ?_
 repeat refine AW_seq ?_
 refine AW_reg [1,3,4,5,6,20] fun K hK=>?_
 simp [init_eq,afieldAddr,aload,hp,alen]
 apply hK;clear hK K
 refine AW_cond' rfl rfl (fun hc=>?_) (fun hc=>?_)
 · have he : i = s.1.length := by have : (i : Int) = s.1.length := by simpa using hc
                                  omega
   have hx:numGo 0 0 s.1 = .inl 30:=by rw [hgo,he,List.drop_length]; rfl
   repeat refine AW_seq ?_
   refine AW_reg [2,3] fun K hK=>?_
   simp [init_eq,hld]
   refine ACalls.mono (rdFail_ok ..) fun r G1 ⟨hr,e⟩=>?_
   subst hr e
   simp [hst]
   apply hK;clear hK K
   exact AW_ret (hend _ 0 _ rfl rfl (by rw [hL _ hx,hf30 s g]))
 have he : i < s.1.length := by have : ¬ (i : Int) = s.1.length := by simpa using hc
                                omega
 clear hc
 have hdr:s.1.drop i = s.1[i] :: s.1.drop (i + 1):=List.drop_eq_getElem_cons he
 have hix:aindex Tryz.prog 9 (.s s.1) (.i .i64 i) = some (.i .u8 (s.1[i].toNat)):=by simp [aindex,he]
 have h256:=s.1[i].toNat_lt
 generalize s.1[i] = c at *
 rw [hdr,numGo_cons'] at hgo
 obtain ⟨d,hd,hrem⟩:∃ d:Nat,d = c.toNat % 128 ∧ aint .rem .i64 (c.toNat:Int) 128 = some (.i .i64 (d:Int)):=⟨_,rfl,rem128 _⟩
 rw [← hd] at hgo
 refine AW_skip ?_
 repeat refine AW_seq ?_
 refine AW_reg [1,3,4,5,6,7] fun K hK=>?_
 simp [init_eq,afieldAddr,aload,hp,hix,conv_int,wrap_id (x:=(c.toNat:Int)) (by omega) (by omega),hrem]
 apply hK;clear hK K
 repeat refine AW_seq ?_
 refine AW_regto [1,3,4,5,6,7,49] ⟨81,[(1,.p (some (H.next,0,0))),(3,.p (some (H.next + 1,0,0))),(4,.i .i64 n),(5,.i .i64 ((p128 i:Nat):Int)),(6,.i .i64 i),(7,.i .i64 (d:Int)),(49,.b (decide (i = 8 ∧ (128 ≤ c.toNat ∨ 4611686018427387904 < n + d * p128 i))))]⟩ G (fun K hk=>?_) ?_
 · by_cases g1:i = 8
   · subst g1
     have e8:p128 8 = 72057594037927936:=by decide
     have hix8:aindex Tryz.prog 9 (.s s.1) (.i .i64 8) = some (.i .u8 (c.toNat)):=hix
     by_cases g2:64 < d
     · have g2':(64:Int) < d:=by omega
       have g3:4611686018427387904 < n + d * p128 8:=by rw [e8]; omega
       simpa [init_eq,g2',g3] using hk
     · have g2':¬ (64:Int) < d:=by omega
       have g6:((128:Int) ≤ c.toNat) = (128 ≤ c.toNat):=propext (by omega)
       by_cases g4:d = 64
       · have g4':(d:Int) = 64:=by omega
         by_cases g5:0 < n
         · have g3:4611686018427387904 < n + d * p128 8:=by rw [e8]; omega
           have g5':(0:Int) < n:=by omega
           simpa [init_eq,g2',g4',g3,g5,g5'] using hk
         · have g3:¬ 4611686018427387904 < n + d * p128 8:=by rw [e8]; omega
           have g5':¬ (0:Int) < n:=by omega
           simpa [init_eq,g2',g4',g3,g5,g5',afieldAddr,aload,hp,hix8,g6] using hk
       · have g4':¬ (d:Int) = 64:=by omega
         have g3:¬ 4611686018427387904 < n + d * p128 8:=by rw [e8]; omega
         simpa [init_eq,g2',g4,g4',g3,afieldAddr,aload,hp,hix8,g6] using hk
   · have g1':¬ (i:Int) = 8:=by omega
     simpa [init_eq,g1,g1'] using hk
 refine AW_cond' rfl rfl (fun hc=>?_) (fun hc=>?_)
 · have g1:i = 8 ∧ (128 ≤ c.toNat ∨ 4611686018427387904 < n + d * p128 i):=by simpa using hc
   rw [if_pos (.inr g1)] at hgo
   repeat refine AW_seq ?_
   refine AW_reg [2,3] fun K hK=>?_
   simp [init_eq,hld]
   refine ACalls.mono (rdFail_ok ..) fun r G1 ⟨hr,e⟩=>?_
   subst hr e
   simp [hst]
   apply hK;clear hK K
   exact AW_ret (hend _ 0 _ rfl rfl (by rw [hL _ hgo,hf31 s g]))
 have g1:¬ (i = 8 ∧ (128 ≤ c.toNat ∨ 4611686018427387904 < n + d * p128 i)):=by simpa using hc
 clear hc
 have hmx:d * p128 i ≤ 127 * p128 i:=Nat.mul_le_mul_right _ (by omega)
 have hcst:((d:Int) * ((p128 i:Nat):Int)) = ((d * p128 i:Nat):Int):=by rw [Int.natCast_mul]
 have hm0:d * p128 i = 0 ↔ d = 0:=by
  have:0 < p128 i:=pow128_pos i
  rw [Nat.mul_eq_zero]; omega
 have hm9:i < 8 → n + d * p128 i < p128 (i + 1):=fun _=>by rw [p128_succ]; omega
 have hp9:i < 8 → p128 i * 128 ≤ 72057594037927936:=fun h=>by rw [← p128_succ]; exact p128_le (j:=8) (by omega)
 have hm62:i = 8 → n + d * p128 i ≤ 4611686018427387904:=fun h=>by
  apply Classical.byContradiction; intro hn; exact g1 ⟨h,.inr (by omega)⟩
 have h128:i = 8 → c.toNat < 128:=fun h=>by
  apply Classical.byContradiction; intro hn; exact g1 ⟨h,.inl (by omega)⟩
 generalize hm:d * p128 i = m at *
 refine AW_skip ?_
 repeat refine AW_seq ?_
 refine AW_reg [1,3,4,5,6,7] fun K hK=>?_
 simp [init_eq,hcst,wrap_id (x:=(m:Int)) (by omega) (by omega),wrap_id (x:=(n:Int) + m) (by omega) (by omega)]
 apply hK;clear hK K
 have g6:((c.toNat:Int) < 128) = (c.toNat < 128):=propext (by omega)
 repeat refine AW_seq ?_
 refine AW_reg [1,3,4,5,6,7,61] fun K hK=>?_
 simp [init_eq,afieldAddr,aload,hp,hix,g6]
 apply hK;clear hK K
 rw [if_neg_or _ _ g1] at hgo
 refine AW_cond' rfl rfl (fun hc=>?_) (fun hc=>?_)
 · have g2:c.toNat < 128:=by simpa using hc
   have hdc:d = c.toNat:=by omega
   repeat refine AW_seq ?_
   refine AW_regto [1,3,4,6,67] ⟨81,[(1,.p (some (H.next,0,0))),(3,.p (some (H.next + 1,0,0))),(4,.i .i64 ((n:Int) + m)),(6,.i .i64 i),(67,.b (decide (c.toNat = 0 ∧ 0 < i)))]⟩ G (fun K hk=>?_) ?_
   · by_cases g3:d = 0
     · have g3':c.toNat = 0:=by omega
       have g4:((0:Int) < i) = (0 < i):=propext (by omega)
       simpa [init_eq,g3,g3',g4] using hk
     · have g3':¬ c.toNat = 0:=by omega
       simpa [init_eq,g3',g3] using hk
   refine AW_cond' rfl rfl (fun hc=>?_) (fun hc=>?_)
   · have g3:c.toNat = 0 ∧ 0 < i:=by simpa using hc
     rw [if_pos g3] at hgo
     repeat refine AW_seq ?_
     refine AW_reg [2,3] fun K hK=>?_
     simp [init_eq,hld]
     refine ACalls.mono (rdFail_ok ..) fun r G1 ⟨hr,e⟩=>?_
     subst hr e
     simp [hst]
     apply hK;clear hK K
     exact AW_ret (hend _ 0 _ rfl rfl (by rw [hL _ hgo,hf31 s g]))
   · have g3:¬ (c.toNat = 0 ∧ 0 < i):=by simpa using hc
     rw [if_neg g3,if_pos g2] at hgo
     have hab:abuild Tryz.prog 145 [(0,.s (s.1.drop (i + 1)))] = some (rdV (s.1.drop (i + 1),0)):=by simp [abuild,afill,V.cells,splice,rdV,rdC]
     have hsl:aslice Tryz.prog G 9 (.s s.1) (some (.i .i64 ((i:Int) + 1))) none none = some (.s (s.1.drop (i + 1))):=by
      have h9:(0:Int) ≤ (i:Int) + 1 ∧ (i:Int) + 1 ≤ s.1.length:=by omega
      have h8:((i:Int) + 1).toNat = i + 1:=by omega
      simp [aslice,abound,h9,h8]
     refine AW_skip ?_
     repeat refine AW_seq ?_
     refine AW_regd [2,3] pl_135_17 pe_135_17 (by kernel_rfl) (by kernel_rfl) (by decide) fun K hK=>?_
     simp [init_eq,pl_135_17,afieldAddr,aload,hp,wrap_id (x:=(i:Int) + 1) (by omega) (by omega),hsl,hab,hst]
     apply hK;clear hK K
     exact AW_ret (hend _ (n + m) _ (by simp) rfl (by rw [hR _ _ hgo]))
 · have g2:¬ c.toNat < 128:=by simpa using hc
   have hi:i < 8:=by
    apply Classical.byContradiction; intro hn; exact g2 (h128 (by omega))
   have hp9:=hp9 hi
   have hm9:=hm9 hi
   rw [if_neg (by omega),if_neg g2] at hgo
   refine AW_skip ?_
   refine AW_reg [1,3,4,5,6] fun K hK=>?_
   simp [init_eq,wrap_id (x:=((p128 i:Nat):Int) * 128) (by omega) (by omega)]
   apply hK;clear hK K
   refine bend (rend ?_)
   refine AW_reg [1,3,4,5,6] fun K hK=>?_
   simp [init_eq,wrap_id (x:=(i:Int) + 1) (by omega) (by omega)]
   apply hK;clear hK K
   exact rend ⟨(i + 1,n + m),by simp [p128_succ],⟨rfl,by simp only; omega,by simp only; omega,hm9,hgo⟩,by simp only; omega⟩
end Go.Proofs.YtaidfojbnfkclaaGreatDoor
set_option linter.unusedVariables false
set_option linter.unusedSimpArgs false
namespace Go.Proofs.YtaidfojbnfkclaaGreatDoor
open Go Go.Abs Go.Proofs
set_option maxRecDepth 100000
attribute [local irreducible] AEnd AW ACalls
/-- A fresh block that is written at once. -/
theorem AH.boxedS (H:AH) (z l:List V):∃ H1,(H.new (.cells z 0 false 0)).set H.next (.cells l 0 false 0) = H1 ∧ H1.get H.next = some (.cells l 0 false 0) ∧ H1.next = H.next + 1 ∧ ∀ j,j < H.next → H1.get j = H.get j :=
 ⟨_,rfl,by rw [AH.get_set_same (by simp)],by simp,fun j hj=>by rw [AH.get_set_ne (by omega),AH.get_new,if_neg (by omega)]⟩
theorem rdC_splz (t:St):splice [V.s [],V.i .i64 0] 0 (rdC t) = rdC t:=rfl
theorem rdMost_ok (H:AH) (s:St) (m:Nat):ACalls Tryz.prog 149 [rdV s,.i .i64 m] H fun r H'=>r = .tup [.i .i64 ((rmost m s).1:Nat),rdV (rmost m s).2] ∧ H' = H:=by
 refine ACalls.pure (Q:=fun r=>r = .tup [.i .i64 ((rmost m s).1:Nat),rdV (rmost m s).2]) ⟨_,Tryz.func149,rfl,rfl⟩ ?_
 refine ACalls_body Tryz.func149 rfl rfl ?_
 repeat refine AW_seq ?_
 refine AW_reg [1,2,5] fun K hK=>?_
 simp [init_eq,V.cells,rdV]
 obtain ⟨H1,e1,hp,hp2,hn,ho⟩:=H.boxed2 (rdC s) [.s [],.i .i64 0]
 rw [e1]
 apply hK;clear hK K
 have hld:aload Tryz.prog H1 145 (.p (some (H.next,0,0))) = some (rdV s):=by simp [aload,hp,rdV]
 repeat refine AW_seq ?_
 refine AW_reg [1,5,6,7] fun K hK=>?_
 simp [init_eq,hld]
 refine ACalls.mono (rdNum_ok ..) fun r H' ⟨hr,e⟩=>?_
 subst hr e
 obtain ⟨H2,e2,hp3,hn2,ho2⟩:=AH.boxedS H' [.s [],.i .i64 0] (rdC (rnum s).2)
 have hpx:H2.get (H.next + 1) = some (.cells [.s [],.i .i64 0] 0 false 0):=by rw [ho2 _ (by omega)]; exact hp2
 have hoo:∀ j,j < H.next → H2.get j = H.get j:=fun j hj=>by rw [ho2 j (by omega),ho j hj]
 have hnn:H2.next = H.next + 3:=by omega
 have hst:∀ t:St,astore Tryz.prog H2 145 (.p (some (H.next + 1,0,0))) (rdV t) = some (H2.set (H.next + 1) (.cells (rdC t) 0 false 0)):=fun t=>by simp [astore,hpx,V.cells,rdV,rdC_splz]
 have hl2:aload Tryz.prog H2 145 (.p (some (H'.next,0,0))) = some (rdV (rnum s).2):=by simp [aload,hp3,rdV]
 have hend:∀ (t:St) (n:Nat) (ρ:Env),ρ.get 4 = .i .i64 n → ρ.get 5 = .p (some (H.next + 1,0,0)) → (n,t) = rmost m s → AEnd Tryz.prog Tryz.f149 (fun r H'=>r = .tup [.i .i64 ((rmost m s).1:Nat),rdV (rmost m s).2] ∧ V.lt H.next r = true ∧ H.next ≤ H'.next ∧ ∀ j,j < H.next → H'.get j = H.get j) .ret ρ (H2.set (H.next + 1) (.cells (rdC t) 0 false 0)):=fun t n ρ h1 h2 h3 =>
  end_ret (ares_tc (v:=rdV t) (by rw [h2]; simp [aload,AH.get_set,hnn,rdV])) (pure_end2 hnn hoo (by omega) (by rw [h1,← h3]) (by rw [h1]; rfl))
 simp [V.cells,astore,rdV,AH.get_new,rdC_splz,e2]
 apply hK;clear hK K
 repeat refine AW_seq ?_
 refine AW_reg [5,6,7,15] fun K hK=>?_
 simp [init_eq]
 apply hK;clear hK K
 refine AW_cond' rfl rfl (fun hc=>?_) (fun hc=>?_)
 · have g:m < (rnum s).1:=by simpa using hc
   repeat refine AW_seq ?_
   refine AW_reg [4,5] fun K hK=>?_
   simp [init_eq,hl2]
   refine ACalls.mono (rdFail_ok ..) fun r G1 ⟨hr,e⟩=>?_
   subst hr e
   simp [hst]
   apply hK;clear hK K
   exact AW_ret (hend _ 0 _ rfl rfl (by rw [rmost,if_pos g]))
 · have g:¬ m < (rnum s).1:=by simpa using hc
   refine AW_skip ?_
   repeat refine AW_seq ?_
   refine AW_regd [4,5] pl_149_4 pe_149_4 (by kernel_rfl) (by kernel_rfl) (by decide) fun K hK=>?_
   simp [init_eq,pl_149_4,hl2,hst]
   apply hK;clear hK K
   exact AW_ret (hend _ _ _ rfl rfl (by rw [rmost,if_neg g]))
theorem rdSmall_ok (H:AH) (s:St) (m:Nat) (hm:m ≤ 9223372036854775807):ACalls Tryz.prog 137 [rdV s,.i .i64 m] H fun r H'=>r = .tup [.i .i64 ((rmost m s).1:Nat),rdV (rmost m s).2] ∧ H' = H:=by
 refine ACalls.pure (Q:=fun r=>r = .tup [.i .i64 ((rmost m s).1:Nat),rdV (rmost m s).2]) ⟨_,Tryz.func137,rfl,rfl⟩ ?_
 refine ACalls_body Tryz.func137 rfl rfl ?_
 repeat refine AW_seq ?_
 refine AW_reg [1,2,5] fun K hK=>?_
 simp [init_eq,V.cells,rdV]
 obtain ⟨H1,e1,hp,hp2,hn,ho⟩:=H.boxed2 (rdC s) [.s [],.i .i64 0]
 rw [e1]
 apply hK;clear hK K
 have hld:aload Tryz.prog H1 145 (.p (some (H.next,0,0))) = some (rdV s):=by simp [aload,hp,rdV]
 repeat refine AW_seq ?_
 refine AW_reg [5,6,7] fun K hK=>?_
 simp [init_eq,hld]
 refine ACalls.mono (rdMost_ok ..) fun r H' ⟨hr,e⟩=>?_
 subst hr e
 obtain ⟨H2,e2,hp3,hn2,ho2⟩:=AH.boxedS H' [.s [],.i .i64 0] (rdC (rmost m s).2)
 have hpx:H2.get (H.next + 1) = some (.cells [.s [],.i .i64 0] 0 false 0):=by rw [ho2 _ (by omega)]; exact hp2
 have hoo:∀ j,j < H.next → H2.get j = H.get j:=fun j hj=>by rw [ho2 j (by omega),ho j hj]
 have hnn:H2.next = H.next + 3:=by omega
 have hst:∀ t:St,astore Tryz.prog H2 145 (.p (some (H.next + 1,0,0))) (rdV t) = some (H2.set (H.next + 1) (.cells (rdC t) 0 false 0)):=fun t=>by simp [astore,hpx,V.cells,rdV,rdC_splz]
 have hl2:aload Tryz.prog H2 145 (.p (some (H'.next,0,0))) = some (rdV (rmost m s).2):=by simp [aload,hp3,rdV]
 simp [V.cells,astore,rdV,AH.get_new,rdC_splz,e2]
 apply hK;clear hK K
 repeat refine AW_seq ?_
 refine AW_regd [4,5] pl_137_2 pe_137_2 (by kernel_rfl) (by kernel_rfl) (by decide) fun K hK=>?_
 simp [init_eq,pl_137_2,hl2,hst]
 apply hK;clear hK K
 exact AW_ret (end_ret (ares_tc (v:=rdV (rmost m s).2) (by simp [aload,AH.get_set,hnn,rdV])) (pure_end2 hnn hoo (by omega) rfl rfl))
theorem rdText_ok (H:AH) (s:St):ACalls Tryz.prog 150 [rdV s] H fun r H'=>r = .tup [.s (rtext s).1,rdV (rtext s).2] ∧ H' = H:=by
 refine ACalls.pure (Q:=fun r=>r = .tup [.s (rtext s).1,rdV (rtext s).2]) ⟨_,Tryz.func150,rfl,rfl⟩ ?_
 refine ACalls_body Tryz.func150 rfl rfl ?_
 repeat refine AW_seq ?_
 refine AW_reg [1,3] fun K hK=>?_
 simp [init_eq,V.cells,rdV]
 obtain ⟨H1,e1,hp,hp2,hn,ho⟩:=H.boxed2 (rdC s) [.s [],.i .i64 0]
 rw [e1]
 apply hK;clear hK K
 have hld:aload Tryz.prog H1 145 (.p (some (H.next,0,0))) = some (rdV s):=by simp [aload,hp,rdV]
 repeat refine AW_seq ?_
 refine AW_reg [3,4,5] fun K hK=>?_
 simp [init_eq,hld]
 refine ACalls.mono (rdMost_ok H1 s 65536) fun r H' ⟨hr,e⟩=>?_
 subst hr e
 have hrt:rtext s = if (rmost 65536 s).2.1.length < (rmost 65536 s).1 then ([],rfail 30 (rmost 65536 s).2) else ((rmost 65536 s).2.1.take (rmost 65536 s).1,((rmost 65536 s).2.1.drop (rmost 65536 s).1,(rmost 65536 s).2.2)):=rfl
 have herr:(rmost 65536 s).2.2 ≠ 0 → (rmost 65536 s).1 = 0:=fun h=>by
  unfold rmost at h ⊢
  split
  · rfl
  · rename_i hm
    rw [if_neg hm] at h
    unfold rnum at h ⊢
    split
    · rename_i h0
      rw [if_pos h0] at h
      split
      · rfl
      · rename_i e; rw [e] at h; exact absurd rfl h
    · rfl
 generalize rmost 65536 s = x at *
 obtain ⟨n,t⟩:=x
 simp only at herr hrt
 obtain ⟨H2,e2,hp3,hn2,ho2⟩:=AH.boxedS H' [.s [],.i .i64 0] (rdC t)
 have hpx:H2.get (H.next + 1) = some (.cells [.s [],.i .i64 0] 0 false 0):=by rw [ho2 _ (by omega)]; exact hp2
 have hoo:∀ j,j < H.next → H2.get j = H.get j:=fun j hj=>by rw [ho2 j (by omega),ho j hj]
 have hnn:H2.next = H.next + 3:=by omega
 have hst:∀ t:St,astore Tryz.prog H2 145 (.p (some (H.next + 1,0,0))) (rdV t) = some (H2.set (H.next + 1) (.cells (rdC t) 0 false 0)):=fun t=>by simp [astore,hpx,V.cells,rdV,rdC_splz]
 have hl2:aload Tryz.prog H2 145 (.p (some (H'.next,0,0))) = some (rdV t):=by simp [aload,hp3,rdV]
 have hend:∀ (u:St) (l:List UInt8) (ρ:Env),ρ.get 2 = .s l → ρ.get 3 = .p (some (H.next + 1,0,0)) → rtext s = (l,u) → AEnd Tryz.prog Tryz.f150 (fun r H'=>r = .tup [.s (rtext s).1,rdV (rtext s).2] ∧ V.lt H.next r = true ∧ H.next ≤ H'.next ∧ ∀ j,j < H.next → H'.get j = H.get j) .ret ρ (H2.set (H.next + 1) (.cells (rdC u) 0 false 0)):=fun u l ρ h1 h2 h3 =>
  end_ret (ares_tc (v:=rdV u) (by rw [h2]; simp [aload,AH.get_set,hnn,rdV])) (pure_end2 hnn hoo (by omega) (by rw [h1,h3]) (by rw [h1]; rfl))
 simp [V.cells,astore,rdV,AH.get_new,rdC_splz,e2]
 apply hK;clear hK K
 repeat refine AW_seq ?_
 refine AW_reg [3,4,5,13] fun K hK=>?_
 simp [init_eq,afieldAddr,aload,hp3]
 apply hK;clear hK K
 refine AW_cond' rfl rfl (fun hc=>?_) (fun hc=>?_)
 · have g:¬ t.2 = 0:=by simpa using hc
   have hn0:=herr g
   repeat refine AW_seq ?_
   refine AW_regd [2,3] pl_150_3 pe_150_3 (by kernel_rfl) (by kernel_rfl) (by decide) fun K hK=>?_
   simp [init_eq,pl_150_3,hl2,hst]
   apply hK;clear hK K
   exact AW_ret (hend t [] _ rfl rfl (by rw [hrt,hn0,if_neg (by omega)]; simp))
 · have g:t.2 = 0:=by simpa using hc
   refine AW_skip ?_
   repeat refine AW_seq ?_
   refine AW_reg [3,4,5,19] fun K hK=>?_
   simp [init_eq,afieldAddr,aload,hp3,alen]
   apply hK;clear hK K
   refine AW_cond' rfl rfl (fun hc=>?_) (fun hc=>?_)
   · have g2:t.1.length < n:=by simpa using hc
     repeat refine AW_seq ?_
     refine AW_reg [2,3] fun K hK=>?_
     simp [init_eq,hl2]
     refine ACalls.mono (rdFail_ok ..) fun r G1 ⟨hr,e⟩=>?_
     subst hr e
     simp [hst]
     apply hK;clear hK K
     exact AW_ret (hend _ [] _ rfl rfl (by rw [hrt,if_pos g2]))
   · have g2:¬ t.1.length < n:=by simpa using hc
     have hab:abuild Tryz.prog 145 [(0,.s (t.1.drop n))] = some (rdV (t.1.drop n,0)):=by simp [abuild,afill,V.cells,splice,rdV,rdC]
     have h9:(n:Int) ≤ t.1.length:=by omega
     have hs1:aslice Tryz.prog H2 9 (.s t.1) none (some (.i .i64 n)) none = some (.s (t.1.take n)):=by simp [aslice,abound,h9]
     have hs2:aslice Tryz.prog H2 9 (.s t.1) (some (.i .i64 n)) none none = some (.s (t.1.drop n)):=by simp [aslice,abound,h9]
     refine AW_skip ?_
     repeat refine AW_seq ?_
     refine AW_regd [2,3] pl_150_6 pe_150_6 (by kernel_rfl) (by kernel_rfl) (by decide) fun K hK=>?_
     simp [init_eq,pl_150_6,afieldAddr,aload,hp3,hs1,hs2,hab,hst]
     apply hK;clear hK K
     exact AW_ret (hend _ _ _ rfl rfl (by rw [hrt,if_neg g2,g]))
end Go.Proofs.YtaidfojbnfkclaaGreatDoor
set_option linter.unusedVariables false
set_option linter.unusedSimpArgs false
namespace Go.Proofs.YtaidfojbnfkclaaGreatDoor
open Go Go.Abs Go.Proofs
set_option maxRecDepth 100000
attribute [local irreducible] AEnd AW ACalls
theorem rdNext_ok (H:AH) (s:St) (m:Nat):ACalls Tryz.prog 148 [rdV s,.i .i64 m] H fun r H'=>r = .tup [.i .i64 ((rnext m s).1:Nat),rdV (rnext m s).2] ∧ H' = H:=by
 refine ACalls.pure (Q:=fun r=>r = .tup [.i .i64 ((rnext m s).1:Nat),rdV (rnext m s).2]) ⟨_,Tryz.func148,rfl,rfl⟩ ?_
 refine ACalls_body Tryz.func148 rfl rfl ?_
 repeat refine AW_seq ?_
 refine AW_reg [1,2,5] fun K hK=>?_
 simp [init_eq,V.cells,rdV]
 obtain ⟨H1,e1,hp,hp2,hn,ho⟩:=H.boxed2 (rdC s) [.s [],.i .i64 0]
 rw [e1]
 apply hK;clear hK K
 have hld:aload Tryz.prog H1 145 (.p (some (H.next,0,0))) = some (rdV s):=by simp [aload,hp,rdV]
 repeat refine AW_seq ?_
 refine AW_reg [1,5,6,7] fun K hK=>?_
 simp [init_eq,hld]
 refine ACalls.mono (rdNum_ok ..) fun r H' ⟨hr,e⟩=>?_
 subst hr e
 obtain ⟨H2,e2,hp3,hn2,ho2⟩:=AH.boxedS H' [.s [],.i .i64 0] (rdC (rnum s).2)
 have hpx:H2.get (H.next + 1) = some (.cells [.s [],.i .i64 0] 0 false 0):=by rw [ho2 _ (by omega)]; exact hp2
 have hoo:∀ j,j < H.next → H2.get j = H.get j:=fun j hj=>by rw [ho2 j (by omega),ho j hj]
 have hnn:H2.next = H.next + 3:=by omega
 have hst:∀ t:St,astore Tryz.prog H2 145 (.p (some (H.next + 1,0,0))) (rdV t) = some (H2.set (H.next + 1) (.cells (rdC t) 0 false 0)):=fun t=>by simp [astore,hpx,V.cells,rdV,rdC_splz]
 have hl2:aload Tryz.prog H2 145 (.p (some (H'.next,0,0))) = some (rdV (rnum s).2):=by simp [aload,hp3,rdV]
 have hend:∀ (t:St) (n:Nat) (ρ:Env),ρ.get 4 = .i .i64 n → ρ.get 5 = .p (some (H.next + 1,0,0)) → (n,t) = rnext m s → AEnd Tryz.prog Tryz.f148 (fun r H'=>r = .tup [.i .i64 ((rnext m s).1:Nat),rdV (rnext m s).2] ∧ V.lt H.next r = true ∧ H.next ≤ H'.next ∧ ∀ j,j < H.next → H'.get j = H.get j) .ret ρ (H2.set (H.next + 1) (.cells (rdC t) 0 false 0)):=fun t n ρ h1 h2 h3 =>
  end_ret (ares_tc (v:=rdV t) (by rw [h2]; simp [aload,AH.get_set,hnn,rdV])) (pure_end2 hnn hoo (by omega) (by rw [h1,← h3]) (by rw [h1]; rfl))
 simp [V.cells,astore,rdV,AH.get_new,rdC_splz,e2]
 apply hK;clear hK K
 repeat refine AW_seq ?_
 refine AW_reg [5,6,7,15] fun K hK=>?_
 simp [init_eq]
 apply hK;clear hK K
 refine AW_cond' rfl rfl (fun hc=>?_) (fun hc=>?_)
 · have g:m < (rnum s).1:=by simpa using hc
   repeat refine AW_seq ?_
   refine AW_reg [4,5] fun K hK=>?_
   simp [init_eq,hl2]
   refine ACalls.mono (rdFail_ok ..) fun r G1 ⟨hr,e⟩=>?_
   subst hr e
   simp [hst]
   apply hK;clear hK K
   exact AW_ret (hend _ 0 _ rfl rfl (by rw [rnext,if_pos g]))
 · have g:¬ m < (rnum s).1:=by simpa using hc
   refine AW_skip ?_
   repeat refine AW_seq ?_
   refine AW_regd [4,5] pl_148_4 pe_148_4 (by kernel_rfl) (by kernel_rfl) (by decide) fun K hK=>?_
   simp [init_eq,pl_148_4,hl2,hst]
   apply hK;clear hK K
   exact AW_ret (hend _ _ _ rfl rfl (by rw [rnext,if_neg g]))
theorem rnext_le (m:Nat) (s:St):(rnext m s).1 ≤ m:=by
 unfold rnext; split
 · simp
 · rename_i h; omega
theorem u32_nat {n:Nat} (h:n < 4294967296):V.i .u32 (n:Int) = u32 (BitVec.ofNat 32 n):=by
 simp only [u32,BitVec.toNat_ofNat]
 rw [Nat.mod_eq_of_lt (by omega)]
theorem spl_c0 (k b v r h a:Int) (s c:BitVec 32) (x:Int):splice (Cert.cells ⟨k,b,v,r,h,a,s,c⟩) 0 [.i .i64 x] = Cert.cells ⟨x,b,v,r,h,a,s,c⟩:=rfl
theorem spl_c1 (k b v r h a:Int) (s c:BitVec 32) (x:Int):splice (Cert.cells ⟨k,b,v,r,h,a,s,c⟩) 1 [.i .i64 x] = Cert.cells ⟨k,x,v,r,h,a,s,c⟩:=rfl
theorem spl_c2 (k b v r h a:Int) (s c:BitVec 32) (x:Int):splice (Cert.cells ⟨k,b,v,r,h,a,s,c⟩) 2 [.i .i64 x] = Cert.cells ⟨k,b,x,r,h,a,s,c⟩:=rfl
theorem spl_c3 (k b v r h a:Int) (s c:BitVec 32) (x:Int):splice (Cert.cells ⟨k,b,v,r,h,a,s,c⟩) 3 [.i .i64 x] = Cert.cells ⟨k,b,v,x,h,a,s,c⟩:=rfl
theorem spl_c4 (k b v r h a:Int) (s c:BitVec 32) (x:Int):splice (Cert.cells ⟨k,b,v,r,h,a,s,c⟩) 4 [.i .i64 x] = Cert.cells ⟨k,b,v,r,x,a,s,c⟩:=rfl
theorem spl_c5 (k b v r h a:Int) (s c:BitVec 32) (x:Int):splice (Cert.cells ⟨k,b,v,r,h,a,s,c⟩) 5 [.i .i64 x] = Cert.cells ⟨k,b,v,r,h,x,s,c⟩:=rfl
theorem spl_c6 (k b v r h a:Int) (s c:BitVec 32) (x:BitVec 32):splice (Cert.cells ⟨k,b,v,r,h,a,s,c⟩) 6 [u32 x] = Cert.cells ⟨k,b,v,r,h,a,x,c⟩:=rfl
theorem spl_c7 (k b v r h a:Int) (s c:BitVec 32) (x:BitVec 32):splice (Cert.cells ⟨k,b,v,r,h,a,s,c⟩) 7 [u32 x] = Cert.cells ⟨k,b,v,r,h,a,s,x⟩:=rfl
/-- The blocks while a certificate is read. -/
structure RTC (H G:AH) (t:St) (c:Cert):Prop where
 nx:G.next = H.next + 4
 old:∀ j,j < H.next → G.get j = H.get j
 rd:G.get H.next = some (.cells (rdC t) 0 false 0)
 r1:G.get (H.next + 1) = some (.cells Cert.zero.cells 0 false 0)
 r2:G.get (H.next + 2) = some (.cells (rdC ([],0)) 0 false 0)
 c:G.get (H.next + 3) = some (.cells c.cells 0 false 0)
theorem RTC.put {H G:AH} {t:St} {c:Cert} (h:RTC H G t c) (t':St) (c':Cert):RTC H ((G.set (H.next + 3) (.cells c'.cells 0 false 0)).set H.next (.cells (rdC t') 0 false 0)) t' c':=by
 have hn:=h.nx
 exact ⟨by simp; exact h.nx,fun j hj=>by rw [AH.get_set_ne (by omega),AH.get_set_ne (by omega)]; exact h.old j hj,by rw [AH.get_set_same (by simp only [AH.next_set]; omega)],
  by rw [AH.get_set_ne (by omega),AH.get_set_ne (by omega)]; exact h.r1,by rw [AH.get_set_ne (by omega),AH.get_set_ne (by omega)]; exact h.r2,by rw [AH.get_set_ne (by omega),AH.get_set_same (by omega)]⟩
theorem RTC.putR {H G:AH} {t:St} {c:Cert} (h:RTC H G t c) (t':St):RTC H (G.set H.next (.cells (rdC t') 0 false 0)) t' c:=by
 have hn:=h.nx
 exact ⟨by simp; exact h.nx,fun j hj=>by rw [AH.get_set_ne (by omega)]; exact h.old j hj,by rw [AH.get_set_same (by omega)],
  by rw [AH.get_set_ne (by omega)]; exact h.r1,by rw [AH.get_set_ne (by omega)]; exact h.r2,by rw [AH.get_set_ne (by omega)]; exact h.c⟩
theorem RTC.putC {H G:AH} {t:St} {c:Cert} (h:RTC H G t c) (c':Cert):RTC H (G.set (H.next + 3) (.cells c'.cells 0 false 0)) t c':=by
 have hn:=h.nx
 exact ⟨by simp; exact h.nx,fun j hj=>by rw [AH.get_set_ne (by omega)]; exact h.old j hj,by rw [AH.get_set_ne (by omega)]; exact h.rd,
  by rw [AH.get_set_ne (by omega)]; exact h.r1,by rw [AH.get_set_ne (by omega)]; exact h.r2,by rw [AH.get_set_same (by omega)]⟩
theorem rdC_spl2 (t u:St):splice (rdC t) 0 (rdC u) = rdC u:=rfl
theorem rdCert_ok (H:AH) (s:St):ACalls Tryz.prog 136 [rdV s] H fun r H'=>r = .tup [.agg (rtakeCert s).1.cells,rdV (rtakeCert s).2] ∧ H' = H:=by
 refine ACalls.pure (Q:=fun r=>r = .tup [.agg (rtakeCert s).1.cells,rdV (rtakeCert s).2]) ⟨_,Tryz.func136,rfl,rfl⟩ ?_
 refine ACalls_body Tryz.func136 rfl rfl ?_
 have hz:abuild Tryz.prog 24 [] = some (.agg Cert.zero.cells):=by first | (simp [abuild,afill]; done) | (simp [abuild,afill]; rfl)
 repeat refine AW_seq ?_
 refine AW_reg [1,2,3] fun K hK=>?_
 simp [init_eq,V.cells,rdV]
 apply hK;clear hK K
 obtain ⟨H1,e1,hp,hp2,hp3,hn,ho⟩:=H.boxed3 (rdC s) Cert.zero.cells (rdC ([],0))
 show AThen _ _ _ _ (((H.new (O.cells (rdC s) 0 false 0)).new (O.cells Cert.zero.cells 0 false 0)).new (O.cells (rdC ([],0)) 0 false 0))
 rw [e1]
 clear e1
 repeat refine AW_seq ?_
 refine AW_reg [1,2,3,4] fun K hK=>?_
 obtain ⟨H2,e2,hp4,hn2,ho2⟩:=AH.boxedS H1 Cert.zero.cells Cert.zero.cells
 have hzs:splice Cert.zero.cells 0 Cert.zero.cells = Cert.zero.cells:=rfl
 simp [init_eq,hz,V.cells,astore,AH.get_new]
 apply hK;clear hK K
 show AThen _ _ _ _ ((H1.new (O.cells Cert.zero.cells 0 false 0)).set H1.next (O.cells Cert.zero.cells 0 false 0))
 rw [e2]
 have T:RTC H H2 s ⟨0,0,0,0,0,0,0#32,0#32⟩:=⟨by omega,fun j hj=>by rw [ho2 j (by omega),ho j hj],by rw [ho2 _ (by omega)]; exact hp,by rw [ho2 _ (by omega)]; exact hp2,by rw [ho2 _ (by omega)]; exact hp3,by rw [show H.next + 3 = H1.next by omega]; exact hp4⟩
 have hn3:H1.next = H.next + 3:=hn
 rw [hn3]
 clear e2 hp hp2 hp3 hp4 hn2 ho2 ho hn3
 refine AW_seq ?_
 refine AW_reg [1,2,3,4] fun K hK=>?_
 simp [init_eq]
 apply hK;clear hK K
 refine AW_seq ?_
 refine AW_reg [1,2,3,4] fun K hK=>?_
 have hld:aload Tryz.prog H2 145 (.p (some (H.next,0,0))) = some (rdV s):=by simp [aload,T.rd,rdV]
 simp [init_eq,hld]
 refine ACalls.mono (rdNext_ok H2 s 2) fun r G' ⟨hr,e⟩=>?_
 subst hr e
 simp [afieldAddr,astore,T.c,T.rd,T.nx,V.cells,rdV,AH.get_set,spl_c0,rdC_spl2]
 apply hK;clear hK K hld
 have T0:=T.put (rnext 2 s).2 ⟨((rnext 2 s).1:Nat),0,0,0,0,0,0#32,0#32⟩
 generalize (AH.set _ H.next _:AH) = G0 at T0 ⊢
 clear T
 have g6:∀ n:Nat,((0:Int) < n) = (0 < n):=fun n=>propext (by omega)
 generalize hk:rnext 2 s = k at *
 refine AW_cut (fun ρ G=>ρ = ⟨78,[(1,.p (some (H.next,0,0))),(2,.p (some (H.next + 1,0,0))),(3,.p (some (H.next + 2,0,0))),(4,.p (some (H.next + 3,0,0)))]⟩ ∧ RTC H G (rraw1 s).2 (mkC k.1 (rraw1 s).1 (0,0,0))) ?_ fun ρ G ⟨e1,T1⟩=>?_
 · refine AW_seq ?_
   refine AW_reg [1,2,3,4,15] fun K hK=>?_
   simp [init_eq,afieldAddr,aload,T0.c,Cert.cells,g6]
   apply hK;clear hK K
   refine AW_cond' rfl rfl (fun hc=>?_) (fun hc=>?_)
   · have g:0 < k.1:=by simpa using hc
     have hr1:rraw1 s = rC1 k.2:=by unfold rraw1; rw [hk,if_pos g]
     rw [hr1]
     clear hc hr1
     refine AW_seq ?_
     refine AW_reg [1,2,3,4] fun K hK=>?_
     have hld:aload Tryz.prog G0 145 (.p (some (H.next,0,0))) = some (rdV k.2):=by simp [aload,T0.rd,rdV]
     simp [init_eq,hld]
     refine ACalls.mono (rdNext_ok G0 k.2 2147483647) fun r G' ⟨hr,e⟩=>?_
     subst hr e
     simp [afieldAddr,astore,T0.c,T0.rd,T0.nx,V.cells,rdV,AH.get_set,spl_c1,rdC_spl2]
     apply hK;clear hK K hld
     have T1:=T0.put (rnext 2147483647 k.2).2 ⟨(k.1:Nat),((rnext 2147483647 k.2).1:Nat),0,0,0,0,0#32,0#32⟩
     generalize (AH.set _ H.next _:AH) = G1 at T1 ⊢
     clear T0
     refine AW_seq ?_
     refine AW_reg [1,2,3,4] fun K hK=>?_
     have hld:aload Tryz.prog G1 145 (.p (some (H.next,0,0))) = some (rdV ((rnext 2147483647 k.2).2)):=by simp [aload,T1.rd,rdV]
     simp [init_eq,hld]
     refine ACalls.mono (rdNext_ok G1 ((rnext 2147483647 k.2).2) 1048576) fun r G' ⟨hr,e⟩=>?_
     subst hr e
     simp [afieldAddr,astore,T1.c,T1.rd,T1.nx,V.cells,rdV,AH.get_set,spl_c2,rdC_spl2]
     apply hK;clear hK K hld
     have T2:=T1.put (rnext 1048576 ((rnext 2147483647 k.2).2)).2 ⟨(k.1:Nat),((rnext 2147483647 k.2).1:Nat),((rnext 1048576 (rnext 2147483647 k.2).2).1:Nat),0,0,0,0#32,0#32⟩
     generalize (AH.set _ H.next _:AH) = G2 at T2 ⊢
     clear T1
     refine AW_seq ?_
     refine AW_reg [1,2,3,4] fun K hK=>?_
     have hld:aload Tryz.prog G2 145 (.p (some (H.next,0,0))) = some (rdV ((rnext 1048576 (rnext 2147483647 k.2).2).2)):=by simp [aload,T2.rd,rdV]
     simp [init_eq,hld]
     refine ACalls.mono (rdNext_ok G2 ((rnext 1048576 (rnext 2147483647 k.2).2).2) 1073741824) fun r G' ⟨hr,e⟩=>?_
     subst hr e
     simp [afieldAddr,astore,T2.c,T2.rd,T2.nx,V.cells,rdV,AH.get_set,spl_c3,rdC_spl2]
     apply hK;clear hK K hld
     have T3:=T2.put (rnext 1073741824 ((rnext 1048576 (rnext 2147483647 k.2).2).2)).2 ⟨(k.1:Nat),((rnext 2147483647 k.2).1:Nat),((rnext 1048576 (rnext 2147483647 k.2).2).1:Nat),((rnext 1073741824 (rnext 1048576 (rnext 2147483647 k.2).2).2).1:Nat),0,0,0#32,0#32⟩
     generalize (AH.set _ H.next _:AH) = G3 at T3 ⊢
     clear T2
     refine AW_seq ?_
     refine AW_reg [1,2,3,4,5] fun K hK=>?_
     have hld:aload Tryz.prog G3 145 (.p (some (H.next,0,0))) = some (rdV ((rnext 1073741824 (rnext 1048576 (rnext 2147483647 k.2).2).2).2)):=by simp [aload,T3.rd,rdV]
     simp [init_eq,hld]
     refine ACalls.mono (rdNext_ok G3 ((rnext 1073741824 (rnext 1048576 (rnext 2147483647 k.2).2).2).2) 1023) fun r G' ⟨hr,e⟩=>?_
     subst hr e
     simp [astore,T3.rd,V.cells,rdV,rdC_spl2]
     apply hK;clear hK K hld
     have T4:=T3.putR (rnext 1023 ((rnext 1073741824 (rnext 1048576 (rnext 2147483647 k.2).2).2).2)).2
     generalize (AH.set _ H.next _:AH) = G4 at T4 ⊢
     clear T3
     have hb:=rnext_le 1023 ((rnext 1073741824 (rnext 1048576 (rnext 2147483647 k.2).2).2).2)
     refine AW_reg [1,2,3,4] fun K hK=>?_
     simp [init_eq,conv_int,wrap_u32 (n:=(rnext 1023 ((rnext 1073741824 (rnext 1048576 (rnext 2147483647 k.2).2).2).2)).1) (by omega)]
     rw [u32_nat (n:=(rnext 1023 ((rnext 1073741824 (rnext 1048576 (rnext 2147483647 k.2).2).2).2)).1) (by omega)]
     simp [afieldAddr,astore,T4.c,spl_c6,u32_cells]
     apply hK;clear hK K
     have T5:=T4.putC ⟨(k.1:Nat),((rnext 2147483647 k.2).1:Nat),((rnext 1048576 (rnext 2147483647 k.2).2).1:Nat),((rnext 1073741824 (rnext 1048576 (rnext 2147483647 k.2).2).2).1:Nat),0,0,BitVec.ofNat 32 (rnext 1023 (rnext 1073741824 (rnext 1048576 (rnext 2147483647 k.2).2).2).2).1,0#32⟩
     exact rend ⟨_,by simp,rfl,T5⟩
   · have g:¬ 0 < k.1:=by simpa using hc
     have hr1:rraw1 s = ((0,0,0,0),k.2):=by unfold rraw1; rw [hk,if_neg g]
     rw [hr1]
     exact AW_skip (rend ⟨_,by simp,rfl,T0⟩)
 subst e1
 clear T0
 refine AW_cut (fun ρ G=>ρ = ⟨78,[(1,.p (some (H.next,0,0))),(2,.p (some (H.next + 1,0,0))),(3,.p (some (H.next + 2,0,0))),(4,.p (some (H.next + 3,0,0)))]⟩ ∧ RTC H G (rraw2 s).2 (mkC k.1 (rraw1 s).1 (rraw2 s).1)) ?_ fun ρ G ⟨e1,T2⟩=>?_
 · obtain ⟨a,b,c,d,hx⟩:∃ a b c d,(rraw1 s).1 = (a,b,c,d):=⟨_,_,_,_,rfl⟩
   have T1':RTC H G (rraw1 s).2 ⟨(k.1:Nat),(a:Nat),(b:Nat),(c:Nat),0,0,BitVec.ofNat 32 d,0#32⟩:=by rw [hx] at T1; exact T1
   clear T1
   rw [hx]
   refine AW_seq ?_
   refine AW_reg [1,2,3,4,44] fun K hK=>?_
   simp [init_eq,afieldAddr,aload,T1'.c,Cert.cells]
   apply hK;clear hK K
   refine AW_cond' rfl rfl (fun hc=>?_) (fun hc=>?_)
   · have g : k.1 = 2 := by have : (k.1 : Int) = 2 := by simpa using hc
                            omega
     have hr2:rraw2 s = rC2 (rraw1 s).2:=by unfold rraw2; rw [hk,if_pos g]
     rw [hr2]
     clear hc hr2
     generalize (rraw1 s).2 = t at *
     refine AW_seq ?_
     refine AW_reg [1,2,3,4] fun K hK=>?_
     have hld:aload Tryz.prog G 145 (.p (some (H.next,0,0))) = some (rdV t):=by simp [aload,T1'.rd,rdV]
     simp [init_eq,hld]
     refine ACalls.mono (rdNext_ok G t 3) fun r G' ⟨hr,e⟩=>?_
     subst hr e
     simp [afieldAddr,astore,T1'.c,T1'.rd,T1'.nx,V.cells,rdV,AH.get_set,spl_c4,rdC_spl2]
     apply hK;clear hK K hld
     have T2:=T1'.put (rnext 3 t).2 ⟨(k.1:Nat),(a:Nat),(b:Nat),(c:Nat),((rnext 3 t).1:Nat),0,BitVec.ofNat 32 d,0#32⟩
     generalize (AH.set _ H.next _:AH) = G1 at T2 ⊢
     clear T1'
     refine AW_seq ?_
     refine AW_reg [1,2,3,4] fun K hK=>?_
     have hld:aload Tryz.prog G1 145 (.p (some (H.next,0,0))) = some (rdV ((rnext 3 t).2)):=by simp [aload,T2.rd,rdV]
     simp [init_eq,hld]
     refine ACalls.mono (rdNext_ok G1 ((rnext 3 t).2) 9) fun r G' ⟨hr,e⟩=>?_
     subst hr e
     simp [afieldAddr,astore,T2.c,T2.rd,T2.nx,V.cells,rdV,AH.get_set,spl_c5,rdC_spl2]
     apply hK;clear hK K hld
     have T3:=T2.put (rnext 9 ((rnext 3 t).2)).2 ⟨(k.1:Nat),(a:Nat),(b:Nat),(c:Nat),((rnext 3 t).1:Nat),((rnext 9 (rnext 3 t).2).1:Nat),BitVec.ofNat 32 d,0#32⟩
     generalize (AH.set _ H.next _:AH) = G2 at T3 ⊢
     clear T2
     refine AW_seq ?_
     refine AW_reg [1,2,3,4,5] fun K hK=>?_
     have hld:aload Tryz.prog G2 145 (.p (some (H.next,0,0))) = some (rdV ((rnext 9 (rnext 3 t).2).2)):=by simp [aload,T3.rd,rdV]
     simp [init_eq,hld]
     refine ACalls.mono (rdNext_ok G2 ((rnext 9 (rnext 3 t).2).2) 1023) fun r G' ⟨hr,e⟩=>?_
     subst hr e
     simp [astore,T3.rd,V.cells,rdV,rdC_spl2]
     apply hK;clear hK K hld
     have T4:=T3.putR (rnext 1023 ((rnext 9 (rnext 3 t).2).2)).2
     generalize (AH.set _ H.next _:AH) = G3 at T4 ⊢
     clear T3
     have hb:=rnext_le 1023 ((rnext 9 (rnext 3 t).2).2)
     refine AW_reg [1,2,3,4] fun K hK=>?_
     simp [init_eq,conv_int,wrap_u32 (n:=(rnext 1023 ((rnext 9 (rnext 3 t).2).2)).1) (by omega)]
     rw [u32_nat (n:=(rnext 1023 ((rnext 9 (rnext 3 t).2).2)).1) (by omega)]
     simp [afieldAddr,astore,T4.c,spl_c7,u32_cells]
     apply hK;clear hK K
     have T5:=T4.putC ⟨(k.1:Nat),(a:Nat),(b:Nat),(c:Nat),((rnext 3 t).1:Nat),((rnext 9 (rnext 3 t).2).1:Nat),BitVec.ofNat 32 d,BitVec.ofNat 32 (rnext 1023 (rnext 9 (rnext 3 t).2).2).1⟩
     exact rend ⟨_,by simp,rfl,T5⟩
   · have g:¬ k.1 = 2:=fun h=>by
       have:¬ (k.1:Int) = 2:=by simpa using hc
       omega
     have hr2:rraw2 s = ((0,0,0),(rraw1 s).2):=by unfold rraw2; rw [hk,if_neg g]
     rw [hr2]
     exact AW_skip (rend ⟨_,by simp,rfl,T1'⟩)
 subst e1
 have hrt:rtakeCert s = if (rraw2 s).2.2 ≠ 0 then (Cert.zero,(rraw2 s).2) else if (mkC k.1 (rraw1 s).1 (rraw2 s).1).ok then (mkC k.1 (rraw1 s).1 (rraw2 s).1,(rraw2 s).2) else (Cert.zero,rfail 110 (rraw2 s).2):=by unfold rtakeCert; rw [hk]
 clear T1
 generalize mkC k.1 (rraw1 s).1 (rraw2 s).1 = c at *
 generalize (rraw2 s).2 = t at *
 have hnx:=T2.nx
 have hld:aload Tryz.prog G 145 (.p (some (H.next,0,0))) = some (rdV t):=by simp [aload,T2.rd,rdV]
 have hlc:aload Tryz.prog G 24 (.p (some (H.next + 3,0,0))) = some (.agg c.cells):=by simp [aload,T2.c,take_cells]
 have hs1:∀ x:Cert,astore Tryz.prog G 24 (.p (some (H.next + 1,0,0))) (.agg x.cells) = some (G.set (H.next + 1) (.cells x.cells 0 false 0)):=fun x=>by simp [astore,T2.r1,V.cells,show splice Cert.zero.cells 0 x.cells = x.cells from rfl]
 have hs2:∀ (x:Cert) (u:St),astore Tryz.prog (G.set (H.next + 1) (.cells x.cells 0 false 0)) 145 (.p (some (H.next + 2,0,0))) (rdV u) = some ((G.set (H.next + 1) (.cells x.cells 0 false 0)).set (H.next + 2) (.cells (rdC u) 0 false 0)):=fun x u=>by simp [astore,AH.get_set,T2.r2,V.cells,rdV,rdC_spl2]
 have hend:∀ (x:Cert) (u:St) (ρ:Env),ρ.get 2 = .p (some (H.next + 1,0,0)) → ρ.get 3 = .p (some (H.next + 2,0,0)) → (x,u) = rtakeCert s → AEnd Tryz.prog Tryz.f136 (fun r H'=>r = .tup [.agg (rtakeCert s).1.cells,rdV (rtakeCert s).2] ∧ V.lt H.next r = true ∧ H.next ≤ H'.next ∧ ∀ j,j < H.next → H'.get j = H.get j) .ret ρ ((G.set (H.next + 1) (.cells x.cells 0 false 0)).set (H.next + 2) (.cells (rdC u) 0 false 0)):=fun x u ρ h1 h2 h3 =>
  end_ret (ares_cc (v:=.agg x.cells) (w:=rdV u) (by rw [h1]; simp [aload,AH.get_set,hnx,take_cells]) (by rw [h2]; simp [aload,AH.get_set,hnx,rdV])) ⟨by rw [← h3],by rfl,by simp; omega,fun j hj=>by rw [AH.get_set_ne (by omega),AH.get_set_ne (by omega)]; exact T2.old j hj⟩
 repeat refine AW_seq ?_
 refine AW_reg [1,2,3,4,67] fun K hK=>?_
 simp [init_eq,afieldAddr,aload,T2.rd]
 apply hK;clear hK K
 refine AW_cond' rfl rfl (fun hc=>?_) (fun hc=>?_)
 · have g:¬ t.2 = 0:=by simpa using hc
   repeat refine AW_seq ?_
   refine AW_regm (.only [H.next]) [2,3] pl_136_16 pe_136_16 (by kernel_rfl) (by kernel_rfl) (by decide) fun K hK=>?_
   simp [init_eq,pl_136_16,APlan_takem,through,tkOk,rid,hz,hld,hs1,hs2]
   refine ⟨fun _=>by rw [AH.get_set_ne (by omega)],?_⟩
   apply hK;clear hK K
   exact AW_ret (hend _ _ _ rfl rfl (by rw [hrt,if_pos g]))
 · have g:t.2 = 0:=by simpa using hc
   refine AW_skip ?_
   repeat refine AW_seq ?_
   refine AW_reg [1,2,3,4,72] fun K hK=>?_
   simp [init_eq,hlc]
   refine ACalls.mono (rcheck_ok G c) fun r G' ⟨hr,e⟩=>?_
   subst hr e
   try simp
   apply hK;clear hK K
   refine AW_cond' rfl rfl (fun hc=>?_) (fun hc=>?_)
   · have g2:c.ok = false:=by simpa using hc
     repeat refine AW_seq ?_
     refine AW_reg [2,3] fun K hK=>?_
     simp [init_eq,hz,hld]
     refine ACalls.mono (rdFail_ok ..) fun r G' ⟨hr,e⟩=>?_
     subst hr e
     simp [hs1,hs2]
     apply hK;clear hK K
     exact AW_ret (hend _ _ _ rfl rfl (by rw [hrt,if_neg (by simp [g]),if_neg (by simp [g2])]))
   · have g2:c.ok = true:=by simpa using hc
     refine AW_skip ?_
     repeat refine AW_seq ?_
     refine AW_regm (.only [H.next,H.next + 3]) [2,3] pl_136_19 pe_136_19 (by kernel_rfl) (by kernel_rfl) (by decide) fun K hK=>?_
     simp [init_eq,pl_136_19,APlan_takem,through,tkOk,rid,hlc,hld,hs1,hs2]
     refine ⟨⟨fun _=>by rw [AH.get_set_ne (by omega)],fun _=>by rw [AH.get_set_ne (by omega)]⟩,?_⟩
     apply hK;clear hK K
     exact AW_ret (hend _ _ _ rfl rfl (by rw [hrt,if_neg (by simp [g]),if_pos g2]))
end Go.Proofs.YtaidfojbnfkclaaGreatDoor
set_option linter.unusedVariables false
set_option linter.unusedSimpArgs false
namespace Go.Proofs.YtaidfojbnfkclaaGreatDoor
open Go Go.Abs Go.Proofs
set_option maxRecDepth 100000
attribute [local irreducible] AEnd AW ACalls
theorem spl_t1 (k:Int) (f d y v:List UInt8) (a n:Int) (x:List UInt8):splice (Tx.cells ⟨k,f,d,y,v,a,n⟩) 1 [.s x] = Tx.cells ⟨k,x,d,y,v,a,n⟩:=rfl
theorem spl_t2 (k:Int) (f d y v:List UInt8) (a n:Int) (x:List UInt8):splice (Tx.cells ⟨k,f,d,y,v,a,n⟩) 2 [.s x] = Tx.cells ⟨k,f,x,y,v,a,n⟩:=rfl
theorem spl_t3 (k:Int) (f d y v:List UInt8) (a n:Int) (x:List UInt8):splice (Tx.cells ⟨k,f,d,y,v,a,n⟩) 3 [.s x] = Tx.cells ⟨k,f,d,x,v,a,n⟩:=rfl
theorem spl_t4 (k:Int) (f d y v:List UInt8) (a n:Int) (x:List UInt8):splice (Tx.cells ⟨k,f,d,y,v,a,n⟩) 4 [.s x] = Tx.cells ⟨k,f,d,y,x,a,n⟩:=rfl
theorem spl_t5 (k:Int) (f d y v:List UInt8) (a n:Int) (x:Int):splice (Tx.cells ⟨k,f,d,y,v,a,n⟩) 5 [.i .i64 x] = Tx.cells ⟨k,f,d,y,v,x,n⟩:=rfl
theorem spl_t6 (k:Int) (f d y v:List UInt8) (a n:Int) (x:Int):splice (Tx.cells ⟨k,f,d,y,v,a,n⟩) 6 [.i .i64 x] = Tx.cells ⟨k,f,d,y,v,a,x⟩:=rfl
/-- The blocks while a record is read: the reader, what is answered, the record. -/
structure TR (H G:AH) (z:List V) (t:St) (l:List V):Prop where
 nx:G.next = H.next + 4
 old:∀ j,j < H.next → G.get j = H.get j
 rd:G.get H.next = some (.cells (rdC t) 0 false 0)
 r1:G.get (H.next + 1) = some (.cells z 0 false 0)
 r2:G.get (H.next + 2) = some (.cells (rdC ([],0)) 0 false 0)
 c:G.get (H.next + 3) = some (.cells l 0 false 0)
theorem TR.put {H G:AH} {z l:List V} {t:St} (h:TR H G z t l) (t':St) (l':List V):TR H ((G.set (H.next + 3) (.cells l' 0 false 0)).set H.next (.cells (rdC t') 0 false 0)) z t' l':=by
 have hn:=h.nx
 exact ⟨by simp; exact h.nx,fun j hj=>by rw [AH.get_set_ne (by omega),AH.get_set_ne (by omega)]; exact h.old j hj,by rw [AH.get_set_same (by simp only [AH.next_set]; omega)],
  by rw [AH.get_set_ne (by omega),AH.get_set_ne (by omega)]; exact h.r1,by rw [AH.get_set_ne (by omega),AH.get_set_ne (by omega)]; exact h.r2,by rw [AH.get_set_ne (by omega),AH.get_set_same (by omega)]⟩
theorem rtext_len' (s:St):(rtext s).1.length ≤ 65536:=by
 unfold rtext
 split
 · simp
 · simp only [List.length_take]
   have:(rmost 65536 s).1 ≤ 65536:=by
    unfold rmost; split
    · simp
    · omega
   omega
theorem takeTx_def (s:St):takeTx s = if (rnum s).1 = 1 ∨ (rnum s).1 = 2 then (if (if (rawTx (rnum s).1 (rnum s).2).1.ok then (rawTx (rnum s).1 (rnum s).2).2 else rfail 80 (rawTx (rnum s).1 (rnum s).2).2).2 = 0 then (rawTx (rnum s).1 (rnum s).2).1 else Tx.zero,if (rawTx (rnum s).1 (rnum s).2).1.ok then (rawTx (rnum s).1 (rnum s).2).2 else rfail 80 (rawTx (rnum s).1 (rnum s).2).2) else (Tx.zero,rfail 80 (rnum s).2):=rfl
theorem rawTx_1 (k:Nat) (s:St) (h:k = 1):rawTx k s = (⟨k,(rtext (rnum s).2).1,(rtext (rtext (rnum s).2).2).1,[],[],((rnum (rtext (rtext (rnum s).2).2).2).1:Nat),((rnum s).1:Nat)⟩,(rnum (rtext (rtext (rnum s).2).2).2).2):=by unfold rawTx; simp only [h,if_true]
theorem rawTx_2 (k:Nat) (s:St) (h:¬ k = 1):rawTx k s = (⟨k,(rtext (rnum s).2).1,[],(rtext (rtext (rnum s).2).2).1,(rtext (rtext (rtext (rnum s).2).2).2).1,0,((rnum s).1:Nat)⟩,(rtext (rtext (rtext (rnum s).2).2).2).2):=by unfold rawTx; simp only [h,if_false]
theorem rdTx_ok (H:AH) (s:St):ACalls Tryz.prog 138 [rdV s] H fun r H'=>r = .tup [.agg (takeTx s).1.cells,rdV (takeTx s).2] ∧ H' = H:=by
 refine ACalls.pure (Q:=fun r=>r = .tup [.agg (takeTx s).1.cells,rdV (takeTx s).2]) ⟨_,Tryz.func138,rfl,rfl⟩ ?_
 refine ACalls_body Tryz.func138 rfl rfl ?_
 have hz:abuild Tryz.prog 75 [] = some (.agg Tx.zero.cells):=by first | (simp [abuild,afill]; done) | (simp [abuild,afill]; rfl)
 repeat refine AW_seq ?_
 refine AW_reg [1,2,3] fun K hK=>?_
 simp [init_eq,V.cells,rdV]
 apply hK;clear hK K
 obtain ⟨H1,e1,hp,hp2,hp3,hn,ho⟩:=H.boxed3 (rdC s) Tx.zero.cells (rdC ([],0))
 show AThen _ _ _ _ (((H.new (O.cells (rdC s) 0 false 0)).new (O.cells Tx.zero.cells 0 false 0)).new (O.cells (rdC ([],0)) 0 false 0))
 rw [e1]
 clear e1
 have hend:∀ (G:AH) (x:Tx) (u:St) (ρ:Env),H.next + 3 ≤ G.next → (∀ j,j < H.next → G.get j = H.get j) → ρ.get 2 = .p (some (H.next + 1,0,0)) → ρ.get 3 = .p (some (H.next + 2,0,0)) → (x,u) = takeTx s → AEnd Tryz.prog Tryz.f138 (fun r H'=>r = .tup [.agg (takeTx s).1.cells,rdV (takeTx s).2] ∧ V.lt H.next r = true ∧ H.next ≤ H'.next ∧ ∀ j,j < H.next → H'.get j = H.get j) .ret ρ ((G.set (H.next + 1) (.cells x.cells 0 false 0)).set (H.next + 2) (.cells (rdC u) 0 false 0)):=fun G x u ρ hG hG2 h1 h2 h3 =>
  end_ret (ares_cc (v:=.agg x.cells) (w:=rdV u) (by rw [h1]; simp [aload,AH.get_set,show H.next + 1 < G.next by omega,tx_take]) (by rw [h2]; simp [aload,AH.get_set,show H.next + 2 < G.next by omega,rdV])) ⟨by rw [← h3],by rfl,by simp; omega,fun j hj=>by rw [AH.get_set_ne (by omega),AH.get_set_ne (by omega)]; exact hG2 j hj⟩
 have hs1:∀ (G:AH) (x:Tx),G.get (H.next + 1) = some (.cells Tx.zero.cells 0 false 0) → astore Tryz.prog G 75 (.p (some (H.next + 1,0,0))) (.agg x.cells) = some (G.set (H.next + 1) (.cells x.cells 0 false 0)):=fun G x h=>by simp [astore,h,V.cells,show splice Tx.zero.cells 0 x.cells = x.cells from rfl]
 have hs2:∀ (G:AH) (x:Tx) (u:St),G.get (H.next + 2) = some (.cells (rdC ([],0)) 0 false 0) → astore Tryz.prog (G.set (H.next + 1) (.cells x.cells 0 false 0)) 145 (.p (some (H.next + 2,0,0))) (rdV u) = some ((G.set (H.next + 1) (.cells x.cells 0 false 0)).set (H.next + 2) (.cells (rdC u) 0 false 0)):=fun G x u h=>by simp [astore,AH.get_set,h,V.cells,rdV,rdC_spl2]
 repeat refine AW_seq ?_
 refine AW_reg [1,2,3,4] fun K hK=>?_
 have hld:aload Tryz.prog H1 145 (.p (some (H.next,0,0))) = some (rdV s):=by simp [aload,hp,rdV]
 simp [init_eq,hld]
 refine ACalls.mono (rdNum_ok H1 s) fun r G' ⟨hr,e⟩=>?_
 subst hr e
 simp [astore,hp,V.cells,rdV,rdC_spl2]
 apply hK;clear hK K hld
 have hT:=takeTx_def s
 generalize rnum s = k at *
 have q1:(G'.set H.next (.cells (rdC k.2) 0 false 0)).get H.next = some (.cells (rdC k.2) 0 false 0):=AH.get_set_same (by omega)
 have q2:(G'.set H.next (.cells (rdC k.2) 0 false 0)).get (H.next + 1) = some (.cells Tx.zero.cells 0 false 0):=by rw [AH.get_set_ne (by omega)]; exact hp2
 have q3:(G'.set H.next (.cells (rdC k.2) 0 false 0)).get (H.next + 2) = some (.cells (rdC ([],0)) 0 false 0):=by rw [AH.get_set_ne (by omega)]; exact hp3
 have q4:(G'.set H.next (.cells (rdC k.2) 0 false 0)).next = H.next + 3:=hn
 have q5:∀ j,j < H.next → (G'.set H.next (.cells (rdC k.2) 0 false 0)).get j = H.get j:=fun j hj=>by rw [AH.get_set_ne (by omega)]; exact ho j hj
 generalize (G'.set H.next (.cells (rdC k.2) 0 false 0)) = G at *
 clear hp hp2 hp3 hn ho
 repeat refine AW_seq ?_
 refine AW_regto [1,2,3,4,16] ⟨73,[(1,.p (some (H.next,0,0))),(2,.p (some (H.next + 1,0,0))),(3,.p (some (H.next + 2,0,0))),(4,.i .i64 (k.1:Nat)),(16,.b (decide (¬ (k.1 = 1 ∨ k.1 = 2))))]⟩ G (fun K hk=>?_) ?_
 · by_cases g1:k.1 = 1
   · simpa [init_eq,g1] using hk
   · have g1':¬ (k.1:Int) = 1:=by omega
     by_cases g2:k.1 = 2
     · simpa [init_eq,g2] using hk
     · have g2':¬ (k.1:Int) = 2:=by omega
       simpa [init_eq,g1,g1',g2,g2'] using hk
 refine AW_cond' rfl rfl (fun hc=>?_) (fun hc=>?_)
 · have g:¬ (k.1 = 1 ∨ k.1 = 2):=by simpa using hc
   have hld:aload Tryz.prog G 145 (.p (some (H.next,0,0))) = some (rdV k.2):=by simp [aload,q1,rdV]
   repeat refine AW_seq ?_
   refine AW_reg [2,3] fun K hK=>?_
   simp [init_eq,hz,hld]
   refine ACalls.mono (rdFail_ok ..) fun r G' ⟨hr,e⟩=>?_
   subst hr e
   simp [hs1 _ _ q2,hs2 _ _ _ q3]
   apply hK;clear hK K
   exact AW_ret (hend _ _ _ _ (by omega) q5 rfl rfl (by rw [hT,if_neg g]))
 have g:k.1 = 1 ∨ k.1 = 2:=by
  by_cases h:k.1 = 1
  · exact .inl h
  · right; simpa [h] using hc
 rw [if_pos g] at hT
 clear hc
 refine AW_skip ?_
 refine AW_seq ?_
 refine AW_reg [1,2,3,4,5] fun K hK=>?_
 obtain ⟨H2,e2,hp4,hn2,ho2⟩:=AH.boxedS G Tx.zero.cells (Tx.cells ⟨(k.1:Nat),[],[],[],[],0,0⟩)
 have hab:abuild Tryz.prog 75 [(0,.i .i64 (k.1:Nat))] = some (.agg (Tx.cells ⟨(k.1:Nat),[],[],[],[],0,0⟩)):=by simp [abuild,afill,V.cells,splice,Tx.cells]
 simp [init_eq,hab,V.cells,astore,AH.get_new]
 apply hK;clear hK K
 show AThen _ _ _ _ ((G.new (O.cells Tx.zero.cells 0 false 0)).set G.next (O.cells (Tx.cells ⟨(k.1:Nat),[],[],[],[],0,0⟩) 0 false 0))
 rw [e2,q4]
 have T:TR H H2 Tx.zero.cells k.2 (Tx.cells ⟨(k.1:Nat),[],[],[],[],0,0⟩):=⟨by omega,fun j hj=>by rw [ho2 j (by omega),q5 j hj],by rw [ho2 _ (by omega)]; exact q1,by rw [ho2 _ (by omega)]; exact q2,by rw [ho2 _ (by omega)]; exact q3,by rw [q4] at hp4; exact hp4⟩
 clear e2 hp4 hn2 ho2 q1 q2 q3 q4 q5
 refine AW_seq ?_
 refine AW_reg [1,2,3,4,5] fun K hK=>?_
 have hld:aload Tryz.prog H2 145 (.p (some (H.next,0,0))) = some (rdV k.2):=by simp [aload,T.rd,rdV]
 simp [init_eq,hld]
 refine ACalls.mono (rdNum_ok H2 k.2) fun r G' ⟨hr,e⟩=>?_
 subst hr e
 simp [afieldAddr,astore,T.c,T.rd,T.nx,V.cells,rdV,AH.get_set,spl_t6,rdC_spl2]
 apply hK;clear hK K hld
 have T1:=T.put (rnum k.2).2 (Tx.cells ⟨(k.1:Nat),[],[],[],[],0,((rnum k.2).1:Nat)⟩)
 generalize (AH.set _ H.next _:AH) = G1 at T1 ⊢
 clear T
 refine AW_seq ?_
 refine AW_reg [1,2,3,4,5] fun K hK=>?_
 have hld:aload Tryz.prog G1 145 (.p (some (H.next,0,0))) = some (rdV (rnum k.2).2):=by simp [aload,T1.rd,rdV]
 simp [init_eq,hld]
 refine ACalls.mono (rdText_ok G1 (rnum k.2).2) fun r G' ⟨hr,e⟩=>?_
 subst hr e
 simp [afieldAddr,astore,T1.c,T1.rd,T1.nx,V.cells,rdV,AH.get_set,spl_t1,rdC_spl2]
 apply hK;clear hK K hld
 have T2:=T1.put (rtext (rnum k.2).2).2 (Tx.cells ⟨(k.1:Nat),(rtext (rnum k.2).2).1,[],[],[],0,((rnum k.2).1:Nat)⟩)
 generalize (AH.set _ H.next _:AH) = G2 at T2 ⊢
 clear T1
 refine AW_cut (fun ρ G=>ρ = ⟨73,[(1,.p (some (H.next,0,0))),(2,.p (some (H.next + 1,0,0))),(3,.p (some (H.next + 2,0,0))),(5,.p (some (H.next + 3,0,0)))]⟩ ∧ TR H G Tx.zero.cells (rawTx k.1 k.2).2 (rawTx k.1 k.2).1.cells) ?_ fun ρ G ⟨e1,T3⟩=>?_
 · refine AW_seq ?_
   refine AW_reg [1,2,3,5,35] fun K hK=>?_
   simp [init_eq]
   apply hK;clear hK K
   refine AW_cond' rfl rfl (fun hc=>?_) (fun hc=>?_)
   · have g1 : k.1 = 1 := by have : (k.1 : Int) = 1 := by simpa using hc
                             omega
     rw [rawTx_1 _ _ g1]
     clear hc
     refine AW_seq ?_
     refine AW_reg [1,2,3,5] fun K hK=>?_
     have hld:aload Tryz.prog G2 145 (.p (some (H.next,0,0))) = some (rdV ((rtext (rnum k.2).2).2)):=by simp [aload,T2.rd,rdV]
     simp [init_eq,hld]
     refine ACalls.mono (rdText_ok G2 ((rtext (rnum k.2).2).2)) fun r G' ⟨hr,e⟩=>?_
     subst hr e
     simp [afieldAddr,astore,T2.c,T2.rd,T2.nx,V.cells,rdV,AH.get_set,spl_t2,rdC_spl2]
     apply hK;clear hK K hld
     have T3:=T2.put (rtext ((rtext (rnum k.2).2).2)).2 (Tx.cells ⟨(k.1:Nat),(rtext (rnum k.2).2).1,(rtext (rtext (rnum k.2).2).2).1,[],[],0,((rnum k.2).1:Nat)⟩)
     generalize (AH.set _ H.next _:AH) = G3 at T3 ⊢
     clear T2
     refine AW_reg [1,2,3,5] fun K hK=>?_
     have hld:aload Tryz.prog G3 145 (.p (some (H.next,0,0))) = some (rdV ((rtext (rtext (rnum k.2).2).2).2)):=by simp [aload,T3.rd,rdV]
     simp [init_eq,hld]
     refine ACalls.mono (rdNum_ok G3 ((rtext (rtext (rnum k.2).2).2).2)) fun r G' ⟨hr,e⟩=>?_
     subst hr e
     simp [afieldAddr,astore,T3.c,T3.rd,T3.nx,V.cells,rdV,AH.get_set,spl_t5,rdC_spl2]
     apply hK;clear hK K hld
     have T4:=T3.put (rnum ((rtext (rtext (rnum k.2).2).2).2)).2 (Tx.cells ⟨(k.1:Nat),(rtext (rnum k.2).2).1,(rtext (rtext (rnum k.2).2).2).1,[],[],((rnum (rtext (rtext (rnum k.2).2).2).2).1:Nat),((rnum k.2).1:Nat)⟩)
     generalize (AH.set _ H.next _:AH) = G4 at T4 ⊢
     clear T3
     exact rend ⟨_,by simp,rfl,T4⟩
   · have g1:¬ k.1 = 1:=fun h=>by
       have:¬ (k.1:Int) = 1:=by simpa using hc
       omega
     rw [rawTx_2 _ _ g1]
     clear hc
     refine AW_seq ?_
     refine AW_reg [1,2,3,5] fun K hK=>?_
     have hld:aload Tryz.prog G2 145 (.p (some (H.next,0,0))) = some (rdV ((rtext (rnum k.2).2).2)):=by simp [aload,T2.rd,rdV]
     simp [init_eq,hld]
     refine ACalls.mono (rdText_ok G2 ((rtext (rnum k.2).2).2)) fun r G' ⟨hr,e⟩=>?_
     subst hr e
     simp [afieldAddr,astore,T2.c,T2.rd,T2.nx,V.cells,rdV,AH.get_set,spl_t3,rdC_spl2]
     apply hK;clear hK K hld
     have T3:=T2.put (rtext ((rtext (rnum k.2).2).2)).2 (Tx.cells ⟨(k.1:Nat),(rtext (rnum k.2).2).1,[],(rtext (rtext (rnum k.2).2).2).1,[],0,((rnum k.2).1:Nat)⟩)
     generalize (AH.set _ H.next _:AH) = G3 at T3 ⊢
     clear T2
     refine AW_reg [1,2,3,5] fun K hK=>?_
     have hld:aload Tryz.prog G3 145 (.p (some (H.next,0,0))) = some (rdV ((rtext (rtext (rnum k.2).2).2).2)):=by simp [aload,T3.rd,rdV]
     simp [init_eq,hld]
     refine ACalls.mono (rdText_ok G3 ((rtext (rtext (rnum k.2).2).2).2)) fun r G' ⟨hr,e⟩=>?_
     subst hr e
     simp [afieldAddr,astore,T3.c,T3.rd,T3.nx,V.cells,rdV,AH.get_set,spl_t4,rdC_spl2]
     apply hK;clear hK K hld
     have T4:=T3.put (rtext ((rtext (rtext (rnum k.2).2).2).2)).2 (Tx.cells ⟨(k.1:Nat),(rtext (rnum k.2).2).1,[],(rtext (rtext (rnum k.2).2).2).1,(rtext (rtext (rtext (rnum k.2).2).2).2).1,0,((rnum k.2).1:Nat)⟩)
     generalize (AH.set _ H.next _:AH) = G4 at T4 ⊢
     clear T3
     exact rend ⟨_,by simp,rfl,T4⟩
 subst e1
 clear T2
 have hsm:(rawTx k.1 k.2).1.small:=by
  by_cases g1:k.1 = 1
  · rw [rawTx_1 _ _ g1]
    have l1:=rtext_len' (rnum k.2).2
    have l2:=rtext_len' (rtext (rnum k.2).2).2
    exact ⟨by simp only; omega,by simp only; omega,by simp,by simp⟩
  · rw [rawTx_2 _ _ g1]
    have l1:=rtext_len' (rnum k.2).2
    have l2:=rtext_len' (rtext (rnum k.2).2).2
    have l3:=rtext_len' (rtext (rtext (rnum k.2).2).2).2
    exact ⟨by simp only; omega,by simp,by simp only; omega,by simp only; omega⟩
 generalize rawTx k.1 k.2 = y at *
 obtain ⟨x,t⟩:=y
 simp only at hT T3 hsm
 have hnx:=T3.nx
 have hld:aload Tryz.prog G 145 (.p (some (H.next,0,0))) = some (rdV t):=by simp [aload,T3.rd,rdV]
 have hlc:aload Tryz.prog G 75 (.p (some (H.next + 3,0,0))) = some (.agg x.cells):=by simp [aload,T3.c,tx_take]
 repeat refine AW_seq ?_
 refine AW_regto [1,2,3,5,67] ⟨73,[(1,.p (some (H.next,0,0))),(2,.p (some (H.next + 1,0,0))),(3,.p (some (H.next + 2,0,0))),(5,.p (some (H.next + 3,0,0))),(67,.b (decide (¬ t.2 = 0 ∨ x.ok = false)))]⟩ G (fun K hk=>?_) ?_
 · by_cases g1:t.2 = 0
   · have hle:aload Tryz.prog G 3 (.p (some (H.next,0,1))) = some (.i .i64 t.2):=by simp [aload,T3.rd]
     simp [init_eq,afieldAddr,hle,g1,hlc]
     refine ACalls.mono (rtxCheck_ok G x hsm) fun r G' ⟨hr,e⟩=>?_
     subst hr e
     cases g2:x.ok
     · simpa [g1,g2] using hk
     · simpa [g1,g2] using hk
   · simpa [init_eq,afieldAddr,aload,T3.rd,g1] using hk
 refine AW_cond' rfl rfl (fun hc=>?_) (fun hc=>?_)
 · have g1:¬ t.2 = 0 ∨ x.ok = false:=by simpa using hc
   have hT2:takeTx s = (Tx.zero,rfail 80 t):=by
    rw [hT]
    by_cases g2:x.ok = true
    · have g3 : ¬ t.2 = 0 := by rcases g1 with g | g
                                · exact g
                                · rw [g2] at g; cases g
      rw [if_pos g2,if_neg g3,rfail_err g3]
    · rw [if_neg g2,if_neg (rfail_ne (by decide))]
   repeat refine AW_seq ?_
   refine AW_reg [2,3] fun K hK=>?_
   simp [init_eq,hz,hld]
   refine ACalls.mono (rdFail_ok ..) fun r G' ⟨hr,e⟩=>?_
   subst hr e
   simp [hs1 _ _ T3.r1,hs2 _ _ _ T3.r2]
   apply hK;clear hK K
   exact AW_ret (hend _ _ _ _ (by omega) T3.old rfl rfl hT2.symm)
 · have g1:t.2 = 0 ∧ x.ok = true:=by simpa using hc
   have hT2:takeTx s = (x,t):=by rw [hT,if_pos g1.2,if_pos g1.1]
   refine AW_skip ?_
   repeat refine AW_seq ?_
   refine AW_regm (.only [H.next,H.next + 3]) [2,3] pl_138_14 pe_138_14 (by kernel_rfl) (by kernel_rfl) (by decide) fun K hK=>?_
   simp [init_eq,pl_138_14,APlan_takem,through,tkOk,rid,hlc,hld,hs1 _ _ T3.r1,hs2 _ _ _ T3.r2]
   refine ⟨⟨fun _=>by rw [AH.get_set_ne (by omega)],fun _=>by rw [AH.get_set_ne (by omega)]⟩,?_⟩
   apply hK;clear hK K
   exact AW_ret (hend _ _ _ _ (by omega) T3.old rfl rfl hT2.symm)
end Go.Proofs.YtaidfojbnfkclaaGreatDoor
set_option linter.unusedVariables false
set_option linter.unusedSimpArgs false
namespace Go.Proofs.YtaidfojbnfkclaaGreatDoor
open Go Go.Abs Go.Proofs
set_option maxRecDepth 100000
attribute [local irreducible] AEnd AW ACalls
/-- The blocks while a block is read: the reader, what is answered, the block. -/
structure TL (H G:AH) (t:St) (l:List V):Prop where
 nx:H.next + 5 ≤ G.next
 old:∀ j,j < H.next → G.get j = H.get j
 rd:G.get H.next = some (.cells (rdC t) 0 false 0)
 r1:G.get (H.next + 1) = some (.cells (Blk.zero.cells nilSl nilSl) 0 false 0)
 r2:G.get (H.next + 2) = some (.cells (rdC ([],0)) 0 false 0)
 c:G.get (H.next + 3) = some (.cells l 0 false 0)
section
variable {H G:AH} {t:St} {l:List V}
theorem TL.setR (h:TL H G t l) (t':St):TL H (G.set H.next (.cells (rdC t') 0 false 0)) t' l:=by
 have hn:=h.nx
 exact ⟨by simp; exact h.nx,fun j hj=>by rw [AH.get_set_ne (by omega)]; exact h.old j hj,by rw [AH.get_set_same (by omega)],
  by rw [AH.get_set_ne (by omega)]; exact h.r1,by rw [AH.get_set_ne (by omega)]; exact h.r2,by rw [AH.get_set_ne (by omega)]; exact h.c⟩
theorem TL.setC (h:TL H G t l) (l':List V):TL H (G.set (H.next + 3) (.cells l' 0 false 0)) t l':=by
 have hn:=h.nx
 exact ⟨by simp; exact h.nx,fun j hj=>by rw [AH.get_set_ne (by omega)]; exact h.old j hj,by rw [AH.get_set_ne (by omega)]; exact h.rd,
  by rw [AH.get_set_ne (by omega)]; exact h.r1,by rw [AH.get_set_ne (by omega)]; exact h.r2,by rw [AH.get_set_same (by omega)]⟩
theorem TL.upd (h:TL H G t l) {G':AH} {F:List Nat} (hu:Upd G G' F) (hF:∀ j ∈ F,H.next + 4 ≤ j):TL H G' t l:=by
 have hn:=h.nx
 have h4:∀ j,j < H.next + 4 → G'.get j = G.get j:=fun j hj=>hu.2 j (by omega) fun hm=>by have:=hF j hm; omega
 exact ⟨by have:=hu.1; omega,fun j hj=>by rw [h4 j (by omega)]; exact h.old j hj,by rw [h4 _ (by omega)]; exact h.rd,by rw [h4 _ (by omega)]; exact h.r1,by rw [h4 _ (by omega)]; exact h.r2,by rw [h4 _ (by omega)]; exact h.c⟩
theorem TL.ld (h:TL H G t l):aload Tryz.prog G 145 (.p (some (H.next,0,0))) = some (rdV t):=by simp [aload,h.rd,rdV]
theorem TL.st (h:TL H G t l) (t':St):astore Tryz.prog G 145 (.p (some (H.next,0,0))) (rdV t') = some (G.set H.next (.cells (rdC t') 0 false 0)):=by simp [astore,h.rd,V.cells,rdV,rdC_spl2]
end
/-- The numbers that are read first. -/
def stN (s:St):Nat → St
 | 0=>s
 | i + 1=>(rnum (stN s i)).2
def arrN (s:St) (i:Nat):List V:=(List.range 4).map fun j=>if j < i then .i .i64 ((rnum (stN s j)).1:Nat) else .i .i64 0
theorem tmo_s0 (k v:Int) (c:Cert) (x:Int):splice (Tmo.cells ⟨k,v,c⟩) 0 [.i .i64 x] = Tmo.cells ⟨x,v,c⟩:=rfl
theorem tmo_s2 (k v:Int) (c d:Cert):splice (Tmo.cells ⟨k,v,c⟩) 2 d.cells = Tmo.cells ⟨k,v,d⟩:=rfl
theorem rawTx_small (k:Nat) (s:St):(rawTx k s).1.small:=by
 by_cases g1:k = 1
 · rw [rawTx_1 _ _ g1]
   have l1:=rtext_len' (rnum s).2
   have l2:=rtext_len' (rtext (rnum s).2).2
   exact ⟨by simp only; omega,by simp only; omega,by simp,by simp⟩
 · rw [rawTx_2 _ _ g1]
   have l1:=rtext_len' (rnum s).2
   have l2:=rtext_len' (rtext (rnum s).2).2
   have l3:=rtext_len' (rtext (rtext (rnum s).2).2).2
   exact ⟨by simp only; omega,by simp,by simp only; omega,by simp only; omega⟩
theorem takeTx_small (s:St):(takeTx s).1.small:=by
 have hz:Tx.zero.small:=⟨by decide,by decide,by decide,by decide⟩
 have h:=rawTx_small (rnum s).1 (rnum s).2
 rw [takeTx_def]
 by_cases g1:(rnum s).1 = 1 ∨ (rnum s).1 = 2
 · rw [if_pos g1]
   generalize rawTx (rnum s).1 (rnum s).2 = y at *
   by_cases g2:(if y.1.ok = true then y.2 else rfail 80 y.2).2 = 0
   · rw [if_pos g2]; exact h
   · rw [if_neg g2]; exact hz
 · rw [if_neg g1]; exact hz
theorem own_moved {G G':AH} {v:V} {sz:Nat} {cs:List V} {F:List Nat} (h:Own G v sz cs F) (hg:∀ j ∈ F,G'.get j = G.get j):Own G' v sz cs F:=by
 rcases h with h | ⟨id,g,len,e1,e2,e3,e4⟩
 · exact .inl h
 · exact .inr ⟨id,g,len,e1,by rw [hg id (by rw [e4]; simp)]; exact e2,e3,e4⟩
/-- A block whose lists are new. -/
def BlkNew (H H':AH) (b:Blk) (pv tv:V):Prop:=∀ G',(∀ j,H.next ≤ j → j < H'.next → G'.get j = H'.get j) → H'.next ≤ G'.next → BlkAt G' b pv tv
theorem rdBlk_ok (H:AH) (s:St):ACalls Tryz.prog 110 [rdV s] H fun r H'=>∃ pv tv,r = .tup [.agg ((rtakeBlk s).1.cells pv tv),rdV (rtakeBlk s).2] ∧ BlkNew H H' (rtakeBlk s).1 pv tv ∧ Upd H H' []:=by
 refine ACalls_body Tryz.func110 rfl rfl ?_
 have hz:abuild Tryz.prog 28 [] = some (.agg (Blk.zero.cells nilSl nilSl)):=by first | (simp [abuild,afill]; done) | (simp [abuild,afill]; rfl)
 repeat refine AW_seq ?_
 refine AW_reg [1,2,3] fun K hK=>?_
 simp [init_eq,V.cells,rdV]
 apply hK;clear hK K
 obtain ⟨H1,e1,hp,hp2,hp3,hn,ho⟩:=H.boxed3 (rdC s) (Blk.zero.cells nilSl nilSl) (rdC ([],0))
 show AThen _ _ _ _ (((H.new (O.cells (rdC s) 0 false 0)).new (O.cells (Blk.zero.cells nilSl nilSl) 0 false 0)).new (O.cells (rdC ([],0)) 0 false 0))
 rw [e1]
 clear e1
 refine AW_seq ?_
 refine AW_reg [1,2,3,4] fun K hK=>?_
 obtain ⟨H2,e2,hp4,hn2,ho2⟩:=AH.boxedS H1 (Blk.zero.cells nilSl nilSl) (Blk.zero.cells nilSl nilSl)
 simp [init_eq,hz,V.cells,astore,AH.get_new]
 apply hK;clear hK K
 show AThen _ _ _ _ ((H1.new (O.cells (Blk.zero.cells nilSl nilSl) 0 false 0)).set H1.next (O.cells (Blk.zero.cells nilSl nilSl) 0 false 0))
 rw [e2,hn]
 clear e2
 refine AW_seq ?_
 refine AW_reg [1,2,3,4,5] fun K hK=>?_
 simp [init_eq,V.cells]
 apply hK;clear hK K
 obtain ⟨H3,e3,hp5,hn3,ho3⟩:=H2.boxed [.i .i64 0,.i .i64 0,.i .i64 0,.i .i64 0]
 rw [e3,hn2,hn]
 have T:TL H H3 s (Blk.cells ⟨0,0,0,0,Cert.zero,[],[]⟩ nilSl nilSl):=⟨by omega,fun j hj=>by rw [ho3 j (by omega),ho2 j (by omega),ho j hj],by rw [ho3 _ (by omega),ho2 _ (by omega)]; exact hp,by rw [ho3 _ (by omega),ho2 _ (by omega)]; exact hp2,by rw [ho3 _ (by omega),ho2 _ (by omega)]; exact hp3,by rw [ho3 _ (by omega),show H.next + 3 = H1.next by omega]; exact hp4⟩
 have hl0:H3.get (H.next + 4) = some (.cells (arrN s 0) 0 false 0):=by rw [show H.next + 4 = H2.next by omega]; exact hp5
 clear e3 hp hp2 hp3 hp4 hp5 hn hn2 hn3 ho ho2 ho3
 refine AW_seq ?_
 refine AW_seq ?_
 refine AW_reg [1,2,3,4,5,6] fun K hK=>?_
 simp [init_eq]
 apply hK;clear hK K
 refine AW_block ?_
 refine AW_loopx (fun i:Nat=>⟨113,[(1,.p (some (H.next,0,0))),(2,.p (some (H.next + 1,0,0))),(3,.p (some (H.next + 2,0,0))),(4,.p (some (H.next + 3,0,0))),(5,.p (some (H.next + 4,0,0))),(6,.i .i64 i)]⟩)
  (fun i G=>i ≤ 4 ∧ TL H G (stN s i) (Blk.cells ⟨0,0,0,0,Cert.zero,[],[]⟩ nilSl nilSl) ∧ G.get (H.next + 4) = some (.cells (arrN s i) 0 false 0)) (fun i=>4 - i) 0 (by simp) ⟨by simp,T,hl0⟩ fun i G hM=>?_
 clear T hl0
 obtain ⟨hi4,T,hl⟩:=hM
 refine AW_seq ?_
 refine AW_seq ?_
 refine AW_reg [1,2,3,4,5,6,16] fun K hK=>?_
 simp [init_eq]
 apply hK;clear hK K
 refine AW_cond' rfl rfl (fun hc=>?_) (fun hc=>?_)
 · have hi : i < 4 := by have : (i : Int) < 4 := by simpa using hc
                         omega
   clear hc
   have hspl:splice (arrN s i) i [.i .i64 ((rnum (stN s i)).1:Nat)] = arrN s (i + 1):=by
    rcases i with _ | _ | _ | _ | i
    · rfl
    · rfl
    · rfl
    · rfl
    · omega
   have hll:(arrN s i).length = 4:=by simp [arrN]
   refine AW_skip ?_
   refine AW_seq ?_
   refine AW_block ?_
   refine AW_reg [1,2,3,4,5,6] fun K hK=>?_
   simp [init_eq,T.ld]
   refine ACalls.mono (rdNum_ok G (stN s i)) fun r G' ⟨hr,e⟩=>?_
   subst hr e
   have hlt:H.next + 4 < G'.next:=AH.get_lt hl
   have hT1:TL H (G'.set (H.next + 4) (.cells (arrN s (i + 1)) 0 false 0)) (stN s i) (Blk.cells ⟨0,0,0,0,Cert.zero,[],[]⟩ nilSl nilSl):=T.upd (Upd.set (F:=[H.next + 4]) _ _ _ (by simp)) (by simp)
   have hai:aindexAddr Tryz.prog 175 (.p (some (H.next + 4,0,0))) (.i .i64 i) = some (.p (some (H.next + 4,0,i))):=by simp [aindexAddr]; omega
   have hst1:=hT1.st (rnum (stN s i)).2
   have hstA:astore Tryz.prog G' 2 (.p (some (H.next + 4,0,i))) (.i .i64 ((rnum (stN s i)).1:Nat)) = some (G'.set (H.next + 4) (.cells (arrN s (i + 1)) 0 false 0)):=by simp [astore,hl,V.cells,hspl,hll]; omega
   have hgA:(G'.set (H.next + 4) (.cells (arrN s (i + 1)) 0 false 0)).get (H.next + 4) = some (.cells (arrN s (i + 1)) 0 false 0):=AH.get_set_same hlt
   have hlt2:H.next < (G'.set (H.next + 4) (.cells (arrN s (i + 1)) 0 false 0)).next:=by simp; omega
   generalize (G'.set (H.next + 4) (.cells (arrN s (i + 1)) 0 false 0)) = G1 at *
   simp [hai,hstA,hst1]
   apply hK;clear hK K
   refine bend (rend ?_)
   refine AW_reg [1,2,3,4,5,6] fun K hK=>?_
   simp [init_eq,wrap_id (x:=(i:Int) + 1) (by omega) (by omega)]
   apply hK;clear hK K
   exact rend ⟨i + 1,by simp,⟨by omega,hT1.setR _,by rw [AH.get_set_ne (by omega)]; exact hgA⟩,by omega⟩
 have hi : i = 4 := by have : ¬ (i : Int) < 4 := by simpa using hc
                       omega
 subst hi
 clear hc hi4
 refine AW_exit (then_exit (then_exit (block_here ?_)))
 have hr:rrawBlk s = (⟨((rnum s).1:Nat),((rnum (stN s 1)).1:Nat),((rnum (stN s 2)).1:Nat),((rnum (stN s 3)).1:Nat),(takeCert (stN s 4)).1,(takeL (rtakeTmo ((rnum s).1:Nat)) (rmost 10 (takeCert (stN s 4)).2).1 (rmost 10 (takeCert (stN s 4)).2).2).1,
  (takeL takeTx (rmost 8 (takeL (rtakeTmo ((rnum s).1:Nat)) (rmost 10 (takeCert (stN s 4)).2).1 (rmost 10 (takeCert (stN s 4)).2).2).2).1 (rmost 8 (takeL (rtakeTmo ((rnum s).1:Nat)) (rmost 10 (takeCert (stN s 4)).2).1 (rmost 10 (takeCert (stN s 4)).2).2).2).2).1⟩,
  (takeL takeTx (rmost 8 (takeL (rtakeTmo ((rnum s).1:Nat)) (rmost 10 (takeCert (stN s 4)).2).1 (rmost 10 (takeCert (stN s 4)).2).2).2).1 (rmost 8 (takeL (rtakeTmo ((rnum s).1:Nat)) (rmost 10 (takeCert (stN s 4)).2).1 (rmost 10 (takeCert (stN s 4)).2).2).2).2).2):=rfl
 have hrt:rtakeBlk s = if (rrawBlk s).2.2 = 0 then (if (rrawBlk s).1.err = 0 then rrawBlk s else (Blk.zero,rfail (rrawBlk s).1.err (rrawBlk s).2)) else (Blk.zero,(rrawBlk s).2):=rfl
 have hl':G.get (H.next + 4) = some (.cells [.i .i64 ((rnum s).1:Nat),.i .i64 ((rnum (stN s 1)).1:Nat),.i .i64 ((rnum (stN s 2)).1:Nat),.i .i64 ((rnum (stN s 3)).1:Nat)] 0 false 0):=hl
 clear hl
 generalize hx0:(rnum s).1 = x0 at *
 generalize (rnum (stN s 1)).1 = x1 at *
 generalize (rnum (stN s 2)).1 = x2 at *
 generalize (rnum (stN s 3)).1 = x3 at *
 generalize stN s 4 = s4 at *
 refine AW_seq ?_
 refine AW_reg [1,2,3,4,5] fun K hK=>?_
 simp [init_eq,aindexAddr,aload,hl',afieldAddr,astore,T.c,V.cells,Blk.w0]
 apply hK;clear hK K
 have T1:=T.setC (Blk.cells ⟨(x0:Nat),0,0,0,Cert.zero,[],[]⟩ nilSl nilSl)
 have hl1:=(Upd.set (F:=[H.next + 3]) G (H.next + 3) (.cells (Blk.cells ⟨(x0:Nat),0,0,0,Cert.zero,[],[]⟩ nilSl nilSl) 0 false 0) (by simp)).keep (by simp) hl'
 generalize (AH.set _ (H.next + 3) _:AH) = G1 at T1 hl1 ⊢
 clear T hl'
 refine AW_seq ?_
 refine AW_reg [1,2,3,4,5] fun K hK=>?_
 simp [init_eq,aindexAddr,aload,hl1,afieldAddr,astore,T1.c,V.cells,Blk.w1]
 apply hK;clear hK K
 have T2:=T1.setC (Blk.cells ⟨(x0:Nat),(x1:Nat),0,0,Cert.zero,[],[]⟩ nilSl nilSl)
 have hl2:=(Upd.set (F:=[H.next + 3]) G1 (H.next + 3) (.cells (Blk.cells ⟨(x0:Nat),(x1:Nat),0,0,Cert.zero,[],[]⟩ nilSl nilSl) 0 false 0) (by simp)).keep (by simp) hl1
 generalize (AH.set _ (H.next + 3) _:AH) = G2 at T2 hl2 ⊢
 clear T1 hl1
 refine AW_seq ?_
 refine AW_reg [1,2,3,4,5] fun K hK=>?_
 simp [init_eq,aindexAddr,aload,hl2,afieldAddr,astore,T2.c,V.cells,Blk.w2]
 apply hK;clear hK K
 have T3:=T2.setC (Blk.cells ⟨(x0:Nat),(x1:Nat),(x2:Nat),0,Cert.zero,[],[]⟩ nilSl nilSl)
 have hl3:=(Upd.set (F:=[H.next + 3]) G2 (H.next + 3) (.cells (Blk.cells ⟨(x0:Nat),(x1:Nat),(x2:Nat),0,Cert.zero,[],[]⟩ nilSl nilSl) 0 false 0) (by simp)).keep (by simp) hl2
 generalize (AH.set _ (H.next + 3) _:AH) = G3 at T3 hl3 ⊢
 clear T2 hl2
 refine AW_seq ?_
 refine AW_reg [1,2,3,4] fun K hK=>?_
 simp [init_eq,aindexAddr,aload,hl3,afieldAddr,astore,T3.c,V.cells,Blk.w3]
 apply hK;clear hK K
 have T4:=T3.setC (Blk.cells ⟨(x0:Nat),(x1:Nat),(x2:Nat),(x3:Nat),Cert.zero,[],[]⟩ nilSl nilSl)
 have hl4:=(Upd.set (F:=[H.next + 3]) G3 (H.next + 3) (.cells (Blk.cells ⟨(x0:Nat),(x1:Nat),(x2:Nat),(x3:Nat),Cert.zero,[],[]⟩ nilSl nilSl) 0 false 0) (by simp)).keep (by simp) hl3
 generalize (AH.set _ (H.next + 3) _:AH) = G4 at T4 hl4 ⊢
 clear T3 hl3
 clear hl4
 refine AW_seq ?_
 refine AW_reg [1,2,3,4] fun K hK=>?_
 simp [init_eq,T4.ld]
 refine ACalls.mono (rdCert_ok G4 s4) fun r G' ⟨hr',e⟩=>?_
 subst hr' e
 rw [rtakeCert_eq]
 simp [afieldAddr,astore,T4.c,T4.rd,V.cells,rdV,AH.get_set,Blk.w4,rdC_spl2]
 apply hK;clear hK K
 have T5:=(T4.setC (Blk.cells ⟨(x0:Nat),(x1:Nat),(x2:Nat),(x3:Nat),(takeCert s4).1,[],[]⟩ nilSl nilSl)).setR (takeCert s4).2
 generalize (AH.set _ H.next _:AH) = G5 at T5 ⊢
 clear T4
 generalize takeCert s4 = ce at *
 obtain ⟨ce,s5⟩:=ce
 simp only at T5 hr ⊢
 refine AW_seq ?_
 refine AW_reg [1,2,3,4] fun K hK=>?_
 simp [init_eq]
 apply hK;clear hK K
 refine AW_seq ?_
 refine AW_reg [1,2,3,4,7] fun K hK=>?_
 simp [init_eq,T5.ld]
 refine ACalls.mono (rdSmall_ok G5 s5 10 (by decide)) fun r G' ⟨hr',e⟩=>?_
 subst hr' e
 simp [T5.st]
 apply hK;clear hK K
 have hle:=rmost_le 10 s5
 have T6:=T5.setR (rmost 10 s5).2
 generalize (AH.set _ H.next _:AH) = G6 at T6 ⊢
 clear T5
 generalize rmost 10 s5 = q at *
 obtain ⟨n,s6⟩:=q
 simp only at T6 hr hle ⊢
 refine AW_seq ?_
 refine AW_seq ?_
 refine AW_reg [1,2,3,4,7,8] fun K hK=>?_
 simp [init_eq]
 apply hK;clear hK K
 refine AW_block ?_
 refine AW_loopx (fun x:List Tmo × V × Nat × St=>⟨113,[(1,.p (some (H.next,0,0))),(2,.p (some (H.next + 1,0,0))),(3,.p (some (H.next + 2,0,0))),(4,.p (some (H.next + 3,0,0))),(7,.i .i64 (n:Int)),(8,.i .i64 (x.1.length:Int))]⟩)
  (fun x G=>x.1.length + x.2.2.1 = n ∧ takeL (rtakeTmo (x0:Nat)) n s6 = (x.1 ++ (takeL (rtakeTmo (x0:Nat)) x.2.2.1 x.2.2.2).1,(takeL (rtakeTmo (x0:Nat)) x.2.2.1 x.2.2.2).2) ∧ TL H G x.2.2.2 (Blk.cells ⟨(x0:Nat),(x1:Nat),(x2:Nat),(x3:Nat),ce,[],[]⟩ x.2.1 nilSl) ∧ ∃ F,Own G x.2.1 10 (x.1.map Tmo.cells).flatten F ∧ ∀ j ∈ F,H.next + 5 ≤ j)
  (fun x=>x.2.2.1) ([],nilSl,n,s6) (by simp) ⟨by simp,by simp,T6,[],Own.nil ..,by simp⟩ fun x G hM=>?_
 clear T6
 obtain ⟨ps,pv,k,st⟩:=x
 obtain ⟨m1,m2,T,F,o,hF⟩:=hM
 simp only at m1 m2 T o ⊢
 refine AW_seq ?_
 refine AW_seq ?_
 refine AW_reg [1,2,3,4,7,8,51] fun K hK=>?_
 simp [init_eq]
 apply hK;clear hK K
 refine AW_cond' rfl rfl (fun hc=>?_) (fun hc=>?_)
 · have k1 : 0 < k := by have : ps.length < n := by simpa using hc
                         omega
   obtain ⟨k',rfl⟩:∃ k',k = k' + 1:=⟨k - 1,by omega⟩
   clear hc
   refine AW_skip ?_
   refine AW_seq ?_
   refine AW_block ?_
   refine AW_seq ?_
   refine AW_reg [1,2,3,4,7,8] fun K hK=>?_
   simp [init_eq]
   apply hK;clear hK K
   refine AW_seq ?_
   refine AW_reg [1,2,3,4,7,8,10] fun K hK=>?_
   have hab:abuild Tryz.prog 68 [(1,.i .i64 (x0:Nat))] = some (.agg (Tmo.cells ⟨0,(x0:Nat),Cert.zero⟩)):=by first | (simp [abuild,afill,V.cells,splice_zero,splice_succ,splice]; done) | (simp [abuild,afill,V.cells,splice_zero,splice_succ,splice]; rfl)
   obtain ⟨G1,e1,hm,hmn,hmo⟩:=AH.boxedS G (Tmo.cells ⟨0,0,Cert.zero⟩) (Tmo.cells ⟨0,(x0:Nat),Cert.zero⟩)
   simp [init_eq,afieldAddr,aload,T.c,hab,V.cells,astore,AH.get_new]
   apply hK;clear hK K
   show AThen _ _ _ _ ((G.new (O.cells (Tmo.cells ⟨0,0,Cert.zero⟩) 0 false 0)).set G.next (O.cells (Tmo.cells ⟨0,(x0:Nat),Cert.zero⟩) 0 false 0))
   rw [e1]
   have u1:Upd G G1 []:=⟨by omega,fun j hj _=>hmo j hj⟩
   have T1:=T.upd u1 (by simp)
   have o1:=o.upd u1 (by simp)
   have hm5:=T.nx
   generalize hmid:G.next = m at *
   have o1lt:∀ j ∈ F,j < m:=fun j hj=>by have:=o.lt j hj; omega
   clear e1 hmo T o
   refine AW_seq ?_
   refine AW_reg [1,2,3,4,7,8,9,10] fun K hK=>?_
   simp [init_eq,T1.ld]
   refine ACalls.mono (rdNum_ok G1 st) fun r G' ⟨hr',e⟩=>?_
   subst hr' e
   simp [T1.st]
   apply hK;clear hK K
   have u2:Upd G' (G'.set H.next (.cells (rdC (rnum st).2) 0 false 0)) [H.next]:=Upd.set _ _ _ (by simp)
   have T2:=T1.setR (rnum st).2
   have o2:=o1.upd u2 (fun j hj=>by have:=hF j hj; simp; omega)
   have hm2:=u2.keep (by simp; omega) hm
   have hn2:m < (G'.set H.next (.cells (rdC (rnum st).2) 0 false 0)).next:=by simp; omega
   generalize (G'.set H.next (.cells (rdC (rnum st).2) 0 false 0)) = G2 at *
   clear T1 o1 hm
   refine AW_seq ?_
   refine AW_reg [1,2,3,4,7,8,10] fun K hK=>?_
   simp [init_eq,afieldAddr,astore,hm2,V.cells,tmo_s0]
   apply hK;clear hK K
   have u3:Upd G2 (G2.set m (.cells (Tmo.cells ⟨((rnum st).1:Nat),(x0:Nat),Cert.zero⟩) 0 false 0)) [m]:=Upd.set _ _ _ (by simp)
   have T3:=T2.upd u3 (by simp; omega)
   have o3:=o2.upd u3 (fun j hj=>by have:=o1lt j hj; simp; omega)
   have hm3:(G2.set m (.cells (Tmo.cells ⟨((rnum st).1:Nat),(x0:Nat),Cert.zero⟩) 0 false 0)).get m = some (.cells (Tmo.cells ⟨((rnum st).1:Nat),(x0:Nat),Cert.zero⟩) 0 false 0):=AH.get_set_same hn2
   have hn3:m < (G2.set m (.cells (Tmo.cells ⟨((rnum st).1:Nat),(x0:Nat),Cert.zero⟩) 0 false 0)).next:=by simp; omega
   generalize (G2.set m (.cells (Tmo.cells ⟨((rnum st).1:Nat),(x0:Nat),Cert.zero⟩) 0 false 0)) = G3 at *
   clear T2 o2 hm2
   refine AW_seq ?_
   refine AW_reg [1,2,3,4,7,8,10] fun K hK=>?_
   simp [init_eq,T3.ld]
   refine ACalls.mono (rdCert_ok G3 (rnum st).2) fun r G'' ⟨hr',e⟩=>?_
   subst hr' e
   rw [rtakeCert_eq]
   have e3:rtakeTmo (x0:Nat) st = (⟨((rnum st).1:Nat),(x0:Nat),(takeCert (rnum st).2).1⟩,(takeCert (rnum st).2).2):=rfl
   generalize takeCert (rnum st).2 = c2 at *
   obtain ⟨c2,st2⟩:=c2
   simp only at e3 ⊢
   have u4:Upd G'' (G''.set m (.cells (Tmo.cells ⟨((rnum st).1:Nat),(x0:Nat),c2⟩) 0 false 0)) [m]:=Upd.set _ _ _ (by simp)
   have T4:=T3.upd u4 (by simp; omega)
   have o4:=o3.upd u4 (fun j hj=>by have:=o1lt j hj; simp; omega)
   have hm4:(G''.set m (.cells (Tmo.cells ⟨((rnum st).1:Nat),(x0:Nat),c2⟩) 0 false 0)).get m = some (.cells (Tmo.cells ⟨((rnum st).1:Nat),(x0:Nat),c2⟩) 0 false 0):=AH.get_set_same hn3
   have hs4:astore Tryz.prog G'' 24 (.p (some (m,0,2))) (.agg c2.cells) = some (G''.set m (.cells (Tmo.cells ⟨((rnum st).1:Nat),(x0:Nat),c2⟩) 0 false 0)):=by simp [astore,hm3,V.cells,tmo_s2]
   generalize (G''.set m (.cells (Tmo.cells ⟨((rnum st).1:Nat),(x0:Nat),c2⟩) 0 false 0)) = G4 at *
   simp [afieldAddr,hs4,T4.st]
   apply hK;clear hK K
   have u5:Upd G4 (G4.set H.next (.cells (rdC st2) 0 false 0)) [H.next]:=Upd.set _ _ _ (by simp)
   have T5:=T4.setR st2
   have o5:=o4.upd u5 (fun j hj=>by have:=hF j hj; simp; omega)
   have hm5':=u5.keep (by simp; omega) hm4
   generalize (G4.set H.next (.cells (rdC st2) 0 false 0)) = G5 at *
   clear T3 T4 o3 o4 hm3 hm4 hs4 u1 u2 u3 u4 u5
   generalize hnum:((rnum st).1:Int) = num at *
   obtain ⟨G6,v',G7,F',b1,b2,b3,b4,b5⟩:=o5.pushR (f:=Tmo.cells) app_tmos qelem_25 qsize_68 qzero_68 rfl rfl (by decide) (fun _=>rfl) (⟨num,(x0:Nat),c2⟩:Tmo) (x:=.agg (Tmo.cells ⟨num,(x0:Nat),c2⟩)) rfl (by simp [roomOk]; omega)
   have T7:=T5.upd b4 (fun j hj=>by have:=hF j hj; omega)
   have hlc:aload Tryz.prog G5 25 (.p (some (H.next + 3,0,12))) = some pv:=by simp [aload,T5.c]
   have hlm:aload Tryz.prog G5 68 (.p (some (m,0,0))) = some (.agg (Tmo.cells ⟨num,(x0:Nat),c2⟩)):=by simp [aload,hm5',tmo_take]
   refine AW_reg [1,2,3,4,7,8] fun K hK=>?_
   simp [init_eq,afieldAddr,hlc,hlm,b1,b2,astore,T7.c,b3.cells,Blk.w12]
   apply hK;clear hK K
   have T8:=T7.setC (Blk.cells ⟨(x0:Nat),(x1:Nat),(x2:Nat),(x3:Nat),ce,[],[]⟩ v' nilSl)
   have u8:Upd G7 (G7.set (H.next + 3) (.cells (Blk.cells ⟨(x0:Nat),(x1:Nat),(x2:Nat),(x3:Nat),ce,[],[]⟩ v' nilSl) 0 false 0)) [H.next + 3]:=Upd.set _ _ _ (by simp)
   have hF':∀ j ∈ F',H.next + 5 ≤ j:=fun j hj=>(b5 j hj).elim (hF j) (fun h=>by have:=T5.nx; omega)
   have o8:=b3.upd u8 (fun j hj=>by have:=hF' j hj; simp; omega)
   generalize (G7.set (H.next + 3) (.cells (Blk.cells ⟨(x0:Nat),(x1:Nat),(x2:Nat),(x3:Nat),ce,[],[]⟩ v' nilSl) 0 false 0)) = G8 at *
   refine bend (rend ?_)
   refine AW_reg [1,2,3,4,7,8] fun K hK=>?_
   simp [init_eq,wrap_id (x:=(ps.length:Int) + 1) (by omega) (by omega)]
   apply hK;clear hK K
   refine rend ⟨(ps ++ [⟨num,(x0:Nat),c2⟩],v',k',st2),by simp,⟨by simp; omega,?_,T8,F',o8,hF'⟩,by simp⟩
   have e4:takeL (rtakeTmo (x0:Nat)) (k' + 1) st = ((rtakeTmo (x0:Nat) st).1 :: (takeL (rtakeTmo (x0:Nat)) k' (rtakeTmo (x0:Nat) st).2).1,(takeL (rtakeTmo (x0:Nat)) k' (rtakeTmo (x0:Nat) st).2).2):=rfl
   rw [m2,e4,e3]; simp
 have k1:k = 0:=by
  have:¬ ps.length < n:=by simpa using hc
  omega
 subst k1
 clear hc
 have e:takeL (rtakeTmo (x0:Nat)) n s6 = (ps,st):=by rw [m2]; simp [takeL]
 rw [e] at hr
 simp only at hr
 have hpl:ps.length ≤ 10:=by omega
 clear e m2 m1
 refine AW_exit (then_exit (then_exit (block_here ?_)))
 refine AW_seq ?_
 refine AW_reg [1,2,3,4,7] fun K hK=>?_
 simp [init_eq,T.ld]
 refine ACalls.mono (rdSmall_ok G st 8 (by decide)) fun r G' ⟨hr',e⟩=>?_
 subst hr' e
 simp [T.st]
 apply hK;clear hK K
 have hle2:=rmost_le 8 st
 have u6:Upd G' (G'.set H.next (.cells (rdC (rmost 8 st).2) 0 false 0)) [H.next]:=Upd.set _ _ _ (by simp)
 have T6:=T.setR (rmost 8 st).2
 have o6:=o.upd u6 (fun j hj=>by have:=hF j hj; simp; omega)
 generalize (AH.set _ H.next _:AH) = G6 at T6 o6 u6 ⊢
 clear T o u6
 generalize rmost 8 st = q at *
 obtain ⟨n2,s7⟩:=q
 simp only at T6 hr hle2 ⊢
 have hFlt:=o6.lt
 refine AW_seq ?_
 refine AW_seq ?_
 refine AW_reg [1,2,3,4,7,11] fun K hK=>?_
 simp [init_eq]
 apply hK;clear hK K
 refine AW_block ?_
 refine AW_loopx (fun x:List Tx × V × Nat × St=>⟨113,[(1,.p (some (H.next,0,0))),(2,.p (some (H.next + 1,0,0))),(3,.p (some (H.next + 2,0,0))),(4,.p (some (H.next + 3,0,0))),(7,.i .i64 (n2:Int)),(11,.i .i64 (x.1.length:Int))]⟩)
  (fun x G=>x.1.length + x.2.2.1 = n2 ∧ takeL takeTx n2 s7 = (x.1 ++ (takeL takeTx x.2.2.1 x.2.2.2).1,(takeL takeTx x.2.2.1 x.2.2.2).2) ∧ (∀ t ∈ x.1,t.small) ∧ TL H G x.2.2.2 (Blk.cells ⟨(x0:Nat),(x1:Nat),(x2:Nat),(x3:Nat),ce,[],[]⟩ pv x.2.1) ∧ Own G pv 10 (ps.map Tmo.cells).flatten F ∧ G6.next ≤ G.next ∧ ∃ F2,Own G x.2.1 7 (x.1.map Tx.cells).flatten F2 ∧ ∀ j ∈ F2,G6.next ≤ j)
  (fun x=>x.2.2.1) ([],nilSl,n2,s7) (by simp) ⟨by simp,by simp,by simp,T6,o6,Nat.le_refl _,[],Own.nil ..,by simp⟩ fun x G hM=>?_
 have hn6:=T6.nx
 clear T6 o6
 obtain ⟨ts,tv,k,st⟩:=x
 obtain ⟨m1,m2,msm,T,o,hnG,F2,o2,hF2⟩:=hM
 simp only at m1 m2 T o o2 msm ⊢
 refine AW_seq ?_
 refine AW_seq ?_
 refine AW_reg [1,2,3,4,7,11,83] fun K hK=>?_
 simp [init_eq]
 apply hK;clear hK K
 refine AW_cond' rfl rfl (fun hc=>?_) (fun hc=>?_)
 · have k1 : 0 < k := by have : ts.length < n2 := by simpa using hc
                         omega
   obtain ⟨k',rfl⟩:∃ k',k = k' + 1:=⟨k - 1,by omega⟩
   clear hc
   refine AW_skip ?_
   refine AW_seq ?_
   refine AW_block ?_
   refine AW_seq ?_
   refine AW_reg [1,2,3,4,7,11,12] fun K hK=>?_
   have hzt:abuild Tryz.prog 75 [] = some (.agg Tx.zero.cells):=by first | (simp [abuild,afill]; done) | (simp [abuild,afill]; rfl)
   obtain ⟨G1,e1,hm,hmn,hmo⟩:=AH.boxedS G Tx.zero.cells Tx.zero.cells
   simp [init_eq,hzt,V.cells,astore,AH.get_new]
   apply hK;clear hK K
   show AThen _ _ _ _ ((G.new (O.cells Tx.zero.cells 0 false 0)).set G.next (O.cells Tx.zero.cells 0 false 0))
   rw [e1]
   have u1:Upd G G1 []:=⟨by omega,fun j hj _=>hmo j hj⟩
   have T1:=T.upd u1 (by simp)
   have o1:=o.upd u1 (by simp)
   have oo1:=o2.upd u1 (by simp)
   have hm5:=T.nx
   have oF:∀ j ∈ F,j < G.next:=o.lt
   have oF2:∀ j ∈ F2,j < G.next:=o2.lt
   generalize hmid:G.next = m at *
   clear e1 hmo T o o2
   refine AW_seq ?_
   refine AW_reg [1,2,3,4,7,11,12] fun K hK=>?_
   simp [init_eq,T1.ld]
   refine ACalls.mono (rdTx_ok G1 st) fun r G' ⟨hr',e⟩=>?_
   subst hr' e
   have e3:takeL takeTx (k' + 1) st = ((takeTx st).1 :: (takeL takeTx k' (takeTx st).2).1,(takeL takeTx k' (takeTx st).2).2):=rfl
   rw [e3] at m2
   have hsm:=takeTx_small st
   generalize takeTx st = y at *
   obtain ⟨y,st2⟩:=y
   simp only at m2 hsm ⊢
   have u4:Upd G' (G'.set m (.cells y.cells 0 false 0)) [m]:=Upd.set _ _ _ (by simp)
   have T4:=T1.upd u4 (by simp; omega)
   have o4:=o1.upd u4 (fun j hj=>by have:=oF j hj; simp; omega)
   have oo4:=oo1.upd u4 (fun j hj=>by have:=oF2 j hj; simp; omega)
   have hm4:(G'.set m (.cells y.cells 0 false 0)).get m = some (.cells y.cells 0 false 0):=AH.get_set_same (by omega)
   have hs4:astore Tryz.prog G' 75 (.p (some (m,0,0))) (.agg y.cells) = some (G'.set m (.cells y.cells 0 false 0)):=by simp [astore,hm,V.cells,show splice Tx.zero.cells 0 y.cells = y.cells from rfl]
   generalize (G'.set m (.cells y.cells 0 false 0)) = G4 at *
   simp [hs4,T4.st]
   apply hK;clear hK K
   have u5:Upd G4 (G4.set H.next (.cells (rdC st2) 0 false 0)) [H.next]:=Upd.set _ _ _ (by simp)
   have T5:=T4.setR st2
   have o5:=o4.upd u5 (fun j hj=>by have:=hF j hj; simp; omega)
   have oo5:=oo4.upd u5 (fun j hj=>by have:=hF2 j hj; simp; omega)
   have hm5':=u5.keep (by simp; omega) hm4
   generalize (G4.set H.next (.cells (rdC st2) 0 false 0)) = G5 at *
   have hn5:m < G5.next:=AH.get_lt hm5'
   clear T1 T4 o1 oo1 o4 oo4 hm hm4 hs4 u1 u4 u5
   obtain ⟨G6',v',G7,F',b1,b2,b3,b4,b5⟩:=oo5.pushR (f:=Tx.cells) app_txs qelem_26 qsize_75 qzero_75 rfl rfl (by decide) (fun _=>rfl) y (x:=.agg y.cells) rfl (by simp [roomOk]; omega)
   have T7:=T5.upd b4 (fun j hj=>by have:=hF2 j hj; omega)
   have o7:=o5.upd b4 (fun j hj hj'=>by have:=hF2 j hj'; have:=hFlt j hj; omega)
   have hlc:aload Tryz.prog G5 26 (.p (some (H.next + 3,0,13))) = some tv:=by simp [aload,T5.c]
   have hlm:aload Tryz.prog G5 75 (.p (some (m,0,0))) = some (.agg y.cells):=by simp [aload,hm5',tx_take]
   refine AW_reg [1,2,3,4,7,11] fun K hK=>?_
   simp [init_eq,afieldAddr,hlc,hlm,b1,b2,astore,T7.c,b3.cells,Blk.w13]
   apply hK;clear hK K
   have T8:=T7.setC (Blk.cells ⟨(x0:Nat),(x1:Nat),(x2:Nat),(x3:Nat),ce,[],[]⟩ pv v')
   have u8:Upd G7 (G7.set (H.next + 3) (.cells (Blk.cells ⟨(x0:Nat),(x1:Nat),(x2:Nat),(x3:Nat),ce,[],[]⟩ pv v') 0 false 0)) [H.next + 3]:=Upd.set _ _ _ (by simp)
   have hF':∀ j ∈ F',G6.next ≤ j:=fun j hj=>(b5 j hj).elim (hF2 j) (fun h=>by omega)
   have o8:=b3.upd u8 (fun j hj=>by have:=hF' j hj; simp; omega)
   have oo8:=o7.upd u8 (fun j hj=>by have:=hF j hj; simp; omega)
   have hn8:G6.next ≤ (G7.set (H.next + 3) (.cells (Blk.cells ⟨(x0:Nat),(x1:Nat),(x2:Nat),(x3:Nat),ce,[],[]⟩ pv v') 0 false 0)).next:=by have:=b4.1; simp; omega
   generalize (G7.set (H.next + 3) (.cells (Blk.cells ⟨(x0:Nat),(x1:Nat),(x2:Nat),(x3:Nat),ce,[],[]⟩ pv v') 0 false 0)) = G8 at *
   refine bend (rend ?_)
   refine AW_reg [1,2,3,4,7,11] fun K hK=>?_
   simp [init_eq,wrap_id (x:=(ts.length:Int) + 1) (by omega) (by omega)]
   apply hK;clear hK K
   refine rend ⟨(ts ++ [y],v',k',st2),by simp,⟨by simp; omega,?_,fun t ht=>?_,T8,oo8,hn8,F',o8,hF'⟩,by simp⟩
   · rw [m2]; simp
   · rcases List.mem_append.1 ht with h | h
     · exact msm t h
     · simp at h; subst h; exact hsm
 have k1:k = 0:=by
  have:¬ ts.length < n2:=by simpa using hc
  omega
 subst k1
 clear hc
 have e:takeL takeTx n2 s7 = (ts,st):=by rw [m2]; simp [takeL]
 rw [e] at hr
 simp only at hr
 have htl:ts.length ≤ 8:=by omega
 clear e m2 m1
 rw [hr] at hrt
 simp only at hrt
 refine AW_exit (then_exit (then_exit (block_here ?_)))
 obtain ⟨b,hb⟩:∃ b:Blk,b = ⟨(x0:Nat),(x1:Nat),(x2:Nat),(x3:Nat),ce,ps,ts⟩:=⟨_,rfl⟩
 have Tb:TL H G st (b.cells pv tv):=by rw [hb]; exact T
 have hps:b.proof = ps:=by rw [hb]
 have hts:b.txs = ts:=by rw [hb]
 rw [← hb] at hrt
 have hbs:b.small:=⟨by rw [hps]; omega,by rw [hts]; omega,by rw [hts]; exact msm⟩
 have hba:BlkAt G b pv tv:=⟨by rw [hps]; exact o.rsR (by decide) (fun _=>rfl),by rw [hts]; exact o2.rsR (by decide) (fun _=>rfl)⟩
 clear T hb
 have hnx:=Tb.nx
 have hs1:∀ (x:Blk) (v w:V),astore Tryz.prog G 28 (.p (some (H.next + 1,0,0))) (.agg (x.cells v w)) = some (G.set (H.next + 1) (.cells (x.cells v w) 0 false 0)):=fun x v w=>by simp [astore,Tb.r1,V.cells,show splice (Blk.zero.cells nilSl nilSl) 0 (x.cells v w) = x.cells v w from rfl]
 have hs2:∀ (x:Blk) (v w:V) (u:St),astore Tryz.prog (G.set (H.next + 1) (.cells (x.cells v w) 0 false 0)) 145 (.p (some (H.next + 2,0,0))) (rdV u) = some ((G.set (H.next + 1) (.cells (x.cells v w) 0 false 0)).set (H.next + 2) (.cells (rdC u) 0 false 0)):=fun x v w u=>by simp [astore,AH.get_set,Tb.r2,V.cells,rdV,rdC_spl2]
 have hlb:aload Tryz.prog G 28 (.p (some (H.next + 3,0,0))) = some (.agg (b.cells pv tv)):=by simp [aload,Tb.c,blk_take]
 have huE:∀ (x:Blk) (v w:V) (u:St),Upd G ((G.set (H.next + 1) (.cells (x.cells v w) 0 false 0)).set (H.next + 2) (.cells (rdC u) 0 false 0)) [H.next + 1,H.next + 2]:=fun x v w u=>(Upd.set (F:=[H.next + 1,H.next + 2]) _ _ _ (by simp)).trans (Upd.set (F:=[H.next + 1,H.next + 2]) _ _ _ (by simp)) (fun j hj=>.inl hj)
 have hend:∀ (x:Blk) (v w:V) (u:St) (ρ:Env),ρ.get 2 = .p (some (H.next + 1,0,0)) → ρ.get 3 = .p (some (H.next + 2,0,0)) → (x,u) = rtakeBlk s → BlkNew H ((G.set (H.next + 1) (.cells (x.cells v w) 0 false 0)).set (H.next + 2) (.cells (rdC u) 0 false 0)) x v w → AEnd Tryz.prog Tryz.f110 (fun r H'=>∃ pv tv,r = .tup [.agg ((rtakeBlk s).1.cells pv tv),rdV (rtakeBlk s).2] ∧ BlkNew H H' (rtakeBlk s).1 pv tv ∧ Upd H H' []) .ret ρ ((G.set (H.next + 1) (.cells (x.cells v w) 0 false 0)).set (H.next + 2) (.cells (rdC u) 0 false 0)):=fun x v w u ρ h1 h2 h3 h4 =>
  end_ret (ares_cc (v:=.agg (x.cells v w)) (w:=rdV u) (by rw [h1]; simp [aload,AH.get_set,show H.next + 1 < G.next by omega,blk_take]) (by rw [h2]; simp [aload,AH.get_set,show H.next + 2 < G.next by omega,rdV])) ⟨v,w,by rw [← h3],by rw [← h3]; exact h4,by simp; omega,fun j hj _=>by rw [AH.get_set_ne (by omega),AH.get_set_ne (by omega)]; exact Tb.old j hj⟩
 have hzB:∀ G:AH,BlkNew H G Blk.zero nilSl nilSl:=fun G _ _ _=>⟨RS.nil ..,RS.nil ..⟩
 refine AW_seq ?_
 refine AW_seq ?_
 refine AW_reg [1,2,3,4,100] fun K hK=>?_
 simp [init_eq,afieldAddr,aload,Tb.rd]
 apply hK;clear hK K
 refine AW_cond' rfl rfl (fun hc=>?_) (fun hc=>?_)
 · have g:¬ st.2 = 0:=by simpa using hc
   refine AW_seq ?_
   refine AW_regm (.only [H.next]) [2,3] pl_110_31 pe_110_31 (by kernel_rfl) (by kernel_rfl) (by decide) fun K hK=>?_
   simp [init_eq,pl_110_31,APlan_takem,through,tkOk,rid,hz,Tb.ld,hs1,hs2]
   refine ⟨fun _=>by rw [AH.get_set_ne (by omega)],?_⟩
   apply hK;clear hK K
   exact AW_ret (hend _ _ _ _ _ rfl rfl (by rw [hrt,if_neg g]) (hzB _))
 have g:st.2 = 0:=by simpa using hc
 rw [if_pos g] at hrt
 refine AW_skip ?_
 refine AW_seq ?_
 refine AW_reg [1,2,3,4,13] fun K hK=>?_
 simp [init_eq,hlb]
 refine ACalls.mono (rcheckBlk_ok G hba hbs) fun r G' ⟨hr',e⟩=>?_
 subst hr' e
 try simp
 apply hK;clear hK K
 refine AW_seq ?_
 refine AW_seq ?_
 refine AW_reg [1,2,3,4,13,106] fun K hK=>?_
 simp [init_eq]
 apply hK;clear hK K
 refine AW_cond' rfl rfl (fun hc=>?_) (fun hc=>?_)
 · have g2:¬ b.err = 0:=by simpa using hc
   refine AW_seq ?_
   refine AW_reg [2,3] fun K hK=>?_
   simp [init_eq,hz,Tb.ld]
   refine ACalls.mono (rdFail_ok ..) fun r G'' ⟨hr',e⟩=>?_
   subst hr' e
   simp [hs1,hs2]
   apply hK;clear hK K
   exact AW_ret (hend _ _ _ _ _ rfl rfl (by rw [hrt,if_neg g2]) (hzB _))
 · have g2:b.err = 0:=by simpa using hc
   refine AW_skip ?_
   refine AW_seq ?_
   refine AW_regm (.only [H.next,H.next + 3]) [2,3] pl_110_35 pe_110_35 (by kernel_rfl) (by kernel_rfl) (by decide) fun K hK=>?_
   simp [init_eq,pl_110_35,APlan_takem,through,tkOk,rid,hlb,Tb.ld,hs1,hs2]
   refine ⟨⟨fun _=>by rw [AH.get_set_ne (by omega)],fun _=>by rw [AH.get_set_ne (by omega)]⟩,?_⟩
   apply hK;clear hK K
   refine AW_ret (hend _ _ _ _ _ rfl rfl (by rw [hrt,if_pos g2]) fun G' hg hn=>?_)
   have q1:=o.upd (huE b pv tv st) (fun j hj=>by have:=hF j hj; simp; omega)
   have q2:=o2.upd (huE b pv tv st) (fun j hj=>by have:=hF2 j hj; simp; omega)
   exact ⟨by rw [hps]; exact (own_moved q1 fun j hj=>hg j (by have:=hF j hj; omega) (q1.lt j hj)).rsR (by decide) (fun _=>rfl),by rw [hts]; exact (own_moved q2 fun j hj=>hg j (by have:=hF2 j hj; omega) (q2.lt j hj)).rsR (by decide) (fun _=>rfl)⟩
/-- The document's parsing: what it makes is what the program makes. -/
theorem rparse_ok (H:AH) (l:List UInt8):ACalls Tryz.prog 70 [.s l] H fun r H'=>∃ pv tv,r = .tup [.agg ((rparseBlk l).1.cells pv tv),.i .i64 (rparseBlk l).2] ∧ BlkNew H H' (rparseBlk l).1 pv tv ∧ Upd H H' []:=by
 refine ACalls_body Tryz.func70 rfl rfl ?_
 have hz:abuild Tryz.prog 28 [] = some (.agg (Blk.zero.cells nilSl nilSl)):=by first | (simp [abuild,afill]; done) | (simp [abuild,afill]; rfl)
 have hzB:∀ G:AH,BlkNew H G Blk.zero nilSl nilSl:=fun G _ _ _=>⟨RS.nil ..,RS.nil ..⟩
 have hrp:rparseBlk l = if rdone (rtakeBlk (l,0)).2 = 0 then ((rtakeBlk (l,0)).1,0) else (Blk.zero,rdone (rtakeBlk (l,0)).2):=rfl
 refine AW_seq ?_
 refine AW_reg [0,2] fun K hK=>?_
 simp [init_eq,V.cells]
 obtain ⟨H1,e1,hp,hn,ho⟩:=H.boxed (Blk.zero.cells nilSl nilSl)
 apply hK;clear hK K
 show AThen _ _ _ _ (H.new (O.cells (Blk.zero.cells nilSl nilSl) 0 false 0))
 rw [e1]
 have u1:Upd H H1 []:=⟨by omega,fun j hj _=>ho j hj⟩
 refine AW_seq ?_
 refine AW_reg [2,4,5] fun K hK=>?_
 have hab:abuild Tryz.prog 145 [(0,.s l)] = some (rdV (l,0)):=by simp [abuild,afill,V.cells,splice,rdV,rdC]
 simp [init_eq,hab]
 refine ACalls.mono (rdBlk_ok H1 (l,0)) fun r H2 ⟨pv,tv,hr,hb,u2⟩=>?_
 subst hr
 generalize rtakeBlk (l,0) = y at *
 obtain ⟨b,t⟩:=y
 simp only at hb hrp ⊢
 simp [V.cells,astore,AH.get_new,AH.get_set,rdV,rdC_splz]
 apply hK;clear hK K
 generalize hG:AH.set _ (H2.next + 1) _ = G
 have q1:G.get H2.next = some (.cells (b.cells pv tv) 0 false 0):=by
  rw [← hG,AH.get_set_ne (by omega),AH.get_set_same (by simp; omega)]; rfl
 have q2:G.get (H2.next + 1) = some (.cells (rdC t) 0 false 0):=by rw [← hG,AH.get_set_same (by simp)]
 have ko:∀ j,j < H2.next → G.get j = H2.get j:=fun j hj=>by rw [← hG]; simp [AH.get_set,AH.get_new,show j ≠ H2.next by omega,show j ≠ H2.next + 1 by omega]
 have kn:G.next = H2.next + 2:=by rw [← hG]; simp
 clear hG
 have u3:Upd H2 G []:=⟨by omega,fun j hj _=>ko j hj⟩
 have hpG:=u3.keep (by simp) (u2.keep (by simp) hp)
 have uG:Upd H G []:=(u1.trans u2 (by simp)).trans u3 (by simp)
 have hld:aload Tryz.prog G 145 (.p (some (H2.next + 1,0,0))) = some (rdV t):=by simp [aload,q2,rdV]
 have hlb:aload Tryz.prog G 28 (.p (some (H2.next,0,0))) = some (.agg (b.cells pv tv)):=by simp [aload,q1,blk_take]
 have hs1:∀ (x:Blk) (v w:V),astore Tryz.prog G 28 (.p (some (H.next,0,0))) (.agg (x.cells v w)) = some (G.set H.next (.cells (x.cells v w) 0 false 0)):=fun x v w=>by simp [astore,hpG,V.cells,show splice (Blk.zero.cells nilSl nilSl) 0 (x.cells v w) = x.cells v w from rfl]
 have hlt:=AH.get_lt hpG
 have hbG:BlkNew H (G.set H.next (.cells (b.cells pv tv) 0 false 0)) b pv tv:=fun G' hg hn=>hb G' (fun j h1 h2=>by rw [hg j (by omega) (by simp; omega),AH.get_set_ne (by omega)]; exact ko j h2) (by simp at hn; omega)
 have hend:∀ (x:Blk) (v w:V) (e:Int) (ρ:Env),ρ.get 2 = .p (some (H.next,0,0)) → ρ.get 3 = .i .i64 e → (x,e) = rparseBlk l → BlkNew H (G.set H.next (.cells (x.cells v w) 0 false 0)) x v w → AEnd Tryz.prog Tryz.f70 (fun r H'=>∃ pv tv,r = .tup [.agg ((rparseBlk l).1.cells pv tv),.i .i64 (rparseBlk l).2] ∧ BlkNew H H' (rparseBlk l).1 pv tv ∧ Upd H H' []) .ret ρ (G.set H.next (.cells (x.cells v w) 0 false 0)):=fun x v w e ρ h1 h2 h3 h4 =>
  end_ret (ares_cell_tmp (v:=.agg (x.cells v w)) (by rw [h1]; simp [aload,AH.get_set,hlt,blk_take])) ⟨v,w,by rw [← h3,h2],by rw [← h3]; exact h4,uG.1,fun j hj hn=>by rw [AH.get_set_ne (by omega)]; exact uG.2 j hj hn⟩
 refine AW_seq ?_
 refine AW_reg [2,4,6] fun K hK=>?_
 simp [init_eq,hld]
 refine ACalls.mono (rdDone_ok G t) fun r G' ⟨hr,e⟩=>?_
 subst hr e
 try simp
 apply hK;clear hK K
 refine AW_seq ?_
 refine AW_seq ?_
 refine AW_reg [2,4,6,16] fun K hK=>?_
 simp [init_eq]
 apply hK;clear hK K
 refine AW_cond' rfl rfl (fun hc=>?_) (fun hc=>?_)
 · have g:¬ rdone t = 0:=by simpa using hc
   refine AW_seq ?_
   refine AW_reg [2,3] fun K hK=>?_
   simp [init_eq,hz,hs1]
   apply hK;clear hK K
   exact AW_ret (hend _ _ _ _ _ rfl rfl (by rw [hrp,if_neg g]) (hzB _))
 · have g:rdone t = 0:=by simpa using hc
   refine AW_skip ?_
   refine AW_seq ?_
   refine AW_reg [2,3] fun K hK=>?_
   simp [init_eq,hlb,hs1]
   apply hK;clear hK K
   exact AW_ret (hend _ _ _ _ _ rfl rfl (by rw [hrp,if_pos g]) hbG)
end Go.Proofs.YtaidfojbnfkclaaGreatDoor
set_option linter.unusedVariables false
set_option linter.unusedSimpArgs false
namespace Go.Proofs.YtaidfojbnfkclaaGreatDoor
open Go Go.Abs Go.Proofs
set_option maxRecDepth 100000
attribute [local irreducible] AEnd AW ACalls
theorem cndF {r:Fm} {P:Program} [Laid P] {Q:Exit → Env → AH → Prop} {ρ:Env} {H:AH} {c:Operand} {x y:Code} (hv:aev ρ c = .b false) (h:AW r P y Q ρ H):AW r P (.cond c x y) Q ρ H:=AW_cond' hv rfl (fun h=>by cases h) (fun _=>h)
def cmpI (x y:Int):Int:=if x < y then -1 else if y < x then 1 else 0
/-- Two lists, number by number. -/
def cmpL:List Int → List Int → Int
 | [],[]=>0
 | [],_ :: _=>-1
 | _ :: _,[]=>1
 | x :: xs,y :: ys=>if cmpI x y ≠ 0 then cmpI x y else cmpL xs ys
def Cert.cls (c:Cert):Int:=if c.kind = 2 then 1 else 0
def Cert.rank (c:Cert):List Int:=[c.view,c.cls,c.round]
def cmpC (a b:Cert):Int:=cmpL a.rank b.rank
def maxC (a b:Cert):Cert:=if cmpC a b < 0 then b else a
theorem cmpI_zero {x y:Int}:cmpI x y = 0 ↔ x = y:=by
 unfold cmpI; split
 · simp; omega
 · split
   · simp; omega
   · simp; omega
theorem isNaN_ok (H:AH) (x:Int):ACalls Tryz.prog 132 [.i .i64 x] H fun r H'=>r = .b false ∧ H' = H:=by
 refine ACalls_body Tryz.func132 rfl rfl ?_
 repeat refine AW_seq ?_
 refine AW_reg [0] fun K hK=>?_
 simp [init_eq]
 apply hK;clear hK K
 repeat refine AW_seq ?_
 refine AW_reg [2] fun K hK=>?_
 simp [init_eq]
 apply hK;clear hK K
 exact AW_ret (end_ret rfl (by simp))
theorem compare_ok (H:AH) (x y:Int):ACalls Tryz.prog 100 [.i .i64 x,.i .i64 y] H fun r H'=>r = .i .i64 (cmpI x y) ∧ H' = H:=by
 refine ACalls_body Tryz.func100 rfl rfl ?_
 repeat refine AW_seq ?_
 refine AW_reg [0,1] fun K hK=>?_
 simp [init_eq]
 apply hK;clear hK K
 repeat refine AW_seq ?_
 refine AW_reg [0,1,5] fun K hK=>?_
 simp [init_eq]
 refine ACalls.mono (isNaN_ok ..) fun r H' ⟨hr,e⟩=>?_
 subst hr e
 try simp
 apply hK;clear hK K
 repeat refine AW_seq ?_
 refine AW_reg [0,1,5,6] fun K hK=>?_
 simp [init_eq]
 refine ACalls.mono (isNaN_ok ..) fun r H'' ⟨hr,e⟩=>?_
 subst hr e
 try simp
 apply hK;clear hK K
 repeat refine AW_seq ?_
 refine AW_reg [0,1,6,11] fun K hK=>?_
 simp [init_eq]
 apply hK;clear hK K
 refine cndF rfl (AW_skip ?_)
 repeat refine AW_seq ?_
 refine AW_reg [0,1,13] fun K hK=>?_
 simp [init_eq]
 apply hK;clear hK K
 refine cndF rfl (AW_skip ?_)
 repeat refine AW_seq ?_
 refine AW_reg [0,1,16] fun K hK=>?_
 simp [init_eq]
 apply hK;clear hK K
 refine AW_cond' rfl rfl (fun hc=>?_) (fun hc=>?_)
 · have g:x < y:=by simpa using hc
   repeat refine AW_seq ?_
   refine AW_reg [4] fun K hK=>?_
   simp [init_eq]
   apply hK;clear hK K
   exact AW_ret (end_ret rfl ⟨by rw [cmpI,if_pos g]; rfl,rfl⟩)
 have g:¬ x < y:=by simpa using hc
 refine AW_skip ?_
 repeat refine AW_seq ?_
 refine AW_reg [0,1,19] fun K hK=>?_
 simp [init_eq]
 apply hK;clear hK K
 refine AW_cond' rfl rfl (fun hc=>?_) (fun hc=>?_)
 · have g2:y < x:=by simpa using hc
   repeat refine AW_seq ?_
   refine AW_reg [4] fun K hK=>?_
   simp [init_eq]
   apply hK;clear hK K
   exact AW_ret (end_ret rfl ⟨by rw [cmpI,if_neg g,if_pos g2]; rfl,rfl⟩)
 · have g2:¬ y < x:=by simpa using hc
   refine AW_skip ?_
   repeat refine AW_seq ?_
   refine AW_reg [4] fun K hK=>?_
   simp [init_eq]
   apply hK;clear hK K
   exact AW_ret (end_ret rfl ⟨by rw [cmpI,if_neg g,if_neg g2]; rfl,rfl⟩)
theorem cmpL_drop {xs ys:List Int} (hl:xs.length = ys.length) {i:Nat} (hi:i < xs.length):cmpL (xs.drop i) (ys.drop i) = if cmpI xs[i] (ys[i]'(by omega)) ≠ 0 then cmpI xs[i] (ys[i]'(by omega)) else cmpL (xs.drop (i + 1)) (ys.drop (i + 1)):=by
 rw [List.drop_eq_getElem_cons hi,List.drop_eq_getElem_cons (by omega:i < ys.length)]
 rfl
theorem compareL_ok (H:AH) {v w:V} {xs ys:List Int} (hx:Sl H v 1 (xs.map fun x=>V.i .i64 x)) (hy:Sl H w 1 (ys.map fun x=>V.i .i64 x)) (hl:xs.length = ys.length) (hb:xs.length ≤ 1000000) :
  ACalls Tryz.prog 53 [v,w] H fun r H'=>r = .i .i64 (cmpL xs ys) ∧ H' = H:=by
 have lx:alen Tryz.prog H 92 v = some (.i .i64 xs.length):=by simpa using hx.len (P:=Tryz.prog) (H':=H) (by decide) qelem_92
 have ly:alen Tryz.prog H 92 w = some (.i .i64 ys.length):=by simpa using hy.len (P:=Tryz.prog) (H':=H) (by decide) qelem_92
 refine ACalls_body Tryz.func53 rfl rfl ?_
 repeat refine AW_seq ?_
 refine AW_reg [0,1] fun K hK=>?_
 simp [init_eq]
 apply hK;clear hK K
 repeat refine AW_seq ?_
 refine AW_reg [0,1,9,10,11] fun K hK=>?_
 simp [init_eq,lx]
 apply hK;clear hK K
 refine AW_block ?_
 refine AW_loop0 (fun i:Nat=>⟨36,[(0,v),(1,w),(9,v),(10,.i .i64 xs.length),(11,.i .i64 i)]⟩) (fun i=>i ≤ xs.length ∧ cmpL xs ys = cmpL (xs.drop i) (ys.drop i)) (fun i=>xs.length - i) 0 (by simp) (by simp) (by dsimp only; omega) fun hw i hM=>?_
 repeat refine AW_seq ?_
 refine AW_reg [0,1,9,10,11,12] fun K hK=>?_
 simp [init_eq]
 apply hK;clear hK K
 repeat refine AW_seq ?_
 refine AW_cond' rfl rfl (fun hc=>?_) (fun hc=>?_)
 · have hi:i < xs.length:=by simpa using hc
   have hM2:=hM.2
   rw [cmpL_drop hl hi] at hM2
   obtain ⟨ax,px,qx⟩:=hx.at1 (P:=Tryz.prog) (t:=92) (e:=3) qelem_92 qsize_3 qagg_3 (k:=.i64) (i:=(i:Int)) (by omega) (by simp; omega)
   obtain ⟨ay,py,qy⟩:=hy.at1 (P:=Tryz.prog) (t:=92) (e:=3) qelem_92 qsize_3 qagg_3 (k:=.i64) (i:=(i:Int)) (by omega) (by simp; omega)
   simp only [Int.toNat_natCast,List.getElem?_map,List.getElem?_eq_getElem hi,List.getElem?_eq_getElem (show i < ys.length by omega),Option.map_some] at qx qy
   generalize xs[i] = x at *
   generalize (ys[i]'(by omega)) = y at *
   refine AW_skip ?_
   repeat refine AW_seq ?_
   refine AW_block ?_
   repeat refine AW_seq ?_
   refine AW_reg [0,1,5,6,9,10,11] fun K hK=>?_
   simp [init_eq,px,qx]
   apply hK;clear hK K
   repeat refine AW_seq ?_
   refine AW_reg [0,1,5,6,9,10,11,19] fun K hK=>?_
   simp [init_eq,ly]
   apply hK;clear hK K
   refine cndF (by simp; omega) (AW_skip ?_)
   repeat refine AW_seq ?_
   refine AW_reg [0,1,6,7,9,10,11] fun K hK=>?_
   simp [init_eq,py,qy]
   apply hK;clear hK K
   repeat refine AW_seq ?_
   refine AW_reg [0,1,8,9,10,11] fun K hK=>?_
   simp [init_eq]
   refine ACalls.mono (compare_ok H x y) fun r H' ⟨hr,e⟩=>?_
   subst hr e
   try simp
   apply hK;clear hK K
   repeat refine AW_seq ?_
   refine AW_reg [0,1,8,9,10,11,28] fun K hK=>?_
   simp [init_eq]
   apply hK;clear hK K
   refine AW_cond' rfl rfl (fun hc=>?_) (fun hc=>?_)
   · have g:¬ cmpI x y = 0:=by simpa using hc
     repeat refine AW_seq ?_
     refine AW_reg [4] fun K hK=>?_
     simp [init_eq]
     apply hK;clear hK K
     exact AW_ret (end_ret rfl ⟨by rw [hM2,if_pos g]; rfl,rfl⟩)
   · have g:cmpI x y = 0:=by simpa using hc
     rw [if_neg (by simp [g])] at hM2
     refine AW_skip ?_
     refine AW_reg [0,1,9,10,11] fun K hK=>?_
     simp [init_eq,wrap_id (x:=(i:Int) + 1) (by omega) (by omega)]
     apply hK;clear hK K
     exact rend ⟨i + 1,by simp,⟨by omega,hM2⟩,by omega,.inl rfl⟩
 · have hi : i = xs.length := by have := hM.1
                                 have:¬ i < xs.length:=by simpa using hc
                                 omega
   have e0:cmpL xs ys = 0:=by rw [hM.2,hi,List.drop_length,hl,List.drop_length]; rfl
   refine AW_exit (then_exit (then_exit (block_here ?_)))
   repeat refine AW_seq ?_
   refine AW_reg [0,1,35] fun K hK=>?_
   simp [init_eq,lx,ly]
   apply hK;clear hK K
   refine cndF (by simp; omega) (AW_skip ?_)
   repeat refine AW_seq ?_
   refine AW_reg [4] fun K hK=>?_
   simp [init_eq]
   apply hK;clear hK K
   exact AW_ret (end_ret rfl ⟨by rw [e0]; rfl,rfl⟩)
def rankV (c:Cert):List V:=[.i .i64 c.view,.i .i64 c.cls,.i .i64 c.round]
theorem rank_ok (H:AH) (c:Cert):ACalls Tryz.prog 52 [.agg c.cells] H fun r H'=>r = .agg (rankV c) ∧ H' = H:=by
 refine ACalls.pure (Q:=fun r=>r = .agg (rankV c)) ⟨_,Tryz.func52,rfl,rfl⟩ ?_
 refine ACalls_body Tryz.func52 rfl rfl ?_
 repeat refine AW_seq ?_
 refine AW_reg [1,2] fun K hK=>?_
 simp [init_eq,V.cells]
 obtain ⟨H1,e1,hp,hp2,hn,ho⟩:=H.boxed2 c.cells [.i .i64 0,.i .i64 0,.i .i64 0]
 rw [e1]
 apply hK;clear hK K
 repeat refine AW_seq ?_
 refine AW_reg [1,2,3] fun K hK=>?_
 simp [init_eq]
 apply hK;clear hK K
 refine AW_cut (fun ρ G=>ρ = ⟨13,[(1,.p (some (H.next,0,0))),(2,.p (some (H.next + 1,0,0))),(3,.i .i64 c.cls)]⟩ ∧ G = H1) ?_ fun ρ G ⟨e1,e2⟩=>?_
 · repeat refine AW_seq ?_
   refine AW_reg [1,2,3,6] fun K hK=>?_
   simp [init_eq,afieldAddr,aload,hp]
   apply hK;clear hK K
   refine AW_cond' rfl rfl (fun hc=>?_) (fun hc=>?_)
   · have g:c.kind = 2:=by simpa using hc
     refine AW_reg [1,2,3] fun K hK=>?_
     simp [init_eq]
     apply hK;clear hK K
     exact rend ⟨_,by simp [Cert.cls,g],rfl,rfl⟩
   · have g:¬ c.kind = 2:=by simpa using hc
     exact AW_skip (rend ⟨_,by simp [Cert.cls,g],rfl,rfl⟩)
 subst e1 e2
 have hq:qplaces Tryz.prog 104 = none:=by kernel_rfl
 have hab:abuild Tryz.prog 104 [(0,.i .i64 c.view),(1,.i .i64 c.cls),(2,.i .i64 c.round)] = some (.agg (rankV c)):=by simp [abuild,hq,afill,V.cells,splice,rankV]
 have hst:astore Tryz.prog G 104 (.p (some (H.next + 1,0,0))) (.agg (rankV c)) = some (G.set (H.next + 1) (.cells (rankV c) 0 false 0)):=by simp [astore,hp2,V.cells,splice,rankV]
 repeat refine AW_seq ?_
 refine AW_reg [2] fun K hK=>?_
 simp [init_eq,afieldAddr,aload,hp,hab,hst]
 apply hK;clear hK K
 exact AW_ret (end_ret (ares_cell (v:=.agg (rankV c)) (by simp [aload,AH.get_set,hn,rankV])) ⟨rfl,rfl,by simp; omega,fun j hj=>by rw [AH.get_set_ne (by omega)]; exact ho j hj⟩)
theorem rs_arr {G:AH} {i:Nat} {c:Cert} {b:Bool} (h:G.get i = some (.cells (rankV c) 0 false 0)):Sl G (.sl (some (i,0,0)) 3 b) 1 (c.rank.map fun x=>V.i .i64 x) :=
 .inr ⟨i,0,0,3,b,rankV c,false,0,rfl,h,Nat.le_refl _,rfl⟩
theorem certCmp_ok (H:AH) (a b:Cert):ACalls Tryz.prog 20 [.agg a.cells,.agg b.cells] H fun r H'=>r = .i .i64 (cmpC a b) ∧ H' = H:=by
 refine ACalls.pure (Q:=fun r=>r = .i .i64 (cmpC a b)) ⟨_,Tryz.func20,rfl,rfl⟩ ?_
 refine ACalls_body Tryz.func20 rfl rfl ?_
 repeat refine AW_seq ?_
 refine AW_reg [2,3] fun K hK=>?_
 simp [init_eq,V.cells]
 obtain ⟨H1,e1,hp,hp2,hn,ho⟩:=H.boxed2 a.cells b.cells
 rw [e1]
 apply hK;clear hK K
 refine AW_cut (fun ρ G=>∃ i j,ρ = ⟨14,[(5,.p (some (i,0,0))),(6,.p (some (j,0,0)))]⟩ ∧ G.get i = some (.cells (rankV a) 0 false 0) ∧ G.get j = some (.cells (rankV b) 0 false 0) ∧ Upd H1 G []) ?_ fun ρ G ⟨i,j,e1,g1,g2,u⟩=>?_
 · have hla:aload Tryz.prog H1 24 (.p (some (H.next,0,0))) = some (.agg a.cells):=by simp [aload,hp,take_cells]
   have hlb:aload Tryz.prog H1 24 (.p (some (H.next + 1,0,0))) = some (.agg b.cells):=by simp [aload,hp2,take_cells]
   refine AW_regd [5,6] pl_20_1 pe_20_1 (by kernel_rfl) (by kernel_rfl) (by decide) fun K hK=>?_
   have hK':∀ i j G,G.get i = some (.cells (rankV a) 0 false 0) → G.get j = some (.cells (rankV b) 0 false 0) → H1.next ≤ G.next → (∀ j,j < H1.next → G.get j = H1.get j) → K ⟨14,[(5,.p (some (i,0,0))),(6,.p (some (j,0,0)))]⟩ G:=fun i j G h1 h2 h3 h4=>hK _ _ (rend ⟨_,by simp,i,j,rfl,h1,h2,h3,fun j hj _=>h4 j hj⟩)
   clear hK
   simp [init_eq,pl_20_1,hla,hlb]
   have hc3:(V.agg [V.i .i64 0,V.i .i64 0,V.i .i64 0]).cells = some [V.i .i64 0,V.i .i64 0,V.i .i64 0]:=rfl
   have stA:∀ (M:AH) (i:Nat) (c:Cert),M.get i = some (.cells [V.i .i64 0,V.i .i64 0,V.i .i64 0] 0 false 0) → astore Tryz.prog M 104 (.p (some (i,0,0))) (.agg (rankV c)) = some (M.set i (.cells (rankV c) 0 false 0)):=fun M i c h=>by simp [astore,h,V.cells,splice,rankV]
   have lt2:∀ n:Nat,n < n + 1 + 1:=fun n=>by omega
   repeat' first
    | exact AH.ext.refl _
    | exact AH.ext.new ..
    | (refine ACalls.mono (rank_ok _ a) fun r G ⟨hr,e⟩=>?_; subst hr e)
    | (refine ACalls.mono (rank_ok _ b) fun r G ⟨hr,e⟩=>?_; subst hr e)
    | refine And.intro ?_ ?_
    | refine ⟨_,hc3,?_⟩
    | refine ⟨_,stA _ _ _ (by simp [AH.get_set,AH.get_new]),?_⟩
    | exact hK' _ _ _ (by simp [AH.get_set,AH.get_new,lt2]) (by simp [AH.get_set,AH.get_new,lt2]) (by simp; omega) (fun j hj=>by simp [AH.get_set,AH.get_new,Nat.ne_of_lt hj,show j ≠ _ + 1 from Nat.ne_of_lt (Nat.lt_succ_of_lt hj)])
 subst e1
 have r1:=rs_arr (b:=true) g1
 have r2:=rs_arr (b:=true) g2
 have s1:aslice Tryz.prog G 104 (.p (some (i,0,0))) none none none = some (.sl (some (i,0,0)) 3 true):=by simp [aslice,g1,abound,rankV]
 have s2:aslice Tryz.prog G 104 (.p (some (j,0,0))) none none none = some (.sl (some (j,0,0)) 3 true):=by simp [aslice,g2,abound,rankV]
 repeat refine AW_seq ?_
 refine AW_regd [4] pl_20_2 pe_20_2 (by kernel_rfl) (by kernel_rfl) (by decide) fun K hK=>?_
 simp [init_eq,pl_20_2,s1,s2]
 refine ACalls.mono (compareL_ok G r1 r2 rfl (by simp [Cert.rank])) fun r G' ⟨hr,e⟩=>?_
 subst hr e
 try simp
 apply hK;clear hK K
 exact AW_ret (end_ret rfl ⟨rfl,rfl,by have:=u.1; omega,fun k hk=>by rw [u.2 k (by omega) (by simp),ho k hk]⟩)
theorem certMax_ok (H:AH) (a b:Cert):ACalls Tryz.prog 46 [.agg a.cells,.agg b.cells] H fun r H'=>r = .agg (maxC a b).cells ∧ H' = H:=by
 refine ACalls.pure (Q:=fun r=>r = .agg (maxC a b).cells) ⟨_,Tryz.func46,rfl,rfl⟩ ?_
 refine ACalls_body Tryz.func46 rfl rfl ?_
 repeat refine AW_seq ?_
 refine AW_reg [2,3,4] fun K hK=>?_
 simp [init_eq,V.cells]
 apply hK;clear hK K
 obtain ⟨H1,e1,hp,hp2,hp3,hn,ho⟩:=H.boxed3 a.cells b.cells Cert.zero.cells
 show AThen _ _ _ _ (((H.new (O.cells a.cells 0 false 0)).new (O.cells b.cells 0 false 0)).new (O.cells Cert.zero.cells 0 false 0))
 rw [e1]
 have hla:aload Tryz.prog H1 24 (.p (some (H.next,0,0))) = some (.agg a.cells):=by simp [aload,hp,take_cells]
 have hlb:aload Tryz.prog H1 24 (.p (some (H.next + 1,0,0))) = some (.agg b.cells):=by simp [aload,hp2,take_cells]
 have hst:∀ c:Cert,astore Tryz.prog H1 24 (.p (some (H.next + 2,0,0))) (.agg c.cells) = some (H1.set (H.next + 2) (.cells c.cells 0 false 0)):=fun c=>by simp [astore,hp3,V.cells,show splice Cert.zero.cells 0 c.cells = c.cells from rfl]
 have hend:∀ (c:Cert) (ρ:Env),ρ.get 4 = .p (some (H.next + 2,0,0)) → c = maxC a b → AEnd Tryz.prog Tryz.f46 (fun r H'=>r = .agg (maxC a b).cells ∧ V.lt H.next r = true ∧ H.next ≤ H'.next ∧ ∀ j,j < H.next → H'.get j = H.get j) .ret ρ (H1.set (H.next + 2) (.cells c.cells 0 false 0)):=fun c ρ h1 h2 =>
  end_ret (ares_cell (v:=.agg c.cells) (by rw [h1]; simp [aload,AH.get_set,hn,take_cells])) ⟨by rw [h2],rfl,by simp; omega,fun j hj=>by rw [AH.get_set_ne (by omega)]; exact ho j hj⟩
 repeat refine AW_seq ?_
 refine AW_reg [2,3,4,8] fun K hK=>?_
 simp [init_eq,hla,hlb]
 refine ACalls.mono (certCmp_ok H1 a b) fun r G' ⟨hr,e⟩=>?_
 subst hr e
 try simp
 apply hK;clear hK K
 refine AW_cond' rfl rfl (fun hc=>?_) (fun hc=>?_)
 · have g:cmpC a b < 0:=by simpa using hc
   repeat refine AW_seq ?_
   refine AW_reg [4] fun K hK=>?_
   simp [init_eq,hlb,hst]
   apply hK;clear hK K
   exact AW_ret (hend _ _ rfl (by rw [maxC,if_pos g]))
 · have g:¬ cmpC a b < 0:=by simpa using hc
   refine AW_skip ?_
   repeat refine AW_seq ?_
   refine AW_reg [4] fun K hK=>?_
   simp [init_eq,hla,hst]
   apply hK;clear hK K
   exact AW_ret (hend _ _ rfl (by rw [maxC,if_neg g]))
/-! The document's. -/
theorem rless_ok (H:AH) (b:Bool):ACalls Tryz.prog 109 [.b b] H fun r H'=>r = .i .i64 (if b then -1 else 1) ∧ H' = H:=by
 refine ACalls_body Tryz.func109 rfl rfl ?_
 repeat refine AW_seq ?_
 refine AW_reg [0] fun K hK=>?_
 simp [init_eq]
 apply hK;clear hK K
 repeat refine AW_seq ?_
 refine AW_reg [3] fun K hK=>?_
 simp [init_eq]
 apply hK;clear hK K
 refine AW_cond' rfl rfl (fun hc=>?_) (fun hc=>?_)
 · have g:b = true:=hc
   repeat refine AW_seq ?_
   refine AW_reg [2] fun K hK=>?_
   simp [init_eq]
   apply hK;clear hK K
   exact AW_ret (end_ret rfl ⟨by rw [g]; rfl,rfl⟩)
 · have g:b = false:=hc
   refine AW_skip ?_
   repeat refine AW_seq ?_
   refine AW_reg [2] fun K hK=>?_
   simp [init_eq]
   apply hK;clear hK K
   exact AW_ret (end_ret rfl ⟨by rw [g]; rfl,rfl⟩)
theorem cmpL3 (x y z x' y' z':Int):cmpL [x,y,z] [x',y',z'] = if ¬ x = x' then cmpI x x' else if ¬ y = y' then cmpI y y' else cmpI z z':=by
 have h:∀ u v:Int,(cmpI u v ≠ 0) = (¬ u = v):=fun u v=>propext (not_congr cmpI_zero)
 simp only [cmpL,h]
 by_cases h1:z = z'
 · have e:cmpI z z' = 0:=cmpI_zero.2 h1
   rw [if_neg (not_not_intro h1),e]
 · rw [if_pos h1]
theorem cmpI_ne {x y:Int} (h:¬ x = y):cmpI x y = if x < y then -1 else 1:=by
 unfold cmpI
 by_cases h1:x < y
 · rw [if_pos h1,if_pos h1]
 · rw [if_neg h1,if_neg h1,if_pos (by omega)]
theorem cls_eq (a b:Cert):(a.cls = b.cls) ↔ ((a.kind = 2) ↔ (b.kind = 2)):=by
 unfold Cert.cls
 by_cases h1:a.kind = 2
 · by_cases h2:b.kind = 2
   · simp [h1,h2]
   · simp [h1,h2]
 · by_cases h2:b.kind = 2
   · simp [h1,h2]
   · simp [h1,h2]
theorem cls_lt {a b:Cert} (h:¬ ((a.kind = 2) ↔ (b.kind = 2))):(a.cls < b.cls) ↔ b.kind = 2:=by
 unfold Cert.cls
 by_cases h1:a.kind = 2
 · by_cases h2:b.kind = 2
   · exact absurd (by simp [h1,h2]) h
   · simp [h1,h2]
 · by_cases h2:b.kind = 2
   · simp [h1,h2]
   · exact absurd (by simp [h1,h2]) h
theorem cmpC_def (a b:Cert):cmpC a b = if ¬ a.view = b.view then (if a.view < b.view then -1 else 1) else if ¬ ((a.kind = 2) ↔ (b.kind = 2)) then (if b.kind = 2 then -1 else 1) else if ¬ a.round = b.round then (if a.round < b.round then -1 else 1) else 0:=by
 unfold cmpC Cert.rank
 rw [cmpL3]
 by_cases g1:a.view = b.view
 · rw [if_neg (not_not_intro g1),if_neg (not_not_intro g1)]
   by_cases g2:(a.kind = 2) ↔ (b.kind = 2)
   · rw [if_neg (not_not_intro ((cls_eq a b).2 g2)),if_neg (not_not_intro g2)]
     by_cases g3:a.round = b.round
     · rw [if_neg (not_not_intro g3),cmpI_zero.2 g3]
     · rw [if_pos g3,cmpI_ne g3]
   · have e:¬ a.cls = b.cls:=fun k=>g2 ((cls_eq a b).1 k)
     rw [if_pos e,if_pos g2,cmpI_ne e]
     by_cases g4:b.kind = 2
     · rw [if_pos g4,if_pos ((cls_lt g2).2 g4)]
     · rw [if_neg g4,if_neg (fun k=>g4 ((cls_lt g2).1 k))]
 · rw [if_pos g1,if_pos g1,cmpI_ne g1]
theorem rcmp_ok (H:AH) (a b:Cert):ACalls Tryz.prog 68 [.agg a.cells,.agg b.cells] H fun r H'=>r = .i .i64 (cmpC a b) ∧ H' = H:=by
 refine ACalls.pure (Q:=fun r=>r = .i .i64 (cmpC a b)) ⟨_,Tryz.func68,rfl,rfl⟩ ?_
 refine ACalls_body Tryz.func68 rfl rfl ?_
 have hd:=cmpC_def a b
 repeat refine AW_seq ?_
 refine AW_reg [2,3] fun K hK=>?_
 simp [init_eq,V.cells]
 obtain ⟨H1,e1,hp,hp2,hn,ho⟩:=H.boxed2 a.cells b.cells
 rw [e1]
 apply hK;clear hK K
 repeat refine AW_seq ?_
 refine AW_reg [2,3,9] fun K hK=>?_
 simp [init_eq,afieldAddr,aload,hp,hp2]
 apply hK;clear hK K
 refine AW_cond' rfl rfl (fun hc=>?_) (fun hc=>?_)
 · have g:¬ a.view = b.view:=by simpa using hc
   repeat refine AW_seq ?_
   refine AW_reg [4] fun K hK=>?_
   simp [init_eq,afieldAddr,aload,hp,hp2]
   refine ACalls.mono (rless_ok ..) fun r G ⟨hr,e⟩=>?_
   subst hr e
   try simp
   apply hK;clear hK K
   exact AW_ret (end_ret rfl (pure_end hn ho (by rw [hd,if_pos g]; simp) rfl))
 have g:a.view = b.view:=by simpa using hc
 rw [if_neg (by simp [g])] at hd
 refine AW_skip ?_
 repeat refine AW_seq ?_
 refine AW_reg [2,3,22] fun K hK=>?_
 simp [init_eq,afieldAddr,aload,hp,hp2]
 apply hK;clear hK K
 refine AW_cond' rfl rfl (fun hc=>?_) (fun hc=>?_)
 · have g2:¬ ((a.kind = 2) ↔ (b.kind = 2)):=by simpa using hc
   repeat refine AW_seq ?_
   refine AW_reg [4] fun K hK=>?_
   simp [init_eq,afieldAddr,aload,hp,hp2]
   refine ACalls.mono (rless_ok ..) fun r G ⟨hr,e⟩=>?_
   subst hr e
   try simp
   apply hK;clear hK K
   exact AW_ret (end_ret rfl (pure_end hn ho (by rw [hd,if_pos g2]; simp) rfl))
 have g2:(a.kind = 2) ↔ (b.kind = 2):=by simpa using hc
 rw [if_neg (by simp [g2])] at hd
 refine AW_skip ?_
 repeat refine AW_seq ?_
 refine AW_reg [2,3,31] fun K hK=>?_
 simp [init_eq,afieldAddr,aload,hp,hp2]
 apply hK;clear hK K
 refine AW_cond' rfl rfl (fun hc=>?_) (fun hc=>?_)
 · have g3:¬ a.round = b.round:=by simpa using hc
   repeat refine AW_seq ?_
   refine AW_reg [4] fun K hK=>?_
   simp [init_eq,afieldAddr,aload,hp,hp2]
   refine ACalls.mono (rless_ok ..) fun r G ⟨hr,e⟩=>?_
   subst hr e
   try simp
   apply hK;clear hK K
   exact AW_ret (end_ret rfl (pure_end hn ho (by rw [hd,if_pos g3]; simp) rfl))
 · have g3:a.round = b.round:=by simpa using hc
   rw [if_neg (by simp [g3])] at hd
   refine AW_skip ?_
   repeat refine AW_seq ?_
   refine AW_reg [4] fun K hK=>?_
   simp [init_eq]
   apply hK;clear hK K
   exact AW_ret (end_ret rfl (pure_end hn ho (by rw [hd]; rfl) rfl))
theorem rmax_ok (H:AH) (a b:Cert):ACalls Tryz.prog 69 [.agg a.cells,.agg b.cells] H fun r H'=>r = .agg (maxC a b).cells ∧ H' = H:=by
 refine ACalls.pure (Q:=fun r=>r = .agg (maxC a b).cells) ⟨_,Tryz.func69,rfl,rfl⟩ ?_
 refine ACalls_body Tryz.func69 rfl rfl ?_
 repeat refine AW_seq ?_
 refine AW_reg [2,3,4] fun K hK=>?_
 simp [init_eq,V.cells]
 apply hK;clear hK K
 obtain ⟨H1,e1,hp,hp2,hp3,hn,ho⟩:=H.boxed3 a.cells b.cells Cert.zero.cells
 show AThen _ _ _ _ (((H.new (O.cells a.cells 0 false 0)).new (O.cells b.cells 0 false 0)).new (O.cells Cert.zero.cells 0 false 0))
 rw [e1]
 have hla:aload Tryz.prog H1 24 (.p (some (H.next,0,0))) = some (.agg a.cells):=by simp [aload,hp,take_cells]
 have hlb:aload Tryz.prog H1 24 (.p (some (H.next + 1,0,0))) = some (.agg b.cells):=by simp [aload,hp2,take_cells]
 have hst:∀ c:Cert,astore Tryz.prog H1 24 (.p (some (H.next + 2,0,0))) (.agg c.cells) = some (H1.set (H.next + 2) (.cells c.cells 0 false 0)):=fun c=>by simp [astore,hp3,V.cells,show splice Cert.zero.cells 0 c.cells = c.cells from rfl]
 have hend:∀ (c:Cert) (ρ:Env),ρ.get 4 = .p (some (H.next + 2,0,0)) → c = maxC a b → AEnd Tryz.prog Tryz.f69 (fun r H'=>r = .agg (maxC a b).cells ∧ V.lt H.next r = true ∧ H.next ≤ H'.next ∧ ∀ j,j < H.next → H'.get j = H.get j) .ret ρ (H1.set (H.next + 2) (.cells c.cells 0 false 0)):=fun c ρ h1 h2 =>
  end_ret (ares_cell (v:=.agg c.cells) (by rw [h1]; simp [aload,AH.get_set,hn,take_cells])) ⟨by rw [h2],rfl,by simp; omega,fun j hj=>by rw [AH.get_set_ne (by omega)]; exact ho j hj⟩
 repeat refine AW_seq ?_
 refine AW_reg [2,3,4,8] fun K hK=>?_
 simp [init_eq,hla,hlb]
 refine ACalls.mono (rcmp_ok H1 a b) fun r G' ⟨hr,e⟩=>?_
 subst hr e
 try simp
 apply hK;clear hK K
 refine AW_cond' rfl rfl (fun hc=>?_) (fun hc=>?_)
 · have g:cmpC a b < 0:=by simpa using hc
   repeat refine AW_seq ?_
   refine AW_reg [4] fun K hK=>?_
   simp [init_eq,hlb,hst]
   apply hK;clear hK K
   exact AW_ret (hend _ _ rfl (by rw [maxC,if_pos g]))
 · have g:¬ cmpC a b < 0:=by simpa using hc
   refine AW_skip ?_
   repeat refine AW_seq ?_
   refine AW_reg [4] fun K hK=>?_
   simp [init_eq,hla,hst]
   apply hK;clear hK K
   exact AW_ret (hend _ _ rfl (by rw [maxC,if_neg g]))
end Go.Proofs.YtaidfojbnfkclaaGreatDoor
