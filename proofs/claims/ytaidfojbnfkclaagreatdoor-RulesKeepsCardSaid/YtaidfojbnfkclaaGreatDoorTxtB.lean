/-
  Contracts of the program's functions (TxtB). No conditions of my own.
-/
import Derived.Test.YtaidfojbnfkclaaGreatDoorTxtA
import Derived.Test.YtaidfojbnfkclaaGreatDoorAbsC
set_option linter.unusedVariables false
set_option linter.unusedSimpArgs false
namespace Go.Proofs.YtaidfojbnfkclaaGreatDoor
open Go Go.Abs Go.Proofs
set_option maxRecDepth 100000
attribute [local irreducible] AEnd AW ACalls
def spanHas (a b x c:Int):Bool:=decide (a ≤ c) && decide (c ≤ b) && !decide (c = x)
theorem has_ok (H:AH) (a b x c:Int):ACalls Tryz.prog 133 [.agg [.i .i32 a,.i .i32 b,.i .i32 x],.i .i32 c] H fun r H'=>r = .b (spanHas a b x c) ∧ H' = H:=by
 refine ACalls.pure (Q:=fun r=>r = .b (spanHas a b x c)) ⟨_,Tryz.func133,rfl,rfl⟩ ?_
 refine ACalls_body Tryz.func133 rfl rfl ?_
 refine AW_seq ?_
 refine AW_reg [1,2] fun K hK=>?_
 simp [init_eq,V.cells]
 obtain ⟨H1,e1,hp,hn,ho⟩:=H.boxed [.i .i32 a,.i .i32 b,.i .i32 x]
 rw [e1]
 apply hK;clear hK K
 refine AW_seq ?_
 refine AW_regto [4] ⟨21,[(4,.b (spanHas a b x c))]⟩ H1 (fun K hk=>?_) (AW_ret (end_ret rfl (pure_end hn ho rfl rfl)))
 by_cases h1:a ≤ c
 case neg=>simpa [init_eq,afieldAddr,aload,hp,h1,spanHas] using hk
 by_cases h2:c ≤ b
 case neg=>simpa [init_eq,afieldAddr,aload,hp,h1,h2,spanHas] using hk
 simpa [init_eq,afieldAddr,aload,hp,h1,h2,spanHas] using hk
def spans:List (Int × Int × Int):=[(97,122,0),(48,57,0),(95,95,0),(45,45,0),(223,255,247),(945,969,0)]
def letterI (c:Int):Bool:=spans.any fun s=>spanHas s.1 s.2.1 s.2.2 c
theorem letterI_nat (c:Nat):letterI c = letterB c:=by
 rw [Bool.eq_iff_iff]
 simp [letterI,spans,spanHas,letterB]
 omega
def spanCells:List V:=(spans.map fun s=>[V.i .i32 s.1,.i .i32 s.2.1,.i .i32 s.2.2]).flatten
theorem letter_ok (H:AH) (c:Int):ACalls Tryz.prog 104 [.i .i32 c] H fun r H'=>r = .b (letterI c) ∧ H' = H:=by
 refine ACalls.pure (Q:=fun r=>r = .b (letterI c)) ⟨_,Tryz.func104,rfl,rfl⟩ ?_
 refine ACalls_body Tryz.func104 rfl rfl ?_
 refine AW_seq ?_
 refine AW_reg [0] fun K hK=>?_
 simp [init_eq]
 apply hK;clear hK K
 refine AW_seq ?_
 refine AW_seq ?_
 refine AW_regto [0,11,12] ⟨19,[(0,.i .i32 c),(11,.agg spanCells),(12,.i .i64 0)]⟩ H (fun K hk=>?_) ?_
 · have hb1:∀ a b x:Int,abuild Tryz.prog 171 [(0,.i .i32 a),(1,.i .i32 b),(2,.i .i32 x)] = some (.agg [.i .i32 a,.i .i32 b,.i .i32 x]):=fun a b x=>by simp [abuild,afill,V.cells,splice_zero,splice_succ]
   have hb2:abuild Tryz.prog 172 [(0,.agg [.i .i32 97,.i .i32 122,.i .i32 0]),(1,.agg [.i .i32 48,.i .i32 57,.i .i32 0]),(2,.agg [.i .i32 95,.i .i32 95,.i .i32 0]),(3,.agg [.i .i32 45,.i .i32 45,.i .i32 0]),(4,.agg [.i .i32 223,.i .i32 255,.i .i32 247]),(5,.agg [.i .i32 945,.i .i32 969,.i .i32 0])] = some (.agg spanCells):=by kernel_rfl
   simp [init_eq,hb1,hb2]
   exact hk
 refine AW_block ?_
 refine AW_loop0 (fun i:Nat=>⟨19,[(0,.i .i32 c),(11,.agg spanCells),(12,.i .i64 i)]⟩) (fun i=>i ≤ 6 ∧ (spans.take i).any (fun s=>spanHas s.1 s.2.1 s.2.2 c) = false) (fun i=>6 - i) 0 (by simp) (by simp) (by dsimp only; omega) fun hw i hM=>?_
 refine AW_seq ?_
 refine AW_reg [0,11,12,13] fun K hK=>?_
 simp [init_eq]
 apply hK;clear hK K
 refine AW_seq ?_
 refine AW_cond' rfl rfl (fun hc=>?_) (fun hc=>?_)
 · have hi:i < 6:=by simp at hc; omega
   have hs:i < spans.length:=hi
   have hx:aindex Tryz.prog 172 (.agg spanCells) (.i .i64 i) = some (.agg [.i .i32 spans[i].1,.i .i32 spans[i].2.1,.i .i32 spans[i].2.2]):=by
    have:i = 0 ∨ i = 1 ∨ i = 2 ∨ i = 3 ∨ i = 4 ∨ i = 5:=by omega
    rcases this with rfl | rfl | rfl | rfl | rfl | rfl <;> simp [aindex,spanCells,spans]
   refine AW_skip ?_
   refine AW_seq ?_
   refine AW_block ?_
   refine AW_seq ?_
   refine AW_reg [0,4,11,12] fun K hK=>?_
   simp [init_eq,hx,astore,AH.get_new,V.cells,splice_all]
   apply hK;clear hK K
   generalize hH1:(H.new _).set H.next _ = H1
   have hp:H1.get H.next = some (.cells [.i .i32 spans[i].1,.i .i32 spans[i].2.1,.i .i32 spans[i].2.2] 0 false 0):=by rw [← hH1]; simp [AH.get_set]
   have hn:H1.next = H.next + 1:=by rw [← hH1]; simp
   have ho:∀ j,j < H.next → H1.get j = H.get j:=fun j hj=>by rw [← hH1]; simp [AH.get_set,AH.get_new,show j ≠ H.next by omega]
   refine AW_seq ?_
   refine AW_reg [0,11,12,17] fun K hK=>?_
   simp [init_eq,aload,hp]
   refine ACalls.mono (has_ok ..) fun r H' ⟨hr,e⟩=>?_
   subst hr e
   try simp
   apply hK;clear hK K
   refine AW_cond' rfl rfl (fun hc=>?_) (fun hc=>?_)
   · have hg:spanHas spans[i].1 spans[i].2.1 spans[i].2.2 c = true:=by simpa using hc
     refine AW_seq ?_
     refine AW_reg [2] fun K hK=>?_
     simp [init_eq]
     apply hK;clear hK K
     refine AW_ret (end_ret rfl (pure_end hn ho ?_ rfl))
     have:letterI c = true:=List.any_eq_true.2 ⟨spans[i],List.getElem_mem hs,hg⟩
     simp [this]
   · have hg:spanHas spans[i].1 spans[i].2.1 spans[i].2.2 c = false:=by simpa using hc
     refine AW_skip ?_
     refine AW_reg [0,11,12] fun K hK=>?_
     simp [init_eq,wrap_id (x:=(i:Int) + 1) (by omega) (by omega)]
     apply hK;clear hK K
     refine rend ⟨i + 1,by simp,⟨by omega,?_⟩,by omega,.inr ⟨by omega,ho,by simp [spanCells,spans]⟩⟩
     rw [List.take_succ_eq_append_getElem hs,List.any_append,hM.2]; simp [hg]
 · have hi:i = 6:=by
     have:¬ i < 6:=by simp at hc; omega
     omega
   subst hi
   refine AW_exit (then_exit (then_exit (block_here ?_)))
   refine AW_seq ?_
   refine AW_reg [2] fun K hK=>?_
   simp [init_eq]
   apply hK;clear hK K
   refine AW_ret (end_ret rfl ⟨?_,rfl,Nat.le_refl _,fun j hj=>rfl⟩)
   have:letterI c = false:=hM.2
   simp [this]
theorem rtail_ok (H:AH) (s:List UInt8) (i:Nat) (hi:i ≤ 4):ACalls Tryz.prog 154 [.s s,.i .i64 i] H fun r H'=>r = .i .i64 (if bcont s i then (bat s i:Int) - 128 else -1) ∧ H' = H:=by
 refine ACalls_body Tryz.func154 rfl rfl ?_
 refine AW_seq ?_
 refine AW_reg [0,1] fun K hK=>?_
 simp [init_eq]
 apply hK;clear hK K
 refine AW_seq ?_
 refine AW_seq ?_
 have hx:i < s.length → aindex Tryz.prog 9 (.s s) (.i .i64 i) = some (.i .u8 (bat s i)):=fun h=>by
  simp [aindex,bat,List.getD,h]
 have h256:=bat_lt s i
 refine AW_regto [0,1,22] ⟨28,[(0,.s s),(1,.i .i64 i),(22,.b (bcont s i))]⟩ H (fun K hk=>?_) ?_
 · by_cases h1:i < s.length
   · by_cases h2:128 ≤ bat s i
     · have h2':(128:Int) ≤ bat s i:=by omega
       simp [init_eq,alen,h1,hx h1,conv_int,wrap_id (x:=(bat s i:Int)) (by omega) (by omega),h2']
       have:((bat s i:Int) < 192) = (bat s i < 192):=propext (by omega)
       simpa [bcont,h1,h2,this] using hk
     · have h2':¬ (128:Int) ≤ bat s i:=by omega
       simp [init_eq,alen,h1,hx h1,conv_int,wrap_id (x:=(bat s i:Int)) (by omega) (by omega),h2']
       simpa [bcont,h1,h2] using hk
   · simp [init_eq,alen,h1]
     simpa [bcont,h1] using hk
 refine AW_cond' rfl rfl (fun hc=>?_) (fun hc=>?_)
 · have hc':bcont s i = true:=hc
   have h1:i < s.length:=((bcont_iff s i).1 hc').1
   refine AW_seq ?_
   refine AW_reg [4] fun K hK=>?_
   simp [init_eq,hx h1,conv_int,wrap_id (x:=(bat s i:Int)) (by omega) (by omega),wrap_id (x:=(bat s i:Int) - 128) (by omega) (by omega)]
   apply hK;clear hK K
   refine AW_ret (end_ret rfl ?_)
   simp [hc']
 · have hc':bcont s i = false:=hc
   refine AW_skip ?_
   refine AW_seq ?_
   refine AW_reg [4] fun K hK=>?_
   simp [init_eq]
   apply hK;clear hK K
   refine AW_ret (end_ret rfl ?_)
   simp [hc']
end Go.Proofs.YtaidfojbnfkclaaGreatDoor
set_option linter.unusedVariables false
set_option linter.unusedSimpArgs false
namespace Go.Proofs.YtaidfojbnfkclaaGreatDoor
open Go Go.Abs Go.Proofs
set_option maxRecDepth 100000
attribute [local irreducible] AEnd AW ACalls
def letterR (c:Int):Bool:=(decide (97 ≤ c) && decide (c ≤ 122)) || (decide (48 ≤ c) && decide (c ≤ 57)) || decide (c = 95) || decide (c = 45) || (decide (223 ≤ c) && decide (c ≤ 255) && !decide (c = 247)) || (decide (945 ≤ c) && decide (c ≤ 969))
theorem letterR_nat (c:Nat):letterR c = letterB c:=by
 rw [Bool.eq_iff_iff]
 simp [letterR,letterB]
 omega
theorem rletter_ok (H:AH) (c:Int):ACalls Tryz.prog 141 [.i .i64 c] H fun r H'=>r = .b (letterR c) ∧ H' = H:=by
 refine ACalls_body Tryz.func141 rfl rfl ?_
 refine AW_seq ?_
 refine AW_reg [0] fun K hK=>?_
 simp [init_eq]
 apply hK;clear hK K
 refine AW_seq ?_
 refine AW_regto [2] ⟨45,[(2,.b (letterR c))]⟩ H (fun K hk=>?_) (AW_ret (end_ret rfl ⟨rfl,rfl⟩))
 by_cases h1:97 ≤ c <;> by_cases h2:c ≤ 122 <;> (try (exfalso; omega)) <;> by_cases h3:48 ≤ c <;> (try (exfalso; omega)) <;> by_cases h4:c ≤ 57 <;> (try (exfalso; omega)) <;> by_cases h5:c = 95 <;> (try (exfalso; omega)) <;> by_cases h6:c = 45 <;> (try (exfalso; omega)) <;> by_cases h7:223 ≤ c <;> (try (exfalso; omega)) <;> by_cases h8:c ≤ 255 <;> (try (exfalso; omega)) <;> by_cases h9:c = 247 <;> (try (exfalso; omega)) <;> by_cases h10:945 ≤ c <;> (try (exfalso; omega)) <;> by_cases h11:c ≤ 969 <;> (try (exfalso; omega)) <;> simpa [init_eq,h1,h2,h3,h4,h5,h6,h7,h8,h9,h10,h11,letterR] using hk
set_option maxHeartbeats 2000000 in
theorem rstep_ok (H:AH) (s:List UInt8) (hs:s ≠ []):ACalls Tryz.prog 151 [.s s] H fun r H'=>r = .tup [.i .i64 (dec s).1,.i .i64 (dec s).2,.b (decOk s)] ∧ H' = H:=by
 have hl:0 < s.length:=List.length_pos_iff.2 hs
 refine ACalls_body Tryz.func151 rfl rfl ?_
 refine AW_seq ?_
 refine AW_reg [0] fun K hK=>?_
 simp [init_eq]
 apply hK;clear hK K
 have hx:aindex Tryz.prog 9 (.s s) (.i .i64 0) = some (.i .u8 (bat s 0)):=by simp [aindex,bat,List.getD,hl]
 have h256:=bat_lt s 0
 refine AW_seq ?_
 refine AW_reg [0,5] fun K hK=>?_
 simp [init_eq,hx,conv_int,wrap_id (x:=(bat s 0:Int)) (by omega) (by omega)]
 apply hK;clear hK K
 refine AW_seq ?_
 refine AW_seq ?_
 refine AW_reg [0,5,16] fun K hK=>?_
 simp [init_eq]
 apply hK;clear hK K
 refine AW_cond' rfl rfl (fun hc=>?_) (fun hc=>?_)
 · have h0:bat s 0 < 128:=by simp at hc; omega
   have hd:dec s = (bat s 0,1):=by unfold dec; rw [if_pos h0]
   refine AW_seq ?_
   refine AW_reg [2,3,4] fun K hK=>?_
   simp [init_eq]
   apply hK;clear hK K
   refine AW_ret (end_ret rfl ?_)
   have:¬ bat s 0 = 65533:=by omega
   simp [hd,decOk,this]
 have h0:¬ bat s 0 < 128:=by simp at hc; omega
 refine AW_skip ?_
 refine AW_seq ?_
 refine AW_reg [5,6,7,8] fun K hK=>?_
 simp [init_eq]
 refine ACalls.mono (rtail_ok H s 1 (by omega)) fun r H' ⟨hr,e⟩=>?_
 subst hr e
 try simp
 refine ACalls.mono (rtail_ok H' s 2 (by omega)) fun r H' ⟨hr,e⟩=>?_
 subst hr e
 try simp
 refine ACalls.mono (rtail_ok H' s 3 (by omega)) fun r H' ⟨hr,e⟩=>?_
 subst hr e
 try simp
 apply hK;clear hK K
 have g1:=bcont_iff s 1
 have g2:=bcont_iff s 2
 have g3:=bcont_iff s 3
 have gb:∀ i,(bcont s i = true ∧ 128 ≤ bat s i ∧ bat s i < 192 ∧ (if bcont s i then (bat s i:Int) - 128 else -1) = (bat s i:Int) - 128) ∨ (bcont s i = false ∧ (if bcont s i then (bat s i:Int) - 128 else -1) = -1):=fun i=>by
  cases h:bcont s i
  · exact .inr ⟨rfl,rfl⟩
  · have:=(bcont_iff s i).1 h; exact .inl ⟨rfl,this.2.1,this.2.2,rfl⟩
 have gb1:=gb 1
 have gb2:=gb 2
 have gb3:=gb 3
 clear gb
 generalize (if bcont s 1 then (bat s 1:Int) - 128 else -1) = b at gb1 ⊢
 generalize (if bcont s 2 then (bat s 2:Int) - 128 else -1) = c at gb2 ⊢
 generalize (if bcont s 3 then (bat s 3:Int) - 128 else -1) = d at gb3 ⊢
 have q1:0 ≤ b ↔ bcont s 1 = true:=by rcases gb1 with h | h <;> simp [h] <;> omega
 have q2:0 ≤ c ↔ bcont s 2 = true:=by rcases gb2 with h | h <;> simp [h] <;> omega
 have q3:0 ≤ d ↔ bcont s 3 = true:=by rcases gb3 with h | h <;> simp [h] <;> omega
 have p1:0 ≤ b → b = (bat s 1:Int) - 128 ∧ 128 ≤ bat s 1 ∧ bat s 1 < 192:=fun h=>by rcases gb1 with k | k; exact ⟨k.2.2.2,k.2.1,k.2.2.1⟩; omega
 have p2:0 ≤ c → c = (bat s 2:Int) - 128 ∧ 128 ≤ bat s 2 ∧ bat s 2 < 192:=fun h=>by rcases gb2 with k | k; exact ⟨k.2.2.2,k.2.1,k.2.2.1⟩; omega
 have p3:0 ≤ d → d = (bat s 3:Int) - 128 ∧ 128 ≤ bat s 3 ∧ bat s 3 < 192:=fun h=>by rcases gb3 with k | k; exact ⟨k.2.2.2,k.2.1,k.2.2.1⟩; omega
 clear gb1 gb2 gb3
 generalize hE:(⟨111,[(5,.i .i64 (bat s 0)),(6,.i .i64 b),(7,.i .i64 c),(8,.i .i64 d)]⟩:Env) = E
 refine AW_cut (fun ρ G=>ρ = E ∧ G = H' ∧ ¬ ((192 ≤ bat s 0 ∧ bat s 0 < 224) ∧ bcont s 1 = true ∧ 128 ≤ (bat s 0 - 192) * 64 + (bat s 1 - 128))) ?_ ?_
 · subst hE
   refine AW_seq ?_
   refine AW_regto [5,6,7,8,33] ⟨111,[(5,.i .i64 (bat s 0)),(6,.i .i64 b),(7,.i .i64 c),(8,.i .i64 d),(33,.b (decide (192 ≤ (bat s 0:Int)) && decide ((bat s 0:Int) < 224) && decide (0 ≤ b)))]⟩ H' (fun K hk=>?_) ?_
   · by_cases k1:192 ≤ (bat s 0:Int)
     · by_cases k2:(bat s 0:Int) < 224
       · simpa [init_eq,k1,k2] using hk
       · simpa [init_eq,k1,k2] using hk
     · simpa [init_eq,k1] using hk
   refine AW_cond' rfl rfl (fun hc=>?_) (fun hc=>?_)
   · simp at hc
     obtain ⟨⟨k1,k2⟩,k3⟩:=hc
     obtain ⟨e1,e2,e3⟩:=p1 k3
     refine AW_seq ?_
     refine AW_reg [5,6,7,8,9] fun K hK=>?_
     simp [init_eq,wrap_id (x:=(bat s 0:Int) - 192) (by omega) (by omega),wrap_id (x:=((bat s 0:Int) - 192) * 64) (by omega) (by omega),wrap_id (x:=((bat s 0:Int) - 192) * 64 + b) (by omega) (by omega)]
     apply hK;clear hK K
     refine AW_seq ?_
     refine AW_reg [5,6,7,8,9,40] fun K hK=>?_
     simp [init_eq]
     apply hK;clear hK K
     have ev:((bat s 0:Int) - 192) * 64 + b = (((bat s 0 - 192) * 64 + (bat s 1 - 128):Nat):Int):=by omega
     rw [ev]
     refine AW_cond' rfl rfl (fun hc=>?_) (fun hc=>?_)
     · have k4:128 ≤ (bat s 0 - 192) * 64 + (bat s 1 - 128):=by simp at hc; omega
       have hd:dec s = ((bat s 0 - 192) * 64 + (bat s 1 - 128),2):=by
        unfold dec; rw [if_neg h0,if_pos ⟨by omega,q1.1 k3⟩,if_pos k4]
       refine AW_seq ?_
       refine AW_reg [2,3,4] fun K hK=>?_
       simp [init_eq]
       apply hK;clear hK K
       refine AW_ret (end_ret rfl ?_)
       simp [hd,decOk]
     · have k4:¬ 128 ≤ (bat s 0 - 192) * 64 + (bat s 1 - 128):=by simp at hc; omega
       refine AW_skip (rend ⟨_,?_,rfl,rfl,fun h=>k4 h.2.2⟩)
       simp
   · refine AW_skip (rend ⟨_,?_,rfl,rfl,fun h=>?_⟩)
     · simp
     · have:0 ≤ b:=q1.2 h.2.1
       simp at hc
       omega
 intro ρ G hM
 obtain ⟨e1,e2,F1⟩:=hM
 rw [e1,e2]; clear e1 e2 ρ G
 refine AW_cut (fun ρ G=>ρ = E ∧ G = H' ∧ ¬ ((224 ≤ bat s 0 ∧ bat s 0 < 240) ∧ bcont s 1 = true ∧ bcont s 2 = true ∧ (2048 ≤ (bat s 0 - 224) * 4096 + (bat s 1 - 128) * 64 + (bat s 2 - 128) ∧ ((bat s 0 - 224) * 4096 + (bat s 1 - 128) * 64 + (bat s 2 - 128) < 55296 ∨ 57343 < (bat s 0 - 224) * 4096 + (bat s 1 - 128) * 64 + (bat s 2 - 128))))) ?_ ?_
 · subst hE
   refine AW_seq ?_
   refine AW_regto [5,6,7,8,55] ⟨111,[(5,.i .i64 (bat s 0)),(6,.i .i64 b),(7,.i .i64 c),(8,.i .i64 d),(55,.b (decide (224 ≤ (bat s 0:Int)) && decide ((bat s 0:Int) < 240) && decide (0 ≤ b) && decide (0 ≤ c)))]⟩ H' (fun K hk=>?_) ?_
   · by_cases k1:224 ≤ (bat s 0:Int)
     · by_cases k2:(bat s 0:Int) < 240
       · by_cases k3:0 ≤ b
         · simpa [init_eq,k1,k2,k3] using hk
         · simpa [init_eq,k1,k2,k3] using hk
       · simpa [init_eq,k1,k2] using hk
     · simpa [init_eq,k1] using hk
   refine AW_cond' rfl rfl (fun hc=>?_) (fun hc=>?_)
   · simp at hc
     obtain ⟨⟨⟨k1,k2⟩,k3⟩,k4⟩:=hc
     obtain ⟨e1,e2,e3⟩:=p1 k3
     obtain ⟨e4,e5,e6⟩:=p2 k4
     refine AW_seq ?_
     refine AW_reg [5,6,7,8,10] fun K hK=>?_
     simp [init_eq,wrap_id (x:=(bat s 0:Int) - 224) (by omega) (by omega),wrap_id (x:=((bat s 0:Int) - 224) * 4096) (by omega) (by omega),wrap_id (x:=b * 64) (by omega) (by omega),wrap_id (x:=((bat s 0:Int) - 224) * 4096 + b * 64) (by omega) (by omega),wrap_id (x:=((bat s 0:Int) - 224) * 4096 + b * 64 + c) (by omega) (by omega)]
     apply hK;clear hK K
     have ev:((bat s 0:Int) - 224) * 4096 + b * 64 + c = (((bat s 0 - 224) * 4096 + (bat s 1 - 128) * 64 + (bat s 2 - 128):Nat):Int):=by omega
     rw [ev]
     have hd0:(2048 ≤ (bat s 0 - 224) * 4096 + (bat s 1 - 128) * 64 + (bat s 2 - 128) ∧ ((bat s 0 - 224) * 4096 + (bat s 1 - 128) * 64 + (bat s 2 - 128) < 55296 ∨ 57343 < (bat s 0 - 224) * 4096 + (bat s 1 - 128) * 64 + (bat s 2 - 128))) → dec s = ((bat s 0 - 224) * 4096 + (bat s 1 - 128) * 64 + (bat s 2 - 128),3):=fun h=>by
      unfold dec; rw [if_neg h0,if_neg (by omega),if_pos ⟨by omega,q1.1 k3,q2.1 k4⟩,if_pos h]
     generalize (bat s 0 - 224) * 4096 + (bat s 1 - 128) * 64 + (bat s 2 - 128) = n at *
     refine AW_seq ?_
     refine AW_regto [5,6,7,8,10,73] ⟨111,[(5,.i .i64 (bat s 0)),(6,.i .i64 b),(7,.i .i64 c),(8,.i .i64 d),(10,.i .i64 n),(73,.b (decide (2048 ≤ (n:Int)) && (decide ((n:Int) < 55296) || decide ((57343:Int) < n))))]⟩ H' (fun K hk=>?_) ?_
     · by_cases k1:2048 ≤ (n:Int)
       · by_cases k2:(n:Int) < 55296
         · simpa [init_eq,k1,k2] using hk
         · simpa [init_eq,k1,k2] using hk
       · simpa [init_eq,k1] using hk
     refine AW_cond' rfl rfl (fun hc=>?_) (fun hc=>?_)
     · have k5:2048 ≤ n ∧ (n < 55296 ∨ 57343 < n):=by simp at hc; omega
       refine AW_seq ?_
       refine AW_reg [2,3,4] fun K hK=>?_
       simp [init_eq]
       apply hK;clear hK K
       refine AW_ret (end_ret rfl ?_)
       simp [hd0 k5,decOk]
     · have k5:¬ (2048 ≤ n ∧ (n < 55296 ∨ 57343 < n)):=by simp at hc; omega
       refine AW_skip (rend ⟨_,?_,rfl,rfl,fun h=>k5 h.2.2.2⟩)
       simp
   · refine AW_skip (rend ⟨_,?_,rfl,rfl,fun h=>?_⟩)
     · simp
     · have k1:0 ≤ b:=q1.2 h.2.1
       have k2:0 ≤ c:=q2.2 h.2.2.1
       simp at hc
       omega
 intro ρ G hM
 obtain ⟨e1,e2,F2⟩:=hM
 rw [e1,e2]; clear e1 e2 ρ G
 refine AW_cut (fun ρ G=>ρ = ⟨111,[]⟩ ∧ G = H' ∧ ¬ ((240 ≤ bat s 0 ∧ bat s 0 < 248) ∧ bcont s 1 = true ∧ bcont s 2 = true ∧ bcont s 3 = true ∧ (65536 ≤ (bat s 0 - 240) * 262144 + (bat s 1 - 128) * 4096 + (bat s 2 - 128) * 64 + (bat s 3 - 128) ∧ (bat s 0 - 240) * 262144 + (bat s 1 - 128) * 4096 + (bat s 2 - 128) * 64 + (bat s 3 - 128) ≤ 1114111))) ?_ ?_
 · subst hE
   refine AW_seq ?_
   refine AW_regto [5,6,7,8,92] ⟨111,[(5,.i .i64 (bat s 0)),(6,.i .i64 b),(7,.i .i64 c),(8,.i .i64 d),(92,.b (decide (240 ≤ (bat s 0:Int)) && decide ((bat s 0:Int) < 248) && decide (0 ≤ b) && decide (0 ≤ c) && decide (0 ≤ d)))]⟩ H' (fun K hk=>?_) ?_
   · by_cases k1:240 ≤ (bat s 0:Int)
     · by_cases k2:(bat s 0:Int) < 248
       · by_cases k3:0 ≤ b
         · by_cases k4:0 ≤ c
           · simpa [init_eq,k1,k2,k3,k4] using hk
           · simpa [init_eq,k1,k2,k3,k4] using hk
         · simpa [init_eq,k1,k2,k3] using hk
       · simpa [init_eq,k1,k2] using hk
     · simpa [init_eq,k1] using hk
   refine AW_cond' rfl rfl (fun hc=>?_) (fun hc=>?_)
   · simp at hc
     obtain ⟨⟨⟨⟨k1,k2⟩,k3⟩,k4⟩,k5⟩:=hc
     obtain ⟨e1,e2,e3⟩:=p1 k3
     obtain ⟨e4,e5,e6⟩:=p2 k4
     obtain ⟨e7,e8,e9⟩:=p3 k5
     refine AW_seq ?_
     refine AW_reg [11] fun K hK=>?_
     simp [init_eq,wrap_id (x:=(bat s 0:Int) - 240) (by omega) (by omega),wrap_id (x:=((bat s 0:Int) - 240) * 262144) (by omega) (by omega),wrap_id (x:=b * 4096) (by omega) (by omega),wrap_id (x:=c * 64) (by omega) (by omega),wrap_id (x:=((bat s 0:Int) - 240) * 262144 + b * 4096) (by omega) (by omega),wrap_id (x:=((bat s 0:Int) - 240) * 262144 + b * 4096 + c * 64) (by omega) (by omega),wrap_id (x:=((bat s 0:Int) - 240) * 262144 + b * 4096 + c * 64 + d) (by omega) (by omega)]
     apply hK;clear hK K
     have ev:((bat s 0:Int) - 240) * 262144 + b * 4096 + c * 64 + d = (((bat s 0 - 240) * 262144 + (bat s 1 - 128) * 4096 + (bat s 2 - 128) * 64 + (bat s 3 - 128):Nat):Int):=by omega
     rw [ev]
     have hd0:(65536 ≤ (bat s 0 - 240) * 262144 + (bat s 1 - 128) * 4096 + (bat s 2 - 128) * 64 + (bat s 3 - 128) ∧ (bat s 0 - 240) * 262144 + (bat s 1 - 128) * 4096 + (bat s 2 - 128) * 64 + (bat s 3 - 128) ≤ 1114111) → dec s = ((bat s 0 - 240) * 262144 + (bat s 1 - 128) * 4096 + (bat s 2 - 128) * 64 + (bat s 3 - 128),4):=fun h=>by
      unfold dec; rw [if_neg h0,if_neg (by omega),if_neg (by omega),if_pos ⟨by omega,q1.1 k3,q2.1 k4,q3.1 k5⟩,if_pos h]
     generalize (bat s 0 - 240) * 262144 + (bat s 1 - 128) * 4096 + (bat s 2 - 128) * 64 + (bat s 3 - 128) = n at *
     refine AW_seq ?_
     refine AW_regto [11,109] ⟨111,[(11,.i .i64 n),(109,.b (decide (65536 ≤ (n:Int)) && decide ((n:Int) ≤ 1114111)))]⟩ H' (fun K hk=>?_) ?_
     · by_cases k1:65536 ≤ (n:Int)
       · simpa [init_eq,k1] using hk
       · simpa [init_eq,k1] using hk
     refine AW_cond' rfl rfl (fun hc=>?_) (fun hc=>?_)
     · have k6:65536 ≤ n ∧ n ≤ 1114111:=by simp at hc; omega
       refine AW_seq ?_
       refine AW_reg [2,3,4] fun K hK=>?_
       simp [init_eq]
       apply hK;clear hK K
       refine AW_ret (end_ret rfl ?_)
       simp [hd0 k6,decOk]
     · have k6:¬ (65536 ≤ n ∧ n ≤ 1114111):=by simp at hc; omega
       refine AW_skip (rend ⟨_,?_,rfl,rfl,fun h=>k6 h.2.2.2.2⟩)
       simp
   · refine AW_skip (rend ⟨_,?_,rfl,rfl,fun h=>?_⟩)
     · simp
     · have k1:0 ≤ b:=q1.2 h.2.1
       have k2:0 ≤ c:=q2.2 h.2.2.1
       have k3:0 ≤ d:=q3.2 h.2.2.2.1
       simp at hc
       omega
 intro ρ G hM
 obtain ⟨e1,e2,F3⟩:=hM
 rw [e1,e2]; clear e1 e2 ρ G
 have hd:dec s = (65533,1):=by
  unfold dec
  rw [if_neg h0]
  by_cases c1:(192 ≤ bat s 0 ∧ bat s 0 < 224) ∧ bcont s 1 = true
  · rw [if_pos c1,if_neg (fun h=>F1 ⟨c1.1,c1.2,h⟩)]
  rw [if_neg c1]
  by_cases c2:(224 ≤ bat s 0 ∧ bat s 0 < 240) ∧ bcont s 1 = true ∧ bcont s 2 = true
  · rw [if_pos c2,if_neg (fun h=>F2 ⟨c2.1,c2.2.1,c2.2.2,h⟩)]
  rw [if_neg c2]
  by_cases c3:(240 ≤ bat s 0 ∧ bat s 0 < 248) ∧ bcont s 1 = true ∧ bcont s 2 = true ∧ bcont s 3 = true
  · rw [if_pos c3,if_neg (fun h=>F3 ⟨c3.1,c3.2.1,c3.2.2.1,c3.2.2.2,h⟩)]
  rw [if_neg c3]
 refine AW_seq ?_
 refine AW_reg [2,3,4] fun K hK=>?_
 simp [init_eq]
 apply hK;clear hK K
 refine AW_ret (end_ret rfl ?_)
 simp [hd,decOk]
/-- A letter as a number in memory. -/
def letC (x:Nat × Bool):List V:=[.i .i64 x.1]
theorem app_ints:App Tryz.prog 92 92 1 8:=App.mk' qelem_92 qsize_3 qbytes_3 qzero_3 qsrc_92 rfl (by decide)
theorem runes_ok (H:AH) (s:List UInt8) (hl:s.length ≤ 1000000000):ACalls Tryz.prog 140 [.s s] H fun r H'=>∃ v F,r = .tup [v,.b ((letsOf s).all (·.2))] ∧ Own H' v 1 ((letsOf s).map letC).flatten F ∧ Upd H H' []:=by
 refine ACalls_body Tryz.func140 rfl rfl ?_
 refine AW_seq ?_
 refine AW_reg [0] fun K hK=>?_
 simp [init_eq]
 apply hK;clear hK K
 refine AW_seq ?_
 refine AW_reg [0,4] fun K hK=>?_
 simp [init_eq]
 apply hK;clear hK K
 refine AW_seq ?_
 refine AW_reg [0,4,5] fun K hK=>?_
 simp [init_eq]
 apply hK;clear hK K
 refine AW_seq ?_
 refine AW_block ?_
 refine AW_loopx (fun x:List (Nat × Bool) × List UInt8 × V=>⟨31,[(0,.s x.2.1),(4,x.2.2),(5,.b (x.1.all (·.2)))]⟩)
  (fun x H'=>letsOf s = x.1 ++ letsOf x.2.1 ∧ x.2.1.length ≤ s.length ∧ ∃ F,Own H' x.2.2 1 (x.1.map letC).flatten F ∧ Upd H H' [] ∧ ∀ j ∈ F,H.next ≤ j) (fun x=>x.2.1.length) ([],s,.sl none 0 false) (by simp)
  ⟨by simp,by simp,[],Own.nil ..,Upd.refl ..,by simp⟩ fun x H1 hM=>?_
 obtain ⟨dn,rs,v⟩:=x
 obtain ⟨h1,h2,F,h3,h4,h5⟩:=hM
 simp only at h1 h2 h3
 have hdl:dn.length ≤ s.length:=by have:=letsOf_len s; rw [h1] at this; simp at this; omega
 refine AW_seq ?_
 refine AW_seq ?_
 refine AW_reg [0,4,5,11] fun K hK=>?_
 simp [init_eq,alen]
 apply hK;clear hK K
 refine AW_cond' rfl rfl (fun hc=>?_) (fun hc=>?_)
 · have hne:rs ≠ []:=by
     intro e; subst e; simp at hc
   have hrl:1 ≤ rs.length:=List.length_pos_iff.2 hne
   refine AW_skip ?_
   refine AW_block ?_
   refine AW_seq ?_
   refine AW_reg [0,4,5,6,7,8] fun K hK=>?_
   simp [init_eq]
   refine ACalls.mono (rstep_ok _ _ hne) fun r H' ⟨hr,e⟩=>?_
   subst hr e
   try simp
   apply hK;clear hK K
   obtain ⟨G1,v',G2,F',b1,b2,b3,b4,b5⟩:=h3.pushR (f:=letC) app_ints qelem_92 qsize_3 qzero_3 rfl rfl (by decide) (fun _=>rfl) ((dec rs).1,decOk rs) (x:=.i .i64 (dec rs).1) rfl (by simp [roomOk]; omega)
   refine AW_seq ?_
   refine AW_reg [0,4,5,7,8] fun K hK=>?_
   simp [init_eq,b1,b2]
   apply hK;clear hK K
   refine AW_seq ?_
   refine AW_regto [0,4,5,7] ⟨31,[(0,.s rs),(4,v'),(5,.b (dn.all (·.2) && decOk rs)),(7,.i .i64 (dec rs).2)]⟩ G2 (fun K hk=>?_) ?_
   · cases hd:dn.all (·.2)
     · simpa [init_eq,hd] using hk
     · simpa [init_eq,hd] using hk
   have hd1:=dec_pos rs
   have hd2:=dec_le rs hne
   refine AW_reg [0,4,5] fun K hK=>?_
   have hsl:aslice Tryz.prog G2 9 (.s rs) (some (.i .i64 (dec rs).2)) none none = some (.s (rs.drop (dec rs).2)):=by
    have:¬ rs.length < (dec rs).2:=by omega
    have h3:((dec rs).2:Int) ≤ rs.length:=by omega
    simp [aslice,abound,h3]
   simp [init_eq,hsl]
   apply hK;clear hK K
   refine bend (rend ⟨(dn ++ [((dec rs).1,decOk rs)],rs.drop (dec rs).2,v'),by simp,⟨?_,by (show (rs.drop (dec rs).2).length ≤ s.length); rw [List.length_drop]; omega,F',b3,h4.trans b4 (fun j hj=>.inr (h5 j hj)),fun j hj=>?_⟩,by (show (rs.drop (dec rs).2).length < rs.length); rw [List.length_drop]; omega⟩)
   · rw [h1,letsOf_cons hne]; simp
   · rcases b5 j hj with h | h
     · exact h5 j h
     · have:=h4.1; omega
 · have hrs:rs = []:=by
     have:¬ 0 < rs.length:=by simp at hc; simpa using hc
     exact List.length_eq_zero_iff.1 (by omega)
   subst hrs
   rw [letsOf_nil,List.append_nil] at h1
   refine AW_exit (then_exit (then_exit (block_here ?_)))
   refine AW_seq ?_
   refine AW_reg [2,3] fun K hK=>?_
   simp [init_eq]
   apply hK;clear hK K
   refine AW_ret (end_ret rfl ?_)
   exact ⟨v,F,by simp [h1],by rw [h1]; exact h3,h4⟩
end Go.Proofs.YtaidfojbnfkclaaGreatDoor
set_option linter.unusedVariables false
set_option linter.unusedSimpArgs false
namespace Go.Proofs.YtaidfojbnfkclaaGreatDoor
open Go Go.Abs Go.Proofs
set_option maxRecDepth 100000
attribute [local irreducible] AEnd AW ACalls
theorem rname_ok (H:AH) (s:List UInt8) (hl:s.length ≤ 1000000000):ACalls Tryz.prog 112 [.s s] H fun r H'=>r = .b (nameOk s) ∧ H' = H:=by
 refine ACalls.pure (Q:=fun r=>r = .b (nameOk s)) ⟨_,Tryz.func112,rfl,rfl⟩ ?_
 refine ACalls_body Tryz.func112 rfl rfl ?_
 refine AW_seq ?_
 refine AW_reg [0] fun K hK=>?_
 simp [init_eq]
 apply hK;clear hK K
 refine AW_seq ?_
 refine AW_reg [3,4] fun K hK=>?_
 simp [init_eq]
 refine ACalls.mono (runes_ok _ _ hl) fun r H1 h=>?_
 obtain ⟨v,F,hr,hv,hu⟩:=h
 subst hr
 try simp
 apply hK;clear hK K
 have fin:∀ b:Bool,b = nameOk s → V.b b = V.b (nameOk s) ∧ V.lt H.next (V.b b) = true ∧ H.next ≤ H1.next ∧ ∀ j,j < H.next → H1.get j = H.get j:=fun b hb=>⟨by rw [hb],rfl,hu.1,fun j hj=>hu.2 j hj (by simp)⟩
 have hR:=hv.rsR (f:=letC) (by decide) (fun _=>rfl)
 have hlen:=hR.alen (P:=Tryz.prog) qelem_92 H1
 have hat:∀ i (hi:i < (letsOf s).length),∃ a,aindexAddr Tryz.prog 92 v (.i .i64 i) = some a ∧ aload Tryz.prog H1 3 a = some (.i .i64 ((letsOf s)[i]).1):=fun i hi =>
  hR.at1 qelem_92 qsize_3 qagg_3 i (by simp [hi,letC])
 have hle:=letsOf_len s
 cases hls:letsOf s with
 | nil =>
   rw [hls] at hlen
   refine AW_seq ?_
   refine AW_seq ?_
   refine AW_reg [3,40] fun K hK=>?_
   simp [init_eq,hlen]
   apply hK;clear hK K
   refine AW_cond' rfl rfl (fun hc=>?_) (fun hc=>?_)
   · refine AW_seq ?_
     refine AW_reg [2] fun K hK=>?_
     simp [init_eq]
     apply hK;clear hK K
     refine AW_ret (end_ret rfl (fin _ ?_))
     rw [nameOk_nil hls]
   · cases hc
 | cons x r =>
   obtain ⟨a0,q1,q2⟩:=hat 0 (by rw [hls]; simp)
   have q1:aindexAddr Tryz.prog 92 v (.i .i64 0) = some a0:=by simpa using q1
   simp only [hls,List.getElem_cons_zero] at q2
   rw [hls] at hlen hle
   have hle2:r.length + 1 ≤ s.length:=by simpa using hle
   have hlen2:alen Tryz.prog H1 92 v = some (.i .i64 ((r.length:Int) + 1)):=by rw [hlen]; simp
   refine AW_seq ?_
   refine AW_seq ?_
   have c1:∀ n:Nat,((n:Int) = 45) = (n = 45):=fun n=>propext (by omega)
   have c2:∀ n:Nat,((48:Int) ≤ n) = (48 ≤ n):=fun n=>propext (by omega)
   have c3:∀ n:Nat,((n:Int) ≤ 57) = (n ≤ 57):=fun n=>propext (by omega)
   refine AW_regto [3,40] ⟨53,[(3,v),(40,.b (!(x :: r).all (·.2) || decide (32 < r.length + 1) || digitB x.1))]⟩ H1 (fun K hk=>?_) ?_
   · cases hall:(x :: r).all (·.2)
     · simpa [init_eq,hall] using hk
     have k1:¬ ((r.length:Int) + 1 < 1):=by omega
     by_cases h32:32 < r.length + 1
     · have k2:(32:Int) < (r.length:Int) + 1:=by omega
       simpa [init_eq,hall,hlen2,k1,k2,h32] using hk
     have k2:¬ (32:Int) < (r.length:Int) + 1:=by omega
     by_cases h45:x.1 = 45
     · simpa [init_eq,hall,hlen2,k1,k2,h32,q1,q2,c1,h45,digitB] using hk
     by_cases h48:48 ≤ x.1
     · simpa [init_eq,hall,hlen2,k1,k2,h32,q1,q2,c1,c2,c3,h45,h48,digitB] using hk
     · simpa [init_eq,hall,hlen2,k1,k2,h32,q1,q2,c1,c2,c3,h45,h48,digitB] using hk
   refine AW_cond' rfl rfl (fun hc=>?_) (fun hc=>?_)
   · refine AW_seq ?_
     refine AW_reg [2] fun K hK=>?_
     simp [init_eq]
     apply hK;clear hK K
     refine AW_ret (end_ret rfl (fin _ ?_))
     cases hall:(x :: r).all (·.2)
     · rw [nameOk_broken (by rw [hls]; exact hall)]
     · rw [nameOk_cons hls]
       rw [hall] at hc
       cases hd:digitB x.1
       · rw [hd] at hc
         have:¬ (x :: r).length ≤ 32:=by simp at hc ⊢; omega
         simp only [this,decide_false,Bool.and_false]
       · simp only [Bool.not_true,Bool.false_and]
   · have hall:(x :: r).all (·.2) = true:=by
       cases h:(x :: r).all (·.2)
       · rw [h] at hc; simp at hc
       · rfl
     have hd:digitB x.1 = false:=by
      cases h:digitB x.1
      · rfl
      · rw [h] at hc; simp at hc
     have h32:(x :: r).length ≤ 32:=by rw [hall,hd] at hc; simp at hc ⊢; omega
     refine AW_skip ?_
     refine AW_seq ?_
     refine AW_seq ?_
     refine AW_reg [3,5] fun K hK=>?_
     simp [init_eq]
     apply hK;clear hK K
     refine AW_block ?_
     refine AW_loop0 (fun i:Nat=>⟨53,[(3,v),(5,.i .i64 i)]⟩) (fun i=>i ≤ (x :: r).length ∧ ((x :: r).take i).all (fun y=>letterB y.1) = true) (fun i=>(x :: r).length - i) 0 (by simp) (by simp) (hu.1) fun hw i hM=>?_
     refine AW_seq ?_
     refine AW_seq ?_
     refine AW_reg [3,5,44] fun K hK=>?_
     simp only [hlen]
     simp [init_eq,hlen]
     apply hK;clear hK K
     refine AW_cond' rfl rfl (fun hc=>?_) (fun hc=>?_)
     · have hi:i < (x :: r).length:=by simp at hc ⊢; omega
       obtain ⟨a,p1,p2⟩:=hat i (by rw [hls]; exact hi)
       simp only [hls] at p1 p2
       refine AW_skip ?_
       refine AW_seq ?_
       refine AW_block ?_
       refine AW_seq ?_
       refine AW_reg [3,5,52] fun K hK=>?_
       simp [init_eq,p1,p2]
       refine ACalls.mono (rletter_ok ..) fun r' H' ⟨hr,e⟩=>?_
       subst hr e
       try simp
       apply hK;clear hK K
       refine AW_cond' rfl rfl (fun hc=>?_) (fun hc=>?_)
       · have hg:letterB ((x :: r)[i]).1 = false:=by rw [letterR_nat] at hc; simpa using hc
         refine AW_seq ?_
         refine AW_reg [2] fun K hK=>?_
         simp [init_eq]
         apply hK;clear hK K
         refine AW_ret (end_ret rfl (fin _ ?_))
         rw [nameOk_bad (by rw [hls]; exact List.getElem_mem hi) hg]
       · have hg:letterB ((x :: r)[i]).1 = true:=by rw [letterR_nat] at hc; simpa using hc
         refine AW_skip ?_
         refine AW_reg [3,5] fun K hK=>?_
         simp [init_eq,wrap_id (x:=(i:Int) + 1) (by omega) (by omega)]
         apply hK;clear hK K
         refine rend ⟨i + 1,by simp,⟨by omega,?_⟩,by omega,.inl rfl⟩
         rw [List.take_succ_eq_append_getElem hi,List.all_append,hM.2]; simp [hg]
     · have hi:i = (x :: r).length:=by
         have:¬ i < (x :: r).length:=by simp at hc ⊢; omega
         omega
       subst hi
       refine AW_exit (then_exit (then_exit (block_here ?_)))
       refine AW_seq ?_
       refine AW_reg [2] fun K hK=>?_
       simp [init_eq]
       apply hK;clear hK K
       refine AW_ret (end_ret rfl (fin _ ?_))
       have h2:=hM.2
       rw [List.take_length] at h2
       rw [nameOk_cons hls,hd,h2]
       simp only [h32,decide_true,Bool.not_false,Bool.and_self]
theorem name_ok (H:AH) (s:List UInt8) (hl:s.length ≤ 140737488351232):ACalls Tryz.prog 60 [.s s] H fun r H'=>r = .i .i64 (if nameOk s then 0 else 20) ∧ H' = H:=by
 refine ACalls.pure (Q:=fun r=>r = .i .i64 (if nameOk s then 0 else 20)) ⟨_,Tryz.func60,rfl,rfl⟩ ?_
 refine ACalls_body Tryz.func60 rfl rfl ?_
 refine AW_seq ?_
 refine AW_reg [0] fun K hK=>?_
 simp [init_eq]
 apply hK;clear hK K
 refine AW_seq ?_
 refine AW_reg [0,3] fun K hK=>?_
 simp [init_eq]
 apply hK;clear hK K
 refine AW_seq ?_
 refine AW_seq ?_
 have hrg:arange Tryz.prog H 9 (.s s) = some (.p (some (H.next,0,0)),H.new (.strIter s 0)):=by
  unfold arange
  have:qmap Tryz.prog 9 = none:=by kernel_rfl
  simp [this]
 refine AW_reg [3,8] fun K hK=>?_
 simp [init_eq,hrg]
 apply hK;clear hK K
 refine AW_block ?_
 refine AW_loopx (fun x:List (Nat × Bool) × Nat=>⟨41,[(3,.i .i64 x.1.length),(8,.p (some (H.next,0,0)))]⟩)
  (fun x H'=>H'.get H.next = some (.strIter s x.2) ∧ H'.next = H.next + 1 ∧ (∀ j,j < H.next → H'.get j = H.get j) ∧ x.2 ≤ s.length ∧ letsOf s = x.1 ++ letsOf (s.drop x.2) ∧ x.1.all (fun y=>letterB y.1) = true ∧ (x.2 = 0 ↔ x.1 = []) ∧ ∀ y r,x.1 = y :: r → digitB y.1 = false) (fun x=>s.length - x.2) ([],0) (by simp)
  ⟨by simp [AH.get_new],by simp,fun j hj=>by simp [AH.get_new]; omega,by simp,by simp,by simp,by simp,by simp⟩ fun x H1 hM=>?_
 obtain ⟨dn,p⟩:=x
 obtain ⟨hg,hn,ho,hp,h1,h2,h3,h4⟩:=hM
 simp only at hg h1 h2 h3 h4 hp
 have hdl:dn.length ≤ s.length:=by have:=letsOf_len s; rw [h1] at this; simp at this; omega
 refine AW_seq ?_
 by_cases hps:p < s.length
 · have hne:s.drop p ≠ []:=by
     intro e; have:=congrArg List.length e; simp at this; omega
   have hcons:=letsOf_cons hne
   have hd1:=dec_pos (s.drop p)
   have hd2:=dec_le (s.drop p) hne
   rw [List.length_drop] at hd2
   rw [hcons,List.drop_drop] at h1
   have hnx:anextS H1 (.p (some (H.next,0,0))) = some (.tup [.b true,.i .i64 p,.i .i32 (dec (s.drop p)).1],H1.set H.next (.strIter s (p + (dec (s.drop p)).2))):=by
    simp [anextS,hg,hps,decode_dec]
   generalize hG:H1.set H.next (.strIter s (p + (dec (s.drop p)).2)) = G at hnx
   have hgG:G.get H.next = some (.strIter s (p + (dec (s.drop p)).2)):=by rw [← hG]; simp [AH.get_set,hn]
   have hnG:G.next = H.next + 1:=by rw [← hG]; simp [hn]
   have hoG:∀ j,j < H.next → G.get j = H.get j:=fun j hj=>by rw [← hG]; simp [AH.get_set,show j ≠ H.next by omega,ho j hj]
   clear hG
   refine AW_reg [3,8,9,10] fun K hK=>?_
   simp [init_eq,hnx]
   apply hK;clear hK K
   refine AW_seq ?_
   refine AW_cond' rfl rfl (fun hc=>?_) (fun hc=>?_)
   · refine AW_skip ?_
     refine AW_block ?_
     refine AW_seq ?_
     refine AW_reg [3,4,5,8] fun K hK=>?_
     simp [init_eq]
     apply hK;clear hK K
     generalize hcd:(dec (s.drop p)).1 = c at *
     generalize hsz:(dec (s.drop p)).2 = sz at *
     have c0:((p:Int) = 0) = (p = 0):=propext (by omega)
     have c1:((c:Int) = 45) = (c = 45):=propext (by omega)
     have c2:((48:Int) ≤ c) = (48 ≤ c):=propext (by omega)
     have c3:((c:Int) ≤ 57) = (c ≤ 57):=propext (by omega)
     refine AW_seq ?_
     refine AW_regto [3,5,6,8] ⟨41,[(3,.i .i64 dn.length),(5,.i .i32 c),(6,.b (decide (p = 0) && digitB c)),(8,.p (some (H.next,0,0)))]⟩ G (fun K hk=>?_) ?_
     · by_cases k0:p = 0
       · by_cases k2:48 ≤ c
         · by_cases k3:c ≤ 57
           · simpa [init_eq,c0,c1,c2,c3,k0,k2,k3,digitB] using hk
           · simpa [init_eq,c0,c1,c2,c3,k0,k2,k3,digitB] using hk
         · simpa [init_eq,c0,c1,c2,c3,k0,k2,digitB] using hk
       · simpa [init_eq,c0,k0] using hk
     refine AW_seq ?_
     refine AW_seq ?_
     refine AW_regto [3,8,32] ⟨41,[(3,.i .i64 dn.length),(8,.p (some (H.next,0,0))),(32,.b ((decide (p = 0) && digitB c) || !letterB c))]⟩ G (fun K hk=>?_) ?_
     · cases k:decide (p = 0) && digitB c
       · simp [init_eq,k]
         refine ACalls.mono (letter_ok ..) fun r H' ⟨hr,e⟩=>?_
         subst hr e
         rw [letterI_nat]
         simpa [k] using hk
       · simpa [init_eq,k] using hk
     refine AW_cond' rfl rfl (fun hc=>?_) (fun hc=>?_)
     · refine AW_seq ?_
       refine AW_reg [2] fun K hK=>?_
       simp [init_eq]
       apply hK;clear hK K
       refine AW_ret (end_ret rfl (pure_end hnG hoG ?_ rfl))
       have:nameOk s = false:=by
        cases hL:letterB c
        · exact nameOk_bad (x:=(c,decOk (s.drop p))) (by rw [h1]; simp) hL
        · rw [hL] at hc
          have hc':decide (p = 0) && digitB c = true:=by simpa using hc
          simp at hc'
          rw [h3.1 hc'.1] at h1
          rw [nameOk_cons h1]
          simp [hc'.2]
       simp [this]
     · have hL:letterB c = true:=by
         cases h:letterB c
         · rw [h] at hc; simp at hc
         · rfl
       have hD:p = 0 → digitB c = false:=fun h=>by
        rw [hL] at hc; simp [h] at hc; exact hc
       refine AW_skip ?_
       refine AW_reg [3,8] fun K hK=>?_
       simp [init_eq,wrap_id (x:=(dn.length:Int) + 1) (by omega) (by omega)]
       apply hK;clear hK K
       refine bend (rend ⟨(dn ++ [(c,decOk (s.drop p))],p + sz),by simp,⟨hgG,hnG,hoG,by (show p + sz ≤ s.length); omega,by simp [h1],by simp [h2,hL],?_,?_⟩,by (show s.length - (p + sz) < s.length - p); omega⟩)
       · simp; omega
       · intro y r e
         cases dn with
         | nil =>
           simp at e
           rw [← e.1]
           exact hD (h3.2 rfl)
         | cons z dn =>
           simp at e
           rw [← e.1]
           exact h4 z dn rfl
   · cases hc
 · have hpe:p = s.length:=by omega
   subst hpe
   rw [List.drop_length,letsOf_nil,List.append_nil] at h1
   have hnx:anextS H1 (.p (some (H.next,0,0))) = some (.tup [.b false],H1):=by
    simp [anextS,hg]
   refine AW_reg [3,8,9,10] fun K hK=>?_
   simp [init_eq,hnx]
   apply hK;clear hK K
   refine AW_seq ?_
   refine AW_cond' rfl rfl (fun hc=>?_) (fun hc=>?_)
   · cases hc
   refine AW_exit (then_exit (then_exit (block_here ?_)))
   refine AW_seq ?_
   refine AW_seq ?_
   have d1:((dn.length:Int) < 1) = (dn.length < 1):=propext (by omega)
   have d2:((32:Int) < dn.length) = (32 < dn.length):=propext (by omega)
   refine AW_regto [40] ⟨41,[(40,.b (!nameOk s))]⟩ H1 (fun K hk=>?_) ?_
   · cases dn with
     | nil =>
       rw [nameOk_nil h1] at hk
       simpa [init_eq] using hk
     | cons y r =>
       rw [nameOk_cons h1,h4 y r rfl,h2] at hk
       have d1:¬ ((r.length:Int) + 1 < 1):=by omega
       by_cases h32:r.length + 1 ≤ 32
       · have d2:¬ ((32:Int) < (r.length:Int) + 1):=by omega
         simpa [init_eq,d1,d2,h32] using hk
       · have d2:((32:Int) < (r.length:Int) + 1):=by omega
         simpa [init_eq,d1,d2,h32] using hk
   refine AW_cond' rfl rfl (fun hc=>?_) (fun hc=>?_)
   · have hk:nameOk s = false:=by simpa using hc
     refine AW_seq ?_
     refine AW_reg [2] fun K hK=>?_
     simp [init_eq]
     apply hK;clear hK K
     refine AW_ret (end_ret rfl (pure_end hn ho ?_ rfl))
     simp [hk]
   · have hk:nameOk s = true:=by simpa using hc
     refine AW_skip ?_
     refine AW_seq ?_
     refine AW_reg [2] fun K hK=>?_
     simp [init_eq]
     apply hK;clear hK K
     refine AW_ret (end_ret rfl (pure_end hn ho ?_ rfl))
     simp [hk]
end Go.Proofs.YtaidfojbnfkclaaGreatDoor
set_option linter.unusedVariables false
set_option linter.unusedSimpArgs false
namespace Go.Proofs.YtaidfojbnfkclaaGreatDoor
open Go Go.Abs Go.Proofs
set_option maxRecDepth 100000
attribute [local irreducible] AEnd AW ACalls
def lays197_ren:Go.Shelf.Ren:=⟨fun | 197=>134 | 260=>147 | n=>n,fun | 9=>9 | 21=>21 | 3=>3 | 4=>4 | 5=>5 | 105=>173 | 119=>200 | 0=>0 | 46=>187 | 139=>203 | 138=>202 | n=>n,fun | 3=>0 | 4=>1 | n=>n⟩
theorem lays197:Go.Proofs.Lays.n197 Tryz.prog lays197_ren:={
 mixed:=by kernel_rfl
 f197:=Tryz.func134.trans (congrArg some (by kernel_rfl))
 f260:=Tryz.func147.trans (congrArg some (by kernel_rfl))
 t0:=Tryz.underlying0
 a0:=Tryz.isAgg0
 z0:=Tryz.sizeOf0
 v0:=Tryz.zeroValue0
 t3:=Tryz.underlying3
 a3:=Tryz.isAgg3
 z3:=Tryz.sizeOf3
 v3:=Tryz.zeroValue3
 t4:=Tryz.underlying4
 a4:=Tryz.isAgg4
 z4:=Tryz.sizeOf4
 v4:=Tryz.zeroValue4
 t5:=Tryz.underlying5
 a5:=Tryz.isAgg5
 z5:=Tryz.sizeOf5
 v5:=Tryz.zeroValue5
 t9:=Tryz.underlying9
 a9:=Tryz.isAgg9
 z9:=Tryz.sizeOf9
 v9:=Tryz.zeroValue9
 t21:=Tryz.underlying21
 a21:=Tryz.isAgg21
 z21:=Tryz.sizeOf21
 v21:=Tryz.zeroValue21
 t46:=Tryz.underlying187
 a46:=Tryz.isAgg187
 z46:=Tryz.sizeOf187
 v46:=Tryz.zeroValue187
 t105:=Tryz.underlying173
 a105:=Tryz.isAgg173
 z105:=Tryz.sizeOf173
 v105:=Tryz.zeroValue173
 t119:=Tryz.underlying200
 a119:=Tryz.isAgg200
 z119:=Tryz.sizeOf200
 t138:=Tryz.underlying202
 a138:=Tryz.isAgg202
 z138:=Tryz.sizeOf202
 v138:=Tryz.zeroValue202
 t139:=Tryz.underlying203
 a139:=Tryz.isAgg203
 z139:=Tryz.sizeOf203
 v139:=Tryz.zeroValue203
 g3:=by kernel_rfl
 g4:=by kernel_rfl }
theorem decodeStr_ok (H:AH) (l:List UInt8):ACalls Tryz.prog 134 [.s l] H fun r H'=>r = .tup [.i .i32 (decG l).1,.i .i64 (decG l).2] ∧ H' = H :=
 decode_call (ρ:=lays197_ren) lays197 (fun _ h=>by first | exact h | exact List.mem_append_left _ h) ⟨_,Tryz.func134,rfl,rfl⟩ H l
theorem broken_ok (H:AH) (s:List UInt8) (p:Nat) (hp:p ≤ s.length) (c:Int):ACalls Tryz.prog 105 [.s s,.i .i64 p,.i .i32 c] H fun r H'=>r = .b (decide (c = 65533) && decide ((decG (s.drop p)).2 = 1)) ∧ H' = H:=by
 refine ACalls_body Tryz.func105 rfl rfl ?_
 refine AW_seq ?_
 refine AW_reg [0,1,2] fun K hK=>?_
 simp [init_eq]
 apply hK;clear hK K
 refine AW_seq ?_
 refine AW_seq ?_
 refine AW_reg [0,1,10] fun K hK=>?_
 simp [init_eq]
 apply hK;clear hK K
 refine AW_cond' rfl rfl (fun hc=>?_) (fun hc=>?_)
 · have hn:¬ c = 65533:=by simpa using hc
   refine AW_seq ?_
   refine AW_reg [6] fun K hK=>?_
   simp [init_eq]
   apply hK;clear hK K
   refine AW_ret (end_ret rfl ?_)
   simp [hn]
 · have hn:c = 65533:=by simpa using hc
   refine AW_skip ?_
   have hsl:aslice Tryz.prog H 9 (.s s) (some (.i .i64 p)) none none = some (.s (s.drop p)):=by
    have h3:(p:Int) ≤ s.length:=by omega
    simp [aslice,abound,h3]
   refine AW_seq ?_
   refine AW_reg [7,8] fun K hK=>?_
   simp [init_eq,hsl]
   refine ACalls.mono (decodeStr_ok ..) fun r H' ⟨hr,e⟩=>?_
   subst hr e
   try simp
   apply hK;clear hK K
   refine AW_seq ?_
   refine AW_reg [6] fun K hK=>?_
   simp [init_eq]
   apply hK;clear hK K
   refine AW_ret (end_ret rfl ?_)
   have:(((decG (s.drop p)).2:Int) = 1) = ((decG (s.drop p)).2 = 1):=propext (by omega)
   simp [hn,this]
def valB (y:Nat × Bool):Bool:=y.2 && !(decide (y.1 < 32) || decide (y.1 = 127))
theorem valOk_eq (s:List UInt8):valOk s = ((letsOf s).all valB && decide ((letsOf s).length ≤ 32)):=rfl
theorem valOk_bad {l:List UInt8} {x:Nat × Bool} (hx:x ∈ letsOf l) (h:valB x = false):valOk l = false:=by
 rw [valOk_eq]
 have:(letsOf l).all valB = false:=by rw [List.all_eq_false]; exact ⟨x,hx,by simp [h]⟩
 rw [this,Bool.false_and]
theorem value_ok (H:AH) (s:List UInt8) (hl:s.length ≤ 140737488351232):ACalls Tryz.prog 62 [.s s] H fun r H'=>r = .i .i64 (if valOk s then 0 else 20) ∧ H' = H:=by
 refine ACalls.pure (Q:=fun r=>r = .i .i64 (if valOk s then 0 else 20)) ⟨_,Tryz.func62,rfl,rfl⟩ ?_
 refine ACalls_body Tryz.func62 rfl rfl ?_
 refine AW_seq ?_
 refine AW_reg [0] fun K hK=>?_
 simp [init_eq]
 apply hK;clear hK K
 refine AW_seq ?_
 refine AW_reg [0,3] fun K hK=>?_
 simp [init_eq]
 apply hK;clear hK K
 refine AW_seq ?_
 refine AW_seq ?_
 have hrg:arange Tryz.prog H 9 (.s s) = some (.p (some (H.next,0,0)),H.new (.strIter s 0)):=by
  unfold arange
  have:qmap Tryz.prog 9 = none:=by kernel_rfl
  simp [this]
 refine AW_reg [0,3,7] fun K hK=>?_
 simp [init_eq,hrg]
 apply hK;clear hK K
 refine AW_block ?_
 refine AW_loopx (fun x:List (Nat × Bool) × Nat=>⟨28,[(0,.s s),(3,.i .i64 x.1.length),(7,.p (some (H.next,0,0)))]⟩)
  (fun x H'=>H'.get H.next = some (.strIter s x.2) ∧ H'.next = H.next + 1 ∧ (∀ j,j < H.next → H'.get j = H.get j) ∧ x.2 ≤ s.length ∧ letsOf s = x.1 ++ letsOf (s.drop x.2) ∧ x.1.all valB = true) (fun x=>s.length - x.2) ([],0) (by simp)
  ⟨by simp [AH.get_new],by simp,fun j hj=>by simp [AH.get_new]; omega,by simp,by simp,by simp⟩ fun x H1 hM=>?_
 obtain ⟨dn,p⟩:=x
 obtain ⟨hg,hn,ho,hp,h1,h2⟩:=hM
 simp only at hg h1 h2 hp
 have hdl:dn.length ≤ s.length:=by have:=letsOf_len s; rw [h1] at this; simp at this; omega
 refine AW_seq ?_
 by_cases hps:p < s.length
 · have hne:s.drop p ≠ []:=by
     intro e; have:=congrArg List.length e; simp at this; omega
   have hcons:=letsOf_cons hne
   have hd1:=dec_pos (s.drop p)
   have hd2:=dec_le (s.drop p) hne
   rw [List.length_drop] at hd2
   rw [hcons,List.drop_drop] at h1
   have hnx:anextS H1 (.p (some (H.next,0,0))) = some (.tup [.b true,.i .i64 p,.i .i32 (dec (s.drop p)).1],H1.set H.next (.strIter s (p + (dec (s.drop p)).2))):=by
    simp [anextS,hg,hps,decode_dec]
   generalize hG:H1.set H.next (.strIter s (p + (dec (s.drop p)).2)) = G at hnx
   have hgG:G.get H.next = some (.strIter s (p + (dec (s.drop p)).2)):=by rw [← hG]; simp [AH.get_set,hn]
   have hnG:G.next = H.next + 1:=by rw [← hG]; simp [hn]
   have hoG:∀ j,j < H.next → G.get j = H.get j:=fun j hj=>by rw [← hG]; simp [AH.get_set,show j ≠ H.next by omega,ho j hj]
   clear hG
   refine AW_reg [0,3,7,8,9] fun K hK=>?_
   simp [init_eq,hnx]
   apply hK;clear hK K
   refine AW_seq ?_
   refine AW_cond' rfl rfl (fun hc=>?_) (fun hc=>?_)
   · refine AW_skip ?_
     refine AW_block ?_
     refine AW_seq ?_
     refine AW_reg [0,3,4,5,7] fun K hK=>?_
     simp [init_eq]
     apply hK;clear hK K
     have hbr:decOk (s.drop p) = !(decide ((dec (s.drop p)).1 = 65533) && decide ((decG (s.drop p)).2 = 1)):=by
      unfold decOk decG
      rw [if_neg hne]
      simp only [Prod.ext_iff,Bool.decide_and]
     generalize hcd:(dec (s.drop p)).1 = c at *
     generalize hsz:(dec (s.drop p)).2 = sz at *
     have c1:((c:Int) = 127) = (c = 127):=propext (by omega)
     have c2:((c:Int) < 32) = (c < 32):=propext (by omega)
     have c3:((c:Int) = 65533) = (c = 65533):=propext (by omega)
     refine AW_seq ?_
     refine AW_seq ?_
     refine AW_regto [0,3,7,23] ⟨28,[(0,.s s),(3,.i .i64 dn.length),(7,.p (some (H.next,0,0))),(23,.b (!valB (c,decOk (s.drop p))))]⟩ G (fun K hk=>?_) ?_
     · by_cases k1:c < 32
       · simpa [init_eq,c1,c2,k1,valB] using hk
       · by_cases k2:c = 127
         · simpa [init_eq,c1,c2,k1,k2,valB] using hk
         · simp [init_eq,c1,c2,k1,k2]
           refine ACalls.mono (broken_ok _ _ _ hp _) fun r H' ⟨hr,e⟩=>?_
           subst hr e
           simpa [valB,k1,k2,hbr,c3] using hk
     refine AW_cond' rfl rfl (fun hc=>?_) (fun hc=>?_)
     · have hb:valB (c,decOk (s.drop p)) = false:=by simpa using hc
       refine AW_seq ?_
       refine AW_reg [2] fun K hK=>?_
       simp [init_eq]
       apply hK;clear hK K
       refine AW_ret (end_ret rfl (pure_end hnG hoG ?_ rfl))
       have:valOk s = false:=valOk_bad (x:=(c,decOk (s.drop p))) (by rw [h1]; simp) hb
       simp [this]
     · have hb:valB (c,decOk (s.drop p)) = true:=by simpa using hc
       refine AW_skip ?_
       refine AW_reg [0,3,7] fun K hK=>?_
       simp [init_eq,wrap_id (x:=(dn.length:Int) + 1) (by omega) (by omega)]
       apply hK;clear hK K
       refine bend (rend ⟨(dn ++ [(c,decOk (s.drop p))],p + sz),by simp,⟨hgG,hnG,hoG,by (show p + sz ≤ s.length); omega,by simp [h1],by simp [h2,hb]⟩,by (show s.length - (p + sz) < s.length - p); omega⟩)
   · cases hc
 · have hpe:p = s.length:=by omega
   subst hpe
   rw [List.drop_length,letsOf_nil,List.append_nil] at h1
   have hnx:anextS H1 (.p (some (H.next,0,0))) = some (.tup [.b false],H1):=by
    simp [anextS,hg]
   refine AW_reg [0,3,7,8,9] fun K hK=>?_
   simp [init_eq,hnx]
   apply hK;clear hK K
   refine AW_seq ?_
   refine AW_cond' rfl rfl (fun hc=>?_) (fun hc=>?_)
   · cases hc
   refine AW_exit (then_exit (then_exit (block_here ?_)))
   refine AW_seq ?_
   refine AW_seq ?_
   have d2:((32:Int) < dn.length) = (32 < dn.length):=propext (by omega)
   have hv:valOk s = decide (dn.length ≤ 32):=by rw [valOk_eq,h1,h2,Bool.true_and]
   refine AW_reg [27] fun K hK=>?_
   simp [init_eq,d2]
   apply hK;clear hK K
   refine AW_cond' rfl rfl (fun hc=>?_) (fun hc=>?_)
   · have hk:¬ dn.length ≤ 32:=by simpa using hc
     refine AW_seq ?_
     refine AW_reg [2] fun K hK=>?_
     simp [init_eq]
     apply hK;clear hK K
     refine AW_ret (end_ret rfl (pure_end hn ho ?_ rfl))
     simp [hv,hk]
   · have hk:dn.length ≤ 32:=by simpa using hc
     refine AW_skip ?_
     refine AW_seq ?_
     refine AW_reg [2] fun K hK=>?_
     simp [init_eq]
     apply hK;clear hK K
     refine AW_ret (end_ret rfl (pure_end hn ho ?_ rfl))
     simp [hv,hk]
theorem rvalue_ok (H:AH) (s:List UInt8) (hl:s.length ≤ 1000000000):ACalls Tryz.prog 113 [.s s] H fun r H'=>r = .b (valOk s) ∧ H' = H:=by
 refine ACalls.pure (Q:=fun r=>r = .b (valOk s)) ⟨_,Tryz.func113,rfl,rfl⟩ ?_
 refine ACalls_body Tryz.func113 rfl rfl ?_
 refine AW_seq ?_
 refine AW_reg [0] fun K hK=>?_
 simp [init_eq]
 apply hK;clear hK K
 refine AW_seq ?_
 refine AW_reg [3,4] fun K hK=>?_
 simp [init_eq]
 refine ACalls.mono (runes_ok _ _ hl) fun r H1 h=>?_
 obtain ⟨v,F,hr,hv,hu⟩:=h
 subst hr
 try simp
 apply hK;clear hK K
 have fin:∀ b:Bool,b = valOk s → V.b b = V.b (valOk s) ∧ V.lt H.next (V.b b) = true ∧ H.next ≤ H1.next ∧ ∀ j,j < H.next → H1.get j = H.get j:=fun b hb=>⟨by rw [hb],rfl,hu.1,fun j hj=>hu.2 j hj (by simp)⟩
 have hR:=hv.rsR (f:=letC) (by decide) (fun _=>rfl)
 have hlen:=hR.alen (P:=Tryz.prog) qelem_92 H1
 have hat:∀ i (hi:i < (letsOf s).length),∃ a,aindexAddr Tryz.prog 92 v (.i .i64 i) = some a ∧ aload Tryz.prog H1 3 a = some (.i .i64 ((letsOf s)[i]).1):=fun i hi =>
  hR.at1 qelem_92 qsize_3 qagg_3 i (by simp [hi,letC])
 have hle:=letsOf_len s
 have c0:((32:Int) < (letsOf s).length) = (32 < (letsOf s).length):=propext (by omega)
 refine AW_seq ?_
 refine AW_seq ?_
 refine AW_regto [3,17] ⟨36,[(3,v),(17,.b (!(letsOf s).all (·.2) || decide (32 < (letsOf s).length)))]⟩ H1 (fun K hk=>?_) ?_
 · cases hall:(letsOf s).all (·.2)
   · simpa [init_eq,hall] using hk
   · simpa [init_eq,hall,hlen,c0] using hk
 refine AW_cond' rfl rfl (fun hc=>?_) (fun hc=>?_)
 · refine AW_seq ?_
   refine AW_reg [2] fun K hK=>?_
   simp [init_eq]
   apply hK;clear hK K
   refine AW_ret (end_ret rfl (fin _ ?_))
   cases hall:(letsOf s).all (·.2)
   · rw [List.all_eq_false] at hall
     obtain ⟨x,hx,h2⟩:=hall
     rw [valOk_bad hx (by simp [valB] at h2 ⊢; simp [h2])]
   · rw [hall] at hc
     have:¬ (letsOf s).length ≤ 32:=by simp at hc; omega
     simp [valOk_eq,this]
 · have hall:(letsOf s).all (·.2) = true:=by
     cases h:(letsOf s).all (·.2)
     · rw [h] at hc; simp at hc
     · rfl
   have h32:(letsOf s).length ≤ 32:=by rw [hall] at hc; simp at hc; omega
   refine AW_skip ?_
   refine AW_seq ?_
   refine AW_seq ?_
   refine AW_reg [3,5] fun K hK=>?_
   simp [init_eq]
   apply hK;clear hK K
   refine AW_block ?_
   refine AW_loop0 (fun i:Nat=>⟨36,[(3,v),(5,.i .i64 i)]⟩) (fun i=>i ≤ (letsOf s).length ∧ ((letsOf s).take i).all valB = true) (fun i=>(letsOf s).length - i) 0 (by simp) (by simp) (hu.1) fun hw i hM=>?_
   refine AW_seq ?_
   refine AW_seq ?_
   refine AW_reg [3,5,21] fun K hK=>?_
   simp [init_eq,hlen]
   apply hK;clear hK K
   refine AW_cond' rfl rfl (fun hc=>?_) (fun hc=>?_)
   · have hi:i < (letsOf s).length:=by simpa using hc
     obtain ⟨a,p1,p2⟩:=hat i hi
     have hx2:((letsOf s)[i]).2 = true:=List.all_eq_true.1 hall _ (List.getElem_mem hi)
     have c1:(((letsOf s)[i].1:Int) = 127) = ((letsOf s)[i].1 = 127):=propext (by omega)
     have c2:(((letsOf s)[i].1:Int) < 32) = ((letsOf s)[i].1 < 32):=propext (by omega)
     refine AW_skip ?_
     refine AW_seq ?_
     refine AW_block ?_
     refine AW_seq ?_
     refine AW_regto [3,5,35] ⟨36,[(3,v),(5,.i .i64 i),(35,.b (!valB (letsOf s)[i]))]⟩ H1 (fun K hk=>?_) ?_
     · by_cases k1:(letsOf s)[i].1 < 32
       · simpa [init_eq,p1,p2,c1,c2,k1,valB,hx2] using hk
       · simpa [init_eq,p1,p2,c1,c2,k1,valB,hx2] using hk
     refine AW_cond' rfl rfl (fun hc=>?_) (fun hc=>?_)
     · have hg:valB (letsOf s)[i] = false:=by simpa using hc
       refine AW_seq ?_
       refine AW_reg [2] fun K hK=>?_
       simp [init_eq]
       apply hK;clear hK K
       refine AW_ret (end_ret rfl (fin _ ?_))
       rw [valOk_bad (List.getElem_mem hi) hg]
     · have hg:valB (letsOf s)[i] = true:=by simpa using hc
       refine AW_skip ?_
       refine AW_reg [3,5] fun K hK=>?_
       simp [init_eq,wrap_id (x:=(i:Int) + 1) (by omega) (by omega)]
       apply hK;clear hK K
       refine rend ⟨i + 1,by simp,⟨by omega,?_⟩,by omega,.inl rfl⟩
       rw [List.take_succ_eq_append_getElem hi,List.all_append,hM.2]; simp [hg]
   · have hi:i = (letsOf s).length:=by
       have:¬ i < (letsOf s).length:=by simpa using hc
       omega
     subst hi
     refine AW_exit (then_exit (then_exit (block_here ?_)))
     refine AW_seq ?_
     refine AW_reg [2] fun K hK=>?_
     simp [init_eq]
     apply hK;clear hK K
     refine AW_ret (end_ret rfl (fin _ ?_))
     have h2:=hM.2
     rw [List.take_length] at h2
     simp [valOk_eq,h2,h32]
end Go.Proofs.YtaidfojbnfkclaaGreatDoor
set_option linter.unusedVariables false
set_option linter.unusedSimpArgs false
namespace Go.Proofs.YtaidfojbnfkclaaGreatDoor
open Go Go.Abs Go.Proofs
set_option maxRecDepth 100000
attribute [local irreducible] AEnd AW ACalls
theorem nwithin_ok (H:AH) (n a b:Int):ACalls Tryz.prog 61 [.i .i64 n,.i .i64 a,.i .i64 b] H fun r H'=>r = .b (inR n a b) ∧ H' = H:=by
 refine ACalls_body Tryz.func61 rfl rfl ?_
 refine AW_seq ?_
 refine AW_reg [0,1,2] fun K hK=>?_
 simp [init_eq]
 apply hK;clear hK K
 refine AW_seq ?_
 refine AW_regto [6] ⟨15,[(6,.b (inR n a b))]⟩ H (fun K hk=>?_) (AW_ret (end_ret rfl ⟨rfl,rfl⟩))
 by_cases h1:a ≤ n
 · simpa [init_eq,h1,inR] using hk
 · simpa [init_eq,h1,inR] using hk
/-- Its texts are no longer than memory. -/
structure Tx.small (t:Tx):Prop where
 src:t.src.length ≤ 1000000000
 dst:t.dst.length ≤ 1000000000
 key:t.key.length ≤ 1000000000
 val:t.val.length ≤ 1000000000
/-- Its texts are no longer than any machine's. -/
structure Tx.fits (t:Tx):Prop where
 src:t.src.length ≤ 140737488351232
 dst:t.dst.length ≤ 140737488351232
 key:t.key.length ≤ 140737488351232
 val:t.val.length ≤ 140737488351232
theorem Tx.small.fits {t:Tx} (h:t.small):t.fits:=⟨by have:=h.src; omega,by have:=h.dst; omega,by have:=h.key; omega,by have:=h.val; omega⟩
theorem Tx.small_of {t:Tx} (h:t.great = false):t.small:=by
 simp [Tx.great] at h
 exact ⟨by omega,by omega,by omega,by omega⟩
def Tx.base (t:Tx):Bool:=nameOk t.src && inR t.nonce 1 4611686018427387904
def Tx.moveOk (t:Tx):Bool:=t.base && nameOk t.dst && inR t.amount 1 4611686018427387904 && decide (t.key = []) && decide (t.val = [])
def Tx.putOk (t:Tx):Bool:=t.base && nameOk t.key && valOk t.val && decide (t.dst = []) && decide (t.amount = 0)
/-- Is it right? -/
def Tx.ok (t:Tx):Bool:=if t.kind = 1 then t.moveOk else if t.kind = 2 then t.putOk else false
theorem txCheck_ok (H:AH) (t:Tx) (hs:t.fits):ACalls Tryz.prog 28 [.agg t.cells] H fun r H'=>r = .i .i64 (if t.ok then 0 else 80) ∧ H' = H:=by
 refine ACalls.pure (Q:=fun r=>r = .i .i64 (if t.ok then 0 else 80)) ⟨_,Tryz.func28,rfl,rfl⟩ ?_
 refine ACalls_body Tryz.func28 rfl rfl ?_
 refine AW_seq ?_
 refine AW_reg [1] fun K hK=>?_
 simp [init_eq,V.cells]
 obtain ⟨H1,e1,hp,hn,ho⟩:=H.boxed t.cells
 rw [e1]
 apply hK;clear hK K
 refine AW_seq ?_
 refine AW_regto [1,3] ⟨66,[(1,.p (some (H.next,0,0))),(3,.b t.base)]⟩ H1 (fun K hk=>?_) ?_
 · simp [init_eq,afieldAddr,aload,hp]
   refine ACalls.mono (name_ok _ _ hs.src) fun r H' ⟨hr,e⟩=>?_
   subst hr e
   cases h1:nameOk t.src
   · simpa [Tx.base,h1] using hk
   simp [afieldAddr,aload,hp]
   refine ACalls.mono (nwithin_ok ..) fun r H' ⟨hr,e⟩=>?_
   subst hr e
   simpa [Tx.base,h1] using hk
 refine AW_cutto ⟨66,[(3,.b t.ok)]⟩ H1 ?_ ?_
 · refine AW_seq ?_
   refine AW_reg [1,3,14] fun K hK=>?_
   simp [init_eq,afieldAddr,aload,hp]
   apply hK;clear hK K
   refine AW_block ?_
   refine AW_seq ?_
   refine AW_reg [1,3,14,15] fun K hK=>?_
   simp [init_eq]
   apply hK;clear hK K
   refine AW_cond' rfl rfl (fun hc=>?_) (fun hc=>?_)
   · have hk1:t.kind = 1:=by simpa using hc
     have e:t.ok = t.moveOk:=by simp [Tx.ok,hk1]
     refine AW_regto [3] ⟨66,[(3,.b t.ok)]⟩ H1 (fun K hk=>?_) ⟨rfl,rfl⟩
     rw [e] at hk
     cases hb:t.base
     · simpa [init_eq,Tx.moveOk,hb] using hk
     simp [init_eq,afieldAddr,aload,hp]
     refine ACalls.mono (name_ok _ _ hs.dst) fun r H' ⟨hr,e⟩=>?_
     subst hr e
     cases h1:nameOk t.dst
     · simpa [Tx.moveOk,hb,h1] using hk
     simp [afieldAddr,aload,hp]
     refine ACalls.mono (nwithin_ok ..) fun r H' ⟨hr,e⟩=>?_
     subst hr e
     cases h2:inR t.amount 1 4611686018427387904
     · simpa [Tx.moveOk,hb,h1,h2] using hk
     by_cases h3:t.key = []
     · simpa [afieldAddr,aload,hp,Tx.moveOk,hb,h1,h2,h3] using hk
     · simpa [afieldAddr,aload,hp,Tx.moveOk,hb,h1,h2,h3] using hk
   · have hk1:¬ t.kind = 1:=by simpa using hc
     refine AW_seq ?_
     refine AW_reg [1,3,39] fun K hK=>?_
     simp [init_eq]
     apply hK;clear hK K
     refine AW_cond' rfl rfl (fun hc=>?_) (fun hc=>?_)
     · have hk2:t.kind = 2:=by simpa using hc
       have e:t.ok = t.putOk:=by simp [Tx.ok,hk2]
       refine AW_regto [3] ⟨66,[(3,.b t.ok)]⟩ H1 (fun K hk=>?_) ⟨rfl,rfl⟩
       rw [e] at hk
       cases hb:t.base
       · simpa [init_eq,Tx.putOk,hb] using hk
       simp [init_eq,afieldAddr,aload,hp]
       refine ACalls.mono (name_ok _ _ hs.key) fun r H' ⟨hr,e⟩=>?_
       subst hr e
       cases h1:nameOk t.key
       · simpa [Tx.putOk,hb,h1] using hk
       simp [afieldAddr,aload,hp]
       refine ACalls.mono (value_ok _ _ hs.val) fun r H' ⟨hr,e⟩=>?_
       subst hr e
       cases h2:valOk t.val
       · simpa [Tx.putOk,hb,h1,h2] using hk
       by_cases h3:t.dst = []
       · simpa [afieldAddr,aload,hp,Tx.putOk,hb,h1,h2,h3] using hk
       · simpa [afieldAddr,aload,hp,Tx.putOk,hb,h1,h2,h3] using hk
     · have hk2:¬ t.kind = 2:=by simpa using hc
       refine AW_reg [3] fun K hK=>?_
       simp [init_eq]
       apply hK;clear hK K
       exact ⟨by simp [Tx.ok,hk1,hk2],rfl⟩
 · refine AW_seq ?_
   refine AW_seq ?_
   refine AW_reg [65] fun K hK=>?_
   simp [init_eq]
   apply hK;clear hK K
   refine AW_cond' rfl rfl (fun hc=>?_) (fun hc=>?_)
   · have h:t.ok = false:=by simpa using hc
     refine AW_seq ?_
     refine AW_reg [2] fun K hK=>?_
     simp [init_eq]
     apply hK;clear hK K
     refine AW_ret (end_ret rfl (pure_end hn ho ?_ rfl))
     simp [h]
   · have h:t.ok = true:=by simpa using hc
     refine AW_skip ?_
     refine AW_seq ?_
     refine AW_reg [2] fun K hK=>?_
     simp [init_eq]
     apply hK;clear hK K
     refine AW_ret (end_ret rfl (pure_end hn ho ?_ rfl))
     simp [h]
theorem rtxCheck_ok (H:AH) (t:Tx) (hs:t.small):ACalls Tryz.prog 71 [.agg t.cells] H fun r H'=>r = .b t.ok ∧ H' = H:=by
 refine ACalls.pure (Q:=fun r=>r = .b t.ok) ⟨_,Tryz.func71,rfl,rfl⟩ ?_
 refine ACalls_body Tryz.func71 rfl rfl ?_
 refine AW_seq ?_
 refine AW_reg [1] fun K hK=>?_
 simp [init_eq,V.cells]
 obtain ⟨H1,e1,hp,hn,ho⟩:=H.boxed t.cells
 rw [e1]
 apply hK;clear hK K
 refine AW_seq ?_
 refine AW_seq ?_
 refine AW_regto [1,16] ⟨66,[(1,.p (some (H.next,0,0))),(16,.b (!t.base))]⟩ H1 (fun K hk=>?_) ?_
 · by_cases h1:t.nonce < 1
   · have:inR t.nonce 1 4611686018427387904 = false:=by simp [inR]; omega
     simpa [init_eq,afieldAddr,aload,hp,h1,Tx.base,this] using hk
   by_cases h2:4611686018427387904 < t.nonce
   · have:inR t.nonce 1 4611686018427387904 = false:=by simp [inR]; omega
     simpa [init_eq,afieldAddr,aload,hp,h1,h2,Tx.base,this] using hk
   have:inR t.nonce 1 4611686018427387904 = true:=by simp [inR]; omega
   simp [init_eq,afieldAddr,aload,hp,h1,h2]
   refine ACalls.mono (rname_ok _ _ hs.src) fun r H' ⟨hr,e⟩=>?_
   subst hr e
   simpa [Tx.base,this] using hk
 refine AW_cond' rfl rfl (fun hc=>?_) (fun hc=>?_)
 · have hb:t.base = false:=by simpa using hc
   refine AW_seq ?_
   refine AW_reg [2] fun K hK=>?_
   simp [init_eq]
   apply hK;clear hK K
   refine AW_ret (end_ret rfl (pure_end hn ho ?_ rfl))
   simp [Tx.ok,Tx.moveOk,Tx.putOk,hb]
 · have hb:t.base = true:=by simpa using hc
   refine AW_skip ?_
   refine AW_seq ?_
   refine AW_seq ?_
   refine AW_reg [1,19] fun K hK=>?_
   simp [init_eq,afieldAddr,aload,hp]
   apply hK;clear hK K
   refine AW_cond' rfl rfl (fun hc=>?_) (fun hc=>?_)
   · have hk1:t.kind = 1:=by simpa using hc
     have e:t.ok = t.moveOk:=by simp [Tx.ok,hk1]
     refine AW_seq ?_
     refine AW_regto [2] ⟨66,[(2,.b t.ok)]⟩ H1 (fun K hk=>?_) (AW_ret (end_ret rfl (pure_end hn ho rfl rfl)))
     rw [e] at hk
     simp [init_eq,afieldAddr,aload,hp]
     refine ACalls.mono (rname_ok _ _ hs.dst) fun r H' ⟨hr,e⟩=>?_
     subst hr e
     cases h1:nameOk t.dst
     · simpa [Tx.moveOk,hb,h1] using hk
     by_cases h2:1 ≤ t.amount
     case neg =>
       have:inR t.amount 1 4611686018427387904 = false:=by simp [inR]; omega
       simpa [afieldAddr,aload,hp,Tx.moveOk,hb,h1,h2,this] using hk
     by_cases h2':t.amount ≤ 4611686018427387904
     case neg =>
       have:inR t.amount 1 4611686018427387904 = false:=by simp [inR]; omega
       simpa [afieldAddr,aload,hp,Tx.moveOk,hb,h1,h2,h2',this] using hk
     have:inR t.amount 1 4611686018427387904 = true:=by simp [inR]; omega
     by_cases h3:t.key = []
     · simpa [afieldAddr,aload,hp,Tx.moveOk,hb,h1,h2,h2',this,h3] using hk
     · simpa [afieldAddr,aload,hp,Tx.moveOk,hb,h1,h2,h2',this,h3] using hk
   · have hk1:¬ t.kind = 1:=by simpa using hc
     refine AW_skip ?_
     refine AW_seq ?_
     refine AW_regto [2] ⟨66,[(2,.b t.ok)]⟩ H1 (fun K hk=>?_) (AW_ret (end_ret rfl (pure_end hn ho rfl rfl)))
     by_cases hk2:t.kind = 2
     case neg =>
       have e:t.ok = false:=by simp [Tx.ok,hk1,hk2]
       simpa [init_eq,afieldAddr,aload,hp,hk2,e] using hk
     have e:t.ok = t.putOk:=by simp [Tx.ok,hk2]
     rw [e] at hk
     simp [init_eq,afieldAddr,aload,hp,hk2]
     refine ACalls.mono (rname_ok _ _ hs.key) fun r H' ⟨hr,e⟩=>?_
     subst hr e
     cases h1:nameOk t.key
     · simpa [Tx.putOk,hb,h1] using hk
     simp [afieldAddr,aload,hp]
     refine ACalls.mono (rvalue_ok _ _ hs.val) fun r H' ⟨hr,e⟩=>?_
     subst hr e
     cases h2:valOk t.val
     · simpa [Tx.putOk,hb,h1,h2] using hk
     by_cases h3:t.dst = []
     · simpa [afieldAddr,aload,hp,Tx.putOk,hb,h1,h2,h3] using hk
     · simpa [afieldAddr,aload,hp,Tx.putOk,hb,h1,h2,h3] using hk
end Go.Proofs.YtaidfojbnfkclaaGreatDoor
set_option linter.unusedVariables false
set_option linter.unusedSimpArgs false
namespace Go.Proofs.YtaidfojbnfkclaaGreatDoor
open Go Go.Abs Go.Proofs
set_option maxRecDepth 100000
attribute [local irreducible] AEnd AW ACalls
/-- No more is in it than memory holds. -/
structure Blk.small (b:Blk):Prop where
 pf:b.proof.length ≤ 1000000000
 tx:b.txs.length ≤ 1000000000
 each:∀ t ∈ b.txs,t.small
/-- No more is in it than any machine holds. -/
structure Blk.fits (b:Blk):Prop where
 pf:b.proof.length ≤ 140737488351232
 tx:b.txs.length ≤ 140737488351232
 each:∀ t ∈ b.txs,t.fits
theorem Blk.small.fits {b:Blk} (h:b.small):b.fits:=⟨by have:=h.pf; omega,by have:=h.tx; omega,fun t ht=>(h.each t ht).fits⟩
theorem Blk.small_of {b:Blk} (h:b.great = false):b.small:=by
 simp only [Blk.great,Bool.or_eq_false_iff,decide_eq_false_iff_not] at h
 refine ⟨by omega,by omega,fun t ht=>Tx.small_of ?_⟩
 have:=List.any_eq_false.1 h.2 t ht
 simpa using this
theorem wrong_ok (H:AH) (t:Tx) (hs:t.fits):ACalls Tryz.prog 27 [.agg t.cells] H fun r H'=>r = .b (!t.ok) ∧ H' = H:=by
 refine ACalls.pure (Q:=fun r=>r = .b (!t.ok)) ⟨_,Tryz.func27,rfl,rfl⟩ ?_
 refine ACalls_body Tryz.func27 rfl rfl ?_
 refine AW_seq ?_
 refine AW_reg [1] fun K hK=>?_
 simp [init_eq,V.cells]
 obtain ⟨H1,e1,hp,hn,ho⟩:=H.boxed t.cells
 rw [e1]
 apply hK;clear hK K
 refine AW_seq ?_
 refine AW_reg [2] fun K hK=>?_
 simp [init_eq,aload,hp,tx_take]
 refine ACalls.mono (txCheck_ok _ _ hs) fun r H' ⟨hr,e⟩=>?_
 subst hr e
 simp
 apply hK;clear hK K
 refine AW_ret (end_ret rfl (pure_end hn ho ?_ rfl))
 cases t.ok <;> simp
theorem indexWrong_ok (H:AH) {v:V} {ts:List Tx} (hv:RS H v 7 (ts.map Tx.cells)) (hlen:ts.length ≤ 140737488351232) (hs:∀ t ∈ ts,t.fits) :
  ACalls Tryz.prog 59 [v,.fn (.func 27) [] []] H fun r H'=>(∃ n:Int,r = .i .i64 n ∧ (decide (0 ≤ n)) = !ts.all Tx.ok) ∧ H' = H:=by
 have lx:=hv.alen (P:=Tryz.prog) qelem_26 H
 refine ACalls_body Tryz.func59 rfl rfl ?_
 refine AW_seq ?_
 refine AW_reg [0,1] fun K hK=>?_
 simp [init_eq]
 apply hK;clear hK K
 refine AW_seq ?_
 refine AW_seq ?_
 refine AW_reg [0,1,7,8] fun K hK=>?_
 simp [init_eq,lx]
 apply hK;clear hK K
 refine AW_block ?_
 refine AW_loop0 (fun i:Nat=>⟨19,[(0,v),(1,.fn (.func 27) [] []),(7,.i .i64 ts.length),(8,.i .i64 i)]⟩) (fun i=>i ≤ ts.length ∧ (ts.take i).all Tx.ok = true) (fun i=>ts.length - i) 0 (by simp) (by simp) (by dsimp only; omega) fun hw i hM=>?_
 refine AW_seq ?_
 refine AW_reg [0,1,7,8,9] fun K hK=>?_
 simp [init_eq]
 apply hK;clear hK K
 refine AW_seq ?_
 refine AW_cond' rfl rfl (fun hc=>?_) (fun hc=>?_)
 · have hi:i < ts.length:=by simpa using hc
   obtain ⟨ax,px,qx⟩:=hv.rec Tx.len (by decide) (P:=Tryz.prog) qelem_26 qsize_75 qagg_75 hi
   refine AW_skip ?_
   refine AW_seq ?_
   refine AW_block ?_
   refine AW_seq ?_
   refine AW_reg [0,1,5,7,8] fun K hK=>?_
   simp [init_eq]
   apply hK;clear hK K
   refine AW_seq ?_
   refine AW_reg [0,1,5,7,8,16] fun K hK=>?_
   simp [init_eq,px,qx,AOp_callv (f:=27) (first:=[]) (caps:=[])]
   refine ACalls.mono (wrong_ok _ _ (hs _ (List.getElem_mem hi))) fun r H' ⟨hr,e⟩=>?_
   subst hr e
   try simp
   apply hK;clear hK K
   refine AW_cond' rfl rfl (fun hc=>?_) (fun hc=>?_)
   · have hg:ts[i].ok = false:=by simpa using hc
     refine AW_seq ?_
     refine AW_reg [4] fun K hK=>?_
     simp [init_eq]
     apply hK;clear hK K
     refine AW_ret (end_ret rfl ⟨⟨i,rfl,?_⟩,rfl⟩)
     have:ts.all Tx.ok = false:=by rw [List.all_eq_false]; exact ⟨ts[i],List.getElem_mem hi,by simp [hg]⟩
     simp [this]
   · have hg:ts[i].ok = true:=by simpa using hc
     refine AW_skip ?_
     refine AW_reg [0,1,7,8] fun K hK=>?_
     simp [init_eq,wrap_id (x:=(i:Int) + 1) (by omega) (by omega)]
     apply hK;clear hK K
     refine rend ⟨i + 1,by simp,⟨by omega,?_⟩,by omega,.inl rfl⟩
     rw [List.take_succ_eq_append_getElem hi,List.all_append,hM.2]; simp [hg]
 · have hi:i = ts.length:=by
     have:¬ i < ts.length:=by simpa using hc
     omega
   subst hi
   refine AW_exit (then_exit (then_exit (block_here ?_)))
   refine AW_seq ?_
   refine AW_reg [4] fun K hK=>?_
   simp [init_eq]
   apply hK;clear hK K
   have h2:=hM.2
   rw [List.take_length] at h2
   refine AW_ret (end_ret rfl ⟨⟨-1,rfl,?_⟩,rfl⟩)
   simp [h2]
theorem anyWrong_ok (H:AH) {v:V} {ts:List Tx} (hv:RS H v 7 (ts.map Tx.cells)) (hlen:ts.length ≤ 140737488351232) (hs:∀ t ∈ ts,t.fits) :
  ACalls Tryz.prog 26 [v,.fn (.func 27) [] []] H fun r H'=>r = .b (!ts.all Tx.ok) ∧ H' = H:=by
 refine ACalls_body Tryz.func26 rfl rfl ?_
 refine AW_seq ?_
 refine AW_reg [0,1] fun K hK=>?_
 simp [init_eq]
 apply hK;clear hK K
 refine AW_seq ?_
 refine AW_reg [4] fun K hK=>?_
 simp [init_eq]
 refine ACalls.mono (indexWrong_ok H hv hlen hs) fun r H' h=>?_
 obtain ⟨⟨n,rfl,hn⟩,rfl⟩:=h
 simp
 apply hK;clear hK K
 refine AW_ret (end_ret rfl ?_)
 simp [hn]
/-- May it stand behind its parent? -/
def Blk.parentOk (b:Blk):Bool :=
 decide (b.round = IntKind.i64.wrap (b.parent.round + 1)) && decide (b.round ≤ 1073741824) &&
  (if b.height ≤ 1 then openS b.parent b.view else b.parent.ok && decide (b.parent.kind = 2) && !b.parent.endorsed && decide (b.parent.view = b.view) && decide (b.parent.author = b.author) && decide (b.parent.height = IntKind.i64.wrap (b.height - 1)))
theorem parent_ok (H:AH) {id:Nat} {b:Blk} {pv tv:V} (hp:H.get id = some (.cells (b.cells pv tv) 0 false 0)):ACalls Tryz.prog 30 [.p (some (id,0,0))] H fun r H'=>r = .b b.parentOk ∧ H' = H:=by
 have hid:=AH.get_lt hp
 refine ACalls.pure (Q:=fun r=>r = .b b.parentOk) ⟨_,Tryz.func30,rfl,rfl⟩ ?_
 refine ACalls_body Tryz.func30 rfl rfl ?_
 refine AW_seq ?_
 refine AW_reg [0] fun K hK=>?_
 simp [init_eq]
 apply hK;clear hK K
 refine AW_seq ?_
 refine AW_reg [0,3] fun K hK=>?_
 simp [init_eq,afieldAddr,aload,hp,Blk.parent_cells,astore,AH.get_new,V.cells,splice_all]
 apply hK;clear hK K
 generalize hH1:(H.new _).set H.next _ = H1
 have hq:H1.get H.next = some (.cells b.parent.cells 0 false 0):=by rw [← hH1]; simp [AH.get_set]; exact splice_all rfl
 have hn:H1.next = H.next + 1:=by rw [← hH1]; simp
 have ho:∀ j,j < H.next → H1.get j = H.get j:=fun j hj=>by rw [← hH1]; simp [AH.get_set,AH.get_new,show j ≠ H.next by omega]
 have hp1:=(ho id hid).trans hp
 clear hH1
 refine AW_seq ?_
 refine AW_seq ?_
 refine AW_regdto [0,3,22] pl_30_2 pe_30_2 ⟨75,[(0,.p (some (id,0,0))),(3,.p (some (H.next,0,0))),(22,.b (!(decide (b.round = IntKind.i64.wrap (b.parent.round + 1)) && decide (b.round ≤ 1073741824))))]⟩ H1 (by kernel_rfl) (by kernel_rfl) (by decide) (fun K hk=>?_) ?_
 · by_cases h1:b.round = IntKind.i64.wrap (b.parent.round + 1)
   · by_cases h2:b.round ≤ 1073741824
     · have h2':¬ 1073741824 < b.round:=by omega
       simpa [init_eq,pl_30_2,afieldAddr,aload,hp1,hq,← h1,h2,h2'] using hk
     · have h2':1073741824 < b.round:=by omega
       simpa [init_eq,pl_30_2,afieldAddr,aload,hp1,hq,← h1,h2,h2'] using hk
   · simpa [init_eq,pl_30_2,afieldAddr,aload,hp1,hq,h1] using hk
 refine AW_cond' rfl rfl (fun hc=>?_) (fun hc=>?_)
 · have h0:(decide (b.round = IntKind.i64.wrap (b.parent.round + 1)) && decide (b.round ≤ 1073741824)) = false:=by
     cases h:(decide (b.round = IntKind.i64.wrap (b.parent.round + 1)) && decide (b.round ≤ 1073741824))
     · rfl
     · rw [h] at hc; cases hc
   refine AW_seq ?_
   refine AW_reg [2] fun K hK=>?_
   simp [init_eq]
   apply hK;clear hK K
   refine AW_ret (end_ret rfl (pure_end hn ho ?_ rfl))
   unfold Blk.parentOk
   rw [h0]; rfl
 · have h0:(decide (b.round = IntKind.i64.wrap (b.parent.round + 1)) && decide (b.round ≤ 1073741824)) = true:=by
     cases h:(decide (b.round = IntKind.i64.wrap (b.parent.round + 1)) && decide (b.round ≤ 1073741824))
     · rw [h] at hc; cases hc
     · rfl
   have hP:b.parentOk = (if b.height ≤ 1 then openS b.parent b.view else b.parent.ok && decide (b.parent.kind = 2) && !b.parent.endorsed && decide (b.parent.view = b.view) && decide (b.parent.author = b.author) && decide (b.parent.height = IntKind.i64.wrap (b.height - 1))):=by
    unfold Blk.parentOk
    rw [h0,Bool.true_and]
   refine AW_skip ?_
   refine AW_seq ?_
   refine AW_seq ?_
   refine AW_reg [0,3,27] fun K hK=>?_
   simp [init_eq,afieldAddr,aload,hp1]
   apply hK;clear hK K
   refine AW_cond' rfl rfl (fun hc=>?_) (fun hc=>?_)
   · have h1:b.height ≤ 1:=by simpa using hc
     rw [if_pos h1] at hP
     refine AW_seq ?_
     refine AW_regd [2] pl_30_5 pe_30_5 (by kernel_rfl) (by kernel_rfl) (by decide) fun K hK=>?_
     simp [init_eq,pl_30_5,afieldAddr,aload,hp1,hq,take_cells]
     refine ACalls.mono (bopen_ok ..) fun r H' ⟨hr,e⟩=>?_
     subst hr e
     try simp
     apply hK;clear hK K
     refine AW_ret (end_ret rfl (pure_end hn ho ?_ rfl))
     simp [hP]
   · have h1:¬ b.height ≤ 1:=by simpa using hc
     rw [if_neg h1] at hP
     refine AW_skip ?_
     refine AW_seq ?_
     refine AW_regdto [2] pl_30_6 pe_30_6 ⟨75,[(2,.b b.parentOk)]⟩ H1 (by kernel_rfl) (by kernel_rfl) (by decide) (fun K hk=>?_) (AW_ret (end_ret rfl (pure_end hn ho rfl rfl)))
     rw [hP] at hk
     have hck:(b.parent.check = 0) ↔ b.parent.ok = true:=by unfold Cert.check; cases b.parent.ok <;> simp
     simp [init_eq,pl_30_6,afieldAddr,aload,hp1,hq,take_cells]
     refine ACalls.mono (check_ok ..) fun r H' ⟨hr,e⟩=>?_
     subst hr e
     cases g1:b.parent.ok
     · have:¬ b.parent.check = 0:=by rw [hck,g1]; simp
       simpa [this,g1] using hk
     have g0:b.parent.check = 0:=hck.2 g1
     by_cases g2:b.parent.kind = 2
     case neg=>simpa [g0,g1,g2,afieldAddr,aload,hq] using hk
     simp [g0,g2,afieldAddr,aload,hq,take_cells]
     refine ACalls.mono (endorsed_ok ..) fun r H' ⟨hr,e⟩=>?_
     subst hr e
     cases g3:b.parent.endorsed
     case true=>simpa [g1,g2,g3] using hk
     by_cases g4:b.parent.view = b.view
     case neg=>simpa [g1,g2,g3,g4,afieldAddr,aload,hp1,hq] using hk
     by_cases g5:b.parent.author = b.author
     case neg=>simpa [g1,g2,g3,g4,g5,afieldAddr,aload,hp1,hq] using hk
     simpa [g1,g2,g3,g4,g5,afieldAddr,aload,hp1,hq] using hk
/-- Does the i-th timeout stand in order? -/
def sgnAt (ps:List Tmo) (i:Nat):Bool :=
 decide (i = 0) || (match ps[i - 1]?,ps[i]? with | some u,some t=>decide (u.signer < t.signer) | _,_=>false)
theorem sgnAt_zero (ps:List Tmo) {i:Nat} (h:i = 0):sgnAt ps i = true:=by simp [sgnAt,h]
theorem sgnAt_pos {ps:List Tmo} {i:Nat} (h:¬ i = 0) (hi:i < ps.length):sgnAt ps i = decide ((ps[i - 1]'(by omega)).signer < ps[i].signer):=by
 have h1:ps[i - 1]? = some (ps[i - 1]'(by omega)):=List.getElem?_eq_getElem (by omega)
 have h2:ps[i]? = some ps[i]:=List.getElem?_eq_getElem hi
 unfold sgnAt
 rw [h1,h2]
 simp [h]
/-- The i-th timeout of a proof. -/
def pAt (v:Int) (ps:List Tmo) (i:Nat):Bool :=
 match ps[i]? with
 | some t=>t.ok && decide (t.view = v) && sgnAt ps i
 | none=>false
theorem pAt_eq {v:Int} {ps:List Tmo} {i:Nat} (hi:i < ps.length):pAt v ps i = (ps[i].ok && decide (ps[i].view = v) && sgnAt ps i):=by
 have h2:ps[i]? = some ps[i]:=List.getElem?_eq_getElem hi
 unfold pAt
 rw [h2]
/-- May its timeouts be? -/
def Blk.proofOk (b:Blk):Bool :=
 if b.height = 1 then (List.range b.proof.length).all (pAt b.view b.proof) && inR b.proof.length 1 10 else decide (b.proof.length = 0)
theorem proof_ok (H:AH) {id:Nat} {b:Blk} {pv tv:V} (hp:H.get id = some (.cells (b.cells pv tv) 0 false 0)) (hb:BlkAt H b pv tv) (hs:b.proof.length ≤ 140737488351232):ACalls Tryz.prog 31 [.p (some (id,0,0))] H fun r H'=>r = .b b.proofOk ∧ H' = H:=by
 have hid:=AH.get_lt hp
 have lp:=hb.pf.alen (P:=Tryz.prog) qelem_25
 refine ACalls.pure (Q:=fun r=>r = .b b.proofOk) ⟨_,Tryz.func31,rfl,rfl⟩ ?_
 refine ACalls_body Tryz.func31 rfl rfl ?_
 refine AW_seq ?_
 refine AW_reg [0] fun K hK=>?_
 simp [init_eq]
 apply hK;clear hK K
 refine AW_seq ?_
 refine AW_seq ?_
 refine AW_reg [0,9] fun K hK=>?_
 simp [init_eq,afieldAddr,aload,hp]
 apply hK;clear hK K
 refine AW_cond' rfl rfl (fun hc=>?_) (fun hc=>?_)
 · have h1:¬ b.height = 1:=by simpa using hc
   refine AW_seq ?_
   refine AW_reg [2] fun K hK=>?_
   simp [init_eq,afieldAddr,aload,hp,lp]
   apply hK;clear hK K
   refine AW_ret (end_ret rfl (same_end ?_ rfl))
   simp [Blk.proofOk,h1]
 · have h1:b.height = 1:=by simpa using hc
   refine AW_skip ?_
   refine AW_seq ?_
   refine AW_seq ?_
   refine AW_reg [0,19,20,21] fun K hK=>?_
   simp [init_eq,afieldAddr,aload,hp,lp]
   apply hK;clear hK K
   refine AW_block ?_
   refine AW_loop0 (fun i:Nat=>⟨63,[(0,.p (some (id,0,0))),(19,pv),(20,.i .i64 b.proof.length),(21,.i .i64 i)]⟩) (fun i=>i ≤ b.proof.length ∧ (List.range i).all (pAt b.view b.proof) = true) (fun i=>b.proof.length - i) 0 (by simp) (by simp) (by dsimp only; omega) fun hw i hM=>?_
   refine AW_seq ?_
   refine AW_reg [0,19,20,21,22] fun K hK=>?_
   simp [init_eq]
   apply hK;clear hK K
   refine AW_seq ?_
   refine AW_cond' rfl rfl (fun hc=>?_) (fun hc=>?_)
   · have hi:i < b.proof.length:=by simpa using hc
     obtain ⟨ax,px,qx⟩:=hb.pf.rec Tmo.len (by decide) (P:=Tryz.prog) qelem_25 qsize_68 qagg_68 hi
     refine AW_skip ?_
     refine AW_seq ?_
     refine AW_block ?_
     refine AW_seq ?_
     refine AW_reg [0,3,4,19,20,21] fun K hK=>?_
     simp [init_eq,px,qx,astore,AH.get_new,V.cells,splice_all]
     apply hK;clear hK K
     generalize hH1:(H.new _).set H.next _ = H1
     have hq:H1.get H.next = some (.cells b.proof[i].cells 0 false 0):=by rw [← hH1]; simp [AH.get_set]; exact splice_all rfl
     have hn:H1.next = H.next + 1:=by rw [← hH1]; simp
     have ho:∀ j,j < H.next → H1.get j = H.get j:=fun j hj=>by rw [← hH1]; simp [AH.get_set,AH.get_new,show j ≠ H.next by omega]
     have hp1:=(ho id hid).trans hp
     have hb1:=hb.same ho
     clear hH1
     have hpa:=pAt_eq (v:=b.view) hi
     refine AW_seq ?_
     refine AW_regdto [0,19,20,21,55] pl_31_6 pe_31_6 ⟨63,[(0,.p (some (id,0,0))),(19,pv),(20,.i .i64 b.proof.length),(21,.i .i64 i),(55,.b (!pAt b.view b.proof i))]⟩ H1 (by kernel_rfl) (by kernel_rfl) (by decide) (fun K hk=>?_) ?_
     · rw [hpa] at hk
       simp [init_eq,pl_31_6,afieldAddr,aload,hq,tmo_take]
       refine ACalls.mono (btimeout_ok ..) fun r H' ⟨hr,e⟩=>?_
       subst hr e
       cases g1:b.proof[i].ok
       · simpa [g1] using hk
       by_cases g2:b.proof[i].view = b.view
       case neg=>simpa [g1,g2,afieldAddr,aload,hq,hp1] using hk
       by_cases g3:i = 0
       · have g3n:¬ 0 < i:=by omega
         simpa [g1,g2,g3n,sgnAt_zero _ g3,afieldAddr,aload,hq,hp1] using hk
       have g3':0 < i:=by omega
       have ei:(i:Int) - 1 = ((i - 1:Nat):Int):=by omega
       obtain ⟨ay,ay',py,qy,ry⟩:=hb1.pf.fld Tmo.len (by decide) (P:=Tryz.prog) qelem_25 qsize_68 (i:=i - 1) (by omega) qfield_68_0 qagg_3 qsize_3 (Tmo.c0 _)
       have l1:aload Tryz.prog H' 25 (.p (some (id,0,12))) = some pv:=by simp [aload,hp1]
       have l2:aload Tryz.prog H' 3 (.p (some (id,0,0))) = some (.i .i64 b.view):=by simp [aload,hp1]
       have l3:aload Tryz.prog H' 3 (.p (some (H.next,0,0))) = some (.i .i64 b.proof[i].signer):=by simp [aload,hq]
       have l4:aload Tryz.prog H' 3 (.p (some (H.next,0,1))) = some (.i .i64 b.proof[i].view):=by simp [aload,hq]
       have f1:∀ (x o:Nat),afieldAddr Tryz.prog 68 1 (.p (some (x,0,o))) = some (.p (some (x,0,o + 1))):=fun x o=>by simp [afieldAddr]
       have f2:∀ (x o:Nat),afieldAddr Tryz.prog 28 0 (.p (some (x,0,o))) = some (.p (some (x,0,o))):=fun x o=>by simp [afieldAddr]
       have f3:∀ (x o:Nat),afieldAddr Tryz.prog 28 5 (.p (some (x,0,o))) = some (.p (some (x,0,o + 12))):=fun x o=>by simp [afieldAddr]
       have f4:∀ (x o:Nat),afieldAddr Tryz.prog 68 0 (.p (some (x,0,o))) = some (.p (some (x,0,o))):=fun x o=>by simp [afieldAddr]
       rw [sgnAt_pos g3 hi] at hk
       by_cases g4:b.proof[i - 1].signer < b.proof[i].signer
       · have g5:¬ b.proof[i].signer ≤ b.proof[i - 1].signer:=by omega
         simpa [g1,g2,g3,g3',g4,g5,f1,f2,f3,f4,l1,l2,l3,l4,wrap_id (x:=(i:Int) - 1) (by omega) (by omega),wrap_id (x:=((i - 1:Nat):Int)) (by omega) (by omega),ei,py,qy,ry] using hk
       · have g5:b.proof[i].signer ≤ b.proof[i - 1].signer:=by omega
         simpa [g1,g2,g3,g3',g4,g5,f1,f2,f3,f4,l1,l2,l3,l4,wrap_id (x:=(i:Int) - 1) (by omega) (by omega),wrap_id (x:=((i - 1:Nat):Int)) (by omega) (by omega),ei,py,qy,ry] using hk
     refine AW_cond' rfl rfl (fun hc=>?_) (fun hc=>?_)
     · have hg:pAt b.view b.proof i = false:=by simpa using hc
       refine AW_seq ?_
       refine AW_reg [2] fun K hK=>?_
       simp [init_eq]
       apply hK;clear hK K
       refine AW_ret (end_ret rfl (pure_end hn ho ?_ rfl))
       simp [Blk.proofOk,h1,range_all_false hi hg]
     · have hg:pAt b.view b.proof i = true:=by simpa using hc
       refine AW_skip ?_
       refine AW_reg [0,19,20,21] fun K hK=>?_
       simp [init_eq,wrap_id (x:=(i:Int) + 1) (by omega) (by omega)]
       apply hK;clear hK K
       exact rend ⟨i + 1,by simp,⟨by omega,range_all_succ hM.2 hg⟩,by omega,.inr ⟨by omega,ho,by simp [hid,hb.pf.lt (Nat.le_refl _)]⟩⟩
   · have hi:i = b.proof.length:=by
       have:¬ i < b.proof.length:=by simpa using hc
       omega
     subst hi
     refine AW_exit (then_exit (then_exit (block_here ?_)))
     refine AW_seq ?_
     refine AW_reg [2] fun K hK=>?_
     simp [init_eq,afieldAddr,aload,hp,lp]
     refine ACalls.mono (bwithin_ok ..) fun r H' ⟨hr,e⟩=>?_
     subst hr e
     try simp
     apply hK;clear hK K
     refine AW_ret (end_ret rfl (same_end ?_ rfl))
     simp [Blk.proofOk,h1,hM.2]
end Go.Proofs.YtaidfojbnfkclaaGreatDoor
set_option linter.unusedVariables false
set_option linter.unusedSimpArgs false
namespace Go.Proofs.YtaidfojbnfkclaaGreatDoor
open Go Go.Abs Go.Proofs
set_option maxRecDepth 100000
attribute [local irreducible] AEnd AW ACalls
def Blk.head (b:Blk):Bool:=inR b.view 1 1048576 && inR b.author 0 9 && inR b.height 0 3
/-- What is wrong with it: an error's number, or 0. -/
def Blk.err (b:Blk):Int:=if (b.txs.all Tx.ok && decide (b.txs.length ≤ 8) && b.head) = true then (if b.parentOk = true then (if b.proofOk = true then 0 else 121) else 122) else 120
theorem bcheck_ok (H:AH) {b:Blk} {pv tv:V} (hb:BlkAt H b pv tv) (hs:b.fits):ACalls Tryz.prog 10 [.agg (b.cells pv tv)] H fun r H'=>r = .i .i64 b.err ∧ H' = H:=by
 refine ACalls.pure (Q:=fun r=>r = .i .i64 b.err) ⟨_,Tryz.func10,rfl,rfl⟩ ?_
 refine ACalls_body Tryz.func10 rfl rfl ?_
 refine AW_seq ?_
 refine AW_reg [1] fun K hK=>?_
 simp [init_eq,V.cells]
 obtain ⟨H1,e1,hp,hn,ho⟩:=H.boxed (b.cells pv tv)
 rw [e1]
 apply hK;clear hK K
 have hb1:=hb.same ho
 have lt:=hb1.tx.alen (P:=Tryz.prog) qelem_26 H1
 have fin:∀ x:Int,x = b.err → V.i .i64 x = V.i .i64 b.err ∧ V.lt H.next (V.i .i64 x) = true ∧ H.next ≤ H1.next ∧ ∀ j,j < H.next → H1.get j = H.get j:=fun x hx=>pure_end hn ho (by rw [hx]) rfl
 refine AW_seq ?_
 refine AW_reg [1,3] fun K hK=>?_
 simp [init_eq,afieldAddr,aload,hp]
 refine ACalls.mono (anyWrong_ok H1 hb1.tx hs.tx hs.each) fun r H' ⟨hr,e⟩=>?_
 subst hr e
 try simp
 apply hK;clear hK K
 refine AW_seq ?_
 refine AW_block ?_
 refine AW_cutto ⟨32,[(1,.p (some (H.next,0,0))),(7,.b (!b.txs.all Tx.ok || !decide (b.txs.length ≤ 8)))]⟩ H' ?_ ?_
 · refine AW_seq ?_
   refine AW_reg [1,7] fun K hK=>?_
   simp [init_eq]
   apply hK;clear hK K
   refine AW_cond' rfl rfl (fun hc=>?_) (fun hc=>?_)
   · refine AW_skip (rend ⟨?_,rfl⟩)
     have h:b.txs.all Tx.ok = false:=by simpa using hc
     simp [h]
   · have h:b.txs.all Tx.ok = true:=by simpa using hc
     refine AW_reg [1,7] fun K hK=>?_
     simp [init_eq,afieldAddr,aload,hp,lt]
     apply hK;clear hK K
     refine rend ⟨?_,rfl⟩
     have:(8 < (b.txs.length:Int)) = ¬ (b.txs.length ≤ 8):=propext (by omega)
     simp [h,this]
     rw [← decide_not]; exact decide_eq_decide.2 (by omega)
 refine AW_cond' rfl rfl (fun hc=>?_) (fun hc=>?_)
 · refine AW_seq ?_
   refine AW_reg [2] fun K hK=>?_
   simp [init_eq]
   apply hK;clear hK K
   refine AW_ret (end_ret rfl (fin _ ?_))
   unfold Blk.err
   rw [if_neg]
   cases h1:b.txs.all Tx.ok <;> cases h2:decide (b.txs.length ≤ 8) <;> simp [h1,h2] at hc ⊢
 have h12:(b.txs.all Tx.ok && decide (b.txs.length ≤ 8)) = true:=by
  cases h1:b.txs.all Tx.ok <;> cases h2:decide (b.txs.length ≤ 8) <;> simp [h1,h2] at hc ⊢
 refine AW_cutto ⟨32,[(1,.p (some (H.next,0,0))),(13,.b (!b.head))]⟩ H' ?_ ?_
 · refine AW_seq ?_
   refine AW_reg [1,13] fun K hK=>?_
   simp [init_eq,afieldAddr,aload,hp]
   refine ACalls.mono (bwithin_ok ..) fun r H' ⟨hr,e⟩=>?_
   subst hr e
   simp
   apply hK;clear hK K
   refine AW_cond' rfl rfl (fun hc=>?_) (fun hc=>?_)
   · have h:inR b.view 1 1048576 = false:=by simpa using hc
     refine AW_skip (rend ⟨?_,rfl⟩)
     simp [Blk.head,h]
   have g1:inR b.view 1 1048576 = true:=by simpa using hc
   refine AW_seq ?_
   refine AW_reg [1,13] fun K hK=>?_
   simp [init_eq,afieldAddr,aload,hp]
   refine ACalls.mono (bwithin_ok ..) fun r H' ⟨hr,e⟩=>?_
   subst hr e
   simp
   apply hK;clear hK K
   refine AW_cond' rfl rfl (fun hc=>?_) (fun hc=>?_)
   · have h:inR b.author 0 9 = false:=by simpa using hc
     refine AW_skip (rend ⟨?_,rfl⟩)
     simp [Blk.head,h]
   have g2:inR b.author 0 9 = true:=by simpa using hc
   refine AW_reg [1,13] fun K hK=>?_
   simp [init_eq,afieldAddr,aload,hp]
   refine ACalls.mono (bwithin_ok ..) fun r H' ⟨hr,e⟩=>?_
   subst hr e
   simp
   apply hK;clear hK K
   refine rend ⟨?_,rfl⟩
   simp [Blk.head,g1,g2]
 refine AW_cond' rfl rfl (fun hc=>?_) (fun hc=>?_)
 · have h:b.head = false:=by simpa using hc
   refine AW_seq ?_
   refine AW_reg [2] fun K hK=>?_
   simp [init_eq]
   apply hK;clear hK K
   refine AW_ret (end_ret rfl (fin _ ?_))
   simp [Blk.err,h]
 have hh:b.head = true:=by simpa using hc
 have he:b.err = (if b.parentOk = true then (if b.proofOk = true then 0 else 121) else 122):=by
  unfold Blk.err; rw [h12,hh]; rfl
 refine AW_seq ?_
 refine AW_reg [1,26] fun K hK=>?_
 simp [init_eq]
 refine ACalls.mono (parent_ok H' hp) fun r H' ⟨hr,e⟩=>?_
 subst hr e
 simp
 apply hK;clear hK K
 refine AW_cond' rfl rfl (fun hc=>?_) (fun hc=>?_)
 · have h:b.parentOk = false:=by simpa using hc
   refine AW_seq ?_
   refine AW_reg [2] fun K hK=>?_
   simp [init_eq]
   apply hK;clear hK K
   refine AW_ret (end_ret rfl (fin _ ?_))
   simp [he,h]
 have h1:b.parentOk = true:=by simpa using hc
 refine AW_seq ?_
 refine AW_reg [29] fun K hK=>?_
 simp [init_eq]
 refine ACalls.mono (proof_ok H' hp hb1 hs.pf) fun r H' ⟨hr,e⟩=>?_
 subst hr e
 simp
 apply hK;clear hK K
 refine AW_cond' rfl rfl (fun hc=>?_) (fun hc=>?_)
 · have h:b.proofOk = false:=by simpa using hc
   refine AW_seq ?_
   refine AW_reg [2] fun K hK=>?_
   simp [init_eq]
   apply hK;clear hK K
   refine AW_ret (end_ret rfl (fin _ ?_))
   simp [he,h1,h]
 · have h:b.proofOk = true:=by simpa using hc
   refine AW_skip ?_
   refine AW_seq ?_
   refine AW_reg [2] fun K hK=>?_
   simp [init_eq]
   apply hK;clear hK K
   refine AW_ret (end_ret rfl (fin _ ?_))
   simp [he,h1,h]
theorem wrap_small {x:Int} (h1:-9223372036854775808 ≤ x) (h2:x ≤ 9223372036854775807):IntKind.i64.wrap x = x:=wrap_id h1 h2
theorem Cert.fall_height {c:Cert} (h:c.ok = true) (hk:c.kind = 2):1 ≤ c.height ∧ c.height ≤ 3:=by
 unfold Cert.ok at h
 rw [if_neg (by omega),if_neg (by omega),if_pos hk] at h
 simp [Cert.fall,inR] at h
 omega
/-- May it stand behind its parent, as the document says it? -/
def Blk.parentR (b:Blk):Bool :=
 b.parent.ok && decide (b.round = IntKind.i64.wrap (b.parent.round + 1)) && decide (b.round ≤ 1073741824) &&
  (if b.height < 2 then openS b.parent b.view else decide (b.parent.kind = 2) && decide (b.parent.coin = 0#32) && decide (b.parent.view = b.view) && decide (b.parent.author = b.author) && decide (IntKind.i64.wrap (b.parent.height + 1) = b.height))
theorem parentR_eq {b:Blk} (hh:b.head = true):b.parentR = b.parentOk:=by
 have hr:0 ≤ b.height ∧ b.height ≤ 3:=by simp [Blk.head,inR] at hh; omega
 unfold Blk.parentR Blk.parentOk
 by_cases h:b.height ≤ 1
 · rw [if_pos (by omega),if_pos h]
   cases h1:b.parent.ok
   · simp [openS,h1]
   · simp
 · rw [if_neg (by omega),if_neg h,wrap_small (x:=b.height - 1) (by omega) (by omega)]
   cases h1:b.parent.ok
   · simp
   by_cases h2:b.parent.kind = 2
   case neg=>simp [h2]
   have h3:=Cert.fall_height h1 h2
   rw [wrap_small (x:=b.parent.height + 1) (by omega) (by omega)]
   have h4:decide (b.parent.height + 1 = b.height) = decide (b.parent.height = b.height - 1):=decide_eq_decide.2 (by omega)
   rw [h4]
   cases h5:decide (b.parent.coin = 0#32) <;> simp [Cert.endorsed,h2,h5] <;> simp_all
theorem proofR_eq {b:Blk} (h:b.height = 1):b.proofOk = (decide (1 ≤ b.proof.length ∧ b.proof.length ≤ 10) && (List.range b.proof.length).all (pAt b.view b.proof)):=by
 have:inR b.proof.length 1 10 = decide (1 ≤ b.proof.length ∧ b.proof.length ≤ 10):=decide_eq_decide.2 (by omega)
 unfold Blk.proofOk
 rw [if_pos h,Bool.and_comm,this]
set_option maxHeartbeats 2000000 in
theorem rcheckBlk_ok (H:AH) {b:Blk} {pv tv:V} (hb:BlkAt H b pv tv) (hs:b.small):ACalls Tryz.prog 36 [.agg (b.cells pv tv)] H fun r H'=>r = .i .i64 b.err ∧ H' = H:=by
 refine ACalls.pure (Q:=fun r=>r = .i .i64 b.err) ⟨_,Tryz.func36,rfl,rfl⟩ ?_
 refine ACalls_body Tryz.func36 rfl rfl ?_
 refine AW_seq ?_
 refine AW_reg [1] fun K hK=>?_
 simp [init_eq,V.cells]
 obtain ⟨H1,e1,hp,hn,ho⟩:=H.boxed (b.cells pv tv)
 rw [e1]
 apply hK;clear hK K
 have hb1:=hb.same ho
 have lt:=hb1.tx.alen (P:=Tryz.prog) qelem_26 H1
 have fin:∀ x:Int,x = b.err → V.i .i64 x = V.i .i64 b.err ∧ V.lt H.next (V.i .i64 x) = true ∧ H.next ≤ H1.next ∧ ∀ j,j < H.next → H1.get j = H.get j:=fun x hx=>pure_end hn ho (by rw [hx]) rfl
 refine AW_seq ?_
 refine AW_seq ?_
 refine AW_regto [1,39] ⟨179,[(1,.p (some (H.next,0,0))),(39,.b (!(b.head && decide (b.txs.length ≤ 8))))]⟩ H1 (fun K hk=>?_) ?_
 · have hh:b.head = (decide (1 ≤ b.view) && decide (b.view ≤ 1048576) && (decide (0 ≤ b.author) && decide (b.author ≤ 9)) && (decide (0 ≤ b.height) && decide (b.height ≤ 3))):=by
     simp [Blk.head,inR]
   by_cases k1:b.view < 1
   · have:¬ 1 ≤ b.view:=by omega
     simpa [init_eq,afieldAddr,aload,hp,k1,hh,this] using hk
   have j1:1 ≤ b.view:=by omega
   by_cases k2:1048576 < b.view
   · have:¬ b.view ≤ 1048576:=by omega
     simpa [init_eq,afieldAddr,aload,hp,k1,k2,hh,this] using hk
   have j2:b.view ≤ 1048576:=by omega
   by_cases k3:b.author < 0
   · have:¬ 0 ≤ b.author:=by omega
     simpa [init_eq,afieldAddr,aload,hp,k1,k2,k3,hh,this] using hk
   have j3:0 ≤ b.author:=by omega
   by_cases k4:9 < b.author
   · have:¬ b.author ≤ 9:=by omega
     simpa [init_eq,afieldAddr,aload,hp,k1,k2,k3,k4,hh,this] using hk
   have j4:b.author ≤ 9:=by omega
   by_cases k5:b.height < 0
   · have:¬ 0 ≤ b.height:=by omega
     simpa [init_eq,afieldAddr,aload,hp,k1,k2,k3,k4,k5,hh,this] using hk
   have j5:0 ≤ b.height:=by omega
   by_cases k6:3 < b.height
   · have:¬ b.height ≤ 3:=by omega
     simpa [init_eq,afieldAddr,aload,hp,k1,k2,k3,k4,k5,k6,hh,this] using hk
   have j6:b.height ≤ 3:=by omega
   by_cases k7:b.txs.length ≤ 8
   · have:¬ 8 < (b.txs.length:Int):=by omega
     simpa [init_eq,afieldAddr,aload,hp,lt,k1,k2,k3,k4,k5,k6,k7,hh,j1,j2,j3,j4,j5,j6,this] using hk
   · have:8 < (b.txs.length:Int):=by omega
     simpa [init_eq,afieldAddr,aload,hp,lt,k1,k2,k3,k4,k5,k6,k7,hh,j1,j2,j3,j4,j5,j6,this] using hk
 refine AW_cond' rfl rfl (fun hc=>?_) (fun hc=>?_)
 · refine AW_seq ?_
   refine AW_reg [2] fun K hK=>?_
   simp [init_eq]
   apply hK;clear hK K
   refine AW_ret (end_ret rfl (fin _ ?_))
   unfold Blk.err
   rw [if_neg]
   cases h1:b.head <;> cases h2:decide (b.txs.length ≤ 8) <;> simp [h1,h2] at hc ⊢
 have hh:b.head = true:=by
  cases h1:b.head
  · rw [h1] at hc; cases hc
  · rfl
 have h8:decide (b.txs.length ≤ 8) = true:=by
  cases h1:decide (b.txs.length ≤ 8)
  · rw [h1,Bool.and_false] at hc; cases hc
  · rfl
 have h8':b.txs.length ≤ 8:=of_decide_eq_true h8
 clear hc
 refine AW_skip ?_
 refine AW_seq ?_
 refine AW_seq ?_
 refine AW_reg [1,3] fun K hK=>?_
 simp [init_eq]
 apply hK;clear hK K
 refine AW_block ?_
 refine AW_loop0 (fun i:Nat=>⟨179,[(1,.p (some (H.next,0,0))),(3,.i .i64 i)]⟩) (fun i=>i ≤ b.txs.length ∧ (b.txs.take i).all Tx.ok = true) (fun i=>b.txs.length - i) 0 (by simp) (by simp) (by dsimp only; omega) fun hw i hM=>?_
 have e13:aload Tryz.prog H1 26 (.p (some (H.next,0,13))) = some tv:=by simp [aload,hp]
 refine AW_seq ?_
 refine AW_seq ?_
 refine AW_reg [1,3,44] fun K hK=>?_
 simp [init_eq,afieldAddr,e13,lt]
 apply hK;clear hK K
 refine AW_cond' rfl rfl (fun hc=>?_) (fun hc=>?_)
 · have hi:i < b.txs.length:=by simpa using hc
   obtain ⟨ax,px,qx⟩:=hb1.tx.rec Tx.len (by decide) (P:=Tryz.prog) qelem_26 qsize_75 qagg_75 hi
   refine AW_skip ?_
   refine AW_seq ?_
   refine AW_block ?_
   refine AW_seq ?_
   refine AW_reg [1,3,53] fun K hK=>?_
   simp [init_eq,afieldAddr,e13,px,qx]
   refine ACalls.mono (rtxCheck_ok _ _ (hs.each _ (List.getElem_mem hi))) fun r H' ⟨hr,e⟩=>?_
   subst hr e
   simp
   apply hK;clear hK K
   refine AW_cond' rfl rfl (fun hc=>?_) (fun hc=>?_)
   · have hg:b.txs[i].ok = false:=by simpa using hc
     refine AW_seq ?_
     refine AW_reg [2] fun K hK=>?_
     simp [init_eq]
     apply hK;clear hK K
     refine AW_ret (end_ret rfl (fin _ ?_))
     have:b.txs.all Tx.ok = false:=by rw [List.all_eq_false]; exact ⟨_,List.getElem_mem hi,by simp [hg]⟩
     simp [Blk.err,this]
   · have hg:b.txs[i].ok = true:=by simpa using hc
     refine AW_skip ?_
     refine AW_reg [1,3] fun K hK=>?_
     simp [init_eq,wrap_id (x:=(i:Int) + 1) (by omega) (by omega)]
     apply hK;clear hK K
     refine rend ⟨i + 1,by simp,⟨by omega,?_⟩,by omega,.inl rfl⟩
     rw [List.take_succ_eq_append_getElem hi,List.all_append,hM.2]; simp [hg]
 have hi:i = b.txs.length:=by
  have:¬ i < b.txs.length:=by simpa using hc
  omega
 subst hi
 have hall:=hM.2
 rw [List.take_length] at hall
 have he:b.err = (if b.parentR = true then (if b.proofOk = true then 0 else 121) else 122):=by
  unfold Blk.err; rw [hall,h8,hh,parentR_eq hh]; rfl
 refine AW_exit (then_exit (then_exit (block_here ?_)))
 refine AW_seq ?_
 refine AW_reg [1,4] fun K hK=>?_
 simp [init_eq,afieldAddr,aload,hp,Blk.parent_cells,astore,AH.get_new,V.cells]
 apply hK;clear hK K
 generalize hH2:(H1.new _).set H1.next _ = H2
 have hq:H2.get H1.next = some (.cells b.parent.cells 0 false 0):=by rw [← hH2]; simp [AH.get_set]; exact splice_all rfl
 have hn2:H2.next = H.next + 2:=by rw [← hH2]; simp [hn]
 have ho1:∀ j,j < H1.next → H2.get j = H1.get j:=fun j hj=>by rw [← hH2]; simp [AH.get_set,AH.get_new,show j ≠ H1.next by omega]
 have ho2:∀ j,j < H.next → H2.get j = H.get j:=fun j hj=>(ho1 j (by omega)).trans (ho j hj)
 have hp2:=(ho1 H.next (by omega)).trans hp
 have hb2:=hb.same ho2
 clear hH2
 have lp:=hb2.pf.alen (P:=Tryz.prog) qelem_25
 have fin2:∀ x:Int,x = b.err → V.i .i64 x = V.i .i64 b.err ∧ V.lt H.next (V.i .i64 x) = true ∧ H.next ≤ H2.next ∧ ∀ j,j < H.next → H2.get j = H.get j:=fun x hx=>pure_end hn2 ho2 (by rw [hx]) rfl
 refine AW_seq ?_
 refine AW_seq ?_
 refine AW_regto [1,4,71] ⟨179,[(1,.p (some (H.next,0,0))),(4,.p (some (H1.next,0,0))),(71,.b (!(b.parent.ok && decide (b.round = IntKind.i64.wrap (b.parent.round + 1)) && decide (b.round ≤ 1073741824))))]⟩ H2 (fun K hk=>?_) ?_
 · simp [init_eq,aload,hq,take_cells]
   refine ACalls.mono (rcheck_ok ..) fun r H' ⟨hr,e⟩=>?_
   subst hr e
   cases g1:b.parent.ok
   · simpa [g1] using hk
   by_cases g2:b.round = IntKind.i64.wrap (b.parent.round + 1)
   case neg=>simpa [g1,g2,afieldAddr,aload,hq,hp2] using hk
   by_cases g3:b.round ≤ 1073741824
   · have g3':¬ 1073741824 < b.round:=by omega
     simpa [g1,← g2,g3,g3',afieldAddr,aload,hq,hp2] using hk
   · have g3':1073741824 < b.round:=by omega
     simpa [g1,← g2,g3,g3',afieldAddr,aload,hq,hp2] using hk
 have hA:∀ x:Bool,(b.parent.ok && decide (b.round = IntKind.i64.wrap (b.parent.round + 1)) && decide (b.round ≤ 1073741824)) = x → (x = false → b.parentR = false) ∧ (x = true → b.parentR = (if b.height < 2 then openS b.parent b.view else decide (b.parent.kind = 2) && decide (b.parent.coin = 0#32) && decide (b.parent.view = b.view) && decide (b.parent.author = b.author) && decide (IntKind.i64.wrap (b.parent.height + 1) = b.height))):=fun x hx=>by
  unfold Blk.parentR
  rw [hx]
  exact ⟨fun h=>by rw [h,Bool.false_and],fun h=>by rw [h,Bool.true_and]⟩
 generalize hX:(b.parent.ok && decide (b.round = IntKind.i64.wrap (b.parent.round + 1)) && decide (b.round ≤ 1073741824)) = X
 obtain ⟨hA0,hA1⟩:=hA X hX
 refine AW_cond' rfl rfl (fun hc=>?_) (fun hc=>?_)
 · have h:b.parentR = false:=hA0 (by simpa using hc)
   refine AW_seq ?_
   refine AW_reg [2] fun K hK=>?_
   simp [init_eq]
   apply hK;clear hK K
   refine AW_ret (end_ret rfl (fin2 _ ?_))
   simp [he,h]
 have hR:=hA1 (by simpa using hc)
 clear hA0 hA1 hA hX
 refine AW_skip ?_
 refine AW_seq ?_
 refine AW_seq ?_
 refine AW_regto [1,4,81] ⟨179,[(1,.p (some (H.next,0,0))),(4,.p (some (H1.next,0,0))),(81,.b (decide (b.height < 2) && !openS b.parent b.view))]⟩ H2 (fun K hk=>?_) ?_
 · by_cases g1:b.height < 2
   · simp [init_eq,afieldAddr,aload,hp2,hq,take_cells,g1]
     refine ACalls.mono (ropen_ok ..) fun r H' ⟨hr,e⟩=>?_
     subst hr e
     simpa [g1] using hk
   · simpa [init_eq,afieldAddr,aload,hp2,g1] using hk
 refine AW_cond' rfl rfl (fun hc=>?_) (fun hc=>?_)
 · have g:b.height < 2 ∧ openS b.parent b.view = false:=by simpa using hc
   have h:b.parentR = false:=by rw [hR,if_pos g.1,g.2]
   refine AW_seq ?_
   refine AW_reg [2] fun K hK=>?_
   simp [init_eq]
   apply hK;clear hK K
   refine AW_ret (end_ret rfl (fin2 _ ?_))
   simp [he,h]
 have g11:b.height < 2 → openS b.parent b.view = true:=fun h=>by simpa [h] using hc
 refine AW_skip ?_
 refine AW_seq ?_
 refine AW_seq ?_
 refine AW_regto [1,116] ⟨179,[(1,.p (some (H.next,0,0))),(116,.b (!b.parentR))]⟩ H2 (fun K hk=>?_) ?_
 · by_cases g1:b.height < 2
   · have g1':¬ 2 ≤ b.height:=by omega
     rw [hR,if_pos g1,g11 g1] at hk
     simpa [init_eq,afieldAddr,aload,hp2,g1'] using hk
   rw [hR,if_neg g1] at hk
   have g1':2 ≤ b.height:=by omega
   by_cases g2:b.parent.kind = 2
   case neg=>simpa [init_eq,afieldAddr,aload,hp2,hq,g1',g2] using hk
   by_cases g3:b.parent.coin = 0#32
   case neg=>simpa [init_eq,afieldAddr,aload,hp2,hq,g1',g2,g3] using hk
   by_cases g4:b.parent.view = b.view
   case neg=>simpa [init_eq,afieldAddr,aload,hp2,hq,g1',g2,g3,g4] using hk
   by_cases g5:b.parent.author = b.author
   case neg=>simpa [init_eq,afieldAddr,aload,hp2,hq,g1',g2,g3,g4,g5] using hk
   simpa [init_eq,afieldAddr,aload,hp2,hq,g1',g2,g3,g4,g5] using hk
 refine AW_cond' rfl rfl (fun hc=>?_) (fun hc=>?_)
 · have h:b.parentR = false:=by simpa using hc
   refine AW_seq ?_
   refine AW_reg [2] fun K hK=>?_
   simp [init_eq]
   apply hK;clear hK K
   refine AW_ret (end_ret rfl (fin2 _ ?_))
   simp [he,h]
 have hpR:b.parentR = true:=by simpa using hc
 rw [hpR,if_pos rfl] at he
 refine AW_skip ?_
 refine AW_seq ?_
 refine AW_seq ?_
 refine AW_reg [1,119] fun K hK=>?_
 simp [init_eq,afieldAddr,aload,hp2]
 apply hK;clear hK K
 refine AW_cond' rfl rfl (fun hc=>?_) (fun hc=>?_)
 · have h1:¬ b.height = 1:=by simpa using hc
   have hpo:b.proofOk = decide (b.proof.length = 0):=by simp [Blk.proofOk,h1]
   refine AW_seq ?_
   refine AW_seq ?_
   refine AW_reg [123] fun K hK=>?_
   simp [init_eq,afieldAddr,aload,hp2,lp]
   apply hK;clear hK K
   refine AW_cond' rfl rfl (fun hc=>?_) (fun hc=>?_)
   · have h2:¬ b.proof.length = 0:=by
       have:0 < b.proof.length:=of_decide_eq_true hc
       omega
     refine AW_seq ?_
     refine AW_reg [2] fun K hK=>?_
     simp [init_eq]
     apply hK;clear hK K
     refine AW_ret (end_ret rfl (fin2 _ ?_))
     simp only [he,hpo,h2]; rfl
   · have h2:b.proof.length = 0:=by
       have:¬ 0 < b.proof.length:=of_decide_eq_false hc
       omega
     refine AW_skip ?_
     refine AW_seq ?_
     refine AW_reg [2] fun K hK=>?_
     simp [init_eq]
     apply hK;clear hK K
     refine AW_ret (end_ret rfl (fin2 _ ?_))
     simp only [he,hpo,h2]; rfl
 have h1:b.height = 1:=by simpa using hc
 have hpo:=proofR_eq h1
 refine AW_skip ?_
 refine AW_seq ?_
 refine AW_seq ?_
 refine AW_regto [1,133] ⟨179,[(1,.p (some (H.next,0,0))),(133,.b (!decide (1 ≤ b.proof.length ∧ b.proof.length ≤ 10)))]⟩ H2 (fun K hk=>?_) ?_
 · by_cases k1:1 ≤ b.proof.length
   · have j1:¬ (b.proof.length:Int) < 1:=by omega
     by_cases k2:b.proof.length ≤ 10
     · have j2:¬ 10 < (b.proof.length:Int):=by omega
       simpa [init_eq,afieldAddr,aload,hp2,lp,j1,j2,k1,k2] using hk
     · have j2:10 < (b.proof.length:Int):=by omega
       simpa [init_eq,afieldAddr,aload,hp2,lp,j1,j2,k1,k2] using hk
   · have j1:(b.proof.length:Int) < 1:=by omega
     simpa [init_eq,afieldAddr,aload,hp2,lp,j1,k1] using hk
 refine AW_cond' rfl rfl (fun hc=>?_) (fun hc=>?_)
 · have h2:decide (1 ≤ b.proof.length ∧ b.proof.length ≤ 10) = false:=by
     cases h:decide (1 ≤ b.proof.length ∧ b.proof.length ≤ 10)
     · rfl
     · rw [h] at hc; cases hc
   refine AW_seq ?_
   refine AW_reg [2] fun K hK=>?_
   simp [init_eq]
   apply hK;clear hK K
   refine AW_ret (end_ret rfl (fin2 _ ?_))
   rw [he,hpo,h2]; rfl
 have h2:decide (1 ≤ b.proof.length ∧ b.proof.length ≤ 10) = true:=by
  cases h:decide (1 ≤ b.proof.length ∧ b.proof.length ≤ 10)
  · rw [h] at hc; cases hc
  · rfl
 rw [h2,Bool.true_and] at hpo
 have h10:=of_decide_eq_true h2
 refine AW_skip ?_
 refine AW_seq ?_
 refine AW_seq ?_
 refine AW_reg [1,5] fun K hK=>?_
 simp [init_eq]
 apply hK;clear hK K
 refine AW_block ?_
 refine AW_loop0 (fun i:Nat=>⟨179,[(1,.p (some (H.next,0,0))),(5,.i .i64 i)]⟩) (fun i=>i ≤ b.proof.length ∧ (List.range i).all (pAt b.view b.proof) = true) (fun i=>b.proof.length - i) 0 (by simp) (by simp) (by dsimp only; omega) fun hw i hM=>?_
 have l1:aload Tryz.prog H2 25 (.p (some (H.next,0,12))) = some pv:=by simp [aload,hp2]
 have l2:aload Tryz.prog H2 3 (.p (some (H.next,0,0))) = some (.i .i64 b.view):=by simp [aload,hp2]
 have f2:∀ (x o:Nat),afieldAddr Tryz.prog 28 0 (.p (some (x,0,o))) = some (.p (some (x,0,o))):=fun x o=>by simp [afieldAddr]
 have f3:∀ (x o:Nat),afieldAddr Tryz.prog 28 5 (.p (some (x,0,o))) = some (.p (some (x,0,o + 12))):=fun x o=>by simp [afieldAddr]
 refine AW_seq ?_
 refine AW_seq ?_
 refine AW_reg [1,5,138] fun K hK=>?_
 simp [init_eq,f3,l1,lp]
 apply hK;clear hK K
 refine AW_cond' rfl rfl (fun hc=>?_) (fun hc=>?_)
 · have hi:i < b.proof.length:=by simpa using hc
   obtain ⟨ax,px,qx⟩:=hb2.pf.rec Tmo.len (by decide) (P:=Tryz.prog) qelem_25 qsize_68 qagg_68 hi
   obtain ⟨az,az',pz,qz,rz⟩:=hb2.pf.fld Tmo.len (by decide) (P:=Tryz.prog) qelem_25 qsize_68 hi qfield_68_1 qagg_3 qsize_3 (Tmo.c1 _)
   obtain ⟨aw,aw',pw,qw,rw'⟩:=hb2.pf.fld Tmo.len (by decide) (P:=Tryz.prog) qelem_25 qsize_68 hi qfield_68_0 qagg_3 qsize_3 (Tmo.c0 _)
   obtain rfl:az = ax:=Option.some.inj (pz.symm.trans px)
   obtain rfl:aw = az:=Option.some.inj (pw.symm.trans px)
   clear pz pw
   have hpa:=pAt_eq (v:=b.view) hi
   refine AW_skip ?_
   refine AW_seq ?_
   refine AW_block ?_
   refine AW_seq ?_
   refine AW_regdto [1,5,178] pl_36_24 pe_36_24 ⟨179,[(1,.p (some (H.next,0,0))),(5,.i .i64 i),(178,.b (!pAt b.view b.proof i))]⟩ H2 (by kernel_rfl) (by kernel_rfl) (by decide) (fun K hk=>?_) ?_
   · rw [hpa] at hk
     simp [init_eq,pl_36_24,f2,f3,l1,l2,px,qx]
     refine ACalls.mono (rtimeout_ok ..) fun r H' ⟨hr,e⟩=>?_
     subst hr e
     cases g1:b.proof[i].ok
     · simpa [g1] using hk
     by_cases g2:b.proof[i].view = b.view
     case neg=>simpa [g1,g2,f2,f3,l1,l2,px,qz,rz] using hk
     by_cases g3:i = 0
     · have g3n:¬ 0 < i:=by omega
       simpa [g1,g2,g3n,sgnAt_zero _ g3,f2,f3,l1,l2,px,qz,rz] using hk
     have g3':0 < i:=by omega
     have ei:(i:Int) - 1 = ((i - 1:Nat):Int):=by omega
     obtain ⟨ay,ay',py,qy,ry⟩:=hb2.pf.fld Tmo.len (by decide) (P:=Tryz.prog) qelem_25 qsize_68 (i:=i - 1) (by omega) qfield_68_0 qagg_3 qsize_3 (Tmo.c0 _)
     rw [sgnAt_pos g3 hi] at hk
     by_cases g4:b.proof[i - 1].signer < b.proof[i].signer
     · have g5:¬ b.proof[i].signer ≤ b.proof[i - 1].signer:=by omega
       simpa [g1,g2,g3,g3',g4,g5,f2,f3,l1,l2,wrap_id (x:=(i:Int) - 1) (by omega) (by omega),wrap_id (x:=((i - 1:Nat):Int)) (by omega) (by omega),ei,px,qz,rz,qw,rw',py,qy,ry] using hk
     · have g5:b.proof[i].signer ≤ b.proof[i - 1].signer:=by omega
       simpa [g1,g2,g3,g3',g4,g5,f2,f3,l1,l2,wrap_id (x:=(i:Int) - 1) (by omega) (by omega),wrap_id (x:=((i - 1:Nat):Int)) (by omega) (by omega),ei,px,qz,rz,qw,rw',py,qy,ry] using hk
   refine AW_cond' rfl rfl (fun hc=>?_) (fun hc=>?_)
   · have hg:pAt b.view b.proof i = false:=by simpa using hc
     refine AW_seq ?_
     refine AW_reg [2] fun K hK=>?_
     simp [init_eq]
     apply hK;clear hK K
     refine AW_ret (end_ret rfl (fin2 _ ?_))
     rw [he,hpo,range_all_false hi hg]; rfl
   · have hg:pAt b.view b.proof i = true:=by simpa using hc
     refine AW_skip ?_
     refine AW_reg [1,5] fun K hK=>?_
     simp [init_eq,wrap_id (x:=(i:Int) + 1) (by omega) (by omega)]
     apply hK;clear hK K
     exact rend ⟨i + 1,by simp,⟨by omega,range_all_succ hM.2 hg⟩,by omega,.inl rfl⟩
 · have hi:i = b.proof.length:=by
     have:¬ i < b.proof.length:=by simpa using hc
     omega
   subst hi
   refine AW_exit (then_exit (then_exit (block_here ?_)))
   refine AW_seq ?_
   refine AW_reg [2] fun K hK=>?_
   simp [init_eq]
   apply hK;clear hK K
   refine AW_ret (end_ret rfl (fin2 _ ?_))
   rw [he,hpo,hM.2]; rfl
end Go.Proofs.YtaidfojbnfkclaaGreatDoor
