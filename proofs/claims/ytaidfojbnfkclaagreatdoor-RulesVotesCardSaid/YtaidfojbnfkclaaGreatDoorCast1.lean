/-
  Sets of any numbers; Cast.
-/
import Derived.Test.YtaidfojbnfkclaaGreatDoorBeh2
import Derived.Test.YtaidfojbnfkclaaGreatDoorTxtA
set_option linter.unusedVariables false
set_option linter.unusedSimpArgs false
namespace Go.Proofs.YtaidfojbnfkclaaGreatDoor
open Go Go.Abs Go.Proofs
set_option maxRecDepth 100000
attribute [local irreducible] AEnd AW ACalls
theorem u32_odd {P:Program} {t:TypeId} (x:BitVec 32):abin P .rem t (u32 x) (u32 2#32) = some (u32 (if x.toNat % 2 = 1 then 1#32 else 0#32)):=by
 show (if IntKind.u32 = IntKind.u32 then aint .rem .u32 (x.toNat:Int) ((2#32:BitVec 32).toNat:Int) else none) = _
 rw [if_pos rfl]
 unfold aint
 simp only []
 rw [show ((2#32:BitVec 32).toNat:Int) = 2 from rfl,if_neg (by decide),Int.tmod_eq_emod_of_nonneg (by omega)]
 by_cases h:x.toNat % 2 = 1
 · rw [if_pos h,show (x.toNat:Int) % 2 = 1 by omega]; rfl
 · rw [if_neg h,show (x.toNat:Int) % 2 = 0 by omega]; rfl
theorem bit_odd (s x:BitVec 32) (k:Nat) (hx:x = s >>> k):s.getLsbD k = decide (x.toNat % 2 = 1):=by
 have h1:=BitVec.getLsbD_ushiftRight s k 0
 rw [← hx] at h1
 rw [show k + 0 = k from rfl] at h1
 rw [← h1,BitVec.getLsbD,Nat.testBit_zero]
theorem u32_twice {P:Program} {t:TypeId} (x:BitVec 32):abin P .mul t (u32 x) (u32 2#32) = some (u32 (x <<< 1)):=by
 show (if IntKind.u32 = IntKind.u32 then aint .mul .u32 (x.toNat:Int) ((2#32:BitVec 32).toNat:Int) else none) = _
 rw [if_pos rfl]
 unfold aint
 simp only []
 rw [show ((2#32:BitVec 32).toNat:Int) = 2 from rfl,IntKind.wrap_u32]
 have h1:(x <<< 1).toNat = x.toNat * 2 % 4294967296:=by
  rw [BitVec.toNat_shiftLeft,Nat.shiftLeft_eq]
 unfold u32
 rw [h1]
 first | rfl | (congr 2; omega) | (congr 2)
theorem even_or (x:BitVec 32) (h:x.getLsbD 0 = false):x + 1#32 = x ||| 1#32:=by
 refine BitVec.add_eq_or_of_and_eq_zero x 1#32 ?_
 apply BitVec.eq_of_getLsbD_eq
 intro i hi
 rw [BitVec.getLsbD_and]
 by_cases h0:i = 0
 · subst h0; rw [h]; rfl
 · have:(1#32).getLsbD i = false:=by simp [BitVec.getLsbD_one,h0]
   simp [this]
theorem u32_inc {P:Program} {t:TypeId} (x:BitVec 32) (h:x.getLsbD 0 = false):abin P .add t (u32 x) (u32 1#32) = some (u32 (x ||| 1#32)):=by
 show (if IntKind.u32 = IntKind.u32 then aint .add .u32 (x.toNat:Int) ((1#32:BitVec 32).toNat:Int) else none) = _
 rw [if_pos rfl]
 unfold aint
 simp only []
 rw [show ((1#32:BitVec 32).toNat:Int) = 1 from rfl,IntKind.wrap_u32,← even_or x h]
 have h1:(x + 1#32).toNat = (x.toNat + 1) % 4294967296:=by rw [BitVec.toNat_add]; rfl
 unfold u32
 rw [h1]
 first | rfl | (congr 2; omega) | (congr 2)
theorem bit0 (x:BitVec 32):x.getLsbD 0 = decide (x.toNat % 2 = 1):=bit_odd x x 0 (by simp)
def roSet (x:BitVec 32) (b:Bool):BitVec 32:=(x <<< 1) ||| (if b then 1#32 else 0#32)
theorem roSet_bit (x:BitVec 32) (b:Bool) (i:Nat) (hi:i < 32):(roSet x b).getLsbD i = if i = 0 then b else x.getLsbD (i - 1):=by
 unfold roSet
 rw [BitVec.getLsbD_or,BitVec.getLsbD_shiftLeft]
 by_cases h0:i = 0
 · subst h0; cases b <;> simp
 · have:(1#32).getLsbD i = false:=by simp [BitVec.getLsbD_one,h0]
   cases b <;> simp [this,h0,hi,show ¬ i < 1 by omega]
theorem roSet_odd (x:BitVec 32) (b:Bool):(roSet x b).getLsbD 0 = b:=by rw [roSet_bit x b 0 (by decide)]; simp
theorem rofI_ok (H:AH) {v:V} {l:List Int} (hrs:RS H v 1 (l.map intC)) (hl:l.length ≤ 1000000000):ACalls Tryz.prog 40 [v] H fun r H'=>(∃ s:BitVec 32,r = u32 s ∧ ∀ i,i < 32 → s.getLsbD i = decide ((i:Int) ∈ l)) ∧ H' = H:=by
 have lx:=hrs.alen (P:=Tryz.prog) qelem_92 H
 refine ACalls_body Tryz.func40 rfl rfl ?_
 repeat refine AW_seq ?_
 refine AW_reg [0] fun K hK=>?_
 simp [init_eq]
 apply hK;clear hK K
 repeat refine AW_seq ?_
 refine AW_reg [0,3] fun K hK=>?_
 simp [init_eq]
 apply hK;clear hK K
 repeat refine AW_seq ?_
 refine AW_reg [0,3,4] fun K hK=>?_
 simp [init_eq]
 apply hK;clear hK K
 refine AW_block ?_
 refine AW_loopx (fun x:Nat × BitVec 32=>⟨32,[(0,v),(3,u32 x.2),(4,.i .i64 (31 - (x.1:Int)))]⟩)
  (fun x G=>G = H ∧ x.1 ≤ 32 ∧ ∀ i,i < 32 → x.2.getLsbD i = decide (((i + (32 - x.1):Nat):Int) ∈ l ∧ i + (32 - x.1) < 32)) (fun x=>32 - x.1) (0,0#32) (by simp) ⟨rfl,by simp,fun i hi=>by simp⟩ fun x G hM=>?_
 obtain ⟨m,x⟩:=x
 obtain ⟨rfl,hm,hx⟩:=hM
 simp only at hm hx ⊢
 repeat refine AW_seq ?_
 refine AW_reg [0,3,4,7] fun K hK=>?_
 simp [init_eq]
 apply hK;clear hK K
 refine AW_cond' rfl rfl (fun hc=>?_) (fun hc=>?_)
 · have hm':m < 32:=by
     have:(0:Int) ≤ 31 - (m:Int):=by simpa using hc
     omega
   refine AW_skip ?_
   repeat refine AW_seq ?_
   refine AW_block ?_
   repeat refine AW_seq ?_
   refine AW_reg [0,3,4] fun K hK=>?_
   simp [init_eq,u32_twice]
   apply hK;clear hK K
   repeat refine AW_seq ?_
   refine AW_reg [0,3,4,5] fun K hK=>?_
   simp [init_eq]
   apply hK;clear hK K
   refine AW_block ?_
   refine AW_loopx (fun j:Nat=>⟨32,[(0,v),(3,u32 (roSet x (decide (((31 - m:Nat):Int) ∈ l.take j)))),(4,.i .i64 (31 - (m:Int))),(5,.i .i64 j)]⟩) (fun j G'=>G' = G ∧ j ≤ l.length) (fun j=>l.length - j) 0 (by simp [roSet]) ⟨rfl,by simp⟩ fun j G' hM=>?_
   obtain ⟨rfl,hj⟩:=hM
   repeat refine AW_seq ?_
   refine AW_reg [0,3,4,5,15] fun K hK=>?_
   simp [init_eq,lx]
   apply hK;clear hK K
   refine AW_cond' rfl rfl (fun hc=>?_) (fun hc=>?_)
   · have hj':j < l.length:=by simpa using hc
     obtain ⟨ax,px,qx⟩:=hrs.at1 (P:=Tryz.prog) (t:=92) (e:=3) qelem_92 qsize_3 qagg_3 (k:=.i64) j (x:=.i .i64 l[j]) (by simp [hj',intC])
     have htk:l.take (j + 1) = l.take j ++ [l[j]]:=List.take_succ_eq_append_getElem hj'
     have hodd:=roSet_odd x (decide (((31 - m:Nat):Int) ∈ l.take j))
     rw [bit0] at hodd
     have hgr:((31:Int) - (m:Int)) = ((31 - m:Nat):Int):=by omega
     refine AW_skip ?_
     repeat refine AW_seq ?_
     refine AW_block ?_
     repeat refine AW_seq ?_
     refine AW_regto [0,3,4,5,28] ⟨32,[(0,v),(3,u32 (roSet x (decide (((31 - m:Nat):Int) ∈ l.take j)))),(4,.i .i64 (31 - (m:Int))),(5,.i .i64 j),(28,.b (decide (l[j] = ((31 - m:Nat):Int)) && !decide (((31 - m:Nat):Int) ∈ l.take j)))]⟩ G' (fun K hk=>?_) ?_
     · by_cases g1:l[j] = ((31 - m:Nat):Int)
       · have g2:((l[j]:Int) = 31 - (m:Int)):=by omega
         by_cases g3:((31 - m:Nat):Int) ∈ l.take j
         · have h1:(roSet x (decide (((31 - m:Nat):Int) ∈ l.take j))).toNat % 2 = 1:=by simpa [g3] using hodd
           rw [show (decide (l[j] = ((31 - m:Nat):Int)) && !decide (((31 - m:Nat):Int) ∈ l.take j)) = false by simp [g3]] at hk
           simpa [init_eq,px,qx,g2,u32_odd,h1] using hk
         · have h1:¬ (roSet x (decide (((31 - m:Nat):Int) ∈ l.take j))).toNat % 2 = 1:=by simpa [g3] using hodd
           rw [show (decide (l[j] = ((31 - m:Nat):Int)) && !decide (((31 - m:Nat):Int) ∈ l.take j)) = true by simp [g1,g3]] at hk
           simpa [init_eq,px,qx,g2,u32_odd,h1] using hk
       · have g2:¬ ((l[j]:Int) = 31 - (m:Int)):=by omega
         rw [show (decide (l[j] = ((31 - m:Nat):Int)) && !decide (((31 - m:Nat):Int) ∈ l.take j)) = false by simp [g1]] at hk
         simpa [init_eq,px,qx,g2] using hk
     refine AW_cond' rfl rfl (fun hc=>?_) (fun hc=>?_)
     · have g:l[j] = ((31 - m:Nat):Int) ∧ ¬ ((31 - m:Nat):Int) ∈ l.take j:=by simpa using hc
       have h1:(roSet x (decide (((31 - m:Nat):Int) ∈ l.take j))).getLsbD 0 = false:=by rw [roSet_odd]; simp [g.2]
       refine AW_reg [0,3,4,5] fun K hK=>?_
       simp [init_eq,u32_inc _ h1]
       apply hK;clear hK K
       refine bend (rend ?_)
       refine AW_reg [0,3,4,5] fun K hK=>?_
       simp [init_eq,wrap_id (x:=(j:Int) + 1) (by omega) (by omega)]
       apply hK;clear hK K
       refine rend ⟨j + 1,?_,⟨rfl,by omega⟩,by omega⟩
       have e:decide (((31 - m:Nat):Int) ∈ l.take (j + 1)) = true:=by rw [htk,g.1]; simp
       rw [e]; simp [g.2,roSet]
     · have g:¬ (l[j] = ((31 - m:Nat):Int) ∧ ¬ ((31 - m:Nat):Int) ∈ l.take j):=by simpa using hc
       refine AW_skip ?_
       refine bend (rend ?_)
       refine AW_reg [0,3,4,5] fun K hK=>?_
       simp [init_eq,wrap_id (x:=(j:Int) + 1) (by omega) (by omega)]
       apply hK;clear hK K
       refine rend ⟨j + 1,?_,⟨rfl,by omega⟩,by omega⟩
       have:(((31 - m:Nat):Int) ∈ l.take (j + 1)) = (((31 - m:Nat):Int) ∈ l.take j):=by
        by_cases g3:((31 - m:Nat):Int) ∈ l.take j
        · exact propext ⟨fun _=>g3,fun _=>by rw [htk]; exact List.mem_append_left _ g3⟩
        · have g4:¬ ((31 - m:Nat):Int) = l[j]:=fun e=>g ⟨e.symm,g3⟩
          refine propext ⟨fun h=>?_,fun h=>absurd h g3⟩
          rw [htk] at h
          rcases List.mem_append.1 h with h | h
          · exact h
          · exact absurd (List.mem_singleton.1 h) g4
       simp [this]
   · have hj' : j = l.length := by have : ¬ j < l.length := by simpa using hc
                                   omega
     subst hj'
     refine AW_exit (then_exit (then_exit (block_here ?_)))
     refine bend (rend ?_)
     refine AW_reg [0,3,4] fun K hK=>?_
     simp [init_eq,wrap_id (x:=(31:Int) - (m:Int) - 1) (by omega) (by omega)]
     apply hK;clear hK K
     refine rend ⟨(m + 1,roSet x (decide (((31 - m:Nat):Int) ∈ l))),?_,⟨rfl,(show m + 1 ≤ 32 by omega),fun i hi=>?_⟩,by simp; omega⟩
     · simp; omega
     · show (roSet x (decide (((31 - m:Nat):Int) ∈ l))).getLsbD i = decide (((i + (32 - (m + 1)):Nat):Int) ∈ l ∧ i + (32 - (m + 1)) < 32)
       rw [roSet_bit _ _ _ hi]
       by_cases h0:i = 0
       · subst h0
         rw [if_pos rfl,show 0 + (32 - (m + 1)) = 31 - m by omega]
         simp [show 31 - m < 32 by omega]
       · rw [if_neg h0,hx (i - 1) (by omega),show i - 1 + (32 - m) = i + (32 - (m + 1)) by omega]
 · have hm':m = 32:=by
     have:¬ (0:Int) ≤ 31 - (m:Int):=by simpa using hc
     omega
   subst hm'
   refine AW_exit (then_exit (then_exit (block_here ?_)))
   repeat refine AW_seq ?_
   refine AW_reg [2] fun K hK=>?_
   simp [init_eq]
   apply hK;clear hK K
   refine AW_ret (end_ret rfl ⟨⟨x,rfl,fun i hi=>?_⟩,rfl⟩)
   rw [hx i hi]
   exact decide_eq_decide.2 (by simp; intro _; omega)
end Go.Proofs.YtaidfojbnfkclaaGreatDoor
