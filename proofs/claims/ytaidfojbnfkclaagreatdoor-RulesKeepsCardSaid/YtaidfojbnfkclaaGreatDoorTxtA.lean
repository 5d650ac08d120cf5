/-
  Contracts of the program's functions (TxtA). No conditions of my own.
-/
import Derived.Test.YtaidfojbnfkclaaGreatDoorAbsC
import Derived.Test.YtaidfojbnfkclaaGreatDoorYtaidfojbnfkclaaGreatDoorFacts
import Derived.Test.YtaidfojbnfkclaaGreatDoorAbsB
set_option linter.unusedVariables false
set_option linter.unusedSimpArgs false
namespace Go.Proofs.YtaidfojbnfkclaaGreatDoor
open Go Go.Abs Go.Proofs
set_option maxRecDepth 100000
attribute [local irreducible] AEnd AW ACalls
def qtimes (k f:Int):Int:=if f < 1 ∨ 3 < f then 0 else k * f + 1
theorem times_ok (H:AH) (k f:Int) (hk:0 ≤ k ∧ k ≤ 3):ACalls Tryz.prog 103 [.i .i64 k,.i .i64 f] H fun r H'=>r = .i .i64 (qtimes k f) ∧ H' = H:=by
 refine ACalls_body Tryz.func103 rfl rfl ?_
 refine AW_seq ?_
 refine AW_reg [0,1] fun K hK=>?_
 simp [init_eq]
 apply hK;clear hK K
 refine AW_seq ?_
 refine AW_seq ?_
 by_cases h1:f < 1
 · refine AW_reg [0,1,10] fun K hK=>?_
   simp [init_eq,h1]
   apply hK;clear hK K
   refine AW_cond' rfl rfl (fun hc=>?_) (fun hc=>?_)
   · refine AW_seq ?_
     refine AW_reg [4] fun K hK=>?_
     simp [init_eq]
     apply hK;clear hK K
     refine AW_ret (end_ret rfl ?_)
     simp [qtimes,h1]
   · cases hc
 · by_cases h2:3 < f
   · refine AW_reg [0,1,10] fun K hK=>?_
     simp [init_eq,h1,h2]
     apply hK;clear hK K
     refine AW_cond' rfl rfl (fun hc=>?_) (fun hc=>?_)
     · refine AW_seq ?_
       refine AW_reg [4] fun K hK=>?_
       simp [init_eq]
       apply hK;clear hK K
       refine AW_ret (end_ret rfl ?_)
       simp [qtimes,h2]
     · cases hc
   · refine AW_reg [0,1,10] fun K hK=>?_
     simp [init_eq,h1,h2]
     apply hK;clear hK K
     refine AW_cond' rfl rfl (fun hc=>?_) (fun hc=>?_)
     · cases hc
     · refine AW_skip ?_
       have hb:0 ≤ k * f ∧ k * f ≤ 9:=⟨Int.mul_nonneg hk.1 (by omega),by
        have:=Int.mul_le_mul hk.2 (show f ≤ 3 by omega) (by omega) (by omega)
        omega⟩
       refine AW_seq ?_
       refine AW_reg [4] fun K hK=>?_
       simp [init_eq,wrap_id (x:=k * f) (by omega) (by omega),wrap_id (x:=k * f + 1) (by omega) (by omega)]
       apply hK;clear hK K
       refine AW_ret (end_ret rfl ?_)
       simp [qtimes,h1,h2]
theorem all_ok (H:AH) (f:Int):ACalls Tryz.prog 57 [.i .i64 f] H fun r H'=>r = .i .i64 (qtimes 3 f) ∧ H' = H:=by
 refine ACalls_body Tryz.func57 rfl rfl ?_
 refine AW_seq ?_
 refine AW_reg [0] fun K hK=>?_
 simp [init_eq]
 apply hK;clear hK K
 refine AW_seq ?_
 refine AW_reg [2] fun K hK=>?_
 simp [init_eq]
 refine ACalls.mono (times_ok H 3 f (by omega)) fun r H' ⟨hr,e⟩=>?_
 subst hr e
 try simp
 apply hK;clear hK K
 refine AW_ret (end_ret rfl ?_)
 simp
theorem qtimes_nn (k f:Int) (hk:0 ≤ k):0 ≤ qtimes k f:=by
 unfold qtimes
 split
 · omega
 · have:=Int.mul_nonneg hk (show 0 ≤ f by omega)
   omega
/-- The set of all. -/
def fullSet (f:Int):BitVec 32:=(1#32 <<< (qtimes 3 f).toNat) - 1#32
theorem full_ok (H:AH) (f:Int):ACalls Tryz.prog 117 [.i .i64 f] H fun r H'=>r = u32 (fullSet f) ∧ H' = H:=by
 refine ACalls_body Tryz.func117 rfl rfl ?_
 refine AW_seq ?_
 refine AW_reg [0] fun K hK=>?_
 simp [init_eq]
 apply hK;clear hK K
 refine AW_seq ?_
 refine AW_reg [2] fun K hK=>?_
 simp [init_eq]
 refine ACalls.mono (all_ok H f) fun r H' ⟨hr,e⟩=>?_
 subst hr e
 have:=qtimes_nn 3 f (by omega)
 simp [this]
 apply hK;clear hK K
 refine AW_ret (end_ret rfl ?_)
 exact ⟨rfl,rfl⟩
/-- Are they replicas? -/
def qcheck (f:Int) (s:BitVec 32):Int:=if qtimes 3 f = 0 then 1 else if s &&& ~~~(fullSet f) = 0#32 then 0 else 40
theorem qcheck_ok (H:AH) (f:Int) (s:BitVec 32):ACalls Tryz.prog 79 [.i .i64 f,u32 s] H fun r H'=>r = .i .i64 (qcheck f s) ∧ H' = H:=by
 refine ACalls_body Tryz.func79 rfl rfl ?_
 refine AW_seq ?_
 refine AW_reg [0,1] fun K hK=>?_
 simp [init_eq]
 apply hK;clear hK K
 refine AW_seq ?_
 refine AW_block ?_
 refine AW_seq ?_
 refine AW_reg [0,1,5] fun K hK=>?_
 simp [init_eq]
 refine ACalls.mono (all_ok H f) fun r H' ⟨hr,e⟩=>?_
 subst hr e
 try simp
 apply hK;clear hK K
 refine AW_cond' rfl rfl (fun hc=>?_) (fun hc=>?_)
 · refine AW_seq ?_
   refine AW_reg [4] fun K hK=>?_
   simp [init_eq]
   apply hK;clear hK K
   refine AW_ret (end_ret rfl ?_)
   have h0:qtimes 3 f = 0:=by simpa using hc
   simp [qcheck,h0]
 · have h0:qtimes 3 f ≠ 0:=by simpa using hc
   refine AW_seq ?_
   refine AW_reg [9] fun K hK=>?_
   simp [init_eq]
   refine ACalls.mono (full_ok H' f) fun r H' ⟨hr,e⟩=>?_
   subst hr e
   try simp
   apply hK;clear hK K
   refine AW_cond' rfl rfl (fun hc=>?_) (fun hc=>?_)
   · refine AW_seq ?_
     refine AW_reg [4] fun K hK=>?_
     simp [init_eq]
     apply hK;clear hK K
     refine AW_ret (end_ret rfl ?_)
     have h1:s &&& ~~~(fullSet f) ≠ 0#32:=by simpa using hc
     simp [qcheck,h0,h1]
   · refine AW_skip ?_
     refine AW_seq ?_
     refine AW_reg [4] fun K hK=>?_
     simp [init_eq]
     apply hK;clear hK K
     refine AW_ret (end_ret rfl ?_)
     have h1:s &&& ~~~(fullSet f) = 0#32:=by simpa using hc
     simp [qcheck,h0,h1]
theorem may_ok (H:AH) (k:Int):ACalls Tryz.prog 76 [.i .i64 k] H fun r H'=>r = .b (decide (0 ≤ k ∧ k < 32)) ∧ H' = H:=by
 refine ACalls_body Tryz.func76 rfl rfl ?_
 refine AW_seq ?_
 refine AW_reg [0] fun K hK=>?_
 simp [init_eq]
 apply hK;clear hK K
 refine AW_seq ?_
 by_cases h0:0 ≤ k
 · refine AW_reg [2] fun K hK=>?_
   simp [init_eq,h0]
   apply hK;clear hK K
   refine AW_ret (end_ret rfl ?_)
   simp [h0]
 · refine AW_reg [2] fun K hK=>?_
   simp [init_eq,h0]
   apply hK;clear hK K
   refine AW_ret (end_ret rfl ?_)
   simp [h0]
theorem put_ok (H:AH) (s:BitVec 32) (k:Int):ACalls Tryz.prog 39 [u32 s,.i .i64 k] H fun r H' =>
  r = (if 0 ≤ k ∧ k < 32 then .tup [u32 (s ||| 1#32 <<< k.toNat),.i .i64 0] else .tup [u32 0#32,.i .i64 40]) ∧ H' = H:=by
 refine ACalls_body Tryz.func39 rfl rfl ?_
 refine AW_seq ?_
 refine AW_reg [0,1] fun K hK=>?_
 simp [init_eq]
 apply hK;clear hK K
 refine AW_seq ?_
 refine AW_seq ?_
 refine AW_reg [0,1,8] fun K hK=>?_
 simp [init_eq]
 refine ACalls.mono (may_ok H k) fun r H' ⟨hr,e⟩=>?_
 subst hr e
 by_cases h0:0 ≤ k ∧ k < 32
 · simp [h0]
   apply hK;clear hK K
   refine AW_cond' rfl rfl (fun hc=>?_) (fun hc=>?_)
   · cases hc
   · refine AW_skip ?_
     refine AW_seq ?_
     refine AW_reg [4,5] fun K hK=>?_
     simp [init_eq,h0]
     apply hK;clear hK K
     refine AW_ret (end_ret rfl ?_)
     simp [h0]
 · simp only [h0,decide_false]
   simp
   apply hK;clear hK K
   refine AW_cond' rfl rfl (fun hc=>?_) (fun hc=>?_)
   · refine AW_seq ?_
     refine AW_reg [4,5] fun K hK=>?_
     simp [init_eq]
     apply hK;clear hK K
     refine AW_ret (end_ret rfl ?_)
     simp [h0]
   · cases hc
end Go.Proofs.YtaidfojbnfkclaaGreatDoor
set_option linter.unusedVariables false
set_option linter.unusedSimpArgs false
namespace Go.Proofs.YtaidfojbnfkclaaGreatDoor
open Go Go.Abs Go.Proofs
set_option maxRecDepth 100000
attribute [local irreducible] AEnd AW ACalls
def inR (n a b:Int):Bool:=decide (a ≤ n ∧ n ≤ b)
theorem within_ok (H:AH) (n a b:Int):ACalls Tryz.prog 106 [.i .i64 n,.i .i64 a,.i .i64 b] H fun r H'=>r = .b (inR n a b) ∧ H' = H:=by
 refine ACalls_body Tryz.func106 rfl rfl ?_
 refine AW_seq ?_
 refine AW_reg [0,1,2] fun K hK=>?_
 simp [init_eq]
 apply hK;clear hK K
 refine AW_seq ?_
 refine AW_regto [6] ⟨15,[(6,.b (inR n a b))]⟩ H (fun K hk=>?_) (AW_ret (end_ret rfl ⟨rfl,rfl⟩))
 by_cases h1:a ≤ n
 · simpa [init_eq,h1,inR] using hk
 · simpa [init_eq,h1,inR] using hk
def setOk (s:BitVec 32):Bool:=decide (qcheck 3 s = 0)
theorem set_ok (H:AH) (s:BitVec 32):ACalls Tryz.prog 107 [u32 s] H fun r H'=>r = .b (setOk s) ∧ H' = H:=by
 refine ACalls_body Tryz.func107 rfl rfl ?_
 refine AW_seq ?_
 refine AW_reg [0] fun K hK=>?_
 simp [init_eq]
 apply hK;clear hK K
 refine AW_seq ?_
 refine AW_reg [2] fun K hK=>?_
 simp [init_eq]
 refine ACalls.mono (qcheck_ok H 3 s) fun r H' ⟨hr,e⟩=>?_
 subst hr e
 simp
 apply hK;clear hK K
 refine AW_ret (end_ret rfl ?_)
 simp [setOk]
/-- A certificate. -/
structure Cert where
 kind:Int
 block:Int
 view:Int
 round:Int
 height:Int
 author:Int
 signers:BitVec 32
 coin:BitVec 32
 deriving DecidableEq
def Cert.cells (c:Cert):List V:=[.i .i64 c.kind,.i .i64 c.block,.i .i64 c.view,.i .i64 c.round,.i .i64 c.height,.i .i64 c.author,u32 c.signers,u32 c.coin]
def Cert.zero:Cert:=⟨0,0,0,0,0,0,0#32,0#32⟩
@[simp] theorem Cert.len (x:Cert):x.cells.length = 8:=rfl
@[simp] theorem Cert.c0 (x:Cert):x.cells[0]? = some (.i .i64 x.kind):=rfl
@[simp] theorem Cert.c1 (x:Cert):x.cells[1]? = some (.i .i64 x.block):=rfl
@[simp] theorem Cert.c2 (x:Cert):x.cells[2]? = some (.i .i64 x.view):=rfl
@[simp] theorem Cert.c3 (x:Cert):x.cells[3]? = some (.i .i64 x.round):=rfl
@[simp] theorem Cert.c4 (x:Cert):x.cells[4]? = some (.i .i64 x.height):=rfl
@[simp] theorem Cert.c5 (x:Cert):x.cells[5]? = some (.i .i64 x.author):=rfl
@[simp] theorem Cert.c6 (x:Cert):x.cells[6]? = some (u32 x.signers):=rfl
@[simp] theorem Cert.c7 (x:Cert):x.cells[7]? = some (u32 x.coin):=rfl
theorem take_cells (x:Cert):x.cells.take 8 = x.cells:=List.take_of_length_le (by simp)
theorem Cert.eq' (x y:Cert):((x.kind == y.kind) && ((x.block == y.block) && ((x.view == y.view) && ((x.round == y.round) && ((x.height == y.height) && ((x.author == y.author) && (((x.signers.toNat:Int) == y.signers.toNat) && ((x.coin.toNat:Int) == y.coin.toNat)))))))) = decide (x = y):=by
 by_cases h:x = y
 · subst h; simp
 · simp only [h,decide_false,toNat_inj]
   cases x; cases y
   simp at h ⊢
   simpa using h
@[simp] theorem Cert.aeq (x y:Cert):aeq Tryz.prog 24 (.agg x.cells) (.agg y.cells) = some (decide (x = y)):=by
 have:=Cert.eq' x y
 simp [Go.Abs.aeq,Cert.cells,fitsAll,CK.fits,ceqs,ceq,u32,this]
@[simp] theorem Cert.zeroCells:V.agg [.i .i64 0,.i .i64 0,.i .i64 0,.i .i64 0,.i .i64 0,.i .i64 0,u32 0#32,u32 0#32] = .agg Cert.zero.cells:=rfl
def Cert.base (c:Cert):Bool:=inR c.block 1 2147483647 && inR c.view 1 1048576 && inR c.round 1 1073741824 && !decide (c.signers = 0#32) && setOk c.signers
def Cert.reg (c:Cert):Bool:=c.base && decide (c.height = 0) && decide (c.author = 0) && decide (c.coin = 0#32)
def Cert.fall (c:Cert):Bool:=c.base && inR c.height 1 3 && inR c.author 0 9 && setOk c.coin
def Cert.ok (c:Cert):Bool :=
 if c.kind = 0 then decide (c = Cert.zero)
 else if c.kind = 1 then c.reg
 else if c.kind = 2 then c.fall
 else false
/-- What 'Check' says. -/
def Cert.check (c:Cert):Int:=if c.ok then 0 else 110
theorem check_ok (H:AH) (c:Cert):ACalls Tryz.prog 64 [.agg c.cells] H fun r H'=>r = .i .i64 c.check ∧ H' = H:=by
 refine ACalls.pure (Q:=fun r=>r = .i .i64 c.check) ⟨_,Tryz.func64,rfl,rfl⟩ ?_
 refine ACalls_body Tryz.func64 rfl rfl ?_
 refine AW_seq ?_
 refine AW_reg [1] fun K hK=>?_
 simp [init_eq,V.cells]
 generalize hH1:H.new (.cells c.cells 0 false 0) = H1
 have hp:H1.get H.next = some (.cells c.cells 0 false 0):=by rw [← hH1,AH.get_new_same]
 have u1:Upd H H1 []:=hH1 ▸ Upd.new ..
 apply hK;clear hK K
 refine AW_seq ?_
 refine AW_regto [1,3] ⟨72,[(1,.p (some (H.next,0,0))),(3,.b c.base)]⟩ H1 (fun K hk=>?_) ?_
 · simp [init_eq,afieldAddr,aload,hp]
   refine ACalls.mono (within_ok ..) fun r H' ⟨hr,e⟩=>?_
   subst hr e
   cases h1:inR c.block 1 2147483647
   · simpa [Cert.base,h1] using hk
   simp [afieldAddr,aload,hp]
   refine ACalls.mono (within_ok ..) fun r H2 ⟨hr,e⟩=>?_
   subst hr e
   cases h2:inR c.view 1 1048576
   · simpa [Cert.base,h1,h2] using hk
   simp [afieldAddr,aload,hp]
   refine ACalls.mono (within_ok ..) fun r H2 ⟨hr,e⟩=>?_
   subst hr e
   cases h3:inR c.round 1 1073741824
   · simpa [Cert.base,h1,h2,h3] using hk
   simp [afieldAddr,aload,hp]
   by_cases h4:c.signers = 0#32
   · simpa [Cert.base,h1,h2,h3,h4] using hk
   simp [afieldAddr,aload,hp,h4]
   refine ACalls.mono (set_ok ..) fun r H2 ⟨hr,e⟩=>?_
   subst hr e
   cases h5:setOk c.signers <;> simpa [Cert.base,h1,h2,h3,h4,h5] using hk
 refine AW_cutto ⟨72,[(3,.b c.ok)]⟩ H1 ?_ ?_
 · refine AW_seq ?_
   refine AW_reg [1,3,28] fun K hK=>?_
   simp [init_eq,afieldAddr,aload,hp]
   apply hK;clear hK K
   refine AW_block ?_
   refine AW_seq ?_
   refine AW_reg [1,3,28,29] fun K hK=>?_
   simp [init_eq]
   apply hK;clear hK K
   refine AW_cond' rfl rfl (fun hc=>?_) (fun hc=>?_)
   · refine AW_reg [3] fun K hK=>?_
     simp [init_eq,aload,hp,abuild,afill,take_cells]
     apply hK;clear hK K
     have h0:c.kind = 0:=by simpa using hc
     exact ⟨by simp [Cert.ok,h0],rfl⟩
   · have h0:c.kind ≠ 0:=by simpa using hc
     refine AW_seq ?_
     refine AW_reg [1,3,28,34] fun K hK=>?_
     simp [init_eq]
     apply hK;clear hK K
     refine AW_cond' rfl rfl (fun hc=>?_) (fun hc=>?_)
     · have h1:c.kind = 1:=by simpa using hc
       refine AW_regto [3] ⟨72,[(3,.b c.reg)]⟩ H1 (fun K hk=>?_) ⟨by simp [Cert.ok,h1],rfl⟩
       cases g0:c.base
       · simpa [init_eq,Cert.reg,g0] using hk
       simp [init_eq,afieldAddr,aload,hp]
       by_cases g1:c.height = 0
       · simp [afieldAddr,aload,hp,g1]
         by_cases g2:c.author = 0
         · simp [afieldAddr,aload,hp,g2]
           simpa [Cert.reg,g0,g1,g2] using hk
         · simpa [Cert.reg,g0,g1,g2] using hk
       · simpa [Cert.reg,g0,g1] using hk
     · have h1:c.kind ≠ 1:=by simpa using hc
       refine AW_seq ?_
       refine AW_reg [1,3,52] fun K hK=>?_
       simp [init_eq]
       apply hK;clear hK K
       refine AW_cond' rfl rfl (fun hc=>?_) (fun hc=>?_)
       · have h2:c.kind = 2:=by simpa using hc
         refine AW_regto [3] ⟨72,[(3,.b c.fall)]⟩ H1 (fun K hk=>?_) ⟨by simp [Cert.ok,h2],rfl⟩
         cases g0:c.base
         · simpa [init_eq,Cert.fall,g0] using hk
         simp [init_eq,afieldAddr,aload,hp]
         refine ACalls.mono (within_ok ..) fun r H2 ⟨hr,e⟩=>?_
         subst hr e
         cases g1:inR c.height 1 3
         · simpa [Cert.fall,g0,g1] using hk
         simp [afieldAddr,aload,hp]
         refine ACalls.mono (within_ok ..) fun r H2 ⟨hr,e⟩=>?_
         subst hr e
         cases g2:inR c.author 0 9
         · simpa [Cert.fall,g0,g1,g2] using hk
         simp [afieldAddr,aload,hp]
         refine ACalls.mono (set_ok ..) fun r H2 ⟨hr,e⟩=>?_
         subst hr e
         cases g3:setOk c.coin <;> simpa [Cert.fall,g0,g1,g2,g3] using hk
       · have h2:c.kind ≠ 2:=by simpa using hc
         refine AW_reg [3] fun K hK=>?_
         simp [init_eq]
         apply hK;clear hK K
         exact ⟨by simp [Cert.ok,h0,h1,h2],rfl⟩
 · refine AW_seq ?_
   refine AW_seq ?_
   refine AW_reg [71] fun K hK=>?_
   simp [init_eq]
   apply hK;clear hK K
   refine AW_cond' rfl rfl (fun hc=>?_) (fun hc=>?_)
   · refine AW_seq ?_
     refine AW_reg [2] fun K hK=>?_
     simp [init_eq]
     apply hK;clear hK K
     refine AW_ret (end_ret rfl ?_)
     have hc':c.ok = false:=by simpa using hc
     exact ⟨by simp [Cert.check,hc'],rfl,u1.1,fun j hj=>u1.2 j hj (by simp)⟩
   · refine AW_skip ?_
     refine AW_seq ?_
     refine AW_reg [2] fun K hK=>?_
     simp [init_eq]
     apply hK;clear hK K
     refine AW_ret (end_ret rfl ?_)
     have hc':c.ok = true:=by simpa using hc
     exact ⟨by simp [Cert.check,hc'],rfl,u1.1,fun j hj=>u1.2 j hj (by simp)⟩
end Go.Proofs.YtaidfojbnfkclaaGreatDoor
set_option linter.unusedVariables false
set_option linter.unusedSimpArgs false
namespace Go.Proofs.YtaidfojbnfkclaaGreatDoor
open Go Go.Abs Go.Proofs
set_option maxRecDepth 100000
attribute [local irreducible] AEnd AW ACalls
theorem rin_ok (H:AH) (n a b:Int):ACalls Tryz.prog 114 [.i .i64 n,.i .i64 a,.i .i64 b] H fun r H'=>r = .b (inR n a b) ∧ H' = H:=by
 refine ACalls_body Tryz.func114 rfl rfl ?_
 refine AW_seq ?_
 refine AW_reg [0,1,2] fun K hK=>?_
 simp [init_eq]
 apply hK;clear hK K
 refine AW_seq ?_
 refine AW_regto [6] ⟨15,[(6,.b (inR n a b))]⟩ H (fun K hk=>?_) (AW_ret (end_ret rfl ⟨rfl,rfl⟩))
 by_cases h1:a ≤ n
 · simpa [init_eq,h1,inR] using hk
 · simpa [init_eq,h1,inR] using hk
/-- A set of the first ten, told by its number. -/
theorem setOk_num (s:BitVec 32):setOk s = decide (s.toNat ≤ 1023):=by
 unfold setOk qcheck
 have hf:fullSet 3 = 1023#32:=by decide
 have hq:¬ qtimes 3 3 = 0:=by decide
 rw [if_neg hq,hf]
 have key:(s &&& ~~~(1023#32) = 0#32) ↔ s.toNat ≤ 1023:=by
  have e : ~~~(1023#32) = BitVec.ofNat 32 (2 ^ 32 - 1024):=by decide
  constructor
  · intro h
    apply Classical.byContradiction
    intro hn
    have h2:s.toNat / 2 ^ 10 ≠ 0:=by
     intro h0
     have:=Nat.div_add_mod s.toNat (2 ^ 10)
     have:=Nat.mod_lt s.toNat (show 2 ^ 10 > 0 by decide)
     omega
    obtain ⟨i,hi⟩:=Nat.exists_testBit_of_ne_zero h2
    have hbit:s.toNat.testBit (10 + i) = true:=by
     rw [Nat.testBit_div_two_pow] at hi
     rw [Nat.add_comm]; exact hi
    have hlt:10 + i < 32:=by
     apply Classical.byContradiction
     intro hge
     have:=Nat.testBit_lt_two_pow (x:=s.toNat) (i:=10 + i) (Nat.lt_of_lt_of_le s.isLt (Nat.pow_le_pow_right (by decide) (by omega)))
     rw [this] at hbit; cases hbit
    have hb:=congrArg (fun x:BitVec 32=>x.getLsbD (10 + i)) h
    simp only [BitVec.getLsbD_and,BitVec.getLsbD_not,hlt,decide_true,Bool.true_and,BitVec.getLsbD_zero] at hb
    have h1023:(1023#32).getLsbD (10 + i) = false:=by
     show (1023 % 2 ^ 32:Nat).testBit (10 + i) = false
     exact Nat.testBit_lt_two_pow (Nat.lt_of_lt_of_le (by decide) (Nat.pow_le_pow_right (n:=2) (by decide) (show 10 ≤ 10 + i by omega)))
    have hs:s.getLsbD (10 + i) = true:=hbit
    rw [h1023,hs] at hb
    cases hb
  · intro h
    apply BitVec.eq_of_getLsbD_eq
    intro i hi
    simp only [BitVec.getLsbD_and,BitVec.getLsbD_not,hi,decide_true,Bool.true_and,BitVec.getLsbD_zero]
    by_cases h10:i < 10
    · have:(1023#32).getLsbD i = true:=by
        have:i = 0 ∨ i = 1 ∨ i = 2 ∨ i = 3 ∨ i = 4 ∨ i = 5 ∨ i = 6 ∨ i = 7 ∨ i = 8 ∨ i = 9:=by omega
        rcases this with rfl | rfl | rfl | rfl | rfl | rfl | rfl | rfl | rfl | rfl <;> decide
      simp [this]
    · have:s.getLsbD i = false:=by
        show s.toNat.testBit i = false
        exact Nat.testBit_lt_two_pow (Nat.lt_of_le_of_lt h (Nat.lt_of_lt_of_le (by decide) (Nat.pow_le_pow_right (n:=2) (by decide) (show 10 ≤ i by omega))))
      simp [this]
 by_cases h:s.toNat ≤ 1023
 · rw [if_pos (key.2 h)]; simp [h]
 · rw [if_neg (fun e=>h (key.1 e))]; simp [h]
theorem ne_zero_num (s:BitVec 32):(s.toNat < 1) ↔ s = 0#32:=by
 constructor
 · intro h; apply BitVec.eq_of_toNat_eq; simp; omega
 · intro h; subst h; decide
def rbad (c:Cert):Bool:=!inR c.block 1 2147483647 || !inR c.view 1 1048576 || !inR c.round 1 1073741824 || decide (c.signers.toNat < 1) || decide (1023 < c.signers.toNat) || decide (1023 < c.coin.toNat)
theorem rbad_ok (c:Cert):rbad c = !(c.base && setOk c.coin):=by
 unfold rbad Cert.base
 rw [setOk_num,setOk_num]
 have h1:decide (c.signers.toNat < 1) = decide (c.signers = 0#32):=decide_eq_decide.2 (ne_zero_num _)
 have h2:decide (1023 < c.signers.toNat) = !decide (c.signers.toNat ≤ 1023):=by rw [← decide_not]; exact decide_eq_decide.2 (by omega)
 have h3:decide (1023 < c.coin.toNat) = !decide (c.coin.toNat ≤ 1023):=by rw [← decide_not]; exact decide_eq_decide.2 (by omega)
 rw [h1,h2,h3]
 simp only [Bool.not_and,Bool.not_not,Bool.or_assoc]
theorem rcheck_ok (H:AH) (c:Cert):ACalls Tryz.prog 72 [.agg c.cells] H fun r H'=>r = .b c.ok ∧ H' = H:=by
 refine ACalls.pure (Q:=fun r=>r = .b c.ok) ⟨_,Tryz.func72,rfl,rfl⟩ ?_
 refine ACalls_body Tryz.func72 rfl rfl ?_
 refine AW_seq ?_
 refine AW_reg [1] fun K hK=>?_
 simp [init_eq,V.cells]
 generalize hH1:H.new (.cells c.cells 0 false 0) = H1
 have hp:H1.get H.next = some (.cells c.cells 0 false 0):=by rw [← hH1,AH.get_new_same]
 have u1:Upd H H1 []:=hH1 ▸ Upd.new ..
 have fin:∀ b:Bool,b = c.ok → V.b b = V.b c.ok ∧ V.lt H.next (V.b b) = true ∧ H.next ≤ H1.next ∧ ∀ j,j < H.next → H1.get j = H.get j:=fun b hb=>⟨by rw [hb],rfl,u1.1,fun j hj=>u1.2 j hj (by simp)⟩
 apply hK;clear hK K
 refine AW_seq ?_
 refine AW_seq ?_
 refine AW_reg [1,5] fun K hK=>?_
 simp [init_eq,afieldAddr,aload,hp]
 apply hK;clear hK K
 refine AW_cond' rfl rfl (fun hc=>?_) (fun hc=>?_)
 · have h0:c.kind = 0:=by simpa using hc
   refine AW_seq ?_
   refine AW_reg [2] fun K hK=>?_
   simp [init_eq,aload,hp,abuild,afill,take_cells]
   apply hK;clear hK K
   refine AW_ret (end_ret rfl (fin _ ?_))
   simp [Cert.ok,h0]
 have h0:c.kind ≠ 0:=by simpa using hc
 refine AW_skip ?_
 refine AW_seq ?_
 refine AW_seq ?_
 refine AW_regto [1,39] ⟨69,[(1,.p (some (H.next,0,0))),(39,.b (rbad c))]⟩ H1 (fun K hk=>?_) ?_
 · simp [init_eq,afieldAddr,aload,hp]
   refine ACalls.mono (rin_ok ..) fun r H' ⟨hr,e⟩=>?_
   subst hr e
   cases h1:inR c.block 1 2147483647
   · simpa [rbad,h1] using hk
   simp [afieldAddr,aload,hp]
   refine ACalls.mono (rin_ok ..) fun r H2 ⟨hr,e⟩=>?_
   subst hr e
   cases h2:inR c.view 1 1048576
   · simpa [rbad,h1,h2] using hk
   simp [afieldAddr,aload,hp]
   refine ACalls.mono (rin_ok ..) fun r H2 ⟨hr,e⟩=>?_
   subst hr e
   cases h3:inR c.round 1 1073741824
   · simpa [rbad,h1,h2,h3] using hk
   simp [afieldAddr,aload,hp]
   by_cases h4:c.signers.toNat < 1
   · have h4':c.signers.toNat = 0:=by omega
     simpa [rbad,h1,h2,h3,h4,h4'] using hk
   have h4':¬ c.signers.toNat = 0:=by omega
   by_cases h5:1023 < c.signers.toNat
   · simpa [afieldAddr,aload,hp,rbad,h1,h2,h3,h4,h4',h5] using hk
   simpa [afieldAddr,aload,hp,rbad,h1,h2,h3,h4,h4',h5] using hk
 refine AW_cond' rfl rfl (fun hc=>?_) (fun hc=>?_)
 · have hb:(c.base && setOk c.coin) = false:=by rw [rbad_ok] at hc; cases h:(c.base && setOk c.coin) <;> simp_all
   refine AW_seq ?_
   refine AW_reg [2] fun K hK=>?_
   simp [init_eq]
   apply hK;clear hK K
   refine AW_ret (end_ret rfl (fin _ ?_))
   unfold Cert.ok Cert.reg Cert.fall
   rw [if_neg h0]
   split
   · cases h1:c.base
     · simp
     · rw [h1,Bool.true_and] at hb
       have hz:c.coin ≠ 0#32:=fun e=>by rw [e,setOk_num] at hb; simp at hb
       simp [hz]
   · split
     · cases h1:c.base
       · simp
       · rw [h1,Bool.true_and] at hb; simp [hb]
     · rfl
 have hb:c.base = true ∧ setOk c.coin = true:=by rw [rbad_ok] at hc; simpa using hc
 refine AW_skip ?_
 refine AW_seq ?_
 refine AW_seq ?_
 refine AW_reg [1,42] fun K hK=>?_
 simp [init_eq,afieldAddr,aload,hp]
 apply hK;clear hK K
 refine AW_cond' rfl rfl (fun hc=>?_) (fun hc=>?_)
 · have h1:c.kind = 1:=by simpa using hc
   refine AW_seq ?_
   refine AW_regto [2] ⟨69,[(2,.b c.ok)]⟩ H1 (fun K hk=>?_) (AW_ret (end_ret rfl (fin _ rfl)))
   by_cases g1:c.height = 0
   · simp [init_eq,afieldAddr,aload,hp,g1]
     by_cases g2:c.author = 0
     · simp [afieldAddr,aload,hp,g2]
       simpa [Cert.ok,Cert.reg,h1,hb,g1,g2] using hk
     · simpa [Cert.ok,Cert.reg,h1,hb,g1,g2] using hk
   · simp [init_eq,afieldAddr,aload,hp,g1]
     simpa [Cert.ok,Cert.reg,h1,hb,g1] using hk
 have h1:c.kind ≠ 1:=by simpa using hc
 refine AW_skip ?_
 refine AW_seq ?_
 refine AW_regto [2] ⟨69,[(2,.b c.ok)]⟩ H1 (fun K hk=>?_) (AW_ret (end_ret rfl (fin _ rfl)))
 by_cases h2:c.kind = 2
 · simp [init_eq,afieldAddr,aload,hp,h2]
   refine ACalls.mono (rin_ok ..) fun r H' ⟨hr,e⟩=>?_
   subst hr e
   cases g1:inR c.height 1 3
   · simpa [Cert.ok,Cert.fall,h2,hb,g1] using hk
   simp [afieldAddr,aload,hp]
   refine ACalls.mono (rin_ok ..) fun r H2 ⟨hr,e⟩=>?_
   subst hr e
   cases g2:inR c.author 0 9 <;> simpa [Cert.ok,Cert.fall,h2,hb,g1,g2] using hk
 · simp [init_eq,afieldAddr,aload,hp,h2]
   simpa [Cert.ok,h0,h1,h2] using hk
end Go.Proofs.YtaidfojbnfkclaaGreatDoor
set_option linter.unusedVariables false
set_option linter.unusedSimpArgs false
namespace Go.Proofs.YtaidfojbnfkclaaGreatDoor
open Go Go.Abs Go.Proofs
set_option maxRecDepth 100000
attribute [local irreducible] AEnd AW ACalls
theorem bwithin_ok (H:AH) (n a b:Int):ACalls Tryz.prog 29 [.i .i64 n,.i .i64 a,.i .i64 b] H fun r H'=>r = .b (inR n a b) ∧ H' = H:=by
 refine ACalls_body Tryz.func29 rfl rfl ?_
 refine AW_seq ?_
 refine AW_reg [0,1,2] fun K hK=>?_
 simp [init_eq]
 apply hK;clear hK K
 refine AW_seq ?_
 refine AW_regto [6] ⟨15,[(6,.b (inR n a b))]⟩ H (fun K hk=>?_) (AW_ret (end_ret rfl ⟨rfl,rfl⟩))
 by_cases h1:a ≤ n
 · simpa [init_eq,h1,inR] using hk
 · simpa [init_eq,h1,inR] using hk
/-- Is it of the fallback, and of one that a coin elected? -/
def Cert.endorsed (c:Cert):Bool:=decide (c.kind = 2) && !decide (c.coin = 0#32)
theorem endorsed_ok (H:AH) (c:Cert):ACalls Tryz.prog 25 [.agg c.cells] H fun r H'=>r = .b c.endorsed ∧ H' = H:=by
 refine ACalls.pure (Q:=fun r=>r = .b c.endorsed) ⟨_,Tryz.func25,rfl,rfl⟩ ?_
 refine ACalls_body Tryz.func25 rfl rfl ?_
 refine AW_seq ?_
 refine AW_reg [1] fun K hK=>?_
 simp [init_eq,V.cells]
 obtain ⟨H1,e1,hp,hn,ho⟩:=H.boxed c.cells
 rw [e1]
 apply hK;clear hK K
 refine AW_seq ?_
 refine AW_regto [2] ⟨11,[(2,.b c.endorsed)]⟩ H1 (fun K hk=>?_) (AW_ret (end_ret rfl (pure_end hn ho rfl rfl)))
 by_cases h1:c.kind = 2
 · simpa [init_eq,afieldAddr,aload,hp,h1,Cert.endorsed] using hk
 · simpa [init_eq,afieldAddr,aload,hp,h1,Cert.endorsed] using hk
/-- May a certificate stand where none of a view's fallback may? -/
def openS (c:Cert) (v:Int):Bool:=c.ok && (if c.kind = 2 then c.endorsed && decide (c.view < v) else decide (c.view ≤ v))
theorem bopen_ok (H:AH) (c:Cert) (v:Int):ACalls Tryz.prog 63 [.agg c.cells,.i .i64 v] H fun r H'=>r = .b (openS c v) ∧ H' = H:=by
 refine ACalls.pure (Q:=fun r=>r = .b (openS c v)) ⟨_,Tryz.func63,rfl,rfl⟩ ?_
 refine ACalls_body Tryz.func63 rfl rfl ?_
 refine AW_seq ?_
 refine AW_reg [1,2] fun K hK=>?_
 simp [init_eq,V.cells]
 obtain ⟨H1,e1,hp,hn,ho⟩:=H.boxed c.cells
 rw [e1]
 apply hK;clear hK K
 refine AW_seq ?_
 refine AW_block ?_
 refine AW_seq ?_
 refine AW_reg [1,2,5] fun K hK=>?_
 simp [init_eq,aload,hp,take_cells]
 refine ACalls.mono (check_ok ..) fun r H' ⟨hr,e⟩=>?_
 subst hr e
 simp
 apply hK;clear hK K
 have hck:(c.check = 0) ↔ c.ok = true:=by unfold Cert.check; cases c.ok <;> simp
 refine AW_cond' rfl rfl (fun hc=>?_) (fun hc=>?_)
 · have h0:c.ok = false:=by simpa [hck] using hc
   refine AW_seq ?_
   refine AW_reg [4] fun K hK=>?_
   simp [init_eq]
   apply hK;clear hK K
   refine AW_ret (end_ret rfl (pure_end hn ho ?_ rfl))
   simp [openS,h0]
 · have h0:c.ok = true:=by simpa [hck] using hc
   refine AW_seq ?_
   refine AW_reg [1,2,9] fun K hK=>?_
   simp [init_eq,afieldAddr,aload,hp]
   apply hK;clear hK K
   refine AW_cond' rfl rfl (fun hc=>?_) (fun hc=>?_)
   · have h1:c.kind = 2:=by simpa using hc
     refine AW_seq ?_
     refine AW_regto [4] ⟨25,[(4,.b (openS c v))]⟩ H' (fun K hk=>?_) (AW_ret (end_ret rfl (pure_end hn ho rfl rfl)))
     simp [init_eq,aload,hp,take_cells]
     refine ACalls.mono (endorsed_ok ..) fun r H2 ⟨hr,e⟩=>?_
     subst hr e
     cases h2:c.endorsed
     · simpa [openS,h0,h1,h2] using hk
     · simpa [afieldAddr,aload,hp,openS,h0,h1,h2] using hk
   · have h1:c.kind ≠ 2:=by simpa using hc
     refine AW_skip ?_
     refine AW_seq ?_
     refine AW_reg [4] fun K hK=>?_
     simp [init_eq,afieldAddr,aload,hp]
     apply hK;clear hK K
     refine AW_ret (end_ret rfl (pure_end hn ho ?_ rfl))
     simp [openS,h0,h1]
theorem ropen_ok (H:AH) (c:Cert) (v:Int):ACalls Tryz.prog 73 [.agg c.cells,.i .i64 v] H fun r H'=>r = .b (openS c v) ∧ H' = H:=by
 refine ACalls.pure (Q:=fun r=>r = .b (openS c v)) ⟨_,Tryz.func73,rfl,rfl⟩ ?_
 refine ACalls_body Tryz.func73 rfl rfl ?_
 refine AW_seq ?_
 refine AW_reg [1,2] fun K hK=>?_
 simp [init_eq,V.cells]
 obtain ⟨H1,e1,hp,hn,ho⟩:=H.boxed c.cells
 rw [e1]
 apply hK;clear hK K
 refine AW_seq ?_
 refine AW_seq ?_
 refine AW_reg [1,2,7] fun K hK=>?_
 simp [init_eq,aload,hp,take_cells]
 refine ACalls.mono (rcheck_ok ..) fun r H' ⟨hr,e⟩=>?_
 subst hr e
 simp
 apply hK;clear hK K
 refine AW_cond' rfl rfl (fun hc=>?_) (fun hc=>?_)
 · have h0:c.ok = false:=by simpa using hc
   refine AW_seq ?_
   refine AW_reg [4] fun K hK=>?_
   simp [init_eq]
   apply hK;clear hK K
   refine AW_ret (end_ret rfl (pure_end hn ho ?_ rfl))
   simp [openS,h0]
 · have h0:c.ok = true:=by simpa using hc
   refine AW_skip ?_
   refine AW_seq ?_
   refine AW_seq ?_
   refine AW_reg [1,2,10] fun K hK=>?_
   simp [init_eq,afieldAddr,aload,hp]
   apply hK;clear hK K
   refine AW_cond' rfl rfl (fun hc=>?_) (fun hc=>?_)
   · have h1:c.kind = 2:=by simpa using hc
     refine AW_seq ?_
     refine AW_regto [4] ⟨24,[(4,.b (openS c v))]⟩ H' (fun K hk=>?_) (AW_ret (end_ret rfl (pure_end hn ho rfl rfl)))
     by_cases h2:c.coin = 0#32
     · simpa [init_eq,afieldAddr,aload,hp,openS,h0,h1,h2,Cert.endorsed] using hk
     · simpa [init_eq,afieldAddr,aload,hp,openS,h0,h1,h2,Cert.endorsed] using hk
   · have h1:c.kind ≠ 2:=by simpa using hc
     refine AW_skip ?_
     refine AW_seq ?_
     refine AW_reg [4] fun K hK=>?_
     simp [init_eq,afieldAddr,aload,hp]
     apply hK;clear hK K
     refine AW_ret (end_ret rfl (pure_end hn ho ?_ rfl))
     simp [openS,h0,h1]
/-- A timeout. -/
structure Tmo where
 signer:Int
 view:Int
 high:Cert
 deriving DecidableEq
def Tmo.cells (t:Tmo):List V:=.i .i64 t.signer :: .i .i64 t.view :: t.high.cells
@[simp] theorem Tmo.len (x:Tmo):x.cells.length = 10:=rfl
@[simp] theorem Tmo.c0 (x:Tmo):x.cells[0]? = some (.i .i64 x.signer):=rfl
@[simp] theorem Tmo.c1 (x:Tmo):x.cells[1]? = some (.i .i64 x.view):=rfl
@[simp] theorem Tmo.c2 (x:Tmo):x.cells[2]? = some (.i .i64 x.high.kind):=rfl
@[simp] theorem Tmo.c3 (x:Tmo):x.cells[3]? = some (.i .i64 x.high.block):=rfl
@[simp] theorem Tmo.c4 (x:Tmo):x.cells[4]? = some (.i .i64 x.high.view):=rfl
@[simp] theorem Tmo.c5 (x:Tmo):x.cells[5]? = some (.i .i64 x.high.round):=rfl
theorem Tmo.high_cells (x:Tmo):(x.cells.drop 2).take 8 = x.high.cells:=rfl
theorem tmo_take (x:Tmo):x.cells.take 10 = x.cells:=rfl
/-- May it be one? -/
def Tmo.ok (t:Tmo):Bool:=inR t.signer 0 9 && inR t.view 1 1048576 && openS t.high t.view
theorem btimeout_ok (H:AH) (t:Tmo):ACalls Tryz.prog 65 [.agg t.cells] H fun r H'=>r = .i .i64 (if t.ok then 0 else 121) ∧ H' = H:=by
 refine ACalls.pure (Q:=fun r=>r = .i .i64 (if t.ok then 0 else 121)) ⟨_,Tryz.func65,rfl,rfl⟩ ?_
 refine ACalls_body Tryz.func65 rfl rfl ?_
 refine AW_seq ?_
 refine AW_reg [1] fun K hK=>?_
 simp [init_eq,V.cells]
 obtain ⟨H1,e1,hp,hn,ho⟩:=H.boxed t.cells
 rw [e1]
 apply hK;clear hK K
 refine AW_seq ?_
 refine AW_seq ?_
 refine AW_regto [20] ⟨21,[(20,.b (!t.ok))]⟩ H1 (fun K hk=>?_) ?_
 · simp [init_eq,afieldAddr,aload,hp]
   refine ACalls.mono (bwithin_ok ..) fun r H' ⟨hr,e⟩=>?_
   subst hr e
   cases h1:inR t.signer 0 9
   · simpa [Tmo.ok,h1] using hk
   simp [afieldAddr,aload,hp]
   refine ACalls.mono (bwithin_ok ..) fun r H' ⟨hr,e⟩=>?_
   subst hr e
   cases h2:inR t.view 1 1048576
   · simpa [Tmo.ok,h1,h2] using hk
   simp [afieldAddr,aload,hp,Tmo.high_cells]
   refine ACalls.mono (bopen_ok ..) fun r H' ⟨hr,e⟩=>?_
   subst hr e
   cases h3:openS t.high t.view <;> simpa [Tmo.ok,h1,h2,h3] using hk
 refine AW_cond' rfl rfl (fun hc=>?_) (fun hc=>?_)
 · refine AW_seq ?_
   refine AW_reg [2] fun K hK=>?_
   simp [init_eq]
   apply hK;clear hK K
   have h:t.ok = false:=by simpa using hc
   refine AW_ret (end_ret rfl (pure_end hn ho ?_ rfl))
   simp [h]
 · refine AW_skip ?_
   refine AW_seq ?_
   refine AW_reg [2] fun K hK=>?_
   simp [init_eq]
   apply hK;clear hK K
   have h:t.ok = true:=by simpa using hc
   refine AW_ret (end_ret rfl (pure_end hn ho ?_ rfl))
   simp [h]
theorem rtimeout_ok (H:AH) (t:Tmo):ACalls Tryz.prog 74 [.agg t.cells] H fun r H'=>r = .b t.ok ∧ H' = H:=by
 refine ACalls.pure (Q:=fun r=>r = .b t.ok) ⟨_,Tryz.func74,rfl,rfl⟩ ?_
 refine ACalls_body Tryz.func74 rfl rfl ?_
 refine AW_seq ?_
 refine AW_reg [1] fun K hK=>?_
 simp [init_eq,V.cells]
 obtain ⟨H1,e1,hp,hn,ho⟩:=H.boxed t.cells
 rw [e1]
 apply hK;clear hK K
 refine AW_seq ?_
 refine AW_regto [2] ⟨28,[(2,.b t.ok)]⟩ H1 (fun K hk=>?_) (AW_ret (end_ret rfl (pure_end hn ho rfl rfl)))
 by_cases h1:0 ≤ t.signer
 · by_cases h2:t.signer ≤ 9
   · by_cases h3:1 ≤ t.view
     · by_cases h4:t.view ≤ 1048576
       · simp [init_eq,afieldAddr,aload,hp,h1,h2,h3,h4,Tmo.high_cells]
         refine ACalls.mono (ropen_ok ..) fun r H' ⟨hr,e⟩=>?_
         subst hr e
         simpa [Tmo.ok,inR,h1,h2,h3,h4] using hk
       · simp [init_eq,afieldAddr,aload,hp,h1,h2,h3,h4]
         simpa [Tmo.ok,inR,h1,h2,h3,h4] using hk
     · simp [init_eq,afieldAddr,aload,hp,h1,h2,h3]
       simpa [Tmo.ok,inR,h1,h2,h3] using hk
   · simp [init_eq,afieldAddr,aload,hp,h1,h2]
     simpa [Tmo.ok,inR,h1,h2] using hk
 · simp [init_eq,afieldAddr,aload,hp,h1]
   simpa [Tmo.ok,inR,h1] using hk
end Go.Proofs.YtaidfojbnfkclaaGreatDoor
set_option linter.unusedVariables false
set_option linter.unusedSimpArgs false
namespace Go.Proofs.YtaidfojbnfkclaaGreatDoor
open Go Go.Abs Go.Proofs
set_option maxRecDepth 100000
attribute [local irreducible] AEnd AW ACalls
theorem tv_cert {H:AH} {n:Nat} {l:List V} (h:TV Tryz.prog H (n + 2) 24 l):∃ c:Cert,l = c.cells:=by
 obtain ⟨x0,e0,_⟩:=(h.fld Tryz.underlying24 0 rfl rfl rfl cellsOf_3).int Tryz.underlying3
 obtain ⟨x1,e1,_⟩:=(h.fld Tryz.underlying24 1 rfl rfl rfl cellsOf_3).int Tryz.underlying3
 obtain ⟨x2,e2,_⟩:=(h.fld Tryz.underlying24 2 rfl rfl rfl cellsOf_3).int Tryz.underlying3
 obtain ⟨x3,e3,_⟩:=(h.fld Tryz.underlying24 3 rfl rfl rfl cellsOf_3).int Tryz.underlying3
 obtain ⟨x4,e4,_⟩:=(h.fld Tryz.underlying24 4 rfl rfl rfl cellsOf_3).int Tryz.underlying3
 obtain ⟨x5,e5,_⟩:=(h.fld Tryz.underlying24 5 rfl rfl rfl cellsOf_3).int Tryz.underlying3
 obtain ⟨x6,e6,b6⟩:=(h.fld Tryz.underlying24 6 rfl rfl rfl cellsOf_22).int Tryz.underlying22
 obtain ⟨x7,e7,b7⟩:=(h.fld Tryz.underlying24 7 rfl rfl rfl cellsOf_22).int Tryz.underlying22
 have hl:=h.size Tryz.underlying24 cellsOf_24
 obtain ⟨s6,g6⟩:=u32_of b6.1 b6.2
 obtain ⟨s7,g7⟩:=u32_of b7.1 b7.2
 refine ⟨⟨x0,x1,x2,x3,x4,x5,s6,s7⟩,?_⟩
 rcases l with _ | ⟨a0,_ | ⟨a1,_ | ⟨a2,_ | ⟨a3,_ | ⟨a4,_ | ⟨a5,_ | ⟨a6,_ | ⟨a7,_ | ⟨d,r⟩⟩⟩⟩⟩⟩⟩⟩⟩ <;> simp at hl
 simp at e0 e1 e2 e3 e4 e5 e6 e7
 simp [Cert.cells,e0,e1,e2,e3,e4,e5,e6,e7,← g6,← g7]
theorem tv_tmo {H:AH} {n:Nat} {l:List V} (h:TV Tryz.prog H (n + 3) 68 l):∃ t:Tmo,l = t.cells:=by
 obtain ⟨x0,e0,_⟩:=(h.fld Tryz.underlying68 0 rfl rfl rfl cellsOf_3).int Tryz.underlying3
 obtain ⟨x1,e1,_⟩:=(h.fld Tryz.underlying68 1 rfl rfl rfl cellsOf_3).int Tryz.underlying3
 obtain ⟨c,e2⟩:=tv_cert (h.fld Tryz.underlying68 2 rfl rfl rfl cellsOf_24)
 have hl:=h.size Tryz.underlying68 cellsOf_68
 refine ⟨⟨x0,x1,c⟩,?_⟩
 rcases l with _ | ⟨a0,_ | ⟨a1,l⟩⟩ <;> simp at hl
 have h8:List.take 8 l = l:=List.take_of_length_le (by omega)
 simp at e0 e1 e2
 rw [h8] at e2
 simp [Tmo.cells,e0,e1,e2]
end Go.Proofs.YtaidfojbnfkclaaGreatDoor
set_option linter.unusedVariables false
set_option linter.unusedSimpArgs false
namespace Go.Proofs.YtaidfojbnfkclaaGreatDoor
open Go Go.Abs Go.Proofs
set_option maxRecDepth 100000
attribute [local irreducible] AEnd AW ACalls
/-- A transaction. -/
structure Tx where
 kind:Int
 src:List UInt8
 dst:List UInt8
 key:List UInt8
 val:List UInt8
 amount:Int
 nonce:Int
 deriving DecidableEq
def Tx.cells (t:Tx):List V:=[.i .i64 t.kind,.s t.src,.s t.dst,.s t.key,.s t.val,.i .i64 t.amount,.i .i64 t.nonce]
def Tx.zero:Tx:=⟨0,[],[],[],[],0,0⟩
@[simp] theorem Tx.len (x:Tx):x.cells.length = 7:=rfl
@[simp] theorem Tx.c0 (x:Tx):x.cells[0]? = some (.i .i64 x.kind):=rfl
@[simp] theorem Tx.c1 (x:Tx):x.cells[1]? = some (.s x.src):=rfl
@[simp] theorem Tx.c2 (x:Tx):x.cells[2]? = some (.s x.dst):=rfl
@[simp] theorem Tx.c3 (x:Tx):x.cells[3]? = some (.s x.key):=rfl
@[simp] theorem Tx.c4 (x:Tx):x.cells[4]? = some (.s x.val):=rfl
@[simp] theorem Tx.c5 (x:Tx):x.cells[5]? = some (.i .i64 x.amount):=rfl
@[simp] theorem Tx.c6 (x:Tx):x.cells[6]? = some (.i .i64 x.nonce):=rfl
theorem tx_take (x:Tx):x.cells.take 7 = x.cells:=rfl
@[simp] theorem Tx.lts (n:Nat) (c:Tx):V.lts n c.cells = true:=by simp [Tx.cells]
@[simp] theorem Cert.lts (n:Nat) (c:Cert):V.lts n c.cells = true:=by simp [Cert.cells,u32]
@[simp] theorem Tmo.lts (n:Nat) (c:Tmo):V.lts n c.cells = true:=by simp [Tmo.cells]
@[simp] theorem Tx.aeq (x y:Tx):aeq Tryz.prog 75 (.agg x.cells) (.agg y.cells) = some (decide (x = y)):=by
 have e:((x.kind == y.kind) && ((x.src == y.src) && ((x.dst == y.dst) && ((x.key == y.key) && ((x.val == y.val) && ((x.amount == y.amount) && (x.nonce == y.nonce))))))) = decide (x = y):=by
  by_cases h:x = y
  · subst h; simp
  · simp only [h,decide_false]
    cases x; cases y
    simp at h ⊢
    simpa using h
 simp [Go.Abs.aeq,Tx.cells,fitsAll,CK.fits,ceqs,ceq,e]
theorem Tmo.eq' (x y:Tmo):((x.signer == y.signer) && ((x.view == y.view) && decide (x.high = y.high))) = decide (x = y):=by
 by_cases h:x = y
 · subst h; simp
 · simp only [h,decide_false]
   cases x; cases y
   simp at h ⊢
   simpa using h
@[simp] theorem Tmo.aeq (x y:Tmo):aeq Tryz.prog 68 (.agg x.cells) (.agg y.cells) = some (decide (x = y)):=by
 have:=Cert.eq' x.high y.high
 rw [← Tmo.eq',← this]
 simp [Go.Abs.aeq,Tmo.cells,Cert.cells,fitsAll,CK.fits,ceqs,ceq,u32]
/-- Is it more than is looked at? -/
def Tx.great (t:Tx):Bool:=decide (1000 < t.src.length) || decide (1000 < t.dst.length) || decide (1000 < t.key.length) || decide (1000 < t.val.length)
theorem greatTx_ok (H:AH) (t:Tx):ACalls Tryz.prog 66 [.agg t.cells] H fun r H'=>r = .b t.great ∧ H' = H:=by
 refine ACalls.pure (Q:=fun r=>r = .b t.great) ⟨_,Tryz.func66,rfl,rfl⟩ ?_
 refine ACalls_body Tryz.func66 rfl rfl ?_
 refine AW_seq ?_
 refine AW_reg [1] fun K hK=>?_
 simp [init_eq,V.cells]
 obtain ⟨H1,e1,hp,hn,ho⟩:=H.boxed t.cells
 rw [e1]
 apply hK;clear hK K
 refine AW_seq ?_
 refine AW_regto [2] ⟨25,[(2,.b t.great)]⟩ H1 (fun K hk=>?_) (AW_ret (end_ret rfl (pure_end hn ho rfl rfl)))
 have c:∀ l:List UInt8,(1000 < (l.length:Int)) = (1000 < l.length):=fun l=>propext (by omega)
 by_cases h1:1000 < t.src.length
 · simpa [init_eq,afieldAddr,aload,hp,alen,c,Tx.great,h1] using hk
 by_cases h2:1000 < t.dst.length
 · simpa [init_eq,afieldAddr,aload,hp,alen,c,Tx.great,h1,h2] using hk
 by_cases h3:1000 < t.key.length
 · simpa [init_eq,afieldAddr,aload,hp,alen,c,Tx.great,h1,h2,h3] using hk
 · simpa [init_eq,afieldAddr,aload,hp,alen,c,Tx.great,h1,h2,h3] using hk
end Go.Proofs.YtaidfojbnfkclaaGreatDoor
set_option linter.unusedVariables false
set_option linter.unusedSimpArgs false
namespace Go.Proofs.YtaidfojbnfkclaaGreatDoor
open Go Go.Abs Go.Proofs
set_option maxRecDepth 100000
attribute [local irreducible] AEnd AW ACalls
/-- A block. -/
structure Blk where
 view:Int
 round:Int
 height:Int
 author:Int
 parent:Cert
 proof:List Tmo
 txs:List Tx
 deriving DecidableEq
/-- Its cells, where its lists lie at pv and tv. -/
def Blk.cells (b:Blk) (pv tv:V):List V:=.i .i64 b.view :: .i .i64 b.round :: .i .i64 b.height :: .i .i64 b.author :: (b.parent.cells ++ [pv,tv])
/-- Its lists lie there. -/
structure BlkAt (H:AH) (b:Blk) (pv tv:V):Prop where
 pf:RS H pv 10 (b.proof.map Tmo.cells)
 tx:RS H tv 7 (b.txs.map Tx.cells)
section
variable (b:Blk) (pv tv:V)
@[simp] theorem Blk.len:(b.cells pv tv).length = 14:=rfl
@[simp] theorem Blk.c0:(b.cells pv tv)[0]? = some (.i .i64 b.view):=rfl
@[simp] theorem Blk.c1:(b.cells pv tv)[1]? = some (.i .i64 b.round):=rfl
@[simp] theorem Blk.c2:(b.cells pv tv)[2]? = some (.i .i64 b.height):=rfl
@[simp] theorem Blk.c3:(b.cells pv tv)[3]? = some (.i .i64 b.author):=rfl
@[simp] theorem Blk.c12:(b.cells pv tv)[12]? = some pv:=rfl
@[simp] theorem Blk.c13:(b.cells pv tv)[13]? = some tv:=rfl
theorem Blk.parent_cells:((b.cells pv tv).drop 4).take 8 = b.parent.cells:=rfl
theorem blk_take:(b.cells pv tv).take 14 = b.cells pv tv:=rfl
end
theorem BlkAt.same {H H':AH} {b:Blk} {pv tv:V} (h:BlkAt H b pv tv) (hx:∀ j,j < H.next → H'.get j = H.get j):BlkAt H' b pv tv:=⟨h.pf.same hx,h.tx.same hx⟩
/-- Is it more than is looked at? -/
def Blk.great (b:Blk):Bool:=decide (40 < b.proof.length) || decide (40 < b.txs.length) || b.txs.any Tx.great
theorem any_take {α:Type} {p:α → Bool} {xs:List α} {i:Nat} (hi:i < xs.length) (h:(xs.take i).any p = false) (he:p xs[i] = false):(xs.take (i + 1)).any p = false:=by
 rw [List.take_succ_eq_append_getElem hi,List.any_append,h]; simp [he]
theorem any_at {α:Type} {p:α → Bool} {xs:List α} {i:Nat} (hi:i < xs.length) (he:p xs[i] = true):xs.any p = true :=
 List.any_eq_true.2 ⟨xs[i],List.getElem_mem hi,he⟩
theorem greatBlk_ok (H:AH) {b:Blk} {pv tv:V} (hb:BlkAt H b pv tv):ACalls Tryz.prog 32 [.agg (b.cells pv tv)] H fun r H'=>r = .b b.great ∧ H' = H:=by
 refine ACalls.pure (Q:=fun r=>r = .b b.great) ⟨_,Tryz.func32,rfl,rfl⟩ ?_
 refine ACalls_body Tryz.func32 rfl rfl ?_
 refine AW_seq ?_
 refine AW_reg [1] fun K hK=>?_
 simp [init_eq,V.cells]
 obtain ⟨H1,e1,hp,hn,ho⟩:=H.boxed (b.cells pv tv)
 rw [e1]
 apply hK;clear hK K
 have hb1:=hb.same ho
 have lp:=hb1.pf.alen (P:=Tryz.prog) qelem_25 H1
 have lt:=hb1.tx.alen (P:=Tryz.prog) qelem_26 H1
 have c:∀ n:Nat,(40 < (n:Int)) = (40 < n):=fun n=>propext (by omega)
 refine AW_seq ?_
 refine AW_seq ?_
 refine AW_regto [1,13] ⟨27,[(1,.p (some (H.next,0,0))),(13,.b (decide (40 < b.proof.length) || decide (40 < b.txs.length)))]⟩ H1 (fun K hk=>?_) ?_
 · by_cases h1:40 < b.proof.length
   · simpa [init_eq,afieldAddr,aload,hp,lp,lt,c,h1] using hk
   · simpa [init_eq,afieldAddr,aload,hp,lp,lt,c,h1] using hk
 refine AW_cond' rfl rfl (fun hc=>?_) (fun hc=>?_)
 · refine AW_seq ?_
   refine AW_reg [2] fun K hK=>?_
   simp [init_eq]
   apply hK;clear hK K
   refine AW_ret (end_ret rfl (pure_end hn ho ?_ rfl))
   simp [Blk.great,hc]
 · have hg0:(decide (40 < b.proof.length) || decide (40 < b.txs.length)) = false:=hc
   have hlt:b.txs.length ≤ 40:=by simp at hc; omega
   refine AW_skip ?_
   refine AW_seq ?_
   refine AW_seq ?_
   refine AW_reg [1,3] fun K hK=>?_
   simp [init_eq]
   apply hK;clear hK K
   refine AW_block ?_
   refine AW_loop0 (fun i:Nat=>⟨27,[(1,.p (some (H.next,0,0))),(3,.i .i64 i)]⟩) (fun i=>i ≤ b.txs.length ∧ (b.txs.take i).any Tx.great = false) (fun i=>b.txs.length - i) 0 (by simp) (by simp) (by dsimp only; omega) fun hw i hM=>?_
   refine AW_seq ?_
   refine AW_seq ?_
   refine AW_reg [1,3,18] fun K hK=>?_
   simp [init_eq,afieldAddr,aload,hp,lt]
   apply hK;clear hK K
   refine AW_cond' rfl rfl (fun hc=>?_) (fun hc=>?_)
   · have hi:i < b.txs.length:=by simpa using hc
     obtain ⟨ax,px,qx⟩:=hb1.tx.rec Tx.len (by decide) (P:=Tryz.prog) qelem_26 qsize_75 qagg_75 hi
     have hp':aload Tryz.prog H1 26 (.p (some (H.next,0,13))) = some tv:=by simp [aload,hp]
     refine AW_skip ?_
     refine AW_seq ?_
     refine AW_block ?_
     refine AW_seq ?_
     refine AW_reg [1,3,26] fun K hK=>?_
     simp [init_eq,afieldAddr,hp',px,qx]
     refine ACalls.mono (greatTx_ok ..) fun r H' ⟨hr,e⟩=>?_
     subst hr e
     try simp
     apply hK;clear hK K
     refine AW_cond' rfl rfl (fun hc=>?_) (fun hc=>?_)
     · have hg:b.txs[i].great = true:=by simpa using hc
       refine AW_seq ?_
       refine AW_reg [2] fun K hK=>?_
       simp [init_eq]
       apply hK;clear hK K
       refine AW_ret (end_ret rfl (pure_end hn ho ?_ rfl))
       simp only [Blk.great,any_at hi hg,Bool.or_true]
       rfl
     · have hg:b.txs[i].great = false:=by simpa using hc
       refine AW_skip ?_
       refine AW_reg [1,3] fun K hK=>?_
       simp [init_eq,wrap_id (x:=(i:Int) + 1) (by omega) (by omega)]
       apply hK;clear hK K
       exact rend ⟨i + 1,by simp,⟨by omega,any_take hi hM.2 hg⟩,by omega,.inl rfl⟩
   · have hi:i = b.txs.length:=by
       have:¬ i < b.txs.length:=by simpa using hc
       omega
     subst hi
     refine AW_exit (then_exit (then_exit (block_here ?_)))
     refine AW_seq ?_
     refine AW_reg [2] fun K hK=>?_
     simp [init_eq]
     apply hK;clear hK K
     refine AW_ret (end_ret rfl (pure_end hn ho ?_ rfl))
     have:=hM.2
     rw [List.take_length] at this
     simp only [Blk.great,this,hg0,Bool.or_false]
     rfl
end Go.Proofs.YtaidfojbnfkclaaGreatDoor
set_option linter.unusedVariables false
set_option linter.unusedSimpArgs false
namespace Go.Proofs.YtaidfojbnfkclaaGreatDoor
open Go Go.Abs Go.Proofs
set_option maxRecDepth 100000
attribute [local irreducible] AEnd AW ACalls
theorem tv_tx {H:AH} {n:Nat} {l:List V} (h:TV Tryz.prog H (n + 2) 75 l):∃ t:Tx,l = t.cells:=by
 obtain ⟨x0,e0,_⟩:=(h.fld Tryz.underlying75 0 rfl rfl rfl cellsOf_3).int Tryz.underlying3
 obtain ⟨x1,e1,_⟩:=(h.fld Tryz.underlying75 1 rfl rfl rfl cellsOf_9).str Tryz.underlying9
 obtain ⟨x2,e2,_⟩:=(h.fld Tryz.underlying75 2 rfl rfl rfl cellsOf_9).str Tryz.underlying9
 obtain ⟨x3,e3,_⟩:=(h.fld Tryz.underlying75 3 rfl rfl rfl cellsOf_9).str Tryz.underlying9
 obtain ⟨x4,e4,_⟩:=(h.fld Tryz.underlying75 4 rfl rfl rfl cellsOf_9).str Tryz.underlying9
 obtain ⟨x5,e5,_⟩:=(h.fld Tryz.underlying75 5 rfl rfl rfl cellsOf_2).int Tryz.underlying2
 obtain ⟨x6,e6,_⟩:=(h.fld Tryz.underlying75 6 rfl rfl rfl cellsOf_2).int Tryz.underlying2
 have hl:=h.size Tryz.underlying75 cellsOf_75
 refine ⟨⟨x0,x1,x2,x3,x4,x5,x6⟩,?_⟩
 rcases l with _ | ⟨a0,_ | ⟨a1,_ | ⟨a2,_ | ⟨a3,_ | ⟨a4,_ | ⟨a5,_ | ⟨a6,_ | ⟨d,r⟩⟩⟩⟩⟩⟩⟩⟩ <;> simp at hl
 simp at e0 e1 e2 e3 e4 e5 e6
 simp [Tx.cells,e0,e1,e2,e3,e4,e5,e6]
theorem tv_blk {H:AH} {n:Nat} {l:List V} (h:TV Tryz.prog H (n + 5) 28 l):∃ (b:Blk) (pv tv:V),l = b.cells pv tv ∧ BlkAt H b pv tv:=by
 obtain ⟨x0,e0,_⟩:=(h.fld Tryz.underlying28 0 rfl rfl rfl cellsOf_3).int Tryz.underlying3
 obtain ⟨x1,e1,_⟩:=(h.fld Tryz.underlying28 1 rfl rfl rfl cellsOf_3).int Tryz.underlying3
 obtain ⟨x2,e2,_⟩:=(h.fld Tryz.underlying28 2 rfl rfl rfl cellsOf_3).int Tryz.underlying3
 obtain ⟨x3,e3,_⟩:=(h.fld Tryz.underlying28 3 rfl rfl rfl cellsOf_3).int Tryz.underlying3
 obtain ⟨c,e4⟩:=tv_cert (h.fld Tryz.underlying28 4 rfl rfl rfl cellsOf_24)
 obtain ⟨pv,lp,e5,_,hp,hp2,_⟩:=(h.fld Tryz.underlying28 5 rfl rfl rfl cellsOf_25).rs Tryz.underlying25 cellsOf_68
 obtain ⟨tv,lt,e6,_,ht,ht2,_⟩:=(h.fld Tryz.underlying28 6 rfl rfl rfl cellsOf_26).rs Tryz.underlying26 cellsOf_75
 obtain ⟨ps,rfl⟩:=exists_map (f:=Tmo.cells) fun l hl=>tv_tmo (hp2 l hl)
 obtain ⟨ts,rfl⟩:=exists_map (f:=Tx.cells) fun l hl=>tv_tx (ht2 l hl)
 have hl:=h.size Tryz.underlying28 cellsOf_28
 refine ⟨⟨x0,x1,x2,x3,c,ps,ts⟩,pv,tv,?_,hp,ht⟩
 rcases l with _ | ⟨a0,_ | ⟨a1,_ | ⟨a2,_ | ⟨a3,l⟩⟩⟩⟩ <;> simp at hl
 simp at e0 e1 e2 e3 e4 e5 e6
 have e7:l = (l.take 8) ++ ((l.drop 8).take 1 ++ (l.drop 9).take 1):=by
  rcases l with _ | ⟨a0,_ | ⟨a1,_ | ⟨a2,_ | ⟨a3,_ | ⟨a4,_ | ⟨a5,_ | ⟨a6,_ | ⟨a7,_ | ⟨a8,_ | ⟨a9,l⟩⟩⟩⟩⟩⟩⟩⟩⟩⟩ <;> simp at hl
  subst hl; rfl
 rw [e7,e4,e5,e6,e0,e1,e2,e3]
 rfl
end Go.Proofs.YtaidfojbnfkclaaGreatDoor
