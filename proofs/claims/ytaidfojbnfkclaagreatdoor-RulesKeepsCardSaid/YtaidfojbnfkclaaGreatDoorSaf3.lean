/-
  What a replica has promised,as data; Fell,Head,shows,cert.Plain.
-/
import Derived.Test.YtaidfojbnfkclaaGreatDoorSaf2
import Derived.Test.YtaidfojbnfkclaaGreatDoorTxtH
set_option linter.unusedVariables false
set_option linter.unusedSimpArgs false
namespace Go.Proofs.YtaidfojbnfkclaaGreatDoor
open Go Go.Abs Go.Proofs
set_option maxRecDepth 100000
attribute [local irreducible] AEnd AW ACalls
structure SSt where
 last:Int
 view:Int
 mode:Int
 round:Int
 block:Int
 high:Cert
 gave:Cert
 falls:List Cert
 heads:List Cert
 shared:Bool
 own0:List UInt8
 own1:List UInt8
 own2:List UInt8
 own3:List UInt8
 past:List (BitVec 32)
 count:Int
 tip:Int
 blocks:List (List UInt8)
def SSt.zero:SSt:=⟨0,0,0,0,0,Cert.zero,Cert.zero,[],[],false,[],[],[],[],[],0,0,[]⟩
/-- Its cells: the slices are values. -/
def SSt.cells (s:SSt) (fv hv pv bv:V):List V :=
 .i .i64 s.last :: .i .i64 s.view :: .i .i64 s.mode :: .i .i64 s.round :: .i .i64 s.block :: (s.high.cells ++ (s.gave.cells ++ [fv,hv,.b s.shared,.s s.own0,.s s.own1,.s s.own2,.s s.own3,pv,.i .i64 s.count,.i .i64 s.tip,bv]))
section
variable (s:SSt) (fv hv pv bv:V)
@[simp] theorem SSt.len:(s.cells fv hv pv bv).length = 32:=rfl
theorem SSt.take:(s.cells fv hv pv bv).take 32 = s.cells fv hv pv bv:=rfl
@[simp] theorem SSt.c0:(s.cells fv hv pv bv)[0]? = some (.i .i64 s.last):=rfl
@[simp] theorem SSt.c1:(s.cells fv hv pv bv)[1]? = some (.i .i64 s.view):=rfl
@[simp] theorem SSt.c2:(s.cells fv hv pv bv)[2]? = some (.i .i64 s.mode):=rfl
@[simp] theorem SSt.c3:(s.cells fv hv pv bv)[3]? = some (.i .i64 s.round):=rfl
@[simp] theorem SSt.c4:(s.cells fv hv pv bv)[4]? = some (.i .i64 s.block):=rfl
@[simp] theorem SSt.c21:(s.cells fv hv pv bv)[21]? = some fv:=rfl
@[simp] theorem SSt.c22:(s.cells fv hv pv bv)[22]? = some hv:=rfl
@[simp] theorem SSt.c23:(s.cells fv hv pv bv)[23]? = some (.b s.shared):=rfl
@[simp] theorem SSt.c24:(s.cells fv hv pv bv)[24]? = some (.s s.own0):=rfl
@[simp] theorem SSt.c25:(s.cells fv hv pv bv)[25]? = some (.s s.own1):=rfl
@[simp] theorem SSt.c26:(s.cells fv hv pv bv)[26]? = some (.s s.own2):=rfl
@[simp] theorem SSt.c27:(s.cells fv hv pv bv)[27]? = some (.s s.own3):=rfl
@[simp] theorem SSt.c28:(s.cells fv hv pv bv)[28]? = some pv:=rfl
@[simp] theorem SSt.c29:(s.cells fv hv pv bv)[29]? = some (.i .i64 s.count):=rfl
@[simp] theorem SSt.c30:(s.cells fv hv pv bv)[30]? = some (.i .i64 s.tip):=rfl
@[simp] theorem SSt.c31:(s.cells fv hv pv bv)[31]? = some bv:=rfl
@[simp] theorem SSt.highC:((s.cells fv hv pv bv).drop 5).take 8 = s.high.cells:=rfl
@[simp] theorem SSt.gaveC:((s.cells fv hv pv bv).drop 13).take 8 = s.gave.cells:=rfl
theorem SSt.w2 (x:Int):splice (s.cells fv hv pv bv) 2 [.i .i64 x] = ({ s with mode:=x }:SSt).cells fv hv pv bv:=rfl
theorem SSt.w3 (x:Int):splice (s.cells fv hv pv bv) 3 [.i .i64 x] = ({ s with round:=x }:SSt).cells fv hv pv bv:=rfl
theorem SSt.w4 (x:Int):splice (s.cells fv hv pv bv) 4 [.i .i64 x] = ({ s with block:=x }:SSt).cells fv hv pv bv:=rfl
theorem SSt.w5 (x:Cert):splice (s.cells fv hv pv bv) 5 x.cells = ({ s with high:=x }:SSt).cells fv hv pv bv:=rfl
theorem SSt.w13 (x:Cert):splice (s.cells fv hv pv bv) 13 x.cells = ({ s with gave:=x }:SSt).cells fv hv pv bv:=rfl
theorem SSt.w21 (x:V):splice (s.cells fv hv pv bv) 21 [x] = s.cells x hv pv bv:=rfl
theorem SSt.w22 (x:V):splice (s.cells fv hv pv bv) 22 [x] = s.cells fv x pv bv:=rfl
theorem SSt.w23 (x:Bool):splice (s.cells fv hv pv bv) 23 [.b x] = ({ s with shared:=x }:SSt).cells fv hv pv bv:=rfl
theorem SSt.w28 (x:V):splice (s.cells fv hv pv bv) 28 [x] = s.cells fv hv x bv:=rfl
theorem SSt.w29 (x:Int):splice (s.cells fv hv pv bv) 29 [.i .i64 x] = ({ s with count:=x }:SSt).cells fv hv pv bv:=rfl
theorem SSt.w30 (x:Int):splice (s.cells fv hv pv bv) 30 [.i .i64 x] = ({ s with tip:=x }:SSt).cells fv hv pv bv:=rfl
theorem SSt.w31 (x:V):splice (s.cells fv hv pv bv) 31 [x] = s.cells fv hv pv x:=rfl
theorem SSt.wall (l:List V) (h:l.length = 32):splice l 0 (s.cells fv hv pv bv) = s.cells fv hv pv bv:=splice_all (by rw [h]; rfl)
end
/-- The slices of a state, in memory. -/
structure SAt (H:AH) (s:SSt) (fv hv pv bv:V):Prop where
 falls:RS H fv 8 (s.falls.map Cert.cells)
 heads:RS H hv 8 (s.heads.map Cert.cells)
 past:RS H pv 1 (s.past.map fun x=>[u32 x])
 blocks:RS H bv 1 (s.blocks.map fun t=>[.s t])
theorem SAt.upd {H H':AH} {s:SSt} {fv hv pv bv:V} (h:SAt H s fv hv pv bv) (u:Upd H H' []):SAt H' s fv hv pv bv:=⟨h.falls.upd u,h.heads.upd u,h.past.upd u,h.blocks.upd u⟩
/-- What holds of each state on the way. -/
structure SSt.Ok (s:SSt) (k:Nat):Prop where
 fs:SortedC s.falls
 fr:RangeC s.falls
 fl:s.falls.length ≤ k
 hs:SortedC s.heads
 hr:RangeC s.heads
 hl:s.heads.length ≤ k
 bl:s.blocks.length ≤ k
 o0:s.own0.length ≤ 5000
 o1:s.own1.length ≤ 5000
 o2:s.own2.length ≤ 5000
 o3:s.own3.length ≤ 5000
 v1:1 ≤ s.view
 vl:s.view ≤ s.last
 lm:s.last ≤ 1048576
 pl:(s.past.length:Int) = s.view - 1
theorem SSt.Ok.mono {s:SSt} {k m:Nat} (h:s.Ok k) (hm:k ≤ m):s.Ok m:={ h with fl:=Nat.le_trans h.fl hm,hl:=Nat.le_trans h.hl hm,bl:=Nat.le_trans h.bl hm }
def SSt.fell (s:SSt) (a:Int):Cert:=ofC s.falls a
def SSt.head (s:SSt) (a:Int):Cert:=ofC s.heads a
theorem fell_ok (H:AH) {s:SSt} {fv hv pv bv:V} {k:Nat} (ha:SAt H s fv hv pv bv) (ho:s.Ok k) (hk:k ≤ 10000000) (a:Int) :
  ACalls Tryz.prog 37 [.agg (s.cells fv hv pv bv),.i .i64 a] H fun r H'=>r = .agg (s.fell a).cells ∧ H' = H:=by
 refine ACalls.pure (Q:=fun r=>r = .agg (s.fell a).cells) ⟨_,Tryz.func37,rfl,rfl⟩ ?_
 refine ACalls_body Tryz.func37 rfl rfl ?_
 refine AW_seq ?_
 refine AW_reg [1,2,4] fun K hK=>?_
 simp [init_eq,V.cells]
 obtain ⟨H1,e1,hp1,hp2,hn,ho1⟩:=H.boxed2 (s.cells fv hv pv bv) Cert.zero.cells
 rw [e1]
 have u1:Upd H H1 []:=⟨by omega,fun j hj _=>ho1 j hj⟩
 have hst:astore Tryz.prog H1 24 (.p (some (H.next + 1,0,0))) (.agg (s.fell a).cells) = some (H1.set (H.next + 1) (.cells (s.fell a).cells 0 false 0)):=by
  simp [astore,hp2,V.cells,show splice Cert.zero.cells 0 (s.fell a).cells = (s.fell a).cells from splice_all rfl]
 apply hK;clear hK K
 refine AW_seq ?_
 refine AW_reg [4] fun K hK=>?_
 simp [init_eq,afieldAddr,aload,hp1]
 refine ACalls.mono (of_ok H1 (ha.falls.upd u1) (by have:=ho.fl; omega) a) fun r H' ⟨hr,e⟩=>?_
 subst hr e
 have hst':astore Tryz.prog H' 24 (.p (some (H.next + 1,0,0))) (.agg (ofC s.falls a).cells) = some (H'.set (H.next + 1) (.cells (s.fell a).cells 0 false 0)):=hst
 simp [hst']
 apply hK;clear hK K
 refine AW_ret (end_ret (ares_cell (v:=.agg (s.fell a).cells) (by simp [aload,AH.get_set_same (AH.get_lt hp2),take_cells])) ⟨rfl,rfl,by simp; omega,fun j hj=>by rw [AH.get_set_ne (by omega)]; exact ho1 j hj⟩)
theorem head_ok (H:AH) {s:SSt} {fv hv pv bv:V} {k:Nat} (ha:SAt H s fv hv pv bv) (ho:s.Ok k) (hk:k ≤ 10000000) (a:Int) :
  ACalls Tryz.prog 49 [.agg (s.cells fv hv pv bv),.i .i64 a] H fun r H'=>r = .agg (s.head a).cells ∧ H' = H:=by
 refine ACalls.pure (Q:=fun r=>r = .agg (s.head a).cells) ⟨_,Tryz.func49,rfl,rfl⟩ ?_
 refine ACalls_body Tryz.func49 rfl rfl ?_
 refine AW_seq ?_
 refine AW_reg [1,2,4] fun K hK=>?_
 simp [init_eq,V.cells]
 obtain ⟨H1,e1,hp1,hp2,hn,ho1⟩:=H.boxed2 (s.cells fv hv pv bv) Cert.zero.cells
 rw [e1]
 have u1:Upd H H1 []:=⟨by omega,fun j hj _=>ho1 j hj⟩
 have hst:astore Tryz.prog H1 24 (.p (some (H.next + 1,0,0))) (.agg (s.head a).cells) = some (H1.set (H.next + 1) (.cells (s.head a).cells 0 false 0)):=by
  simp [astore,hp2,V.cells,show splice Cert.zero.cells 0 (s.head a).cells = (s.head a).cells from splice_all rfl]
 apply hK;clear hK K
 refine AW_seq ?_
 refine AW_reg [4] fun K hK=>?_
 simp [init_eq,afieldAddr,aload,hp1]
 refine ACalls.mono (of_ok H1 (ha.heads.upd u1) (by have:=ho.hl; omega) a) fun r H' ⟨hr,e⟩=>?_
 subst hr e
 have hst':astore Tryz.prog H' 24 (.p (some (H.next + 1,0,0))) (.agg (ofC s.heads a).cells) = some (H'.set (H.next + 1) (.cells (s.head a).cells 0 false 0)):=hst
 simp [hst']
 apply hK;clear hK K
 refine AW_ret (end_ret (ares_cell (v:=.agg (s.head a).cells) (by simp [aload,AH.get_set_same (AH.get_lt hp2),take_cells])) ⟨rfl,rfl,by simp; omega,fun j hj=>by rw [AH.get_set_ne (by omega)]; exact ho1 j hj⟩)
/-- Is a parent of the same view and chain? -/
def showsC (p c:Cert):Bool:=decide (p.kind = 2) && !p.endorsed && decide (p.view = c.view) && decide (p.author = c.author)
theorem shows_ok (H:AH) (p c:Cert):ACalls Tryz.prog 48 [.agg p.cells,.agg c.cells] H fun r H'=>r = .b (showsC p c) ∧ H' = H:=by
 refine ACalls.pure (Q:=fun r=>r = .b (showsC p c)) ⟨_,Tryz.func48,rfl,rfl⟩ ?_
 refine ACalls_body Tryz.func48 rfl rfl ?_
 refine AW_seq ?_
 refine AW_reg [2,3] fun K hK=>?_
 simp [init_eq,V.cells]
 obtain ⟨H1,e1,hp1,hp2,hn,ho1⟩:=H.boxed2 p.cells c.cells
 rw [e1]
 apply hK;clear hK K
 refine AW_seq ?_
 refine AW_regto [4] ⟨27,[(4,.b (showsC p c))]⟩ H1 (fun K hk=>?_) (AW_ret (end_ret rfl (pure_end hn ho1 rfl rfl)))
 by_cases h1:p.kind = 2
 · simp [init_eq,afieldAddr,aload,hp1,hp2,h1,take_cells]
   refine ACalls.mono (endorsed_ok H1 p) fun r H' ⟨hr,e⟩=>?_
   subst hr e
   cases h2:p.endorsed
   · by_cases h3:p.view = c.view
     · simpa [init_eq,afieldAddr,aload,hp1,hp2,showsC,h1,h2,h3] using hk
     · simpa [init_eq,afieldAddr,aload,hp1,hp2,showsC,h1,h2,h3] using hk
   · simpa [init_eq,afieldAddr,aload,hp1,hp2,showsC,h1,h2] using hk
 · simpa [init_eq,afieldAddr,aload,hp1,hp2,h1,showsC] using hk
@[simp] theorem Cert.sp6 (x:Cert) (s:BitVec 32):splice x.cells 6 [u32 s] = Cert.cells { x with signers:=s }:=rfl
@[simp] theorem Cert.sp7 (x:Cert) (s:BitVec 32):splice x.cells 7 [u32 s] = Cert.cells { x with coin:=s }:=rfl
@[simp] theorem Cert.sp0 (x y:Cert):splice x.cells 0 y.cells = y.cells:=splice_all rfl
def Cert.plain (c:Cert):Cert:={ c with signers:=0#32,coin:=0#32 }
theorem plain_ok (H:AH) (c:Cert):ACalls Tryz.prog 38 [.agg c.cells] H fun r H'=>r = .agg c.plain.cells ∧ H' = H:=by
 refine ACalls.pure (Q:=fun r=>r = .agg c.plain.cells) ⟨_,Tryz.func38,rfl,rfl⟩ ?_
 refine ACalls_body Tryz.func38 rfl rfl ?_
 refine AW_seq ?_
 refine AW_reg [1,2] fun K hK=>?_
 simp [init_eq,V.cells]
 obtain ⟨H1,e1,hp1,hp2,hn,ho1⟩:=H.boxed2 c.cells Cert.zero.cells
 rw [e1]
 apply hK;clear hK K
 refine AW_seq ?_
 refine AW_reg [1,2] fun K hK=>?_
 simp [init_eq,afieldAddr,astore,hp1,AH.get_set,hn]
 apply hK;clear hK K
 refine AW_seq ?_
 refine AW_reg [2] fun K hK=>?_
 simp [init_eq,aload,astore,hp2,AH.get_set,hn,take_cells,V.cells]
 apply hK;clear hK K
 refine AW_ret (end_ret (ares_cell (v:=.agg c.plain.cells) ?_) ?_)
 · simp [aload,AH.get_set,hn,take_cells,Cert.plain]
 · refine ⟨rfl,by simp,by simp [hn],fun j hj=>?_⟩
   simp [AH.get_set,hn,show j ≠ H.next by omega,show j ≠ H.next + 1 by omega,ho1 j hj]
end Go.Proofs.YtaidfojbnfkclaaGreatDoor
