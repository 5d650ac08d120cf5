/-
  Contracts of the program's functions (TxtC). No conditions of my own.
-/
import Derived.Test.YtmhaimdpfelkpaaGreatDoorTxtB
import Derived.Test.YtmhaimdpfelkpaaGreatDoorAbsC
set_option linter.unusedVariables false
set_option linter.unusedSimpArgs false
namespace Go.Proofs.YtmhaimdpfelkpaaGreatDoor
open Go Go.Abs Go.Proofs
set_option maxRecDepth 100000
attribute [local irreducible] AEnd AW ACalls
theorem app_bytes:App Tryz.prog 108 108 1 1:=App.mk' qelem_108 qsize_5 qbytes_5 qzero_5 qsrc_108 rfl (by decide)
theorem bs_nil (n m:Nat) (c e:Bool):aeq Tryz.prog 108 (.sl none n c) (.sl none m e) = some true:=by simp [aeq,Tryz.underlying108]
theorem bs_some (q:Nat × Nat × Nat) (n m:Nat) (c e:Bool):aeq Tryz.prog 108 (.sl (some q) n c) (.sl none m e) = some false:=by simp [aeq,Tryz.underlying108]
theorem clone_ok (H:AH) {v:V} {l:List UInt8} (hv:Sl H v 1 (bytesV l)) (hl:l.length ≤ 100000000000):ACalls Tryz.prog 148 [v] H fun r H'=>Fresh H H' r l:=by
 refine ACalls_body Tryz.func148 rfl rfl ?_
 refine AW_seq ?_
 refine AW_reg [0] fun K hK=>?_
 simp [init_eq]
 apply hK;clear hK K
 refine AW_seq ?_
 refine AW_seq ?_
 have hv0:=hv
 rcases hv with ⟨c,rfl,hl0⟩ | ⟨id,g,off,len,clip,c,ro,esz,rfl,hg,h3,hl0⟩
 · have:l = []:=by
     have:=congrArg List.length hl0; simp at this; exact this
   subst this
   refine AW_reg [0,4] fun K hK=>?_
   simp [init_eq,bs_nil]
   apply hK;clear hK K
   refine AW_cond' rfl rfl (fun hc=>?_) (fun hc=>?_)
   · refine AW_seq ?_
     refine AW_reg [2] fun K hK=>?_
     simp [init_eq]
     apply hK;clear hK K
     refine AW_ret (end_ret rfl ?_)
     exact ⟨[],Own.nil ..,Upd.refl ..,by simp⟩
   · cases hc
 · refine AW_reg [0,4] fun K hK=>?_
   simp [init_eq,bs_some]
   apply hK;clear hK K
   refine AW_cond' rfl rfl (fun hc=>?_) (fun hc=>?_)
   · cases hc
   · refine AW_skip ?_
     refine AW_seq ?_
     have hx:=sl_asource (P:=Tryz.prog) (hv0.ext (ext_new H (.cells [] 0 false 1)))
     obtain ⟨v',H',F',h1,h2,h3,h4⟩:=(Own.made H 1).appendB (a:=[]) app_bytes hx (by simp; omega)
     refine AW_reg [2] fun K hK=>?_
     have hbs:abuildSlice Tryz.prog H 108 0 [] = some (.sl (some (H.next,0,0)) 0 false,H.new (.cells [] 0 false 1)):=by
      simp [abuildSlice,afill,V.cells]
     simp [init_eq,hbs,h1]
     apply hK;clear hK K
     refine AW_ret (end_ret rfl ?_)
     refine ⟨F',h2,(Upd.new H _ []).trans h3 (by simp),fun j hj=>?_⟩
     rcases h4 j hj with h | h
     · simp at h; omega
     · simp at h; omega
theorem flatNum_len {ns:List Nat} (h:∀ n ∈ ns,n ≤ 4611686018427387904):(ns.flatMap numB).length ≤ 9 * ns.length:=by
 induction ns with
 | nil=>simp
 | cons n ns ih =>
   have h1:=numB_len9 (h n (by simp))
   have h2:=ih fun m hm=>h m (by simp [hm])
   simp only [List.flatMap_cons,List.length_append,List.length_cons]
   omega
theorem rnum_ok (H:AH) (n:Nat) (hn:n ≤ 4611686018427387904):ACalls Tryz.prog 136 [.i .i64 n] H fun r H'=>r = .tup [.s (numB n),.b true] ∧ H' = H:=by
 refine ACalls.pure (Q:=fun r=>r = .tup [.s (numB n),.b true]) ⟨_,Tryz.func136,rfl,rfl⟩ ?_
 refine ACalls_body Tryz.func136 rfl rfl ?_
 refine AW_seq ?_
 refine AW_reg [0] fun K hK=>?_
 simp [init_eq]
 apply hK;clear hK K
 refine AW_seq ?_
 refine AW_seq ?_
 have n1:¬ (n:Int) < 0:=by omega
 have n2:¬ (4611686018427387904:Int) < n:=by omega
 refine AW_reg [0,10] fun K hK=>?_
 simp [init_eq,n1,n2]
 apply hK;clear hK K
 refine AW_cond' rfl rfl (fun hc=>?_) (fun hc=>?_)
 · cases hc
 refine AW_skip ?_
 refine AW_seq ?_
 refine AW_reg [0,4] fun K hK=>?_
 simp [init_eq]
 apply hK;clear hK K
 refine AW_seq ?_
 refine AW_block ?_
 refine AW_loop0 (fun x:List UInt8 × Nat=>⟨29,[(0,.i .i64 x.2),(4,.s x.1)]⟩) (fun x=>numB n = x.1 ++ numB x.2 ∧ x.2 ≤ n) (fun x=>x.2) ([],n) (by simp) (by simp) (by dsimp only; omega) fun hw x hM=>?_
 obtain ⟨p,m⟩:=x
 obtain ⟨e1,e2⟩:=hM
 simp only at e1 e2
 have hpl:p.length ≤ 9:=by
  have:=congrArg List.length e1; rw [List.length_append] at this
  have:=numB_len9 hn; omega
 have one:∀ k,k < 256 → ∃ H1,abuildSlice Tryz.prog H 108 1 [(0,.i .u8 ((k:Nat):Int))] = some (.sl (some (H.next,0,0)) 1 false,H1) ∧ aconvert Tryz.prog H1 108 9 (.sl (some (H.next,0,0)) 1 false) = some (.s [UInt8.ofNat k],H1) ∧ H1.next = H.next + 1 ∧ ∀ j,j < H.next → H1.get j = H.get j:=fun k hk=>by
  refine ⟨H.new (.cells [.i .u8 (k:Int)] 0 false 1),by simp [abuildSlice,afill,V.cells,splice_zero],?_,by simp,fun j hj=>by simp [AH.get_new]; omega⟩
  refine conv_text (l:=[UInt8.ofNat k]) qbs_108 qstr_9 (.inr ⟨H.next,0,0,1,false,_,_,_,rfl,AH.get_new_same ..,by simp,?_⟩)
  simp [bytesV,Nat.mod_eq_of_lt hk]
 refine AW_seq ?_
 refine AW_seq ?_
 refine AW_reg [0,4,12] fun K hK=>?_
 simp [init_eq]
 apply hK;clear hK K
 refine AW_cond' rfl rfl (fun hc=>?_) (fun hc=>?_)
 · have hm:¬ m < 128:=by simp at hc; omega
   obtain ⟨q,hq⟩:∃ q,q = m % 128 + 128:=⟨_,rfl⟩
   obtain ⟨k,hk⟩:∃ k,k = m % 128:=⟨_,rfl⟩
   obtain ⟨m',hm'⟩:∃ m',m' = m / 128:=⟨_,rfl⟩
   obtain ⟨H1,b1,b2,b3,b4⟩:=one q (by omega)
   refine AW_skip ?_
   refine AW_block ?_
   refine AW_seq ?_
   have hrem:aint .rem .i64 (m:Int) 128 = some (.i .i64 (k:Int)):=by
    simp only [aint]
    rw [if_neg (by decide),Int.tmod_eq_emod_of_nonneg (by omega),hk]; rfl
   have hadd:IntKind.i64.wrap ((k:Int) + 128) = (q:Int):=by rw [wrap_id (by omega) (by omega)]; omega
   have hquo:aint .quo .i64 (m:Int) 128 = some (.i .i64 (m':Int)):=by
    simp only [aint]
    rw [if_neg (by decide),Int.tdiv_eq_ediv_of_nonneg (by omega),wrap_id (by omega) (by omega),hm']
    rfl
   have cv:∀ G,aconvert Tryz.prog G 2 5 (.i .i64 (q:Int)) = some (.i .u8 (q:Int),G):=fun G=>by
    rw [conv_int qthere_2 qint_5,wrap_u8,Nat.mod_eq_of_lt (by omega)]
   have hap:astr .add p [UInt8.ofNat q] = some (.s (p ++ [UInt8.ofNat q])):=by
    unfold astr; rw [if_pos (by simp; omega)]
   refine AW_reg [0,4] fun K hK=>?_
   simp [init_eq,hrem,hadd,cv,b1,b2,hap]
   apply hK;clear hK K
   refine AW_reg [0,4] fun K hK=>?_
   simp [init_eq,hquo]
   apply hK;clear hK K
   subst hq hm'
   refine bend (rend ⟨(p ++ [UInt8.ofNat (m % 128 + 128)],m / 128),by simp,⟨?_,by (show m / 128 ≤ n); omega⟩,by (show m / 128 < m); omega,.inr ⟨by omega,b4,by simp⟩⟩)
   rw [e1,numB_ge hm]; simp
 · have hm:m < 128:=by simp at hc; omega
   obtain ⟨H1,b1,b2,b3,b4⟩:=one m (by omega)
   have cv:∀ G,aconvert Tryz.prog G 2 5 (.i .i64 (m:Int)) = some (.i .u8 (m:Int),G):=fun G=>by
    rw [conv_int qthere_2 qint_5,wrap_u8,Nat.mod_eq_of_lt (by omega)]
   have hap:astr .add p [UInt8.ofNat m] = some (.s (p ++ [UInt8.ofNat m])):=by
    unfold astr; rw [if_pos (by simp; omega)]
   refine AW_exit (then_exit (then_exit (block_here ?_)))
   refine AW_seq ?_
   refine AW_reg [2,3] fun K hK=>?_
   simp [init_eq,cv,b1,b2,hap]
   apply hK;clear hK K
   refine AW_ret (end_ret rfl (pure_end b3 b4 ?_ rfl))
   rw [e1,numB_lt hm]
   rfl
theorem rN_ok (H:AH) (n:Nat) (hn:n ≤ 4611686018427387904):ACalls Tryz.prog 105 [.i .i64 n] H fun r H'=>r = .s (numB n) ∧ H' = H:=by
 refine ACalls_body Tryz.func105 rfl rfl ?_
 refine AW_seq ?_
 refine AW_reg [0] fun K hK=>?_
 simp [init_eq]
 apply hK;clear hK K
 refine AW_seq ?_
 refine AW_reg [3,4] fun K hK=>?_
 simp [init_eq]
 refine ACalls.mono (rnum_ok _ _ hn) fun r H' ⟨hr,e⟩=>?_
 subst hr e
 try simp
 apply hK;clear hK K
 refine AW_seq ?_
 refine AW_reg [2] fun K hK=>?_
 simp [init_eq]
 apply hK;clear hK K
 refine AW_ret (end_ret rfl ?_)
 exact ⟨rfl,rfl⟩
theorem rT_ok (H:AH) (s:List UInt8) (hs:s.length ≤ 1000000000):ACalls Tryz.prog 137 [.s s] H fun r H'=>r = .s (textB s) ∧ H' = H:=by
 refine ACalls_body Tryz.func137 rfl rfl ?_
 refine AW_seq ?_
 refine AW_reg [0] fun K hK=>?_
 simp [init_eq]
 apply hK;clear hK K
 refine AW_seq ?_
 refine AW_reg [2] fun K hK=>?_
 simp [init_eq,alen]
 refine ACalls.mono (rN_ok _ _ (by omega)) fun r H' ⟨hr,e⟩=>?_
 subst hr e
 have h9:=numB_len9 (n:=s.length) (by omega)
 have hap:astr .add (numB s.length) s = some (.s (textB s)):=by
  unfold astr; rw [if_pos (by omega)]; rfl
 simp [hap]
 apply hK;clear hK K
 refine AW_ret (end_ret rfl ?_)
 exact ⟨rfl,rfl⟩
end Go.Proofs.YtmhaimdpfelkpaaGreatDoor
set_option linter.unusedVariables false
set_option linter.unusedSimpArgs false
namespace Go.Proofs.YtmhaimdpfelkpaaGreatDoor
open Go Go.Abs Go.Proofs
set_option maxRecDepth 100000
attribute [local irreducible] AEnd AW ACalls
/-- The numbers of a certificate. -/
def Cert.nums (c:Cert):List Nat :=
 [c.kind.toNat] ++ (if c.kind = 0 then [] else [c.block.toNat,c.view.toNat,c.round.toNat,c.signers.toNat]) ++ (if c.kind = 2 then [c.height.toNat,c.author.toNat,c.coin.toNat] else [])
/-- Its bytes. -/
def Cert.bytes (c:Cert):List UInt8:=c.nums.flatMap numB
/-- What its numbers are. -/
structure Cert.Rng (c:Cert):Prop where
 kind:c.kind = 0 ∨ c.kind = 1 ∨ c.kind = 2
 block:0 ≤ c.block ∧ c.block ≤ 2147483647
 view:0 ≤ c.view ∧ c.view ≤ 1048576
 round:0 ≤ c.round ∧ c.round ≤ 1073741824
 height:0 ≤ c.height ∧ c.height ≤ 3
 author:0 ≤ c.author ∧ c.author ≤ 9
theorem Cert.rng {c:Cert} (h:c.ok = true):c.Rng:=by
 unfold Cert.ok at h
 split at h
 · rename_i hk
   have:c = Cert.zero:=of_decide_eq_true h
   rw [this]
   exact ⟨.inl rfl,by decide,by decide,by decide,by decide,by decide⟩
 · split at h
   · rename_i hk
     simp [Cert.reg,Cert.base,inR] at h
     exact ⟨.inr (.inl hk),by omega,by omega,by omega,by omega,by omega⟩
   · split at h
     · rename_i hk
       simp [Cert.fall,Cert.base,inR] at h
       exact ⟨.inr (.inr hk),by omega,by omega,by omega,by omega,by omega⟩
     · cases h
theorem Cert.nums_le {c:Cert} (h:c.Rng):∀ n ∈ c.nums,n ≤ 4611686018427387904:=by
 have h1:=h.block; have h2:=h.view; have h3:=h.round; have h4:=h.height; have h5:=h.author
 have h6:=c.signers.isLt; have h7:=c.coin.isLt
 intro n hn
 unfold Cert.nums at hn
 rcases h.kind with hk | hk | hk <;> simp [hk] at hn <;> omega
theorem Cert.nums_len (c:Cert):c.nums.length ≤ 8:=by
 unfold Cert.nums
 split <;> split <;> simp
theorem Cert.bytes_len {c:Cert} (h:c.Rng):c.bytes.length ≤ 72:=by
 have:=flatNum_len (ns:=c.nums) (Cert.nums_le h)
 have:=c.nums_len
 unfold Cert.bytes
 omega
end Go.Proofs.YtmhaimdpfelkpaaGreatDoor
set_option linter.unusedVariables false
set_option linter.unusedSimpArgs false
namespace Go.Proofs.YtmhaimdpfelkpaaGreatDoor
open Go Go.Abs Go.Proofs
set_option maxRecDepth 100000
attribute [local irreducible] AEnd AW ACalls
theorem nat_of {x:Int} (h:0 ≤ x):V.i .i64 x = V.i .i64 ((x.toNat:Nat):Int):=by rw [Int.toNat_of_nonneg h]
theorem rN_int (H:AH) {x:Int} (h0:0 ≤ x) (h1:x ≤ 4611686018427387904):ACalls Tryz.prog 105 [.i .i64 x] H fun r H'=>r = .s (numB x.toNat) ∧ H' = H:=by
 rw [nat_of h0]; exact rN_ok H _ (by omega)
theorem rcertBytes_ok (H:AH) (c:Cert) (hR:c.Rng):ACalls Tryz.prog 106 [.agg c.cells] H fun r H'=>r = .s c.bytes ∧ H' = H:=by
 have i1:=hR.block; have i2:=hR.view; have i3:=hR.round; have i4:=hR.height; have i5:=hR.author
 have i6:=c.signers.isLt; have i7:=c.coin.isLt
 have k0:0 ≤ c.kind ∧ c.kind ≤ 2:=by rcases hR.kind with h | h | h <;> omega
 have lb:∀ x:Int,0 ≤ x → x ≤ 4611686018427387904 → (numB x.toNat).length ≤ 9:=fun x h1 h2=>numB_len9 (by omega)
 have cat:∀ a b:List UInt8,a.length ≤ 1000 → b.length ≤ 9 → astr .add a b = some (.s (a ++ b)):=fun a b h1 h2=>by
  unfold astr; rw [if_pos (by omega)]
 refine ACalls.pure (Q:=fun r=>r = .s c.bytes) ⟨_,Tryz.func106,rfl,rfl⟩ ?_
 refine ACalls_body Tryz.func106 rfl rfl ?_
 refine AW_seq ?_
 refine AW_reg [1] fun K hK=>?_
 simp [init_eq,V.cells]
 obtain ⟨H1,e1,hp,hn,ho⟩:=H.boxed c.cells
 rw [e1]
 apply hK;clear hK K
 have cv1:∀ G,aconvert Tryz.prog G 22 3 (u32 c.signers) = some (.i .i64 c.signers.toNat,G):=fun G=>by
  unfold u32
  rw [conv_int qthere_22 qint_3,wrap_id (by omega) (by omega)]
 have cv2:∀ G,aconvert Tryz.prog G 22 3 (u32 c.coin) = some (.i .i64 c.coin.toNat,G):=fun G=>by
  unfold u32
  rw [conv_int qthere_22 qint_3,wrap_id (by omega) (by omega)]
 refine AW_seq ?_
 refine AW_reg [1,3] fun K hK=>?_
 simp [init_eq,afieldAddr,aload,hp]
 refine ACalls.mono (rN_int _ k0.1 (by omega)) fun r H' ⟨hr,e⟩=>?_
 subst hr e
 try simp
 apply hK;clear hK K
 have l0:=lb c.kind k0.1 (by omega)
 have l1:=lb c.block i1.1 (by omega)
 have l2:=lb c.view i2.1 (by omega)
 have l3:=lb c.round i3.1 (by omega)
 have l4:=numB_len9 (n:=c.signers.toNat) (by omega)
 have l5:=lb c.height i4.1 (by omega)
 have l6:=lb c.author i5.1 (by omega)
 have l7:=numB_len9 (n:=c.coin.toNat) (by omega)
 generalize hs1:numB c.kind.toNat ++ (if c.kind = 0 then [] else numB c.block.toNat ++ numB c.view.toNat ++ numB c.round.toNat ++ numB c.signers.toNat) = s1
 have ls1:s1.length ≤ 45:=by
  rw [← hs1]; split <;> simp <;> omega
 refine AW_cut (fun ρ G=>ρ = ⟨46,[(1,.p (some (H.next,0,0))),(3,.s s1)]⟩ ∧ G = H') ?_ ?_
 · refine AW_seq ?_
   refine AW_reg [1,3,9] fun K hK=>?_
   simp [init_eq,afieldAddr,aload,hp]
   apply hK;clear hK K
   refine AW_cond' rfl rfl (fun hc=>?_) (fun hc=>?_)
   · have hk:¬ c.kind = 0:=by simpa using hc
     rw [if_neg hk] at hs1
     refine AW_regdto [1,3] pl_106_3 pe_106_3 ⟨46,[(1,.p (some (H.next,0,0))),(3,.s s1)]⟩ H' (by kernel_rfl) (by kernel_rfl) (by decide) (fun K hk=>?_) (rend ⟨_,by simp,rfl,rfl⟩)
     simp [init_eq,pl_106_3,afieldAddr,aload,hp,cv1]
     refine ACalls.mono (rN_int _ i1.1 (by omega)) fun r H' ⟨hr,e⟩=>?_
     subst hr e
     simp [afieldAddr,aload,hp,cat _ _ (show (numB c.kind.toNat).length ≤ 1000 by omega) l1]
     refine ACalls.mono (rN_int _ i2.1 (by omega)) fun r H' ⟨hr,e⟩=>?_
     subst hr e
     simp [afieldAddr,aload,hp,cat _ _ (show (numB c.kind.toNat ++ numB c.block.toNat).length ≤ 1000 by simp; omega) l2]
     refine ACalls.mono (rN_int _ i3.1 (by omega)) fun r H' ⟨hr,e⟩=>?_
     subst hr e
     simp [afieldAddr,aload,hp,cv1,cat _ _ (show (numB c.kind.toNat ++ (numB c.block.toNat ++ numB c.view.toNat)).length ≤ 1000 by simp; omega) l3]
     refine ACalls.mono (rN_ok _ _ (by omega)) fun r H' ⟨hr,e⟩=>?_
     subst hr e
     simp [cat _ _ (show (numB c.kind.toNat ++ (numB c.block.toNat ++ (numB c.view.toNat ++ numB c.round.toNat))).length ≤ 1000 by simp; omega) l4]
     simpa [← hs1] using hk
   · have hk:c.kind = 0:=by simpa using hc
     rw [if_pos hk,List.append_nil] at hs1
     refine AW_skip (rend ⟨_,?_,rfl,rfl⟩)
     simp [hs1]
 intro ρ G hM
 obtain ⟨e1,e2⟩:=hM
 rw [e1,e2]; clear e1 e2 ρ G
 refine AW_cut (fun ρ G=>ρ = ⟨46,[(3,.s c.bytes)]⟩ ∧ G = H') ?_ ?_
 · refine AW_seq ?_
   refine AW_reg [1,3,30] fun K hK=>?_
   simp [init_eq,afieldAddr,aload,hp]
   apply hK;clear hK K
   refine AW_cond' rfl rfl (fun hc=>?_) (fun hc=>?_)
   · have hk:c.kind = 2:=by simpa using hc
     have hb:c.bytes = s1 ++ (numB c.height.toNat ++ (numB c.author.toNat ++ numB c.coin.toNat)):=by
      rw [← hs1]; simp [Cert.bytes,Cert.nums,hk]
     refine AW_regdto [3] pl_106_5 pe_106_5 ⟨46,[(3,.s c.bytes)]⟩ H' (by kernel_rfl) (by kernel_rfl) (by decide) (fun K hk=>?_) (rend ⟨_,by simp,rfl,rfl⟩)
     simp [init_eq,pl_106_5,afieldAddr,aload,hp,cv2]
     refine ACalls.mono (rN_int _ i4.1 (by omega)) fun r H' ⟨hr,e⟩=>?_
     subst hr e
     simp [afieldAddr,aload,hp,cat _ _ (show s1.length ≤ 1000 by omega) l5]
     refine ACalls.mono (rN_int _ i5.1 (by omega)) fun r H' ⟨hr,e⟩=>?_
     subst hr e
     simp [afieldAddr,aload,hp,cv2,cat _ _ (show (s1 ++ numB c.height.toNat).length ≤ 1000 by simp; omega) l6]
     refine ACalls.mono (rN_ok _ _ (by omega)) fun r H' ⟨hr,e⟩=>?_
     subst hr e
     simp [cat _ _ (show (s1 ++ (numB c.height.toNat ++ numB c.author.toNat)).length ≤ 1000 by simp; omega) l7]
     simpa [hb] using hk
   · have hk:¬ c.kind = 2:=by simpa using hc
     have hb:c.bytes = s1:=by
      rw [← hs1]
      rcases hR.kind with h | h | h
      · simp [Cert.bytes,Cert.nums,h]
      · simp [Cert.bytes,Cert.nums,h]
      · exact absurd h hk
     refine AW_skip (rend ⟨_,?_,rfl,rfl⟩)
     simp [hb]
 intro ρ G hM
 obtain ⟨e1,e2⟩:=hM
 rw [e1,e2]; clear e1 e2 ρ G
 refine AW_seq ?_
 refine AW_reg [2] fun K hK=>?_
 simp [init_eq]
 apply hK;clear hK K
 refine AW_ret (end_ret rfl (pure_end hn ho rfl rfl))
/-- A transaction's bytes. -/
def Tx.bytes (t:Tx):List UInt8 :=
 numB t.kind.toNat ++ (numB t.nonce.toNat ++ (textB t.src ++ (if t.kind = 1 then textB t.dst ++ numB t.amount.toNat else textB t.key ++ textB t.val)))
/-- What is in one that is right. -/
structure Tx.Rng (t:Tx):Prop where
 kind:t.kind = 1 ∨ t.kind = 2
 nonce:0 ≤ t.nonce ∧ t.nonce ≤ 4611686018427387904
 amount:0 ≤ t.amount ∧ t.amount ≤ 4611686018427387904
 src:t.src.length ≤ 128
 dst:t.dst.length ≤ 128
 key:t.key.length ≤ 128
 val:t.val.length ≤ 128
theorem Tx.rng {t:Tx} (h:t.ok = true):t.Rng:=by
 unfold Tx.ok at h
 split at h
 · rename_i hk
   simp only [Tx.moveOk,Tx.base,Bool.and_eq_true,decide_eq_true_eq] at h
   obtain ⟨⟨⟨⟨⟨h1,h2⟩,h3⟩,h4⟩,h5⟩,h6⟩:=h
   have h2:1 ≤ t.nonce ∧ t.nonce ≤ 4611686018427387904:=of_decide_eq_true h2
   have h4:1 ≤ t.amount ∧ t.amount ≤ 4611686018427387904:=of_decide_eq_true h4
   exact ⟨.inl hk,by omega,by omega,nameOk_len h1,nameOk_len h3,by simp [h5],by simp [h6]⟩
 · split at h
   · rename_i hk
     simp only [Tx.putOk,Tx.base,Bool.and_eq_true,decide_eq_true_eq] at h
     obtain ⟨⟨⟨⟨⟨h1,h2⟩,h3⟩,h4⟩,h5⟩,h6⟩:=h
     have h2:1 ≤ t.nonce ∧ t.nonce ≤ 4611686018427387904:=of_decide_eq_true h2
     exact ⟨.inr hk,by omega,by omega,nameOk_len h1,by simp [h5],nameOk_len h3,valOk_len h4⟩
   · cases h
theorem textB_len {s:List UInt8} (h:s.length ≤ 1000000):(textB s).length ≤ s.length + 9:=by
 have:=numB_len9 (n:=s.length) (by omega)
 simp [textB]; omega
theorem Tx.bytes_len {t:Tx} (h:t.Rng):t.bytes.length ≤ 500:=by
 have h1:=h.src; have h2:=h.dst; have h3:=h.key; have h4:=h.val
 have l1:=textB_len (s:=t.src) (by omega); have l2:=textB_len (s:=t.dst) (by omega); have l3:=textB_len (s:=t.key) (by omega); have l4:=textB_len (s:=t.val) (by omega)
 have l5:=numB_len9 (n:=t.kind.toNat) (by rcases h.kind with h | h <;> omega)
 have l6:=numB_len9 (n:=t.nonce.toNat) (by have:=h.nonce; omega)
 have l7:=numB_len9 (n:=t.amount.toNat) (by have:=h.amount; omega)
 unfold Tx.bytes
 split <;> simp <;> omega
theorem cat_ok {a b:List UInt8} (h:a.length + b.length ≤ 1000000000):astr .add a b = some (.s (a ++ b)):=by
 unfold astr; rw [if_pos (by omega)]
theorem rtxBytes_ok (H:AH) (t:Tx) (hok:t.ok = true):ACalls Tryz.prog 107 [.agg t.cells] H fun r H'=>r = .s t.bytes ∧ H' = H:=by
 have hR:=Tx.rng hok
 have i1:=hR.nonce; have i2:=hR.amount; have i3:=hR.src; have i4:=hR.dst; have i5:=hR.key; have i6:=hR.val
 have k0:0 ≤ t.kind ∧ t.kind ≤ 2:=by rcases hR.kind with h | h <;> omega
 have ln1:=numB_len9 (n:=t.kind.toNat) (by omega)
 have ln2:=numB_len9 (n:=t.nonce.toNat) (by omega)
 have ln3:=numB_len9 (n:=t.amount.toNat) (by omega)
 have ts1:=textB_len (s:=t.src) (by omega)
 have ts2:=textB_len (s:=t.dst) (by omega)
 have ts3:=textB_len (s:=t.key) (by omega)
 have ts4:=textB_len (s:=t.val) (by omega)
 refine ACalls.pure (Q:=fun r=>r = .s t.bytes) ⟨_,Tryz.func107,rfl,rfl⟩ ?_
 refine ACalls_body Tryz.func107 rfl rfl ?_
 refine AW_seq ?_
 refine AW_reg [1] fun K hK=>?_
 simp [init_eq,V.cells]
 obtain ⟨H1,e1,hp,hn,ho⟩:=H.boxed t.cells
 rw [e1]
 apply hK;clear hK K
 refine AW_seq ?_
 refine AW_reg [1,3] fun K hK=>?_
 simp [init_eq,afieldAddr,aload,hp]
 rw [nat_of i1.1]
 refine ACalls.mono (rnum_ok _ _ (by omega)) fun r H' ⟨hr,e⟩=>?_
 subst hr e
 try simp
 apply hK;clear hK K
 refine AW_seq ?_
 refine AW_regdto [1,5] pl_107_2 pe_107_2 ⟨48,[(1,.p (some (H.next,0,0))),(5,.s (numB t.kind.toNat ++ (numB t.nonce.toNat ++ textB t.src)))]⟩ H' (by kernel_rfl) (by kernel_rfl) (by decide) (fun K hk=>?_) ?_
 · simp [init_eq,pl_107_2,afieldAddr,aload,hp]
   refine ACalls.mono (rN_int _ k0.1 (by omega)) fun r H' ⟨hr,e⟩=>?_
   subst hr e
   simp [cat_ok (a:=numB t.kind.toNat) (b:=numB t.nonce.toNat) (by omega)]
   refine ACalls.mono (rT_ok _ _ (by omega)) fun r H' ⟨hr,e⟩=>?_
   subst hr e
   simpa [cat_ok (a:=numB t.kind.toNat ++ numB t.nonce.toNat) (b:=textB t.src) (by simp; omega)] using hk
 refine AW_seq ?_
 refine AW_seq ?_
 refine AW_reg [1,5,25] fun K hK=>?_
 simp [init_eq,afieldAddr,aload,hp]
 apply hK;clear hK K
 refine AW_cond' rfl rfl (fun hc=>?_) (fun hc=>?_)
 · have hk:t.kind = 1:=by simpa using hc
   refine AW_seq ?_
   refine AW_reg [1,5,6] fun K hK=>?_
   simp [init_eq,afieldAddr,aload,hp]
   rw [nat_of i2.1]
   refine ACalls.mono (rnum_ok _ _ (by omega)) fun r H' ⟨hr,e⟩=>?_
   subst hr e
   try simp
   apply hK;clear hK K
   refine AW_seq ?_
   refine AW_reg [2] fun K hK=>?_
   simp [init_eq,afieldAddr,aload,hp]
   refine ACalls.mono (rT_ok _ _ (by omega)) fun r H' ⟨hr,e⟩=>?_
   subst hr e
   simp [cat_ok (a:=numB t.kind.toNat ++ (numB t.nonce.toNat ++ textB t.src)) (b:=textB t.dst) (by simp; omega),cat_ok (a:=numB t.kind.toNat ++ (numB t.nonce.toNat ++ (textB t.src ++ textB t.dst))) (b:=numB t.amount.toNat) (by simp; omega)]
   apply hK;clear hK K
   refine AW_ret (end_ret rfl (pure_end hn ho ?_ rfl))
   simp [Tx.bytes,hk]
 · have hk:¬ t.kind = 1:=by simpa using hc
   refine AW_skip ?_
   refine AW_seq ?_
   refine AW_regdto [2] pl_107_6 pe_107_6 ⟨48,[(2,.s t.bytes)]⟩ H' (by kernel_rfl) (by kernel_rfl) (by decide) (fun K hk2=>?_) (AW_ret (end_ret rfl (pure_end hn ho rfl rfl)))
   simp [init_eq,pl_107_6,afieldAddr,aload,hp]
   refine ACalls.mono (rT_ok _ _ (by omega)) fun r H' ⟨hr,e⟩=>?_
   subst hr e
   simp [cat_ok (a:=numB t.kind.toNat ++ (numB t.nonce.toNat ++ textB t.src)) (b:=textB t.key) (by simp; omega)]
   refine ACalls.mono (rT_ok _ _ (by omega)) fun r H' ⟨hr,e⟩=>?_
   subst hr e
   simpa [cat_ok (a:=numB t.kind.toNat ++ (numB t.nonce.toNat ++ (textB t.src ++ textB t.key))) (b:=textB t.val) (by simp; omega),Tx.bytes,hk] using hk2
end Go.Proofs.YtmhaimdpfelkpaaGreatDoor
set_option linter.unusedVariables false
set_option linter.unusedSimpArgs false
namespace Go.Proofs.YtmhaimdpfelkpaaGreatDoor
open Go Go.Abs Go.Proofs
set_option maxRecDepth 100000
attribute [local irreducible] AEnd AW ACalls
def Tmo.bytes (t:Tmo):List UInt8:=numB t.signer.toNat ++ t.high.bytes
/-- A block's bytes. -/
def Blk.bytes (b:Blk):List UInt8 :=
 numB b.view.toNat ++ (numB b.round.toNat ++ (numB b.height.toNat ++ (numB b.author.toNat ++ (b.parent.bytes ++ (numB b.proof.length ++ (b.proof.flatMap Tmo.bytes ++ (numB b.txs.length ++ b.txs.flatMap Tx.bytes)))))))
/-- What is in one that may be. -/
structure Blk.Rng (b:Blk):Prop where
 view:0 ≤ b.view ∧ b.view ≤ 1048576
 round:0 ≤ b.round ∧ b.round ≤ 1073741824
 height:0 ≤ b.height ∧ b.height ≤ 3
 author:0 ≤ b.author ∧ b.author ≤ 9
 parent:b.parent.ok = true
 proof:b.proof.length ≤ 10
 tmos:∀ t ∈ b.proof,(0 ≤ t.signer ∧ t.signer ≤ 9) ∧ t.high.ok = true
 txs:b.txs.length ≤ 8
 each:∀ t ∈ b.txs,t.ok = true
theorem Blk.rng {b:Blk} (h:b.err = 0):b.Rng:=by
 unfold Blk.err at h
 split at h
 case isFalse=>cases h
 rename_i h1
 split at h
 case isFalse=>cases h
 rename_i h2
 split at h
 case isFalse=>cases h
 rename_i h3
 simp only [Bool.and_eq_true,decide_eq_true_eq,Blk.head,inR] at h1
 obtain ⟨⟨g1,g2⟩,⟨g3,g4⟩,g5⟩:=h1
 have hp:b.parent.ok = true:=by
  unfold Blk.parentOk at h2
  split at h2
  · simp [openS] at h2; exact h2.2.1
  · simp at h2; exact h2.2.1.1.1.1.1
 have hr:=Cert.rng hp
 have hrd:b.round = b.parent.round + 1:=by
  have:b.round = IntKind.i64.wrap (b.parent.round + 1):=by
   unfold Blk.parentOk at h2
   simp only [Bool.and_eq_true,decide_eq_true_eq] at h2
   exact h2.1.1
  rw [this,wrap_id (by have:=hr.round; omega) (by have:=hr.round; omega)]
 have hrd2:b.round ≤ 1073741824:=by
  unfold Blk.parentOk at h2
  simp only [Bool.and_eq_true,decide_eq_true_eq] at h2
  exact h2.1.2
 refine ⟨by omega,⟨by have:=hr.round; omega,hrd2⟩,by omega,by omega,hp,?_,?_,g2,fun t ht=>List.all_eq_true.1 g1 t ht⟩
 · by_cases hh:b.height = 1
   · rw [proofR_eq hh] at h3
     simp only [Bool.and_eq_true,decide_eq_true_eq] at h3
     exact h3.1.2
   · have:b.proof.length = 0:=by simpa [Blk.proofOk,hh] using h3
     omega
 · by_cases hh:b.height = 1
   · rw [proofR_eq hh] at h3
     simp only [Bool.and_eq_true,decide_eq_true_eq] at h3
     intro t ht
     obtain ⟨i,hi,rfl⟩:=List.getElem_of_mem ht
     have h4:=List.all_eq_true.1 h3.2 i (by simpa using hi)
     rw [pAt_eq hi] at h4
     simp only [Bool.and_eq_true] at h4
     have h5:=h4.1.1
     unfold Tmo.ok openS at h5
     simp only [Bool.and_eq_true] at h5
     have h6:0 ≤ b.proof[i].signer ∧ b.proof[i].signer ≤ 9:=of_decide_eq_true h5.1.1
     exact ⟨h6,h5.2.1⟩
   · have:b.proof = []:=by
       have h4:b.proof.length = 0:=by simpa [Blk.proofOk,hh] using h3
       exact List.length_eq_zero_iff.1 h4
     rw [this]; simp
theorem flat_len {α:Type} {f:α → List UInt8} {k:Nat}:∀ (xs:List α),(∀ x ∈ xs,(f x).length ≤ k) → (xs.flatMap f).length ≤ k * xs.length
 | [],_=>by simp
 | x :: xs,h=>by
   have h1:=h x (by simp)
   have h2:=flat_len xs fun y hy=>h y (by simp [hy])
   simp only [List.flatMap_cons,List.length_append,List.length_cons,Nat.mul_succ]
   omega
theorem Tmo.bytes_len {t:Tmo} (h:0 ≤ t.signer ∧ t.signer ≤ 9) (h2:t.high.ok = true):t.bytes.length ≤ 81:=by
 have h1:=numB_len9 (n:=t.signer.toNat) (by omega)
 have h3:=Cert.bytes_len (Cert.rng h2)
 simp [Tmo.bytes]; omega
/-- The bytes that are being built, in a cell of their own. -/
structure Out (H1 G:AH) (box:Nat) (v:V) (F:List Nat) (l:List UInt8):Prop where
 get:G.get box = some (.cells [v] 0 false 0)
 own:Own G v 1 (bytesV l) F
 nin:box ∉ F
 lo:H1.next ≤ box
 loF:∀ j ∈ F,H1.next ≤ j
 upd:Upd H1 G []
theorem flat_succ {α:Type} {f:α → List UInt8} {xs:List α} {i:Nat} (hi:i < xs.length):(xs.take (i + 1)).flatMap f = (xs.take i).flatMap f ++ f xs[i]:=by
 rw [List.take_succ_eq_append_getElem hi,List.flatMap_append]; simp
end Go.Proofs.YtmhaimdpfelkpaaGreatDoor
set_option linter.unusedVariables false
set_option linter.unusedSimpArgs false
namespace Go.Proofs.YtmhaimdpfelkpaaGreatDoor
open Go Go.Abs Go.Proofs
set_option maxRecDepth 100000
attribute [local irreducible] AEnd AW ACalls
set_option maxHeartbeats 4000000 in
theorem rbytes_ok (H:AH) {b:Blk} {pv tv:V} (hb:BlkAt H b pv tv) (he:b.err = 0):ACalls Tryz.prog 45 [.agg (b.cells pv tv)] H fun r H'=>r = .s b.bytes ∧ H' = H:=by
 have hR:=Blk.rng he
 have i1:=hR.view; have i2:=hR.round; have i3:=hR.height; have i4:=hR.author; have i5:=hR.proof; have i6:=hR.txs
 have ln1:=numB_len9 (n:=b.view.toNat) (by omega)
 have ln2:=numB_len9 (n:=b.round.toNat) (by omega)
 have ln3:=numB_len9 (n:=b.height.toNat) (by omega)
 have ln4:=numB_len9 (n:=b.author.toNat) (by omega)
 have ln5:=numB_len9 (n:=b.proof.length) (by omega)
 have ln6:=numB_len9 (n:=b.txs.length) (by omega)
 have lc:=Cert.bytes_len (Cert.rng hR.parent)
 have lpf:∀ i,((b.proof.take i).flatMap Tmo.bytes).length ≤ 81 * b.proof.length:=fun i=>by
  have:=flat_len (f:=Tmo.bytes) (k:=81) (b.proof.take i) fun t ht=>by
   have:=hR.tmos t (List.mem_of_mem_take ht); exact Tmo.bytes_len this.1 this.2
  have h2:(b.proof.take i).length ≤ b.proof.length:=by rw [List.length_take]; exact Nat.min_le_right ..
  omega
 have ltf:∀ i,((b.txs.take i).flatMap Tx.bytes).length ≤ 500 * b.txs.length:=fun i=>by
  have:=flat_len (f:=Tx.bytes) (k:=500) (b.txs.take i) fun t ht=>Tx.bytes_len (Tx.rng (hR.each t (List.mem_of_mem_take ht)))
  have h2:(b.txs.take i).length ≤ b.txs.length:=by rw [List.length_take]; exact Nat.min_le_right ..
  omega
 refine ACalls.pure (Q:=fun r=>r = .s b.bytes) ⟨_,Tryz.func45,rfl,rfl⟩ ?_
 refine ACalls_body Tryz.func45 rfl rfl ?_
 refine AW_seq ?_
 refine AW_reg [1] fun K hK=>?_
 simp [init_eq,V.cells]
 obtain ⟨H1,e1,hp,hn,ho⟩:=H.boxed (b.cells pv tv)
 rw [e1]
 apply hK;clear hK K
 have hb1:=hb.same ho
 have lp:=hb1.pf.alen (P:=Tryz.prog) qelem_30 H1
 have lt:=hb1.tx.alen (P:=Tryz.prog) qelem_31 H1
 have a0:aload Tryz.prog H1 3 (.p (some (H.next,0,0))) = some (.i .i64 b.view):=by simp [aload,hp]
 have a1:aload Tryz.prog H1 3 (.p (some (H.next,0,1))) = some (.i .i64 b.round):=by simp [aload,hp]
 have a2:aload Tryz.prog H1 3 (.p (some (H.next,0,2))) = some (.i .i64 b.height):=by simp [aload,hp]
 have a3:aload Tryz.prog H1 3 (.p (some (H.next,0,3))) = some (.i .i64 b.author):=by simp [aload,hp]
 have a4:aload Tryz.prog H1 29 (.p (some (H.next,0,4))) = some (.agg b.parent.cells):=by simp [aload,hp,Blk.parent_cells]
 have a5:aload Tryz.prog H1 30 (.p (some (H.next,0,12))) = some pv:=by simp [aload,hp]
 have a6:aload Tryz.prog H1 31 (.p (some (H.next,0,13))) = some tv:=by simp [aload,hp]
 have f:∀ n o,qfield Tryz.prog 33 n = some (o,1,false) → ∀ x,afieldAddr Tryz.prog 33 n (.p (some (x,0,0))) = some (.p (some (x,0,o))):=fun n o h x=>by simp [afieldAddr,h]
 generalize hB1:numB b.view.toNat ++ (numB b.round.toNat ++ (numB b.height.toNat ++ (numB b.author.toNat ++ (b.parent.bytes ++ numB b.proof.length)))) = B1
 have lB1:B1.length ≤ 200:=by rw [← hB1]; simp only [List.length_append]; omega
 refine AW_seq ?_
 refine AW_regdto [1,3] pl_45_1 pe_45_1 ⟨76,[(1,.p (some (H.next,0,0))),(3,.s B1)]⟩ H1 (by kernel_rfl) (by kernel_rfl) (by decide) (fun K hk=>?_) ?_
 · simp [init_eq,pl_45_1,afieldAddr,a0,a1,a2,a3,a4,a5,lp]
   refine ACalls.mono (rN_int _ i1.1 (by omega)) fun r H' ⟨hr,e⟩=>?_
   subst hr e
   try simp
   refine ACalls.mono (rN_int _ i2.1 (by omega)) fun r H' ⟨hr,e⟩=>?_
   subst hr e
   simp [cat_ok (a:=numB b.view.toNat) (b:=numB b.round.toNat) (by omega)]
   refine ACalls.mono (rN_int _ i3.1 (by omega)) fun r H' ⟨hr,e⟩=>?_
   subst hr e
   simp [cat_ok (a:=numB b.view.toNat ++ numB b.round.toNat) (b:=numB b.height.toNat) (by simp only [List.length_append]; omega)]
   refine ACalls.mono (rN_int _ i4.1 (by omega)) fun r H' ⟨hr,e⟩=>?_
   subst hr e
   simp [cat_ok (a:=numB b.view.toNat ++ (numB b.round.toNat ++ numB b.height.toNat)) (b:=numB b.author.toNat) (by simp only [List.length_append]; omega)]
   refine ACalls.mono (rcertBytes_ok _ _ (Cert.rng hR.parent)) fun r H' ⟨hr,e⟩=>?_
   subst hr e
   simp [cat_ok (a:=numB b.view.toNat ++ (numB b.round.toNat ++ (numB b.height.toNat ++ numB b.author.toNat))) (b:=b.parent.bytes) (by simp only [List.length_append]; omega)]
   refine ACalls.mono (rN_ok _ _ (by omega)) fun r H' ⟨hr,e⟩=>?_
   subst hr e
   simpa [cat_ok (a:=numB b.view.toNat ++ (numB b.round.toNat ++ (numB b.height.toNat ++ (numB b.author.toNat ++ b.parent.bytes)))) (b:=numB b.proof.length) (by simp only [List.length_append]; omega),hB1] using hk
 refine AW_seq ?_
 refine AW_seq ?_
 refine AW_reg [1,3,4] fun K hK=>?_
 simp [init_eq]
 apply hK;clear hK K
 refine AW_block ?_
 refine AW_loop0 (fun i:Nat=>⟨76,[(1,.p (some (H.next,0,0))),(3,.s (B1 ++ (b.proof.take i).flatMap Tmo.bytes)),(4,.i .i64 i)]⟩) (fun i=>i ≤ b.proof.length) (fun i=>b.proof.length - i) 0 (by simp) (by simp) (by dsimp only; omega) fun hw i hM=>?_
 have lpi:=lpf i
 refine AW_seq ?_
 refine AW_seq ?_
 refine AW_reg [1,3,4,34] fun K hK=>?_
 simp [init_eq,afieldAddr,a5,lp]
 apply hK;clear hK K
 refine AW_cond' rfl rfl (fun hc=>?_) (fun hc=>?_)
 · have hi:i < b.proof.length:=by simpa using hc
   have hT:=hR.tmos _ (List.getElem_mem hi)
   have lc2:=Cert.bytes_len (Cert.rng hT.2)
   have lnS:=numB_len9 (n:=b.proof[i].signer.toNat) (by omega)
   obtain ⟨ax,px,qx⟩:=hb1.pf.rec Tmo.len (by decide) (P:=Tryz.prog) qelem_30 qsize_69 qagg_69 hi
   obtain ⟨az,az',pz,qz,rz⟩:=hb1.pf.fld Tmo.len (by decide) (P:=Tryz.prog) qelem_30 qsize_69 hi qfield_69_0 qagg_3 qsize_3 (Tmo.c0 _)
   obtain ⟨ac,pc,hrec⟩:=hb1.pf.at (P:=Tryz.prog) (by decide) qelem_30 qsize_69 (k:=.i64) i (l:=b.proof[i].cells) (by simp [hi])
   obtain ⟨ad,qd,hrd⟩:=hrec.sub qfield_69_2 (by decide) (by simp)
   have ld:aload Tryz.prog H1 29 ad = some (.agg b.proof[i].high.cells):=by
    rw [Tmo.high_cells] at hrd
    exact hrd.load qagg_29 (by simp)
   obtain rfl:az = ax:=Option.some.inj (pz.symm.trans px)
   obtain rfl:ac = az:=Option.some.inj (pc.symm.trans px)
   clear pz pc
   refine AW_skip ?_
   refine AW_seq ?_
   refine AW_block ?_
   refine AW_regdto [1,3,4] pl_45_5 pe_45_5 ⟨76,[(1,.p (some (H.next,0,0))),(3,.s (B1 ++ (b.proof.take (i + 1)).flatMap Tmo.bytes)),(4,.i .i64 i)]⟩ H1 (by kernel_rfl) (by kernel_rfl) (by decide) (fun K hk=>?_) ?_
   · simp [init_eq,pl_45_5,f 5 12 qfield_33_5,a5,px,qz,rz,qd,ld]
     refine ACalls.mono (rN_int _ hT.1.1 (by omega)) fun r H' ⟨hr,e⟩=>?_
     subst hr e
     simp [cat_ok (a:=B1 ++ (b.proof.take i).flatMap Tmo.bytes) (b:=numB b.proof[i].signer.toNat) (by simp only [List.length_append]; omega)]
     refine ACalls.mono (rcertBytes_ok _ _ (Cert.rng hT.2)) fun r H' ⟨hr,e⟩=>?_
     subst hr e
     rw [flat_succ hi] at hk
     simpa [cat_ok (a:=B1 ++ ((b.proof.take i).flatMap Tmo.bytes ++ numB b.proof[i].signer.toNat)) (b:=b.proof[i].high.bytes) (by simp only [List.length_append]; omega),Tmo.bytes] using hk
   refine bend ?_
   refine AW_reg [1,3,4] fun K hK=>?_
   simp [init_eq,wrap_id (x:=(i:Int) + 1) (by omega) (by omega)]
   apply hK;clear hK K
   exact rend ⟨i + 1,by simp,by omega,by omega,.inl rfl⟩
 have hi:i = b.proof.length:=by
  have:¬ i < b.proof.length:=by simpa using hc
  omega
 subst hi
 rw [List.take_length]
 rw [List.take_length] at lpi
 generalize hB2:B1 ++ b.proof.flatMap Tmo.bytes ++ numB b.txs.length = B2
 have lB2:B2.length ≤ 2000:=by rw [← hB2]; simp only [List.length_append]; omega
 refine AW_exit (then_exit (then_exit (block_here ?_)))
 refine AW_seq ?_
 refine AW_regto [1,3] ⟨76,[(1,.p (some (H.next,0,0))),(3,.s B2)]⟩ H1 (fun K hk=>?_) ?_
 · simp [init_eq,afieldAddr,a6,lt]
   refine ACalls.mono (rN_ok _ _ (by omega)) fun r H' ⟨hr,e⟩=>?_
   subst hr e
   simpa [cat_ok (a:=B1 ++ b.proof.flatMap Tmo.bytes) (b:=numB b.txs.length) (by simp only [List.length_append]; omega),← hB2] using hk
 refine AW_seq ?_
 refine AW_seq ?_
 refine AW_reg [1,3,5] fun K hK=>?_
 simp [init_eq]
 apply hK;clear hK K
 refine AW_block ?_
 refine AW_loop0 (fun i:Nat=>⟨76,[(1,.p (some (H.next,0,0))),(3,.s (B2 ++ (b.txs.take i).flatMap Tx.bytes)),(5,.i .i64 i)]⟩) (fun i=>i ≤ b.txs.length) (fun i=>b.txs.length - i) 0 (by simp) (by simp) (by dsimp only; omega) fun hw i hM=>?_
 have lti:=ltf i
 refine AW_seq ?_
 refine AW_seq ?_
 refine AW_reg [1,3,5,64] fun K hK=>?_
 simp [init_eq,afieldAddr,a6,lt]
 apply hK;clear hK K
 refine AW_cond' rfl rfl (fun hc=>?_) (fun hc=>?_)
 · have hi:i < b.txs.length:=by simpa using hc
   have hT:=hR.each _ (List.getElem_mem hi)
   have lT:=Tx.bytes_len (Tx.rng hT)
   obtain ⟨ax,px,qx⟩:=hb1.tx.rec Tx.len (by decide) (P:=Tryz.prog) qelem_31 qsize_91 qagg_91 hi
   refine AW_skip ?_
   refine AW_seq ?_
   refine AW_block ?_
   refine AW_regto [1,3,5] ⟨76,[(1,.p (some (H.next,0,0))),(3,.s (B2 ++ (b.txs.take (i + 1)).flatMap Tx.bytes)),(5,.i .i64 i)]⟩ H1 (fun K hk=>?_) ?_
   · simp [init_eq,f 6 13 qfield_33_6,a6,px,qx]
     refine ACalls.mono (rtxBytes_ok _ _ hT) fun r H' ⟨hr,e⟩=>?_
     subst hr e
     rw [flat_succ hi] at hk
     simpa [cat_ok (a:=B2 ++ (b.txs.take i).flatMap Tx.bytes) (b:=b.txs[i].bytes) (by simp only [List.length_append]; omega)] using hk
   refine bend ?_
   refine AW_reg [1,3,5] fun K hK=>?_
   simp [init_eq,wrap_id (x:=(i:Int) + 1) (by omega) (by omega)]
   apply hK;clear hK K
   exact rend ⟨i + 1,by simp,by omega,by omega,.inl rfl⟩
 have hi:i = b.txs.length:=by
  have:¬ i < b.txs.length:=by simpa using hc
  omega
 subst hi
 rw [List.take_length]
 refine AW_exit (then_exit (then_exit (block_here ?_)))
 refine AW_seq ?_
 refine AW_reg [2] fun K hK=>?_
 simp [init_eq]
 apply hK;clear hK K
 refine AW_ret (end_ret rfl (pure_end hn ho ?_ rfl))
 rw [← hB2,← hB1]
 simp [Blk.bytes]
end Go.Proofs.YtmhaimdpfelkpaaGreatDoor
set_option linter.unusedVariables false
set_option linter.unusedSimpArgs false
namespace Go.Proofs.YtmhaimdpfelkpaaGreatDoor
open Go Go.Abs Go.Proofs
set_option maxRecDepth 100000
/-- The next number of a certificate, not above. -/
def tnext (m:Nat) (s:St):Nat × St:=((rnum s).1,if m < (rnum s).1 then rfail 110 (rnum s).2 else (rnum s).2)
def takeC1 (s:St):(Nat × Nat × Nat × Nat) × St :=
 let a:=tnext 2147483647 s
 let b:=tnext 1048576 a.2
 let c:=tnext 1073741824 b.2
 let d:=tnext 1023 c.2
 ((a.1,b.1,c.1,d.1),d.2)
def takeC2 (s:St):(Nat × Nat × Nat) × St :=
 let a:=tnext 3 s
 let b:=tnext 9 a.2
 let c:=tnext 1023 b.2
 ((a.1,b.1,c.1),c.2)
def rawCert (s:St):Cert × St :=
 let k:=tnext 2 s
 let x:=if k.1 = 0 then ((0,0,0,0),k.2) else takeC1 k.2
 let y:=if k.1 = 2 then takeC2 x.2 else ((0,0,0),x.2)
 (⟨k.1,x.1.1,x.1.2.1,x.1.2.2.1,y.1.1,y.1.2.1,BitVec.ofNat 32 x.1.2.2.2,BitVec.ofNat 32 y.1.2.2⟩,y.2)
def takeCert (s:St):Cert × St :=
 let x:=rawCert s
 let t:=if x.1.ok then x.2 else rfail 110 x.2
 (if t.2 = 0 then x.1 else Cert.zero,t)
theorem tnext_inv {m:Nat} {s:St} (h:(tnext m s).2.2 = 0):s.2 = 0 ∧ s.1 = numB (tnext m s).1 ++ (tnext m s).2.1 ∧ (tnext m s).1 ≤ m:=by
 unfold tnext at h ⊢
 by_cases hm:m < (rnum s).1
 · simp only [if_pos hm] at h
   exact absurd h (rfail_ne (by decide))
 · simp only [if_neg hm] at h ⊢
   have:=rnum_inv h
   exact ⟨this.1,this.2.1,by omega⟩
theorem takeCert_inv {s:St} (h:(takeCert s).2.2 = 0):s.2 = 0 ∧ (takeCert s).1.ok = true ∧ s.1 = (takeCert s).1.bytes ++ (takeCert s).2.1:=by
 unfold takeCert at h ⊢
 by_cases hok:(rawCert s).1.ok = true
 case neg =>
   simp only [hok] at h
   exact absurd h (rfail_ne (by decide))
 simp only [hok,if_true] at h ⊢
 rw [if_pos h]
 refine ⟨?_,hok,?_⟩
 all_goals
   revert h hok
   unfold rawCert
   simp only
   intro hok h
   by_cases k0:(tnext 2 s).1 = 0
   · have k2:¬ (tnext 2 s).1 = 2:=by omega
     simp only [if_pos k0,if_neg k2] at h ⊢
     have:=tnext_inv h
     first
     | exact this.1
     | (rw [this.2.1]; simp [Cert.bytes,Cert.nums,k0])
   · by_cases k2:(tnext 2 s).1 = 2
     · simp only [if_neg k0,if_pos k2,takeC1,takeC2] at h ⊢
       have a1:=tnext_inv h
       have a2:=tnext_inv a1.1
       have a3:=tnext_inv a2.1
       have a4:=tnext_inv a3.1
       have a5:=tnext_inv a4.1
       have a6:=tnext_inv a5.1
       have a7:=tnext_inv a6.1
       have a8:=tnext_inv a7.1
       first
       | exact a8.1
       | (rw [a8.2.1, a7.2.1, a6.2.1, a5.2.1, a4.2.1, a3.2.1, a2.2.1, a1.2.1]
          have b5:=a4.2.2
          have b1:=a1.2.2
          simp only [Cert.bytes,Cert.nums,k2]
          simp [Nat.mod_eq_of_lt (show _ < 4294967296 from Nat.lt_of_le_of_lt b5 (by decide)),Nat.mod_eq_of_lt (show _ < 4294967296 from Nat.lt_of_le_of_lt b1 (by decide))])
     · simp only [if_neg k0,if_neg k2,takeC1] at h ⊢
       have a4:=tnext_inv h
       have a5:=tnext_inv a4.1
       have a6:=tnext_inv a5.1
       have a7:=tnext_inv a6.1
       have a8:=tnext_inv a7.1
       have k1:(tnext 2 s).1 = 1:=by have:=a8.2.2; omega
       first
       | exact a8.1
       | (rw [a8.2.1, a7.2.1, a6.2.1, a5.2.1, a4.2.1]
          have b5:=a4.2.2
          simp only [Cert.bytes,Cert.nums,k1]
          simp [Nat.mod_eq_of_lt (show _ < 4294967296 from Nat.lt_of_le_of_lt b5 (by decide))])
def rawTx (k:Nat) (s:St):Tx × St :=
 let n:=rnum s
 let f:=rtext n.2
 if k = 1 then
  let a:=rtext f.2
  let b:=rnum a.2
  (⟨k,f.1,a.1,[],[],b.1,n.1⟩,b.2)
 else
  let a:=rtext f.2
  let b:=rtext a.2
  (⟨k,f.1,[],a.1,b.1,0,n.1⟩,b.2)
def takeTx (s:St):Tx × St :=
 if (rnum s).1 = 1 ∨ (rnum s).1 = 2 then
  let y:=rawTx (rnum s).1 (rnum s).2
  let t:=if y.1.ok then y.2 else rfail 80 y.2
  (if t.2 = 0 then y.1 else Tx.zero,t)
 else (Tx.zero,rfail 80 (rnum s).2)
theorem takeTx_inv {s:St} (h:(takeTx s).2.2 = 0):s.2 = 0 ∧ (takeTx s).1.ok = true ∧ s.1 = (takeTx s).1.bytes ++ (takeTx s).2.1:=by
 unfold takeTx at h ⊢
 by_cases hk:(rnum s).1 = 1 ∨ (rnum s).1 = 2
 case neg =>
   simp only [if_neg hk] at h
   exact absurd h (rfail_ne (by decide))
 simp only [if_pos hk] at h ⊢
 by_cases hok:(rawTx (rnum s).1 (rnum s).2).1.ok = true
 case neg =>
   simp only [hok] at h
   exact absurd h (rfail_ne (by decide))
 simp only [hok,if_true] at h ⊢
 rw [if_pos h]
 refine ⟨?_,hok,?_⟩
 all_goals
   clear hok
   revert h
   unfold rawTx
   simp only
   intro h
   by_cases k1:(rnum s).1 = 1
   · simp only [if_pos k1] at h ⊢
     have a1:=rnum_inv h
     have a2:=rtext_inv a1.1
     have a3:=rtext_inv a2.1
     have a4:=rnum_inv a3.1
     have a5:=rnum_inv a4.1
     first
     | exact a5.1
     | (rw [a5.2.1, a4.2.1, a3.2.1, a2.2.1, a1.2.1]
        simp [Tx.bytes,k1])
   · simp only [if_neg k1] at h ⊢
     have a1:=rtext_inv h
     have a2:=rtext_inv a1.1
     have a3:=rtext_inv a2.1
     have a4:=rnum_inv a3.1
     have a5:=rnum_inv a4.1
     have k2:(rnum s).1 = 2:=by omega
     first
     | exact a5.1
     | (rw [a5.2.1, a4.2.1, a3.2.1, a2.2.1, a1.2.1]
        simp [Tx.bytes,k2])
def takeTmo (v:Int) (s:St):Tmo × St :=
 (⟨(rsmall s).1,v,(takeCert (rsmall s).2).1⟩,(takeCert (rsmall s).2).2)
def Blk.zero:Blk:=⟨0,0,0,0,Cert.zero,[],[]⟩
/-- What a block's four numbers are read as. -/
def rawBlk (s:St):Blk × St :=
 let a:=rsmall s
 let b:=rsmall a.2
 let c:=rsmall b.2
 let d:=rsmall c.2
 let e:=takeCert d.2
 let n:=rmost 10 e.2
 let p:=takeL (takeTmo a.1) n.1 n.2
 let m:=rmost 8 p.2
 let t:=takeL takeTx m.1 m.2
 (⟨a.1,b.1,c.1,d.1,e.1,p.1,t.1⟩,t.2)
def takeBlk (s:St):Blk × St :=
 if (rawBlk s).2.2 = 0 then (if (rawBlk s).1.err = 0 then rawBlk s else (Blk.zero,rfail (rawBlk s).1.err (rawBlk s).2)) else (Blk.zero,(rawBlk s).2)
theorem Blk.tmo_view {b:Blk} (h:b.err = 0):∀ t ∈ b.proof,t.view = b.view:=by
 unfold Blk.err at h
 split at h
 case isFalse=>cases h
 split at h
 case isFalse=>cases h
 split at h
 case isFalse=>cases h
 rename_i h3
 by_cases hh:b.height = 1
 · rw [proofR_eq hh] at h3
   simp only [Bool.and_eq_true,decide_eq_true_eq] at h3
   intro t ht
   obtain ⟨i,hi,rfl⟩:=List.getElem_of_mem ht
   have h4:=List.all_eq_true.1 h3.2 i (by simpa using hi)
   rw [pAt_eq hi] at h4
   simp only [Bool.and_eq_true,decide_eq_true_eq] at h4
   exact h4.1.2
 · have:b.proof = []:=by
     have h4:b.proof.length = 0:=by simpa [Blk.proofOk,hh] using h3
     exact List.length_eq_zero_iff.1 h4
   rw [this]; simp
theorem takeBlk_inv {s:St} (h:(takeBlk s).2.2 = 0):s.2 = 0 ∧ (takeBlk s).1.err = 0 ∧ s.1 = (takeBlk s).1.bytes ++ (takeBlk s).2.1:=by
 unfold takeBlk at h ⊢
 by_cases h0:(rawBlk s).2.2 = 0
 case neg=>simp only [if_neg h0] at h; exact absurd h h0
 simp only [if_pos h0] at h ⊢
 by_cases he:(rawBlk s).1.err = 0
 case neg=>simp only [if_neg he] at h; exact absurd h (rfail_ne he)
 simp only [if_pos he] at h ⊢
 have hR:=Blk.rng he
 have hv:=Blk.tmo_view he
 refine ⟨?_,he,?_⟩
 all_goals
   have i1:=hR.view; have i2:=hR.round; have i3:=hR.height; have i4:=hR.author; have hT:=hR.tmos
   clear he hv hR h
   revert h0 i1 i2 i3 i4 hT
   unfold rawBlk
   simp only
   intro h i1 i2 i3 i4 hT
   have a1:=takeL_inv (f:=takeTx) (by':=Tx.bytes) (p:=fun _=>True) (fun s _ h=>⟨(takeTx_inv h).1,(takeTx_inv h).2.2⟩) _ _ (fun _ _=>trivial) h
   have a2:=rmost_inv a1.1
   have a3:=takeL_inv (f:=takeTmo (rsmall s).1) (by':=Tmo.bytes) (p:=fun t=>0 ≤ t.signer ∧ t.signer ≤ 9) (fun s hp h=>by
    have h1:=takeCert_inv (s:=(rsmall s).2) h
    have h2:=rsmall_inv (s:=s) h1.1 (by have:=hp.2; simp only [takeTmo] at this; omega)
    refine ⟨h2.1,?_⟩
    simp only [takeTmo,Tmo.bytes,Int.toNat_natCast,List.append_assoc]
    rw [← h1.2.2]
    exact h2.2) _ _ (fun t ht=>(hT t ht).1) a2.1
   have a4:=rmost_inv a3.1
   have a5:=takeCert_inv a4.1
   have a6:=rsmall_inv a5.1 (by omega)
   have a7:=rsmall_inv a6.1 (by omega)
   have a8:=rsmall_inv a7.1 (by omega)
   have a9:=rsmall_inv a8.1 (by omega)
   first
   | exact a9.1
   | (unfold Blk.bytes
      simp only [Int.toNat_natCast,takeL_len,List.append_assoc]
      rw [← a1.2,← a2.2.1,← a3.2,← a4.2.1,← a5.2.2,← a6.2,← a7.2,← a8.2]
      exact a9.2)
/-- What is parsed of all bytes, and the error. -/
def parseBlk (l:List UInt8):Blk × Int :=
 if rdone (takeBlk (l,0)).2 = 0 then ((takeBlk (l,0)).1,0) else (Blk.zero,rdone (takeBlk (l,0)).2)
theorem rdone_zero {s:St} (h:rdone s = 0):s.2 = 0 ∧ s.1 = []:=by
 unfold rdone at h
 split at h
 · cases h
 · rename_i h1
   refine ⟨h,?_⟩
   apply Classical.byContradiction
   intro h2
   exact h1 ⟨h,h2⟩
/-- What is parsed is written so. -/
theorem parseBlk_inv {l:List UInt8} (h:(parseBlk l).2 = 0):(parseBlk l).1.err = 0 ∧ (parseBlk l).1.bytes = l:=by
 unfold parseBlk at h ⊢
 by_cases h0:rdone (takeBlk (l,0)).2 = 0
 · rw [if_pos h0]
   have h1:=rdone_zero h0
   have h2:=takeBlk_inv h1.1
   refine ⟨h2.2.1,?_⟩
   have:=h2.2.2
   rw [h1.2,List.append_nil] at this
   exact this.symm
 · rw [if_neg h0] at h
   exact absurd h h0
theorem parseBlk_bad {l:List UInt8} (h:(parseBlk l).2 ≠ 0):(parseBlk l).1 = Blk.zero:=by
 unfold parseBlk at h ⊢
 by_cases h0:rdone (takeBlk (l,0)).2 = 0
 · rw [if_pos h0] at h; exact absurd rfl h
 · rw [if_neg h0]
end Go.Proofs.YtmhaimdpfelkpaaGreatDoor
set_option linter.unusedVariables false
set_option linter.unusedSimpArgs false
namespace Go.Proofs.YtmhaimdpfelkpaaGreatDoor
open Go Go.Abs Go.Proofs
set_option maxRecDepth 100000
/-- The next number of a certificate, not above, as the document reads it. -/
def rnext (m:Nat) (s:St):Nat × St:=if m < (rnum s).1 then (0,rfail 110 (rnum s).2) else rnum s
theorem rnext_st (m:Nat) (s:St):(rnext m s).2 = (tnext m s).2:=by unfold rnext tnext; split <;> rfl
theorem rnext_eq {m:Nat} {s:St} (h:(tnext m s).2.2 = 0):rnext m s = tnext m s:=by
 have:=(tnext_inv h).2.2
 have e:(tnext m s).1 = (rnum s).1:=rfl
 unfold rnext
 rw [if_neg (by omega)]
 unfold tnext
 rw [if_neg (by omega)]
theorem rnext_bad {m:Nat} {s:St} (h:(tnext m s).2.2 ≠ 0):(rnext m s).1 = 0:=by
 unfold rnext
 split
 · rfl
 · rename_i h1
   unfold tnext at h
   rw [if_neg h1] at h
   simp only at h
   by_cases h0:s.2 = 0
   · unfold rnum at h ⊢
     rw [if_pos h0] at h ⊢
     split at h
     · rename_i x e; rfl
     · exact absurd rfl h
   · rw [rnum_err h0]
theorem tnext_err {m:Nat} {s:St} (h:s.2 ≠ 0):tnext m s = (0,s):=by
 unfold tnext; rw [rnum_err h]; simp
def rC1 (s:St):(Nat × Nat × Nat × Nat) × St :=
 let a:=rnext 2147483647 s
 let b:=rnext 1048576 a.2
 let c:=rnext 1073741824 b.2
 let d:=rnext 1023 c.2
 ((a.1,b.1,c.1,d.1),d.2)
def rC2 (s:St):(Nat × Nat × Nat) × St :=
 let a:=rnext 3 s
 let b:=rnext 9 a.2
 let c:=rnext 1023 b.2
 ((a.1,b.1,c.1),c.2)
theorem rC1_st (s:St):(rC1 s).2 = (takeC1 s).2:=by simp only [rC1,takeC1,rnext_st]
theorem rC2_st (s:St):(rC2 s).2 = (takeC2 s).2:=by simp only [rC2,takeC2,rnext_st]
theorem rC1_eq {s:St} (h:(takeC1 s).2.2 = 0):rC1 s = takeC1 s ∧ s.2 = 0:=by
 simp only [takeC1] at h
 have h3:=(tnext_inv h).1
 have h2:=(tnext_inv h3).1
 have h1:=(tnext_inv h2).1
 refine ⟨?_,(tnext_inv h1).1⟩
 simp only [rC1,takeC1,rnext_eq h1,rnext_eq h2,rnext_eq h3,rnext_eq h]
theorem rC2_eq {s:St} (h:(takeC2 s).2.2 = 0):rC2 s = takeC2 s ∧ s.2 = 0:=by
 simp only [takeC2] at h
 have h2:=(tnext_inv h).1
 have h1:=(tnext_inv h2).1
 refine ⟨?_,(tnext_inv h1).1⟩
 simp only [rC2,takeC2,rnext_eq h1,rnext_eq h2,rnext_eq h]
theorem takeC1_err {s:St} (h:s.2 ≠ 0):(takeC1 s).2 = s:=by simp only [takeC1,tnext_err h]
theorem takeC2_err {s:St} (h:s.2 ≠ 0):(takeC2 s).2 = s:=by simp only [takeC2,tnext_err h]
/-- The three parts of a certificate. -/
def mkC (k:Nat) (x:Nat × Nat × Nat × Nat) (y:Nat × Nat × Nat):Cert:=⟨k,x.1,x.2.1,x.2.2.1,y.1,y.2.1,BitVec.ofNat 32 x.2.2.2,BitVec.ofNat 32 y.2.2⟩
def rraw1 (s:St):(Nat × Nat × Nat × Nat) × St:=if 0 < (rnext 2 s).1 then rC1 (rnext 2 s).2 else ((0,0,0,0),(rnext 2 s).2)
def rraw2 (s:St):(Nat × Nat × Nat) × St:=if (rnext 2 s).1 = 2 then rC2 (rraw1 s).2 else ((0,0,0),(rraw1 s).2)
def rtakeCert (s:St):Cert × St :=
 if (rraw2 s).2.2 ≠ 0 then (Cert.zero,(rraw2 s).2)
 else if (mkC (rnext 2 s).1 (rraw1 s).1 (rraw2 s).1).ok then (mkC (rnext 2 s).1 (rraw1 s).1 (rraw2 s).1,(rraw2 s).2) else (Cert.zero,rfail 110 (rraw2 s).2)
theorem rawCert_eq (s:St):rawCert s = (mkC (tnext 2 s).1 (if (tnext 2 s).1 = 0 then ((0,0,0,0),(tnext 2 s).2) else takeC1 (tnext 2 s).2).1
  (if (tnext 2 s).1 = 2 then takeC2 (if (tnext 2 s).1 = 0 then ((0,0,0,0),(tnext 2 s).2) else takeC1 (tnext 2 s).2).2 else ((0,0,0),(if (tnext 2 s).1 = 0 then ((0,0,0,0),(tnext 2 s).2) else takeC1 (tnext 2 s).2).2)).1,
  (if (tnext 2 s).1 = 2 then takeC2 (if (tnext 2 s).1 = 0 then ((0,0,0,0),(tnext 2 s).2) else takeC1 (tnext 2 s).2).2 else ((0,0,0),(if (tnext 2 s).1 = 0 then ((0,0,0,0),(tnext 2 s).2) else takeC1 (tnext 2 s).2).2)).2):=rfl
theorem rtakeCert_eq (s:St):rtakeCert s = takeCert s:=by
 have hT:takeCert s = (if (if (rawCert s).1.ok then (rawCert s).2 else rfail 110 (rawCert s).2).2 = 0 then (rawCert s).1 else Cert.zero,if (rawCert s).1.ok then (rawCert s).2 else rfail 110 (rawCert s).2):=rfl
 by_cases hk:(tnext 2 s).2.2 = 0
 · have e0:=rnext_eq hk
   generalize hkk:tnext 2 s = k at *
   have s1:(rraw1 s).2 = (if k.1 = 0 then ((0,0,0,0),k.2) else takeC1 k.2).2:=by
    unfold rraw1; rw [e0]
    by_cases h:k.1 = 0
    · rw [if_pos h,if_neg (by omega)]
    · rw [if_neg h,if_pos (by omega),rC1_st]
   have s2:(rraw2 s).2 = (rawCert s).2:=by
    rw [rawCert_eq,hkk]; simp only
    unfold rraw2; rw [e0,s1]
    by_cases h:k.1 = 2
    · rw [if_pos h,if_pos h,rC2_st]
    · rw [if_neg h,if_neg h]
   by_cases hE:(rawCert s).2.2 = 0
   ·
     have e1:rraw1 s = (if k.1 = 0 then ((0,0,0,0),k.2) else takeC1 k.2) ∧ rraw2 s = (if k.1 = 2 then takeC2 (if k.1 = 0 then ((0,0,0,0),k.2) else takeC1 k.2).2 else ((0,0,0),(if k.1 = 0 then ((0,0,0,0),k.2) else takeC1 k.2).2)):=by
      rw [rawCert_eq,hkk] at hE; simp only at hE
      have h1:rraw1 s = (if k.1 = 0 then ((0,0,0,0),k.2) else takeC1 k.2):=by
       unfold rraw1; rw [e0]
       by_cases h:k.1 = 0
       · rw [if_pos h,if_neg (by omega)]
       · rw [if_neg h,if_pos (by omega)]
         rw [if_neg h] at hE
         have:(takeC1 k.2).2.2 = 0:=by
          by_cases h2:k.1 = 2
          · rw [if_pos h2] at hE; exact (rC2_eq hE).2
          · rw [if_neg h2] at hE; exact hE
         exact (rC1_eq this).1
      refine ⟨h1,?_⟩
      unfold rraw2; rw [e0,h1]
      by_cases h2:k.1 = 2
      · rw [if_pos h2,if_pos h2]
        rw [if_pos h2] at hE; exact (rC2_eq hE).1
      · rw [if_neg h2,if_neg h2]
     have e2:mkC (rnext 2 s).1 (rraw1 s).1 (rraw2 s).1 = (rawCert s).1:=by rw [rawCert_eq,hkk,e0,e1.1,e1.2]
     rw [hT]
     unfold rtakeCert
     rw [s2,e2,if_neg (by simp [hE])]
     by_cases ho:(rawCert s).1.ok = true
     · rw [if_pos ho,if_pos ho,if_pos hE]
     · rw [if_neg ho,if_neg ho,if_neg (rfail_ne (by decide))]
   · rw [hT]
     have:(if (rawCert s).1.ok = true then (rawCert s).2 else rfail 110 (rawCert s).2) = (rawCert s).2:=by
      split
      · rfl
      · exact rfail_err hE
     rw [this,if_neg hE]
     unfold rtakeCert
     rw [s2,if_pos hE]
 · have e0:=rnext_bad hk
   have es:=rnext_st 2 s
   have s1:rraw1 s = ((0,0,0,0),(tnext 2 s).2):=by unfold rraw1; rw [e0,es]; rfl
   have s2:rraw2 s = ((0,0,0),(tnext 2 s).2):=by unfold rraw2; rw [e0,s1]; rfl
   have s3:(rawCert s).2 = (tnext 2 s).2:=by
    rw [rawCert_eq]; simp only
    have h1:(if (tnext 2 s).1 = 0 then ((0,0,0,0),(tnext 2 s).2) else takeC1 (tnext 2 s).2).2 = (tnext 2 s).2:=by
     split
     · rfl
     · exact takeC1_err hk
    rw [h1]
    split
    · exact takeC2_err hk
    · rfl
   rw [hT]
   have:(if (rawCert s).1.ok = true then (rawCert s).2 else rfail 110 (rawCert s).2) = (tnext 2 s).2:=by
    rw [s3]
    split
    · rfl
    · exact rfail_err hk
   rw [this,if_neg hk]
   unfold rtakeCert
   rw [s2,if_pos hk]
/-! Blocks. -/
def rtakeTmo (v:Int) (s:St):Tmo × St :=
 (⟨(rnum s).1,v,(takeCert (rnum s).2).1⟩,(takeCert (rnum s).2).2)
def rrawBlk (s:St):Blk × St :=
 let a:=rnum s
 let b:=rnum a.2
 let c:=rnum b.2
 let d:=rnum c.2
 let e:=takeCert d.2
 let n:=rmost 10 e.2
 let p:=takeL (rtakeTmo a.1) n.1 n.2
 let m:=rmost 8 p.2
 let t:=takeL takeTx m.1 m.2
 (⟨a.1,b.1,c.1,d.1,e.1,p.1,t.1⟩,t.2)
def rtakeBlk (s:St):Blk × St :=
 if (rrawBlk s).2.2 = 0 then (if (rrawBlk s).1.err = 0 then rrawBlk s else (Blk.zero,rfail (rrawBlk s).1.err (rrawBlk s).2)) else (Blk.zero,(rrawBlk s).2)
def rparseBlk (l:List UInt8):Blk × Int :=
 if rdone (rtakeBlk (l,0)).2 = 0 then ((rtakeBlk (l,0)).1,0) else (Blk.zero,rdone (rtakeBlk (l,0)).2)
theorem takeL_st {α β:Type} {f:St → α × St} {g:St → β × St} (h:∀ s,(f s).2 = (g s).2):∀ (n:Nat) (s:St),(takeL f n s).2 = (takeL g n s).2
 | 0,s=>rfl
 | n + 1,s=>by simp only [takeL]; rw [h s,takeL_st h n]
theorem takeL_map {α β:Type} {f:St → α × St} {g:St → β × St} {u:α → β} (h:∀ s,((g s).1 = u (f s).1) ∧ (g s).2 = (f s).2):∀ (n:Nat) (s:St),(takeL g n s).1 = (takeL f n s).1.map u
 | 0,s=>rfl
 | n + 1,s=>by simp only [takeL,List.map_cons]; rw [(h s).1,(h s).2,takeL_map h n]
/-- The program's block: its numbers are cut. -/
def Blk.cut (b:Blk):Blk:=⟨min b.view 1099511627776,min b.round 1099511627776,min b.height 1099511627776,min b.author 1099511627776,b.parent,b.proof.map fun t=>⟨min t.signer 1099511627776,min t.view 1099511627776,t.high⟩,b.txs⟩
theorem rawBlk_cut (s:St):rawBlk s = ((rrawBlk s).1.cut,(rrawBlk s).2):=by
 have e:∀ s,rsmall s = (min (rnum s).1 1099511627776,(rnum s).2):=fun _=>rfl
 have c:∀ n:Nat,((min n 1099511627776:Nat):Int) = min (n:Int) 1099511627776:=fun n=>by omega
 have hst:∀ v w s,(takeTmo v s).2 = (rtakeTmo w s).2:=fun v w s=>rfl
 have hm:∀ (v:Nat) s,((takeTmo ((min v 1099511627776:Nat):Int) s).1 = (fun t:Tmo=>(⟨min t.signer 1099511627776,min t.view 1099511627776,t.high⟩:Tmo)) (rtakeTmo v s).1) ∧ (takeTmo ((min v 1099511627776:Nat):Int) s).2 = (rtakeTmo v s).2:=fun v s=>by
  refine ⟨?_,rfl⟩
  simp only [takeTmo,rtakeTmo,e,c]
 simp only [rawBlk,rrawBlk,Blk.cut,e]
 rw [takeL_st (hst _ ((rnum s).1:Int)),takeL_map (f:=rtakeTmo ((rnum s).1:Int)) (u:=fun t:Tmo=>(⟨min t.signer 1099511627776,min t.view 1099511627776,t.high⟩:Tmo)) (hm (rnum s).1)]
 simp only [c]
theorem cut_same {b:Blk} (h1:b.view ≤ 1099511627776) (h2:b.round ≤ 1099511627776) (h3:b.height ≤ 1099511627776) (h4:b.author ≤ 1099511627776) (h5:∀ t ∈ b.proof,t.signer ≤ 1099511627776 ∧ t.view ≤ 1099511627776):b.cut = b:=by
 have h6:∀ t ∈ b.proof,(⟨min t.signer 1099511627776,min t.view 1099511627776,t.high⟩:Tmo) = t:=fun t ht=>by
  have:=h5 t ht
  rw [show min t.signer 1099511627776 = t.signer by omega,show min t.view 1099511627776 = t.view by omega]
 unfold Blk.cut
 have e1:b.proof.map (fun t:Tmo=>(⟨min t.signer 1099511627776,min t.view 1099511627776,t.high⟩:Tmo)) = b.proof:=by
  rw [List.map_congr_left h6]; simp
 rw [e1,show min b.view 1099511627776 = b.view by omega,show min b.round 1099511627776 = b.round by omega,show min b.height 1099511627776 = b.height by omega,show min b.author 1099511627776 = b.author by omega]
theorem cut_ok {b:Blk} (h:b.err = 0):b.cut = b:=by
 have hR:=b.rng h
 have h1:=hR.view; have h2:=hR.round; have h3:=hR.height; have h4:=hR.author
 refine cut_same (by omega) (by omega) (by omega) (by omega) fun t ht=>?_
 have:=(hR.tmos t ht).1
 have h6:=Blk.tmo_view h t ht
 omega
theorem cut_inv {b:Blk} (h:b.cut.err = 0):b.cut = b:=by
 have hR:=b.cut.rng h
 have h1:=hR.view; have h2:=hR.round; have h3:=hR.height; have h4:=hR.author
 simp only [Blk.cut] at h1 h2 h3 h4
 refine cut_same (by omega) (by omega) (by omega) (by omega) fun t ht=>?_
 have hm:(⟨min t.signer 1099511627776,min t.view 1099511627776,t.high⟩:Tmo) ∈ b.cut.proof:=List.mem_map.2 ⟨t,ht,rfl⟩
 have h5:=(hR.tmos _ hm).1
 have h6:=Blk.tmo_view h _ hm
 simp only [Blk.cut] at h5 h6
 omega
/-- What the document parses is what the program parses; neither or both are wrong. -/
theorem rparseBlk_eq (l:List UInt8):(rparseBlk l).1 = (parseBlk l).1 ∧ ((rparseBlk l).2 = 0 ↔ (parseBlk l).2 = 0):=by
 have hc:=rawBlk_cut (l,0)
 generalize hs:rrawBlk (l,0) = x at hc
 have e1:takeBlk (l,0) = if x.2.2 = 0 then (if x.1.cut.err = 0 then (x.1.cut,x.2) else (Blk.zero,rfail x.1.cut.err x.2)) else (Blk.zero,x.2):=by unfold takeBlk; rw [hc]
 have e2:rtakeBlk (l,0) = if x.2.2 = 0 then (if x.1.err = 0 then x else (Blk.zero,rfail x.1.err x.2)) else (Blk.zero,x.2):=by unfold rtakeBlk; rw [hs]
 have bad:∀ e:Int,e ≠ 0 → rdone (rfail e x.2) ≠ 0:=fun e he h=>(rfail_ne (s:=x.2) he) (rdone_zero h).1
 unfold rparseBlk parseBlk
 rw [e1,e2]
 by_cases h0:x.2.2 = 0
 · rw [if_pos h0,if_pos h0]
   by_cases h1:x.1.err = 0
   · have hk:=cut_ok h1
     rw [hk,if_pos h1]
     exact ⟨rfl,Iff.rfl⟩
   · have h2:¬ x.1.cut.err = 0:=fun h=>h1 (by rw [cut_inv h] at h; exact h)
     rw [if_neg h1,if_neg h2,if_neg (bad _ h1),if_neg (bad _ h2)]
     exact ⟨rfl,iff_of_false (bad _ h1) (bad _ h2)⟩
 · rw [if_neg h0,if_neg h0]
   exact ⟨rfl,Iff.rfl⟩
end Go.Proofs.YtmhaimdpfelkpaaGreatDoor
