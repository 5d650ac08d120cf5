/-
  Contracts of the program's functions (TxtC). No conditions of my own.
-/
import Derived.Test.YtaidfojbnfkclaaGreatDoorTxtB
import Derived.Test.YtaidfojbnfkclaaGreatDoorAbsC
set_option linter.unusedVariables false
set_option linter.unusedSimpArgs false
namespace Go.Proofs.YtaidfojbnfkclaaGreatDoor
open Go Go.Abs Go.Proofs
set_option maxRecDepth 100000
attribute [local irreducible] AEnd AW ACalls
theorem app_bytes:App Tryz.prog 135 135 1 1:=App.mk' qelem_135 qsize_5 qbytes_5 qzero_5 qsrc_135 rfl (by decide)
theorem bs_nil (n m:Nat) (c e:Bool):aeq Tryz.prog 135 (.sl none n c) (.sl none m e) = some true:=by simp [aeq,Tryz.underlying135]
theorem bs_some (q:Nat × Nat × Nat) (n m:Nat) (c e:Bool):aeq Tryz.prog 135 (.sl (some q) n c) (.sl none m e) = some false:=by simp [aeq,Tryz.underlying135]
theorem clone_ok (H:AH) {v:V} {l:List UInt8} (hv:Sl H v 1 (bytesV l)) (hl:l.length ≤ 100000000000):ACalls Tryz.prog 123 [v] H fun r H'=>Fresh H H' r l:=by
 refine ACalls_body Tryz.func123 rfl rfl ?_
 refine AW_seq ?_
 refine AW_reg [0] fun K hK=>?_
 simp [init_eq]
 apply hK;clear hK K
 refine AW_seq ?_
 refine AW_seq ?_
 have hv0:=hv
 rcases hv with ⟨c,rfl,hl0⟩ | ⟨id,g,off,len,clip,c,ro,esz,rfl,hg,h3,hl0⟩
 · have:l = []:=by
     have:=congrArg List.length hl0; simp at this; exact this
   subst this
   refine AW_reg [0,4] fun K hK=>?_
   simp [init_eq,bs_nil]
   apply hK;clear hK K
   refine AW_cond' rfl rfl (fun hc=>?_) (fun hc=>?_)
   · refine AW_seq ?_
     refine AW_reg [2] fun K hK=>?_
     simp [init_eq]
     apply hK;clear hK K
     refine AW_ret (end_ret rfl ?_)
     exact ⟨[],Own.nil ..,Upd.refl ..,by simp⟩
   · cases hc
 · refine AW_reg [0,4] fun K hK=>?_
   simp [init_eq,bs_some]
   apply hK;clear hK K
   refine AW_cond' rfl rfl (fun hc=>?_) (fun hc=>?_)
   · cases hc
   · refine AW_skip ?_
     refine AW_seq ?_
     have hx:=sl_asource (P:=Tryz.prog) (hv0.ext (ext_new H (.cells [] 0 false 1)))
     obtain ⟨v',H',F',h1,h2,h3,h4⟩:=(Own.made H 1).appendB (a:=[]) app_bytes hx (by simp; omega)
     refine AW_reg [2] fun K hK=>?_
     have hbs:abuildSlice Tryz.prog H 135 0 [] = some (.sl (some (H.next,0,0)) 0 false,H.new (.cells [] 0 false 1)):=by
      simp [abuildSlice,afill,V.cells]
     simp [init_eq,hbs,h1]
     apply hK;clear hK K
     refine AW_ret (end_ret rfl ?_)
     refine ⟨F',h2,(Upd.new H _ []).trans h3 (by simp),fun j hj=>?_⟩
     rcases h4 j hj with h | h
     · simp at h; omega
     · simp at h; omega
end Go.Proofs.YtaidfojbnfkclaaGreatDoor
set_option linter.unusedVariables false
set_option linter.unusedSimpArgs false
namespace Go.Proofs.YtaidfojbnfkclaaGreatDoor
open Go Go.Abs Go.Proofs
set_option maxRecDepth 100000
attribute [local irreducible] AEnd AW ACalls
/-- The numbers of a certificate. -/
def Cert.nums (c:Cert):List Nat :=
 [c.kind.toNat] ++ (if c.kind = 0 then [] else [c.block.toNat,c.view.toNat,c.round.toNat,c.signers.toNat]) ++ (if c.kind = 2 then [c.height.toNat,c.author.toNat,c.coin.toNat] else [])
/-- Its bytes. -/
def Cert.bytes (c:Cert):List UInt8:=c.nums.flatMap numB
/-- What its numbers are. -/
structure Cert.Rng (c:Cert):Prop where
 kind:c.kind = 0 ∨ c.kind = 1 ∨ c.kind = 2
 block:0 ≤ c.block ∧ c.block ≤ 2147483647
 view:0 ≤ c.view ∧ c.view ≤ 1048576
 round:0 ≤ c.round ∧ c.round ≤ 1073741824
 height:0 ≤ c.height ∧ c.height ≤ 3
 author:0 ≤ c.author ∧ c.author ≤ 9
theorem Cert.rng {c:Cert} (h:c.ok = true):c.Rng:=by
 unfold Cert.ok at h
 split at h
 · rename_i hk
   have:c = Cert.zero:=of_decide_eq_true h
   rw [this]
   exact ⟨.inl rfl,by decide,by decide,by decide,by decide,by decide⟩
 · split at h
   · rename_i hk
     simp [Cert.reg,Cert.base,inR] at h
     exact ⟨.inr (.inl hk),by omega,by omega,by omega,by omega,by omega⟩
   · split at h
     · rename_i hk
       simp [Cert.fall,Cert.base,inR] at h
       exact ⟨.inr (.inr hk),by omega,by omega,by omega,by omega,by omega⟩
     · cases h
end Go.Proofs.YtaidfojbnfkclaaGreatDoor
set_option linter.unusedVariables false
set_option linter.unusedSimpArgs false
namespace Go.Proofs.YtaidfojbnfkclaaGreatDoor
open Go Go.Abs Go.Proofs
set_option maxRecDepth 100000
attribute [local irreducible] AEnd AW ACalls
/-- A transaction's bytes. -/
def Tx.bytes (t:Tx):List UInt8 :=
 numB t.kind.toNat ++ (numB t.nonce.toNat ++ (textB t.src ++ (if t.kind = 1 then textB t.dst ++ numB t.amount.toNat else textB t.key ++ textB t.val)))
/-- What is in one that is right. -/
structure Tx.Rng (t:Tx):Prop where
 kind:t.kind = 1 ∨ t.kind = 2
 nonce:0 ≤ t.nonce ∧ t.nonce ≤ 4611686018427387904
 amount:0 ≤ t.amount ∧ t.amount ≤ 4611686018427387904
 src:t.src.length ≤ 128
 dst:t.dst.length ≤ 128
 key:t.key.length ≤ 128
 val:t.val.length ≤ 128
end Go.Proofs.YtaidfojbnfkclaaGreatDoor
set_option linter.unusedVariables false
set_option linter.unusedSimpArgs false
namespace Go.Proofs.YtaidfojbnfkclaaGreatDoor
open Go Go.Abs Go.Proofs
set_option maxRecDepth 100000
attribute [local irreducible] AEnd AW ACalls
def Tmo.bytes (t:Tmo):List UInt8:=numB t.signer.toNat ++ t.high.bytes
/-- A block's bytes. -/
def Blk.bytes (b:Blk):List UInt8 :=
 numB b.view.toNat ++ (numB b.round.toNat ++ (numB b.height.toNat ++ (numB b.author.toNat ++ (b.parent.bytes ++ (numB b.proof.length ++ (b.proof.flatMap Tmo.bytes ++ (numB b.txs.length ++ b.txs.flatMap Tx.bytes)))))))
/-- What is in one that may be. -/
structure Blk.Rng (b:Blk):Prop where
 view:0 ≤ b.view ∧ b.view ≤ 1048576
 round:0 ≤ b.round ∧ b.round ≤ 1073741824
 height:0 ≤ b.height ∧ b.height ≤ 3
 author:0 ≤ b.author ∧ b.author ≤ 9
 parent:b.parent.ok = true
 proof:b.proof.length ≤ 10
 tmos:∀ t ∈ b.proof,(0 ≤ t.signer ∧ t.signer ≤ 9) ∧ t.high.ok = true
 txs:b.txs.length ≤ 8
 each:∀ t ∈ b.txs,t.ok = true
theorem Blk.rng {b:Blk} (h:b.err = 0):b.Rng:=by
 unfold Blk.err at h
 split at h
 case isFalse=>cases h
 rename_i h1
 split at h
 case isFalse=>cases h
 rename_i h2
 split at h
 case isFalse=>cases h
 rename_i h3
 simp only [Bool.and_eq_true,decide_eq_true_eq,Blk.head,inR] at h1
 obtain ⟨⟨g1,g2⟩,⟨g3,g4⟩,g5⟩:=h1
 have hp:b.parent.ok = true:=by
  unfold Blk.parentOk at h2
  split at h2
  · simp [openS] at h2; exact h2.2.1
  · simp at h2; exact h2.2.1.1.1.1.1
 have hr:=Cert.rng hp
 have hrd:b.round = b.parent.round + 1:=by
  have:b.round = IntKind.i64.wrap (b.parent.round + 1):=by
   unfold Blk.parentOk at h2
   simp only [Bool.and_eq_true,decide_eq_true_eq] at h2
   exact h2.1.1
  rw [this,wrap_id (by have:=hr.round; omega) (by have:=hr.round; omega)]
 have hrd2:b.round ≤ 1073741824:=by
  unfold Blk.parentOk at h2
  simp only [Bool.and_eq_true,decide_eq_true_eq] at h2
  exact h2.1.2
 refine ⟨by omega,⟨by have:=hr.round; omega,hrd2⟩,by omega,by omega,hp,?_,?_,g2,fun t ht=>List.all_eq_true.1 g1 t ht⟩
 · by_cases hh:b.height = 1
   · rw [proofR_eq hh] at h3
     simp only [Bool.and_eq_true,decide_eq_true_eq] at h3
     exact h3.1.2
   · have:b.proof.length = 0:=by simpa [Blk.proofOk,hh] using h3
     omega
 · by_cases hh:b.height = 1
   · rw [proofR_eq hh] at h3
     simp only [Bool.and_eq_true,decide_eq_true_eq] at h3
     intro t ht
     obtain ⟨i,hi,rfl⟩:=List.getElem_of_mem ht
     have h4:=List.all_eq_true.1 h3.2 i (by simpa using hi)
     rw [pAt_eq hi] at h4
     simp only [Bool.and_eq_true] at h4
     have h5:=h4.1.1
     unfold Tmo.ok openS at h5
     simp only [Bool.and_eq_true] at h5
     have h6:0 ≤ b.proof[i].signer ∧ b.proof[i].signer ≤ 9:=of_decide_eq_true h5.1.1
     exact ⟨h6,h5.2.1⟩
   · have:b.proof = []:=by
       have h4:b.proof.length = 0:=by simpa [Blk.proofOk,hh] using h3
       exact List.length_eq_zero_iff.1 h4
     rw [this]; simp
/-- The bytes that are being built, in a cell of their own. -/
structure Out (H1 G:AH) (box:Nat) (v:V) (F:List Nat) (l:List UInt8):Prop where
 get:G.get box = some (.cells [v] 0 false 0)
 own:Own G v 1 (bytesV l) F
 nin:box ∉ F
 lo:H1.next ≤ box
 loF:∀ j ∈ F,H1.next ≤ j
 upd:Upd H1 G []
end Go.Proofs.YtaidfojbnfkclaaGreatDoor
set_option linter.unusedVariables false
set_option linter.unusedSimpArgs false
namespace Go.Proofs.YtaidfojbnfkclaaGreatDoor
open Go Go.Abs Go.Proofs
set_option maxRecDepth 100000
/-- The next number of a certificate, not above. -/
def tnext (m:Nat) (s:St):Nat × St:=((rnum s).1,if m < (rnum s).1 then rfail 110 (rnum s).2 else (rnum s).2)
def takeC1 (s:St):(Nat × Nat × Nat × Nat) × St :=
 let a:=tnext 2147483647 s
 let b:=tnext 1048576 a.2
 let c:=tnext 1073741824 b.2
 let d:=tnext 1023 c.2
 ((a.1,b.1,c.1,d.1),d.2)
def takeC2 (s:St):(Nat × Nat × Nat) × St :=
 let a:=tnext 3 s
 let b:=tnext 9 a.2
 let c:=tnext 1023 b.2
 ((a.1,b.1,c.1),c.2)
def rawCert (s:St):Cert × St :=
 let k:=tnext 2 s
 let x:=if k.1 = 0 then ((0,0,0,0),k.2) else takeC1 k.2
 let y:=if k.1 = 2 then takeC2 x.2 else ((0,0,0),x.2)
 (⟨k.1,x.1.1,x.1.2.1,x.1.2.2.1,y.1.1,y.1.2.1,BitVec.ofNat 32 x.1.2.2.2,BitVec.ofNat 32 y.1.2.2⟩,y.2)
def takeCert (s:St):Cert × St :=
 let x:=rawCert s
 let t:=if x.1.ok then x.2 else rfail 110 x.2
 (if t.2 = 0 then x.1 else Cert.zero,t)
theorem tnext_inv {m:Nat} {s:St} (h:(tnext m s).2.2 = 0):s.2 = 0 ∧ s.1 = numB (tnext m s).1 ++ (tnext m s).2.1 ∧ (tnext m s).1 ≤ m:=by
 unfold tnext at h ⊢
 by_cases hm:m < (rnum s).1
 · simp only [if_pos hm] at h
   exact absurd h (rfail_ne (by decide))
 · simp only [if_neg hm] at h ⊢
   have:=rnum_inv h
   exact ⟨this.1,this.2.1,by omega⟩
theorem takeCert_inv {s:St} (h:(takeCert s).2.2 = 0):s.2 = 0 ∧ (takeCert s).1.ok = true ∧ s.1 = (takeCert s).1.bytes ++ (takeCert s).2.1:=by
 unfold takeCert at h ⊢
 by_cases hok:(rawCert s).1.ok = true
 case neg =>
   simp only [hok] at h
   exact absurd h (rfail_ne (by decide))
 simp only [hok,if_true] at h ⊢
 rw [if_pos h]
 refine ⟨?_,hok,?_⟩
 all_goals
   revert h hok
   unfold rawCert
   simp only
   intro hok h
   by_cases k0:(tnext 2 s).1 = 0
   · have k2:¬ (tnext 2 s).1 = 2:=by omega
     simp only [if_pos k0,if_neg k2] at h ⊢
     have:=tnext_inv h
     first
     | exact this.1
     | (rw [this.2.1]; simp [Cert.bytes,Cert.nums,k0])
   · by_cases k2:(tnext 2 s).1 = 2
     · simp only [if_neg k0,if_pos k2,takeC1,takeC2] at h ⊢
       have a1:=tnext_inv h
       have a2:=tnext_inv a1.1
       have a3:=tnext_inv a2.1
       have a4:=tnext_inv a3.1
       have a5:=tnext_inv a4.1
       have a6:=tnext_inv a5.1
       have a7:=tnext_inv a6.1
       have a8:=tnext_inv a7.1
       first
       | exact a8.1
       | (rw [a8.2.1, a7.2.1, a6.2.1, a5.2.1, a4.2.1, a3.2.1, a2.2.1, a1.2.1]
          have b5:=a4.2.2
          have b1:=a1.2.2
          simp only [Cert.bytes,Cert.nums,k2]
          simp [Nat.mod_eq_of_lt (show _ < 4294967296 from Nat.lt_of_le_of_lt b5 (by decide)),Nat.mod_eq_of_lt (show _ < 4294967296 from Nat.lt_of_le_of_lt b1 (by decide))])
     · simp only [if_neg k0,if_neg k2,takeC1] at h ⊢
       have a4:=tnext_inv h
       have a5:=tnext_inv a4.1
       have a6:=tnext_inv a5.1
       have a7:=tnext_inv a6.1
       have a8:=tnext_inv a7.1
       have k1:(tnext 2 s).1 = 1:=by have:=a8.2.2; omega
       first
       | exact a8.1
       | (rw [a8.2.1, a7.2.1, a6.2.1, a5.2.1, a4.2.1]
          have b5:=a4.2.2
          simp only [Cert.bytes,Cert.nums,k1]
          simp [Nat.mod_eq_of_lt (show _ < 4294967296 from Nat.lt_of_le_of_lt b5 (by decide))])
def rawTx (k:Nat) (s:St):Tx × St :=
 let n:=rnum s
 let f:=rtext n.2
 if k = 1 then
  let a:=rtext f.2
  let b:=rnum a.2
  (⟨k,f.1,a.1,[],[],b.1,n.1⟩,b.2)
 else
  let a:=rtext f.2
  let b:=rtext a.2
  (⟨k,f.1,[],a.1,b.1,0,n.1⟩,b.2)
def takeTx (s:St):Tx × St :=
 if (rnum s).1 = 1 ∨ (rnum s).1 = 2 then
  let y:=rawTx (rnum s).1 (rnum s).2
  let t:=if y.1.ok then y.2 else rfail 80 y.2
  (if t.2 = 0 then y.1 else Tx.zero,t)
 else (Tx.zero,rfail 80 (rnum s).2)
theorem takeTx_inv {s:St} (h:(takeTx s).2.2 = 0):s.2 = 0 ∧ (takeTx s).1.ok = true ∧ s.1 = (takeTx s).1.bytes ++ (takeTx s).2.1:=by
 unfold takeTx at h ⊢
 by_cases hk:(rnum s).1 = 1 ∨ (rnum s).1 = 2
 case neg =>
   simp only [if_neg hk] at h
   exact absurd h (rfail_ne (by decide))
 simp only [if_pos hk] at h ⊢
 by_cases hok:(rawTx (rnum s).1 (rnum s).2).1.ok = true
 case neg =>
   simp only [hok] at h
   exact absurd h (rfail_ne (by decide))
 simp only [hok,if_true] at h ⊢
 rw [if_pos h]
 refine ⟨?_,hok,?_⟩
 all_goals
   clear hok
   revert h
   unfold rawTx
   simp only
   intro h
   by_cases k1:(rnum s).1 = 1
   · simp only [if_pos k1] at h ⊢
     have a1:=rnum_inv h
     have a2:=rtext_inv a1.1
     have a3:=rtext_inv a2.1
     have a4:=rnum_inv a3.1
     have a5:=rnum_inv a4.1
     first
     | exact a5.1
     | (rw [a5.2.1, a4.2.1, a3.2.1, a2.2.1, a1.2.1]
        simp [Tx.bytes,k1])
   · simp only [if_neg k1] at h ⊢
     have a1:=rtext_inv h
     have a2:=rtext_inv a1.1
     have a3:=rtext_inv a2.1
     have a4:=rnum_inv a3.1
     have a5:=rnum_inv a4.1
     have k2:(rnum s).1 = 2:=by omega
     first
     | exact a5.1
     | (rw [a5.2.1, a4.2.1, a3.2.1, a2.2.1, a1.2.1]
        simp [Tx.bytes,k2])
def takeTmo (v:Int) (s:St):Tmo × St :=
 (⟨(rsmall s).1,v,(takeCert (rsmall s).2).1⟩,(takeCert (rsmall s).2).2)
def Blk.zero:Blk:=⟨0,0,0,0,Cert.zero,[],[]⟩
/-- What a block's four numbers are read as. -/
def rawBlk (s:St):Blk × St :=
 let a:=rsmall s
 let b:=rsmall a.2
 let c:=rsmall b.2
 let d:=rsmall c.2
 let e:=takeCert d.2
 let n:=rmost 10 e.2
 let p:=takeL (takeTmo a.1) n.1 n.2
 let m:=rmost 8 p.2
 let t:=takeL takeTx m.1 m.2
 (⟨a.1,b.1,c.1,d.1,e.1,p.1,t.1⟩,t.2)
def takeBlk (s:St):Blk × St :=
 if (rawBlk s).2.2 = 0 then (if (rawBlk s).1.err = 0 then rawBlk s else (Blk.zero,rfail (rawBlk s).1.err (rawBlk s).2)) else (Blk.zero,(rawBlk s).2)
theorem Blk.tmo_view {b:Blk} (h:b.err = 0):∀ t ∈ b.proof,t.view = b.view:=by
 unfold Blk.err at h
 split at h
 case isFalse=>cases h
 split at h
 case isFalse=>cases h
 split at h
 case isFalse=>cases h
 rename_i h3
 by_cases hh:b.height = 1
 · rw [proofR_eq hh] at h3
   simp only [Bool.and_eq_true,decide_eq_true_eq] at h3
   intro t ht
   obtain ⟨i,hi,rfl⟩:=List.getElem_of_mem ht
   have h4:=List.all_eq_true.1 h3.2 i (by simpa using hi)
   rw [pAt_eq hi] at h4
   simp only [Bool.and_eq_true,decide_eq_true_eq] at h4
   exact h4.1.2
 · have:b.proof = []:=by
     have h4:b.proof.length = 0:=by simpa [Blk.proofOk,hh] using h3
     exact List.length_eq_zero_iff.1 h4
   rw [this]; simp
theorem takeBlk_inv {s:St} (h:(takeBlk s).2.2 = 0):s.2 = 0 ∧ (takeBlk s).1.err = 0 ∧ s.1 = (takeBlk s).1.bytes ++ (takeBlk s).2.1:=by
 unfold takeBlk at h ⊢
 by_cases h0:(rawBlk s).2.2 = 0
 case neg=>simp only [if_neg h0] at h; exact absurd h h0
 simp only [if_pos h0] at h ⊢
 by_cases he:(rawBlk s).1.err = 0
 case neg=>simp only [if_neg he] at h; exact absurd h (rfail_ne he)
 simp only [if_pos he] at h ⊢
 have hR:=Blk.rng he
 have hv:=Blk.tmo_view he
 refine ⟨?_,he,?_⟩
 all_goals
   have i1:=hR.view; have i2:=hR.round; have i3:=hR.height; have i4:=hR.author; have hT:=hR.tmos
   clear he hv hR h
   revert h0 i1 i2 i3 i4 hT
   unfold rawBlk
   simp only
   intro h i1 i2 i3 i4 hT
   have a1:=takeL_inv (f:=takeTx) (by':=Tx.bytes) (p:=fun _=>True) (fun s _ h=>⟨(takeTx_inv h).1,(takeTx_inv h).2.2⟩) _ _ (fun _ _=>trivial) h
   have a2:=rmost_inv a1.1
   have a3:=takeL_inv (f:=takeTmo (rsmall s).1) (by':=Tmo.bytes) (p:=fun t=>0 ≤ t.signer ∧ t.signer ≤ 9) (fun s hp h=>by
    have h1:=takeCert_inv (s:=(rsmall s).2) h
    have h2:=rsmall_inv (s:=s) h1.1 (by have:=hp.2; simp only [takeTmo] at this; omega)
    refine ⟨h2.1,?_⟩
    simp only [takeTmo,Tmo.bytes,Int.toNat_natCast,List.append_assoc]
    rw [← h1.2.2]
    exact h2.2) _ _ (fun t ht=>(hT t ht).1) a2.1
   have a4:=rmost_inv a3.1
   have a5:=takeCert_inv a4.1
   have a6:=rsmall_inv a5.1 (by omega)
   have a7:=rsmall_inv a6.1 (by omega)
   have a8:=rsmall_inv a7.1 (by omega)
   have a9:=rsmall_inv a8.1 (by omega)
   first
   | exact a9.1
   | (unfold Blk.bytes
      simp only [Int.toNat_natCast,takeL_len,List.append_assoc]
      rw [← a1.2,← a2.2.1,← a3.2,← a4.2.1,← a5.2.2,← a6.2,← a7.2,← a8.2]
      exact a9.2)
/-- What is parsed of all bytes, and the error. -/
def parseBlk (l:List UInt8):Blk × Int :=
 if rdone (takeBlk (l,0)).2 = 0 then ((takeBlk (l,0)).1,0) else (Blk.zero,rdone (takeBlk (l,0)).2)
theorem rdone_zero {s:St} (h:rdone s = 0):s.2 = 0 ∧ s.1 = []:=by
 unfold rdone at h
 split at h
 · cases h
 · rename_i h1
   refine ⟨h,?_⟩
   apply Classical.byContradiction
   intro h2
   exact h1 ⟨h,h2⟩
/-- What is parsed is written so. -/
theorem parseBlk_inv {l:List UInt8} (h:(parseBlk l).2 = 0):(parseBlk l).1.err = 0 ∧ (parseBlk l).1.bytes = l:=by
 unfold parseBlk at h ⊢
 by_cases h0:rdone (takeBlk (l,0)).2 = 0
 · rw [if_pos h0]
   have h1:=rdone_zero h0
   have h2:=takeBlk_inv h1.1
   refine ⟨h2.2.1,?_⟩
   have:=h2.2.2
   rw [h1.2,List.append_nil] at this
   exact this.symm
 · rw [if_neg h0] at h
   exact absurd h h0
end Go.Proofs.YtaidfojbnfkclaaGreatDoor
set_option linter.unusedVariables false
set_option linter.unusedSimpArgs false
namespace Go.Proofs.YtaidfojbnfkclaaGreatDoor
open Go Go.Abs Go.Proofs
set_option maxRecDepth 100000
/-- The next number of a certificate, not above, as the document reads it. -/
def rnext (m:Nat) (s:St):Nat × St:=if m < (rnum s).1 then (0,rfail 110 (rnum s).2) else rnum s
theorem rnext_st (m:Nat) (s:St):(rnext m s).2 = (tnext m s).2:=by unfold rnext tnext; split <;> rfl
theorem rnext_eq {m:Nat} {s:St} (h:(tnext m s).2.2 = 0):rnext m s = tnext m s:=by
 have:=(tnext_inv h).2.2
 have e:(tnext m s).1 = (rnum s).1:=rfl
 unfold rnext
 rw [if_neg (by omega)]
 unfold tnext
 rw [if_neg (by omega)]
theorem rnext_bad {m:Nat} {s:St} (h:(tnext m s).2.2 ≠ 0):(rnext m s).1 = 0:=by
 unfold rnext
 split
 · rfl
 · rename_i h1
   unfold tnext at h
   rw [if_neg h1] at h
   simp only at h
   by_cases h0:s.2 = 0
   · unfold rnum at h ⊢
     rw [if_pos h0] at h ⊢
     split at h
     · rename_i x e; rfl
     · exact absurd rfl h
   · rw [rnum_err h0]
theorem tnext_err {m:Nat} {s:St} (h:s.2 ≠ 0):tnext m s = (0,s):=by
 unfold tnext; rw [rnum_err h]; simp
def rC1 (s:St):(Nat × Nat × Nat × Nat) × St :=
 let a:=rnext 2147483647 s
 let b:=rnext 1048576 a.2
 let c:=rnext 1073741824 b.2
 let d:=rnext 1023 c.2
 ((a.1,b.1,c.1,d.1),d.2)
def rC2 (s:St):(Nat × Nat × Nat) × St :=
 let a:=rnext 3 s
 let b:=rnext 9 a.2
 let c:=rnext 1023 b.2
 ((a.1,b.1,c.1),c.2)
theorem rC1_st (s:St):(rC1 s).2 = (takeC1 s).2:=by simp only [rC1,takeC1,rnext_st]
theorem rC2_st (s:St):(rC2 s).2 = (takeC2 s).2:=by simp only [rC2,takeC2,rnext_st]
theorem rC1_eq {s:St} (h:(takeC1 s).2.2 = 0):rC1 s = takeC1 s ∧ s.2 = 0:=by
 simp only [takeC1] at h
 have h3:=(tnext_inv h).1
 have h2:=(tnext_inv h3).1
 have h1:=(tnext_inv h2).1
 refine ⟨?_,(tnext_inv h1).1⟩
 simp only [rC1,takeC1,rnext_eq h1,rnext_eq h2,rnext_eq h3,rnext_eq h]
theorem rC2_eq {s:St} (h:(takeC2 s).2.2 = 0):rC2 s = takeC2 s ∧ s.2 = 0:=by
 simp only [takeC2] at h
 have h2:=(tnext_inv h).1
 have h1:=(tnext_inv h2).1
 refine ⟨?_,(tnext_inv h1).1⟩
 simp only [rC2,takeC2,rnext_eq h1,rnext_eq h2,rnext_eq h]
theorem takeC1_err {s:St} (h:s.2 ≠ 0):(takeC1 s).2 = s:=by simp only [takeC1,tnext_err h]
theorem takeC2_err {s:St} (h:s.2 ≠ 0):(takeC2 s).2 = s:=by simp only [takeC2,tnext_err h]
/-- The three parts of a certificate. -/
def mkC (k:Nat) (x:Nat × Nat × Nat × Nat) (y:Nat × Nat × Nat):Cert:=⟨k,x.1,x.2.1,x.2.2.1,y.1,y.2.1,BitVec.ofNat 32 x.2.2.2,BitVec.ofNat 32 y.2.2⟩
def rraw1 (s:St):(Nat × Nat × Nat × Nat) × St:=if 0 < (rnext 2 s).1 then rC1 (rnext 2 s).2 else ((0,0,0,0),(rnext 2 s).2)
def rraw2 (s:St):(Nat × Nat × Nat) × St:=if (rnext 2 s).1 = 2 then rC2 (rraw1 s).2 else ((0,0,0),(rraw1 s).2)
def rtakeCert (s:St):Cert × St :=
 if (rraw2 s).2.2 ≠ 0 then (Cert.zero,(rraw2 s).2)
 else if (mkC (rnext 2 s).1 (rraw1 s).1 (rraw2 s).1).ok then (mkC (rnext 2 s).1 (rraw1 s).1 (rraw2 s).1,(rraw2 s).2) else (Cert.zero,rfail 110 (rraw2 s).2)
theorem rawCert_eq (s:St):rawCert s = (mkC (tnext 2 s).1 (if (tnext 2 s).1 = 0 then ((0,0,0,0),(tnext 2 s).2) else takeC1 (tnext 2 s).2).1
  (if (tnext 2 s).1 = 2 then takeC2 (if (tnext 2 s).1 = 0 then ((0,0,0,0),(tnext 2 s).2) else takeC1 (tnext 2 s).2).2 else ((0,0,0),(if (tnext 2 s).1 = 0 then ((0,0,0,0),(tnext 2 s).2) else takeC1 (tnext 2 s).2).2)).1,
  (if (tnext 2 s).1 = 2 then takeC2 (if (tnext 2 s).1 = 0 then ((0,0,0,0),(tnext 2 s).2) else takeC1 (tnext 2 s).2).2 else ((0,0,0),(if (tnext 2 s).1 = 0 then ((0,0,0,0),(tnext 2 s).2) else takeC1 (tnext 2 s).2).2)).2):=rfl
theorem rtakeCert_eq (s:St):rtakeCert s = takeCert s:=by
 have hT:takeCert s = (if (if (rawCert s).1.ok then (rawCert s).2 else rfail 110 (rawCert s).2).2 = 0 then (rawCert s).1 else Cert.zero,if (rawCert s).1.ok then (rawCert s).2 else rfail 110 (rawCert s).2):=rfl
 by_cases hk:(tnext 2 s).2.2 = 0
 · have e0:=rnext_eq hk
   generalize hkk:tnext 2 s = k at *
   have s1:(rraw1 s).2 = (if k.1 = 0 then ((0,0,0,0),k.2) else takeC1 k.2).2:=by
    unfold rraw1; rw [e0]
    by_cases h:k.1 = 0
    · rw [if_pos h,if_neg (by omega)]
    · rw [if_neg h,if_pos (by omega),rC1_st]
   have s2:(rraw2 s).2 = (rawCert s).2:=by
    rw [rawCert_eq,hkk]; simp only
    unfold rraw2; rw [e0,s1]
    by_cases h:k.1 = 2
    · rw [if_pos h,if_pos h,rC2_st]
    · rw [if_neg h,if_neg h]
   by_cases hE:(rawCert s).2.2 = 0
   ·
     have e1:rraw1 s = (if k.1 = 0 then ((0,0,0,0),k.2) else takeC1 k.2) ∧ rraw2 s = (if k.1 = 2 then takeC2 (if k.1 = 0 then ((0,0,0,0),k.2) else takeC1 k.2).2 else ((0,0,0),(if k.1 = 0 then ((0,0,0,0),k.2) else takeC1 k.2).2)):=by
      rw [rawCert_eq,hkk] at hE; simp only at hE
      have h1:rraw1 s = (if k.1 = 0 then ((0,0,0,0),k.2) else takeC1 k.2):=by
       unfold rraw1; rw [e0]
       by_cases h:k.1 = 0
       · rw [if_pos h,if_neg (by omega)]
       · rw [if_neg h,if_pos (by omega)]
         rw [if_neg h] at hE
         have:(takeC1 k.2).2.2 = 0:=by
          by_cases h2:k.1 = 2
          · rw [if_pos h2] at hE; exact (rC2_eq hE).2
          · rw [if_neg h2] at hE; exact hE
         exact (rC1_eq this).1
      refine ⟨h1,?_⟩
      unfold rraw2; rw [e0,h1]
      by_cases h2:k.1 = 2
      · rw [if_pos h2,if_pos h2]
        rw [if_pos h2] at hE; exact (rC2_eq hE).1
      · rw [if_neg h2,if_neg h2]
     have e2:mkC (rnext 2 s).1 (rraw1 s).1 (rraw2 s).1 = (rawCert s).1:=by rw [rawCert_eq,hkk,e0,e1.1,e1.2]
     rw [hT]
     unfold rtakeCert
     rw [s2,e2,if_neg (by simp [hE])]
     by_cases ho:(rawCert s).1.ok = true
     · rw [if_pos ho,if_pos ho,if_pos hE]
     · rw [if_neg ho,if_neg ho,if_neg (rfail_ne (by decide))]
   · rw [hT]
     have:(if (rawCert s).1.ok = true then (rawCert s).2 else rfail 110 (rawCert s).2) = (rawCert s).2:=by
      split
      · rfl
      · exact rfail_err hE
     rw [this,if_neg hE]
     unfold rtakeCert
     rw [s2,if_pos hE]
 · have e0:=rnext_bad hk
   have es:=rnext_st 2 s
   have s1:rraw1 s = ((0,0,0,0),(tnext 2 s).2):=by unfold rraw1; rw [e0,es]; rfl
   have s2:rraw2 s = ((0,0,0),(tnext 2 s).2):=by unfold rraw2; rw [e0,s1]; rfl
   have s3:(rawCert s).2 = (tnext 2 s).2:=by
    rw [rawCert_eq]; simp only
    have h1:(if (tnext 2 s).1 = 0 then ((0,0,0,0),(tnext 2 s).2) else takeC1 (tnext 2 s).2).2 = (tnext 2 s).2:=by
     split
     · rfl
     · exact takeC1_err hk
    rw [h1]
    split
    · exact takeC2_err hk
    · rfl
   rw [hT]
   have:(if (rawCert s).1.ok = true then (rawCert s).2 else rfail 110 (rawCert s).2) = (tnext 2 s).2:=by
    rw [s3]
    split
    · rfl
    · exact rfail_err hk
   rw [this,if_neg hk]
   unfold rtakeCert
   rw [s2,if_pos hk]
/-! Blocks. -/
def rtakeTmo (v:Int) (s:St):Tmo × St :=
 (⟨(rnum s).1,v,(takeCert (rnum s).2).1⟩,(takeCert (rnum s).2).2)
def rrawBlk (s:St):Blk × St :=
 let a:=rnum s
 let b:=rnum a.2
 let c:=rnum b.2
 let d:=rnum c.2
 let e:=takeCert d.2
 let n:=rmost 10 e.2
 let p:=takeL (rtakeTmo a.1) n.1 n.2
 let m:=rmost 8 p.2
 let t:=takeL takeTx m.1 m.2
 (⟨a.1,b.1,c.1,d.1,e.1,p.1,t.1⟩,t.2)
def rtakeBlk (s:St):Blk × St :=
 if (rrawBlk s).2.2 = 0 then (if (rrawBlk s).1.err = 0 then rrawBlk s else (Blk.zero,rfail (rrawBlk s).1.err (rrawBlk s).2)) else (Blk.zero,(rrawBlk s).2)
def rparseBlk (l:List UInt8):Blk × Int :=
 if rdone (rtakeBlk (l,0)).2 = 0 then ((rtakeBlk (l,0)).1,0) else (Blk.zero,rdone (rtakeBlk (l,0)).2)
theorem takeL_st {α β:Type} {f:St → α × St} {g:St → β × St} (h:∀ s,(f s).2 = (g s).2):∀ (n:Nat) (s:St),(takeL f n s).2 = (takeL g n s).2
 | 0,s=>rfl
 | n + 1,s=>by simp only [takeL]; rw [h s,takeL_st h n]
theorem takeL_map {α β:Type} {f:St → α × St} {g:St → β × St} {u:α → β} (h:∀ s,((g s).1 = u (f s).1) ∧ (g s).2 = (f s).2):∀ (n:Nat) (s:St),(takeL g n s).1 = (takeL f n s).1.map u
 | 0,s=>rfl
 | n + 1,s=>by simp only [takeL,List.map_cons]; rw [(h s).1,(h s).2,takeL_map h n]
/-- The program's block: its numbers are cut. -/
def Blk.cut (b:Blk):Blk:=⟨min b.view 1099511627776,min b.round 1099511627776,min b.height 1099511627776,min b.author 1099511627776,b.parent,b.proof.map fun t=>⟨min t.signer 1099511627776,min t.view 1099511627776,t.high⟩,b.txs⟩
theorem rawBlk_cut (s:St):rawBlk s = ((rrawBlk s).1.cut,(rrawBlk s).2):=by
 have e:∀ s,rsmall s = (min (rnum s).1 1099511627776,(rnum s).2):=fun _=>rfl
 have c:∀ n:Nat,((min n 1099511627776:Nat):Int) = min (n:Int) 1099511627776:=fun n=>by omega
 have hst:∀ v w s,(takeTmo v s).2 = (rtakeTmo w s).2:=fun v w s=>rfl
 have hm:∀ (v:Nat) s,((takeTmo ((min v 1099511627776:Nat):Int) s).1 = (fun t:Tmo=>(⟨min t.signer 1099511627776,min t.view 1099511627776,t.high⟩:Tmo)) (rtakeTmo v s).1) ∧ (takeTmo ((min v 1099511627776:Nat):Int) s).2 = (rtakeTmo v s).2:=fun v s=>by
  refine ⟨?_,rfl⟩
  simp only [takeTmo,rtakeTmo,e,c]
 simp only [rawBlk,rrawBlk,Blk.cut,e]
 rw [takeL_st (hst _ ((rnum s).1:Int)),takeL_map (f:=rtakeTmo ((rnum s).1:Int)) (u:=fun t:Tmo=>(⟨min t.signer 1099511627776,min t.view 1099511627776,t.high⟩:Tmo)) (hm (rnum s).1)]
 simp only [c]
theorem cut_same {b:Blk} (h1:b.view ≤ 1099511627776) (h2:b.round ≤ 1099511627776) (h3:b.height ≤ 1099511627776) (h4:b.author ≤ 1099511627776) (h5:∀ t ∈ b.proof,t.signer ≤ 1099511627776 ∧ t.view ≤ 1099511627776):b.cut = b:=by
 have h6:∀ t ∈ b.proof,(⟨min t.signer 1099511627776,min t.view 1099511627776,t.high⟩:Tmo) = t:=fun t ht=>by
  have:=h5 t ht
  rw [show min t.signer 1099511627776 = t.signer by omega,show min t.view 1099511627776 = t.view by omega]
 unfold Blk.cut
 have e1:b.proof.map (fun t:Tmo=>(⟨min t.signer 1099511627776,min t.view 1099511627776,t.high⟩:Tmo)) = b.proof:=by
  rw [List.map_congr_left h6]; simp
 rw [e1,show min b.view 1099511627776 = b.view by omega,show min b.round 1099511627776 = b.round by omega,show min b.height 1099511627776 = b.height by omega,show min b.author 1099511627776 = b.author by omega]
theorem cut_ok {b:Blk} (h:b.err = 0):b.cut = b:=by
 have hR:=b.rng h
 have h1:=hR.view; have h2:=hR.round; have h3:=hR.height; have h4:=hR.author
 refine cut_same (by omega) (by omega) (by omega) (by omega) fun t ht=>?_
 have:=(hR.tmos t ht).1
 have h6:=Blk.tmo_view h t ht
 omega
theorem cut_inv {b:Blk} (h:b.cut.err = 0):b.cut = b:=by
 have hR:=b.cut.rng h
 have h1:=hR.view; have h2:=hR.round; have h3:=hR.height; have h4:=hR.author
 simp only [Blk.cut] at h1 h2 h3 h4
 refine cut_same (by omega) (by omega) (by omega) (by omega) fun t ht=>?_
 have hm:(⟨min t.signer 1099511627776,min t.view 1099511627776,t.high⟩:Tmo) ∈ b.cut.proof:=List.mem_map.2 ⟨t,ht,rfl⟩
 have h5:=(hR.tmos _ hm).1
 have h6:=Blk.tmo_view h _ hm
 simp only [Blk.cut] at h5 h6
 omega
/-- What the document parses is what the program parses; neither or both are wrong. -/
theorem rparseBlk_eq (l:List UInt8):(rparseBlk l).1 = (parseBlk l).1 ∧ ((rparseBlk l).2 = 0 ↔ (parseBlk l).2 = 0):=by
 have hc:=rawBlk_cut (l,0)
 generalize hs:rrawBlk (l,0) = x at hc
 have e1:takeBlk (l,0) = if x.2.2 = 0 then (if x.1.cut.err = 0 then (x.1.cut,x.2) else (Blk.zero,rfail x.1.cut.err x.2)) else (Blk.zero,x.2):=by unfold takeBlk; rw [hc]
 have e2:rtakeBlk (l,0) = if x.2.2 = 0 then (if x.1.err = 0 then x else (Blk.zero,rfail x.1.err x.2)) else (Blk.zero,x.2):=by unfold rtakeBlk; rw [hs]
 have bad:∀ e:Int,e ≠ 0 → rdone (rfail e x.2) ≠ 0:=fun e he h=>(rfail_ne (s:=x.2) he) (rdone_zero h).1
 unfold rparseBlk parseBlk
 rw [e1,e2]
 by_cases h0:x.2.2 = 0
 · rw [if_pos h0,if_pos h0]
   by_cases h1:x.1.err = 0
   · have hk:=cut_ok h1
     rw [hk,if_pos h1]
     exact ⟨rfl,Iff.rfl⟩
   · have h2:¬ x.1.cut.err = 0:=fun h=>h1 (by rw [cut_inv h] at h; exact h)
     rw [if_neg h1,if_neg h2,if_neg (bad _ h1),if_neg (bad _ h2)]
     exact ⟨rfl,iff_of_false (bad _ h1) (bad _ h2)⟩
 · rw [if_neg h0,if_neg h0]
   exact ⟨rfl,Iff.rfl⟩
end Go.Proofs.YtaidfojbnfkclaaGreatDoor
