/-
  Again: the program's and the document's.
-/
import Derived.Test.YtaidfojbnfkclaaGreatDoorVote2
set_option linter.unusedVariables false
set_option linter.unusedSimpArgs false
namespace Go.Proofs.YtaidfojbnfkclaaGreatDoor
open Go Go.Abs Go.Proofs
set_option maxRecDepth 100000
attribute [local irreducible] AEnd AW ACalls
def againB (s:SSt) (n:Int) (b:Blk):Bool:=if b.height = 0 then decide (s.view = b.view) && decide (s.round = b.round) && decide (s.block = n) else decide (s.fell b.author = (castC 0 n b).plain)
theorem again_ok (H:AH) {s:SSt} {fv hv pv bv:V} {k:Nat} (b:Blk) (pb tb:V) (ha:SAt H s fv hv pv bv) (ok:s.Ok k) (hk:k ≤ 1000000) (n:Int) :
  ACalls Tryz.prog 15 [.agg (s.cells fv hv pv bv),.i .i64 n,.agg (b.cells pb tb)] H fun v H'=>v = .b (againB s n b) ∧ H' = H:=by
 refine ACalls.pure (Q:=fun v=>v = .b (againB s n b)) ⟨_,Tryz.func15,rfl,rfl⟩ ?_
 refine ACalls_body Tryz.func15 rfl rfl ?_
 refine AW_seq ?_
 refine AW_reg [1,3,5] fun K hK=>?_
 simp [init_eq,V.cells]
 obtain ⟨H1,e1,g1,g2,n1,o1⟩:=H.boxed2 (s.cells fv hv pv bv) (b.cells pb tb)
 rw [e1]
 have u1:Upd H H1 []:=⟨by omega,fun j hj _=>o1 j hj⟩
 apply hK;clear hK K
 refine AW_seq ?_
 refine AW_seq ?_
 refine AW_reg [1,3,5,9] fun K hK=>?_
 simp [init_eq,aload,afieldAddr,g2]
 apply hK;clear hK K
 refine AW_cond' rfl rfl (fun hc=>?_) (fun hc=>?_)
 · have hh:b.height = 0:=by simpa using hc
   have hA:againB s n b = (decide (s.view = b.view) && decide (s.round = b.round) && decide (s.block = n)):=by unfold againB; rw [if_pos hh]
   refine AW_seq ?_
   refine AW_regto [6] ⟨37,[(6,.b (againB s n b))]⟩ H1 (fun K hk=>?_) (AW_ret (end_ret rfl ⟨rfl,rfl,by omega,fun j hj=>o1 j hj⟩))
   rw [hA] at hk
   by_cases z1:s.view = b.view
   · by_cases z2:s.round = b.round
     · simpa [init_eq,aload,afieldAddr,g1,g2,z1,z2] using hk
     · simpa [init_eq,aload,afieldAddr,g1,g2,z1,z2] using hk
   · simpa [init_eq,aload,afieldAddr,g1,g2,z1] using hk
 · have hh:b.height ≠ 0:=by simpa using hc
   have hA:againB s n b = decide (s.fell b.author = (castC 0 n b).plain):=by unfold againB; rw [if_neg hh]
   refine AW_skip ?_
   refine AW_seq ?_
   refine AW_regd [6] pl_15_3 pe_15_3 (by kernel_rfl) (by kernel_rfl) (by decide) fun K hK=>?_
   simp [init_eq,pl_15_3,aload,afieldAddr,g1,g2,SSt.take,blk_take]
   refine ACalls.mono (fell_ok H1 (ha.upd u1) ok (by omega) b.author) fun v H' ⟨hr,e⟩=>?_
   subst hr
   rw [e]
   refine ⟨AH.ext.refl _,?_⟩
   refine ACalls.mono (cast_ok H1 0 n b pb tb) fun v H' ⟨hr,e⟩=>?_
   subst hr
   rw [e]
   try (refine ⟨AH.ext.refl _,?_⟩)
   refine ACalls.mono (plain_ok H1 (castC 0 n b)) fun v H' ⟨hr,e⟩=>?_
   subst hr
   rw [e]
   try (refine ⟨AH.ext.refl _,?_⟩)
   try simp
   apply hK;clear hK K
   exact AW_ret (end_ret rfl ⟨by simp [hA],rfl,by omega,fun j hj=>o1 j hj⟩)
theorem ragain_ok (H:AH) {m:RSt} (b:Blk) (pm bm pb tb:V) (mw:m.Wf) (n:Int) :
  ACalls Tryz.prog 16 [.agg (m.cells pm bm),.i .i64 n,.agg (b.cells pb tb)] H fun v H'=>v = .b (if b.height = 0 then decide (m.view = b.view) && decide (m.round = b.round) && decide (m.block = n) else
   if b.author < 0 ∨ 9 < b.author then decide ((castC 0 n b).plain = Cert.zero) else decide (m.fall b.author = (castC 0 n b).plain)) ∧ H' = H:=by
 generalize hX:(if b.height = 0 then decide (m.view = b.view) && decide (m.round = b.round) && decide (m.block = n) else
   if b.author < 0 ∨ 9 < b.author then decide ((castC 0 n b).plain = Cert.zero) else decide (m.fall b.author = (castC 0 n b).plain)) = ans
 refine ACalls.pure (Q:=fun v=>v = .b ans) ⟨_,Tryz.func16,rfl,rfl⟩ ?_
 refine ACalls_body Tryz.func16 rfl rfl ?_
 refine AW_seq ?_
 refine AW_reg [1,3,5] fun K hK=>?_
 simp [init_eq,V.cells]
 obtain ⟨H1,e1,g1,g2,n1,o1⟩:=H.boxed2 (m.cells pm bm) (b.cells pb tb)
 rw [e1]
 have u1:Upd H H1 []:=⟨by omega,fun j hj _=>o1 j hj⟩
 apply hK;clear hK K
 refine AW_seq ?_
 refine AW_seq ?_
 refine AW_reg [1,3,5,10] fun K hK=>?_
 simp [init_eq,aload,afieldAddr,g2]
 apply hK;clear hK K
 refine AW_cond' rfl rfl (fun hc=>?_) (fun hc=>?_)
 · have hh:b.height = 0:=by simpa using hc
   rw [if_pos hh] at hX
   refine AW_seq ?_
   refine AW_regto [6] ⟨51,[(6,.b ans)]⟩ H1 (fun K hk=>?_) (AW_ret (end_ret rfl ⟨rfl,rfl,by omega,fun j hj=>o1 j hj⟩))
   rw [← hX] at hk
   by_cases z1:m.view = b.view
   · by_cases z2:m.round = b.round
     · simpa [init_eq,aload,afieldAddr,g1,g2,RSt.c1,RSt.c3,RSt.c4,z1,z2] using hk
     · simpa [init_eq,aload,afieldAddr,g1,g2,RSt.c1,RSt.c3,RSt.c4,z1,z2] using hk
   · simpa [init_eq,aload,afieldAddr,g1,g2,RSt.c1,RSt.c3,RSt.c4,z1] using hk
 have hh:b.height ≠ 0:=by simpa using hc
 rw [if_neg hh] at hX
 have hpl:(castC 0 n b).plain = { castC 0 n b with signers:=0#32 }:=plain_eq (by unfold castC; split <;> rfl)
 refine AW_skip ?_
 refine AW_seq ?_
 refine AW_reg [3,5,7] fun K hK=>?_
 simp [init_eq,aload,g2,blk_take]
 refine ACalls.mono (rcast_ok H1 0 n b pb tb) fun v H' ⟨hr,e⟩=>?_
 subst hr
 rw [e]
 try simp [V.cells]
 refine ⟨_,cert_store (AH.get_new_same ..) rfl _,?_⟩
 obtain ⟨H2,e2,g3,n2,o2⟩:=boxS H1 Cert.zero.cells (castC 0 n b).cells
 rw [e2]
 have u2:Upd H1 H2 []:=⟨by omega,fun j hj _=>o2 j hj⟩
 apply hK;clear hK K
 obtain ⟨H3,a3,g4,w3⟩:=stF (P:=Tryz.prog) (t:=22) (o:=6) (x:=u32 0#32) g3 (u32_cells _) qsize_22 (by simp)
 rw [Cert.sp6,← hpl] at g4
 have k1:=w3.keep (by simp; omega) (u2.keep (by simp) g1)
 have k2:=w3.keep (by simp; omega) (u2.keep (by simp) g2)
 have uH3:Upd H H3 []:=(u1.trans u2 (by simp)).trans w3 (fun j hj=>.inr (by simp at hj; omega))
 refine AW_seq ?_
 refine AW_reg [3,5,7] fun K hK=>?_
 simp [init_eq,afieldAddr,a3]
 apply hK;clear hK K
 refine AW_seq ?_
 refine AW_cutto ⟨51,[(3,.p (some (H.next,0,0))),(5,.p (some (H.next + 1,0,0))),(7,.p (some (H1.next,0,0))),(40,.b (decide (b.author < 0 ∨ 9 < b.author)))]⟩ H3 ?_ ?_
 · refine AW_regto [3,5,7,40] ⟨51,[(3,.p (some (H.next,0,0))),(5,.p (some (H.next + 1,0,0))),(7,.p (some (H1.next,0,0))),(40,.b (decide (b.author < 0 ∨ 9 < b.author)))]⟩ H3 (fun K hk=>?_) (rend ⟨rfl,rfl⟩)
   by_cases z1:b.author < 0
   · simpa [init_eq,aload,afieldAddr,k2,z1] using hk
   · simpa [init_eq,aload,afieldAddr,k2,z1] using hk
 refine AW_cond' rfl rfl (fun hx=>?_) (fun hx=>?_)
 · have hau:b.author < 0 ∨ 9 < b.author:=by simpa using hx
   rw [if_pos hau] at hX
   refine AW_seq ?_
   refine AW_reg [6] fun K hK=>?_
   simp [init_eq,aload,g4,take_cells,bzC]
   apply hK;clear hK K
   exact AW_ret (end_ret rfl ⟨by simp [← hX],rfl,uH3.1,fun j hj=>uH3.2 j hj (by simp)⟩)
 · have hau:¬ (b.author < 0 ∨ 9 < b.author):=by simpa using hx
   rw [if_neg hau] at hX
   have hau2:0 ≤ b.author ∧ b.author ≤ 9:=by omega
   have hfc:=RSt.fallC (pv:=pm) (bv:=bm) mw (a:=b.author.toNat) (by omega)
   have hle:21 + b.author.toNat * 8 + 8 ≤ (m.cells pm bm).length:=by rw [RSt.len mw]; omega
   have lf:aload Tryz.prog H3 24 (.p (some (H.next,0,21 + b.author.toNat * 8))) = some (.agg (m.fall b.author).cells):=by simp [aload,k1,hfc,hle]; rfl
   have lc:aload Tryz.prog H3 24 (.p (some (H1.next,0,0))) = some (.agg (castC 0 n b).plain.cells):=by simp [aload,g4,take_cells]
   have la:aload Tryz.prog H3 3 (.p (some (H.next + 1,0,3))) = some (.i .i64 b.author):=by simp [aload,k2]
   refine AW_skip ?_
   refine AW_seq ?_
   refine AW_regd [6] pl_16_7 pe_16_7 (by kernel_rfl) (by kernel_rfl) (by decide) fun K hK=>?_
   simp [init_eq,pl_16_7,afieldAddr,arr_addr hau2,lf,lc,la]
   apply hK;clear hK K
   exact AW_ret (end_ret rfl ⟨by simp [← hX],rfl,uH3.1,fun j hj=>uH3.2 j hj (by simp)⟩)
/-- Both answer the same. -/
theorem Rel.again {s : SSt} {m : RSt} {k : Nat} (h : Rel s m) (ok : s.Ok k) (n : Int) (b : Blk) : againB s n b = (if b.height = 0 then decide (m.view = b.view) && decide (m.round = b.round) && decide (m.block = n) else
      if b.author < 0 ∨ 9 < b.author then decide ((castC 0 n b).plain = Cert.zero) else decide (m.fall b.author = (castC 0 n b).plain)):=by
 unfold againB
 by_cases hh:b.height = 0
 · rw [if_pos hh,if_pos hh,h.view,h.round,h.block]
 · rw [if_neg hh,if_neg hh]
   by_cases ha:b.author < 0 ∨ 9 < b.author
   · rw [if_pos ha]
     have hz:s.fell b.author = Cert.zero:=by
      rcases ofC_mem (ls:=s.falls) (a:=b.author) with e | ⟨e,e2⟩
      · exact e
      · have:=ok.fr _ e; omega
     rw [hz]
     exact decide_eq_decide.2 ⟨Eq.symm,Eq.symm⟩
   · rw [if_neg ha,h.fell _ (by omega)]
end Go.Proofs.YtaidfojbnfkclaaGreatDoor
