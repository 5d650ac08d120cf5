/-
  Package safe: only,certified,form.
-/
import Derived.Test.YtaidfojbnfkclaaGreatDoorSafe0
set_option linter.unusedVariables false
set_option linter.unusedSimpArgs false
namespace Go.Proofs.YtaidfojbnfkclaaGreatDoor
open Go Go.Abs Go.Proofs
set_option maxRecDepth 100000
attribute [local irreducible] AEnd AW ACalls
@[simp] theorem SRec.lts (n:Nat) (r:SRec):V.lts n r.cells = true:=by simp [SRec.cells,Cert.cells,u32]
theorem SRec.certT (r:SRec):r.cells.tail.take 8 = r.cert.cells:=rfl
@[simp] theorem acells (l:List V):(V.agg l).cells = some l:=rfl
/-- Under way in safe.only: the record, the result, what is kept. -/
structure SO (H G:AH) (r:SRec) (X:List V):Prop where
 mm:G.get H.next = some (.cells r.cells 0 false 0)
 rs:G.get (H.next + 1) = some (.cells SRec.zero.cells 0 false 0)
 xx:G.get (H.next + 2) = some (.cells X 0 false 0)
 nx:H.next + 3 ≤ G.next
 old:∀ j,j < H.next → G.get j = H.get j
theorem SO.set {H G:AH} {r:SRec} {X Y:List V} (h:SO H G r X):SO H (G.set (H.next + 2) (.cells Y 0 false 0)) r Y:=by
 have hn:=h.nx
 refine ⟨?_,?_,?_,hn,fun j hj=>?_⟩
 · rw [AH.get_set_ne (by omega)]; exact h.mm
 · rw [AH.get_set_ne (by omega)]; exact h.rs
 · simp [AH.get_set]; omega
 · rw [AH.get_set_ne (by omega)]; exact h.old j hj
set_option maxHeartbeats 4000000 in
theorem sonly_ok (H:AH) (r:SRec):ACalls Tryz.prog 77 [.agg r.cells] H fun v H'=>v = .agg r.only.cells ∧ H' = H:=by
 refine ACalls.pure (Q:=fun v=>v = .agg r.only.cells) ⟨_,Tryz.func77,rfl,rfl⟩ ?_
 refine ACalls_body Tryz.func77 rfl rfl ?_
 have hz:abuild Tryz.prog 49 [(0,.i .i64 r.kind)] = some (.agg ({ SRec.zero with kind:=r.kind }:SRec).cells):=by simp [abuild,afill,V.cells,splice]; rfl
 refine AW_seq ?_
 refine AW_reg [1,2] fun K hK=>?_
 simp [init_eq,V.cells]
 apply hK;clear hK K
 obtain ⟨G,e1,g1,g2,g3,gn,go⟩:=H.boxed3 r.cells SRec.zero.cells SRec.zero.cells
 have T0:SO H G r SRec.zero.cells:=⟨g1,g2,g3,by omega,go⟩
 refine AW_seq ?_
 refine AW_reg [1,2,3] fun K hK=>?_
 simp [init_eq,afieldAddr,aload,AH.get_new,hz,V.cells,astore]
 apply hK;clear hK K
 have T1:=T0.set (Y:=splice SRec.zero.cells 0 ({ SRec.zero with kind:=r.kind }:SRec).cells)
 rw [SRec.wall] at T1
 rw [← e1] at T1
 generalize hG1:AH.set _ _ _ = G1
 have T2:SO H G1 r ({ SRec.zero with kind:=r.kind }:SRec).cells:=by rw [← hG1]; exact T1
 clear hG1 e1 g1 g2 g3 gn go T0 T1
 have hlt:H.next + 2 < G1.next:=by have:=T2.nx; omega
 have ne:¬ H.next = H.next + 2:=by omega
 refine AW_cut (fun ρ G=>ρ = ⟨46,[(2,.p (some (H.next + 1,0,0))),(3,.p (some (H.next + 2,0,0)))]⟩ ∧ SO H G r r.only.cells) ?_ ?_
 · refine AW_seq ?_
   refine AW_reg [1,2,3,8] fun K hK=>?_
   simp [init_eq,afieldAddr,aload,T2.mm]
   apply hK;clear hK K
   rcases kinds r.kind with hk | hk | hk | hk | hk | hk | hk | hk | hk | hk | hk
   case inl | inr.inr.inr.inl =>
     all_goals
       have ho:r.only = { SRec.zero with kind:=r.kind,cert:=r.cert,parent:=r.parent }:=by unfold SRec.only; rw [hk]; rfl
       rw [ho]
       repeat (first
        | refine AW_seq ?_
        | refine AW_block ?_
        | refine AW_skip ?_
        | refine AW_condT rfl ?_
        | refine AW_condF rfl ?_
        | (refine AW_reg [1, 2, 3, 8, 9, 18, 23, 31, 39] fun K hK => ?_
           simp [init_eq,hk]
           apply hK;clear hK K))
       refine AW_regm (.only [H.next]) [1,2,3] pl_77_5 pe_77_5 (by kernel_rfl) (by kernel_rfl) (by decide) fun K hK=>?_
       simp [init_eq,pl_77_5,APlan_takem,through,tkOk,rid,afieldAddr,aload,astore,T2.mm,T2.xx,V.cells,AH.get_set,hlt,ne,SRec.certC,SRec.certT,SRec.parC,SRec.w1,SRec.w9,RM]
       apply hK;clear hK K
       refine bend (rend ⟨_,by simp,rfl,?_⟩)
       have:=(T2.set (Y:=({ SRec.zero with kind:=r.kind,cert:=r.cert }:SRec).cells)).set (Y:=({ SRec.zero with kind:=r.kind,cert:=r.cert,parent:=r.parent }:SRec).cells)
       exact this
   case inr.inr.inr.inr.inl =>
     have ho:r.only = { SRec.zero with kind:=r.kind,cert:=r.cert }:=by unfold SRec.only; rw [hk]; rfl
     rw [ho]
     repeat (first
      | refine AW_seq ?_
      | refine AW_block ?_
      | refine AW_skip ?_
      | refine AW_condT rfl ?_
      | refine AW_condF rfl ?_
      | (refine AW_reg [1, 2, 3, 8, 9, 18, 23, 31, 39] fun K hK => ?_
         simp [init_eq,hk,afieldAddr,aload,astore,T2.mm,T2.xx,V.cells,SRec.certC,SRec.certT,SRec.w1]
         apply hK;clear hK K))
     refine bend (rend ⟨_,by simp,rfl,?_⟩)
     have t:=T2.set (Y:=({ SRec.zero with kind:=r.kind,cert:=r.cert }:SRec).cells)
     simp only [hk] at t ⊢
     exact t
   case inr.inr.inr.inr.inr.inr.inl =>
     have ho:r.only = { SRec.zero with kind:=r.kind,set:=r.set,author:=r.author }:=by unfold SRec.only; rw [hk]; rfl
     rw [ho]
     repeat (first
      | refine AW_seq ?_
      | refine AW_block ?_
      | refine AW_skip ?_
      | refine AW_condT rfl ?_
      | refine AW_condF rfl ?_
      | (refine AW_reg [1, 2, 3, 8, 9, 18, 23, 31, 39] fun K hK => ?_
         simp [init_eq,hk]
         apply hK;clear hK K))
     refine AW_regm (.only [H.next]) [1,2,3] pl_77_9 pe_77_9 (by kernel_rfl) (by kernel_rfl) (by decide) fun K hK=>?_
     simp [init_eq,pl_77_9,APlan_takem,through,tkOk,rid,afieldAddr,aload,astore,T2.mm,T2.xx,V.cells,AH.get_set,hlt,ne,u32,SRec.w17u,SRec.w18,RM]
     apply hK;clear hK K
     refine bend (rend ⟨_,by simp,rfl,?_⟩)
     exact (T2.set (Y:=({ SRec.zero with kind:=r.kind,set:=r.set }:SRec).cells)).set (Y:=({ SRec.zero with kind:=r.kind,set:=r.set,author:=r.author }:SRec).cells)
   case inr.inr.inr.inr.inr.inr.inr.inl =>
     have ho:r.only = { SRec.zero with kind:=r.kind,count:=r.count,block:=r.block }:=by unfold SRec.only; rw [hk]; rfl
     rw [ho]
     repeat (first
      | refine AW_seq ?_
      | refine AW_block ?_
      | refine AW_skip ?_
      | refine AW_condT rfl ?_
      | refine AW_condF rfl ?_
      | (refine AW_reg [1, 2, 3, 8, 9, 18, 23, 31, 39] fun K hK => ?_
         simp [init_eq,hk]
         apply hK;clear hK K))
     refine AW_regm (.only [H.next]) [1,2,3] pl_77_11 pe_77_11 (by kernel_rfl) (by kernel_rfl) (by decide) fun K hK=>?_
     simp [init_eq,pl_77_11,APlan_takem,through,tkOk,rid,afieldAddr,aload,astore,T2.mm,T2.xx,V.cells,AH.get_set,hlt,ne,SRec.w19,SRec.w20,RM]
     apply hK;clear hK K
     refine bend (rend ⟨_,by simp,rfl,?_⟩)
     exact (T2.set (Y:=({ SRec.zero with kind:=r.kind,count:=r.count }:SRec).cells)).set (Y:=({ SRec.zero with kind:=r.kind,count:=r.count,block:=r.block }:SRec).cells)
   case inr.inr.inr.inr.inr.inr.inr.inr.inl | inr.inr.inr.inr.inr.inr.inr.inr.inr.inl =>
     all_goals
       have ho:r.only = { SRec.zero with kind:=r.kind,text:=r.text }:=by unfold SRec.only; rw [hk]; rfl
       rw [ho]
       repeat (first
        | refine AW_seq ?_
        | refine AW_block ?_
        | refine AW_skip ?_
        | refine AW_condT rfl ?_
        | refine AW_condF rfl ?_
        | (refine AW_reg [1, 2, 3, 8, 9, 18, 23, 31, 39] fun K hK => ?_
           simp [init_eq,hk,afieldAddr,aload,astore,T2.mm,T2.xx,V.cells,SRec.w21]
           apply hK;clear hK K))
       refine bend (rend ⟨_,by simp,rfl,?_⟩)
       have t:=T2.set (Y:=({ SRec.zero with kind:=r.kind,text:=r.text }:SRec).cells)
       simp only [hk] at t ⊢
       exact t
   all_goals
     have ho:r.only = { SRec.zero with kind:=r.kind }:=by
      unfold SRec.only
      first
        | (rw [hk]; rfl)
        | (rw [kclass_bad hk])
     rw [ho]
     have h1:¬ r.kind = 1:=by omega
     have h4:¬ r.kind = 4:=by omega
     have h5:¬ r.kind = 5:=by omega
     have h7:¬ r.kind = 7:=by omega
     have h8:¬ r.kind = 8:=by omega
     have h9:¬ r.kind = 9:=by omega
     have h10:¬ r.kind = 10:=by omega
     clear hk
     repeat (first
      | refine AW_seq ?_
      | refine AW_block ?_
      | refine AW_skip ?_
      | refine AW_condT rfl ?_
      | refine AW_condF rfl ?_
      | (refine AW_reg [1, 2, 3, 8, 9, 18, 23, 31, 39] fun K hK => ?_
         simp [init_eq,h1,h4,h5,h7,h8,h9,h10]
         apply hK;clear hK K))
     exact bend (rend ⟨_,by simp,rfl,T2⟩)
 · rintro ρ G2 ⟨rfl,T3⟩
   have hn:=T3.nx
   refine AW_seq ?_
   refine AW_reg [2] fun K hK=>?_
   simp [init_eq,aload,T3.xx,SRec.take,V.cells,astore,T3.rs,SRec.wall]
   apply hK;clear hK K
   refine AW_ret (end_ret (ares_cell (v:=.agg r.only.cells) ?_) ⟨rfl,by simp,by simp; omega,fun j hj=>by rw [AH.get_set_ne (by omega)]; exact T3.old j hj⟩)
   simp [aload,AH.get_set,show H.next + 1 < G2.next by omega,SRec.take]
/-- Three cells of a record that somebody points at. -/
theorem rec_at {G:AH} {q:Nat} {r:SRec} (h:G.get q = some (.cells r.cells 0 false 0)) :
  aload Tryz.prog G 3 (.p (some (q,0,0))) = some (.i .i64 r.kind) ∧ aload Tryz.prog G 24 (.p (some (q,0,1))) = some (.agg r.cert.cells) ∧ aload Tryz.prog G 24 (.p (some (q,0,9))) = some (.agg r.parent.cells) ∧
  aload Tryz.prog G 22 (.p (some (q,0,17))) = some (u32 r.set) ∧ aload Tryz.prog G 3 (.p (some (q,0,18))) = some (.i .i64 r.author) ∧ aload Tryz.prog G 3 (.p (some (q,0,19))) = some (.i .i64 r.count) ∧
  aload Tryz.prog G 3 (.p (some (q,0,20))) = some (.i .i64 r.block) ∧ aload Tryz.prog G 9 (.p (some (q,0,21))) = some (.s r.text):=by
 refine ⟨?_,?_,?_,?_,?_,?_,?_,?_⟩ <;> simp [aload,h,SRec.certC,SRec.certT,SRec.parC]
theorem certified_ok (H:AH) {q:Nat} {r:SRec} (hq:H.get q = some (.cells r.cells 0 false 0)) (hk:r.kind = 1 ∨ r.kind = 4 ∨ r.kind = 5) :
  ACalls Tryz.prog 78 [.p (some (q,0,0))] H fun v H'=>v = .b r.certified ∧ H' = H:=by
 refine ACalls.pure (Q:=fun v=>v = .b r.certified) ⟨_,Tryz.func78,rfl,rfl⟩ ?_
 refine ACalls_body Tryz.func78 rfl rfl ?_
 have hql:=AH.get_lt hq
 refine AW_seq ?_
 refine AW_reg [0] fun K hK=>?_
 simp [init_eq]
 apply hK;clear hK K
 refine AW_seq ?_
 refine AW_reg [0,3] fun K hK=>?_
 simp [init_eq,afieldAddr,rec_at hq,V.cells,astore,AH.get_new]
 apply hK;clear hK K
 generalize hH1:AH.set _ H.next _ = H1
 have u1:Upd H H1 []:=by
  rw [← hH1]
  exact ⟨by simp,fun j hj _=>by rw [AH.get_set_ne (by omega),AH.get_new,if_neg (by omega)]⟩
 have c1:H1.get H.next = some (.cells r.cert.cells 0 false 0):=by
  rw [← hH1]; simp [AH.get_set]; exact splice_all rfl
 clear hH1
 have q1:=u1.keep (by simp) hq
 have fin:∀ b:Bool,b = r.certified → V.b b = .b r.certified ∧ V.lt H.next (.b b) = true ∧ H.next ≤ H1.next ∧ ∀ j,j < H.next → H1.get j = H.get j:=fun b hb=>⟨by rw [hb],rfl,u1.1,fun j hj=>u1.2 j hj (by simp)⟩
 have ldc:aload Tryz.prog H1 24 (.p (some (H.next,0,0))) = some (.agg r.cert.cells):=by simp [aload,c1,take_cells]
 have ldk:aload Tryz.prog H1 3 (.p (some (H.next,0,0))) = some (.i .i64 r.cert.kind):=by simp [aload,c1]
 have ldo:aload Tryz.prog H1 22 (.p (some (H.next,0,7))) = some (u32 r.cert.coin):=by simp [aload,c1]
 refine AW_seq ?_
 refine AW_seq ?_
 refine AW_reg [0,3,10] fun K hK=>?_
 simp [init_eq,ldc]
 refine ACalls.mono (check_ok H1 r.cert) fun v G ⟨hr,e⟩=>?_
 subst hr e
 try simp
 apply hK;clear hK K
 refine AW_cond' rfl rfl (fun hc=>?_) (fun hc=>?_)
 · have h1:r.cert.ok = false:=by
     cases h:r.cert.ok
     · rfl
     · simp [Cert.check,h] at hc
   repeat refine AW_seq ?_
   refine AW_reg [2] fun K hK=>?_
   simp [init_eq]
   apply hK;clear hK K
   exact AW_ret (end_ret rfl (fin false (by simp [SRec.certified,h1])))
 have h1:r.cert.ok = true:=by
  cases h:r.cert.ok
  · simp [Cert.check,h] at hc
  · rfl
 refine AW_skip ?_
 refine AW_seq ?_
 refine AW_seq ?_
 refine AW_reg [0,3,14] fun K hK=>?_
 simp [init_eq,afieldAddr,rec_at q1]
 apply hK;clear hK K
 refine AW_block ?_
 refine AW_seq ?_
 refine AW_reg [0,3,14,15] fun K hK=>?_
 simp [init_eq]
 apply hK;clear hK K
 rcases hk with hk | hk | hk
 · refine AW_cond' rfl rfl (fun hc=>?_) (fun hc=>by simp [hk] at hc)
   refine AW_seq ?_
   refine AW_regto [2] ⟨53,[(2,.b r.certified)]⟩ G (fun K hK=>?_) (AW_ret (end_ret rfl (fin _ rfl)))
   have hce:r.certified = (decide (r.cert.kind = 1) && r.parent.ok):=by simp [SRec.certified,h1,hk]
   rw [hce] at hK
   by_cases g:r.cert.kind = 1
   · simp [init_eq,afieldAddr,ldk,g,rec_at q1]
     refine ACalls.mono (check_ok G r.parent) fun v G' ⟨hr,e⟩=>?_
     subst hr e
     cases h:r.parent.ok <;> simpa [Cert.check,h,g] using hK
   · simpa [init_eq,afieldAddr,ldk,g] using hK
 · refine AW_cond' rfl rfl (fun hc=>by simp [hk] at hc) (fun hc=>?_)
   refine AW_seq ?_
   refine AW_reg [0,3,28] fun K hK=>?_
   simp [init_eq]
   apply hK;clear hK K
   refine AW_cond' rfl rfl (fun hc=>?_) (fun hc=>by simp [hk] at hc)
   refine AW_seq ?_
   refine AW_regto [2] ⟨53,[(2,.b r.certified)]⟩ G (fun K hK=>?_) (AW_ret (end_ret rfl (fin _ rfl)))
   have hce:r.certified = (decide (r.cert.kind = 2) && decide (r.cert.coin = 0#32) && r.parent.ok):=by simp [SRec.certified,h1,hk]
   rw [hce] at hK
   by_cases g:r.cert.kind = 2
   · by_cases g2:r.cert.coin = 0#32
     · simp [init_eq,afieldAddr,ldk,ldo,g,g2,rec_at q1]
       refine ACalls.mono (check_ok G r.parent) fun v G' ⟨hr,e⟩=>?_
       subst hr e
       cases h:r.parent.ok <;> simpa [Cert.check,h,g,g2] using hK
     · simpa [init_eq,afieldAddr,ldk,ldo,g,g2] using hK
   · simpa [init_eq,afieldAddr,ldk,g] using hK
 · refine AW_cond' rfl rfl (fun hc=>by simp [hk] at hc) (fun hc=>?_)
   refine AW_seq ?_
   refine AW_reg [0,3,28] fun K hK=>?_
   simp [init_eq]
   apply hK;clear hK K
   refine AW_cond' rfl rfl (fun hc=>by simp [hk] at hc) (fun hc=>?_)
   refine AW_skip ?_
   refine bend (rend ?_)
   refine AW_seq ?_
   refine AW_regto [2] ⟨53,[(2,.b r.certified)]⟩ G (fun K hK=>?_) (AW_ret (end_ret rfl (fin _ rfl)))
   have hce:r.certified = (decide (r.cert.kind = 1) || r.cert.endorsed):=by simp [SRec.certified,h1,hk]
   rw [hce] at hK
   by_cases g:r.cert.kind = 1
   · simpa [init_eq,afieldAddr,ldk,g] using hK
   · simp [init_eq,afieldAddr,ldk,g,ldc]
     refine ACalls.mono (endorsed_ok G r.cert) fun v G' ⟨hr,e⟩=>?_
     subst hr e
     simpa [g] using hK
end Go.Proofs.YtaidfojbnfkclaaGreatDoor
