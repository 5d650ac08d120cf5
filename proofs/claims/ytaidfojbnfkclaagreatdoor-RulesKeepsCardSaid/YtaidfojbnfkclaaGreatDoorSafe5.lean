/-
  The document's records: Great, Form, Bytes.
-/
import Derived.Test.YtaidfojbnfkclaaGreatDoorSafe1
import Derived.Test.YtaidfojbnfkclaaGreatDoorTxtH
import Derived.Test.YtaidfojbnfkclaaGreatDoorTxtC
set_option linter.unusedVariables false
set_option linter.unusedSimpArgs false
namespace Go.Proofs.YtaidfojbnfkclaaGreatDoor
open Go Go.Abs Go.Proofs
set_option maxRecDepth 100000
attribute [local irreducible] AEnd AW ACalls
theorem vc_i (k:IntKind) (n:Int):(V.i k n).cells = some [.i k n]:=rfl
theorem vc_s (l:List UInt8):(V.s l).cells = some [.s l]:=rfl
def numOk (n:Int):Bool:=decide (1 ≤ n ∧ n ≤ 2147483647)
theorem rnumber_ok (H:AH) (n:Int):ACalls Tryz.prog 108 [.i .i64 n] H fun v H'=>v = .b (numOk n) ∧ H' = H:=by
 refine ACalls_body Tryz.func108 rfl rfl ?_
 refine AW_seq ?_
 refine AW_reg [0] fun K hK=>?_
 simp [init_eq]
 apply hK;clear hK K
 refine AW_seq ?_
 refine AW_regto [2] ⟨9,[(2,.b (numOk n))]⟩ H (fun K hk=>?_) (AW_ret (end_ret rfl ⟨rfl,rfl⟩))
 by_cases h1:1 ≤ n
 · simpa [init_eq,h1,numOk] using hk
 · simpa [init_eq,h1,numOk] using hk
/-- Under way in hallmootref19.Form. -/
structure SR (H G:AH) (r X:SRec):Prop where
 mm:G.get H.next = some (.cells r.cells 0 false 0)
 xx:G.get (H.next + 1) = some (.cells X.cells 0 false 0)
 cc:G.get (H.next + 2) = some (.cells r.cert.cells 0 false 0)
 nx:H.next + 3 ≤ G.next
 old:∀ j,j < H.next → G.get j = H.get j
theorem SR.set {H G:AH} {r X:SRec} (h:SR H G r X) (Y:SRec):SR H (G.set (H.next + 1) (.cells Y.cells 0 false 0)) r Y:=by
 have hn:=h.nx
 refine ⟨?_,?_,?_,hn,fun j hj=>?_⟩
 · rw [AH.get_set_ne (by omega)]; exact h.mm
 · simp [AH.get_set]; omega
 · rw [AH.get_set_ne (by omega)]; exact h.cc
 · rw [AH.get_set_ne (by omega)]; exact h.old j hj
theorem SR.upd {H G G':AH} {r X:SRec} (h:SR H G r X) (u:Upd G G' []):SR H G' r X:=by
 refine ⟨u.keep (by simp) h.mm,u.keep (by simp) h.xx,u.keep (by simp) h.cc,Nat.le_trans h.nx u.1,fun j hj=>?_⟩
 rw [u.2 j (by have:=h.nx; omega) (by simp),h.old j hj]
theorem only_cc {r:SRec} (h:kclass r.kind = .cc):(({ r with kind:=0,cert:=Cert.zero,parent:=Cert.zero }:SRec) = SRec.zero) = (r = r.only):=by
 unfold SRec.only; rw [h]; cases r; simp [SRec.zero]
theorem only_c {r:SRec} (h:kclass r.kind = .c):(({ r with kind:=0,cert:=Cert.zero }:SRec) = SRec.zero) = (r = r.only):=by
 unfold SRec.only; rw [h]; cases r; simp [SRec.zero]
theorem only_sa {r:SRec} (h:kclass r.kind = .sa):(({ r with kind:=0,set:=0#32,author:=0 }:SRec) = SRec.zero) = (r = r.only):=by
 unfold SRec.only; rw [h]; cases r; simp [SRec.zero]
theorem only_nb {r:SRec} (h:kclass r.kind = .nb):(({ r with kind:=0,count:=0,block:=0 }:SRec) = SRec.zero) = (r = r.only):=by
 unfold SRec.only; rw [h]; cases r; simp [SRec.zero]
theorem only_tx {r:SRec} (h:kclass r.kind = .tx):(({ r with kind:=0,text:=[] }:SRec) = SRec.zero) = (r = r.only):=by
 unfold SRec.only; rw [h]; cases r; simp [SRec.zero]
theorem only_no {r:SRec} (h:kclass r.kind = .no):(({ r with kind:=0 }:SRec) = SRec.zero) = (r = r.only):=by
 unfold SRec.only; rw [h]; cases r; simp [SRec.zero]
theorem form_ne {r:SRec} (h:¬ r = r.only):r.form = 190:=by unfold SRec.form; rw [if_pos (.inr h)]
theorem form_eq {r:SRec} (h:r = r.only) (hb:kclass r.kind ≠ .bad):r.form = match kclass r.kind with
  | .cc=>if r.certified then 0 else 110
  | .c=>if r.certified then 0 else 110
  | .sa=>if r.setBad then 1 else 0
  | .nb=>if r.numBad then 1 else 0
  | .tx=>if (parseBlk r.text).2 = 0 then 0 else 120
  | _=>0:=by
 unfold SRec.form
 rw [if_neg (by rintro (h1 | h1); exact hb h1; exact h1 h)]
 cases kclass r.kind <;> rfl
theorem ok_kind {c:Cert} (h:c.ok = true):c.kind = 0 ∨ c.kind = 1 ∨ c.kind = 2:=by
 unfold Cert.ok at h
 by_cases h0:c.kind = 0
 · exact .inl h0
 · by_cases h1:c.kind = 1
   · exact .inr (.inl h1)
   · by_cases h2:c.kind = 2
     · exact .inr (.inr h2)
     · rw [if_neg h0,if_neg h1,if_neg h2] at h; cases h
theorem bzero:abuild Tryz.prog 52 [] = some (.agg SRec.zero.cells):=by simp [abuild,afill]; rfl
theorem bzeroC:abuild Tryz.prog 24 [] = some (.agg Cert.zero.cells):=by first | (simp [abuild,afill]; done) | (simp [abuild,afill]; rfl)
set_option maxHeartbeats 16000000 in
theorem rform_ok (H:AH) (r:SRec):ACalls Tryz.prog 67 [.agg r.cells] H fun v H'=>v = .i .i64 r.form ∧ H' = H:=by
 refine ACalls.pure (Q:=fun v=>v = .i .i64 r.form) ⟨_,Tryz.func67,rfl,rfl⟩ ?_
 refine ACalls_body Tryz.func67 rfl rfl ?_
 refine AW_seq ?_
 refine AW_reg [1] fun K hK=>?_
 simp [init_eq,V.cells]
 apply hK;clear hK K
 obtain ⟨G,e1,g1,g2,g3,gn,go⟩:=H.boxed3 r.cells r.cells r.cert.cells
 refine AW_seq ?_
 refine AW_reg [1,3] fun K hK=>?_
 simp [init_eq,aload,AH.get_new,SRec.take,V.cells,astore]
 apply hK;clear hK K
 generalize hGa:AH.set _ _ _ = Ga
 have a1:Ga.get H.next = some (.cells r.cells 0 false 0):=by rw [← hGa]; simp [AH.get_set,AH.get_new]
 have a2:Ga.get (H.next + 1) = some (.cells r.cells 0 false 0):=by rw [← hGa]; simp [AH.get_set]; exact splice_all rfl
 have an:Ga.next = H.next + 2:=by rw [← hGa]; rfl
 have ao:∀ j,j < H.next → Ga.get j = H.get j:=fun j hj=>by rw [← hGa,AH.get_set_ne (by simp; omega),AH.get_new,if_neg (by simp; omega),AH.get_new,if_neg (by omega)]
 clear hGa e1 g1 g2 g3 gn go
 have fr:∀ k o n b,qfield Tryz.prog 52 k = some (o,n + 1,b) → ∀ z,afieldAddr Tryz.prog 52 k (.p (some (z,0,0))) = some (.p (some (z,0,o))):=fun k o n b hq z=>by simp [afieldAddr,hq]
 have f0:=fr 0 0 0 false (by simp)
 have f1:=fr 1 1 7 true (by simp)
 have f2:=fr 2 9 7 true (by simp)
 have f3:=fr 3 17 0 false (by simp)
 have f4:=fr 4 18 0 false (by simp)
 have f5:=fr 5 19 0 false (by simp)
 have f6:=fr 6 20 0 false (by simp)
 have f7:=fr 7 21 0 false (by simp)
 clear fr
 have fc0:afieldAddr Tryz.prog 24 0 (.p (some (H.next + 2,0,0))) = some (.p (some (H.next + 2,0,0))) ∧ afieldAddr Tryz.prog 24 7 (.p (some (H.next + 2,0,0))) = some (.p (some (H.next + 2,0,7))):=by simp [afieldAddr]
 refine AW_seq ?_
 have s2:astore Tryz.prog Ga 3 (.p (some (H.next + 1,0,0))) (.i .i64 0) = some (Ga.set (H.next + 1) (.cells ({ r with kind:=0 }:SRec).cells 0 false 0)):=by simp [astore,a2,vc_i,SRec.w0]
 refine AW_reg [1,3] fun K hK=>?_
 simp [init_eq,f0,s2]
 apply hK;clear hK K
 generalize hGb:Ga.set (H.next + 1) (.cells ({ r with kind:=0 }:SRec).cells 0 false 0) = Gb
 have b1:Gb.get H.next = some (.cells r.cells 0 false 0):=by rw [← hGb,AH.get_set_ne (by omega)]; exact a1
 have b2:Gb.get (H.next + 1) = some (.cells ({ r with kind:=0 }:SRec).cells 0 false 0):=by rw [← hGb]; simp [AH.get_set]; omega
 have bn:Gb.next = H.next + 2:=by rw [← hGb]; simp [an]
 have bo:∀ j,j < H.next → Gb.get j = H.get j:=fun j hj=>by rw [← hGb,AH.get_set_ne (by omega)]; exact ao j hj
 clear hGb s2 a1 a2 an ao Ga
 refine AW_seq ?_
 refine AW_reg [1,3,4] fun K hK=>?_
 simp [init_eq,f1,rec_at b1,astore,AH.get_new,V.cells]
 apply hK;clear hK K
 generalize hG0:AH.set _ _ _ = G0
 have T0:SR H G0 r { r with kind:=0 }:=by
  refine ⟨?_,?_,?_,?_,fun j hj=>?_⟩
  · rw [← hG0,AH.get_set_ne (by omega),AH.get_new,if_neg (by omega)]; exact b1
  · rw [← hG0,AH.get_set_ne (by omega),AH.get_new,if_neg (by omega)]; exact b2
  · rw [← hG0,← bn]; simp [AH.get_set]; exact splice_all rfl
  · rw [← hG0]; simp; omega
  · rw [← hG0,AH.get_set_ne (by omega),AH.get_new,if_neg (by omega)]; exact bo j hj
 rw [bn]
 clear hG0 b1 b2 bn bo Gb
 have fin:∀ (x:Int) (G':AH) {X:SRec},x = r.form → SR H G' r X → V.i .i64 x = .i .i64 r.form ∧ V.lt H.next (.i .i64 x) = true ∧ H.next ≤ G'.next ∧ ∀ j,j < H.next → G'.get j = H.get j:=fun x G' X hx hu=>by
  have:=hu.nx
  exact ⟨by rw [hx],rfl,by omega,hu.old⟩
 have ldc:∀ {X:AH} {x:SRec},SR H X r x → aload Tryz.prog X 24 (.p (some (H.next + 2,0,0))) = some (.agg r.cert.cells) ∧ aload Tryz.prog X 3 (.p (some (H.next + 2,0,0))) = some (.i .i64 r.cert.kind) ∧ aload Tryz.prog X 22 (.p (some (H.next + 2,0,7))) = some (u32 r.cert.coin):=fun h=>by
  refine ⟨?_,?_,?_⟩ <;> simp [aload,h.cc,take_cells]
 have ldx:∀ {X:AH} {x:SRec},SR H X r x → aload Tryz.prog X 52 (.p (some (H.next + 1,0,0))) = some (.agg x.cells):=fun h=>by simp [aload,h.xx,SRec.take]
 have stC:∀ {X:AH} {x:SRec},SR H X r x → astore Tryz.prog X 24 (.p (some (H.next + 1,0,1))) (.agg Cert.zero.cells) = some (X.set (H.next + 1) (.cells ({ x with cert:=Cert.zero }:SRec).cells 0 false 0)):=fun h=>by simp [astore,h.xx,SRec.w1]
 have stP:∀ {X:AH} {x:SRec},SR H X r x → astore Tryz.prog X 24 (.p (some (H.next + 1,0,9))) (.agg Cert.zero.cells) = some (X.set (H.next + 1) (.cells ({ x with parent:=Cert.zero }:SRec).cells 0 false 0)):=fun h=>by simp [astore,h.xx,SRec.w9]
 have st17:∀ {X:AH} {x:SRec},SR H X r x → astore Tryz.prog X 22 (.p (some (H.next + 1,0,17))) (u32 0#32) = some (X.set (H.next + 1) (.cells ({ x with set:=0#32 }:SRec).cells 0 false 0)):=fun h=>by simp [astore,h.xx,SRec.w17]
 have st18:∀ {X:AH} {x:SRec},SR H X r x → astore Tryz.prog X 3 (.p (some (H.next + 1,0,18))) (.i .i64 0) = some (X.set (H.next + 1) (.cells ({ x with author:=0 }:SRec).cells 0 false 0)):=fun h=>by simp [astore,h.xx,vc_i,SRec.w18]
 have st19:∀ {X:AH} {x:SRec},SR H X r x → astore Tryz.prog X 3 (.p (some (H.next + 1,0,19))) (.i .i64 0) = some (X.set (H.next + 1) (.cells ({ x with count:=0 }:SRec).cells 0 false 0)):=fun h=>by simp [astore,h.xx,vc_i,SRec.w19]
 have st20:∀ {X:AH} {x:SRec},SR H X r x → astore Tryz.prog X 3 (.p (some (H.next + 1,0,20))) (.i .i64 0) = some (X.set (H.next + 1) (.cells ({ x with block:=0 }:SRec).cells 0 false 0)):=fun h=>by simp [astore,h.xx,vc_i,SRec.w20]
 have st21:∀ {X:AH} {x:SRec},SR H X r x → astore Tryz.prog X 9 (.p (some (H.next + 1,0,21))) (.s []) = some (X.set (H.next + 1) (.cells ({ x with text:=[] }:SRec).cells 0 false 0)):=fun h=>by simp [astore,h.xx,vc_s,SRec.w21]
 refine AW_seq ?_
 refine AW_reg [1,3,4,5] fun K hK=>?_
 simp [init_eq,ldc T0]
 refine ACalls.mono (rcheck_ok G0 r.cert) fun v G' ⟨hr,e⟩=>?_
 subst hr e
 try simp
 apply hK;clear hK K
 refine AW_cut (fun ρ X=>ρ = ⟨147,[]⟩ ∧ (∃ x,SR H X r x) ∧ r.form = 190) ?_ ?_
 rotate_left
 · rintro ρ X ⟨rfl,⟨x,T⟩,h0⟩
   refine AW_seq ?_
   refine AW_reg [2] fun K hK=>?_
   simp [init_eq]
   apply hK;clear hK K
   exact AW_ret (end_ret rfl (fin 190 X h0.symm T))
 refine AW_seq ?_
 refine AW_reg [1,3,4,5,15] fun K hK=>?_
 simp [init_eq,f0,rec_at T0.mm]
 apply hK;clear hK K
 rcases kinds r.kind with hk | hk | hk | hk | hk | hk | hk | hk | hk | hk | hk
 case inl | inr.inr.inr.inl =>
   all_goals
     have hkc:kclass r.kind = .cc:=by rw [hk]; rfl
     have hoe:=only_cc hkc
     repeat (first
      | refine AW_seq ?_
      | refine AW_block ?_
      | refine AW_skip ?_
      | refine AW_condT rfl ?_
      | refine AW_condF rfl ?_
      | (refine AW_reg [1, 3, 4, 5, 15, 16, 59, 66, 90, 115, 132] fun K hK => ?_
         simp [init_eq,hk]
         apply hK;clear hK K))
     refine AW_reg [1,3,4,5] fun K hK=>?_
     simp [init_eq,bzeroC,f1,stC T0]
     apply hK;clear hK K
     have T1:=T0.set { r with kind:=0,cert:=Cert.zero }
     generalize AH.set G' _ _ = G1 at T1 ⊢
     refine AW_seq ?_
     refine AW_reg [1,3,4,5] fun K hK=>?_
     simp [init_eq,bzeroC,f2,stP T1]
     apply hK;clear hK K
     have T2:=T1.set { r with kind:=0,cert:=Cert.zero,parent:=Cert.zero }
     generalize AH.set G1 _ _ = G2 at T2 ⊢
     refine AW_seq ?_
     refine AW_seq ?_
     refine AW_reg [1,4,5,25] fun K hK=>?_
     simp [init_eq,bzero,ldx T2,SRec.aeqR]
     apply hK;clear hK K
     refine AW_cond' rfl rfl (fun hc=>?_) (fun hc=>?_)
     · have h1:¬ r = r.only:=by rw [← hoe]; simpa using hc
       repeat refine AW_seq ?_
       refine AW_reg [2] fun K hK=>?_
       simp [init_eq]
       apply hK;clear hK K
       exact AW_ret (end_ret rfl (fin 190 _ (form_ne h1).symm T2))
     have h1:r = r.only:=by rw [← hoe]; simpa using hc
     have hfe:r.form = if r.certified then 0 else 110:=by rw [form_eq h1 (by rw [hkc]; decide),hkc]
     refine AW_skip ?_
     refine AW_seq ?_
     refine AW_seq ?_
     refine AW_regto [58] ⟨147,[(58,.b (!r.certified))]⟩ G2 (fun K hK=>?_) ?_
     · have hce:r.certified = (r.cert.ok && (if r.kind = 1 then decide (r.cert.kind = 1) && r.parent.ok else if r.kind = 4 then decide (r.cert.kind = 2) && decide (r.cert.coin = 0#32) && r.parent.ok else decide (r.cert.kind = 1) || r.cert.endorsed)):=rfl
       rw [hce,hk] at hK
       cases g0:r.cert.ok
       · simpa [init_eq,g0] using hK
       · simp [init_eq,g0,f2,rec_at T2.mm]
         refine ACalls.mono (rcheck_ok G2 r.parent) fun v G3 ⟨hr,e⟩=>?_
         subst hr e
         cases g2:r.parent.ok
         · simpa [g0,g2,f0,rec_at T2.mm,hk] using hK
         · first
             | (by_cases g3 : r.cert.kind = 1
                · simpa [g0,g2,g3,f0,rec_at T2.mm,hk,fc0,ldc T2] using hK
                · simpa [g0,g2,g3,f0,rec_at T2.mm,hk,fc0,ldc T2] using hK
                done)
             | (by_cases g3 : r.cert.kind = 2
                · by_cases g4:r.cert.coin = 0#32
                  · simpa [g0,g2,g3,g4,f0,rec_at T2.mm,hk,fc0,ldc T2] using hK
                  · simpa [g0,g2,g3,g4,f0,rec_at T2.mm,hk,fc0,ldc T2] using hK
                · simpa [g0,g2,g3,f0,rec_at T2.mm,hk,fc0,ldc T2] using hK)
     refine AW_cond' rfl rfl (fun hc=>?_) (fun hc=>?_)
     · have h2:r.certified = false:=by simpa using hc
       repeat refine AW_seq ?_
       refine AW_reg [2] fun K hK=>?_
       simp [init_eq]
       apply hK;clear hK K
       exact AW_ret (end_ret rfl (fin 110 _ (by rw [hfe,h2]; rfl) T2))
     · have h2:r.certified = true:=by simpa using hc
       refine AW_skip ?_
       repeat refine AW_seq ?_
       refine AW_reg [2] fun K hK=>?_
       simp [init_eq]
       apply hK;clear hK K
       exact AW_ret (end_ret rfl (fin 0 _ (by rw [hfe,h2]; rfl) T2))
 case inr.inr.inr.inr.inl =>
   have hkc:kclass r.kind = .c:=by rw [hk]; rfl
   have hoe:=only_c hkc
   repeat (first
    | refine AW_seq ?_
    | refine AW_block ?_
    | refine AW_skip ?_
    | refine AW_condT rfl ?_
    | refine AW_condF rfl ?_
    | (refine AW_reg [1, 3, 4, 5, 15, 16, 59, 66, 90, 115, 132] fun K hK => ?_
       simp [init_eq,hk]
       apply hK;clear hK K))
   refine AW_reg [1,3,4,5] fun K hK=>?_
   simp [init_eq,bzeroC,f1,stC T0]
   apply hK;clear hK K
   have T2:=T0.set { r with kind:=0,cert:=Cert.zero }
   generalize AH.set G' _ _ = G2 at T2 ⊢
   refine AW_seq ?_
   refine AW_seq ?_
   refine AW_reg [1,4,5,72] fun K hK=>?_
   simp [init_eq,bzero,ldx T2,SRec.aeqR]
   apply hK;clear hK K
   refine AW_cond' rfl rfl (fun hc=>?_) (fun hc=>?_)
   · have h1:¬ r = r.only:=by rw [← hoe]; simpa using hc
     repeat refine AW_seq ?_
     refine AW_reg [2] fun K hK=>?_
     simp [init_eq]
     apply hK;clear hK K
     exact AW_ret (end_ret rfl (fin 190 _ (form_ne h1).symm T2))
   have h1:r = r.only:=by rw [← hoe]; simpa using hc
   have hfe:r.form = if r.certified then 0 else 110:=by rw [form_eq h1 (by rw [hkc]; decide),hkc]
   refine AW_skip ?_
   refine AW_seq ?_
   refine AW_seq ?_
   refine AW_regto [89] ⟨147,[(89,.b (!r.certified))]⟩ G2 (fun K hK=>?_) ?_
   · have hce:r.certified = (r.cert.ok && (decide (r.cert.kind = 1) || r.cert.endorsed)):=by unfold SRec.certified; rw [hk]; rfl
     rw [hce] at hK
     cases g0:r.cert.ok
     · simpa [init_eq,g0] using hK
     · rcases ok_kind g0 with g3 | g3 | g3
       · simpa [init_eq,g0,g3,fc0,ldc T2,Cert.endorsed] using hK
       · simpa [init_eq,g0,g3,fc0,ldc T2,Cert.endorsed] using hK
       · by_cases g4:r.cert.coin = 0#32
         · simpa [init_eq,g0,g3,g4,fc0,ldc T2,Cert.endorsed] using hK
         · simpa [init_eq,g0,g3,g4,fc0,ldc T2,Cert.endorsed] using hK
   refine AW_cond' rfl rfl (fun hc=>?_) (fun hc=>?_)
   · have h2:r.certified = false:=by simpa using hc
     repeat refine AW_seq ?_
     refine AW_reg [2] fun K hK=>?_
     simp [init_eq]
     apply hK;clear hK K
     exact AW_ret (end_ret rfl (fin 110 _ (by rw [hfe,h2]; rfl) T2))
   · have h2:r.certified = true:=by simpa using hc
     refine AW_skip ?_
     repeat refine AW_seq ?_
     refine AW_reg [2] fun K hK=>?_
     simp [init_eq]
     apply hK;clear hK K
     exact AW_ret (end_ret rfl (fin 0 _ (by rw [hfe,h2]; rfl) T2))
 case inr.inr.inr.inr.inr.inr.inl =>
   have hkc:kclass r.kind = .sa:=by rw [hk]; rfl
   have hoe:=only_sa hkc
   repeat (first
    | refine AW_seq ?_
    | refine AW_block ?_
    | refine AW_skip ?_
    | refine AW_condT rfl ?_
    | refine AW_condF rfl ?_
    | (refine AW_reg [1, 3, 4, 5, 15, 16, 59, 66, 90, 115, 132] fun K hK => ?_
       simp [init_eq,hk]
       apply hK;clear hK K))
   refine AW_reg [1,3] fun K hK=>?_
   simp [init_eq,f3,st17 T0]
   apply hK;clear hK K
   have T1:=T0.set { r with kind:=0,set:=0#32 }
   generalize AH.set G' _ _ = G1 at T1 ⊢
   refine AW_seq ?_
   refine AW_reg [1,3] fun K hK=>?_
   simp [init_eq,f4,st18 T1]
   apply hK;clear hK K
   have T2:=T1.set { r with kind:=0,set:=0#32,author:=0 }
   generalize AH.set G1 _ _ = G2 at T2 ⊢
   refine AW_seq ?_
   refine AW_seq ?_
   refine AW_reg [1,96] fun K hK=>?_
   simp [init_eq,bzero,ldx T2,SRec.aeqR]
   apply hK;clear hK K
   refine AW_cond' rfl rfl (fun hc=>?_) (fun hc=>?_)
   · have h1:¬ r = r.only:=by rw [← hoe]; simpa using hc
     repeat refine AW_seq ?_
     refine AW_reg [2] fun K hK=>?_
     simp [init_eq]
     apply hK;clear hK K
     exact AW_ret (end_ret rfl (fin 190 _ (form_ne h1).symm T2))
   have h1:r = r.only:=by rw [← hoe]; simpa using hc
   have hfe:r.form = if r.setBad then 1 else 0:=by rw [form_eq h1 (by rw [hkc]; decide),hkc]
   refine AW_skip ?_
   refine AW_seq ?_
   refine AW_seq ?_
   have g0:(r.set = 0#32) = (r.set.toNat < 1):=by
    apply propext
    constructor
    · intro h; rw [h]; decide
    · intro h; exact BitVec.eq_of_toNat_eq (by simp; omega)
   refine AW_regto [114] ⟨147,[(114,.b r.setBad)]⟩ G2 (fun K hK=>?_) ?_
   · have hu1:abin Tryz.prog .lss 22 (u32 r.set) (u32 1#32) = some (.b (decide (r.set.toNat < 1))):=by simp
     have hu2:abin Tryz.prog .gtr 22 (u32 r.set) (u32 1023#32) = some (.b (decide (1023 < r.set.toNat))):=by simp
     have i1:V.i .u32 1 = u32 1#32:=rfl
     have i2:V.i .u32 1023 = u32 1023#32:=rfl
     have hsb:r.setBad = (decide (r.set.toNat < 1) || decide (1023 < r.set.toNat) || decide (r.author < 0) || decide (9 < r.author)):=by
      unfold SRec.setBad
      rw [setOk_num]
      simp only [g0]
      rw [Bool.eq_iff_iff]
      simp only [Bool.or_eq_true,decide_eq_true_eq,Bool.not_eq_true',decide_eq_false_iff_not]
      omega
     rw [hsb] at hK
     by_cases h2:r.set.toNat < 1
     · simpa [init_eq,f3,rec_at T2.mm,i1,hu1,h2] using hK
     · by_cases h3:1023 < r.set.toNat
       · simpa [init_eq,f3,rec_at T2.mm,i1,i2,hu1,hu2,h2,h3] using hK
       · by_cases h4:r.author < 0
         · simpa [init_eq,f3,f4,rec_at T2.mm,i1,i2,hu1,hu2,h2,h3,h4] using hK
         · simpa [init_eq,f3,f4,rec_at T2.mm,i1,i2,hu1,hu2,h2,h3,h4] using hK
   refine AW_cond' rfl rfl (fun hc=>?_) (fun hc=>?_)
   · repeat refine AW_seq ?_
     refine AW_reg [2] fun K hK=>?_
     simp [init_eq]
     apply hK;clear hK K
     exact AW_ret (end_ret rfl (fin 1 _ (by rw [hfe,hc]; rfl) T2))
   · refine AW_skip ?_
     repeat refine AW_seq ?_
     refine AW_reg [2] fun K hK=>?_
     simp [init_eq]
     apply hK;clear hK K
     exact AW_ret (end_ret rfl (fin 0 _ (by rw [hfe,hc]; rfl) T2))
 case inr.inr.inr.inr.inr.inr.inr.inl =>
   have hkc:kclass r.kind = .nb:=by rw [hk]; rfl
   have hoe:=only_nb hkc
   repeat (first
    | refine AW_seq ?_
    | refine AW_block ?_
    | refine AW_skip ?_
    | refine AW_condT rfl ?_
    | refine AW_condF rfl ?_
    | (refine AW_reg [1, 3, 4, 5, 15, 16, 59, 66, 90, 115, 132] fun K hK => ?_
       simp [init_eq,hk]
       apply hK;clear hK K))
   refine AW_reg [1,3] fun K hK=>?_
   simp [init_eq,f5,st19 T0]
   apply hK;clear hK K
   have T1:=T0.set { r with kind:=0,count:=0 }
   generalize AH.set G' _ _ = G1 at T1 ⊢
   refine AW_seq ?_
   refine AW_reg [1,3] fun K hK=>?_
   simp [init_eq,f6,st20 T1]
   apply hK;clear hK K
   have T2:=T1.set { r with kind:=0,count:=0,block:=0 }
   generalize AH.set G1 _ _ = G2 at T2 ⊢
   refine AW_seq ?_
   refine AW_seq ?_
   refine AW_reg [1,121] fun K hK=>?_
   simp [init_eq,bzero,ldx T2,SRec.aeqR]
   apply hK;clear hK K
   refine AW_cond' rfl rfl (fun hc=>?_) (fun hc=>?_)
   · have h1:¬ r = r.only:=by rw [← hoe]; simpa using hc
     repeat refine AW_seq ?_
     refine AW_reg [2] fun K hK=>?_
     simp [init_eq]
     apply hK;clear hK K
     exact AW_ret (end_ret rfl (fin 190 _ (form_ne h1).symm T2))
   have h1:r = r.only:=by rw [← hoe]; simpa using hc
   have hfe:r.form = if r.numBad then 1 else 0:=by rw [form_eq h1 (by rw [hkc]; decide),hkc]
   refine AW_skip ?_
   refine AW_seq ?_
   refine AW_seq ?_
   refine AW_regto [131] ⟨147,[(131,.b r.numBad)]⟩ G2 (fun K hK=>?_) ?_
   · have hnb:r.numBad = (!numOk r.count || !numOk r.block):=by
       unfold SRec.numBad numOk
       rw [Bool.eq_iff_iff]
       simp only [Bool.or_eq_true,decide_eq_true_eq,Bool.not_eq_true',decide_eq_false_iff_not]
       omega
     rw [hnb] at hK
     simp [init_eq,f5,rec_at T2.mm]
     refine ACalls.mono (rnumber_ok G2 r.count) fun v G3 ⟨hr,e⟩=>?_
     subst hr e
     cases g2:numOk r.count
     · simpa [g2] using hK
     · simp [g2,f6,rec_at T2.mm]
       refine ACalls.mono (rnumber_ok G3 r.block) fun v G4 ⟨hr,e⟩=>?_
       subst hr e
       simpa [g2] using hK
   refine AW_cond' rfl rfl (fun hc=>?_) (fun hc=>?_)
   · repeat refine AW_seq ?_
     refine AW_reg [2] fun K hK=>?_
     simp [init_eq]
     apply hK;clear hK K
     exact AW_ret (end_ret rfl (fin 1 _ (by rw [hfe,hc]; rfl) T2))
   · refine AW_skip ?_
     repeat refine AW_seq ?_
     refine AW_reg [2] fun K hK=>?_
     simp [init_eq]
     apply hK;clear hK K
     exact AW_ret (end_ret rfl (fin 0 _ (by rw [hfe,hc]; rfl) T2))
 case inr.inr.inr.inr.inr.inr.inr.inr.inl | inr.inr.inr.inr.inr.inr.inr.inr.inr.inl =>
   all_goals
     have hkc:kclass r.kind = .tx:=by rw [hk]; rfl
     have hoe:=only_tx hkc
     repeat (first
      | refine AW_seq ?_
      | refine AW_block ?_
      | refine AW_skip ?_
      | refine AW_condT rfl ?_
      | refine AW_condF rfl ?_
      | (refine AW_reg [1, 3, 4, 5, 15, 16, 59, 66, 90, 115, 132] fun K hK => ?_
         simp [init_eq,hk]
         apply hK;clear hK K))
     refine AW_reg [1,3] fun K hK=>?_
     simp [init_eq,f7,st21 T0]
     apply hK;clear hK K
     have T2:=T0.set { r with kind:=0,text:=[] }
     generalize AH.set G' _ _ = G2 at T2 ⊢
     refine AW_seq ?_
     refine AW_seq ?_
     refine AW_reg [1,138] fun K hK=>?_
     simp [init_eq,bzero,ldx T2,SRec.aeqR]
     apply hK;clear hK K
     refine AW_cond' rfl rfl (fun hc=>?_) (fun hc=>?_)
     · have h1:¬ r = r.only:=by rw [← hoe]; simpa using hc
       repeat refine AW_seq ?_
       refine AW_reg [2] fun K hK=>?_
       simp [init_eq]
       apply hK;clear hK K
       exact AW_ret (end_ret rfl (fin 190 _ (form_ne h1).symm T2))
     have h1:r = r.only:=by rw [← hoe]; simpa using hc
     have hfe:r.form = if (parseBlk r.text).2 = 0 then 0 else 120:=by rw [form_eq h1 (by rw [hkc]; decide),hkc]
     refine AW_skip ?_
     refine AW_seq ?_
     refine AW_reg [7] fun K hK=>?_
     simp [init_eq,f7,rec_at T2.mm]
     refine ACalls.mono (rparse_ok G2 r.text) fun v G3 ⟨pv,tv,hr,_,hu⟩=>?_
     subst hr
     simp [V.cells,astore,AH.get_new]
     apply hK;clear hK K
     generalize hG4:AH.set _ G3.next _ = G4
     have u4:Upd G2 G4 []:=by
      refine hu.trans (H'':=G4) ?_ (G:=[]) (by simp)
      rw [← hG4]
      exact ⟨by simp,fun j hj _=>by rw [AH.get_set_ne (by omega),AH.get_new,if_neg (by omega)]⟩
     clear hG4
     have T4:=T2.upd u4
     have heq:=(rparseBlk_eq r.text).2
     refine AW_seq ?_
     refine AW_seq ?_
     refine AW_reg [146] fun K hK=>?_
     simp [init_eq]
     apply hK;clear hK K
     refine AW_cond' rfl rfl (fun hc=>?_) (fun hc=>?_)
     · have h2:¬ (parseBlk r.text).2 = 0:=by rw [← heq]; simpa using hc
       repeat refine AW_seq ?_
       refine AW_reg [2] fun K hK=>?_
       simp [init_eq]
       apply hK;clear hK K
       exact AW_ret (end_ret rfl (fin 120 _ (by rw [hfe,if_neg h2]) T4))
     · have h2:(parseBlk r.text).2 = 0:=by rw [← heq]; simpa using hc
       refine AW_skip ?_
       repeat refine AW_seq ?_
       refine AW_reg [2] fun K hK=>?_
       simp [init_eq]
       apply hK;clear hK K
       exact AW_ret (end_ret rfl (fin 0 _ (by rw [hfe,if_pos h2]) T4))
 case inr.inr.inr.inr.inr.inr.inr.inr.inr.inr =>
   have h1:¬ r.kind = 1:=by omega
   have h2:¬ r.kind = 2:=by omega
   have h3:¬ r.kind = 3:=by omega
   have h4:¬ r.kind = 4:=by omega
   have h5:¬ r.kind = 5:=by omega
   have h6:¬ r.kind = 6:=by omega
   have h7:¬ r.kind = 7:=by omega
   have h8:¬ r.kind = 8:=by omega
   have h9:¬ r.kind = 9:=by omega
   have h10:¬ r.kind = 10:=by omega
   have hf:r.form = 190:=by unfold SRec.form; rw [if_pos (.inl (kclass_bad hk))]
   repeat (first
    | refine AW_seq ?_
    | refine AW_block ?_
    | refine AW_skip ?_
    | refine AW_condT rfl ?_
    | refine AW_condF rfl ?_
    | (refine AW_reg [1, 3, 4, 5, 15, 16, 59, 66, 90, 115, 132] fun K hK => ?_
       simp [init_eq,h1,h2,h3,h4,h5,h6,h7,h8,h9,h10]
       apply hK;clear hK K))
   exact bend (rend ⟨_,by simp,rfl,⟨_,T0⟩,hf⟩)
 all_goals
   have hkc:kclass r.kind = .no:=by rw [hk]; rfl
   have hoe:=only_no hkc
   repeat (first
    | refine AW_seq ?_
    | refine AW_block ?_
    | refine AW_skip ?_
    | refine AW_condT rfl ?_
    | refine AW_condF rfl ?_
    | (refine AW_reg [1, 3, 4, 5, 15, 16, 59, 66, 90, 115, 132] fun K hK => ?_
       simp [init_eq,hk]
       apply hK;clear hK K))
   refine AW_reg [1,65] fun K hK=>?_
   simp [init_eq,bzero,ldx T0,SRec.aeqR]
   apply hK;clear hK K
   refine AW_cond' rfl rfl (fun hc=>?_) (fun hc=>?_)
   · have h1:¬ r = r.only:=by rw [← hoe]; simpa using hc
     repeat refine AW_seq ?_
     refine AW_reg [2] fun K hK=>?_
     simp [init_eq]
     apply hK;clear hK K
     exact AW_ret (end_ret rfl (fin 190 _ (form_ne h1).symm T0))
   · have h1:r = r.only:=by rw [← hoe]; simpa using hc
     refine AW_skip ?_
     repeat refine AW_seq ?_
     refine AW_reg [2] fun K hK=>?_
     simp [init_eq]
     apply hK;clear hK K
     exact AW_ret (end_ret rfl (fin 0 _ (by rw [form_eq h1 (by rw [hkc]; decide),hkc]) T0))
end Go.Proofs.YtaidfojbnfkclaaGreatDoor
