/-
  Contracts of the program's functions (TxtD). No conditions of my own.
-/
import Derived.Test.YtaidfojbnfkclaaGreatDoorTxtC
set_option linter.unusedVariables false
set_option linter.unusedSimpArgs false
namespace Go.Proofs.YtaidfojbnfkclaaGreatDoor
open Go Go.Abs Go.Proofs
set_option maxRecDepth 100000
attribute [local irreducible] AEnd AW ACalls
theorem fail_ok {H0 H:AH} {id:Nat} {s:St} (h:Rd H0 H id s) (x:Int):ACalls Tryz.prog 131 [.p (some (id,0,0)),.i .i64 x] H fun r H'=>Rd H0 H' id (rfail x s) ∧ Upd H H' [id]:=by
 obtain ⟨v,hv,hg⟩:=h.obj
 refine ACalls_body Tryz.func131 rfl rfl ?_
 refine AW_seq ?_
 refine AW_regto [0,1,16] ⟨24,[(0,.p (some (id,0,0))),(1,.i .i64 x),(16,.b (decide (s.2 = 0) && decide (x ≠ 0)))]⟩ H (fun K hk=>?_) ?_
 · by_cases h1:s.2 = 0
   · by_cases h2:x = 0
     · simpa [init_eq,afieldAddr,aload,hg,h1,h2] using hk
     · simpa [init_eq,afieldAddr,aload,hg,h1,h2] using hk
   · simpa [init_eq,afieldAddr,aload,hg,h1] using hk
 refine AW_cond' rfl rfl (fun hc=>?_) (fun hc=>?_)
 · have h1:s.2 = 0 ∧ x ≠ 0:=by simpa using hc
   refine AW_reg [] fun K hK=>?_
   simp [init_eq,afieldAddr,astore,hg,V.cells,AH.get_set,h.mem,splice_zero,splice_succ]
   apply hK;clear hK K
   refine end_normal rfl ?_
   rw [show rfail x s = ([],x) from if_pos h1]
   exact ⟨(h.set (s':=([],s.2)) (by simpa using RS.nil H0 1 false) rfl).set (by simpa using RS.nil H0 1 false) rfl,(Upd.set (F:=[id]) _ _ _ (by simp)).trans (Upd.set (F:=[id]) _ _ _ (by simp)) (fun j hj=>.inl hj)⟩
 · have h1:¬ (s.2 = 0 ∧ x ≠ 0):=by simpa using hc
   refine AW_skip ?_
   refine end_normal rfl ?_
   rw [show rfail x s = s from if_neg h1]
   exact ⟨h,Upd.refl ..⟩
theorem rest_ok {H0 H:AH} {id:Nat} {s:St} (h:Rd H0 H id s):ACalls Tryz.prog 153 [.p (some (id,0,0))] H fun r H'=>r = .i .i64 s.1.length ∧ H' = H:=by
 obtain ⟨v,hv,hg⟩:=h.obj
 have hl:=hv.alen (P:=Tryz.prog) qelem_135
 refine ACalls_body Tryz.func153 rfl rfl ?_
 refine AW_seq ?_
 refine AW_reg [0] fun K hK=>?_
 simp [init_eq]
 apply hK;clear hK K
 refine AW_seq ?_
 refine AW_seq ?_
 refine AW_reg [0,4] fun K hK=>?_
 simp [init_eq]
 apply hK;clear hK K
 refine AW_cond' rfl rfl (fun hc=>?_) (fun hc=>?_)
 · cases hc
 · refine AW_skip ?_
   refine AW_seq ?_
   refine AW_reg [2] fun K hK=>?_
   simp [init_eq,afieldAddr,aload,hg,hl]
   apply hK;clear hK K
   refine AW_ret (end_ret rfl ?_)
   simp
theorem done_ok {H0 H:AH} {id:Nat} {s:St} (h:Rd H0 H id s):ACalls Tryz.prog 99 [.p (some (id,0,0))] H fun r H'=>r = .i .i64 (rdone s) ∧ H' = H:=by
 obtain ⟨v,hv,hg⟩:=h.obj
 have hl:=hv.alen (P:=Tryz.prog) qelem_135
 refine ACalls_body Tryz.func99 rfl rfl ?_
 refine AW_seq ?_
 refine AW_reg [0] fun K hK=>?_
 simp [init_eq]
 apply hK;clear hK K
 refine AW_seq ?_
 refine AW_block ?_
 refine AW_seq ?_
 refine AW_reg [0,3] fun K hK=>?_
 simp [init_eq]
 apply hK;clear hK K
 refine AW_cond' rfl rfl (fun hc=>?_) (fun hc=>?_)
 · cases hc
 · refine AW_seq ?_
   refine AW_regto [0,6] ⟨24,[(0,.p (some (id,0,0))),(6,.b (decide (s.2 = 0) && decide (s.1 ≠ [])))]⟩ H (fun K hk=>?_) ?_
   · by_cases h1:s.2 = 0
     · by_cases h2:s.1 = []
       · simpa [init_eq,afieldAddr,aload,hg,hl,h1,h2] using hk
       · have h3:0 < s.1.length:=List.length_pos_iff.2 h2
         simpa [init_eq,afieldAddr,aload,hg,hl,h1,h2,h3] using hk
     · simpa [init_eq,afieldAddr,aload,hg,h1] using hk
   refine AW_cond' rfl rfl (fun hc=>?_) (fun hc=>?_)
   · have h1:s.2 = 0 ∧ s.1 ≠ []:=by simpa using hc
     refine AW_seq ?_
     refine AW_reg [2] fun K hK=>?_
     simp [init_eq]
     apply hK;clear hK K
     refine AW_ret (end_ret rfl ?_)
     simp [rdone,h1]
   · have h1:¬ (s.2 = 0 ∧ s.1 ≠ []):=by simpa using hc
     refine AW_skip ?_
     show AW _ _ _ _ _ _
     refine AW_seq ?_
     refine AW_reg [2] fun K hK=>?_
     simp [init_eq,afieldAddr,aload,hg]
     apply hK;clear hK K
     refine AW_ret (end_ret rfl ?_)
     rw [show rdone s = s.2 from if_neg h1]
     simp
theorem rdnum_ok {H0 H:AH} {id:Nat} {s:St} (h:Rd H0 H id s):ACalls Tryz.prog 143 [.p (some (id,0,0))] H fun r H'=>r = .i .i64 ((rnum s).1:Nat) ∧ Rd H0 H' id (rnum s).2 ∧ Upd H H' [id]:=by
 obtain ⟨v,hv,hg⟩:=h.obj
 have hl:=hv.alen (P:=Tryz.prog) qelem_135
 have hvH:=hv.same h.same
 have hid:=h.mem
 refine ACalls_body Tryz.func143 rfl rfl ?_
 refine AW_seq ?_
 refine AW_reg [0] fun K hK=>?_
 simp [init_eq]
 apply hK;clear hK K
 refine AW_seq ?_
 refine AW_seq ?_
 refine AW_regto [0,15] ⟨75,[(0,.p (some (id,0,0))),(15,.b (decide (s.2 ≠ 0)))]⟩ H (fun K hk=>?_) ?_
 · by_cases h1:s.2 = 0
   · simpa [init_eq,afieldAddr,aload,hg,h1] using hk
   · simpa [init_eq,afieldAddr,aload,hg,h1] using hk
 refine AW_cond' rfl rfl (fun hc=>?_) (fun hc=>?_)
 · have h1:s.2 ≠ 0:=by simpa using hc
   refine AW_seq ?_
   refine AW_reg [2] fun K hK=>?_
   simp [init_eq]
   apply hK;clear hK K
   refine AW_ret (end_ret rfl ?_)
   rw [rnum_err h1]
   exact ⟨rfl,h,Upd.refl ..⟩
 · have h1:s.2 = 0:=by simpa using hc
   have hr:rnum s = (match numGo 0 0 s.1 with | .inl x=>(0,([],x)) | .inr (n,r)=>(n,(r,0))):=if_pos h1
   refine AW_skip ?_
   refine AW_seq ?_
   refine AW_reg [0,3] fun K hK=>?_
   simp [init_eq]
   apply hK;clear hK K
   refine AW_seq ?_
   refine AW_seq ?_
   refine AW_reg [0,3,19,20,21] fun K hK=>?_
   simp [init_eq,afieldAddr,aload,hg,hl]
   apply hK;clear hK K
   refine AW_block ?_
   refine AW_loop0 (fun x:Nat × Nat=>⟨75,[(0,.p (some (id,0,0))),(3,.i .u64 (x.2:Int)),(19,v),(20,.i .i64 s.1.length),(21,.i .i64 (x.1:Int))]⟩) (fun x=>x.1 ≤ s.1.length ∧ x.1 ≤ 8 ∧ x.2 < 128 ^ x.1 ∧ numGo 0 0 s.1 = numGo x.1 x.2 (s.1.drop x.1)) (fun x=>s.1.length - x.1) (0,0) (by simp) (by simp) (by dsimp only; omega) fun hw x hM=>?_
   obtain ⟨i,a⟩:=x
   obtain ⟨m1,m2,m3,m4⟩:=hM
   simp only at m1 m2 m3 m4 ⊢
   refine AW_seq ?_
   refine AW_reg [0,3,19,20,21,22] fun K hK=>?_
   simp [init_eq]
   apply hK;clear hK K
   refine AW_seq ?_
   refine AW_cond' rfl rfl (fun hc=>?_) (fun hc=>?_)
   · have hi:i < s.1.length:=by simpa using hc
     obtain ⟨ax,px,qx⟩:=hvH.at1 (P:=Tryz.prog) qelem_135 qsize_5 qagg_5 (k:=.i64) i (x:=.i .u8 (s.1[i].toNat:Int)) (by simp [hi,byC])
     rw [List.drop_eq_getElem_cons hi] at m4
     generalize hcn:s.1[i].toNat = c at *
     have hc256:c < 256:=by rw [← hcn]; exact s.1[i].toNat_lt
     have hA:∀ (P:Program) (t:TypeId),abin P .and t (.i .u8 (c:Int)) (.i .u8 127) = some (.i .u8 ((c % 128:Nat):Int)):=fun P t=>and_127 c hc256
     have hm:c % 128 < 128:=Nat.mod_lt _ (by decide)
     rw [numGo_cons,hcn] at m4
     generalize hcm:c % 128 = cm at *
     have cv1:∀ G,aconvert Tryz.prog G 5 199 (.i .u8 (cm:Int)) = some (.i .u64 (cm:Int),G):=fun G=>by
      rw [conv_int qthere_5 qint_199,wrap_u64 (by omega)]
     have e7:IntKind.i64.wrap (7 * (i:Int)) = ((7 * i:Nat):Int):=by
      rw [wrap_id (by omega) (by omega)]; push_cast; rfl
     obtain ⟨j,hj⟩:∃ j,j = i + 1:=⟨_,rfl⟩
     have e8:IntKind.i64.wrap ((i:Int) + 1) = (j:Int):=by
      rw [wrap_id (by omega) (by omega)]; omega
     refine AW_skip ?_
     refine AW_seq ?_
     refine AW_block ?_
     refine AW_seq ?_
     refine AW_reg [0,3,4,5,19,20,21] fun K hK=>?_
     simp [init_eq,px,qx]
     apply hK;clear hK K
     refine AW_seq ?_
     refine AW_regto [0,3,4,5,19,20,21] ⟨75,[(0,.p (some (id,0,0))),(3,.i .u64 ((a + cm * 128 ^ i:Nat):Int)),(4,.i .i64 (i:Int)),(5,.i .u8 (c:Int)),(19,v),(20,.i .i64 s.1.length),(21,.i .i64 (i:Int))]⟩ H (fun K hk=>?_) ?_
     · simp [init_eq,hA,hcm]
       exact ⟨_,_,cv1 _,_,by rw [e7]; exact shl_7 cm i hm m2,_,or_add a cm i m3 hm m2,hk⟩
     have hNlt:a + cm * 128 ^ i < 128 ^ (i + 1):=by
      have p1:cm * 128 ^ i ≤ 127 * 128 ^ i:=Nat.mul_le_mul_right _ (by omega)
      have p2:128 ^ (i + 1) = 128 * 128 ^ i:=by rw [Nat.pow_succ,Nat.mul_comm]
      omega
     have hN9:a + cm * 128 ^ i < 9223372036854775808:=Nat.lt_of_lt_of_le hNlt (pow128_le (i:=i + 1) (j:=9) (by omega))
     generalize hN:a + cm * 128 ^ i = N at *
     refine AW_seq ?_
     refine AW_reg [0,3,4,5,6,19,20,21] fun K hK=>?_
     simp [init_eq]
     apply hK;clear hK K
     refine AW_block ?_
     refine AW_cutto ⟨75,[(0,.p (some (id,0,0))),(3,.i .u64 (N:Int)),(4,.i .i64 (i:Int)),(6,.b (decide (c < 128))),(19,v),(20,.i .i64 s.1.length),(21,.i .i64 (i:Int)),(36,.b (decide ((c = 0 ∧ 0 < i) ∨ (i = 8 ∧ (128 ≤ c ∨ 4611686018427387904 < N)))))]⟩ H ?_ ?_
     · refine AW_seq ?_
       refine AW_regto [0,3,4,6,19,20,21,36] ⟨75,[(0,.p (some (id,0,0))),(3,.i .u64 (N:Int)),(4,.i .i64 (i:Int)),(6,.b (decide (c < 128))),(19,v),(20,.i .i64 s.1.length),(21,.i .i64 (i:Int)),(36,.b (decide (c = 0 ∧ 0 < i)))]⟩ H (fun K hk=>?_) ?_
       · by_cases k1:c = 0
         · have k2:(c:Int) < 128:=by omega
           have k3:(c:Int) = 0:=by omega
           have k4:c < 128:=by omega
           by_cases k5:0 < i
           · simpa [init_eq,k1,k2,k3,k4,k5] using hk
           · simpa [init_eq,k1,k2,k3,k4,k5] using hk
         · have k3:¬ (c:Int) = 0:=by omega
           by_cases k4:c < 128
           · have k2:(c:Int) < 128:=by omega
             simpa [init_eq,k1,k2,k3,k4] using hk
           · have k2:¬ (c:Int) < 128:=by omega
             simpa [init_eq,k1,k2,k3,k4] using hk
       refine AW_cond' rfl rfl (fun hc=>?_) (fun hc=>?_)
       · have h2:c = 0 ∧ 0 < i:=by simpa using hc
         refine AW_skip ?_
         exact rend ⟨by simp [h2],rfl⟩
       · have h2:¬ (c = 0 ∧ 0 < i):=by simpa using hc
         refine AW_regto [0,3,4,6,19,20,21,36] ⟨75,[(0,.p (some (id,0,0))),(3,.i .u64 (N:Int)),(4,.i .i64 (i:Int)),(6,.b (decide (c < 128))),(19,v),(20,.i .i64 s.1.length),(21,.i .i64 (i:Int)),(36,.b (decide ((c = 0 ∧ 0 < i) ∨ (i = 8 ∧ (128 ≤ c ∨ 4611686018427387904 < N)))))]⟩ H (fun K hk=>?_) ?_
         · by_cases k1:i = 8
           · have k2:(i:Int) = 8:=by omega
             have k0:¬ c = 0:=by omega
             by_cases k3:c < 128
             · have k4:¬ 128 ≤ c:=by omega
               by_cases k5:4611686018427387904 < N
               · have k6:(4611686018427387904:Int) < N:=by omega
                 simpa [init_eq,k0,k1,k2,k3,k4,k5,k6] using hk
               · have k6:¬ (4611686018427387904:Int) < N:=by omega
                 simpa [init_eq,k0,k1,k2,k3,k4,k5,k6] using hk
             · have k4:128 ≤ c:=by omega
               simpa [init_eq,k0,k1,k2,k3,k4] using hk
           · have k2:¬ (i:Int) = 8:=by omega
             simpa [init_eq,h2,k1,k2] using hk
         exact rend ⟨rfl,rfl⟩
     refine AW_cond' rfl rfl (fun hc=>?_) (fun hc=>?_)
     · have h2:(c = 0 ∧ 0 < i) ∨ (i = 8 ∧ (128 ≤ c ∨ 4611686018427387904 < N)):=by simpa using hc
       rw [if_pos h2] at m4
       refine AW_seq ?_
       refine AW_reg [] fun K hK=>?_
       simp [init_eq]
       refine ACalls.mono (fail_ok h 31) fun r H' hf=>?_
       try simp
       apply hK;clear hK K
       refine AW_seq ?_
       refine AW_reg [2] fun K hK=>?_
       simp [init_eq]
       apply hK;clear hK K
       refine AW_ret (end_ret rfl ?_)
       rw [hr,m4]
       rw [show rfail 31 s = ([],31) from if_pos ⟨h1,by decide⟩] at hf
       exact ⟨rfl,hf⟩
     · have h2:¬ ((c = 0 ∧ 0 < i) ∨ (i = 8 ∧ (128 ≤ c ∨ 4611686018427387904 < N))):=by simpa using hc
       rw [if_neg h2] at m4
       refine AW_seq ?_
       refine AW_reg [0,3,4,19,20,21,58] fun K hK=>?_
       simp [init_eq]
       apply hK;clear hK K
       refine AW_cond' rfl rfl (fun hc=>?_) (fun hc=>?_)
       · have h3:c < 128:=by simpa using hc
         rw [if_pos h3] at m4
         obtain ⟨v',e1,hv'⟩:=RS.slice2 (P:=Tryz.prog) h.same hv qelem_135 qsize_5 (lo:=some (.i .i64 (j:Int))) (hi:=none) (k:=j) (m:=s.1.length) (by simp [abound]) (by simp only [abound]; rw [if_pos ⟨by omega,by omega⟩]; simp) (by omega) (by simp)
         have cv2:∀ G,aconvert Tryz.prog G 199 2 (.i .u64 (N:Int)) = some (.i .i64 (N:Int),G):=fun G=>by
          rw [conv_int qthere_199 qint_2,wrap_id (by omega) (by omega)]
         refine AW_seq ?_
         refine AW_reg [3] fun K hK=>?_
         simp [init_eq,afieldAddr,aload,hg,e8,e1,astore,hv'.cells,splice_zero]
         apply hK;clear hK K
         refine AW_seq ?_
         refine AW_reg [2] fun K hK=>?_
         simp [init_eq,cv2]
         apply hK;clear hK K
         refine AW_ret (end_ret rfl ?_)
         rw [hr,m4]
         refine ⟨rfl,h.set ?_ h1,Upd.set _ _ _ (by simp)⟩
         rw [← List.map_take,← List.map_drop,hj] at hv'
         simpa using hv'
       · have h3:¬ c < 128:=by simpa using hc
         rw [if_neg h3] at m4
         refine AW_skip ?_
         refine bend (bend (rend ?_))
         have hi8:i ≠ 8:=fun h8=>h2 (.inr ⟨h8,.inl (by omega)⟩)
         refine AW_reg [0,3,19,20,21] fun K hK=>?_
         simp [init_eq,e8]
         apply hK;clear hK K
         refine rend ⟨(j,N),by simp,⟨by omega,by omega,by rw [hj]; exact hNlt,by rw [m4,hj]⟩,by omega,.inl rfl⟩
   · refine AW_exit (then_exit (then_exit (block_here ?_)))
     have hi:i = s.1.length:=by
      have:¬ i < s.1.length:=by simpa using hc
      omega
     subst hi
     rw [List.drop_length] at m4
     refine AW_seq ?_
     refine AW_reg [] fun K hK=>?_
     simp [init_eq]
     refine ACalls.mono (fail_ok h 30) fun r H' hf=>?_
     try simp
     apply hK;clear hK K
     refine AW_seq ?_
     refine AW_reg [2] fun K hK=>?_
     simp [init_eq]
     apply hK;clear hK K
     refine AW_ret (end_ret rfl ?_)
     rw [hr,m4]
     rw [show rfail 30 s = ([],30) from if_pos ⟨h1,by decide⟩] at hf
     exact ⟨rfl,hf⟩
end Go.Proofs.YtaidfojbnfkclaaGreatDoor
set_option linter.unusedVariables false
set_option linter.unusedSimpArgs false
namespace Go.Proofs.YtaidfojbnfkclaaGreatDoor
open Go Go.Abs Go.Proofs
set_option maxRecDepth 100000
attribute [local irreducible] AEnd AW ACalls
theorem rnum_le (s:St):(rnum s).1 ≤ 4611686018427387904:=by
 by_cases h:(rnum s).2.2 = 0
 · exact (rnum_inv h).2.2
 · have:(rnum s).1 = 0:=by
     unfold rnum at h ⊢
     split
     · rename_i h0
       rw [if_pos h0] at h
       cases e:numGo 0 0 s.1 with
       | inl x=>rfl
       | inr p=>obtain ⟨n,r⟩:=p; rw [e] at h; exact absurd rfl h
     · rfl
   omega
theorem most_ok {H0 H:AH} {id:Nat} {s:St} (h:Rd H0 H id s) (m:Nat):ACalls Tryz.prog 145 [.p (some (id,0,0)),.i .i64 (m:Int)] H fun r H'=>r = .i .i64 ((rmost m s).1:Nat) ∧ Rd H0 H' id (rmost m s).2 ∧ Upd H H' [id]:=by
 refine ACalls_body Tryz.func145 rfl rfl ?_
 refine AW_seq ?_
 refine AW_reg [0,1] fun K hK=>?_
 simp [init_eq]
 apply hK;clear hK K
 refine AW_seq ?_
 refine AW_reg [0,1,5] fun K hK=>?_
 simp [init_eq]
 refine ACalls.mono (rdnum_ok h) fun r H1 ⟨hr,h1,u1⟩=>?_
 subst hr
 try simp
 apply hK;clear hK K
 have hle:=rnum_le s
 generalize hn:rnum s = q at *
 obtain ⟨n,t⟩:=q
 simp only at h1 hle ⊢
 refine AW_seq ?_
 refine AW_seq ?_
 refine AW_regto [0,5,10] ⟨14,[(0,.p (some (id,0,0))),(5,.i .i64 (n:Int)),(10,.b (decide (m < n)))]⟩ H1 (fun K hk=>?_) ?_
 · by_cases k1:m < n
   · have k2:(m:Int) < n:=by omega
     simpa [init_eq,k1,k2] using hk
   · have k2:¬ (m:Int) < n:=by omega
     simpa [init_eq,k1,k2] using hk
 refine AW_cond' rfl rfl (fun hc=>?_) (fun hc=>?_)
 · have k1:m < n:=by simpa using hc
   refine AW_seq ?_
   refine AW_reg [] fun K hK=>?_
   simp [init_eq]
   refine ACalls.mono (fail_ok h1 33) fun r H2 ⟨h2,u2⟩=>?_
   try simp
   apply hK;clear hK K
   refine AW_seq ?_
   refine AW_reg [4] fun K hK=>?_
   simp [init_eq]
   apply hK;clear hK K
   refine AW_ret (end_ret rfl ?_)
   have e:rmost m s = (0,rfail 33 t):=by simp [rmost,hn,k1]
   rw [e]
   exact ⟨rfl,h2,u1.trans u2 (fun j hj=>.inl hj)⟩
 · have k1:¬ m < n:=by simpa using hc
   refine AW_skip ?_
   refine AW_seq ?_
   refine AW_reg [4] fun K hK=>?_
   simp [init_eq]
   apply hK;clear hK K
   refine AW_ret (end_ret rfl ?_)
   have e:rmost m s = (n,t):=by simp [rmost,hn,k1]
   rw [e]
   exact ⟨rfl,h1,u1⟩
theorem text_ok' {H0 H:AH} {id:Nat} {s:St} (h:Rd H0 H id s):ACalls Tryz.prog 146 [.p (some (id,0,0))] H fun r H'=>r = .s (rtext s).1 ∧ Rd H0 H' id (rtext s).2 ∧ Upd H H' [id]:=by
 refine ACalls_body Tryz.func146 rfl rfl ?_
 refine AW_seq ?_
 refine AW_reg [0] fun K hK=>?_
 simp [init_eq]
 apply hK;clear hK K
 refine AW_seq ?_
 refine AW_reg [0,3] fun K hK=>?_
 simp [init_eq]
 refine ACalls.mono (most_ok h 65536) fun r H1 ⟨hr,h1,u1⟩=>?_
 subst hr
 try simp
 apply hK;clear hK K
 generalize hn:rmost 65536 s = q at *
 obtain ⟨n,t⟩:=q
 have e:rtext s = if t.1.length < n then ([],rfail 30 t) else (t.1.take n,(t.1.drop n,t.2)):=by simp [rtext,hn]
 rw [e]
 clear e
 simp only at h1 ⊢
 refine AW_seq ?_
 refine AW_seq ?_
 refine AW_regto [0,3,10] ⟨32,[(0,.p (some (id,0,0))),(3,.i .i64 (n:Int)),(10,.b (decide (t.1.length < n)))]⟩ H1 (fun K hk=>?_) ?_
 · simp [init_eq]
   refine ACalls.mono (rest_ok h1) fun r H2 ⟨hr,e⟩=>?_
   subst hr e
   by_cases k1:t.1.length < n
   · have k2:(t.1.length:Int) < n:=by omega
     simpa [k1,k2] using hk
   · have k2:¬ (t.1.length:Int) < n:=by omega
     simpa [k1,k2] using hk
 refine AW_cond' rfl rfl (fun hc=>?_) (fun hc=>?_)
 · have k1:t.1.length < n:=by simpa using hc
   rw [if_pos k1]
   refine AW_seq ?_
   refine AW_reg [] fun K hK=>?_
   simp [init_eq]
   refine ACalls.mono (fail_ok h1 30) fun r H2 ⟨h2,u2⟩=>?_
   try simp
   apply hK;clear hK K
   refine AW_seq ?_
   refine AW_reg [2] fun K hK=>?_
   simp [init_eq]
   apply hK;clear hK K
   refine AW_ret (end_ret rfl ?_)
   exact ⟨rfl,h2,u1.trans u2 (fun j hj=>.inl hj)⟩
 · have k1:¬ t.1.length < n:=by simpa using hc
   rw [if_neg k1]
   refine AW_skip ?_
   refine AW_seq ?_
   refine AW_seq ?_
   refine AW_regto [0,3,14] ⟨32,[(0,.p (some (id,0,0))),(3,.i .i64 (n:Int)),(14,.b (decide (n = 0)))]⟩ H1 (fun K hk=>?_) ?_
   · by_cases k2:n = 0
     · have k3:(n:Int) = 0:=by omega
       simpa [init_eq,k2,k3] using hk
     · have k3:¬ (n:Int) = 0:=by omega
       simpa [init_eq,k2,k3] using hk
   refine AW_cond' rfl rfl (fun hc=>?_) (fun hc=>?_)
   · have k2:n = 0:=by simpa using hc
     subst k2
     refine AW_seq ?_
     refine AW_reg [2] fun K hK=>?_
     simp [init_eq]
     apply hK;clear hK K
     refine AW_ret (end_ret rfl ?_)
     exact ⟨by simp,by simpa using h1,u1⟩
   · obtain ⟨v,hv,hg⟩:=h1.obj
     obtain ⟨v1,e1,hv1⟩:=RS.slice2 (P:=Tryz.prog) h1.same hv qelem_135 qsize_5 (lo:=none) (hi:=some (.i .i64 (n:Int))) (k:=0) (m:=n) (by simp only [abound]; rw [if_pos ⟨by omega,by simp; omega⟩]; simp) (by simp [abound]) (by omega) (by simp; omega)
     obtain ⟨v2,e2,hv2⟩:=RS.slice2 (P:=Tryz.prog) h1.same hv qelem_135 qsize_5 (lo:=some (.i .i64 (n:Int))) (hi:=none) (k:=n) (m:=t.1.length) (by simp [abound]) (by simp only [abound]; rw [if_pos ⟨by omega,by omega⟩]; simp) (by omega) (by simp)
     have hv1H:=hv1.same h1.same
     rw [List.drop_zero,← List.map_take] at hv1H
     have hcv:∀ G,G = H1 → aconvert Tryz.prog G 135 9 v1 = some (.s (t.1.take n),G):=fun G hG=>by
      subst hG
      refine conv_text qbs_135 qstr_9 ?_
      rw [← bytesV_flat]
      exact hv1H.slr.1
     refine AW_skip ?_
     refine AW_seq ?_
     refine AW_reg [0,3,4] fun K hK=>?_
     simp [init_eq,afieldAddr,aload,hg,e1,hcv]
     apply hK;clear hK K
     refine AW_seq ?_
     refine AW_reg [4] fun K hK=>?_
     simp [init_eq,afieldAddr,aload,hg,e2,astore,hv2.cells,splice_zero]
     apply hK;clear hK K
     refine AW_seq ?_
     refine AW_reg [2] fun K hK=>?_
     simp [init_eq]
     apply hK;clear hK K
     refine AW_ret (end_ret rfl ?_)
     refine ⟨rfl,h1.set ?_ rfl,u1.trans (Upd.set (F:=[id]) _ _ _ (by simp)) (fun j hj=>.inl hj)⟩
     rw [← List.map_take,← List.map_drop] at hv2
     simpa using hv2
/-- A new reader. -/
theorem rdnew_ok (H:AH) {v:V} {l:List UInt8} (hv:Sl H v 1 (bytesV l)) (hl:l.length ≤ 100000000000):ACalls Tryz.prog 97 [v] H fun r H'=>∃ H0 id,r = .p (some (id,0,0)) ∧ Rd H0 H' id (l,0) ∧ Upd H H' [] ∧ H.next ≤ id:=by
 refine ACalls_body Tryz.func97 rfl rfl ?_
 refine AW_seq ?_
 refine AW_reg [0] fun K hK=>?_
 simp [init_eq]
 apply hK;clear hK K
 refine AW_seq ?_
 refine AW_reg [2] fun K hK=>?_
 simp [init_eq]
 refine ACalls.mono (clone_ok H hv hl) fun r H1 hf=>?_
 obtain ⟨F,o1,u1,l1⟩:=hf
 have hrs:RS H1 r 1 (l.map byC):=Own.rsR (f:=byC) (xs:=l) (by rw [bytesV_flat]; exact o1) (by decide) (fun _=>rfl)
 rcases hrs.2 with ⟨c,e,_⟩ | ⟨i2,g,off,c,ro,esz,e,_⟩
 all_goals
   simp [e,abuild,afill,V.cells,splice_zero,splice_succ]
   first
   | rw [← e]
   | (rw [List.length_map] at e; rw [← e])
   apply hK;clear hK K
   refine AW_ret (end_ret rfl ?_)
   refine ⟨H1,H1.next,rfl,⟨Nat.le_refl _,fun j hj=>by rw [AH.get_new,if_neg (by omega)],r,hrs,by simp [AH.get_new]⟩,u1.trans (Upd.new H1 _ []) (by simp),u1.1⟩
theorem small_ok {H0 H:AH} {id:Nat} {s:St} (h:Rd H0 H id s):ACalls Tryz.prog 124 [.p (some (id,0,0))] H fun r H'=>r = .i .i64 ((rsmall s).1:Nat) ∧ Rd H0 H' id (rsmall s).2 ∧ Upd H H' [id]:=by
 refine ACalls_body Tryz.func124 rfl rfl ?_
 refine AW_seq ?_
 refine AW_reg [0] fun K hK=>?_
 simp [init_eq]
 apply hK;clear hK K
 refine AW_seq ?_
 refine AW_reg [2] fun K hK=>?_
 simp [init_eq]
 refine ACalls.mono (rdnum_ok h) fun r H1 ⟨hr,h1,u1⟩=>?_
 subst hr
 by_cases k1:(rnum s).1 ≤ 1099511627776
 · have e:(rsmall s).1 = (rnum s).1:=Nat.min_eq_left k1
   have k2:¬ (1099511627776:Int) < ((rnum s).1:Int):=by omega
   simp [amin2,k2]
   apply hK;clear hK K
   refine AW_ret (end_ret rfl ?_)
   rw [e]
   exact ⟨rfl,h1,u1⟩
 · have e:(rsmall s).1 = 1099511627776:=Nat.min_eq_right (by omega)
   have k2:(1099511627776:Int) < ((rnum s).1:Int):=by omega
   simp [amin2,k2]
   apply hK;clear hK K
   refine AW_ret (end_ret rfl ?_)
   rw [e]
   exact ⟨rfl,h1,u1⟩
end Go.Proofs.YtaidfojbnfkclaaGreatDoor
set_option linter.unusedVariables false
set_option linter.unusedSimpArgs false
namespace Go.Proofs.YtaidfojbnfkclaaGreatDoor
open Go Go.Abs Go.Proofs
set_option maxRecDepth 100000
attribute [local irreducible] AEnd AW ACalls
/-! The error 'tail' is never inside. -/
theorem rfail_32 {x:Int} {s:St} (hx:x ≠ 32) (h:s.2 ≠ 32):(rfail x s).2 ≠ 32:=by
 unfold rfail
 split
 · exact hx
 · exact h
theorem numGo_32:∀ (l:List UInt8) (i a:Nat) (x:Int),numGo i a l = .inl x → x ≠ 32
 | [],_,_,x,h=>by cases h; decide
 | c :: l,i,a,x,h=>by
   rw [numGo_cons] at h
   split at h
   · cases h; decide
   · split at h
     · cases h
     · exact numGo_32 l _ _ _ h
theorem rnum_32 {s:St} (h:s.2 ≠ 32):(rnum s).2.2 ≠ 32:=by
 unfold rnum
 split
 · cases e:numGo 0 0 s.1 with
   | inl x=>exact numGo_32 _ _ _ _ e
   | inr p=>obtain ⟨n,r⟩:=p; exact (by decide:(0:Int) ≠ 32)
 · exact h
theorem tnext_32 {m:Nat} {s:St} (h:s.2 ≠ 32):(tnext m s).2.2 ≠ 32:=by
 unfold tnext
 split
 · exact rfail_32 (by decide) (rnum_32 h)
 · exact rnum_32 h
theorem rdone_bad {s:St} (h:s.2 ≠ 32):(rdone s ≠ 0 ∧ rdone s ≠ 32) ↔ s.2 ≠ 0:=by
 unfold rdone
 split
 · rename_i h1; constructor
   · rintro ⟨_,h2⟩; exact absurd rfl h2
   · intro h2; exact absurd h1.1 h2
 · exact ⟨fun h1=>h1.1,fun h1=>⟨h1,h⟩⟩
theorem tnextc_ok {H0 H:AH} {id bx:Nat} {s:St} (h:Rd H0 H id s) (hb:H.get bx = some (.cells [.p (some (id,0,0))] 0 false 0)) (hne:bx ≠ id) (m:Nat) :
  ACalls Tryz.prog 144 [.i .i64 (m:Int),.p (some (bx,0,0))] H fun r H'=>r = .i .i64 ((tnext m s).1:Nat) ∧ Rd H0 H' id (tnext m s).2 ∧ Upd H H' [id]:=by
 refine ACalls_body Tryz.func144 rfl rfl ?_
 refine AW_seq ?_
 refine AW_reg [0,1] fun K hK=>?_
 simp [init_eq]
 apply hK;clear hK K
 refine AW_seq ?_
 refine AW_reg [0,1,4] fun K hK=>?_
 simp [init_eq,aload,hb]
 refine ACalls.mono (rdnum_ok h) fun r H1 ⟨hr,h1,u1⟩=>?_
 subst hr
 try simp
 apply hK;clear hK K
 have hb1:=u1.keep (by simpa using hne) hb
 unfold tnext
 generalize rnum s = q at *
 obtain ⟨n,t⟩:=q
 simp only at h1 ⊢
 refine AW_cut (fun ρ G=>ρ = ⟨13,[(4,.i .i64 (n:Int))]⟩ ∧ Rd H0 G id (if m < n then rfail 110 t else t) ∧ Upd H G [id]) ?_ ?_
 · refine AW_seq ?_
   refine AW_regto [1,4,9] ⟨13,[(1,.p (some (bx,0,0))),(4,.i .i64 (n:Int)),(9,.b (decide (m < n)))]⟩ H1 (fun K hk=>?_) ?_
   · by_cases k1:m < n
     · have k2:(m:Int) < n:=by omega
       simpa [init_eq,k1,k2] using hk
     · have k2:¬ (m:Int) < n:=by omega
       simpa [init_eq,k1,k2] using hk
   refine AW_cond' rfl rfl (fun hc=>?_) (fun hc=>?_)
   · have k1:m < n:=by simpa using hc
     rw [if_pos k1]
     refine AW_reg [4] fun K hK=>?_
     simp [init_eq,aload,hb1]
     refine ACalls.mono (fail_ok h1 110) fun r H2 ⟨h2,u2⟩=>?_
     try simp
     apply hK;clear hK K
     exact rend ⟨_,by simp,rfl,h2,u1.trans u2 (fun j hj=>.inl hj)⟩
   · have k1:¬ m < n:=by simpa using hc
     rw [if_neg k1]
     refine AW_skip ?_
     exact rend ⟨_,by simp,rfl,h1,u1⟩
 · rintro ρ G ⟨rfl,h2,u2⟩
   refine AW_seq ?_
   refine AW_reg [3] fun K hK=>?_
   simp [init_eq]
   apply hK;clear hK K
   refine AW_ret (end_ret rfl ?_)
   exact ⟨rfl,h2,u2⟩
/-- Under way: the reader, the box, the certificate so far. -/
structure TC (H0 H G:AH) (id:Nat) (s:St) (c:Cert):Prop where
 rd:Rd H0 G id s
 bx:G.get H.next = some (.cells [.p (some (id,0,0))] 0 false 0)
 rs:G.get (H.next + 1) = some (.cells Cert.zero.cells 0 false 0)
 cc:G.get (H.next + 2) = some (.cells c.cells 0 false 0)
 nx:H.next + 3 ≤ G.next
 old:∀ j,j < H.next → j ≠ id → G.get j = H.get j
theorem TC.next {H0 H G:AH} {id:Nat} {s:St} {c:Cert} (h:TC H0 H G id s c) (hid:id < H.next) (m:Nat) :
  ACalls Tryz.prog 144 [.i .i64 (m:Int),.p (some (H.next,0,0))] G fun r G'=>r = .i .i64 ((tnext m s).1:Nat) ∧ TC H0 H G' id (tnext m s).2 c:=by
 refine (tnextc_ok h.rd h.bx (by omega) m).mono fun r G' ⟨h1,h2,u⟩=>⟨h1,h2,u.keep (by simp; omega) h.bx,u.keep (by simp; omega) h.rs,u.keep (by simp; omega) h.cc,Nat.le_trans h.nx u.1,fun j hj hn=>?_⟩
 rw [u.2 j (by have:=h.nx; omega) (by simpa using hn),h.old j hj hn]
theorem TC.set {H0 H G:AH} {id:Nat} {s:St} {c c':Cert} {l:List V} (h:TC H0 H G id s c) (hid:id < H.next) (hl:l = c'.cells):TC H0 H (G.set (H.next + 2) (.cells l 0 false 0)) id s c':=by
 subst hl
 have hn:=h.nx
 refine ⟨h.rd.upd (Upd.set (F:=[H.next + 2]) _ _ _ (by simp)) (fun j hj=>by simp at hj; omega),?_,?_,?_,hn,fun j hj hne=>?_⟩
 · rw [AH.get_set_ne (by omega)]; exact h.bx
 · rw [AH.get_set_ne (by omega)]; exact h.rs
 · simp [AH.get_set]; omega
 · rw [AH.get_set_ne (by omega)]; exact h.old j hj hne
def stA (s:St):(Nat × Nat × Nat × Nat) × St:=if (tnext 2 s).1 = 0 then ((0,0,0,0),(tnext 2 s).2) else takeC1 (tnext 2 s).2
def cA (s:St):Cert:=⟨(tnext 2 s).1,(stA s).1.1,(stA s).1.2.1,(stA s).1.2.2.1,0,0,BitVec.ofNat 32 (stA s).1.2.2.2,0#32⟩
theorem u32_ofNat (n:Nat):V.i .u32 (IntKind.u32.wrap (n:Int)) = u32 (BitVec.ofNat 32 n):=by
 unfold u32
 rw [IntKind.wrap_u32,BitVec.toNat_ofNat]
 congr 1
theorem stA_32 {s:St} (h:s.2 ≠ 32):(stA s).2.2 ≠ 32:=by
 unfold stA
 split
 · exact tnext_32 h
 · exact tnext_32 (tnext_32 (tnext_32 (tnext_32 (tnext_32 h))))
theorem rawCert_32 {s:St} (h:s.2 ≠ 32):(rawCert s).2.2 ≠ 32:=by
 have:=stA_32 h
 unfold rawCert
 simp only
 split
 · exact tnext_32 (tnext_32 (tnext_32 this))
 · exact this
theorem takeCert_32 {s:St} (h:s.2 ≠ 32):(takeCert s).2.2 ≠ 32:=by
 have:=rawCert_32 h
 unfold takeCert
 simp only
 split
 · exact this
 · exact rfail_32 (by decide) this
theorem Cert.w1 (c:Cert) (x:Int):splice c.cells 1 [.i .i64 x] = ({ c with block:=x }).cells:=rfl
theorem Cert.w2 (c:Cert) (x:Int):splice c.cells 2 [.i .i64 x] = ({ c with view:=x }).cells:=rfl
theorem Cert.w3 (c:Cert) (x:Int):splice c.cells 3 [.i .i64 x] = ({ c with round:=x }).cells:=rfl
theorem Cert.w4 (c:Cert) (x:Int):splice c.cells 4 [.i .i64 x] = ({ c with height:=x }).cells:=rfl
theorem Cert.w5 (c:Cert) (x:Int):splice c.cells 5 [.i .i64 x] = ({ c with author:=x }).cells:=rfl
theorem Cert.w6 (c:Cert) (x:BitVec 32):splice c.cells 6 [u32 x] = ({ c with signers:=x }).cells:=rfl
theorem Cert.w7 (c:Cert) (x:BitVec 32):splice c.cells 7 [u32 x] = ({ c with coin:=x }).cells:=rfl
theorem certTake_ok {H0 H:AH} {id:Nat} {s:St} (h:Rd H0 H id s) (h32:s.2 ≠ 32):ACalls Tryz.prog 125 [.p (some (id,0,0))] H fun r H'=>r = .agg (takeCert s).1.cells ∧ Rd H0 H' id (takeCert s).2 ∧ Upd H H' [id]:=by
 have hid:=h.mem
 refine ACalls_body Tryz.func125 rfl rfl ?_
 refine AW_seq ?_
 refine AW_reg [1,2] fun K hK=>?_
 simp [init_eq,V.cells]
 apply hK;clear hK K
 refine AW_seq ?_
 refine AW_reg [1,2,3] fun K hK=>?_
 simp [init_eq,V.cells]
 apply hK;clear hK K
 obtain ⟨G,e1,g1,g2,g3,gn,go⟩:=H.boxed3 [.p (some (id,0,0))] Cert.zero.cells Cert.zero.cells
 have T0:TC H0 H G id s Cert.zero:=⟨h.upd (F:=[]) ⟨by omega,fun j hj _=>go j hj⟩ (by simp),g1,g2,g3,by omega,fun j hj _=>go j hj⟩
 rw [show (((H.new (O.cells [V.p (some (id,0,0))] 0 false 0)).new (O.cells Cert.zero.cells 0 false 0)).new (O.cells Cert.zero.cells 0 false 0)) = G from e1]
 clear e1 g1 g2 g3 gn go
 refine AW_seq ?_
 refine AW_reg [1,2,3,4] fun K hK=>?_
 simp [init_eq,evs]
 apply hK;clear hK K
 refine AW_cut (fun ρ G=>ρ = ⟨53,[(1,.p (some (H.next,0,0))),(2,.p (some (H.next + 1,0,0))),(3,.p (some (H.next + 2,0,0))),(4,.fn (.func 144) [] [.p (some (H.next,0,0))])]⟩ ∧ TC H0 H G id (stA s).2 (cA s)) ?_ ?_
 · refine AW_seq ?_
   refine AW_reg [1,2,3,4] fun K hK=>?_
   simp [init_eq,AOp_callv (f:=144) (first:=[]) (caps:=[.p (some (H.next,0,0))])]
   refine ACalls.mono (T0.next hid 2) fun r G1 ⟨hr,T1⟩=>?_
   subst hr
   simp [afieldAddr,astore,T1.cc,V.cells]
   apply hK;clear hK K
   have T2:=T1.set hid (c':=⟨(tnext 2 s).1,0,0,0,0,0,0#32,0#32⟩) (l:=splice Cert.zero.cells 0 [.i .i64 ((tnext 2 s).1:Nat)]) rfl
   generalize hk:(tnext 2 s).1 = k at *
   generalize G1.set (H.next + 2) _ = G2 at T2 ⊢
   refine AW_seq ?_
   refine AW_regto [1,2,3,4,11] ⟨53,[(1,.p (some (H.next,0,0))),(2,.p (some (H.next + 1,0,0))),(3,.p (some (H.next + 2,0,0))),(4,.fn (.func 144) [] [.p (some (H.next,0,0))]),(11,.b (decide (k ≠ 0)))]⟩ G2 (fun K hk=>?_) ?_
   · by_cases k1:k = 0
     · simpa [init_eq,afieldAddr,aload,T2.cc,k1] using hk
     · have k2:¬ (k:Int) = 0:=by omega
       simpa [init_eq,afieldAddr,aload,T2.cc,k1,k2] using hk
   refine AW_cond' rfl rfl (fun hc=>?_) (fun hc=>?_)
   · have k1:k ≠ 0:=by simpa using hc
     have eA:stA s = takeC1 (tnext 2 s).2:=by unfold stA; rw [hk,if_neg k1]
     refine AW_seq ?_
     refine AW_reg [1,2,3,4] fun K hK=>?_
     simp [init_eq,AOp_callv (f:=144) (first:=[]) (caps:=[.p (some (H.next,0,0))])]
     refine ACalls.mono (T2.next hid 2147483647) fun r G3 ⟨hr,T3⟩=>?_
     subst hr
     refine ACalls.mono (T3.next hid 1048576) fun r G4 ⟨hr,T4⟩=>?_
     subst hr
     refine ACalls.mono (T4.next hid 1073741824) fun r G5 ⟨hr,T5⟩=>?_
     subst hr
     have hlt:H.next + 2 < G5.next:=by have:=T5.nx; omega
     simp [afieldAddr,astore,T5.cc,V.cells,AH.get_set,hlt,Cert.w1,Cert.w2,Cert.w3]
     apply hK;clear hK K
     generalize ha:tnext 2147483647 (tnext 2 s).2 = a at *
     generalize hb:tnext 1048576 a.2 = b at *
     generalize hcc:tnext 1073741824 b.2 = c at *
     have T6:=((T5.set hid (c':=⟨k,a.1,0,0,0,0,0#32,0#32⟩) rfl).set hid (c':=⟨k,a.1,b.1,0,0,0,0#32,0#32⟩) rfl).set hid (c':=⟨k,a.1,b.1,c.1,0,0,0#32,0#32⟩) rfl
     generalize AH.set _ (H.next + 2) _ = G6 at T6 ⊢
     refine rend ?_
     refine AW_reg [1,2,3,4] fun K hK=>?_
     simp [init_eq,AOp_callv (f:=144) (first:=[]) (caps:=[.p (some (H.next,0,0))])]
     refine ACalls.mono (T6.next hid 1023) fun r G7 ⟨hr,T7⟩=>?_
     subst hr
     generalize hd:tnext 1023 c.2 = d at *
     have cv:∀ G,aconvert Tryz.prog G 3 22 (.i .i64 (d.1:Nat)) = some (u32 (BitVec.ofNat 32 d.1),G):=fun G=>by
      rw [conv_int qthere_3 qint_22,u32_ofNat]
     have hlt7:H.next + 2 < G7.next:=by have:=T7.nx; omega
     have cu:(u32 (BitVec.ofNat 32 d.1)).cells = some [u32 (BitVec.ofNat 32 d.1)]:=rfl
     simp [cv,cu,afieldAddr,astore,T7.cc,AH.get_set,hlt7,Cert.w6]
     apply hK;clear hK K
     have T8:=T7.set hid (c':=⟨k,a.1,b.1,c.1,0,0,BitVec.ofNat 32 d.1,0#32⟩) rfl
     refine rend ⟨_,by simp,rfl,?_⟩
     have e1:stA s = ((a.1,b.1,c.1,d.1),d.2):=by rw [eA]; simp only [takeC1,ha,hb,hcc,hd]
     have e2:cA s = ⟨k,a.1,b.1,c.1,0,0,BitVec.ofNat 32 d.1,0#32⟩:=by unfold cA; rw [e1,hk]
     rw [e1,e2]
     exact T8
   · have k1:k = 0:=by simpa using hc
     have eA:stA s = ((0,0,0,0),(tnext 2 s).2):=by unfold stA; rw [hk,if_pos k1]
     refine AW_skip ?_
     refine rend ⟨_,by simp,rfl,?_⟩
     have:cA s = ⟨k,0,0,0,0,0,0#32,0#32⟩:=by unfold cA; rw [eA,hk]; rfl
     rw [this,eA]
     exact T2
 · rintro ρ G1 ⟨rfl,T1⟩
   clear T0
   have hr:rawCert s = (⟨(cA s).kind,(cA s).block,(cA s).view,(cA s).round,(if (cA s).kind = 2 then (takeC2 (stA s).2).1.1 else 0),(if (cA s).kind = 2 then (takeC2 (stA s).2).1.2.1 else 0),(cA s).signers,(if (cA s).kind = 2 then BitVec.ofNat 32 (takeC2 (stA s).2).1.2.2 else 0#32)⟩,(if (cA s).kind = 2 then (takeC2 (stA s).2).2 else (stA s).2)):=by
    have e:((cA s).kind = 2) ↔ (tnext 2 s).1 = 2:=by unfold cA; simp; omega
    unfold rawCert
    by_cases k2:(tnext 2 s).1 = 2
    · simp only [if_pos (e.2 k2),if_pos k2]; rfl
    · simp only [if_neg (fun h=>k2 (e.1 h)),if_neg k2]; rfl
   have hz:(cA s).height = 0 ∧ (cA s).author = 0 ∧ (cA s).coin = 0#32:=⟨rfl,rfl,rfl⟩
   generalize cA s = c at *
   generalize stA s = q at *
   obtain ⟨z1,z2,z3⟩:=hz
   refine AW_cut (fun ρ G=>ρ = ⟨53,[(1,.p (some (H.next,0,0))),(2,.p (some (H.next + 1,0,0))),(3,.p (some (H.next + 2,0,0)))]⟩ ∧ TC H0 H G id (rawCert s).2 (rawCert s).1) ?_ ?_
   · refine AW_seq ?_
     refine AW_regto [1,2,3,4,27] ⟨53,[(1,.p (some (H.next,0,0))),(2,.p (some (H.next + 1,0,0))),(3,.p (some (H.next + 2,0,0))),(4,.fn (.func 144) [] [.p (some (H.next,0,0))]),(27,.b (decide (c.kind = 2)))]⟩ G1 (fun K hk=>?_) ?_
     · simpa [init_eq,afieldAddr,aload,T1.cc] using hk
     refine AW_cond' rfl rfl (fun hc=>?_) (fun hc=>?_)
     · have k1:c.kind = 2:=by simpa using hc
       refine AW_seq ?_
       refine AW_reg [1,2,3,4] fun K hK=>?_
       simp [init_eq,AOp_callv (f:=144) (first:=[]) (caps:=[.p (some (H.next,0,0))])]
       refine ACalls.mono (T1.next hid 3) fun r G2 ⟨hr,T2⟩=>?_
       subst hr
       refine ACalls.mono (T2.next hid 9) fun r G3 ⟨hr,T3⟩=>?_
       subst hr
       have hlt:H.next + 2 < G3.next:=by have:=T3.nx; omega
       simp [afieldAddr,astore,T3.cc,V.cells,AH.get_set,hlt,Cert.w4,Cert.w5]
       apply hK;clear hK K
       generalize ha:tnext 3 q.2 = a at *
       generalize hb:tnext 9 a.2 = b at *
       have T4:=(T3.set hid (c':={ c with height:=a.1 }) rfl).set hid (c':={ c with height:=a.1,author:=b.1 }) rfl
       generalize AH.set _ (H.next + 2) _ = G4 at T4 ⊢
       refine rend ?_
       refine AW_reg [1,2,3] fun K hK=>?_
       simp [init_eq,AOp_callv (f:=144) (first:=[]) (caps:=[.p (some (H.next,0,0))])]
       refine ACalls.mono (T4.next hid 1023) fun r G7 ⟨hr,T7⟩=>?_
       subst hr
       generalize hd:tnext 1023 b.2 = d at *
       have cv:∀ G,aconvert Tryz.prog G 3 22 (.i .i64 (d.1:Nat)) = some (u32 (BitVec.ofNat 32 d.1),G):=fun G=>by
        rw [conv_int qthere_3 qint_22,u32_ofNat]
       have hlt7:H.next + 2 < G7.next:=by have:=T7.nx; omega
       have cu:(u32 (BitVec.ofNat 32 d.1)).cells = some [u32 (BitVec.ofNat 32 d.1)]:=rfl
       simp [cv,cu,afieldAddr,astore,T7.cc,AH.get_set,hlt7,Cert.w7]
       apply hK;clear hK K
       have T8:=T7.set hid (c':={ c with height:=a.1,author:=b.1,coin:=BitVec.ofNat 32 d.1 }) rfl
       refine rend ⟨_,by simp,rfl,?_⟩
       have e1:takeC2 q.2 = ((a.1,b.1,d.1),d.2):=by simp only [takeC2,ha,hb,hd]
       rw [hr]
       simp only [if_pos k1,e1]
       exact T8
     · have k1:¬ c.kind = 2:=by simpa using hc
       refine AW_skip ?_
       refine rend ⟨_,by simp,rfl,?_⟩
       rw [hr]
       simp only [if_neg k1]
       have e:c = ⟨c.kind,c.block,c.view,c.round,0,0,c.signers,0#32⟩:=by
        obtain ⟨x0,x1,x2,x3,x4,x5,x6,x7⟩:=c
        simp only at z1 z2 z3
        simp only [z1,z2,z3]
       rw [← e]
       exact T1
   · rintro ρ G2 ⟨rfl,T2⟩
     have h33:=rawCert_32 h32
     have et:takeCert s = (if (if (rawCert s).1.ok = true then (rawCert s).2 else rfail 110 (rawCert s).2).2 = 0 then (rawCert s).1 else Cert.zero,if (rawCert s).1.ok = true then (rawCert s).2 else rfail 110 (rawCert s).2):=rfl
     have h34:=takeCert_32 h32
     clear T1 hr
     generalize rawCert s = y at *
     obtain ⟨c',t⟩:=y
     simp only at T2 et h33
     refine AW_cut (fun ρ G=>ρ = ⟨53,[(1,.p (some (H.next,0,0))),(2,.p (some (H.next + 1,0,0))),(3,.p (some (H.next + 2,0,0)))]⟩ ∧ TC H0 H G id (if c'.ok = true then t else rfail 110 t) c') ?_ ?_
     · refine AW_seq ?_
       refine AW_regto [1,2,3,40] ⟨53,[(1,.p (some (H.next,0,0))),(2,.p (some (H.next + 1,0,0))),(3,.p (some (H.next + 2,0,0))),(40,.b (!c'.ok))]⟩ G2 (fun K hk=>?_) ?_
       · simp [init_eq,aload,T2.cc,take_cells]
         refine ACalls.mono (check_ok ..) fun r H' ⟨hr,e⟩=>?_
         subst hr e
         cases k1:c'.ok
         · simpa [Cert.check,k1] using hk
         · simpa [Cert.check,k1] using hk
       refine AW_cond' rfl rfl (fun hc=>?_) (fun hc=>?_)
       · have k1:c'.ok = false:=by simpa using hc
         refine AW_reg [1,2,3] fun K hK=>?_
         simp [init_eq,aload,T2.bx]
         refine ACalls.mono (fail_ok T2.rd 110) fun r G3 ⟨h3,u⟩=>?_
         try simp
         apply hK;clear hK K
         refine rend ⟨_,by simp,rfl,?_⟩
         simp only [k1]
         refine ⟨h3,u.keep (by simp; omega) T2.bx,u.keep (by simp; omega) T2.rs,u.keep (by simp; omega) T2.cc,Nat.le_trans T2.nx u.1,fun j hj hn=>?_⟩
         rw [u.2 j (by have:=T2.nx; omega) (by simpa using hn),T2.old j hj hn]
       · have k1:c'.ok = true:=by simpa using hc
         refine AW_skip ?_
         refine rend ⟨_,by simp,rfl,?_⟩
         simp only [k1,if_true]
         exact T2
     · rintro ρ G3 ⟨rfl,T3⟩
       rw [et] at h34
       simp only at h34
       rw [et]
       generalize (if c'.ok = true then t else rfail 110 t) = w at *
       have hb:=rdone_bad h34
       refine AW_seq ?_
       refine AW_seq ?_
       refine AW_regto [2,3,50] ⟨53,[(2,.p (some (H.next + 1,0,0))),(3,.p (some (H.next + 2,0,0))),(50,.b (decide (w.2 ≠ 0)))]⟩ G3 (fun K hk=>?_) ?_
       · simp [init_eq,aload,T3.bx]
         refine ACalls.mono (done_ok T3.rd) fun r H' ⟨hr,e⟩=>?_
         subst hr e
         by_cases k1:rdone w = 0
         · have k2:w.2 = 0:=Classical.byContradiction fun hn=>(hb.2 hn).1 k1
           simpa [k1,k2] using hk
         · simp [k1,aload,T3.bx]
           refine ACalls.mono (done_ok T3.rd) fun r H2 ⟨hr,e⟩=>?_
           subst hr e
           by_cases k2:rdone w = 32
           · have k3:w.2 = 0:=Classical.byContradiction fun hn=>(hb.2 hn).2 k2
             simpa [k1,k2,k3] using hk
           · have k3:¬ w.2 = 0:=hb.1 ⟨k1,k2⟩
             simpa [k1,k2,k3] using hk
       have hu:Upd H G3 [id]:=⟨by have:=T3.nx; omega,fun j hj hn=>T3.old j hj (by simpa using hn)⟩
       have hlt1:H.next + 1 < G3.next:=by have:=T3.nx; omega
       have fin:∀ l,Rd H0 (G3.set (H.next + 1) (.cells l 0 false 0)) id w ∧ Upd H (G3.set (H.next + 1) (.cells l 0 false 0)) [id]:=fun l =>
        ⟨T3.rd.upd (Upd.set (F:=[H.next + 1]) _ _ _ (by simp)) (fun j hj=>by simp at hj; omega),hu.trans (Upd.set (F:=[H.next + 1]) _ _ _ (by simp)) (fun j hj=>.inr (by simp at hj; omega))⟩
       refine AW_cond' rfl rfl (fun hc=>?_) (fun hc=>?_)
       · have k1:¬ w.2 = 0:=by simpa using hc
         rw [if_neg k1]
         refine AW_seq ?_
         refine AW_reg [2] fun K hK=>?_
         have hab:abuild Tryz.prog 24 [] = some (.agg Cert.zero.cells):=by simp [abuild,afill]
         simp [init_eq,hab,astore,T3.rs,V.cells]
         apply hK;clear hK K
         refine AW_ret (end_ret (ares_cell (v:=.agg Cert.zero.cells) ?_) ⟨rfl,fin _⟩)
         simp [aload,AH.get_set,hlt1]
         rw [splice_all (c:=Cert.zero.cells) (l:=Cert.zero.cells) rfl]; simp [take_cells]
       · have k1:w.2 = 0:=by simpa using hc
         rw [if_pos k1]
         refine AW_skip ?_
         refine AW_seq ?_
         refine AW_reg [2] fun K hK=>?_
         simp [init_eq,aload,T3.cc,take_cells,astore,T3.rs,V.cells]
         apply hK;clear hK K
         refine AW_ret (end_ret (ares_cell (v:=.agg c'.cells) ?_) ⟨rfl,fin _⟩)
         simp [aload,AH.get_set,hlt1]
         rw [splice_all (c:=Cert.zero.cells) (l:=c'.cells) rfl]; simp [take_cells]
end Go.Proofs.YtaidfojbnfkclaaGreatDoor
set_option linter.unusedVariables false
set_option linter.unusedSimpArgs false
namespace Go.Proofs.YtaidfojbnfkclaaGreatDoor
open Go Go.Abs Go.Proofs
set_option maxRecDepth 100000
attribute [local irreducible] AEnd AW ACalls
theorem rmost_32 {m:Nat} {s:St} (h:s.2 ≠ 32):(rmost m s).2.2 ≠ 32:=by
 unfold rmost
 split
 · exact rfail_32 (by decide) (rnum_32 h)
 · exact rnum_32 h
theorem rmost_le (m:Nat) (s:St):(rmost m s).1 ≤ m:=by
 unfold rmost
 split
 · exact Nat.zero_le _
 · omega
theorem rtext_32 {s:St} (h:s.2 ≠ 32):(rtext s).2.2 ≠ 32:=by
 have:=rmost_32 (m:=65536) h
 unfold rtext
 split
 · exact rfail_32 (by decide) this
 · exact this
theorem rtext_len (s:St):(rtext s).1.length ≤ 65536:=by
 have:=rmost_le 65536 s
 unfold rtext
 split
 · simp
 · simp only [List.length_take]; omega
theorem rawTx_32 {k:Nat} {s:St} (h:s.2 ≠ 32):(rawTx k s).2.2 ≠ 32:=by
 unfold rawTx
 simp only
 split
 · exact rnum_32 (rtext_32 (rtext_32 (rnum_32 h)))
 · exact rtext_32 (rtext_32 (rtext_32 (rnum_32 h)))
theorem rawTx_fits (k:Nat) (s:St):(rawTx k s).1.fits:=by
 unfold rawTx
 simp only
 have h:=fun s=>Nat.le_trans (rtext_len s) (by decide:65536 ≤ 140737488351232)
 split
 · exact ⟨h _,h _,by simp,by simp⟩
 · exact ⟨h _,by simp,h _,h _⟩
theorem takeTx_32 {s:St} (h:s.2 ≠ 32):(takeTx s).2.2 ≠ 32:=by
 unfold takeTx
 split
 · simp only
   split
   · exact rawTx_32 (rnum_32 h)
   · exact rfail_32 (by decide) (rawTx_32 (rnum_32 h))
 · exact rfail_32 (by decide) (rnum_32 h)
/-- Under way: the reader, the transaction so far. -/
structure TT (H0 H G:AH) (id:Nat) (s:St) (t:Tx):Prop where
 rd:Rd H0 G id s
 rs:G.get H.next = some (.cells Tx.zero.cells 0 false 0)
 cc:G.get (H.next + 1) = some (.cells t.cells 0 false 0)
 nx:H.next + 2 ≤ G.next
 old:∀ j,j < H.next → j ≠ id → G.get j = H.get j
theorem TT.upd {H0 H G G':AH} {id:Nat} {s s':St} {t:Tx} (h:TT H0 H G id s t) (hid:id < H.next) (hr:Rd H0 G' id s') (u:Upd G G' [id]):TT H0 H G' id s' t:=by
 refine ⟨hr,u.keep (by simp; omega) h.rs,u.keep (by simp; omega) h.cc,Nat.le_trans h.nx u.1,fun j hj hn=>?_⟩
 rw [u.2 j (by have:=h.nx; omega) (by simpa using hn),h.old j hj hn]
theorem TT.set {H0 H G:AH} {id:Nat} {s:St} {t t':Tx} {l:List V} (h:TT H0 H G id s t) (hid:id < H.next) (hl:l = t'.cells):TT H0 H (G.set (H.next + 1) (.cells l 0 false 0)) id s t':=by
 subst hl
 have hn:=h.nx
 refine ⟨h.rd.upd (Upd.set (F:=[H.next + 1]) _ _ _ (by simp)) (fun j hj=>by simp at hj; omega),?_,?_,hn,fun j hj hne=>?_⟩
 · rw [AH.get_set_ne (by omega)]; exact h.rs
 · simp [AH.get_set]; omega
 · rw [AH.get_set_ne (by omega)]; exact h.old j hj hne
theorem Tx.w0 (t:Tx) (x:Int):splice t.cells 0 [.i .i64 x] = ({ t with kind:=x }).cells:=rfl
theorem Tx.w1 (t:Tx) (x:List UInt8):splice t.cells 1 [.s x] = ({ t with src:=x }).cells:=rfl
theorem Tx.w2 (t:Tx) (x:List UInt8):splice t.cells 2 [.s x] = ({ t with dst:=x }).cells:=rfl
theorem Tx.w3 (t:Tx) (x:List UInt8):splice t.cells 3 [.s x] = ({ t with key:=x }).cells:=rfl
theorem Tx.w4 (t:Tx) (x:List UInt8):splice t.cells 4 [.s x] = ({ t with val:=x }).cells:=rfl
theorem Tx.w5 (t:Tx) (x:Int):splice t.cells 5 [.i .i64 x] = ({ t with amount:=x }).cells:=rfl
theorem Tx.w6 (t:Tx) (x:Int):splice t.cells 6 [.i .i64 x] = ({ t with nonce:=x }).cells:=rfl
theorem txTake_ok {H0 H:AH} {id:Nat} {s:St} (h:Rd H0 H id s) (h32:s.2 ≠ 32):ACalls Tryz.prog 130 [.p (some (id,0,0))] H fun r H'=>r = .agg (takeTx s).1.cells ∧ Rd H0 H' id (takeTx s).2 ∧ Upd H H' [id]:=by
 have hid:=h.mem
 have hab:abuild Tryz.prog 75 [] = some (.agg Tx.zero.cells):=by simp [abuild,afill]; rfl
 have fin:∀ {G:AH} {w:St} {t:Tx},TT H0 H G id w t → ∀ l,Rd H0 (G.set H.next (.cells l 0 false 0)) id w ∧ Upd H (G.set H.next (.cells l 0 false 0)) [id]:=fun {G w t} T l =>
  ⟨T.rd.upd (Upd.set (F:=[H.next]) _ _ _ (by simp)) (fun j hj=>by simp at hj; omega),(show Upd H G [id] from ⟨by have:=T.nx; omega,fun j hj hn=>T.old j hj (by simpa using hn)⟩).trans (Upd.set (F:=[H.next]) _ _ _ (by simp)) (fun j hj=>.inr (by simp at hj; omega))⟩
 refine ACalls_body Tryz.func130 rfl rfl ?_
 refine AW_seq ?_
 refine AW_reg [0,2] fun K hK=>?_
 simp [init_eq,V.cells]
 apply hK;clear hK K
 refine AW_seq ?_
 refine AW_reg [0,2,3] fun K hK=>?_
 simp [init_eq,V.cells]
 apply hK;clear hK K
 obtain ⟨G,e1,g1,g2,gn,go⟩:=H.boxed2 Tx.zero.cells Tx.zero.cells
 have T0:TT H0 H G id s Tx.zero:=⟨h.upd (F:=[]) ⟨by omega,fun j hj _=>go j hj⟩ (by simp),g1,g2,by omega,fun j hj _=>go j hj⟩
 show AThen _ _ _ _ ((H.new (O.cells Tx.zero.cells 0 false 0)).new (O.cells Tx.zero.cells 0 false 0))
 rw [e1]
 clear e1 g1 g2 gn go
 have hq:=rnum_32 h32
 unfold takeTx
 generalize hk:rnum s = q at *
 obtain ⟨k,s1⟩:=q
 simp only at hq ⊢
 refine AW_cut (fun ρ G=>ρ = ⟨52,[(0,.p (some (id,0,0))),(2,.p (some (H.next,0,0))),(3,.p (some (H.next + 1,0,0)))]⟩ ∧ (k = 1 ∨ k = 2) ∧ TT H0 H G id s1 ⟨k,[],[],[],[],0,0⟩) ?_ ?_
 · refine AW_seq ?_
   refine AW_reg [0,2,3] fun K hK=>?_
   simp [init_eq]
   refine ACalls.mono (rdnum_ok T0.rd) fun r G1 ⟨hr,h1,u1⟩=>?_
   subst hr
   rw [hk] at h1 ⊢
   have T1:=T0.upd hid h1 u1
   simp only at T1
   simp [afieldAddr,astore,T1.cc,V.cells,Tx.w0]
   apply hK;clear hK K
   have T2:=T1.set hid (t':={ Tx.zero with kind:=k }) rfl
   generalize AH.set _ (H.next + 1) _ = G2 at T2 ⊢
   have T2:TT H0 H G2 id s1 ⟨k,[],[],[],[],0,0⟩:=T2
   refine AW_seq ?_
   refine AW_reg [0,2,3,9] fun K hK=>?_
   simp [init_eq,afieldAddr,aload,T2.cc]
   apply hK;clear hK K
   refine AW_block ?_
   refine AW_cutto ⟨52,[(0,.p (some (id,0,0))),(2,.p (some (H.next,0,0))),(3,.p (some (H.next + 1,0,0))),(9,.i .i64 (k:Nat)),(13,.b (decide (k = 1 ∨ k = 2)))]⟩ G2 ?_ ?_
   · refine AW_seq ?_
     refine AW_regto [0,2,3,9,13] ⟨52,[(0,.p (some (id,0,0))),(2,.p (some (H.next,0,0))),(3,.p (some (H.next + 1,0,0))),(9,.i .i64 (k:Nat)),(13,.b (decide (k = 1)))]⟩ G2 (fun K hk=>?_) ?_
     · by_cases k1:k = 1
       · simpa [init_eq,k1] using hk
       · have k2:¬ (k:Int) = 1:=by omega
         simpa [init_eq,k1,k2] using hk
     refine AW_cond' rfl rfl (fun hc=>?_) (fun hc=>?_)
     · have k1:k = 1:=by simpa using hc
       refine AW_skip ?_
       exact rend ⟨by simp [k1],rfl⟩
     · have k1:¬ k = 1:=by simpa using hc
       refine AW_regto [0,2,3,9,13] ⟨52,[(0,.p (some (id,0,0))),(2,.p (some (H.next,0,0))),(3,.p (some (H.next + 1,0,0))),(9,.i .i64 (k:Nat)),(13,.b (decide (k = 1 ∨ k = 2)))]⟩ G2 (fun K hk=>?_) (rend ⟨rfl,rfl⟩)
       by_cases k2:k = 2
       · simpa [init_eq,k2] using hk
       · have k3:¬ (k:Int) = 2:=by omega
         simpa [init_eq,k1,k2,k3] using hk
   · refine AW_cond' rfl rfl (fun hc=>?_) (fun hc=>?_)
     · have k1:k = 1 ∨ k = 2:=by simpa using hc
       refine AW_skip ?_
       exact bend (rend ⟨_,by simp,rfl,k1,T2⟩)
     · have k1:¬ (k = 1 ∨ k = 2):=by simpa using hc
       rw [if_neg k1]
       refine AW_seq ?_
       refine AW_reg [2] fun K hK=>?_
       simp [init_eq]
       refine ACalls.mono (fail_ok T2.rd 80) fun r G3 ⟨h3,u3⟩=>?_
       try simp
       apply hK;clear hK K
       have T3:=T2.upd hid h3 u3
       have hlt1:H.next < G3.next:=by have:=T3.nx; omega
       refine AW_seq ?_
       refine AW_reg [2] fun K hK=>?_
       simp [init_eq,hab,astore,T3.rs,V.cells]
       apply hK;clear hK K
       refine AW_ret (end_ret (ares_cell (v:=.agg Tx.zero.cells) ?_) ⟨rfl,fin T3 _⟩)
       simp [aload,AH.get_set,hlt1]
       rw [splice_all (c:=Tx.zero.cells) (l:=Tx.zero.cells) rfl]; simp [tx_take]
 · rintro ρ G1 ⟨rfl,hk12,T1⟩
   clear T0
   rw [if_pos hk12]
   have e:rawTx k s1 = (if k = 1 then (⟨k,(rtext (rnum s1).2).1,(rtext (rtext (rnum s1).2).2).1,[],[],(rnum (rtext (rtext (rnum s1).2).2).2).1,(rnum s1).1⟩,(rnum (rtext (rtext (rnum s1).2).2).2).2)
    else (⟨k,(rtext (rnum s1).2).1,[],(rtext (rtext (rnum s1).2).2).1,(rtext (rtext (rtext (rnum s1).2).2).2).1,0,(rnum s1).1⟩,(rtext (rtext (rtext (rnum s1).2).2).2).2)):=rfl
   have hf:=rawTx_fits k s1
   have h33:=rawTx_32 (k:=k) hq
   refine AW_seq ?_
   refine AW_reg [0,2,3] fun K hK=>?_
   simp [init_eq]
   refine ACalls.mono (rdnum_ok T1.rd) fun r G2 ⟨hr,h2,u2⟩=>?_
   subst hr
   have T2:=T1.upd hid h2 u2
   try simp
   refine ACalls.mono (text_ok' T2.rd) fun r G3 ⟨hr,h3,u3⟩=>?_
   subst hr
   have T3:=T2.upd hid h3 u3
   have hlt:H.next + 1 < G3.next:=by have:=T3.nx; omega
   simp [afieldAddr,astore,T3.cc,V.cells,AH.get_set,hlt,Tx.w6,Tx.w1]
   apply hK;clear hK K
   generalize ha:rnum s1 = a at *
   generalize hb:rtext a.2 = b at *
   have T4:=(T3.set hid (t':=⟨k,[],[],[],[],0,a.1⟩) rfl).set hid (t':=⟨k,b.1,[],[],[],0,a.1⟩) rfl
   generalize AH.set _ (H.next + 1) _ = G4 at T4 ⊢
   refine AW_cut (fun ρ G=>ρ = ⟨52,[(0,.p (some (id,0,0))),(2,.p (some (H.next,0,0))),(3,.p (some (H.next + 1,0,0)))]⟩ ∧ TT H0 H G id (rawTx k s1).2 (rawTx k s1).1) ?_ ?_
   · refine AW_seq ?_
     refine AW_regto [0,2,3,24] ⟨52,[(0,.p (some (id,0,0))),(2,.p (some (H.next,0,0))),(3,.p (some (H.next + 1,0,0))),(24,.b (decide (k = 1)))]⟩ G4 (fun K hk=>?_) ?_
     · by_cases k1:k = 1
       · simpa [init_eq,afieldAddr,aload,T4.cc,k1] using hk
       · have k2:¬ (k:Int) = 1:=by omega
         simpa [init_eq,afieldAddr,aload,T4.cc,k1,k2] using hk
     refine AW_cond' rfl rfl (fun hc=>?_) (fun hc=>?_)
     · have k1:k = 1:=by simpa using hc
       rw [e,if_pos k1]
       refine AW_reg [0,2,3] fun K hK=>?_
       simp [init_eq]
       refine ACalls.mono (text_ok' T4.rd) fun r G5 ⟨hr,h5,u5⟩=>?_
       subst hr
       have T5:=T4.upd hid h5 u5
       try simp
       refine ACalls.mono (rdnum_ok T5.rd) fun r G6 ⟨hr,h6,u6⟩=>?_
       subst hr
       have T6:=T5.upd hid h6 u6
       have hlt:H.next + 1 < G6.next:=by have:=T6.nx; omega
       simp [afieldAddr,astore,T6.cc,V.cells,AH.get_set,hlt,Tx.w2,Tx.w5]
       apply hK;clear hK K
       exact rend ⟨_,by simp,rfl,(T6.set hid (t':=⟨k,b.1,(rtext b.2).1,[],[],0,a.1⟩) rfl).set hid (t':=⟨k,b.1,(rtext b.2).1,[],[],(rnum (rtext b.2).2).1,a.1⟩) rfl⟩
     · have k1:¬ k = 1:=by simpa using hc
       rw [e,if_neg k1]
       refine AW_reg [0,2,3] fun K hK=>?_
       simp [init_eq]
       refine ACalls.mono (text_ok' T4.rd) fun r G5 ⟨hr,h5,u5⟩=>?_
       subst hr
       have T5:=T4.upd hid h5 u5
       try simp
       refine ACalls.mono (text_ok' T5.rd) fun r G6 ⟨hr,h6,u6⟩=>?_
       subst hr
       have T6:=T5.upd hid h6 u6
       have hlt:H.next + 1 < G6.next:=by have:=T6.nx; omega
       simp [afieldAddr,astore,T6.cc,V.cells,AH.get_set,hlt,Tx.w3,Tx.w4]
       apply hK;clear hK K
       exact rend ⟨_,by simp,rfl,(T6.set hid (t':=⟨k,b.1,[],(rtext b.2).1,[],0,a.1⟩) rfl).set hid (t':=⟨k,b.1,[],(rtext b.2).1,(rtext (rtext b.2).2).1,0,a.1⟩) rfl⟩
   · rintro ρ G5 ⟨rfl,T5⟩
     clear T1 T2 T3 T4 e
     generalize rawTx k s1 = y at *
     obtain ⟨t,w⟩:=y
     simp only at T5 hf h33 ⊢
     have h34:(if t.ok = true then w else rfail 80 w).2 ≠ 32:=by
      split
      · exact h33
      · exact rfail_32 (by decide) h33
     refine AW_cut (fun ρ G=>ρ = ⟨52,[(0,.p (some (id,0,0))),(2,.p (some (H.next,0,0))),(3,.p (some (H.next + 1,0,0)))]⟩ ∧ TT H0 H G id (if t.ok = true then w else rfail 80 w) t) ?_ ?_
     · refine AW_seq ?_
       refine AW_regto [0,2,3,39] ⟨52,[(0,.p (some (id,0,0))),(2,.p (some (H.next,0,0))),(3,.p (some (H.next + 1,0,0))),(39,.b (!t.ok))]⟩ G5 (fun K hk=>?_) ?_
       · simp [init_eq,aload,T5.cc,tx_take]
         refine ACalls.mono (txCheck_ok _ _ hf) fun r H' ⟨hr,e⟩=>?_
         subst hr e
         cases k1:t.ok
         · simpa [k1] using hk
         · simpa [k1] using hk
       refine AW_cond' rfl rfl (fun hc=>?_) (fun hc=>?_)
       · have k1:t.ok = false:=by simpa using hc
         refine AW_reg [0,2,3] fun K hK=>?_
         simp [init_eq]
         refine ACalls.mono (fail_ok T5.rd 80) fun r G6 ⟨h6,u6⟩=>?_
         try simp
         apply hK;clear hK K
         refine rend ⟨_,by simp,rfl,?_⟩
         simp only [k1]
         exact T5.upd hid h6 u6
       · have k1:t.ok = true:=by simpa using hc
         refine AW_skip ?_
         refine rend ⟨_,by simp,rfl,?_⟩
         simp only [k1,if_true]
         exact T5
     · rintro ρ G6 ⟨rfl,T6⟩
       generalize (if t.ok = true then w else rfail 80 w) = w' at *
       have hb:=rdone_bad h34
       have hlt1:H.next < G6.next:=by have:=T6.nx; omega
       refine AW_seq ?_
       refine AW_seq ?_
       refine AW_reg [2,3,4] fun K hK=>?_
       simp [init_eq]
       refine ACalls.mono (done_ok T6.rd) fun r H' ⟨hr,e⟩=>?_
       subst hr e
       try simp
       apply hK;clear hK K
       refine AW_seq ?_
       refine AW_regto [2,3,49] ⟨52,[(2,.p (some (H.next,0,0))),(3,.p (some (H.next + 1,0,0))),(49,.b (decide (w'.2 ≠ 0)))]⟩ H' (fun K hk=>?_) ?_
       · by_cases k1:rdone w' = 0
         · have k2:w'.2 = 0:=Classical.byContradiction fun hn=>(hb.2 hn).1 k1
           simpa [init_eq,k1,k2] using hk
         · by_cases k2:rdone w' = 32
           · have k3:w'.2 = 0:=Classical.byContradiction fun hn=>(hb.2 hn).2 k2
             simpa [init_eq,k1,k2,k3] using hk
           · have k3:¬ w'.2 = 0:=hb.1 ⟨k1,k2⟩
             simpa [init_eq,k1,k2,k3] using hk
       refine AW_cond' rfl rfl (fun hc=>?_) (fun hc=>?_)
       · have k1:¬ w'.2 = 0:=by simpa using hc
         rw [if_neg k1]
         refine AW_seq ?_
         refine AW_reg [2] fun K hK=>?_
         simp [init_eq,hab,astore,T6.rs,V.cells]
         apply hK;clear hK K
         refine AW_ret (end_ret (ares_cell (v:=.agg Tx.zero.cells) ?_) ⟨rfl,fin T6 _⟩)
         simp [aload,AH.get_set,hlt1]
         rw [splice_all (c:=Tx.zero.cells) (l:=Tx.zero.cells) rfl]; simp [tx_take]
       · have k1:w'.2 = 0:=by simpa using hc
         rw [if_pos k1]
         refine AW_skip ?_
         refine AW_seq ?_
         refine AW_reg [2] fun K hK=>?_
         simp [init_eq,aload,T6.cc,tx_take,astore,T6.rs,V.cells]
         apply hK;clear hK K
         refine AW_ret (end_ret (ares_cell (v:=.agg t.cells) ?_) ⟨rfl,fin T6 _⟩)
         simp [aload,AH.get_set,hlt1]
         rw [splice_all (c:=Tx.zero.cells) (l:=t.cells) rfl]; simp [tx_take]
end Go.Proofs.YtaidfojbnfkclaaGreatDoor
set_option linter.unusedVariables false
set_option linter.unusedSimpArgs false
namespace Go.Proofs.YtaidfojbnfkclaaGreatDoor
open Go Go.Abs Go.Proofs
set_option maxRecDepth 100000
attribute [local irreducible] AEnd AW ACalls
theorem take2_ok {H0 H:AH} {id bx:Nat} {s:St} (h:Rd H0 H id s) (hb:H.get bx = some (.cells [.p (some (id,0,0))] 0 false 0)) (hne:bx ≠ id) (h32:s.2 ≠ 32) :
  ACalls Tryz.prog 129 [.p (some (bx,0,0))] H fun r H'=>r = .agg (takeTx s).1.cells ∧ Rd H0 H' id (takeTx s).2 ∧ Upd H H' [id]:=by
 have hid:=h.mem
 refine ACalls_body Tryz.func129 rfl rfl ?_
 refine AW_seq ?_
 refine AW_reg [0,1] fun K hK=>?_
 simp [init_eq,V.cells]
 apply hK;clear hK K
 obtain ⟨G,e1,g1,gn,go⟩:=H.boxed Tx.zero.cells
 show AThen _ _ _ _ (H.new (O.cells Tx.zero.cells 0 false 0))
 rw [e1]
 have u0:Upd H G []:=⟨by omega,fun j hj _=>go j hj⟩
 have hbG:G.get bx = some (.cells [.p (some (id,0,0))] 0 false 0):=u0.keep (by simp) hb
 have hG:Rd H0 G id s:=h.upd u0 (by simp)
 refine AW_seq ?_
 refine AW_reg [1] fun K hK=>?_
 simp [init_eq,aload,hbG]
 refine ACalls.mono (txTake_ok hG h32) fun r G1 ⟨hr,h1,u1⟩=>?_
 subst hr
 have g2:=u1.keep (by simp; omega) g1
 simp [astore,g2,V.cells]
 apply hK;clear hK K
 have hlt:H.next < G1.next:=by have:=u1.1; omega
 refine AW_ret (end_ret (ares_cell (v:=.agg (takeTx s).1.cells) ?_) ⟨rfl,h1.upd (Upd.set (F:=[H.next]) _ _ _ (by simp)) (fun j hj=>by simp at hj; omega),?_⟩)
 · simp [aload,AH.get_set,hlt]
   rw [splice_all (c:=Tx.zero.cells) (l:=(takeTx s).1.cells) rfl]; simp [tx_take]
 · exact ((u0.mono (by simp)).trans u1 (fun j hj=>.inl hj)).trans (Upd.set (F:=[H.next]) _ _ _ (by simp)) (fun j hj=>.inr (by simp at hj; omega))
theorem take1_ok {H0 H:AH} {id bx bb:Nat} {s:St} (h:Rd H0 H id s) (hb:H.get bx = some (.cells [.p (some (id,0,0))] 0 false 0)) (hne:bx ≠ id) (h32:s.2 ≠ 32) {b:Blk} {pv tv:V} (hbb:H.get bb = some (.cells (b.cells pv tv) 0 false 0)) (hne2:bb ≠ id) :
  ACalls Tryz.prog 127 [.p (some (bx,0,0)),.p (some (bb,0,0))] H fun r H'=>r = .agg (takeTmo b.view s).1.cells ∧ Rd H0 H' id (takeTmo b.view s).2 ∧ Upd H H' [id]:=by
 have hid:=h.mem
 refine ACalls_body Tryz.func127 rfl rfl ?_
 refine AW_seq ?_
 refine AW_reg [0,1,2] fun K hK=>?_
 simp [init_eq,V.cells]
 apply hK;clear hK K
 obtain ⟨G,e1,g1,gn,go⟩:=H.boxed (Tmo.cells ⟨0,0,Cert.zero⟩)
 show AThen _ _ _ _ (H.new (O.cells (Tmo.cells ⟨0,0,Cert.zero⟩) 0 false 0))
 rw [e1]
 have u0:Upd H G []:=⟨by omega,fun j hj _=>go j hj⟩
 have hbG:G.get bx = some (.cells [.p (some (id,0,0))] 0 false 0):=u0.keep (by simp) hb
 have hbbG:G.get bb = some (.cells (b.cells pv tv) 0 false 0):=u0.keep (by simp) hbb
 have hG:Rd H0 G id s:=h.upd u0 (by simp)
 refine AW_seq ?_
 refine AW_regm (.only [bx,bb]) [2] pl_127_1 pe_127_1 (by kernel_rfl) (by kernel_rfl) (by decide) fun K hK=>?_
 simp [init_eq,pl_127_1,APlan_takem,through,tkOk,rid,aload,hbG,hbbG,afieldAddr]
 refine ACalls.mono (small_ok hG) fun r G1 ⟨hr,h1,u1⟩=>?_
 subst hr
 have h33:(rsmall s).2.2 ≠ 32:=rnum_32 h32
 have lb:=AH.get_lt hb
 have lbb:=AH.get_lt hbb
 refine ⟨⟨u1.1,fun _=>u1.keep (by simp; omega) hbG,fun _=>u1.keep (by simp; omega) hbbG⟩,?_⟩
 refine ACalls.mono (certTake_ok h1 h33) fun r G2 ⟨hr,h2,u2⟩=>?_
 subst hr
 refine ⟨⟨u2.1,fun hn=>u2.2 _ hn (by simp; omega),fun hn=>u2.2 _ hn (by simp; omega)⟩,?_⟩
 have g3:=u2.keep (by simp; omega) (u1.keep (by simp; omega) g1)
 have e2:takeTmo b.view s = (⟨(rsmall s).1,b.view,(takeCert (rsmall s).2).1⟩,(takeCert (rsmall s).2).2):=rfl
 have hlt:H.next < G2.next:=AH.get_lt g3
 generalize (takeCert (rsmall s).2).1 = c at *
 generalize (takeCert (rsmall s).2).2 = w at *
 generalize (rsmall s).1 = n at *
 have hsp:splice Cert.zero.cells 0 c.cells = c.cells:=splice_all rfl
 have hab:abuild Tryz.prog 68 [(0,.i .i64 (n:Nat)),(1,.i .i64 b.view),(2,.agg c.cells)] = some (.agg (Tmo.cells ⟨n,b.view,c⟩)):=by
  simp [abuild,afill,V.cells,splice_zero,splice_succ,Tmo.cells]
  exact hsp
 simp [hab,astore,g3,V.cells]
 apply hK;clear hK K
 rw [e2]
 refine AW_ret (end_ret (ares_cell (v:=.agg (Tmo.cells ⟨n,b.view,c⟩)) ?_) ⟨rfl,h2.upd (Upd.set (F:=[H.next]) _ _ _ (by simp)) (fun j hj=>by simp at hj; omega),?_⟩)
 · simp [aload,AH.get_set,hlt]
   rw [splice_all (c:=Tmo.cells ⟨0,0,Cert.zero⟩) (l:=Tmo.cells ⟨n,b.view,c⟩) rfl]; simp [tmo_take]
 · exact (((u0.mono (by simp)).trans u1 (fun j hj=>.inl hj)).trans u2 (fun j hj=>.inl hj)).trans (Upd.set (F:=[H.next]) _ _ _ (by simp)) (fun j hj=>.inr (by simp at hj; omega))
end Go.Proofs.YtaidfojbnfkclaaGreatDoor
set_option linter.unusedVariables false
set_option linter.unusedSimpArgs false
namespace Go.Proofs.YtaidfojbnfkclaaGreatDoor
open Go Go.Abs Go.Proofs
set_option maxRecDepth 100000
attribute [local irreducible] AEnd AW ACalls
theorem app_txs:App Tryz.prog 26 26 7 88:=App.mk' qelem_26 qsize_75 qbytes_75 qzero_75 qsrc_26 rfl (by decide)
theorem app_tmos:App Tryz.prog 25 25 10 72:=App.mk' qelem_25 qsize_68 qbytes_68 qzero_68 qsrc_25 rfl (by decide)
/-- A list of transactions is read. -/
theorem listTx_ok {H0 H:AH} {id bx:Nat} {s:St} (h:Rd H0 H id s) (hb:H.get bx = some (.cells [.p (some (id,0,0))] 0 false 0)) (hne:bx ≠ id) (h32:s.2 ≠ 32) (m:Nat) (hm:m ≤ 1000) :
  ACalls Tryz.prog 128 [.p (some (id,0,0)),.i .i64 (m:Int),.fn (.func 129) [] [.p (some (bx,0,0))]] H fun r H' =>
   ∃ F,Own H' r 7 ((takeL takeTx (rmost m s).1 (rmost m s).2).1.map Tx.cells).flatten F ∧ (∀ j ∈ F,H.next ≤ j) ∧ Rd H0 H' id (takeL takeTx (rmost m s).1 (rmost m s).2).2 ∧ Upd H H' [id]:=by
 have hid:=h.mem
 refine ACalls_body Tryz.func128 rfl rfl ?_
 refine AW_seq ?_
 refine AW_reg [0,1,2] fun K hK=>?_
 simp [init_eq]
 apply hK;clear hK K
 refine AW_seq ?_
 refine AW_reg [0,1,2,7] fun K hK=>?_
 simp [init_eq]
 apply hK;clear hK K
 refine AW_seq ?_
 refine AW_seq ?_
 refine AW_reg [2,7,8] fun K hK=>?_
 simp [init_eq]
 refine ACalls.mono (most_ok h m) fun r H1 ⟨hr,h1,u1⟩=>?_
 subst hr
 try simp
 apply hK;clear hK K
 have hle:=rmost_le m s
 have h33:=rmost_32 (m:=m) h32
 generalize rmost m s = q at *
 obtain ⟨n,s1⟩:=q
 simp only at h1 hle h33 ⊢
 refine AW_block ?_
 refine AW_loopx (fun x:List Tx × V × Nat × St=>⟨22,[(2,.fn (.func 129) [] [.p (some (bx,0,0))]),(7,x.2.1),(8,.i .i64 (x.2.2.1:Int))]⟩)
  (fun x G=>x.1.length + x.2.2.1 = n ∧ takeL takeTx n s1 = (x.1 ++ (takeL takeTx x.2.2.1 x.2.2.2).1,(takeL takeTx x.2.2.1 x.2.2.2).2) ∧ x.2.2.2.2 ≠ 32 ∧ Rd H0 G id x.2.2.2 ∧ Upd H G [id] ∧ ∃ F,Own G x.2.1 7 (x.1.map Tx.cells).flatten F ∧ ∀ j ∈ F,H.next ≤ j)
  (fun x=>x.2.2.1) ([],.sl none 0 false,n,s1) (by simp) ⟨by simp,by simp,h33,h1,u1,[],Own.nil ..,by simp⟩ fun x G hM=>?_
 obtain ⟨xs,v,k,st⟩:=x
 obtain ⟨m1,m2,m3,m4,m5,F,o,l⟩:=hM
 simp only at m1 m2 m3 m4 m5 o ⊢
 refine AW_seq ?_
 refine AW_seq ?_
 refine AW_regto [2,7,8,13] ⟨22,[(2,.fn (.func 129) [] [.p (some (bx,0,0))]),(7,v),(8,.i .i64 (k:Int)),(13,.b (decide (0 < k)))]⟩ G (fun K hk=>?_) ?_
 · by_cases k1:0 < k
   · have k2:(0:Int) < k:=by omega
     simpa [init_eq,k1,k2] using hk
   · have k2:¬ (0:Int) < k:=by omega
     simpa [init_eq,k1,k2] using hk
 refine AW_cond' rfl rfl (fun hc=>?_) (fun hc=>?_)
 · have k1:0 < k:=by simpa using hc
   obtain ⟨k',rfl⟩:∃ k',k = k' + 1:=⟨k - 1,by omega⟩
   have hw:IntKind.i64.wrap (((k' + 1:Nat):Int) - 1) = (k':Int):=by
    rw [wrap_id (by omega) (by omega)]; omega
   refine AW_skip ?_
   refine AW_seq ?_
   refine AW_block ?_
   refine AW_reg [2,7,8] fun K hK=>?_
   simp [init_eq,AOp_callv (f:=129) (first:=[]) (caps:=[.p (some (bx,0,0))])]
   have lb:=AH.get_lt hb
   have hbG:=m5.keep (by simp; omega) hb
   refine ACalls.mono (take2_ok m4 hbG hne m3) fun r G1 ⟨hr,h2,u2⟩=>?_
   subst hr
   have hidF:∀ j ∈ F,j ∉ [id]:=fun j hj=>by have:=l j hj; simp; omega
   have o2:=o.upd u2 hidF
   obtain ⟨G2,v',G3,F',b1,b2,b3,b4,b5⟩:=o2.pushR (f:=Tx.cells) app_txs qelem_26 qsize_75 qzero_75 rfl rfl (by decide) (fun _=>rfl) (takeTx st).1 (x:=.agg (takeTx st).1.cells) rfl (by simp [roomOk]; omega)
   have hn1:H.next ≤ G1.next:=Nat.le_trans m5.1 u2.1
   have r3:=h2.upd b4 (fun j hj=>by have:=l j hj; omega)
   have u3:Upd H G3 [id]:=(m5.trans u2 (fun j hj=>.inl hj)).trans b4 (fun j hj=>.inr (l j hj))
   have e3:takeL takeTx (k' + 1) st = ((takeTx st).1 :: (takeL takeTx k' (takeTx st).2).1,(takeL takeTx k' (takeTx st).2).2):=rfl
   rw [e3] at m2
   have m32:=takeTx_32 m3
   generalize takeTx st = y at *
   obtain ⟨a,st'⟩:=y
   simp only at b1 b2 b3 r3 m2 m32 ⊢
   simp [b1,b2]
   apply hK;clear hK K
   refine bend (rend ?_)
   refine AW_reg [2,7,8] fun K hK=>?_
   simp [init_eq,hw]
   apply hK;clear hK K
   refine rend ⟨(xs ++ [a],v',k',st'),by simp [show IntKind.i64.wrap ((k':Nat):Int) = k' from wrap_id (by omega) (by omega)],⟨by simp; omega,by simpa using m2,m32,r3,u3,F',b3,fun j hj=>?_⟩,by simp⟩
   rcases b5 j hj with hx | hx
   · exact l j hx
   · omega
 · have k1:k = 0:=by
     have:¬ 0 < k:=by simpa using hc
     omega
   subst k1
   refine AW_exit (then_exit (then_exit (block_here ?_)))
   refine AW_seq ?_
   refine AW_reg [6] fun K hK=>?_
   simp [init_eq]
   apply hK;clear hK K
   refine AW_ret (end_ret rfl ?_)
   have e:takeL takeTx n s1 = (xs,st):=by rw [m2]; simp [takeL]
   rw [e]
   exact ⟨F,o,l,m4,m5⟩
/-- A list of timeouts is read. -/
theorem listTmo_ok {H0 H:AH} {id bx bb:Nat} {s:St} {b:Blk} {pv tv:V} (hbb:H.get bb = some (.cells (b.cells pv tv) 0 false 0)) (hne2:bb ≠ id) (h:Rd H0 H id s) (hb:H.get bx = some (.cells [.p (some (id,0,0))] 0 false 0)) (hne:bx ≠ id) (h32:s.2 ≠ 32) (m:Nat) (hm:m ≤ 1000) :
  ACalls Tryz.prog 126 [.p (some (id,0,0)),.i .i64 (m:Int),.fn (.func 127) [] [.p (some (bx,0,0)),.p (some (bb,0,0))]] H fun r H' =>
   ∃ F,Own H' r 10 ((takeL (takeTmo b.view) (rmost m s).1 (rmost m s).2).1.map Tmo.cells).flatten F ∧ (∀ j ∈ F,H.next ≤ j) ∧ Rd H0 H' id (takeL (takeTmo b.view) (rmost m s).1 (rmost m s).2).2 ∧ Upd H H' [id]:=by
 have hid:=h.mem
 refine ACalls_body Tryz.func126 rfl rfl ?_
 refine AW_seq ?_
 refine AW_reg [0,1,2] fun K hK=>?_
 simp [init_eq]
 apply hK;clear hK K
 refine AW_seq ?_
 refine AW_reg [0,1,2,7] fun K hK=>?_
 simp [init_eq]
 apply hK;clear hK K
 refine AW_seq ?_
 refine AW_seq ?_
 refine AW_reg [2,7,8] fun K hK=>?_
 simp [init_eq]
 refine ACalls.mono (most_ok h m) fun r H1 ⟨hr,h1,u1⟩=>?_
 subst hr
 try simp
 apply hK;clear hK K
 have hle:=rmost_le m s
 have h33:=rmost_32 (m:=m) h32
 generalize rmost m s = q at *
 obtain ⟨n,s1⟩:=q
 simp only at h1 hle h33 ⊢
 refine AW_block ?_
 refine AW_loopx (fun x:List Tmo × V × Nat × St=>⟨22,[(2,.fn (.func 127) [] [.p (some (bx,0,0)),.p (some (bb,0,0))]),(7,x.2.1),(8,.i .i64 (x.2.2.1:Int))]⟩)
  (fun x G=>x.1.length + x.2.2.1 = n ∧ takeL (takeTmo b.view) n s1 = (x.1 ++ (takeL (takeTmo b.view) x.2.2.1 x.2.2.2).1,(takeL (takeTmo b.view) x.2.2.1 x.2.2.2).2) ∧ x.2.2.2.2 ≠ 32 ∧ Rd H0 G id x.2.2.2 ∧ Upd H G [id] ∧ ∃ F,Own G x.2.1 10 (x.1.map Tmo.cells).flatten F ∧ ∀ j ∈ F,H.next ≤ j)
  (fun x=>x.2.2.1) ([],.sl none 0 false,n,s1) (by simp) ⟨by simp,by simp,h33,h1,u1,[],Own.nil ..,by simp⟩ fun x G hM=>?_
 obtain ⟨xs,v,k,st⟩:=x
 obtain ⟨m1,m2,m3,m4,m5,F,o,l⟩:=hM
 simp only at m1 m2 m3 m4 m5 o ⊢
 refine AW_seq ?_
 refine AW_seq ?_
 refine AW_regto [2,7,8,13] ⟨22,[(2,.fn (.func 127) [] [.p (some (bx,0,0)),.p (some (bb,0,0))]),(7,v),(8,.i .i64 (k:Int)),(13,.b (decide (0 < k)))]⟩ G (fun K hk=>?_) ?_
 · by_cases k1:0 < k
   · have k2:(0:Int) < k:=by omega
     simpa [init_eq,k1,k2] using hk
   · have k2:¬ (0:Int) < k:=by omega
     simpa [init_eq,k1,k2] using hk
 refine AW_cond' rfl rfl (fun hc=>?_) (fun hc=>?_)
 · have k1:0 < k:=by simpa using hc
   obtain ⟨k',rfl⟩:∃ k',k = k' + 1:=⟨k - 1,by omega⟩
   have hw:IntKind.i64.wrap (((k' + 1:Nat):Int) - 1) = (k':Int):=by
    rw [wrap_id (by omega) (by omega)]; omega
   refine AW_skip ?_
   refine AW_seq ?_
   refine AW_block ?_
   refine AW_reg [2,7,8] fun K hK=>?_
   simp [init_eq,AOp_callv (f:=127) (first:=[]) (caps:=[.p (some (bx,0,0)),.p (some (bb,0,0))])]
   have lb:=AH.get_lt hb
   have lbb:=AH.get_lt hbb
   have hbG:=m5.keep (by simp; omega) hb
   have hbbG:=m5.keep (by simp; omega) hbb
   refine ACalls.mono (take1_ok m4 hbG hne m3 hbbG hne2) fun r G1 ⟨hr,h2,u2⟩=>?_
   subst hr
   have hidF:∀ j ∈ F,j ∉ [id]:=fun j hj=>by have:=l j hj; simp; omega
   have o2:=o.upd u2 hidF
   obtain ⟨G2,v',G3,F',b1,b2,b3,b4,b5⟩:=o2.pushR (f:=Tmo.cells) app_tmos qelem_25 qsize_68 qzero_68 rfl rfl (by decide) (fun _=>rfl) ((takeTmo b.view) st).1 (x:=.agg ((takeTmo b.view) st).1.cells) rfl (by simp [roomOk]; omega)
   have hn1:H.next ≤ G1.next:=Nat.le_trans m5.1 u2.1
   have r3:=h2.upd b4 (fun j hj=>by have:=l j hj; omega)
   have u3:Upd H G3 [id]:=(m5.trans u2 (fun j hj=>.inl hj)).trans b4 (fun j hj=>.inr (l j hj))
   have e3:takeL (takeTmo b.view) (k' + 1) st = (((takeTmo b.view) st).1 :: (takeL (takeTmo b.view) k' ((takeTmo b.view) st).2).1,(takeL (takeTmo b.view) k' ((takeTmo b.view) st).2).2):=rfl
   rw [e3] at m2
   have m32:(takeTmo b.view st).2.2 ≠ 32:=takeCert_32 (s:=(rsmall st).2) (rnum_32 m3)
   generalize takeTmo b.view st = y at *
   obtain ⟨a,st'⟩:=y
   simp only at b1 b2 b3 r3 m2 m32 ⊢
   simp [b1,b2]
   apply hK;clear hK K
   refine bend (rend ?_)
   refine AW_reg [2,7,8] fun K hK=>?_
   simp [init_eq,hw]
   apply hK;clear hK K
   refine rend ⟨(xs ++ [a],v',k',st'),by simp [show IntKind.i64.wrap ((k':Nat):Int) = k' from wrap_id (by omega) (by omega)],⟨by simp; omega,by simpa using m2,m32,r3,u3,F',b3,fun j hj=>?_⟩,by simp⟩
   rcases b5 j hj with hx | hx
   · exact l j hx
   · omega
 · have k1:k = 0:=by
     have:¬ 0 < k:=by simpa using hc
     omega
   subst k1
   refine AW_exit (then_exit (then_exit (block_here ?_)))
   refine AW_seq ?_
   refine AW_reg [6] fun K hK=>?_
   simp [init_eq]
   apply hK;clear hK K
   refine AW_ret (end_ret rfl ?_)
   have e:takeL (takeTmo b.view) n s1 = (xs,st):=by rw [m2]; simp [takeL]
   rw [e]
   exact ⟨F,o,l,m4,m5⟩
end Go.Proofs.YtaidfojbnfkclaaGreatDoor
set_option linter.unusedVariables false
set_option linter.unusedSimpArgs false
namespace Go.Proofs.YtaidfojbnfkclaaGreatDoor
open Go Go.Abs Go.Proofs
set_option maxRecDepth 100000
attribute [local irreducible] AEnd AW ACalls
abbrev nilSl:V:=.sl none 0 false
/-- Under way: the reader, the box, the block so far. -/
structure TB (H0 H G:AH) (id:Nat) (s:St) (b:Blk) (pv tv:V):Prop where
 rd:Rd H0 G id s
 bx:G.get H.next = some (.cells [.p (some (id,0,0))] 0 false 0)
 rs:G.get (H.next + 1) = some (.cells (Blk.zero.cells nilSl nilSl) 0 false 0)
 cc:G.get (H.next + 2) = some (.cells (b.cells pv tv) 0 false 0)
 nx:H.next + 3 ≤ G.next
 old:∀ j,j < H.next → j ≠ id → G.get j = H.get j
theorem TB.upd {H0 H G G':AH} {id:Nat} {s s':St} {b:Blk} {pv tv:V} (h:TB H0 H G id s b pv tv) (hid:id < H.next) (hr:Rd H0 G' id s') (u:Upd G G' [id]):TB H0 H G' id s' b pv tv:=by
 refine ⟨hr,u.keep (by simp; omega) h.bx,u.keep (by simp; omega) h.rs,u.keep (by simp; omega) h.cc,Nat.le_trans h.nx u.1,fun j hj hn=>?_⟩
 rw [u.2 j (by have:=h.nx; omega) (by simpa using hn),h.old j hj hn]
theorem TB.set {H0 H G:AH} {id:Nat} {s:St} {b b':Blk} {pv tv pv' tv':V} {l:List V} (h:TB H0 H G id s b pv tv) (hid:id < H.next) (hl:l = b'.cells pv' tv'):TB H0 H (G.set (H.next + 2) (.cells l 0 false 0)) id s b' pv' tv':=by
 subst hl
 have hn:=h.nx
 refine ⟨h.rd.upd (Upd.set (F:=[H.next + 2]) _ _ _ (by simp)) (fun j hj=>by simp at hj; omega),?_,?_,?_,hn,fun j hj hne=>?_⟩
 · rw [AH.get_set_ne (by omega)]; exact h.bx
 · rw [AH.get_set_ne (by omega)]; exact h.rs
 · simp [AH.get_set]; omega
 · rw [AH.get_set_ne (by omega)]; exact h.old j hj hne
theorem Blk.w0 (b:Blk) (pv tv:V) (x:Int):splice (b.cells pv tv) 0 [.i .i64 x] = ({ b with view:=x }).cells pv tv:=rfl
theorem Blk.w1 (b:Blk) (pv tv:V) (x:Int):splice (b.cells pv tv) 1 [.i .i64 x] = ({ b with round:=x }).cells pv tv:=rfl
theorem Blk.w2 (b:Blk) (pv tv:V) (x:Int):splice (b.cells pv tv) 2 [.i .i64 x] = ({ b with height:=x }).cells pv tv:=rfl
theorem Blk.w3 (b:Blk) (pv tv:V) (x:Int):splice (b.cells pv tv) 3 [.i .i64 x] = ({ b with author:=x }).cells pv tv:=rfl
theorem Blk.w4 (b:Blk) (pv tv:V) (c:Cert):splice (b.cells pv tv) 4 c.cells = ({ b with parent:=c }).cells pv tv:=rfl
theorem Blk.w12 (b:Blk) (pv tv w:V):splice (b.cells pv tv) 12 [w] = b.cells w tv:=rfl
theorem Blk.w13 (b:Blk) (pv tv w:V):splice (b.cells pv tv) 13 [w] = b.cells pv w:=rfl
theorem takeL_32 {α:Type} {f:St → α × St} (hf:∀ s,s.2 ≠ 32 → (f s).2.2 ≠ 32):∀ (n:Nat) (s:St),s.2 ≠ 32 → (takeL f n s).2.2 ≠ 32
 | 0,s,h=>h
 | n + 1,s,h=>takeL_32 hf n _ (hf s h)
theorem takeTx_fits (s:St):(takeTx s).1.fits:=by
 have hz:Tx.zero.fits:=⟨by decide,by decide,by decide,by decide⟩
 unfold takeTx
 split
 · simp only
   repeat' split
   all_goals first | exact rawTx_fits _ _ | exact hz
 · exact hz
theorem blkTake_ok {H0 H:AH} {id:Nat} {s:St} (h:Rd H0 H id s) (h32:s.2 ≠ 32):ACalls Tryz.prog 98 [.p (some (id,0,0))] H fun r H'=>∃ pv tv,r = .agg ((takeBlk s).1.cells pv tv) ∧ (∀ G',(∀ j,H.next ≤ j → j < H'.next → G'.get j = H'.get j) → H'.next ≤ G'.next → BlkAt G' (takeBlk s).1 pv tv) ∧ Rd H0 H' id (takeBlk s).2 ∧ Upd H H' [id]:=by
 have hid:=h.mem
 refine ACalls_body Tryz.func98 rfl rfl ?_
 refine AW_seq ?_
 refine AW_reg [1,2] fun K hK=>?_
 simp [init_eq,V.cells]
 apply hK;clear hK K
 refine AW_seq ?_
 refine AW_reg [1,2,3] fun K hK=>?_
 simp [init_eq,V.cells]
 apply hK;clear hK K
 obtain ⟨G,e1,g1,g2,g3,gn,go⟩:=H.boxed3 [.p (some (id,0,0))] (Blk.zero.cells nilSl nilSl) (Blk.zero.cells nilSl nilSl)
 have T0:TB H0 H G id s Blk.zero nilSl nilSl:=⟨h.upd (F:=[]) ⟨by omega,fun j hj _=>go j hj⟩ (by simp),g1,g2,g3,by omega,fun j hj _=>go j hj⟩
 show AThen _ _ _ _ (((H.new (O.cells [V.p (some (id,0,0))] 0 false 0)).new (O.cells (Blk.zero.cells nilSl nilSl) 0 false 0)).new (O.cells (Blk.zero.cells nilSl nilSl) 0 false 0))
 rw [e1,show H.next + 1 + 1 = H.next + 2 from rfl]
 clear e1 g1 g2 g3 gn go
 refine AW_seq ?_
 refine AW_regm (.only [H.next]) [1,2,3] pl_98_2 pe_98_2 (by kernel_rfl) (by kernel_rfl) (by decide) fun K hK=>?_
 simp [init_eq,pl_98_2,APlan_takem,through,tkOk,rid,aload,T0.bx,afieldAddr]
 refine ACalls.mono (small_ok T0.rd) fun r G1 ⟨hr,h1,u1⟩=>?_
 subst hr
 have T1:=T0.upd hid h1 u1
 refine ⟨⟨u1.1,fun _=>T1.bx⟩,?_⟩
 refine ACalls.mono (small_ok T1.rd) fun r G2 ⟨hr,h2,u2⟩=>?_
 subst hr
 have T2:=T1.upd hid h2 u2
 refine ⟨⟨u2.1,fun _=>T2.bx.trans T1.bx.symm⟩,?_⟩
 refine ACalls.mono (small_ok T2.rd) fun r G3 ⟨hr,h3,u3⟩=>?_
 subst hr
 have T3:=T2.upd hid h3 u3
 refine ⟨⟨u3.1,fun _=>T3.bx.trans T2.bx.symm⟩,?_⟩
 refine ACalls.mono (small_ok T3.rd) fun r G4 ⟨hr,h4,u4⟩=>?_
 subst hr
 have T4:=T3.upd hid h4 u4
 refine ⟨⟨u4.1,fun _=>T4.bx.trans T3.bx.symm⟩,?_⟩
 have hlt:H.next + 2 < G4.next:=by have:=T4.nx; omega
 simp [astore,T4.cc,V.cells,AH.get_set,hlt,Blk.w0,Blk.w1,Blk.w2,Blk.w3,RM]
 apply hK;clear hK K
 have e:rawBlk s = (⟨(rsmall s).1,(rsmall (rsmall s).2).1,(rsmall (rsmall (rsmall s).2).2).1,(rsmall (rsmall (rsmall (rsmall s).2).2).2).1,(takeCert (rsmall (rsmall (rsmall (rsmall s).2).2).2).2).1,_,_⟩,_):=rfl
 have s32:(rsmall (rsmall (rsmall (rsmall s).2).2).2).2.2 ≠ 32:=rnum_32 (rnum_32 (rnum_32 (rnum_32 h32)))
 unfold takeBlk
 rw [e]
 have T5:=(((T4.set hid (pv':=nilSl) (tv':=nilSl) (b':={ Blk.zero with view:=(rsmall s).1 }) rfl).set hid (pv':=nilSl) (tv':=nilSl) (b':={ Blk.zero with view:=(rsmall s).1,round:=(rsmall (rsmall s).2).1 }) rfl).set hid (pv':=nilSl) (tv':=nilSl) (b':={ Blk.zero with view:=(rsmall s).1,round:=(rsmall (rsmall s).2).1,height:=(rsmall (rsmall (rsmall s).2).2).1 }) rfl).set hid (pv':=nilSl) (tv':=nilSl) (b':={ Blk.zero with view:=(rsmall s).1,round:=(rsmall (rsmall s).2).1,height:=(rsmall (rsmall (rsmall s).2).2).1,author:=(rsmall (rsmall (rsmall (rsmall s).2).2).2).1 }) rfl
 generalize AH.set _ (H.next + 2) _ = G5 at T5 ⊢
 clear e T0 T1 T2 T3 T4 h1 h2 h3 h4 u1 u2 u3 u4
 generalize (rsmall (rsmall (rsmall (rsmall s).2).2).2).2 = w at *
 generalize (rsmall (rsmall (rsmall (rsmall s).2).2).2).1 = d at *
 generalize (rsmall (rsmall (rsmall s).2).2).1 = c at *
 generalize (rsmall (rsmall s).2).1 = b at *
 generalize (rsmall s).1 = a at *
 have T5:TB H0 H G5 id w ⟨a,b,c,d,Cert.zero,[],[]⟩ nilSl nilSl:=T5
 refine AW_seq ?_
 refine AW_reg [1,2,3] fun K hK=>?_
 simp [init_eq,aload,T5.bx]
 refine ACalls.mono (certTake_ok T5.rd s32) fun r G6 ⟨hr,h6,u6⟩=>?_
 subst hr
 have T6:=T5.upd hid h6 u6
 simp [afieldAddr,astore,T6.cc,V.cells,Blk.w4]
 apply hK;clear hK K
 have T7:=T6.set hid (pv':=nilSl) (tv':=nilSl) (b':=⟨a,b,c,d,(takeCert w).1,[],[]⟩) rfl
 generalize AH.set _ (H.next + 2) _ = G7 at T7 ⊢
 have w32:=takeCert_32 s32
 clear T5 T6 h6 u6
 generalize takeCert w = q at *
 obtain ⟨ce,w2⟩:=q
 simp only at T7 w32 ⊢
 refine AW_seq ?_
 refine AW_reg [1,2,3] fun K hK=>?_
 simp [init_eq,evs,aload,T7.bx]
 refine ACalls.mono (listTmo_ok (bx:=H.next) (bb:=H.next + 2) T7.cc (by omega) T7.rd T7.bx (by omega) w32 10 (by omega)) fun r G8 ⟨F1,o1,l1,h8,u8⟩=>?_
 have T8:=T7.upd hid h8 u8
 have p32:(takeL (takeTmo a) (rmost 10 w2).1 (rmost 10 w2).2).2.2 ≠ 32:=takeL_32 (f:=takeTmo (a:Int)) (fun s h=>takeCert_32 (s:=(rsmall s).2) (rnum_32 h)) _ _ (rmost_32 w32)
 simp [afieldAddr,astore,T8.cc,o1.cells,Blk.w12]
 apply hK;clear hK K
 have hF1:∀ j ∈ F1,H.next + 3 ≤ j:=fun j hj=>Nat.le_trans T7.nx (l1 j hj)
 have T9:=T8.set hid (pv':=r) (tv':=nilSl) (b':=⟨a,b,c,d,ce,[],[]⟩) rfl
 have o9:=o1.upd (Upd.set (F:=[H.next + 2]) G8 (H.next + 2) (.cells (Blk.cells ⟨a,b,c,d,ce,[],[]⟩ r nilSl) 0 false 0) (by simp)) (fun j hj=>by have:=hF1 j hj; simp; omega)
 generalize AH.set _ (H.next + 2) _ = G9 at T9 o9 ⊢
 dsimp only at T9 o9
 have n1:(takeL (takeTmo (a:Int)) (rmost 10 w2).1 (rmost 10 w2).2).1.length ≤ 10:=by rw [takeL_len]; exact rmost_le _ _
 clear o1 h8 T8 u8 T7
 generalize takeL (takeTmo (a:Int)) (rmost 10 w2).1 (rmost 10 w2).2 = q2 at *
 obtain ⟨ps,w3⟩:=q2
 simp only at T9 o9 p32 n1 ⊢
 refine AW_seq ?_
 refine AW_reg [1,2,3] fun K hK=>?_
 simp [init_eq,evs,aload,T9.bx]
 refine ACalls.mono (listTx_ok (bx:=H.next) T9.rd T9.bx (by omega) p32 8 (by omega)) fun r2 G10 ⟨F2,o2,l2,h10,u10⟩=>?_
 have T10:=T9.upd hid h10 u10
 have o10:=o9.upd u10 (fun j hj=>by have:=hF1 j hj; simp; omega)
 have t32:(takeL takeTx (rmost 8 w3).1 (rmost 8 w3).2).2.2 ≠ 32:=takeL_32 (fun s h=>takeTx_32 h) _ _ (rmost_32 p32)
 have n2:(takeL takeTx (rmost 8 w3).1 (rmost 8 w3).2).1.length ≤ 8:=by rw [takeL_len]; exact rmost_le _ _
 have n3:∀ t ∈ (takeL takeTx (rmost 8 w3).1 (rmost 8 w3).2).1,t.fits:=takeL_all (p:=Tx.fits) takeTx_fits _ _
 simp [afieldAddr,astore,T10.cc,o2.cells,Blk.w13]
 apply hK;clear hK K
 have hF2:∀ j ∈ F2,H.next + 3 ≤ j:=fun j hj=>Nat.le_trans T9.nx (l2 j hj)
 have us:=fun o=>Upd.set (F:=[H.next + 2]) G10 (H.next + 2) o (by simp)
 have T11:=T10.set hid (pv':=r) (tv':=r2) (b':=⟨a,b,c,d,ce,ps,(takeL takeTx (rmost 8 w3).1 (rmost 8 w3).2).1⟩) rfl
 have o11:=o10.upd (us (.cells (Blk.cells ⟨a,b,c,d,ce,ps,(takeL takeTx (rmost 8 w3).1 (rmost 8 w3).2).1⟩ r r2) 0 false 0)) (fun j hj=>by have:=hF1 j hj; simp; omega)
 have x11:=o2.upd (us (.cells (Blk.cells ⟨a,b,c,d,ce,ps,(takeL takeTx (rmost 8 w3).1 (rmost 8 w3).2).1⟩ r r2) 0 false 0)) (fun j hj=>by have:=hF2 j hj; simp; omega)
 have T11b:TB H0 H (G10.set (H.next + 2) (.cells (Blk.cells ⟨a,b,c,d,ce,[],[]⟩ r r2) 0 false 0)) id (takeL takeTx (rmost 8 w3).1 (rmost 8 w3).2).2 ⟨a,b,c,d,ce,ps,(takeL takeTx (rmost 8 w3).1 (rmost 8 w3).2).1⟩ r r2:=T11
 have o12:Own (G10.set (H.next + 2) (.cells (Blk.cells ⟨a,b,c,d,ce,[],[]⟩ r r2) 0 false 0)) r 10 (ps.map Tmo.cells).flatten F1:=o11
 have x12:Own (G10.set (H.next + 2) (.cells (Blk.cells ⟨a,b,c,d,ce,[],[]⟩ r r2) 0 false 0)) r2 7 ((takeL takeTx (rmost 8 w3).1 (rmost 8 w3).2).1.map Tx.cells).flatten F2:=x11
 clear T9 T10 T11 o9 o10 o11 x11 us h10
 clear o2
 generalize AH.set _ (H.next + 2) _ = G11 at T11b o12 x12 ⊢
 generalize takeL takeTx (rmost 8 w3).1 (rmost 8 w3).2 = q3 at *
 obtain ⟨ts,w4⟩:=q3
 simp only at T11b x12 t32 n2 n3 ⊢
 have hfit:Blk.fits ⟨a,b,c,d,ce,ps,ts⟩:=⟨Nat.le_trans n1 (by decide),Nat.le_trans n2 (by decide),n3⟩
 have o13:Own G11 r 10 ((Blk.mk a b c d ce ps ts).proof.map Tmo.cells).flatten F1:=o12
 have x13:Own G11 r2 7 ((Blk.mk a b c d ce ps ts).txs.map Tx.cells).flatten F2:=x12
 generalize (⟨a,b,c,d,ce,ps,ts⟩:Blk) = B at *
 have hb:=rdone_bad t32
 have hlt1:∀ G',H.next + 3 ≤ AH.next G' → H.next + 1 < G'.next:=fun G' h=>by omega
 have hat:∀ G',(∀ j,H.next + 3 ≤ j → j < G11.next → G'.get j = G11.get j) → G11.next ≤ G'.next → BlkAt G' B r r2:=fun G' hg hn=>by
  have u:∀ F:List Nat,(∀ j ∈ F,H.next + 3 ≤ j) → Upd G11 G' (List.range (H.next + 3)):=fun F _=>⟨hn,fun j hj hx=>hg j (by simpa using hx) hj⟩
  exact ⟨Own.rsR (f:=Tmo.cells) (o13.upd (u F1 hF1) (fun j hj=>by have:=hF1 j hj; simpa using this)) (by decide) (fun _=>rfl),Own.rsR (f:=Tx.cells) (x13.upd (u F2 hF2) (fun j hj=>by have:=hF2 j hj; simpa using this)) (by decide) (fun _=>rfl)⟩
 have fin:∀ {G':AH} {w':St} {B':Blk},TB H0 H G' id w' B' r r2 → ∀ l,Rd H0 (G'.set (H.next + 1) (.cells l 0 false 0)) id w' ∧ Upd H (G'.set (H.next + 1) (.cells l 0 false 0)) [id]:=fun {G' w' B'} T l =>
  ⟨T.rd.upd (Upd.set (F:=[H.next + 1]) _ _ _ (by simp)) (fun j hj=>by simp at hj; omega),(show Upd H G' [id] from ⟨by have:=T.nx; omega,fun j hj hn=>T.old j hj (by simpa using hn)⟩).trans (Upd.set (F:=[H.next + 1]) _ _ _ (by simp)) (fun j hj=>.inr (by simp at hj; omega))⟩
 have hab:abuild Tryz.prog 28 [] = some (.agg (Blk.zero.cells nilSl nilSl)):=by simp [abuild,afill]; rfl
 have hz:∀ G',BlkAt G' Blk.zero nilSl nilSl:=fun G'=>⟨RS.nil ..,RS.nil ..⟩
 refine AW_seq ?_
 refine AW_seq ?_
 refine AW_reg [1,2,3,4] fun K hK=>?_
 simp [init_eq,aload,T11b.bx]
 refine ACalls.mono (done_ok T11b.rd) fun r' H' ⟨hr,e⟩=>?_
 subst hr e
 try simp
 apply hK;clear hK K
 refine AW_seq ?_
 refine AW_regto [1,2,3,36] ⟨47,[(1,.p (some (H.next,0,0))),(2,.p (some (H.next + 1,0,0))),(3,.p (some (H.next + 2,0,0))),(36,.b (decide (w4.2 ≠ 0)))]⟩ H' (fun K hk=>?_) ?_
 · by_cases k1:rdone w4 = 0
   · have k2:w4.2 = 0:=Classical.byContradiction fun hn=>(hb.2 hn).1 k1
     simpa [init_eq,k1,k2] using hk
   · by_cases k2:rdone w4 = 32
     · have k3:w4.2 = 0:=Classical.byContradiction fun hn=>(hb.2 hn).2 k2
       simpa [init_eq,k1,k2,k3] using hk
     · have k3:¬ w4.2 = 0:=hb.1 ⟨k1,k2⟩
       simpa [init_eq,k1,k2,k3] using hk
 refine AW_cond' rfl rfl (fun hc=>?_) (fun hc=>?_)
 · have k1:¬ w4.2 = 0:=by simpa using hc
   rw [if_neg k1]
   refine AW_seq ?_
   refine AW_reg [2] fun K hK=>?_
   simp [init_eq,hab,astore,T11b.rs,V.cells]
   apply hK;clear hK K
   refine AW_ret (end_ret (ares_cell (v:=.agg (Blk.zero.cells nilSl nilSl)) ?_) ⟨nilSl,nilSl,rfl,fun G' _ _=>hz G',fin T11b _⟩)
   simp [aload,AH.get_set,hlt1 _ T11b.nx]
   rw [splice_all (c:=Blk.zero.cells nilSl nilSl) (l:=Blk.zero.cells nilSl nilSl) rfl]; simp [blk_take]
 · have k1:w4.2 = 0:=by simpa using hc
   rw [if_pos k1]
   refine AW_skip ?_
   refine AW_seq ?_
   refine AW_seq ?_
   refine AW_reg [1,2,3,5] fun K hK=>?_
   simp [init_eq,aload,T11b.cc,blk_take]
   refine ACalls.mono (bcheck_ok _ (hat _ (fun _ _ _=>rfl) (Nat.le_refl _)) hfit) fun r' H' ⟨hr,e⟩=>?_
   subst hr e
   try simp
   apply hK;clear hK K
   refine AW_seq ?_
   refine AW_reg [1,2,3,5,41] fun K hK=>?_
   simp [init_eq]
   apply hK;clear hK K
   refine AW_cond' rfl rfl (fun hc=>?_) (fun hc=>?_)
   · have k2:¬ B.err = 0:=by simpa using hc
     rw [if_neg k2]
     refine AW_seq ?_
     refine AW_reg [2] fun K hK=>?_
     simp [init_eq,aload,T11b.bx]
     refine ACalls.mono (fail_ok T11b.rd B.err) fun r' G12 ⟨h12,u12⟩=>?_
     try simp
     apply hK;clear hK K
     have T12:=T11b.upd hid h12 u12
     refine AW_seq ?_
     refine AW_reg [2] fun K hK=>?_
     simp [init_eq,hab,astore,T12.rs,V.cells]
     apply hK;clear hK K
     refine AW_ret (end_ret (ares_cell (v:=.agg (Blk.zero.cells nilSl nilSl)) ?_) ⟨nilSl,nilSl,rfl,fun G' _ _=>hz G',fin T12 _⟩)
     simp [aload,AH.get_set,hlt1 _ T12.nx]
     rw [splice_all (c:=Blk.zero.cells nilSl nilSl) (l:=Blk.zero.cells nilSl nilSl) rfl]; simp [blk_take]
   · have k2:B.err = 0:=by simpa using hc
     rw [if_pos k2]
     refine AW_skip ?_
     refine AW_seq ?_
     refine AW_reg [2] fun K hK=>?_
     simp [init_eq,aload,T11b.cc,blk_take,astore,T11b.rs,V.cells]
     apply hK;clear hK K
     refine AW_ret (end_ret (ares_cell (v:=.agg (B.cells r r2)) ?_) ⟨r,r2,rfl,fun G' hg hn=>hat G' (fun j h1 h2=>by rw [hg j (by omega) (by simpa using h2),AH.get_set_ne (by omega)]) (by simpa using hn),fin T11b _⟩)
     simp [aload,AH.get_set,hlt1 _ T11b.nx]
     rw [splice_all (c:=Blk.zero.cells nilSl nilSl) (l:=B.cells r r2) rfl]; simp [blk_take]
end Go.Proofs.YtaidfojbnfkclaaGreatDoor
set_option linter.unusedVariables false
set_option linter.unusedSimpArgs false
namespace Go.Proofs.YtaidfojbnfkclaaGreatDoor
open Go Go.Abs Go.Proofs
set_option maxRecDepth 100000
attribute [local irreducible] AEnd AW ACalls
theorem parse_ok (H:AH) (l:List UInt8) (hl:l.length ≤ 100000000000):ACalls Tryz.prog 51 [.s l] H fun r H'=>∃ pv tv,r = .tup [.agg ((parseBlk l).1.cells pv tv),.i .i64 (parseBlk l).2] ∧ BlkAt H' (parseBlk l).1 pv tv ∧ Upd H H' []:=by
 have hab:abuild Tryz.prog 28 [] = some (.agg (Blk.zero.cells nilSl nilSl)):=by simp [abuild,afill]; rfl
 refine ACalls_body Tryz.func51 rfl rfl ?_
 refine AW_seq ?_
 refine AW_reg [0,2] fun K hK=>?_
 simp [init_eq,V.cells]
 apply hK;clear hK K
 obtain ⟨G,e1,g1,gn,go⟩:=H.boxed (Blk.zero.cells nilSl nilSl)
 show AThen _ _ _ _ (H.new (O.cells (Blk.zero.cells nilSl nilSl) 0 false 0))
 rw [e1]
 have u0:Upd H G []:=⟨by omega,fun j hj _=>go j hj⟩
 refine AW_seq ?_
 refine AW_reg [2,4] fun K hK=>?_
 have hsl:Sl (G.new (.cells (bytesV l) 0 false 1)) (.sl (some (G.next,0,0)) l.length false) 1 (bytesV l) :=
  .inr ⟨G.next,0,0,l.length,false,bytesV l,false,1,rfl,by simp [AH.get_new],by simp,by simp [List.take_of_length_le]⟩
 simp [init_eq,conv_bytes qthere_9 qbs_135]
 refine ACalls.mono (rdnew_ok _ hsl hl) fun r G1 hr=>?_
 obtain ⟨H0,id,rfl,h1,u1,lid⟩:=hr
 have u01:Upd H G1 []:=(u0.trans (Upd.new G _ []) (by simp)).trans u1 (by simp)
 have lid':H.next < id:=by simp at lid; omega
 have g2:G1.get H.next = some (.cells (Blk.zero.cells nilSl nilSl) 0 false 0):=u1.keep (by simp) ((Upd.new G _ []).keep (by simp) g1)
 try simp
 apply hK;clear hK K
 refine AW_seq ?_
 refine AW_reg [2,4,5] fun K hK=>?_
 simp [init_eq]
 refine ACalls.mono (blkTake_ok h1 (by simp)) fun r G2 hr=>?_
 obtain ⟨pv,tv,rfl,hat,h2,u2⟩:=hr
 have g3:=u2.keep (by simp; omega) g2
 have hlt:H.next < G2.next:=AH.get_lt g3
 simp [astore,AH.get_new,V.cells]
 apply hK;clear hK K
 have hps:parseBlk l = (if rdone (takeBlk (l,0)).2 = 0 then ((takeBlk (l,0)).1,0) else (Blk.zero,rdone (takeBlk (l,0)).2)):=rfl
 rw [hps]
 clear hps
 generalize takeBlk (l,0) = q at *
 obtain ⟨B,w⟩:=q
 simp only at hat h2 ⊢
 generalize hG3:AH.set _ G2.next _ = G3
 have k5:G3.get G2.next = some (.cells (B.cells pv tv) 0 false 0):=by
  rw [← hG3]; simp [AH.get_set]; first | exact splice_all rfl | done
 have ko:∀ j,j < G2.next → G3.get j = G2.get j:=fun j hj=>by rw [← hG3,AH.get_set_ne (by omega),AH.get_new,if_neg (by omega)]
 have kn:G3.next = G2.next + 1:=by rw [← hG3]; simp
 have u3:Upd G2 G3 []:=⟨by omega,fun j hj _=>ko j hj⟩
 have h3:=h2.upd u3 (by simp)
 have g4:=u3.keep (by simp) g3
 have u13:Upd G1 G3 [id]:=u2.trans (u3.mono (by simp):Upd G2 G3 [id]) (fun j hj=>.inl hj)
 have uH:Upd H G3 []:=u01.trans u13 (fun j hj=>.inr (by simp at hj; omega))
 have fin:∀ o,Upd H (G3.set H.next o) []:=fun o=>uH.trans (Upd.set (F:=[H.next]) _ _ _ (by simp)) (fun j hj=>.inr (by simp at hj; omega))
 have hltn:H.next < G3.next:=by omega
 have l1:H.next < G1.next:=AH.get_lt g2
 refine AW_seq ?_
 refine AW_seq ?_
 refine AW_reg [2,5,6] fun K hK=>?_
 simp [init_eq]
 refine ACalls.mono (done_ok h3) fun r' H' ⟨hr,e⟩=>?_
 subst hr e
 try simp
 apply hK;clear hK K
 refine AW_seq ?_
 refine AW_reg [2,5,6,15] fun K hK=>?_
 simp [init_eq]
 apply hK;clear hK K
 refine AW_cond' rfl rfl (fun hc=>?_) (fun hc=>?_)
 · have k1:¬ rdone w = 0:=by simpa using hc
   rw [if_neg k1]
   refine AW_seq ?_
   refine AW_reg [2,3] fun K hK=>?_
   simp [init_eq,hab,astore,g4,V.cells]
   apply hK;clear hK K
   refine AW_ret (end_ret (ares_cell_tmp (v:=.agg (Blk.zero.cells nilSl nilSl)) ?_) ⟨nilSl,nilSl,rfl,⟨RS.nil ..,RS.nil ..⟩,fin _⟩)
   simp [aload,AH.get_set,hltn]
   rw [splice_all (c:=Blk.zero.cells nilSl nilSl) (l:=Blk.zero.cells nilSl nilSl) rfl]; simp [blk_take]
 · have k1:rdone w = 0:=by simpa using hc
   rw [if_pos k1]
   refine AW_skip ?_
   refine AW_seq ?_
   refine AW_reg [2,3] fun K hK=>?_
   simp [init_eq,aload,k5,blk_take,astore,g4,V.cells]
   apply hK;clear hK K
   refine AW_ret (end_ret (ares_cell_tmp (v:=.agg (B.cells pv tv)) ?_) ⟨pv,tv,rfl,hat _ (fun j h1 h2=>by rw [AH.get_set_ne (by omega)]; exact ko j h2) (by simp; omega),fin _⟩)
   simp [aload,AH.get_set,hltn]
   rw [splice_all (c:=Blk.zero.cells nilSl nilSl) (l:=B.cells pv tv) rfl]; simp [blk_take]
end Go.Proofs.YtaidfojbnfkclaaGreatDoor
