/-
  Package safe: which records may be (form).
-/
import Derived.Test.YtaidfojbnfkclaaGreatDoorSafe1
set_option linter.unusedVariables false
set_option linter.unusedSimpArgs false
namespace Go.Proofs.YtaidfojbnfkclaaGreatDoor
open Go Go.Abs Go.Proofs
set_option maxRecDepth 100000
attribute [local irreducible] AEnd AW ACalls
set_option maxHeartbeats 4000000 in
theorem form_ok (H:AH) (r:SRec) (hl:r.text.length ≤ 100000000000):ACalls Tryz.prog 41 [.agg r.cells] H fun v H'=>v = .i .i64 r.form ∧ H' = H:=by
 refine ACalls.pure (Q:=fun v=>v = .i .i64 r.form) ⟨_,Tryz.func41,rfl,rfl⟩ ?_
 refine ACalls_body Tryz.func41 rfl rfl ?_
 refine AW_seq ?_
 refine AW_reg [1] fun K hK=>?_
 simp [init_eq,V.cells]
 apply hK;clear hK K
 obtain ⟨G,e1,g1,gn,go⟩:=H.boxed r.cells
 rw [e1]
 have fin:∀ (x:Int) (G':AH),x = r.form → Upd G G' [] → V.i .i64 x = .i .i64 r.form ∧ V.lt H.next (.i .i64 x) = true ∧ H.next ≤ G'.next ∧ ∀ j,j < H.next → G'.get j = H.get j:=fun x G' hx hu=>by
  have:=hu.1
  exact ⟨by rw [hx],rfl,by omega,fun j hj=>by rw [hu.2 j (by omega) (by simp),go j hj]⟩
 have ldr:aload Tryz.prog G 49 (.p (some (H.next,0,0))) = some (.agg r.cells):=by simp [aload,g1,SRec.take]
 have fa0:afieldAddr Tryz.prog 49 0 (.p (some (H.next,0,0))) = some (.p (some (H.next,0,0))):=by simp [afieldAddr]
 refine AW_seq ?_
 refine AW_seq ?_
 refine AW_regdto [1,18] pl_41_1 pe_41_1 ⟨75,[(1,.p (some (H.next,0,0))),(18,.b (decide (kclass r.kind = .bad ∨ r ≠ r.only)))]⟩ G (by kernel_rfl) (by kernel_rfl) (by decide) (fun K hK=>?_) ?_
 · by_cases h1:r.kind < 1
   · have e:decide (kclass r.kind = .bad ∨ r ≠ r.only) = true:=by rw [decide_eq_true_iff]; exact .inl (kclass_bad (.inl h1))
     rw [e] at hK
     simpa [init_eq,pl_41_1,fa0,rec_at g1,h1] using hK
   · by_cases h2:10 < r.kind
     · have e:decide (kclass r.kind = .bad ∨ r ≠ r.only) = true:=by rw [decide_eq_true_iff]; exact .inl (kclass_bad (.inr h2))
       rw [e] at hK
       simpa [init_eq,pl_41_1,fa0,rec_at g1,h1,h2] using hK
     · have hb:kclass r.kind ≠ .bad:=kclass_ok (by omega)
       have e:decide (kclass r.kind = .bad ∨ r ≠ r.only) = !decide (r = r.only):=by
        rw [Bool.eq_iff_iff]; simp [hb]
       rw [e] at hK
       simp [init_eq,pl_41_1,fa0,rec_at g1,h1,h2,ldr]
       refine ACalls.mono (sonly_ok G r) fun v G' ⟨hr,e⟩=>?_
       subst hr e
       refine ⟨AH.ext.refl _,?_⟩
       simpa [SRec.aeqP] using hK
 refine AW_cond' rfl rfl (fun hc=>?_) (fun hc=>?_)
 · have hb:=of_decide_eq_true hc
   repeat refine AW_seq ?_
   refine AW_reg [2] fun K hK=>?_
   simp [init_eq]
   apply hK;clear hK K
   exact AW_ret (end_ret rfl (fin 190 G (by unfold SRec.form; rw [if_pos hb]) (Upd.refl ..)))
 have hb:=of_decide_eq_false hc
 have hf:r.form = match kclass r.kind with
  | .cc=>if r.certified then 0 else 110
  | .c=>if r.certified then 0 else 110
  | .sa=>if r.setBad then 1 else 0
  | .nb=>if r.numBad then 1 else 0
  | .tx=>if (parseBlk r.text).2 = 0 then 0 else 120
  | _=>0:=by unfold SRec.form; rw [if_neg hb]; cases kclass r.kind <;> rfl
 have fa:afieldAddr Tryz.prog 49 3 (.p (some (H.next,0,0))) = some (.p (some (H.next,0,17))) ∧ afieldAddr Tryz.prog 49 4 (.p (some (H.next,0,0))) = some (.p (some (H.next,0,18))) ∧ afieldAddr Tryz.prog 49 5 (.p (some (H.next,0,0))) = some (.p (some (H.next,0,19))) ∧ afieldAddr Tryz.prog 49 6 (.p (some (H.next,0,0))) = some (.p (some (H.next,0,20))) ∧ afieldAddr Tryz.prog 49 7 (.p (some (H.next,0,0))) = some (.p (some (H.next,0,21))):=by simp [afieldAddr]
 refine AW_skip ?_
 refine AW_cut (fun ρ G'=>ρ = ⟨75,[]⟩ ∧ Upd G G' [] ∧ r.form = 0) ?_ ?_
 rotate_left
 · rintro ρ G' ⟨rfl,hu,h0⟩
   refine AW_seq ?_
   refine AW_reg [2] fun K hK=>?_
   simp [init_eq]
   apply hK;clear hK K
   exact AW_ret (end_ret rfl (fin 0 G' h0.symm hu))
 refine AW_seq ?_
 refine AW_reg [1,20] fun K hK=>?_
 simp [init_eq,fa0,rec_at g1]
 apply hK;clear hK K
 rcases kinds r.kind with hk | hk | hk | hk | hk | hk | hk | hk | hk | hk | hk
 case inl | inr.inr.inr.inl | inr.inr.inr.inr.inl =>
   all_goals
     have hf':r.form = if r.certified then 0 else 110:=by rw [hf,hk]; rfl
     repeat (first
      | refine AW_seq ?_
      | refine AW_block ?_
      | refine AW_skip ?_
      | refine AW_condT rfl ?_
      | refine AW_condF rfl ?_
      | (refine AW_reg [1, 20, 21, 27, 48, 64] fun K hK => ?_
         simp [init_eq,hk]
         apply hK;clear hK K))
     refine AW_reg [26] fun K hK=>?_
     simp [init_eq]
     refine ACalls.mono (certified_ok G g1 (by simp [hk])) fun v G' ⟨hr,e⟩=>?_
     subst hr e
     try simp
     apply hK;clear hK K
     refine AW_cond' rfl rfl (fun hc=>?_) (fun hc=>?_)
     · have h1:r.certified = false:=by simpa using hc
       repeat refine AW_seq ?_
       refine AW_reg [2] fun K hK=>?_
       simp [init_eq]
       apply hK;clear hK K
       exact AW_ret (end_ret rfl (fin 110 _ (by rw [hf',h1]; rfl) (Upd.refl ..)))
     · have h1:r.certified = true:=by simpa using hc
       refine AW_skip ?_
       exact bend (rend ⟨_,by simp,rfl,Upd.refl ..,by rw [hf',h1]; rfl⟩)
 case inr.inr.inr.inr.inr.inr.inl =>
   have hf':r.form = if r.setBad then 1 else 0:=by rw [hf,hk]; rfl
   repeat (first
    | refine AW_seq ?_
    | refine AW_block ?_
    | refine AW_skip ?_
    | refine AW_condT rfl ?_
    | refine AW_condF rfl ?_
    | (refine AW_reg [1, 20, 21, 27, 48, 64] fun K hK => ?_
       simp [init_eq,hk]
       apply hK;clear hK K))
   refine AW_regto [47] ⟨75,[(47,.b r.setBad)]⟩ G (fun K hK=>?_) ?_
   · by_cases h1:r.set = 0#32
     · have e:r.setBad = true:=by simp [SRec.setBad,h1]
       rw [e] at hK
       simpa [init_eq,fa,rec_at g1,h1] using hK
     · simp [init_eq,fa,rec_at g1,h1]
       refine ACalls.mono (qcheck_ok G 3 r.set) fun v G' ⟨hr,e⟩=>?_
       subst hr e
       by_cases h2:qcheck 3 r.set = 0
       · by_cases h3:r.author < 0
         · have e:r.setBad = true:=by simp [SRec.setBad,h3]
           rw [e] at hK
           simpa [h2,h3,fa,rec_at g1] using hK
         · have e:r.setBad = decide (10 ≤ r.author):=by
             rw [Bool.eq_iff_iff]; simp [SRec.setBad,setOk,h1,h2,h3]
           rw [e] at hK
           simpa [h2,h3,fa,rec_at g1] using hK
       · have e:r.setBad = true:=by simp [SRec.setBad,setOk,h2]
         rw [e] at hK
         simpa [h2,fa,rec_at g1] using hK
   refine AW_cond' rfl rfl (fun hc=>?_) (fun hc=>?_)
   · repeat refine AW_seq ?_
     refine AW_reg [2] fun K hK=>?_
     simp [init_eq]
     apply hK;clear hK K
     exact AW_ret (end_ret rfl (fin 1 _ (by rw [hf',hc]; rfl) (Upd.refl ..)))
   · refine AW_skip ?_
     exact bend (rend ⟨_,by simp,rfl,Upd.refl ..,by rw [hf',hc]; rfl⟩)
 case inr.inr.inr.inr.inr.inr.inr.inl =>
   have hf':r.form = if r.numBad then 1 else 0:=by rw [hf,hk]; rfl
   repeat (first
    | refine AW_seq ?_
    | refine AW_block ?_
    | refine AW_skip ?_
    | refine AW_condT rfl ?_
    | refine AW_condF rfl ?_
    | (refine AW_reg [1, 20, 21, 27, 48, 64] fun K hK => ?_
       simp [init_eq,hk]
       apply hK;clear hK K))
   refine AW_regto [63] ⟨75,[(63,.b r.numBad)]⟩ G (fun K hK=>?_) ?_
   · by_cases h0:(if r.block < r.count then r.block else r.count) < 1
     · have e:r.numBad = true:=by
         unfold SRec.numBad
         simp only [Bool.or_eq_true,decide_eq_true_eq]
         split at h0 <;> omega
       rw [e] at hK
       simpa [init_eq,fa,rec_at g1,amin2,amax2,h0] using hK
     · have e:r.numBad = decide (2147483647 < (if r.count < r.block then r.block else r.count)):=by
         unfold SRec.numBad
         rw [Bool.eq_iff_iff]
         simp only [Bool.or_eq_true,decide_eq_true_eq]
         split at h0 <;> split <;> omega
       rw [e] at hK
       simpa [init_eq,fa,rec_at g1,amin2,amax2,h0] using hK
   refine AW_cond' rfl rfl (fun hc=>?_) (fun hc=>?_)
   · repeat refine AW_seq ?_
     refine AW_reg [2] fun K hK=>?_
     simp [init_eq]
     apply hK;clear hK K
     exact AW_ret (end_ret rfl (fin 1 _ (by rw [hf',hc]; rfl) (Upd.refl ..)))
   · refine AW_skip ?_
     exact bend (rend ⟨_,by simp,rfl,Upd.refl ..,by rw [hf',hc]; rfl⟩)
 case inr.inr.inr.inr.inr.inr.inr.inr.inl | inr.inr.inr.inr.inr.inr.inr.inr.inr.inl =>
   all_goals
     have hf':r.form = if (parseBlk r.text).2 = 0 then 0 else 120:=by rw [hf,hk]; rfl
     repeat (first
      | refine AW_seq ?_
      | refine AW_block ?_
      | refine AW_skip ?_
      | refine AW_condT rfl ?_
      | refine AW_condF rfl ?_
      | (refine AW_reg [1, 20, 21, 27, 48, 64] fun K hK => ?_
         simp [init_eq,hk]
         apply hK;clear hK K))
     refine AW_reg [4] fun K hK=>?_
     simp [init_eq,fa,rec_at g1]
     refine ACalls.mono (parse_ok G r.text hl) fun v G2 ⟨pv,tv,hr,_,hu⟩=>?_
     subst hr
     simp [V.cells,astore,AH.get_new]
     apply hK;clear hK K
     generalize hG3:AH.set _ G2.next _ = G3
     have u3:Upd G G3 []:=by
      refine hu.trans (H'':=G3) ?_ (G:=[]) (by simp)
      rw [← hG3]
      exact ⟨by simp,fun j hj _=>by rw [AH.get_set_ne (by omega),AH.get_new,if_neg (by omega)]⟩
     clear hG3
     refine AW_seq ?_
     refine AW_reg [74] fun K hK=>?_
     simp [init_eq]
     apply hK;clear hK K
     refine AW_cond' rfl rfl (fun hc=>?_) (fun hc=>?_)
     · have h1:¬ (parseBlk r.text).2 = 0:=by simpa using hc
       repeat refine AW_seq ?_
       refine AW_reg [2] fun K hK=>?_
       simp [init_eq]
       apply hK;clear hK K
       exact AW_ret (end_ret rfl (fin 120 _ (by rw [hf',if_neg h1]) u3))
     · have h1:(parseBlk r.text).2 = 0:=by simpa using hc
       refine AW_skip ?_
       exact bend (rend ⟨_,by simp,rfl,u3,by rw [hf',if_pos h1]⟩)
 all_goals
   first
     | exact absurd (kclass_bad hk) (fun h=>hb (.inl h))
     | (have hf' : r.form = 0 := by rw [hf, hk]; rfl
        repeat (first
         | refine AW_seq ?_
         | refine AW_block ?_
         | refine AW_skip ?_
         | refine AW_condT rfl ?_
         | refine AW_condF rfl ?_
         | (refine AW_reg [1, 20, 21, 27, 48, 64] fun K hK => ?_
            simp [init_eq,hk]
            apply hK;clear hK K))
        exact bend (rend ⟨_,by simp,rfl,Upd.refl ..,hf'⟩))
end Go.Proofs.YtaidfojbnfkclaaGreatDoor
