/-
  may: the error of what may not be done. (Printed by gen_saf6.py.)
-/
import Derived.Test.YtaidfojbnfkclaaGreatDoorSaf5
import Derived.Test.YtaidfojbnfkclaaGreatDoorSafe3
set_option linter.unusedVariables false
set_option linter.unusedSimpArgs false
namespace Go.Proofs.YtaidfojbnfkclaaGreatDoor
open Go Go.Abs Go.Proofs
set_option maxRecDepth 100000
attribute [local irreducible] AEnd AW ACalls
theorem may1_ok (H:AH) (bs:Nat) (is:Int):ACalls Tryz.prog 80 [.i .i64 is,.p (some (bs,0,0))] H fun v H' =>
  v = .fn (.func 81) [] [.p (some (bs,0,0)),.p (some (H.next,0,0))] ∧ H' = H.new (.cells [.i .i64 is] 0 false 0):=by
 refine ACalls_body Tryz.func80 rfl rfl ?_
 refine AW_seq ?_
 refine AW_reg [1,2] fun K hK=>?_
 simp [init_eq,V.cells]
 apply hK;clear hK K
 refine AW_seq ?_
 refine AW_reg [3] fun K hK=>?_
 simp [init_eq,evs]
 apply hK;clear hK K
 exact AW_ret (end_ret rfl ⟨rfl,rfl⟩)
theorem chk_rs (G:AH) (fs:List Chk):RS (G.new (.cells (fs.map Chk.fn).flatten 0 false 1)) (.sl (some (G.next,0,0)) fs.length false) 1 (fs.map Chk.fn):=by
 have h1:∀ l ∈ fs.map Chk.fn,l.length = 1:=fun l hl=>by obtain ⟨c,_,rfl⟩:=List.mem_map.1 hl; rfl
 have hf:=flatten_len (sz:=1) (fs.map Chk.fn) h1
 refine ⟨h1,.inr ⟨G.next,0,0,_,_,_,by simp,AH.get_new_same ..,.inr rfl,by rw [hf]; omega,?_⟩⟩
 rw [List.drop_zero,← hf,List.take_length]
theorem fn_cells (f:Fn) (a b:List V):(V.fn f a b).cells = some [.fn f a b]:=rfl
def SSt.mayE (s:SSt) (r:SRec):Int :=
 if r.kind = 1 then mustE [((decide (s.mode = 0)),213),((decide (r.cert.view = s.view)),210),((decide (s.round < r.cert.round) && decide (r.cert.round = r.parent.round + 1)),211),((decide (0 ≤ cmpC r.parent s.high)),212)] else
 if r.kind = 2 then mustE [((decide (s.mode = 0)),213)] else
 if r.kind = 3 then mustE [((decide (s.mode ≠ 2)),213)] else
 if r.kind = 4 then mustE [((decide (s.mode = 2)),213),((decide (r.cert.view = s.view)),210),((decide ((s.fell r.cert.author).height < r.cert.height)),220)] else
 if r.kind = 5 then mustE [((decide (0 < cmpC r.cert s.high)),212)] else
 if r.kind = 6 then mustE [((decide (s.mode = 2)),213),((!s.shared),100)] else
 if r.kind = 7 then mustE [((decide (s.view < s.last)),230)] else
 if r.kind = 8 then mustE [((decide (s.count < r.count)),151)] else
 if r.kind = 10 then mustE [((!decide (r.text ∈ s.blocks)),100)] else
 s.mayOwnE r
theorem form_text {r:SRec} (h:r.form = 0) (hk:kclass r.kind = .tx):(parseBlk r.text).2 = 0:=by
 obtain ⟨hb,ho⟩:=form_only h
 unfold SRec.form at h
 rw [if_neg (by simp [hb,← ho]),hk] at h
 simp only at h
 split at h
 · assumption
 · cases h
set_option maxHeartbeats 1000000 in
theorem smay_ok (H:AH) {sid rid:Nat} {s:SSt} {fv hv pv bv:V} {r:SRec} {k:Nat} (hst:H.get sid = some (.cells (s.cells fv hv pv bv) 0 false 0)) (hrc:H.get rid = some (.cells r.cells 0 false 0))
  (ha:SAt H s fv hv pv bv) (ok:s.Ok k) (hk:k ≤ 10000000) (hf:r.form = 0) (hl:r.text.length ≤ 100000000000) :
  ACalls Tryz.prog 42 [.p (some (sid,0,0)),.p (some (rid,0,0))] H fun v H'=>v = .i .i64 (s.mayE r) ∧ H' = H:=by
 refine ACalls.pure (Q:=fun v=>v = .i .i64 (s.mayE r)) ⟨_,Tryz.func42,rfl,rfl⟩ ?_
 have rng:=SRec.rng hf
 refine ACalls_body Tryz.func42 rfl rfl ?_
 refine AW_seq ?_
 refine AW_reg [2,3] fun K hK=>?_
 simp [init_eq,V.cells]
 obtain ⟨H1,e1,hp1,hp2,hn,ho1⟩:=H.boxed2 [.p (some (sid,0,0))] [.p (some (rid,0,0))]
 rw [e1]
 have u1:Upd H H1 []:=⟨by omega,fun j hj _=>ho1 j hj⟩
 have m:MC H1 H.next (H.next + 1) sid rid s fv hv pv bv r:=⟨hp1,hp2,u1.keep (by simp) hst,u1.keep (by simp) hrc,ha.upd u1⟩
 have hend:∀ (x:Int) (G:AH),x = s.mayE r → Upd H1 G [] → (V.i .i64 x = .i .i64 (s.mayE r)) ∧ V.lt H.next (.i .i64 x) = true ∧ H.next ≤ G.next ∧ ∀ j,j < H.next → G.get j = H.get j:=fun x G hx u =>
  ⟨by rw [hx],rfl,(u1.trans u (by simp)).1,fun j hj=>(u1.trans u (by simp)).2 j hj (by simp)⟩
 apply hK;clear hK K
 refine AW_seq ?_
 refine AW_reg [2,3,5] fun K hK=>?_
 simp [init_eq,evs]
 apply hK;clear hK K
 refine AW_seq ?_
 refine AW_reg [2,3,5,6] fun K hK=>?_
 simp [init_eq,evs]
 apply hK;clear hK K
 refine AW_seq ?_
 refine AW_seq ?_
 refine AW_reg [2,3,5,6,12] fun K hK=>?_
 simp [init_eq,aload,afieldAddr,m.pr,m.rc]
 apply hK;clear hK K
 refine AW_block ?_
 refine AW_seq ?_
 refine AW_reg [2,3,5,6,12,13] fun K hK=>?_
 simp [init_eq,evs]
 apply hK;clear hK K
 refine AW_cond' rfl rfl (fun hc=>?_) (fun hc=>?_)
 · have k1:r.kind = 1:=by simpa using hc
   have hE:s.mayE r = mustE [((decide (s.mode = 0)),213),((decide (r.cert.view = s.view)),210),((decide (s.round < r.cert.round) && decide (r.cert.round = r.parent.round + 1)),211),((decide (0 ≤ cmpC r.parent s.high)),212)]:=by
    unfold SSt.mayE
    rw [if_pos k1]
   have hpr:-4611686018427387904 ≤ r.parent.round ∧ r.parent.round ≤ 4611686018427387904:=by
    have:=(Cert.rng (rng.certs (by rw [k1]; rfl)).2).round
    omega
   refine AW_seq ?_
   refine AW_reg [4] fun K hK=>?_
   simp [init_eq,evs]
   rw [AOp_callv (f:=80) (first:=[]) (caps:=[.p (some (H.next,0,0))]) (by simp)]
   simp
   refine ACalls.mono (may1_ok H1 H.next 0) fun v G ⟨hv',hG⟩=>?_
   subst hv'
   have uG:Upd H1 G []:=by rw [hG]; exact Upd.new ..
   have hibG:G.get H1.next = some (.cells [.i .i64 0] 0 false 0):=by rw [hG]; exact AH.get_new_same ..
   have hbs:abuildSlice Tryz.prog G 152 4 [(0,V.fn (.func 81) [] [.p (some (H.next,0,0)),.p (some (H1.next,0,0))]),(1,V.fn (.func 82) [] [.p (some (H.next + 1,0,0)),.p (some (H.next,0,0))]),(2,V.fn (.func 84) [] [.p (some (H.next + 1,0,0)),.p (some (H.next,0,0))]),(3,V.fn (.func 85) [] [.p (some (H.next + 1,0,0)),.p (some (H.next,0,0))])] = some (.sl (some (G.next,0,0)) 4 false,G.new (.cells [V.fn (.func 81) [] [.p (some (H.next,0,0)),.p (some (H1.next,0,0))],V.fn (.func 82) [] [.p (some (H.next + 1,0,0)),.p (some (H.next,0,0))],V.fn (.func 84) [] [.p (some (H.next + 1,0,0)),.p (some (H.next,0,0))],V.fn (.func 85) [] [.p (some (H.next + 1,0,0)),.p (some (H.next,0,0))]] 0 false 1)):=by
    simp [abuildSlice,afill,fn_cells,splice_zero,splice_succ,V.cells]
   obtain ⟨G',hG'⟩:∃ G',G' = G.new (.cells [V.fn (.func 81) [] [.p (some (H.next,0,0)),.p (some (H1.next,0,0))],V.fn (.func 82) [] [.p (some (H.next + 1,0,0)),.p (some (H.next,0,0))],V.fn (.func 84) [] [.p (some (H.next + 1,0,0)),.p (some (H.next,0,0))],V.fn (.func 85) [] [.p (some (H.next + 1,0,0)),.p (some (H.next,0,0))]] 0 false 1):=⟨_,rfl⟩
   have uG':Upd H1 G' []:=by rw [hG']; exact uG.trans (G:=[]) (Upd.new ..) (by simp)
   have m':=m.upd uG'
   have hib:G'.get H1.next = some (.cells [.i .i64 0] 0 false 0):=by
    rw [hG']; exact (Upd.new G _ []).keep (by simp) hibG
   have hrs:=chk_rs G [⟨81,[.p (some (H.next,0,0)),.p (some (H1.next,0,0))],(decide (s.mode = 0)),213⟩,⟨82,[.p (some (H.next + 1,0,0)),.p (some (H.next,0,0))],(decide (r.cert.view = s.view)),210⟩,⟨84,[.p (some (H.next + 1,0,0)),.p (some (H.next,0,0))],(decide (s.round < r.cert.round) && decide (r.cert.round = r.parent.round + 1)),211⟩,⟨85,[.p (some (H.next + 1,0,0)),.p (some (H.next,0,0))],(decide (0 ≤ cmpC r.parent s.high)),212⟩]
   simp [hbs]
   rw [← hG']
   refine ACalls.mono (must_ok G' [⟨81,[.p (some (H.next,0,0)),.p (some (H1.next,0,0))],(decide (s.mode = 0)),213⟩,⟨82,[.p (some (H.next + 1,0,0)),.p (some (H.next,0,0))],(decide (r.cert.view = s.view)),210⟩,⟨84,[.p (some (H.next + 1,0,0)),.p (some (H.next,0,0))],(decide (s.round < r.cert.round) && decide (r.cert.round = r.parent.round + 1)),211⟩,⟨85,[.p (some (H.next + 1,0,0)),.p (some (H.next,0,0))],(decide (0 ≤ cmpC r.parent s.high)),212⟩] (by rw [hG']; exact hrs) (by simp) (fun c hc=>?_)) fun v G2 ⟨hv',e⟩=>?_
   · simp only [List.mem_cons,List.not_mem_nil,or_false] at hc
     rcases hc with rfl | rfl | rfl | rfl
     · exact may1_1_ok _ m' hib
     · exact may2_ok _ m'
     · exact may3_ok _ m' hpr
     · exact may4_ok _ m'
   subst hv' e
   try simp
   apply hK;clear hK K
   exact AW_ret (end_ret rfl (hend _ _ (by first | (rw [hE]; done) | (rw [hE]; simp; done) | (rw [hE]; rfl)) uG'))
 · have k1:¬ r.kind = 1:=by simpa using hc
   refine AW_seq ?_
   refine AW_reg [2,3,5,6,12,22] fun K hK=>?_
   simp [init_eq,evs]
   apply hK;clear hK K
   refine AW_cond' rfl rfl (fun hc=>?_) (fun hc=>?_)
   · have k2:r.kind = 2:=by simpa using hc
     have hE:s.mayE r = mustE [((decide (s.mode = 0)),213)]:=by
      unfold SSt.mayE
      rw [if_neg k1]; rw [if_pos k2]
     refine AW_seq ?_
     refine AW_reg [4] fun K hK=>?_
     simp [init_eq,evs]
     rw [AOp_callv (f:=80) (first:=[]) (caps:=[.p (some (H.next,0,0))]) (by simp)]
     simp
     refine ACalls.mono (may1_ok H1 H.next 0) fun v G ⟨hv',hG⟩=>?_
     subst hv'
     have uG:Upd H1 G []:=by rw [hG]; exact Upd.new ..
     have hibG:G.get H1.next = some (.cells [.i .i64 0] 0 false 0):=by rw [hG]; exact AH.get_new_same ..
     have hbs:abuildSlice Tryz.prog G 152 1 [(0,V.fn (.func 81) [] [.p (some (H.next,0,0)),.p (some (H1.next,0,0))])] = some (.sl (some (G.next,0,0)) 1 false,G.new (.cells [V.fn (.func 81) [] [.p (some (H.next,0,0)),.p (some (H1.next,0,0))]] 0 false 1)):=by
      simp [abuildSlice,afill,fn_cells,splice_zero,splice_succ,V.cells]
     obtain ⟨G',hG'⟩:∃ G',G' = G.new (.cells [V.fn (.func 81) [] [.p (some (H.next,0,0)),.p (some (H1.next,0,0))]] 0 false 1):=⟨_,rfl⟩
     have uG':Upd H1 G' []:=by rw [hG']; exact uG.trans (G:=[]) (Upd.new ..) (by simp)
     have m':=m.upd uG'
     have hib:G'.get H1.next = some (.cells [.i .i64 0] 0 false 0):=by
      rw [hG']; exact (Upd.new G _ []).keep (by simp) hibG
     have hrs:=chk_rs G [⟨81,[.p (some (H.next,0,0)),.p (some (H1.next,0,0))],(decide (s.mode = 0)),213⟩]
     simp [hbs]
     rw [← hG']
     refine ACalls.mono (must_ok G' [⟨81,[.p (some (H.next,0,0)),.p (some (H1.next,0,0))],(decide (s.mode = 0)),213⟩] (by rw [hG']; exact hrs) (by simp) (fun c hc=>?_)) fun v G2 ⟨hv',e⟩=>?_
     · simp only [List.mem_cons,List.not_mem_nil,or_false] at hc
       subst hc
       exact may1_1_ok _ m' hib
     subst hv' e
     try simp
     apply hK;clear hK K
     exact AW_ret (end_ret rfl (hend _ _ (by first | (rw [hE]; done) | (rw [hE]; simp; done) | (rw [hE]; rfl)) uG'))
   · have k2:¬ r.kind = 2:=by simpa using hc
     refine AW_seq ?_
     refine AW_reg [2,3,5,6,12,28] fun K hK=>?_
     simp [init_eq,evs]
     apply hK;clear hK K
     refine AW_cond' rfl rfl (fun hc=>?_) (fun hc=>?_)
     · have k3:r.kind = 3:=by simpa using hc
       have hE:s.mayE r = mustE [((decide (s.mode ≠ 2)),213)]:=by
        unfold SSt.mayE
        rw [if_neg k1]; rw [if_neg k2]; rw [if_pos k3]
       refine AW_seq ?_
       refine AW_reg [4] fun K hK=>?_
       simp [init_eq,evs]
       have uG:Upd H1 H1 []:=Upd.refl ..
       have hbs:abuildSlice Tryz.prog H1 152 1 [(0,V.fn (.func 86) [] [.p (some (H.next,0,0))])] = some (.sl (some (H1.next,0,0)) 1 false,H1.new (.cells [V.fn (.func 86) [] [.p (some (H.next,0,0))]] 0 false 1)):=by
        simp [abuildSlice,afill,fn_cells,splice_zero,splice_succ,V.cells]
       obtain ⟨G',hG'⟩:∃ G',G' = H1.new (.cells [V.fn (.func 86) [] [.p (some (H.next,0,0))]] 0 false 1):=⟨_,rfl⟩
       have uG':Upd H1 G' []:=by rw [hG']; exact uG.trans (G:=[]) (Upd.new ..) (by simp)
       have m':=m.upd uG'
       have hrs:=chk_rs H1 [⟨86,[.p (some (H.next,0,0))],(decide (s.mode ≠ 2)),213⟩]
       simp [hbs]
       rw [← hG']
       refine ACalls.mono (must_ok G' [⟨86,[.p (some (H.next,0,0))],(decide (s.mode ≠ 2)),213⟩] (by rw [hG']; exact hrs) (by simp) (fun c hc=>?_)) fun v G2 ⟨hv',e⟩=>?_
       · simp only [List.mem_cons,List.not_mem_nil,or_false] at hc
         subst hc
         exact may5_ok _ m'
       subst hv' e
       try simp
       apply hK;clear hK K
       exact AW_ret (end_ret rfl (hend _ _ (by first | (rw [hE]; done) | (rw [hE]; simp; done) | (rw [hE]; rfl)) uG'))
     · have k3:¬ r.kind = 3:=by simpa using hc
       refine AW_seq ?_
       refine AW_reg [2,3,5,6,12,33] fun K hK=>?_
       simp [init_eq,evs]
       apply hK;clear hK K
       refine AW_cond' rfl rfl (fun hc=>?_) (fun hc=>?_)
       · have k4:r.kind = 4:=by simpa using hc
         have hE:s.mayE r = mustE [((decide (s.mode = 2)),213),((decide (r.cert.view = s.view)),210),((decide ((s.fell r.cert.author).height < r.cert.height)),220)]:=by
          unfold SSt.mayE
          rw [if_neg k1]; rw [if_neg k2]; rw [if_neg k3]; rw [if_pos k4]
         refine AW_seq ?_
         refine AW_reg [4] fun K hK=>?_
         simp [init_eq,evs]
         rw [AOp_callv (f:=80) (first:=[]) (caps:=[.p (some (H.next,0,0))]) (by simp)]
         simp
         refine ACalls.mono (may1_ok H1 H.next 2) fun v G ⟨hv',hG⟩=>?_
         subst hv'
         have uG:Upd H1 G []:=by rw [hG]; exact Upd.new ..
         have hibG:G.get H1.next = some (.cells [.i .i64 2] 0 false 0):=by rw [hG]; exact AH.get_new_same ..
         have hbs:abuildSlice Tryz.prog G 152 3 [(0,V.fn (.func 81) [] [.p (some (H.next,0,0)),.p (some (H1.next,0,0))]),(1,V.fn (.func 82) [] [.p (some (H.next + 1,0,0)),.p (some (H.next,0,0))]),(2,V.fn (.func 87) [] [.p (some (H.next + 1,0,0)),.p (some (H.next,0,0))])] = some (.sl (some (G.next,0,0)) 3 false,G.new (.cells [V.fn (.func 81) [] [.p (some (H.next,0,0)),.p (some (H1.next,0,0))],V.fn (.func 82) [] [.p (some (H.next + 1,0,0)),.p (some (H.next,0,0))],V.fn (.func 87) [] [.p (some (H.next + 1,0,0)),.p (some (H.next,0,0))]] 0 false 1)):=by
          simp [abuildSlice,afill,fn_cells,splice_zero,splice_succ,V.cells]
         obtain ⟨G',hG'⟩:∃ G',G' = G.new (.cells [V.fn (.func 81) [] [.p (some (H.next,0,0)),.p (some (H1.next,0,0))],V.fn (.func 82) [] [.p (some (H.next + 1,0,0)),.p (some (H.next,0,0))],V.fn (.func 87) [] [.p (some (H.next + 1,0,0)),.p (some (H.next,0,0))]] 0 false 1):=⟨_,rfl⟩
         have uG':Upd H1 G' []:=by rw [hG']; exact uG.trans (G:=[]) (Upd.new ..) (by simp)
         have m':=m.upd uG'
         have hib:G'.get H1.next = some (.cells [.i .i64 2] 0 false 0):=by
          rw [hG']; exact (Upd.new G _ []).keep (by simp) hibG
         have hrs:=chk_rs G [⟨81,[.p (some (H.next,0,0)),.p (some (H1.next,0,0))],(decide (s.mode = 2)),213⟩,⟨82,[.p (some (H.next + 1,0,0)),.p (some (H.next,0,0))],(decide (r.cert.view = s.view)),210⟩,⟨87,[.p (some (H.next + 1,0,0)),.p (some (H.next,0,0))],(decide ((s.fell r.cert.author).height < r.cert.height)),220⟩]
         simp [hbs]
         rw [← hG']
         refine ACalls.mono (must_ok G' [⟨81,[.p (some (H.next,0,0)),.p (some (H1.next,0,0))],(decide (s.mode = 2)),213⟩,⟨82,[.p (some (H.next + 1,0,0)),.p (some (H.next,0,0))],(decide (r.cert.view = s.view)),210⟩,⟨87,[.p (some (H.next + 1,0,0)),.p (some (H.next,0,0))],(decide ((s.fell r.cert.author).height < r.cert.height)),220⟩] (by rw [hG']; exact hrs) (by simp) (fun c hc=>?_)) fun v G2 ⟨hv',e⟩=>?_
         · simp only [List.mem_cons,List.not_mem_nil,or_false] at hc
           rcases hc with rfl | rfl | rfl
           · exact may1_1_ok _ m' hib
           · exact may2_ok _ m'
           · exact may6_ok _ m' ok hk
         subst hv' e
         try simp
         apply hK;clear hK K
         exact AW_ret (end_ret rfl (hend _ _ (by first | (rw [hE]; done) | (rw [hE]; simp; done) | (rw [hE]; rfl)) uG'))
       · have k4:¬ r.kind = 4:=by simpa using hc
         refine AW_seq ?_
         refine AW_reg [2,3,5,12,41] fun K hK=>?_
         simp [init_eq,evs]
         apply hK;clear hK K
         refine AW_cond' rfl rfl (fun hc=>?_) (fun hc=>?_)
         · have k5:r.kind = 5:=by simpa using hc
           have hE:s.mayE r = mustE [((decide (0 < cmpC r.cert s.high)),212)]:=by
            unfold SSt.mayE
            rw [if_neg k1]; rw [if_neg k2]; rw [if_neg k3]; rw [if_neg k4]; rw [if_pos k5]
           refine AW_seq ?_
           refine AW_reg [4] fun K hK=>?_
           simp [init_eq,evs]
           have uG:Upd H1 H1 []:=Upd.refl ..
           have hbs:abuildSlice Tryz.prog H1 152 1 [(0,V.fn (.func 88) [] [.p (some (H.next + 1,0,0)),.p (some (H.next,0,0))])] = some (.sl (some (H1.next,0,0)) 1 false,H1.new (.cells [V.fn (.func 88) [] [.p (some (H.next + 1,0,0)),.p (some (H.next,0,0))]] 0 false 1)):=by
            simp [abuildSlice,afill,fn_cells,splice_zero,splice_succ,V.cells]
           obtain ⟨G',hG'⟩:∃ G',G' = H1.new (.cells [V.fn (.func 88) [] [.p (some (H.next + 1,0,0)),.p (some (H.next,0,0))]] 0 false 1):=⟨_,rfl⟩
           have uG':Upd H1 G' []:=by rw [hG']; exact uG.trans (G:=[]) (Upd.new ..) (by simp)
           have m':=m.upd uG'
           have hrs:=chk_rs H1 [⟨88,[.p (some (H.next + 1,0,0)),.p (some (H.next,0,0))],(decide (0 < cmpC r.cert s.high)),212⟩]
           simp [hbs]
           rw [← hG']
           refine ACalls.mono (must_ok G' [⟨88,[.p (some (H.next + 1,0,0)),.p (some (H.next,0,0))],(decide (0 < cmpC r.cert s.high)),212⟩] (by rw [hG']; exact hrs) (by simp) (fun c hc=>?_)) fun v G2 ⟨hv',e⟩=>?_
           · simp only [List.mem_cons,List.not_mem_nil,or_false] at hc
             subst hc
             exact may7_ok _ m'
           subst hv' e
           try simp
           apply hK;clear hK K
           exact AW_ret (end_ret rfl (hend _ _ (by first | (rw [hE]; done) | (rw [hE]; simp; done) | (rw [hE]; rfl)) uG'))
         · have k5:¬ r.kind = 5:=by simpa using hc
           refine AW_seq ?_
           refine AW_reg [2,3,5,12,46] fun K hK=>?_
           simp [init_eq,evs]
           apply hK;clear hK K
           refine AW_cond' rfl rfl (fun hc=>?_) (fun hc=>?_)
           · have k6:r.kind = 6:=by simpa using hc
             have hE:s.mayE r = mustE [((decide (s.mode = 2)),213),((!s.shared),100)]:=by
              unfold SSt.mayE
              rw [if_neg k1]; rw [if_neg k2]; rw [if_neg k3]; rw [if_neg k4]; rw [if_neg k5]; rw [if_pos k6]
             refine AW_seq ?_
             refine AW_reg [4] fun K hK=>?_
             simp [init_eq,evs]
             rw [AOp_callv (f:=80) (first:=[]) (caps:=[.p (some (H.next,0,0))]) (by simp)]
             simp
             refine ACalls.mono (may1_ok H1 H.next 2) fun v G ⟨hv',hG⟩=>?_
             subst hv'
             have uG:Upd H1 G []:=by rw [hG]; exact Upd.new ..
             have hibG:G.get H1.next = some (.cells [.i .i64 2] 0 false 0):=by rw [hG]; exact AH.get_new_same ..
             have hbs:abuildSlice Tryz.prog G 152 2 [(0,V.fn (.func 81) [] [.p (some (H.next,0,0)),.p (some (H1.next,0,0))]),(1,V.fn (.func 89) [] [.p (some (H.next,0,0))])] = some (.sl (some (G.next,0,0)) 2 false,G.new (.cells [V.fn (.func 81) [] [.p (some (H.next,0,0)),.p (some (H1.next,0,0))],V.fn (.func 89) [] [.p (some (H.next,0,0))]] 0 false 1)):=by
              simp [abuildSlice,afill,fn_cells,splice_zero,splice_succ,V.cells]
             obtain ⟨G',hG'⟩:∃ G',G' = G.new (.cells [V.fn (.func 81) [] [.p (some (H.next,0,0)),.p (some (H1.next,0,0))],V.fn (.func 89) [] [.p (some (H.next,0,0))]] 0 false 1):=⟨_,rfl⟩
             have uG':Upd H1 G' []:=by rw [hG']; exact uG.trans (G:=[]) (Upd.new ..) (by simp)
             have m':=m.upd uG'
             have hib:G'.get H1.next = some (.cells [.i .i64 2] 0 false 0):=by
              rw [hG']; exact (Upd.new G _ []).keep (by simp) hibG
             have hrs:=chk_rs G [⟨81,[.p (some (H.next,0,0)),.p (some (H1.next,0,0))],(decide (s.mode = 2)),213⟩,⟨89,[.p (some (H.next,0,0))],(!s.shared),100⟩]
             simp [hbs]
             rw [← hG']
             refine ACalls.mono (must_ok G' [⟨81,[.p (some (H.next,0,0)),.p (some (H1.next,0,0))],(decide (s.mode = 2)),213⟩,⟨89,[.p (some (H.next,0,0))],(!s.shared),100⟩] (by rw [hG']; exact hrs) (by simp) (fun c hc=>?_)) fun v G2 ⟨hv',e⟩=>?_
             · simp only [List.mem_cons,List.not_mem_nil,or_false] at hc
               rcases hc with rfl | rfl
               · exact may1_1_ok _ m' hib
               · exact may8_ok _ m'
             subst hv' e
             try simp
             apply hK;clear hK K
             exact AW_ret (end_ret rfl (hend _ _ (by first | (rw [hE]; done) | (rw [hE]; simp; done) | (rw [hE]; rfl)) uG'))
           · have k6:¬ r.kind = 6:=by simpa using hc
             refine AW_seq ?_
             refine AW_reg [2,3,12,53] fun K hK=>?_
             simp [init_eq,evs]
             apply hK;clear hK K
             refine AW_cond' rfl rfl (fun hc=>?_) (fun hc=>?_)
             · have k7:r.kind = 7:=by simpa using hc
               have hE:s.mayE r = mustE [((decide (s.view < s.last)),230)]:=by
                unfold SSt.mayE
                rw [if_neg k1]; rw [if_neg k2]; rw [if_neg k3]; rw [if_neg k4]; rw [if_neg k5]; rw [if_neg k6]; rw [if_pos k7]
               refine AW_seq ?_
               refine AW_reg [4] fun K hK=>?_
               simp [init_eq,evs]
               have uG:Upd H1 H1 []:=Upd.refl ..
               have hbs:abuildSlice Tryz.prog H1 152 1 [(0,V.fn (.func 90) [] [.p (some (H.next,0,0))])] = some (.sl (some (H1.next,0,0)) 1 false,H1.new (.cells [V.fn (.func 90) [] [.p (some (H.next,0,0))]] 0 false 1)):=by
                simp [abuildSlice,afill,fn_cells,splice_zero,splice_succ,V.cells]
               obtain ⟨G',hG'⟩:∃ G',G' = H1.new (.cells [V.fn (.func 90) [] [.p (some (H.next,0,0))]] 0 false 1):=⟨_,rfl⟩
               have uG':Upd H1 G' []:=by rw [hG']; exact uG.trans (G:=[]) (Upd.new ..) (by simp)
               have m':=m.upd uG'
               have hrs:=chk_rs H1 [⟨90,[.p (some (H.next,0,0))],(decide (s.view < s.last)),230⟩]
               simp [hbs]
               rw [← hG']
               refine ACalls.mono (must_ok G' [⟨90,[.p (some (H.next,0,0))],(decide (s.view < s.last)),230⟩] (by rw [hG']; exact hrs) (by simp) (fun c hc=>?_)) fun v G2 ⟨hv',e⟩=>?_
               · simp only [List.mem_cons,List.not_mem_nil,or_false] at hc
                 subst hc
                 exact may9_ok _ m'
               subst hv' e
               try simp
               apply hK;clear hK K
               exact AW_ret (end_ret rfl (hend _ _ (by first | (rw [hE]; done) | (rw [hE]; simp; done) | (rw [hE]; rfl)) uG'))
             · have k7:¬ r.kind = 7:=by simpa using hc
               refine AW_seq ?_
               refine AW_reg [2,3,12,58] fun K hK=>?_
               simp [init_eq,evs]
               apply hK;clear hK K
               refine AW_cond' rfl rfl (fun hc=>?_) (fun hc=>?_)
               · have k8:r.kind = 8:=by simpa using hc
                 have hE:s.mayE r = mustE [((decide (s.count < r.count)),151)]:=by
                  unfold SSt.mayE
                  rw [if_neg k1]; rw [if_neg k2]; rw [if_neg k3]; rw [if_neg k4]; rw [if_neg k5]; rw [if_neg k6]; rw [if_neg k7]; rw [if_pos k8]
                 refine AW_seq ?_
                 refine AW_reg [4] fun K hK=>?_
                 simp [init_eq,evs]
                 have uG:Upd H1 H1 []:=Upd.refl ..
                 have hbs:abuildSlice Tryz.prog H1 152 1 [(0,V.fn (.func 91) [] [.p (some (H.next + 1,0,0)),.p (some (H.next,0,0))])] = some (.sl (some (H1.next,0,0)) 1 false,H1.new (.cells [V.fn (.func 91) [] [.p (some (H.next + 1,0,0)),.p (some (H.next,0,0))]] 0 false 1)):=by
                  simp [abuildSlice,afill,fn_cells,splice_zero,splice_succ,V.cells]
                 obtain ⟨G',hG'⟩:∃ G',G' = H1.new (.cells [V.fn (.func 91) [] [.p (some (H.next + 1,0,0)),.p (some (H.next,0,0))]] 0 false 1):=⟨_,rfl⟩
                 have uG':Upd H1 G' []:=by rw [hG']; exact uG.trans (G:=[]) (Upd.new ..) (by simp)
                 have m':=m.upd uG'
                 have hrs:=chk_rs H1 [⟨91,[.p (some (H.next + 1,0,0)),.p (some (H.next,0,0))],(decide (s.count < r.count)),151⟩]
                 simp [hbs]
                 rw [← hG']
                 refine ACalls.mono (must_ok G' [⟨91,[.p (some (H.next + 1,0,0)),.p (some (H.next,0,0))],(decide (s.count < r.count)),151⟩] (by rw [hG']; exact hrs) (by simp) (fun c hc=>?_)) fun v G2 ⟨hv',e⟩=>?_
                 · simp only [List.mem_cons,List.not_mem_nil,or_false] at hc
                   subst hc
                   exact may10_ok _ m'
                 subst hv' e
                 try simp
                 apply hK;clear hK K
                 exact AW_ret (end_ret rfl (hend _ _ (by first | (rw [hE]; done) | (rw [hE]; simp; done) | (rw [hE]; rfl)) uG'))
               · have k8:¬ r.kind = 8:=by simpa using hc
                 refine AW_seq ?_
                 refine AW_reg [2,3,63] fun K hK=>?_
                 simp [init_eq,evs]
                 apply hK;clear hK K
                 refine AW_cond' rfl rfl (fun hc=>?_) (fun hc=>?_)
                 · have k10:r.kind = 10:=by simpa using hc
                   have hE:s.mayE r = mustE [((!decide (r.text ∈ s.blocks)),100)]:=by
                    unfold SSt.mayE
                    rw [if_neg k1]; rw [if_neg k2]; rw [if_neg k3]; rw [if_neg k4]; rw [if_neg k5]; rw [if_neg k6]; rw [if_neg k7]; rw [if_neg k8]; rw [if_pos k10]
                   refine AW_seq ?_
                   refine AW_reg [4] fun K hK=>?_
                   simp [init_eq,evs]
                   have uG:Upd H1 H1 []:=Upd.refl ..
                   have hbs:abuildSlice Tryz.prog H1 152 1 [(0,V.fn (.func 92) [] [.p (some (H.next,0,0)),.p (some (H.next + 1,0,0))])] = some (.sl (some (H1.next,0,0)) 1 false,H1.new (.cells [V.fn (.func 92) [] [.p (some (H.next,0,0)),.p (some (H.next + 1,0,0))]] 0 false 1)):=by
                    simp [abuildSlice,afill,fn_cells,splice_zero,splice_succ,V.cells]
                   obtain ⟨G',hG'⟩:∃ G',G' = H1.new (.cells [V.fn (.func 92) [] [.p (some (H.next,0,0)),.p (some (H.next + 1,0,0))]] 0 false 1):=⟨_,rfl⟩
                   have uG':Upd H1 G' []:=by rw [hG']; exact uG.trans (G:=[]) (Upd.new ..) (by simp)
                   have m':=m.upd uG'
                   have hrs:=chk_rs H1 [⟨92,[.p (some (H.next,0,0)),.p (some (H.next + 1,0,0))],(!decide (r.text ∈ s.blocks)),100⟩]
                   simp [hbs]
                   rw [← hG']
                   refine ACalls.mono (must_ok G' [⟨92,[.p (some (H.next,0,0)),.p (some (H.next + 1,0,0))],(!decide (r.text ∈ s.blocks)),100⟩] (by rw [hG']; exact hrs) (by simp) (fun c hc=>?_)) fun v G2 ⟨hv',e⟩=>?_
                   · simp only [List.mem_cons,List.not_mem_nil,or_false] at hc
                     subst hc
                     exact may11_ok _ m' (by have:=ok.bl; omega)
                   subst hv' e
                   try simp
                   apply hK;clear hK K
                   exact AW_ret (end_ret rfl (hend _ _ (by first | (rw [hE]; done) | (rw [hE]; simp; done) | (rw [hE]; rfl)) uG'))
                 · have k10:¬ r.kind = 10:=by simpa using hc
                   have k9:r.kind = 9:=by have:=rng.kind; omega
                   have hE:s.mayE r = s.mayOwnE r:=by
                    unfold SSt.mayE
                    rw [if_neg k1]; rw [if_neg k2]; rw [if_neg k3]; rw [if_neg k4]; rw [if_neg k5]; rw [if_neg k6]; rw [if_neg k7]; rw [if_neg k8]; rw [if_neg k10]
                   have hpk:(parseBlk r.text).2 = 0:=form_text hf (by rw [k9]; rfl)
                   have hh:=(Blk.rng (parseBlk_inv hpk).1).height
                   have hown:∀ h,(s.ownAt h).length ≤ 100000000000:=fun h=>by
                    have o0:=ok.o0; have o1:=ok.o1; have o2:=ok.o2; have o3:=ok.o3
                    unfold SSt.ownAt
                    split
                    · omega
                    · split
                      · omega
                      · split <;> omega
                   refine AW_skip ?_
                   refine AW_seq ?_
                   refine AW_reg [4] fun K hK=>?_
                   simp [init_eq,aload,m.ps,m.pr]
                   refine ACalls.mono (mayOwn_ok H1 m.st m.rc hl hh hown) fun v G2 ⟨hv',e⟩=>?_
                   subst hv' e
                   try simp
                   apply hK;clear hK K
                   exact AW_ret (end_ret rfl (hend _ _ (by rw [hE]) (Upd.refl ..)))
end Go.Proofs.YtaidfojbnfkclaaGreatDoor
