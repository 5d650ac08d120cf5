/-
  Do: a record. (Printed by gen_saf8.py.)
-/
import Derived.Test.YtaidfojbnfkclaaGreatDoorSaf7
set_option linter.unusedVariables false
set_option linter.unusedSimpArgs false
namespace Go.Proofs.YtaidfojbnfkclaaGreatDoor
open Go Go.Abs Go.Proofs
set_option maxRecDepth 100000
attribute [local irreducible] AEnd AW ACalls
theorem SRec.cb (r:SRec):r.cells[2]? = some (.i .i64 r.cert.block):=rfl
def SSt.setOwn (s:SSt) (h:Int) (t:List UInt8):SSt:=if h = 0 then { s with own0:=t } else if h = 1 then { s with own1:=t } else if h = 2 then { s with own2:=t } else { s with own3:=t }
/-- With a vote of the fallback. -/
def SSt.fallen (s:SSt) (r:SRec):SSt:={ s with falls:=putC s.falls r.cert.plain }
def SSt.act (s:SSt) (r:SRec):SSt :=
 if r.kind = 1 then { s with round:=r.cert.round,block:=r.cert.block,high:=maxC s.high r.parent } else
 if r.kind = 2 then { s with mode:=1,gave:=s.high } else
 if r.kind = 3 then { s with gave:=(if s.mode = 0 then s.high else s.gave),mode:=2 } else
 if r.kind = 4 then (if showsC r.parent r.cert && decide (((s.fallen r).head r.parent.author).height < r.parent.height) then { s.fallen r with heads:=putC s.heads r.parent } else s.fallen r) else
 if r.kind = 5 then { s with high:=r.cert } else
 if r.kind = 6 then { s with shared:=true } else
 if r.kind = 7 then s.leave r else
 if r.kind = 8 then { s with count:=r.count,tip:=r.block } else
 if r.kind = 9 then s.setOwn (parseBlk r.text).1.height r.text else
 { s with blocks:=s.blocks ++ [r.text] }
def SSt.doR (s:SSt) (r:SRec):SSt × Int :=
 if r.form ≠ 0 then (SSt.zero,r.form) else if s.mayE r ≠ 0 then (SSt.zero,s.mayE r) else (s.act r,0)
theorem stF {P:Program} {G:AH} {q:Nat} {l:List V} {t o:Nat} {x:V} {xl:List V} (h:G.get q = some (.cells l 0 false 0)) (hx:x.cells = some xl) (hz:qsize P t = some xl.length) (ho:o + xl.length ≤ l.length) :
  ∃ G2,astore P G t (.p (some (q,0,o))) x = some G2 ∧ G2.get q = some (.cells (splice l o xl) 0 false 0) ∧ Upd G G2 [q]:=by
 refine ⟨G.set q (.cells (splice l o xl) 0 false 0),?_,AH.get_set_same (AH.get_lt h),Upd.set _ _ _ (by simp)⟩
 simp only [astore,hx,hz,h,if_true]
 rw [if_pos ⟨trivial,ho⟩]
/-- A slice of one's own, away from Do's variables and from some objects. -/
def OB (H G:AH) (B:List Nat) (v:V) (sz:Nat) (cs:List V):Prop:=∃ F,Own G v sz cs F ∧ ∀ j ∈ F,H.next + 3 ≤ j ∧ j ∉ B
/-- The memory of Do: the state, the record, the answer. -/
structure DS (H G:AH) (s:SSt) (r:SRec) (fv hv pv bv:V) (B:List Nat):Prop where
 st:G.get H.next = some (.cells (s.cells fv hv pv bv) 0 false 0)
 rc:G.get (H.next + 1) = some (.cells r.cells 0 false 0)
 res:G.get (H.next + 2) = some (.cells zeroS 0 false 0)
 of:OB H G B fv 8 (s.falls.map Cert.cells).flatten
 oh:OB H G B hv 8 (s.heads.map Cert.cells).flatten
 op:OB H G B pv 1 (s.past.map setC).flatten
 ob:Own G bv 1 (s.blocks.map strC).flatten B
 lb:∀ j ∈ B,H.next + 3 ≤ j
 u:Upd H G []
theorem own_step {H G M:AH} {v:V} {sz:Nat} {cs:List V} (h:∃ F,Own G v sz cs F ∧ ∀ j ∈ F,H.next + 3 ≤ j) (u:Upd G M [H.next]):∃ F,Own M v sz cs F ∧ ∀ j ∈ F,H.next + 3 ≤ j:=by
 obtain ⟨F,h1,h2⟩:=h
 exact ⟨F,h1.upd u (fun j hj h=>by have:=h2 j hj; simp at h; omega),h2⟩
theorem OB.step {H G M:AH} {B C:List Nat} {v:V} {sz:Nat} {cs:List V} (h:OB H G B v sz cs) (u:Upd G M C) (hC:∀ j ∈ C,j ∈ B ∨ j = H.next) {B':List Nat} (hB:∀ j ∈ B',j ∈ B ∨ G.next ≤ j):OB H M B' v sz cs:=by
 obtain ⟨F,h1,h2⟩:=h
 refine ⟨F,h1.upd u (fun j hj h=>?_),fun j hj=>⟨(h2 j hj).1,fun h=>?_⟩⟩
 · rcases hC j h with h | h
   · exact (h2 j hj).2 h
   · have:=(h2 j hj).1; omega
 · rcases hB j h with h | h
   · exact (h2 j hj).2 h
   · have:=h1.lt j hj; omega
theorem DS.nx {H G:AH} {s:SSt} {r:SRec} {fv hv pv bv:V} {B:List Nat} (d:DS H G s r fv hv pv bv B):H.next + 3 ≤ G.next:=AH.get_lt d.res
theorem DS.step {H G M:AH} {s s':SSt} {r:SRec} {fv hv pv bv:V} {B:List Nat} (d:DS H G s r fv hv pv bv B) (u:Upd G M [H.next]) (hM:M.get H.next = some (.cells (s'.cells fv hv pv bv) 0 false 0))
  (h1:s'.falls = s.falls) (h2:s'.heads = s.heads) (h3:s'.past = s.past) (h4:s'.blocks = s.blocks):DS H M s' r fv hv pv bv B :=
 ⟨hM,u.keep (by simp) d.rc,u.keep (by simp) d.res,by rw [h1]; exact d.of.step u (by simp) (fun j h=>.inl h),by rw [h2]; exact d.oh.step u (by simp) (fun j h=>.inl h),by rw [h3]; exact d.op.step u (by simp) (fun j h=>.inl h),
   by rw [h4]; exact d.ob.upd u (fun j hj h=>by have:=d.lb j hj; simp at h; omega),d.lb,d.u.trans u (fun j hj=>.inr (by simp at hj; omega))⟩
theorem DS.upd {H G M:AH} {s:SSt} {r:SRec} {fv hv pv bv:V} {B:List Nat} (d:DS H G s r fv hv pv bv B) (u:Upd G M []):DS H M s r fv hv pv bv B :=
 d.step (u.mono (by simp)) (u.keep (by simp) d.st) rfl rfl rfl rfl
theorem FreshL.ob {H G G2 M:AH} {v:V} {sz:Nat} {ls:List (List V)} {B:List Nat} (h:FreshL G G2 v sz ls) (hn:H.next + 3 ≤ G.next) (hB:∀ j ∈ B,j < G.next) (u:Upd G2 M [H.next]):OB H M B v sz ls.flatten:=by
 obtain ⟨F,h1,h2,h3⟩:=h
 refine ⟨F,h1.upd u (fun j hj h=>by have:=h3 j hj; simp at h; omega),fun j hj=>⟨by have:=h3 j hj; omega,fun h=>by have:=h3 j hj; have:=hB j h; omega⟩⟩
/-- With another list of votes. -/
theorem DS.falls {H G G2 M:AH} {s s':SSt} {r:SRec} {fv hv pv bv v:V} {B:List Nat} {ls:List Cert} (d:DS H G s r fv hv pv bv B) (h:FreshL G G2 v 8 (ls.map Cert.cells)) (u:Upd G2 M [H.next]) (hM:M.get H.next = some (.cells (s'.cells v hv pv bv) 0 false 0))
  (h1:s'.falls = ls) (h2:s'.heads = s.heads) (h3:s'.past = s.past) (h4:s'.blocks = s.blocks):DS H M s' r v hv pv bv B:=by
 obtain ⟨F,_,uF,_⟩:=id h
 have uM:Upd G M [H.next]:=(uF.mono (by simp)).trans u (fun j hj=>.inl hj)
 exact ⟨hM,uM.keep (by simp) d.rc,uM.keep (by simp) d.res,by rw [h1]; exact h.ob d.nx (fun j hj=>d.ob.lt j hj) u,by rw [h2]; exact d.oh.step uM (by simp) (fun j h=>.inl h),by rw [h3]; exact d.op.step uM (by simp) (fun j h=>.inl h),
  by rw [h4]; exact d.ob.upd uM (fun j hj h=>by have:=d.lb j hj; simp at h; omega),d.lb,d.u.trans uM (fun j hj=>.inr (by simp at hj; omega))⟩
/-- With another list of heads. -/
theorem DS.heads {H G G2 M:AH} {s s':SSt} {r:SRec} {fv hv pv bv v:V} {B:List Nat} {ls:List Cert} (d:DS H G s r fv hv pv bv B) (h:FreshL G G2 v 8 (ls.map Cert.cells)) (u:Upd G2 M [H.next]) (hM:M.get H.next = some (.cells (s'.cells fv v pv bv) 0 false 0))
  (h1:s'.heads = ls) (h2:s'.falls = s.falls) (h3:s'.past = s.past) (h4:s'.blocks = s.blocks):DS H M s' r fv v pv bv B:=by
 obtain ⟨F,_,uF,_⟩:=id h
 have uM:Upd G M [H.next]:=(uF.mono (by simp)).trans u (fun j hj=>.inl hj)
 exact ⟨hM,uM.keep (by simp) d.rc,uM.keep (by simp) d.res,by rw [h2]; exact d.of.step uM (by simp) (fun j h=>.inl h),by rw [h1]; exact h.ob d.nx (fun j hj=>d.ob.lt j hj) u,by rw [h3]; exact d.op.step uM (by simp) (fun j h=>.inl h),
  by rw [h4]; exact d.ob.upd uM (fun j hj h=>by have:=d.lb j hj; simp at h; omega),d.lb,d.u.trans uM (fun j hj=>.inr (by simp at hj; omega))⟩
theorem DS.sat {H G:AH} {s:SSt} {r:SRec} {fv hv pv bv:V} {B:List Nat} (d:DS H G s r fv hv pv bv B):SAt G s fv hv pv bv:=by
 obtain ⟨F1,a1,_⟩:=d.of
 obtain ⟨F2,a2,_⟩:=d.oh
 obtain ⟨F3,a3,_⟩:=d.op
 exact ⟨a1.rsR (f:=Cert.cells) (by decide) Cert.len,a2.rsR (f:=Cert.cells) (by decide) Cert.len,a3.rsR (f:=setC) (by decide) (fun _=>rfl),d.ob.rsR (f:=strC) (by decide) (fun _=>rfl)⟩
theorem setOwn_splice (s:SSt) (fv hv pv bv:V) {h:Int} (h0:0 ≤ h ∧ h ≤ 3) (t:List UInt8):splice (s.cells fv hv pv bv) (24 + h.toNat) [.s t] = (s.setOwn h t).cells fv hv pv bv:=by
 have:h = 0 ∨ h = 1 ∨ h = 2 ∨ h = 3:=by omega
 rcases this with rfl | rfl | rfl | rfl <;> rfl
theorem setOwn_falls (s:SSt) (h:Int) (t:List UInt8):(s.setOwn h t).falls = s.falls ∧ (s.setOwn h t).heads = s.heads ∧ (s.setOwn h t).past = s.past ∧ (s.setOwn h t).blocks = s.blocks:=by
 unfold SSt.setOwn
 split
 · exact ⟨rfl,rfl,rfl,rfl⟩
 · split
   · exact ⟨rfl,rfl,rfl,rfl⟩
   · split <;> exact ⟨rfl,rfl,rfl,rfl⟩
theorem ob_of {H G M:AH} {B:List Nat} {v:V} {sz:Nat} {cs:List V} (h:∃ F,Own G v sz cs F ∧ ∀ j ∈ F,H.next + 3 ≤ j) (u:Upd G M [H.next]) (hB:∀ j ∈ B,G.next ≤ j):OB H M B v sz cs:=by
 obtain ⟨F,h1,h2⟩:=h
 exact ⟨F,h1.upd u (fun j hj h=>by have:=h2 j hj; simp at h; omega),fun j hj=>⟨h2 j hj,fun hb=>by have:=hB j hb; have:=h1.lt j hj; omega⟩⟩
/-- A state whose slices are its own, and not older than a mark. -/
def SOwn (G:AH) (n:Nat) (s:SSt) (fv hv pv bv:V):Prop :=
 (∃ F,Own G fv 8 (s.falls.map Cert.cells).flatten F ∧ ∀ j ∈ F,n ≤ j) ∧ (∃ F,Own G hv 8 (s.heads.map Cert.cells).flatten F ∧ ∀ j ∈ F,n ≤ j) ∧
 (∃ F,Own G pv 1 (s.past.map setC).flatten F ∧ ∀ j ∈ F,n ≤ j) ∧ (∃ F,Own G bv 1 (s.blocks.map strC).flatten F ∧ ∀ j ∈ F,n ≤ j)
theorem SOwn.sat {G:AH} {n:Nat} {s:SSt} {fv hv pv bv:V} (h:SOwn G n s fv hv pv bv):SAt G s fv hv pv bv:=by
 obtain ⟨⟨_,a1,_⟩,⟨_,a2,_⟩,⟨_,a3,_⟩,⟨_,a4,_⟩⟩:=h
 exact ⟨a1.rsR (f:=Cert.cells) (by decide) Cert.len,a2.rsR (f:=Cert.cells) (by decide) Cert.len,a3.rsR (f:=setC) (by decide) (fun _=>rfl),a4.rsR (f:=strC) (by decide) (fun _=>rfl)⟩
theorem own_nil (G:AH) (n sz:Nat):∃ F,Own G nilV sz ([]:List (List V)).flatten F ∧ ∀ j ∈ F,n ≤ j:=⟨[],Own.nil ..,by simp⟩
theorem zero_own (G:AH) (n:Nat):SOwn G n SSt.zero nilV nilV nilV nilV:=⟨own_nil ..,own_nil ..,own_nil ..,own_nil ..⟩
theorem bzS:abuild Tryz.prog 42 [] = some (.agg zeroS):=by first | (simp [abuild,afill]; done) | (simp [abuild,afill]; rfl)
set_option maxHeartbeats 4000000 in
theorem do_ok (H:AH) {s:SSt} {fv hv pv bv:V} {r:SRec} {k:Nat} (ha:SAt H s fv hv pv bv) (ok:s.Ok k) (hk:k ≤ 1000000) (hl:r.text.length ≤ 100000000000) :
  ACalls Tryz.prog 19 [.agg (s.cells fv hv pv bv),.agg r.cells] H fun v H'=>∃ fv' hv' pv' bv',v = .tup [.agg ((s.doR r).1.cells fv' hv' pv' bv'),.i .i64 (s.doR r).2] ∧ SOwn H' H.next (s.doR r).1 fv' hv' pv' bv' ∧ Upd H H' []:=by
 refine ACalls_body Tryz.func19 rfl rfl ?_
 refine AW_seq ?_
 refine AW_reg [2,3,4] fun K hK=>?_
 simp [init_eq,V.cells]
 obtain ⟨H1,e1,hp1,hp2,hp3,hn,ho1⟩:=H.boxed3 (s.cells fv hv pv bv) r.cells zeroS
 change K _ (((H.new (.cells (s.cells fv hv pv bv) 0 false 0)).new (.cells r.cells 0 false 0)).new (.cells zeroS 0 false 0))
 rw [e1]
 have u1:Upd H H1 []:=⟨by omega,fun j hj _=>ho1 j hj⟩
 have hsz:∀ (G:AH) (l:List V),G.get (H.next + 2) = some (.cells l 0 false 0) → l.length = 32 → ∃ G2,astore Tryz.prog G 42 (.p (some (H.next + 2,0,0))) (.agg zeroS) = some G2 ∧ G2.get (H.next + 2) = some (.cells zeroS 0 false 0) ∧ Upd G G2 [H.next + 2]:=by
  intro G l h hll
  obtain ⟨G2,a,b,c⟩:=stF (P:=Tryz.prog) (t:=42) (o:=0) (x:=.agg zeroS) (xl:=zeroS) h rfl qsize_42 (by rw [hll]; decide)
  exact ⟨G2,a,by rw [b,splice_all (by rw [hll]; rfl)],c⟩
 obtain ⟨Gz,az,bz,cz⟩:=hsz H1 zeroS hp3 rfl
 have uz:Upd H Gz []:=u1.trans cz (fun j hj=>.inr (by simp at hj; omega))
 refine hK _ H1 ?_; clear hK K
 refine AW_seq ?_
 refine AW_seq ?_
 refine AW_reg [2,3,4,6] fun K hK=>?_
 simp [init_eq,aload,hp2,SRec.take]
 refine ACalls.mono (form_ok H1 r hl) fun v H' ⟨hr,e⟩=>?_
 subst hr
 rw [e]
 try simp
 apply hK;clear hK K
 refine AW_seq ?_
 refine AW_reg [2,3,4,6,14] fun K hK=>?_
 simp [init_eq]
 apply hK;clear hK K
 refine AW_cond' rfl rfl (fun hc=>?_) (fun hc=>?_)
 · have hf:r.form ≠ 0:=by simpa using hc
   refine AW_seq ?_
   refine AW_reg [4,5] fun K hK=>?_
   simp [init_eq,bzS,az]
   apply hK;clear hK K
   have hd:s.doR r = (SSt.zero,r.form):=by unfold SSt.doR; rw [if_pos hf]
   rw [hd]
   exact AW_ret (end_ret (ares_cell_tmp (v:=.agg zeroS) (by simp [aload,bz]; exact ⟨by decide,rfl⟩)) ⟨nilV,nilV,nilV,nilV,rfl,zero_own _ _,uz⟩)
 · have hf:r.form = 0:=by simpa using hc
   have rng:=SRec.rng hf
   refine AW_skip ?_
   refine AW_seq ?_
   refine AW_seq ?_
   refine AW_reg [2,3,4,7] fun K hK=>?_
   simp [init_eq]
   refine ACalls.mono (smay_ok H1 hp1 hp2 (ha.upd u1) ok (by omega) hf hl) fun v H' ⟨hr,e⟩=>?_
   subst hr
   rw [e]
   try simp
   apply hK;clear hK K
   refine AW_seq ?_
   refine AW_reg [2,3,4,7,19] fun K hK=>?_
   simp [init_eq]
   apply hK;clear hK K
   refine AW_cond' rfl rfl (fun hc=>?_) (fun hc=>?_)
   · have hm:s.mayE r ≠ 0:=by simpa using hc
     refine AW_seq ?_
     refine AW_reg [4,5] fun K hK=>?_
     simp [init_eq,bzS,az]
     apply hK;clear hK K
     have hd:s.doR r = (SSt.zero,s.mayE r):=by unfold SSt.doR; rw [if_neg (by simp [hf]),if_pos hm]
     rw [hd]
     exact AW_ret (end_ret (ares_cell_tmp (v:=.agg zeroS) (by simp [aload,bz]; exact ⟨by decide,rfl⟩)) ⟨nilV,nilV,nilV,nilV,rfl,zero_own _ _,uz⟩)
   · have hm:s.mayE r = 0:=by simpa using hc
     have hd:s.doR r = (s.act r,0):=by unfold SSt.doR; rw [if_neg (by simp [hf]),if_neg (by simp [hm])]
     rw [hd]
     have ha1:=ha.upd u1
     have hpl:s.past.length ≤ 10000000:=by have:=ok.pl; have:=ok.vl; have:=ok.lm; omega
     have hbl:=ok.bl
     have hfl:=ok.fl
     have hhl:=ok.hl
     refine AW_skip ?_
     refine AW_cut (fun ρ' G=>∃ fv hv pv bv,ρ' = ⟨145,[(2,.p (some (H.next,0,0))),(3,.p (some (H.next + 1,0,0))),(4,.p (some (H.next + 2,0,0)))]⟩ ∧ G.get H.next = some (.cells (s.cells fv hv pv bv) 0 false 0) ∧ G.get (H.next + 1) = some (.cells r.cells 0 false 0) ∧ G.get (H.next + 2) = some (.cells zeroS 0 false 0) ∧
      (∃ F,Own G fv 8 (s.falls.map Cert.cells).flatten F ∧ ∀ j ∈ F,H.next + 3 ≤ j) ∧ (∃ F,Own G hv 8 (s.heads.map Cert.cells).flatten F ∧ ∀ j ∈ F,H.next + 3 ≤ j) ∧ (∃ F,Own G pv 1 (s.past.map setC).flatten F ∧ ∀ j ∈ F,H.next + 3 ≤ j) ∧ RS G bv 1 (s.blocks.map strC) ∧ Upd H1 G [H.next]) ?_ ?_
     · refine AW_regd [2,3,4] pl_19_7 pe_19_7 (by kernel_rfl) (by kernel_rfl) (by decide) fun K hK=>?_
       simp [init_eq,pl_19_7,aload,afieldAddr,hp1]
       refine ACalls.mono (cloneCert H1 (ls:=s.falls.map Cert.cells) ha1.falls (by simp; omega)) fun v1 G1 ⟨F1,o1,c1,f1⟩=>?_
       refine ⟨c1.ext,?_⟩
       refine ACalls.mono (cloneCert G1 (ls:=s.heads.map Cert.cells) (ha1.heads.upd c1) (by simp; omega)) fun v2 G2 ⟨F2,o2,c2,f2⟩=>?_
       refine ⟨c2.ext,?_⟩
       refine ACalls.mono (cloneSet G2 (ls:=s.past.map setC) ((ha1.past.upd c1).upd c2) (by simp; omega)) fun v3 G3 ⟨F3,o3,c3,f3⟩=>?_
       refine ⟨c3.ext,?_⟩
       have n1:=c1.1; have n2:=c2.1; have n3:=c3.1
       have q0:=c3.keep (by simp) (c2.keep (by simp) (c1.keep (by simp) hp1))
       obtain ⟨G4,a4,q4,u4⟩:=stF (P:=Tryz.prog) (t:=37) (o:=21) (x:=v1) q0 o1.cells qsize_37 (by simp)
       rw [SSt.w21] at q4
       obtain ⟨G5,a5,q5,u5⟩:=stF (P:=Tryz.prog) (t:=37) (o:=22) (x:=v2) q4 o2.cells qsize_37 (by simp)
       rw [SSt.w22] at q5
       obtain ⟨G6,a6,q6,u6⟩:=stF (P:=Tryz.prog) (t:=39) (o:=28) (x:=v3) q5 o3.cells qsize_39 (by simp)
       rw [SSt.w28] at q6
       have u46:Upd G3 G6 [H.next]:=(u4.trans u5 (fun j hj=>.inl hj)).trans u6 (fun j hj=>.inl hj)
       have uu:Upd H1 G6 [H.next]:=(((c1.trans c2 (by simp)).trans c3 (by simp)).mono (by simp)).trans u46 (fun j hj=>.inl hj)
       simp [a4,a5,a6]
       refine hK _ _ (rend ⟨_,by simp,v1,v2,v3,bv,rfl,q6,uu.keep (by simp) hp2,uu.keep (by simp) hp3,?_,?_,?_,?_,uu⟩)
       · exact own_step ⟨F1,(o1.upd c2 (by simp)).upd c3 (by simp),fun j hj=>by have:=f1 j hj; omega⟩ u46
       · exact own_step ⟨F2,o2.upd c3 (by simp),fun j hj=>by have:=f2 j hj; omega⟩ u46
       · exact own_step ⟨F3,o3,fun j hj=>by have:=f3 j hj; omega⟩ u46
       · exact ha.blocks.upd (u1.trans uu (fun j hj=>.inr (by simp at hj; omega)))
     · rintro ρ' G ⟨fv',hv',pv',bv',rfl,g1,g2,g3,of,oh,op,rb,uG⟩
       clear hp1 hp2 hp3 ha ha1
       refine AW_cut (fun ρ' G=>∃ fv hv pv bv,ρ' = ⟨145,[(2,.p (some (H.next,0,0))),(3,.p (some (H.next + 1,0,0))),(4,.p (some (H.next + 2,0,0)))]⟩ ∧ ∃ B,DS H G s r fv hv pv bv B) ?_ ?_
       · refine AW_reg [2,3,4] fun K hK=>?_
         simp [init_eq,aload,afieldAddr,g1]
         refine ACalls.mono (cloneStr G rb (by simp; omega)) fun v4 G2 hF4=>?_
         obtain ⟨F4,o4,c4,f4⟩:=id hF4
         have nG:=AH.get_lt g3
         have q0:=c4.keep (by simp) g1
         obtain ⟨G3,a3,q3,u3⟩:=stF (P:=Tryz.prog) (t:=40) (o:=31) (x:=v4) q0 o4.cells qsize_40 (by simp)
         rw [SSt.w31] at q3
         have u23:Upd G G3 [H.next]:=(c4.mono (by simp)).trans u3 (fun j hj=>.inl hj)
         simp [a3]
         refine hK _ _ (rend ⟨_,by simp,fv',hv',pv',v4,rfl,F4,q3,u23.keep (by simp) g2,u23.keep (by simp) g3,ob_of of u23 f4,ob_of oh u23 f4,ob_of op u23 f4,o4.upd u3 (fun j hj h=>by have:=f4 j hj; simp at h; omega),fun j hj=>by have:=f4 j hj; omega,?_⟩)
         exact (u1.trans (uG.trans u23 (fun j hj=>.inl hj)) (fun j hj=>.inr (by simp at hj; omega)))
       clear g1 g2 g3 of oh op rb uG
       rintro ρ' G ⟨fv,hv,pv,bv,rfl,B,ds⟩
       have sat:=ds.sat
       refine AW_cut (fun ρ' X=>ρ' = ⟨145,[(2,.p (some (H.next,0,0))),(4,.p (some (H.next + 2,0,0)))]⟩ ∧ ∃ fv hv pv bv B,DS H X (s.act r) r fv hv pv bv B) ?_ ?_
       · refine AW_seq ?_
         refine AW_reg [2,3,4,39] fun K hK=>?_
         simp [init_eq,aload,afieldAddr,ds.rc]
         apply hK;clear hK K
         refine AW_block ?_
         refine AW_seq ?_
         refine AW_reg [2,3,4,39,40] fun K hK=>?_
         simp [init_eq]
         apply hK;clear hK K
         refine AW_cond' rfl rfl (fun hc=>?_) (fun hc=>?_)
         · have k1:r.kind = 1:=by simpa using hc
           have hA:s.act r = { s with round:=r.cert.round,block:=r.cert.block,high:=maxC s.high r.parent }:=by unfold SSt.act;  rw [if_pos k1]
           obtain ⟨G2,a2,q2,w2⟩:=stF (P:=Tryz.prog) (t:=3) (o:=3) (x:=.i .i64 r.cert.round) ds.st rfl qsize_3 (by simp)
           rw [SSt.w3] at q2
           obtain ⟨G3,a3,q3,w3⟩:=stF (P:=Tryz.prog) (t:=3) (o:=4) (x:=.i .i64 r.cert.block) q2 rfl qsize_3 (by simp)
           rw [SSt.w4] at q3
           obtain ⟨G4,a4,q4,w4⟩:=stF (P:=Tryz.prog) (t:=24) (o:=5) (x:=.agg (maxC s.high r.parent).cells) q3 rfl qsize_24 (by simp)
           rw [SSt.w5] at q4
           refine AW_regd [2,4] pl_19_11 pe_19_11 (by kernel_rfl) (by kernel_rfl) (by decide) fun K hK=>?_
           simp [init_eq,pl_19_11,aload,afieldAddr,ds.st,ds.rc,SSt.take,SRec.certC,SRec.parC,SRec.certU,take_cells,SRec.cr,SRec.cb]
           refine ACalls.mono (certMax_ok G s.high r.parent) fun v G' ⟨hv',e⟩=>?_
           subst hv'
           rw [e]
           simp [a2,a3,a4]
           refine hK _ _ (bend (rend ⟨_,by simp,rfl,fv,hv,pv,bv,B,?_⟩))
           rw [hA]
           exact ds.step ((w2.trans w3 (fun j hj=>.inl hj)).trans w4 (fun j hj=>.inl hj)) q4 rfl rfl rfl rfl
         · have k1:¬ r.kind = 1:=by simpa using hc
           refine AW_seq ?_
           refine AW_reg [2,3,4,39,56] fun K hK=>?_
           simp [init_eq]
           apply hK;clear hK K
           refine AW_cond' rfl rfl (fun hc=>?_) (fun hc=>?_)
           · have k2:r.kind = 2:=by simpa using hc
             have hA:s.act r = { s with mode:=1,gave:=s.high }:=by unfold SSt.act; rw [if_neg k1]; rw [if_pos k2]
             obtain ⟨G2,a2,q2,w2⟩:=stF (P:=Tryz.prog) (t:=3) (o:=2) (x:=.i .i64 1) ds.st rfl qsize_3 (by simp)
             rw [SSt.w2] at q2
             obtain ⟨G3,a3,q3,w3⟩:=stF (P:=Tryz.prog) (t:=24) (o:=13) (x:=.agg s.high.cells) q2 rfl qsize_24 (by simp)
             rw [SSt.w13] at q3
             refine AW_reg [2,4] fun K hK=>?_
             simp [init_eq,aload,afieldAddr,ds.st,ds.rc,SSt.take,SRec.certC,SRec.parC,SRec.certU,take_cells,a2,a3]
             refine hK _ _ (bend (rend ⟨_,by simp,rfl,fv,hv,pv,bv,B,?_⟩))
             rw [hA]
             exact ds.step (w2.trans w3 (fun j hj=>.inl hj)) q3 rfl rfl rfl rfl
           · have k2:¬ r.kind = 2:=by simpa using hc
             refine AW_seq ?_
             refine AW_reg [2,3,4,39,62] fun K hK=>?_
             simp [init_eq]
             apply hK;clear hK K
             refine AW_cond' rfl rfl (fun hc=>?_) (fun hc=>?_)
             · have k3:r.kind = 3:=by simpa using hc
               have hA:s.act r = { s with gave:=(if s.mode = 0 then s.high else s.gave),mode:=2 }:=by unfold SSt.act; rw [if_neg k1]; rw [if_neg k2]; rw [if_pos k3]
               refine AW_seq ?_
               refine AW_seq ?_
               refine AW_reg [2,4,66] fun K hK=>?_
               simp [init_eq,aload,afieldAddr,ds.st,ds.rc,SSt.take,SRec.certC,SRec.parC,SRec.certU,take_cells]
               apply hK;clear hK K
               refine AW_cond' rfl rfl (fun hc2=>?_) (fun hc2=>?_)
               · have h0:s.mode = 0:=by simpa using hc2
                 rw [if_pos h0] at hA
                 obtain ⟨G2,a2,q2,w2⟩:=stF (P:=Tryz.prog) (t:=24) (o:=13) (x:=.agg s.high.cells) ds.st rfl qsize_24 (by simp)
                 rw [SSt.w13] at q2
                 obtain ⟨G3,a3,q3,w3⟩:=stF (P:=Tryz.prog) (t:=3) (o:=2) (x:=.i .i64 2) q2 rfl qsize_3 (by simp)
                 rw [SSt.w2] at q3
                 refine AW_reg [2,4] fun K hK=>?_
                 simp [init_eq,aload,afieldAddr,ds.st,ds.rc,SSt.take,SRec.certC,SRec.parC,SRec.certU,take_cells,a2]
                 apply hK;clear hK K
                 refine AW_reg [2,4] fun K hK=>?_
                 simp [init_eq,aload,afieldAddr,ds.st,ds.rc,SSt.take,SRec.certC,SRec.parC,SRec.certU,take_cells,a3]
                 refine hK _ _ (bend (rend ⟨_,by simp,rfl,fv,hv,pv,bv,B,?_⟩))
                 rw [hA]
                 exact ds.step (w2.trans w3 (fun j hj=>.inl hj)) q3 rfl rfl rfl rfl
               · have h0:¬ s.mode = 0:=by simpa using hc2
                 rw [if_neg h0] at hA
                 obtain ⟨G2,a2,q2,w2⟩:=stF (P:=Tryz.prog) (t:=3) (o:=2) (x:=.i .i64 2) ds.st rfl qsize_3 (by simp)
                 rw [SSt.w2] at q2
                 refine AW_skip ?_
                 refine AW_reg [2,4] fun K hK=>?_
                 simp [init_eq,aload,afieldAddr,ds.st,ds.rc,SSt.take,SRec.certC,SRec.parC,SRec.certU,take_cells,a2]
                 refine hK _ _ (bend (rend ⟨_,by simp,rfl,fv,hv,pv,bv,B,?_⟩))
                 rw [hA]
                 exact ds.step w2 q2 rfl rfl rfl rfl
             · have k3:¬ r.kind = 3:=by simpa using hc
               refine AW_seq ?_
               refine AW_reg [2,3,4,39,71] fun K hK=>?_
               simp [init_eq]
               apply hK;clear hK K
               refine AW_cond' rfl rfl (fun hc=>?_) (fun hc=>?_)
               · have k4:r.kind = 4:=by simpa using hc
                 have hA:s.act r = (if showsC r.parent r.cert && decide (((s.fallen r).head r.parent.author).height < r.parent.height) then { s.fallen r with heads:=putC s.heads r.parent } else s.fallen r):=by unfold SSt.act; rw [if_neg k1]; rw [if_neg k2]; rw [if_neg k3]; rw [if_pos k4]
                 have hcr:=rng.certs (by rw [k4]; rfl)
                 have hau:=(Cert.rng hcr.1).author
                 have hau2:=(Cert.rng hcr.2).author
                 have okf:(s.fallen r).Ok (k + 1):={ ok.mono (Nat.le_succ k) with fs:=putC_sorted ok.fs,fr:=putC_range ok.fr hau,fl:=by have:=putC_len r.cert.plain s.falls; have:=ok.fl; show (putC s.falls r.cert.plain).length ≤ k + 1; omega }
                 refine AW_cut (fun ρ' X=>ρ' = ⟨145,[(2,.p (some (H.next,0,0))),(3,.p (some (H.next + 1,0,0))),(4,.p (some (H.next + 2,0,0)))]⟩ ∧ ∃ fv B,DS H X (s.fallen r) r fv hv pv bv B) ?_ ?_
                 · refine AW_regd [2,3,4] pl_19_19 pe_19_19 (by kernel_rfl) (by kernel_rfl) (by decide) fun K hK=>?_
                   simp [init_eq,pl_19_19,aload,afieldAddr,ds.st,ds.rc,SSt.take,SRec.certC,SRec.parC,SRec.certU,take_cells]
                   refine ACalls.mono (plain_ok G r.cert) fun v G' ⟨hv',e⟩=>?_
                   subst hv'
                   rw [e]
                   try (refine ⟨AH.ext.refl _,?_⟩)
                   refine ACalls.mono (sput_ok G sat.falls (by omega) ok.fs ok.fr r.cert.plain hau) fun v G2 hF=>?_
                   obtain ⟨F,oF,uF,fF⟩:=id hF
                   try (refine ⟨uF.ext,?_⟩)
                   obtain ⟨G3,a3,q3,w3⟩:=stF (P:=Tryz.prog) (t:=37) (o:=21) (x:=v) (uF.keep (by simp) ds.st) oF.cells qsize_37 (by simp)
                   rw [SSt.w21] at q3
                   simp [a3]
                   exact hK _ _ (rend ⟨_,by simp,rfl,v,B,ds.falls hF w3 q3 rfl rfl rfl rfl⟩)
                 · rintro ρ' X ⟨rfl,fv,B,dx⟩
                   refine AW_seq ?_
                   refine AW_reg [2,3,4,8] fun K hK=>?_
                   simp [init_eq,aload,afieldAddr,dx.rc,SRec.parC,V.cells]
                   refine ⟨_,cert_store (AH.get_new_same ..) rfl _,?_⟩
                   obtain ⟨N,eN,hcN,hnN,hoN⟩:=boxS X Cert.zero.cells r.parent.cells
                   rw [eN]
                   apply hK;clear hK K
                   have dn:=dx.upd (M:=N) ⟨by omega,fun j hj _=>hoN j hj⟩
                   refine AW_seq ?_
                   have hsat:=dn.sat
                   refine AW_regdto [2,4,8,95] pl_19_21 pe_19_21 ⟨145,[(2,.p (some (H.next,0,0))),(4,.p (some (H.next + 2,0,0))),(8,.p (some (X.next,0,0))),(95,.b (showsC r.parent r.cert && decide (((s.fallen r).head r.parent.author).height < r.parent.height)))]⟩ N (by kernel_rfl) (by kernel_rfl) (by decide) (fun K hk=>?_) ?_
                   · simp [init_eq,pl_19_21,aload,afieldAddr,hcN,dn.st,dn.rc,SRec.certC,SRec.certU,take_cells,SSt.take]
                     refine ACalls.mono (shows_ok N r.parent r.cert) fun v N' ⟨hv',e⟩=>?_
                     subst hv'
                     rw [e]
                     refine ⟨AH.ext.refl _,?_⟩
                     cases hs:showsC r.parent r.cert
                     · simpa [init_eq,aload,afieldAddr,hcN,dn.st,dn.rc,SRec.certC,SRec.certU,take_cells,SSt.take,hs] using hk
                     · simp [init_eq,aload,afieldAddr,hcN,dn.st,dn.rc,SRec.certC,SRec.certU,take_cells,SSt.take,hs]
                       refine ACalls.mono (head_ok N hsat okf (by omega) r.parent.author) fun v N' ⟨hv',e⟩=>?_
                       subst hv'
                       rw [e]
                       try (refine ⟨AH.ext.refl _,?_⟩)
                       simpa [cert_height,hs] using hk
                   refine AW_cond' rfl rfl (fun hc2=>?_) (fun hc2=>?_)
                   · rw [if_pos hc2] at hA
                     refine AW_reg [2,4] fun K hK=>?_
                     simp [init_eq,aload,afieldAddr,hcN,dn.st,dn.rc,take_cells]
                     refine ACalls.mono (sput_ok N hsat.heads (by show s.heads.length ≤ _; omega) ok.hs ok.hr r.parent hau2) fun v G2 hF=>?_
                     obtain ⟨F,oF,uF,fF⟩:=id hF
                     obtain ⟨G3,a3,q3,w3⟩:=stF (P:=Tryz.prog) (t:=37) (o:=22) (x:=v) (uF.keep (by simp) dn.st) oF.cells qsize_37 (by simp)
                     rw [SSt.w22] at q3
                     simp [a3]
                     refine hK _ _ (bend (rend ⟨_,by simp,rfl,fv,v,pv,bv,B,?_⟩))
                     rw [hA]
                     exact dn.heads hF w3 q3 rfl rfl rfl rfl
                   · rw [if_neg (by simp [hc2])] at hA
                     refine AW_skip (bend (rend ⟨_,by simp,rfl,fv,hv,pv,bv,B,?_⟩))
                     rw [hA]
                     exact dn
               · have k4:¬ r.kind = 4:=by simpa using hc
                 refine AW_seq ?_
                 refine AW_reg [2,3,4,39,101] fun K hK=>?_
                 simp [init_eq]
                 apply hK;clear hK K
                 refine AW_cond' rfl rfl (fun hc=>?_) (fun hc=>?_)
                 · have k5:r.kind = 5:=by simpa using hc
                   have hA:s.act r = { s with high:=r.cert }:=by unfold SSt.act; rw [if_neg k1]; rw [if_neg k2]; rw [if_neg k3]; rw [if_neg k4]; rw [if_pos k5]
                   obtain ⟨G2,a2,q2,w2⟩:=stF (P:=Tryz.prog) (t:=24) (o:=5) (x:=.agg r.cert.cells) ds.st rfl qsize_24 (by simp)
                   rw [SSt.w5] at q2
                   refine AW_reg [2,4] fun K hK=>?_
                   simp [init_eq,aload,afieldAddr,ds.st,ds.rc,SSt.take,SRec.certC,SRec.parC,SRec.certU,take_cells,a2]
                   refine hK _ _ (bend (rend ⟨_,by simp,rfl,fv,hv,pv,bv,B,?_⟩))
                   rw [hA]
                   exact ds.step w2 q2 rfl rfl rfl rfl
                 · have k5:¬ r.kind = 5:=by simpa using hc
                   refine AW_seq ?_
                   refine AW_reg [2,3,4,39,106] fun K hK=>?_
                   simp [init_eq]
                   apply hK;clear hK K
                   refine AW_cond' rfl rfl (fun hc=>?_) (fun hc=>?_)
                   · have k6:r.kind = 6:=by simpa using hc
                     have hA:s.act r = { s with shared:=true }:=by unfold SSt.act; rw [if_neg k1]; rw [if_neg k2]; rw [if_neg k3]; rw [if_neg k4]; rw [if_neg k5]; rw [if_pos k6]
                     obtain ⟨G2,a2,q2,w2⟩:=stF (P:=Tryz.prog) (t:=4) (o:=23) (x:=.b true) ds.st rfl qsize_4 (by simp)
                     rw [SSt.w23] at q2
                     refine AW_reg [2,4] fun K hK=>?_
                     simp [init_eq,aload,afieldAddr,ds.st,ds.rc,SSt.take,SRec.certC,SRec.parC,SRec.certU,take_cells,a2]
                     refine hK _ _ (bend (rend ⟨_,by simp,rfl,fv,hv,pv,bv,B,?_⟩))
                     rw [hA]
                     exact ds.step w2 q2 rfl rfl rfl rfl
                   · have k6:¬ r.kind = 6:=by simpa using hc
                     refine AW_seq ?_
                     refine AW_reg [2,3,4,39,109] fun K hK=>?_
                     simp [init_eq]
                     apply hK;clear hK K
                     refine AW_cond' rfl rfl (fun hc=>?_) (fun hc=>?_)
                     · have k7:r.kind = 7:=by simpa using hc
                       have hA:s.act r = s.leave r:=by unfold SSt.act; rw [if_neg k1]; rw [if_neg k2]; rw [if_neg k3]; rw [if_neg k4]; rw [if_neg k5]; rw [if_neg k6]; rw [if_pos k7]
                       refine AW_seq ?_
                       refine AW_reg [4,5] fun K hK=>?_
                       simp [init_eq,aload,afieldAddr,ds.st,ds.rc,SSt.take,SRec.certC,SRec.parC,SRec.certU,take_cells]
                       refine ACalls.mono (leave_ok G ds.rc sat ok (by omega)) fun v G2 ⟨pv',bv',hv',⟨F1,F2,y1,y2,l1,l2⟩,u2⟩=>?_
                       subst hv'
                       obtain ⟨Y,aY,qY,wY⟩:=stF (P:=Tryz.prog) (t:=42) (o:=0) (x:=.agg ((s.leave r).cells nilV nilV pv' bv')) (xl:=(s.leave r).cells nilV nilV pv' bv') (u2.keep (by simp) ds.res) rfl qsize_42 (by show 0 + 32 ≤ 32; decide)
                       rw [SSt.wall _ _ _ _ _ zeroS rfl] at qY
                       have nG:=ds.nx
                       simp [aY]
                       apply hK;clear hK K
                       have z1:=y1.upd wY (fun j hj h=>by have:=l1 j hj; simp at h; omega)
                       have z2:=y2.upd wY (fun j hj h=>by have:=l2 j hj; simp at h; omega)
                       rw [hA]
                       exact AW_ret (end_ret (ares_cell_tmp (v:=.agg ((s.leave r).cells nilV nilV pv' bv')) (by simp [aload,qY,SSt.take])) ⟨nilV,nilV,pv',bv',rfl,⟨own_nil ..,own_nil ..,⟨F1,z1,fun j hj=>by have:=l1 j hj; omega⟩,⟨F2,z2,fun j hj=>by have:=l2 j hj; omega⟩⟩,(ds.u.trans u2 (by simp)).trans wY (fun j hj=>.inr (by simp at hj; omega))⟩)
                     · have k7:¬ r.kind = 7:=by simpa using hc
                       refine AW_seq ?_
                       refine AW_reg [2,3,4,39,113] fun K hK=>?_
                       simp [init_eq]
                       apply hK;clear hK K
                       refine AW_cond' rfl rfl (fun hc=>?_) (fun hc=>?_)
                       · have k8:r.kind = 8:=by simpa using hc
                         have hA:s.act r = { s with count:=r.count,tip:=r.block }:=by unfold SSt.act; rw [if_neg k1]; rw [if_neg k2]; rw [if_neg k3]; rw [if_neg k4]; rw [if_neg k5]; rw [if_neg k6]; rw [if_neg k7]; rw [if_pos k8]
                         obtain ⟨G2,a2,q2,w2⟩:=stF (P:=Tryz.prog) (t:=3) (o:=29) (x:=.i .i64 r.count) ds.st rfl qsize_3 (by simp)
                         rw [SSt.w29] at q2
                         obtain ⟨G3,a3,q3,w3⟩:=stF (P:=Tryz.prog) (t:=3) (o:=30) (x:=.i .i64 r.block) q2 rfl qsize_3 (by simp)
                         rw [SSt.w30] at q3
                         refine AW_reg [2,4] fun K hK=>?_
                         simp [init_eq,aload,afieldAddr,ds.st,ds.rc,SSt.take,SRec.certC,SRec.parC,SRec.certU,take_cells,a2,a3]
                         refine hK _ _ (bend (rend ⟨_,by simp,rfl,fv,hv,pv,bv,B,?_⟩))
                         rw [hA]
                         exact ds.step (w2.trans w3 (fun j hj=>.inl hj)) q3 rfl rfl rfl rfl
                       · have k8:¬ r.kind = 8:=by simpa using hc
                         refine AW_seq ?_
                         refine AW_reg [2,3,4,39,121] fun K hK=>?_
                         simp [init_eq]
                         apply hK;clear hK K
                         refine AW_cond' rfl rfl (fun hc=>?_) (fun hc=>?_)
                         · have k9:r.kind = 9:=by simpa using hc
                           have hA:s.act r = s.setOwn (parseBlk r.text).1.height r.text:=by unfold SSt.act; rw [if_neg k1]; rw [if_neg k2]; rw [if_neg k3]; rw [if_neg k4]; rw [if_neg k5]; rw [if_neg k6]; rw [if_neg k7]; rw [if_neg k8]; rw [if_pos k9]
                           have hpk:(parseBlk r.text).2 = 0:=form_text hf (by rw [k9]; rfl)
                           have hh:=(Blk.rng (parseBlk_inv hpk).1).height
                           refine AW_seq ?_
                           refine AW_reg [2,3,4,9] fun K hK=>?_
                           simp [init_eq,aload,afieldAddr,ds.st,ds.rc,SSt.take,SRec.certC,SRec.parC,SRec.certU,take_cells]
                           refine ACalls.mono (parse_ok G r.text hl) fun v G1 ⟨pv1,tv1,hr,ha1,u2⟩=>?_
                           subst hr
                           simp [V.cells]
                           refine ⟨_,blk_store G1 _ pv1 tv1 _ rfl,?_⟩
                           obtain ⟨M1,e2,p1,n1,ho2⟩:=boxS G1 [V.i .i64 0,.i .i64 0,.i .i64 0,.i .i64 0,.i .i64 0,.i .i64 0,.i .i64 0,.i .i64 0,.i .i64 0,.i .i64 0,u32 0#32,u32 0#32,.sl none 0 false,.sl none 0 false] ((parseBlk r.text).1.cells pv1 tv1)
                           rw [e2]
                           have uM:Upd G M1 []:=u2.trans (G:=[]) ⟨by omega,fun j hj _=>ho2 j hj⟩ (by simp)
                           have dm:=ds.upd uM
                           apply hK;clear hK K
                           obtain ⟨G3,a3,q3,w3⟩:=stF (P:=Tryz.prog) (t:=9) (o:=24 + (parseBlk r.text).1.height.toNat) (x:=.s r.text) dm.st rfl qsize_9 (by simp; omega)
                           rw [setOwn_splice s fv hv pv bv hh] at q3
                           refine AW_reg [2,4] fun K hK=>?_
                           simp [init_eq,aload,afieldAddr,dm.st,dm.rc,p1,own_addr hh,a3]
                           have hso:=setOwn_falls s (parseBlk r.text).1.height r.text
                           refine hK _ _ (bend (rend ⟨_,by simp,rfl,fv,hv,pv,bv,B,?_⟩))
                           rw [hA]
                           exact dm.step w3 q3 hso.1 hso.2.1 hso.2.2.1 hso.2.2.2
                         · have k9:¬ r.kind = 9:=by simpa using hc
                           refine AW_seq ?_
                           refine AW_reg [2,3,4,135] fun K hK=>?_
                           simp [init_eq]
                           apply hK;clear hK K
                           refine AW_cond' rfl rfl (fun hc=>?_) (fun hc=>?_)
                           · have k10:r.kind = 10:=by simpa using hc
                             have hA:s.act r = { s with blocks:=s.blocks ++ [r.text] }:=by unfold SSt.act; rw [if_neg k1]; rw [if_neg k2]; rw [if_neg k3]; rw [if_neg k4]; rw [if_neg k5]; rw [if_neg k6]; rw [if_neg k7]; rw [if_neg k8]; rw [if_neg k9]
                             obtain ⟨G1,v',G2,B2,e2,e3,o2,u2,f2⟩:=Own.pushR (f:=strC) appStr qelem_40 qsize_9 qzero_9 rfl (by simp) (by decide) ds.ob (fun _=>rfl) (x:=.s r.text) r.text rfl (by simp [roomOk]; omega)
                             have hnB:H.next ∉ B:=fun h=>by have:=ds.lb _ h; omega
                             obtain ⟨G3,a3,q3,w3⟩:=stF (P:=Tryz.prog) (t:=40) (o:=31) (x:=v') (u2.keep hnB ds.st) o2.cells qsize_40 (by simp)
                             rw [SSt.w31] at q3
                             have uu:Upd G G3 (H.next :: B):=(u2.mono (by intro j hj; simp [hj])).trans (w3.mono (by simp)) (fun j hj=>.inl hj)
                             have nG:=ds.nx
                             refine AW_reg [2,4] fun K hK=>?_
                             simp [init_eq,aload,afieldAddr,ds.st,ds.rc,SSt.take,SRec.certC,SRec.parC,SRec.certU,take_cells,e2,e3,a3]
                             refine hK _ _ (bend (rend ⟨_,by simp,rfl,fv,hv,pv,v',B2,?_⟩))
                             rw [hA]
                             have hC:∀ j ∈ H.next :: B,j ∈ B ∨ j = H.next:=fun j hj=>(List.mem_cons.1 hj).elim .inr .inl
                             refine ⟨q3,uu.keep (fun h=>by rcases List.mem_cons.1 h with h | h; omega; have:=ds.lb _ h; omega) ds.rc,uu.keep (fun h=>by rcases List.mem_cons.1 h with h | h; omega; have:=ds.lb _ h; omega) ds.res,ds.of.step uu hC f2,ds.oh.step uu hC f2,ds.op.step uu hC f2,?_,fun j hj=>?_,?_⟩
                             · exact o2.upd w3 (fun j hj h=>by simp at h; subst h; rcases f2 _ hj with h | h; exact hnB h; omega)
                             · rcases f2 j hj with h | h; exact ds.lb j h; omega
                             · exact ds.u.trans uu (fun j hj=>.inr (by rcases List.mem_cons.1 hj with h | h; omega; have:=ds.lb _ h; omega))
                           · have k10:¬ r.kind = 10:=by simpa using hc
                             exact absurd rng.kind (by omega)
       · rintro ρ' X ⟨rfl,fv,hv,pv,bv,B,dx⟩
         obtain ⟨Y,aY,qY,wY⟩:=stF (P:=Tryz.prog) (t:=42) (o:=0) (x:=.agg ((s.act r).cells fv hv pv bv)) (xl:=(s.act r).cells fv hv pv bv) dx.res rfl qsize_42 (by show 0 + 32 ≤ 32; decide)
         rw [SSt.wall _ _ _ _ _ zeroS rfl] at qY
         have nX:=dx.nx
         have uX:=dx.u
         have h2:∀ {v:V} {sz:Nat} {cs:List V},OB H X B v sz cs → ∃ F,Own Y v sz cs F ∧ ∀ j ∈ F,H.next ≤ j:=fun {v sz cs} ⟨F,o,l⟩=>⟨F,o.upd wY (fun j hj h=>by have:=(l j hj).1; simp at h; omega),fun j hj=>by have:=(l j hj).1; omega⟩
         have y1:=h2 dx.of
         have y2:=h2 dx.oh
         have y3:=h2 dx.op
         have y4:=dx.ob.upd wY (fun j hj h=>by have:=dx.lb j hj; simp at h; omega)
         refine AW_seq ?_
         refine AW_reg [4,5] fun K hK=>?_
         simp [init_eq,aload,dx.st,SSt.take,aY]
         apply hK;clear hK K
         exact AW_ret (end_ret (ares_cell_tmp (v:=.agg ((s.act r).cells fv hv pv bv)) (by simp [aload,qY,SSt.take])) ⟨fv,hv,pv,bv,rfl,⟨y1,y2,y3,⟨B,y4,fun j hj=>by have:=dx.lb j hj; omega⟩⟩,uX.trans wY (fun j hj=>.inr (by simp at hj; omega))⟩)
end Go.Proofs.YtaidfojbnfkclaaGreatDoor
