/-
  The document's Do: a record. (Printed by gen_rdo1.py.)
-/
import Derived.Test.YtaidfojbnfkclaaGreatDoorRDo0
import Derived.Test.YtaidfojbnfkclaaGreatDoorSafe5
set_option linter.unusedVariables false
set_option linter.unusedSimpArgs false
namespace Go.Proofs.YtaidfojbnfkclaaGreatDoor
open Go Go.Abs Go.Proofs
set_option maxRecDepth 100000
attribute [local irreducible] AEnd AW ACalls
def RSt.fall (s:RSt) (a:Int):Cert:=s.falls.getD a.toNat Cert.zero
def RSt.head (s:RSt) (a:Int):Cert:=s.heads.getD a.toNat Cert.zero
def RSt.ownErr (s:RSt) (r:SRec):Int :=
 if (parseBlk r.text).1.view ≠ s.view then 210 else if 0 < (parseBlk r.text).1.height ∧ (parseBlk (s.ownAt (parseBlk r.text).1.height)).2 = 0 then 220
 else if (parseBlk r.text).1.height = 0 ∧ (parseBlk (s.ownAt (parseBlk r.text).1.height)).2 = 0 ∧ (parseBlk r.text).1.round ≤ (parseBlk (s.ownAt (parseBlk r.text).1.height)).1.round then 211 else 0
def RSt.errE (s:RSt) (r:SRec):Int :=
 if r.kind = 1 then (if s.mode ≠ 0 then 213 else if r.cert.view ≠ s.view then 210 else if r.cert.round ≤ s.round ∨ r.cert.round ≠ r.parent.round + 1 then 211 else if cmpC r.parent s.high < 0 then 212 else 0) else
 if r.kind = 2 then (if s.mode ≠ 0 then 213 else 0) else
 if r.kind = 3 then (if s.mode = 2 then 213 else 0) else
 if r.kind = 4 then (if s.mode ≠ 2 then 213 else if r.cert.view ≠ s.view then 210 else if r.cert.height ≤ (s.fall r.cert.author).height then 220 else 0) else
 if r.kind = 5 then (if cmpC r.cert s.high ≤ 0 then 212 else 0) else
 if r.kind = 6 then (if s.mode ≠ 2 then 213 else if s.shared = true then 100 else 0) else
 if r.kind = 7 then (if s.last ≤ s.view then 230 else 0) else
 if r.kind = 8 then (if r.count ≤ s.count then 151 else 0) else
 if r.kind = 9 then s.ownErr r else
 (if r.text ∈ s.blocks then 100 else 0)
def RSt.fallen (s:RSt) (r:SRec):RSt:={ s with falls:=s.falls.set r.cert.author.toNat { r.cert with signers:=0#32 } }
def rshows (p c:Cert):Bool:=decide (p.kind = 2) && decide (p.coin = 0#32) && decide (p.view = c.view) && decide (p.author = c.author)
def RSt.leave (s:RSt) (r:SRec):RSt :=
 { RSt.zero with last:=s.last,view:=s.view + 1,high:=(if (s.head r.author).kind = 2 then maxC s.high { s.head r.author with coin:=r.set } else s.high),past:=s.past ++ [r.set],count:=s.count,tip:=s.tip,blocks:=s.blocks }
def RSt.act (s:RSt) (r:SRec):RSt :=
 if r.kind = 1 then { s with round:=r.cert.round,block:=r.cert.block,high:=maxC s.high r.parent } else
 if r.kind = 2 then { s with mode:=1,gave:=s.high } else
 if r.kind = 3 then { s with gave:=(if s.mode = 0 then s.high else s.gave),mode:=2 } else
 if r.kind = 4 then (if rshows r.parent r.cert && decide ((s.head r.cert.author).height < r.parent.height) then { s.fallen r with heads:=s.heads.set r.cert.author.toNat r.parent } else s.fallen r) else
 if r.kind = 5 then { s with high:=r.cert } else
 if r.kind = 6 then { s with shared:=true } else
 if r.kind = 7 then s.leave r else
 if r.kind = 8 then { s with count:=r.count,tip:=r.block } else
 if r.kind = 9 then s.setOwn (parseBlk r.text).1.height r.text else
 { s with blocks:=s.blocks ++ [r.text] }
def RSt.doR (s:RSt) (r:SRec):RSt × Int:=if r.form ≠ 0 then (RSt.zero,r.form) else if s.errE r ≠ 0 then (RSt.zero,s.errE r) else (s.act r,0)
/-- A slice of one's own, away from some objects. -/
def OXR (G:AH) (B:List Nat) (v:V) (sz:Nat) (cs:List V):Prop:=∃ F,Own G v sz cs F ∧ ∀ j ∈ F,j ∉ B
theorem OXR.step {G M:AH} {B C:List Nat} {v:V} {sz:Nat} {cs:List V} (h:OXR G B v sz cs) (u:Upd G M C) (hC:∀ j ∈ C,j ∈ B ∨ G.next ≤ j) {B':List Nat} (hB:∀ j ∈ B',j ∈ B ∨ G.next ≤ j):OXR M B' v sz cs:=by
 obtain ⟨F,h1,h2⟩:=h
 refine ⟨F,h1.upd u (fun j hj h=>?_),fun j hj h=>?_⟩
 · rcases hC j h with h | h
   · exact h2 j hj h
   · have:=h1.lt j hj; omega
 · rcases hB j h with h | h
   · exact h2 j hj h
   · have:=h1.lt j hj; omega
theorem OXR.less {G:AH} {B B':List Nat} {v:V} {sz:Nat} {cs:List V} (h:OXR G B v sz cs) (hB:∀ j ∈ B',j ∈ B):OXR G B' v sz cs:=by
 obtain ⟨F,h1,h2⟩:=h
 exact ⟨F,h1,fun j hj h=>h2 j hj (hB j h)⟩
def zeroR:List V:=RSt.zero.cells nilV nilV
theorem bzR:abuild Tryz.prog 45 [] = some (.agg zeroR):=by first | (simp [abuild,afill]; done) | (simp [abuild,afill]; rfl)
theorem zeroR_len:zeroR.length = 190:=rfl
theorem rs_store {M:AH} {q:Nat} {l:List V} (hq:M.get q = some (.cells l 0 false 0)) (hl:l.length = 190) {s:RSt} (w:s.Wf) (pv bv:V):astore Tryz.prog M 45 (.p (some (q,0,0))) (.agg (s.cells pv bv)) = some (M.set q (.cells (s.cells pv bv) 0 false 0)):=by
 have h1:(s.cells pv bv).length = 190:=RSt.len w
 simp [astore,V.cells,hq,show splice l 0 (s.cells pv bv) = s.cells pv bv from splice_all (by rw [hl,h1]),hl,h1]
theorem arr_addr {id o:Nat} {a:Int} (h:0 ≤ a ∧ a ≤ 9):aindexAddr Tryz.prog 43 (.p (some (id,0,o))) (.i .i64 a) = some (.p (some (id,0,o + a.toNat * 8))):=by
 simp [aindexAddr]; omega
theorem own4_addr {id:Nat} {a:Int} (h:0 ≤ a ∧ a ≤ 3):aindexAddr Tryz.prog 38 (.p (some (id,0,182))) (.i .i64 a) = some (.p (some (id,0,182 + a.toNat))):=by
 simp [aindexAddr]; omega
theorem copyStr {M:AH} {v0 old:V} {F0:List Nat} {xs:List (List V)} (o:Own M v0 1 [] F0) (hr:RS M old 1 xs) (hl:xs.length ≤ 10000000) :
  ∃ v1 M1 F1,aappend Tryz.prog M 40 40 v0 old = some (v1,M1) ∧ Own M1 v1 1 xs.flatten F1 ∧ Upd M M1 F0 ∧ ∀ j ∈ F1,j ∈ F0 ∨ M.next ≤ j:=by
 simpa using o.append appStr (hr.source (P:=Tryz.prog) (by decide)) (flatten_len xs hr.1) (by simp [roomOk]; omega)
theorem moreStr {M:AH} {v1:V} {F1:List Nat} {ts:List (List UInt8)} {x:Nat} {t:List UInt8} (o:Own M v1 1 (ts.map strC).flatten F1) (hx:M.get x = some (.cells [.s t] 0 false 1)) (hl:ts.length ≤ 10000000) :
  ∃ v2 M2 F2,aappend Tryz.prog M 40 40 v1 (.sl (some (x,0,0)) 1 false) = some (v2,M2) ∧ Own M2 v2 1 ((ts ++ [t]).map strC).flatten F2 ∧ Upd M M2 F1 ∧ ∀ j ∈ F2,j ∈ F1 ∨ M.next ≤ j:=by
 have hs:asource Tryz.prog M 1 (.sl (some (x,0,0)) 1 false) = some ([.s t],1):=by simp [asource,hx]
 have:=o.append appStr hs (by simp) (by rw [flatten_len (sz:=1) (ts.map strC) (fun l hl=>by obtain ⟨y,_,rfl⟩:=List.mem_map.1 hl; rfl)]; simp [roomOk]; omega)
 simpa [strC] using this
theorem copySet {M:AH} {v0 old:V} {F0:List Nat} {xs:List (List V)} (o:Own M v0 1 [] F0) (hr:RS M old 1 xs) (hl:xs.length ≤ 10000000) :
  ∃ v1 M1 F1,aappend Tryz.prog M 39 39 v0 old = some (v1,M1) ∧ Own M1 v1 1 xs.flatten F1 ∧ Upd M M1 F0 ∧ ∀ j ∈ F1,j ∈ F0 ∨ M.next ≤ j:=by
 simpa using o.append appSet (hr.source (P:=Tryz.prog) (by decide)) (flatten_len xs hr.1) (by simp [roomOk]; omega)
theorem moreSet {M:AH} {v1:V} {F1:List Nat} {ts:List (BitVec 32)} {x:Nat} {t:BitVec 32} (o:Own M v1 1 (ts.map setC).flatten F1) (hx:M.get x = some (.cells [u32 t] 0 false 1)) (hl:ts.length ≤ 10000000) :
  ∃ v2 M2 F2,aappend Tryz.prog M 39 39 v1 (.sl (some (x,0,0)) 1 false) = some (v2,M2) ∧ Own M2 v2 1 ((ts ++ [t]).map setC).flatten F2 ∧ Upd M M2 F1 ∧ ∀ j ∈ F2,j ∈ F1 ∨ M.next ≤ j:=by
 have:=o.append appSet (set_src hx) (by simp) (by rw [flatten_len (sz:=1) (ts.map setC) (fun l hl=>by obtain ⟨y,_,rfl⟩:=List.mem_map.1 hl; rfl)]; simp [roomOk]; omega)
 simpa [setC] using this
/-- The memory of the document's Do. -/
structure RN (H X:AH) (B:List Nat) (s n:RSt) (r:SRec) (c:Cert) (pv bv pv' bv':V):Prop where
 gs:X.get H.next = some (.cells (s.cells pv bv) 0 false 0)
 gr:X.get (H.next + 1) = some (.cells r.cells 0 false 0)
 gz:X.get (H.next + 2) = some (.cells zeroR 0 false 0)
 gc:X.get (H.next + 3) = some (.cells c.cells 0 false 0)
 gn:X.get (H.next + 4) = some (.cells (n.cells pv' bv') 0 false 0)
 wf:n.Wf
 op:OXR X ([H.next,H.next + 1,H.next + 2,H.next + 3,H.next + 4] ++ B) pv' 1 (n.past.map setC).flatten
 ob:OXR X ([H.next,H.next + 1,H.next + 2,H.next + 3,H.next + 4] ++ B) bv' 1 (n.blocks.map strC).flatten
 u:Upd H X []
section
variable {H X M:AH} {B:List Nat} {s n n':RSt} {r:SRec} {c c':Cert} {pv bv pv' bv':V}
theorem RN.step (d:RN H X B s n r c pv bv pv' bv') (u:Upd X M [H.next + 4]) (hM:M.get (H.next + 4) = some (.cells (n'.cells pv' bv') 0 false 0)) (w:n'.Wf) (h1:n'.past = n.past) (h2:n'.blocks = n.blocks):RN H M B s n' r c pv bv pv' bv' :=
 ⟨u.keep (by simp) d.gs,u.keep (by simp) d.gr,u.keep (by simp) d.gz,u.keep (by simp) d.gc,hM,w,by rw [h1]; exact d.op.step u (by simp) (fun j h=>.inl h),by rw [h2]; exact d.ob.step u (by simp) (fun j h=>.inl h),d.u.trans u (fun j hj=>.inr (by simp at hj; omega))⟩
theorem RN.cert (d:RN H X B s n r c pv bv pv' bv') (u:Upd X M [H.next + 3]) (hM:M.get (H.next + 3) = some (.cells c'.cells 0 false 0)):RN H M B s n r c' pv bv pv' bv' :=
 ⟨u.keep (by simp) d.gs,u.keep (by simp) d.gr,u.keep (by simp) d.gz,hM,u.keep (by simp) d.gn,d.wf,d.op.step u (by simp) (fun j h=>.inl h),d.ob.step u (by simp) (fun j h=>.inl h),d.u.trans u (fun j hj=>.inr (by simp at hj; omega))⟩
theorem RN.upd (d:RN H X B s n r c pv bv pv' bv') (u:Upd X M []):RN H M B s n r c pv bv pv' bv' :=
 d.step (u.mono (by simp)) (u.keep (by simp) d.gn) d.wf rfl rfl
end
set_option maxHeartbeats 8000000 in
theorem rdo_ok (H:AH) {s:RSt} {pv bv:V} {r:SRec} {B:List Nat} (sw:s.Wf) (hp:OXR H B pv 1 (s.past.map setC).flatten) (hb:OXR H B bv 1 (s.blocks.map strC).flatten) (hB:∀ j ∈ B,j < H.next)
  (hv:-4611686018427387904 ≤ s.view ∧ s.view ≤ 4611686018427387904) (hpl:s.past.length ≤ 10000000) (hbl:s.blocks.length ≤ 10000000) (hl:r.text.length ≤ 100000000000) :
  ACalls Tryz.prog 35 [.agg (s.cells pv bv),.agg r.cells] H fun v H'=>∃ pv' bv',v = .tup [.agg ((s.doR r).1.cells pv' bv'),.i .i64 (s.doR r).2] ∧ OXR H' B pv' 1 ((s.doR r).1.past.map setC).flatten ∧ OXR H' B bv' 1 ((s.doR r).1.blocks.map strC).flatten ∧ Upd H H' []:=by
 refine ACalls_body Tryz.func35 rfl rfl ?_
 refine AW_seq ?_
 refine AW_reg [2,3,4] fun K hK=>?_
 simp [init_eq,V.cells]
 obtain ⟨H1,e1,hp1,hp2,hp3,hn,ho1⟩:=H.boxed3 (s.cells pv bv) r.cells zeroR
 change K _ (((H.new (.cells (s.cells pv bv) 0 false 0)).new (.cells r.cells 0 false 0)).new (.cells zeroR 0 false 0))
 rw [e1,show H.next + 1 + 1 = H.next + 2 from rfl]
 have u1:Upd H H1 []:=⟨by omega,fun j hj _=>ho1 j hj⟩
 have zs:∀ {X:AH},X.get (H.next + 2) = some (.cells zeroR 0 false 0) → astore Tryz.prog X 45 (.p (some (H.next + 2,0,0))) (.agg zeroR) = some (X.set (H.next + 2) (.cells zeroR 0 false 0)):=fun h=>rs_store h zeroR_len RSt.zero_wf nilV nilV
 have hend0:∀ (X:AH) (e:Int) (ρ:Env),X.get (H.next + 2) = some (.cells zeroR 0 false 0) → Upd H X [] → s.doR r = (RSt.zero,e) → ρ.get 4 = .p (some (H.next + 2,0,0)) → ρ.get 5 = .i .i64 e →
   AEnd Tryz.prog Tryz.f35 (fun v H'=>∃ pv' bv',v = .tup [.agg ((s.doR r).1.cells pv' bv'),.i .i64 (s.doR r).2] ∧ OXR H' B pv' 1 ((s.doR r).1.past.map setC).flatten ∧ OXR H' B bv' 1 ((s.doR r).1.blocks.map strC).flatten ∧ Upd H H' []) .ret ρ (X.set (H.next + 2) (.cells zeroR 0 false 0)):=by
  intro X e ρ g u hd h4 h5
  rw [hd]
  refine end_ret (r:=.tup [.agg zeroR,.i .i64 e]) ?_ ⟨nilV,nilV,rfl,⟨[],Own.nil ..,by simp⟩,⟨[],Own.nil ..,by simp⟩,u.trans (Upd.set X (H.next + 2) _ (F:=[H.next + 2]) (by simp)) (fun j hj=>.inr (by simp at hj; omega))⟩
  have h6:aload Tryz.prog (X.set (H.next + 2) (.cells zeroR 0 false 0)) 45 (ρ.get 4) = some (.agg zeroR):=by
   rw [h4]; simp [aload,AH.get_set_same (AH.get_lt g)]; exact ⟨by decide,rfl⟩
  have:=ares_cell_tmp (P:=Tryz.prog) (u:=5) h6
  rw [h5] at this
  exact this
 refine hK _ H1 ?_; clear hK K
 refine AW_seq ?_
 refine AW_reg [2,3,4,6] fun K hK=>?_
 simp [init_eq,aload,hp2,SRec.take]
 refine ACalls.mono (rform_ok H1 r) fun v H' ⟨hr,e⟩=>?_
 subst hr
 rw [e]
 try simp
 apply hK;clear hK K
 refine AW_seq ?_
 refine AW_seq ?_
 refine AW_reg [2,3,4,6,19] fun K hK=>?_
 simp [init_eq]
 apply hK;clear hK K
 refine AW_cond' rfl rfl (fun hc=>?_) (fun hc=>?_)
 · have hf:r.form ≠ 0:=by simpa using hc
   refine AW_seq ?_
   refine AW_reg [4,5] fun K hK=>?_
   simp [init_eq,bzR,zs hp3]
   apply hK;clear hK K
   exact AW_ret (hend0 _ r.form _ hp3 u1 (by unfold RSt.doR; rw [if_pos hf]) rfl rfl)
 have hf:r.form = 0:=by simpa using hc
 clear hc
 have rng:=SRec.rng hf
 have herr:∀ (X:AH) (e:Int) (ρ:Env),X.get (H.next + 2) = some (.cells zeroR 0 false 0) → Upd H X [] → s.errE r = e → e ≠ 0 → ρ.get 4 = .p (some (H.next + 2,0,0)) → ρ.get 5 = .i .i64 e →
   AEnd Tryz.prog Tryz.f35 (fun v H'=>∃ pv' bv',v = .tup [.agg ((s.doR r).1.cells pv' bv'),.i .i64 (s.doR r).2] ∧ OXR H' B pv' 1 ((s.doR r).1.past.map setC).flatten ∧ OXR H' B bv' 1 ((s.doR r).1.blocks.map strC).flatten ∧ Upd H H' []) .ret ρ (X.set (H.next + 2) (.cells zeroR 0 false 0)) :=
  fun X e ρ g u he h0 h4 h5=>hend0 X e ρ g u (by unfold RSt.doR; rw [if_neg (by simp [hf]),if_pos (by rw [he]; exact h0),he]) h4 h5
 clear hend0
 refine AW_skip ?_
 refine AW_seq ?_
 refine AW_reg [2,3,4,7] fun K hK=>?_
 simp [init_eq,aload,afieldAddr,hp2,SRec.certC,SRec.certU,V.cells]
 refine ⟨_,cert_store (AH.get_new_same ..) rfl _,?_⟩
 obtain ⟨H2,e2,gc2,n2,o2⟩:=boxS H1 Cert.zero.cells r.cert.cells
 rw [e2]
 have u2:Upd H1 H2 []:=⟨by omega,fun j hj _=>o2 j hj⟩
 apply hK;clear hK K
 refine AW_seq ?_
 refine AW_reg [2,3,4,7,8] fun K hK=>?_
 simp [init_eq,aload,u2.keep (by simp) hp1,RSt.take sw,RSt.len sw,V.cells]
 refine ⟨_,rs_store (AH.get_new_same ..) zeroR_len sw pv bv,?_⟩
 obtain ⟨H3,e3,gn3,n3,o3⟩:=boxS H2 zeroR (s.cells pv bv)
 change K _ ((H2.new (.cells zeroR 0 false 0)).set H2.next (.cells (s.cells pv bv) 0 false 0))
 rw [e3]
 have u3:Upd H2 H3 []:=⟨by omega,fun j hj _=>o3 j hj⟩
 have uH3:Upd H H3 []:=(u1.trans u2 (by simp)).trans u3 (by simp)
 have x3:H1.next = H.next + 3:=hn
 have x4:H2.next = H.next + 4:=by omega
 rw [x3] at gc2
 rw [x4] at gn3
 rw [x3,x4]
 have hBB:∀ j ∈ [H.next,H.next + 1,H.next + 2,H.next + 3,H.next + 4] ++ B,j ∈ B ∨ H.next ≤ j:=fun j hj=>by
  rcases List.mem_append.1 hj with h | h
  · right; simp at h; omega
  · exact .inl h
 have dn:RN H H3 B s s r r.cert pv bv pv bv :=
  ⟨u3.keep (by simp) (u2.keep (by simp) hp1),u3.keep (by simp) (u2.keep (by simp) hp2),u3.keep (by simp) (u2.keep (by simp) hp3),u3.keep (by simp) gc2,gn3,sw,hp.step uH3 (by simp) hBB,hb.step uH3 (by simp) hBB,uH3⟩
 clear hp1 hp2 hp3 gc2 gn3
 apply hK;clear hK K
 generalize H3 = G at dn
 have l13:13 ≤ (s.cells pv bv).length:=by rw [RSt.len sw]; decide
 refine AW_cut (fun ρ' X=>ρ' = ⟨324,[(4,.p (some (H.next + 2,0,0))),(8,.p (some (H.next + 4,0,0)))]⟩ ∧ s.errE r = 0 ∧ ∃ c pv' bv',RN H X B s (s.act r) r c pv bv pv' bv') ?_ ?_
 · refine AW_seq ?_
   refine AW_reg [2,3,4,7,8,26] fun K hK=>?_
   simp [init_eq,aload,afieldAddr,dn.gr]
   apply hK;clear hK K
   refine AW_block ?_
   refine AW_seq ?_
   refine AW_reg [2,3,4,7,8,26,27] fun K hK=>?_
   simp [init_eq]
   apply hK;clear hK K
   refine AW_cond' rfl rfl (fun hc=>?_) (fun hc=>?_)
   · have k1:r.kind = 1:=by simpa using hc
     have hE:s.errE r = (if s.mode ≠ 0 then 213 else if r.cert.view ≠ s.view then 210 else if r.cert.round ≤ s.round ∨ r.cert.round ≠ r.parent.round + 1 then 211 else if cmpC r.parent s.high < 0 then 212 else 0):=by unfold RSt.errE; rw [if_pos k1]
     have hA:s.act r = { s with round:=r.cert.round,block:=r.cert.block,high:=maxC s.high r.parent }:=by unfold RSt.act; rw [if_pos k1]
     refine AW_seq ?_
     refine AW_seq ?_
     refine AW_reg [2,3,4,7,8,31] fun K hK=>?_
     simp [init_eq,aload,afieldAddr,dn.gs,dn.gr,dn.gc,RSt.c0,RSt.c1,RSt.c2,RSt.c3,RSt.highC,SRec.parC,SRec.cr,SRec.qr,SRec.cb,take_cells,l13]
     apply hK;clear hK K
     refine AW_cond' rfl rfl (fun hx=>?_) (fun hx=>?_)
     · have y1:s.mode ≠ 0:=by simpa using hx
       refine AW_seq ?_
       refine AW_reg [4,5] fun K hK=>?_
       simp [init_eq,bzR,zs dn.gz]
       apply hK;clear hK K
       exact AW_ret (herr _ 213 _ dn.gz dn.u (by rw [hE,if_pos y1]) (by decide) rfl rfl)
     have y1:s.mode = 0:=by simpa using hx
     refine AW_skip ?_
     refine AW_seq ?_
     refine AW_seq ?_
     refine AW_reg [2,3,4,7,8,37] fun K hK=>?_
     simp [init_eq,aload,afieldAddr,dn.gs,dn.gr,dn.gc,RSt.c0,RSt.c1,RSt.c2,RSt.c3,RSt.highC,SRec.parC,SRec.cr,SRec.qr,SRec.cb,take_cells,l13]
     apply hK;clear hK K
     refine AW_cond' rfl rfl (fun hx=>?_) (fun hx=>?_)
     · have y2:r.cert.view ≠ s.view:=by simpa using hx
       refine AW_seq ?_
       refine AW_reg [4,5] fun K hK=>?_
       simp [init_eq,bzR,zs dn.gz]
       apply hK;clear hK K
       exact AW_ret (herr _ 210 _ dn.gz dn.u (by rw [hE,if_neg (by simp [y1]),if_pos y2]) (by decide) rfl rfl)
     have y2:r.cert.view = s.view:=by simpa using hx
     refine AW_skip ?_
     have hpr:-4611686018427387904 ≤ r.parent.round ∧ r.parent.round ≤ 4611686018427387904:=by have:=(Cert.rng (rng.certs (by rw [k1]; rfl)).2).round; omega
     have hwp:=wrap_id (x:=r.parent.round + 1) (by omega) (by omega)
     refine AW_seq ?_
     refine AW_cutto ⟨324,[(2,.p (some (H.next,0,0))),(3,.p (some (H.next + 1,0,0))),(4,.p (some (H.next + 2,0,0))),(7,.p (some (H.next + 3,0,0))),(8,.p (some (H.next + 4,0,0))),(52,.b (decide (r.cert.round ≤ s.round ∨ r.cert.round ≠ r.parent.round + 1)))]⟩ G ?_ ?_
     · refine AW_regto [2,3,4,7,8,52] ⟨324,[(2,.p (some (H.next,0,0))),(3,.p (some (H.next + 1,0,0))),(4,.p (some (H.next + 2,0,0))),(7,.p (some (H.next + 3,0,0))),(8,.p (some (H.next + 4,0,0))),(52,.b (decide (r.cert.round ≤ s.round ∨ r.cert.round ≠ r.parent.round + 1)))]⟩ G (fun K hk=>?_) (rend ⟨rfl,rfl⟩)
       by_cases h1:r.cert.round ≤ s.round
       · simpa [init_eq,aload,afieldAddr,dn.gs,dn.gr,dn.gc,RSt.c0,RSt.c1,RSt.c2,RSt.c3,RSt.highC,SRec.parC,SRec.cr,SRec.qr,SRec.cb,take_cells,l13,h1,hwp] using hk
       · simpa [init_eq,aload,afieldAddr,dn.gs,dn.gr,dn.gc,RSt.c0,RSt.c1,RSt.c2,RSt.c3,RSt.highC,SRec.parC,SRec.cr,SRec.qr,SRec.cb,take_cells,l13,h1,hwp] using hk
     refine AW_cond' rfl rfl (fun hx=>?_) (fun hx=>?_)
     · have y3:r.cert.round ≤ s.round ∨ r.cert.round ≠ r.parent.round + 1:=by simpa using hx
       refine AW_seq ?_
       refine AW_reg [4,5] fun K hK=>?_
       simp [init_eq,bzR,zs dn.gz]
       apply hK;clear hK K
       exact AW_ret (herr _ 211 _ dn.gz dn.u (by rw [hE,if_neg (by simp [y1]),if_neg (by simp [y2]),if_pos y3]) (by decide) rfl rfl)
     have y3:¬ (r.cert.round ≤ s.round ∨ r.cert.round ≠ r.parent.round + 1):=by simpa using hx
     refine AW_skip ?_
     refine AW_seq ?_
     refine AW_seq ?_
     refine AW_reg [2,3,4,7,8,59] fun K hK=>?_
     simp [init_eq,aload,afieldAddr,dn.gs,dn.gr,dn.gc,RSt.c0,RSt.c1,RSt.c2,RSt.c3,RSt.highC,SRec.parC,SRec.cr,SRec.qr,SRec.cb,take_cells,l13]
     refine ACalls.mono (rcmp_ok G r.parent s.high) fun v G' ⟨hr,e⟩=>?_
     subst hr
     rw [e]
     try simp
     apply hK;clear hK K
     refine AW_cond' rfl rfl (fun hx=>?_) (fun hx=>?_)
     · have y4:cmpC r.parent s.high < 0:=by simpa using hx
       refine AW_seq ?_
       refine AW_reg [4,5] fun K hK=>?_
       simp [init_eq,bzR,zs dn.gz]
       apply hK;clear hK K
       exact AW_ret (herr _ 212 _ dn.gz dn.u (by rw [hE,if_neg (by simp [y1]),if_neg (by simp [y2]),if_neg y3,if_pos y4]) (by decide) rfl rfl)
     have y4:¬ cmpC r.parent s.high < 0:=by simpa using hx
     refine AW_skip ?_
     obtain ⟨G2,a2,q2,w2⟩:=stF (P:=Tryz.prog) (t:=3) (o:=3) (x:=.i .i64 r.cert.round) dn.gn rfl qsize_3 (by first | (simp; done) | (rw [RSt.len dn.wf]; simp))
     rw [RSt.w3] at q2
     obtain ⟨G3,a3,q3,w3⟩:=stF (P:=Tryz.prog) (t:=3) (o:=4) (x:=.i .i64 r.cert.block) q2 rfl qsize_3 (by rw [RSt.len (s:={ s with round:=r.cert.round }) ⟨sw.f,sw.h⟩]; simp)
     rw [RSt.w4] at q3
     obtain ⟨G4,a4,q4,w4⟩:=stF (P:=Tryz.prog) (t:=24) (o:=5) (x:=.agg (maxC s.high r.parent).cells) q3 rfl qsize_24 (by rw [RSt.len (s:={ s with round:=r.cert.round,block:=r.cert.block }) ⟨sw.f,sw.h⟩]; simp)
     rw [RSt.w5] at q4
     have d2:=dn.step w2 q2 ⟨sw.f,sw.h⟩ rfl rfl
     have d3:=d2.step w3 q3 ⟨sw.f,sw.h⟩ rfl rfl
     have d4:=d3.step w4 q4 ⟨sw.f,sw.h⟩ rfl rfl
     refine AW_seq ?_
     refine AW_reg [2,3,4,7,8] fun K hK=>?_
     simp [init_eq,aload,afieldAddr,dn.gs,dn.gr,dn.gc,RSt.c0,RSt.c1,RSt.c2,RSt.c3,RSt.highC,SRec.parC,SRec.cr,SRec.qr,SRec.cb,take_cells,l13,a2]
     apply hK;clear hK K
     refine AW_seq ?_
     refine AW_reg [2,3,4,8] fun K hK=>?_
     simp [init_eq,aload,afieldAddr,d2.gc,a3]
     apply hK;clear hK K
     refine AW_reg [4,8] fun K hK=>?_
     simp [init_eq,aload,afieldAddr,d3.gs,d3.gr,RSt.highC,SRec.parC,l13]
     refine ACalls.mono (rmax_ok _ s.high r.parent) fun v G' ⟨hr,e⟩=>?_
     subst hr
     rw [e]
     simp [a4]
     refine hK _ _ (bend (rend ⟨_,by simp,rfl,?_,r.cert,pv,bv,?_⟩))
     · rw [hE,if_neg (by simp [y1]),if_neg (by simp [y2]),if_neg y3,if_neg y4]
     · rw [hA]; exact d4
   · have k1:¬ r.kind = 1:=by simpa using hc
     refine AW_seq ?_
     refine AW_reg [2,3,4,7,8,26,73] fun K hK=>?_
     simp [init_eq]
     apply hK;clear hK K
     refine AW_cond' rfl rfl (fun hc=>?_) (fun hc=>?_)
     · have k2:r.kind = 2:=by simpa using hc
       have hE:s.errE r = (if s.mode ≠ 0 then 213 else 0):=by unfold RSt.errE; rw [if_neg k1]; rw [if_pos k2]
       have hA:s.act r = { s with mode:=1,gave:=s.high }:=by unfold RSt.act; rw [if_neg k1]; rw [if_pos k2]
       refine AW_seq ?_
       refine AW_seq ?_
       refine AW_reg [2,4,8,77] fun K hK=>?_
       simp [init_eq,aload,afieldAddr,dn.gs,dn.gr,dn.gc,RSt.c0,RSt.c1,RSt.c2,RSt.c3,RSt.highC,SRec.parC,SRec.cr,SRec.qr,SRec.cb,take_cells,l13]
       apply hK;clear hK K
       refine AW_cond' rfl rfl (fun hx=>?_) (fun hx=>?_)
       · have y1:s.mode ≠ 0:=by simpa using hx
         refine AW_seq ?_
         refine AW_reg [4,5] fun K hK=>?_
         simp [init_eq,bzR,zs dn.gz]
         apply hK;clear hK K
         exact AW_ret (herr _ 213 _ dn.gz dn.u (by rw [hE,if_pos y1]) (by decide) rfl rfl)
       have y1:s.mode = 0:=by simpa using hx
       refine AW_skip ?_
       obtain ⟨G2,a2,q2,w2⟩:=stF (P:=Tryz.prog) (t:=3) (o:=2) (x:=.i .i64 1) dn.gn rfl qsize_3 (by rw [RSt.len (s:=s) ⟨sw.f,sw.h⟩]; simp)
       rw [RSt.w2] at q2
       obtain ⟨G3,a3,q3,w3⟩:=stF (P:=Tryz.prog) (t:=24) (o:=13) (x:=.agg s.high.cells) q2 rfl qsize_24 (by rw [RSt.len (s:={ s with mode:=1 }) ⟨sw.f,sw.h⟩]; simp)
       rw [RSt.w13] at q3
       have d2:=dn.step w2 q2 ⟨sw.f,sw.h⟩ rfl rfl
       have d3:=d2.step w3 q3 ⟨sw.f,sw.h⟩ rfl rfl
       refine AW_seq ?_
       refine AW_reg [2,4,8] fun K hK=>?_
       simp [init_eq,aload,afieldAddr,a2]
       apply hK;clear hK K
       refine AW_reg [4,8] fun K hK=>?_
       simp [init_eq,aload,afieldAddr,d2.gs,RSt.highC,l13,a3]
       refine hK _ _ (bend (rend ⟨_,by simp,rfl,?_,r.cert,pv,bv,?_⟩))
       · rw [hE,if_neg (by simp [y1])]
       · rw [hA]; exact d3
     · have k2:¬ r.kind = 2:=by simpa using hc
       refine AW_seq ?_
       refine AW_reg [2,3,4,7,8,26,83] fun K hK=>?_
       simp [init_eq]
       apply hK;clear hK K
       refine AW_cond' rfl rfl (fun hc=>?_) (fun hc=>?_)
       · have k3:r.kind = 3:=by simpa using hc
         have hE:s.errE r = (if s.mode = 2 then 213 else 0):=by unfold RSt.errE; rw [if_neg k1]; rw [if_neg k2]; rw [if_pos k3]
         have hA:s.act r = { s with gave:=(if s.mode = 0 then s.high else s.gave),mode:=2 }:=by unfold RSt.act; rw [if_neg k1]; rw [if_neg k2]; rw [if_pos k3]
         refine AW_seq ?_
         refine AW_seq ?_
         refine AW_reg [2,4,8,87] fun K hK=>?_
         simp [init_eq,aload,afieldAddr,dn.gs,dn.gr,dn.gc,RSt.c0,RSt.c1,RSt.c2,RSt.c3,RSt.highC,SRec.parC,SRec.cr,SRec.qr,SRec.cb,take_cells,l13]
         apply hK;clear hK K
         refine AW_cond' rfl rfl (fun hx=>?_) (fun hx=>?_)
         · have y1:s.mode = 2:=by simpa using hx
           refine AW_seq ?_
           refine AW_reg [4,5] fun K hK=>?_
           simp [init_eq,bzR,zs dn.gz]
           apply hK;clear hK K
           exact AW_ret (herr _ 213 _ dn.gz dn.u (by rw [hE,if_pos y1]) (by decide) rfl rfl)
         have y1:¬ s.mode = 2:=by simpa using hx
         refine AW_skip ?_
         refine AW_seq ?_
         refine AW_seq ?_
         refine AW_reg [2,4,8,91] fun K hK=>?_
         simp [init_eq,aload,afieldAddr,dn.gs,dn.gr,dn.gc,RSt.c0,RSt.c1,RSt.c2,RSt.c3,RSt.highC,SRec.parC,SRec.cr,SRec.qr,SRec.cb,take_cells,l13]
         apply hK;clear hK K
         refine AW_cond' rfl rfl (fun hx=>?_) (fun hx=>?_)
         · have y2:s.mode = 0:=by simpa using hx
           obtain ⟨G2,a2,q2,w2⟩:=stF (P:=Tryz.prog) (t:=24) (o:=13) (x:=.agg s.high.cells) dn.gn rfl qsize_24 (by rw [RSt.len (s:=s) ⟨sw.f,sw.h⟩]; simp)
           rw [RSt.w13] at q2
           obtain ⟨G3,a3,q3,w3⟩:=stF (P:=Tryz.prog) (t:=3) (o:=2) (x:=.i .i64 2) q2 rfl qsize_3 (by rw [RSt.len (s:={ s with gave:=s.high }) ⟨sw.f,sw.h⟩]; simp)
           rw [RSt.w2] at q3
           have d2:=dn.step w2 q2 ⟨sw.f,sw.h⟩ rfl rfl
           have d3:=d2.step w3 q3 ⟨sw.f,sw.h⟩ rfl rfl
           refine AW_reg [4,8] fun K hK=>?_
           simp [init_eq,aload,afieldAddr,dn.gs,dn.gr,dn.gc,RSt.c0,RSt.c1,RSt.c2,RSt.c3,RSt.highC,SRec.parC,SRec.cr,SRec.qr,SRec.cb,take_cells,l13,a2]
           apply hK;clear hK K
           refine AW_reg [4,8] fun K hK=>?_
           simp [init_eq,aload,afieldAddr,a3]
           refine hK _ _ (bend (rend ⟨_,by simp,rfl,?_,r.cert,pv,bv,?_⟩))
           · rw [hE,if_neg y1]
           · rw [hA,if_pos y2]; exact d3
         · have y2:¬ s.mode = 0:=by simpa using hx
           refine AW_skip ?_
           obtain ⟨G2,a2,q2,w2⟩:=stF (P:=Tryz.prog) (t:=3) (o:=2) (x:=.i .i64 2) dn.gn rfl qsize_3 (by rw [RSt.len (s:=s) ⟨sw.f,sw.h⟩]; simp)
           rw [RSt.w2] at q2
           have d2:=dn.step w2 q2 ⟨sw.f,sw.h⟩ rfl rfl
           refine AW_reg [4,8] fun K hK=>?_
           simp [init_eq,aload,afieldAddr,a2]
           refine hK _ _ (bend (rend ⟨_,by simp,rfl,?_,r.cert,pv,bv,?_⟩))
           · rw [hE,if_neg y1]
           · rw [hA,if_neg y2]; exact d2
       · have k3:¬ r.kind = 3:=by simpa using hc
         refine AW_seq ?_
         refine AW_reg [2,3,4,7,8,26,96] fun K hK=>?_
         simp [init_eq]
         apply hK;clear hK K
         refine AW_cond' rfl rfl (fun hc=>?_) (fun hc=>?_)
         · have k4:r.kind = 4:=by simpa using hc
           have hE:s.errE r = (if s.mode ≠ 2 then 213 else if r.cert.view ≠ s.view then 210 else if r.cert.height ≤ (s.fall r.cert.author).height then 220 else 0):=by unfold RSt.errE; rw [if_neg k1]; rw [if_neg k2]; rw [if_neg k3]; rw [if_pos k4]
           have hA:s.act r = (if rshows r.parent r.cert && decide ((s.head r.cert.author).height < r.parent.height) then { s.fallen r with heads:=s.heads.set r.cert.author.toNat r.parent } else s.fallen r):=by unfold RSt.act; rw [if_neg k1]; rw [if_neg k2]; rw [if_neg k3]; rw [if_pos k4]
           refine AW_seq ?_
           refine AW_seq ?_
           refine AW_reg [2,3,4,7,8,100] fun K hK=>?_
           simp [init_eq,aload,afieldAddr,dn.gs,dn.gr,dn.gc,RSt.c0,RSt.c1,RSt.c2,RSt.c3,RSt.highC,SRec.parC,SRec.cr,SRec.qr,SRec.cb,take_cells,l13]
           apply hK;clear hK K
           refine AW_cond' rfl rfl (fun hx=>?_) (fun hx=>?_)
           · have y1:s.mode ≠ 2:=by simpa using hx
             refine AW_seq ?_
             refine AW_reg [4,5] fun K hK=>?_
             simp [init_eq,bzR,zs dn.gz]
             apply hK;clear hK K
             exact AW_ret (herr _ 213 _ dn.gz dn.u (by rw [hE,if_pos y1]) (by decide) rfl rfl)
           have y1:s.mode = 2:=by simpa using hx
           refine AW_skip ?_
           refine AW_seq ?_
           refine AW_seq ?_
           refine AW_reg [2,3,4,7,8,106] fun K hK=>?_
           simp [init_eq,aload,afieldAddr,dn.gs,dn.gr,dn.gc,RSt.c0,RSt.c1,RSt.c2,RSt.c3,RSt.highC,SRec.parC,SRec.cr,SRec.qr,SRec.cb,take_cells,l13]
           apply hK;clear hK K
           refine AW_cond' rfl rfl (fun hx=>?_) (fun hx=>?_)
           · have y2:r.cert.view ≠ s.view:=by simpa using hx
             refine AW_seq ?_
             refine AW_reg [4,5] fun K hK=>?_
             simp [init_eq,bzR,zs dn.gz]
             apply hK;clear hK K
             exact AW_ret (herr _ 210 _ dn.gz dn.u (by rw [hE,if_neg (by simp [y1]),if_pos y2]) (by decide) rfl rfl)
           have y2:r.cert.view = s.view:=by simpa using hx
           refine AW_skip ?_
           have hcr:=rng.certs (by rw [k4]; rfl)
           have hau:=(Cert.rng hcr.1).author
           have han:r.cert.author.toNat < 10:=by omega
           have hfc:(s.cells pv bv)[21 + r.cert.author.toNat * 8 + 4]? = some (.i .i64 (s.fall r.cert.author).height):=cell_of (RSt.fallC sw han) (k:=4) (by decide)
           have hhc:(s.cells pv bv)[101 + r.cert.author.toNat * 8 + 4]? = some (.i .i64 (s.head r.cert.author).height):=cell_of (RSt.headC sw han) (k:=4) (by decide)
           refine AW_seq ?_
           refine AW_seq ?_
           refine AW_regd [2,3,4,7,8,116] pl_35_35 pe_35_35 (by kernel_rfl) (by kernel_rfl) (by decide) fun K hK=>?_
           simp [init_eq,pl_35_35,aload,afieldAddr,dn.gs,dn.gr,dn.gc,RSt.c0,RSt.c1,RSt.c2,RSt.c3,RSt.highC,SRec.parC,SRec.cr,SRec.qr,SRec.cb,take_cells,l13,arr_addr hau,hfc]
           apply hK;clear hK K
           refine AW_cond' rfl rfl (fun hx=>?_) (fun hx=>?_)
           · have y3:r.cert.height ≤ (s.fall r.cert.author).height:=by simpa using hx
             refine AW_seq ?_
             refine AW_reg [4,5] fun K hK=>?_
             simp [init_eq,bzR,zs dn.gz]
             apply hK;clear hK K
             exact AW_ret (herr _ 220 _ dn.gz dn.u (by rw [hE,if_neg (by simp [y1]),if_neg (by simp [y2]),if_pos y3]) (by decide) rfl rfl)
           have y3:¬ r.cert.height ≤ (s.fall r.cert.author).height:=by simpa using hx
           refine AW_skip ?_
           have hE0:s.errE r = 0:=by rw [hE,if_neg (by simp [y1]),if_neg (by simp [y2]),if_neg y3]
           refine AW_seq ?_
           refine AW_reg [2,4,7,8,9] fun K hK=>?_
           simp [init_eq,aload,afieldAddr,dn.gs,dn.gr,dn.gc,RSt.c0,RSt.c1,RSt.c2,RSt.c3,RSt.highC,SRec.parC,SRec.cr,SRec.qr,SRec.cb,take_cells,l13,V.cells]
           refine ⟨_,cert_store (AH.get_new_same ..) rfl _,?_⟩
           obtain ⟨G1,eg,gp,gn1,go1⟩:=boxS G Cert.zero.cells r.parent.cells
           rw [eg]
           apply hK;clear hK K
           have d1:=dn.upd (M:=G1) ⟨by omega,fun j hj _=>go1 j hj⟩
           have hGn:H.next + 5 ≤ G.next:=AH.get_lt dn.gn
           obtain ⟨G2,a2,q2,w2⟩:=stF (P:=Tryz.prog) (t:=22) (o:=6) (x:=u32 0#32) d1.gc (u32_cells _) qsize_22 (by simp)
           rw [show splice r.cert.cells 6 [u32 0#32] = ({ r.cert with signers:=0#32 }:Cert).cells from rfl] at q2
           have d2:=d1.cert w2 q2
           have gp2:=w2.keep (by simp; omega) gp
           refine AW_seq ?_
           refine AW_reg [2,4,7,8,9] fun K hK=>?_
           simp [init_eq,aload,afieldAddr,a2]
           apply hK;clear hK K
           obtain ⟨G3,a3,q3,w3⟩:=stF (P:=Tryz.prog) (t:=24) (o:=21 + r.cert.author.toNat * 8) (x:=.agg ({ r.cert with signers:=0#32 }:Cert).cells) d2.gn rfl qsize_24 (by rw [RSt.len sw,Cert.len]; omega)
           rw [RSt.wfall sw han] at q3
           have wf3:(s.fallen r).Wf:=⟨by show (s.falls.set _ _).length = 10; rw [List.length_set]; exact sw.f,sw.h⟩
           have d3:=d2.step (n':=s.fallen r) w3 q3 wf3 rfl rfl
           have gp3:=w3.keep (by simp; omega) gp2
           refine AW_seq ?_
           refine AW_reg [2,4,7,8,9] fun K hK=>?_
           simp [init_eq,aload,afieldAddr,d2.gc,take_cells,arr_addr hau,a3]
           apply hK;clear hK K
           refine AW_seq ?_
           refine AW_regdto [4,7,8,9,158] pl_35_40 pe_35_40 ⟨324,[(4,.p (some (H.next + 2,0,0))),(7,.p (some (H.next + 3,0,0))),(8,.p (some (H.next + 4,0,0))),(9,.p (some (G.next,0,0))),(158,.b (rshows r.parent r.cert && decide ((s.head r.cert.author).height < r.parent.height)))]⟩ G3 (by kernel_rfl) (by kernel_rfl) (by decide) (fun K hk=>?_) ?_
           · unfold rshows at hk
             by_cases z1:r.parent.kind = 2
             · by_cases z2:r.parent.coin = 0#32
               · by_cases z3:r.parent.view = r.cert.view
                 · by_cases z4:r.parent.author = r.cert.author
                   · simpa [init_eq,pl_35_40,aload,afieldAddr,gp3,d3.gc,d3.gs,arr_addr hau,hhc,z1,z2,z3,z4] using hk
                   · simpa [init_eq,pl_35_40,aload,afieldAddr,gp3,d3.gc,d3.gs,arr_addr hau,hhc,z1,z2,z3,z4] using hk
                 · simpa [init_eq,pl_35_40,aload,afieldAddr,gp3,d3.gc,d3.gs,arr_addr hau,hhc,z1,z2,z3] using hk
               · simpa [init_eq,pl_35_40,aload,afieldAddr,gp3,d3.gc,d3.gs,arr_addr hau,hhc,z1,z2] using hk
             · simpa [init_eq,pl_35_40,aload,afieldAddr,gp3,d3.gc,d3.gs,arr_addr hau,hhc,z1] using hk
           refine AW_cond' rfl rfl (fun hx=>?_) (fun hx=>?_)
           · rw [if_pos hx] at hA
             obtain ⟨G4,a4,q4,w4⟩:=stF (P:=Tryz.prog) (t:=24) (o:=101 + r.cert.author.toNat * 8) (x:=.agg r.parent.cells) d3.gn rfl qsize_24 (by rw [RSt.len wf3,Cert.len]; omega)
             rw [RSt.whead wf3 han] at q4
             have d4:=d3.step (n':={ s.fallen r with heads:=s.heads.set r.cert.author.toNat r.parent }) w4 q4 ⟨wf3.f,by show (s.heads.set _ _).length = 10; rw [List.length_set]; exact sw.h⟩ rfl rfl
             refine AW_reg [4,8] fun K hK=>?_
             simp [init_eq,aload,afieldAddr,d3.gc,gp3,take_cells,arr_addr hau,a4]
             refine hK _ _ (bend (rend ⟨_,by simp,rfl,hE0,({ r.cert with signers:=0#32 }:Cert),pv,bv,?_⟩))
             rw [hA]; exact d4
           · rw [if_neg (by simp [hx])] at hA
             refine AW_skip (bend (rend ⟨_,by simp,rfl,hE0,({ r.cert with signers:=0#32 }:Cert),pv,bv,?_⟩))
             rw [hA]; exact d3
         · have k4:¬ r.kind = 4:=by simpa using hc
           refine AW_seq ?_
           refine AW_reg [2,3,4,7,8,26,164] fun K hK=>?_
           simp [init_eq]
           apply hK;clear hK K
           refine AW_cond' rfl rfl (fun hc=>?_) (fun hc=>?_)
           · have k5:r.kind = 5:=by simpa using hc
             have hE:s.errE r = (if cmpC r.cert s.high ≤ 0 then 212 else 0):=by unfold RSt.errE; rw [if_neg k1]; rw [if_neg k2]; rw [if_neg k3]; rw [if_neg k4]; rw [if_pos k5]
             have hA:s.act r = { s with high:=r.cert }:=by unfold RSt.act; rw [if_neg k1]; rw [if_neg k2]; rw [if_neg k3]; rw [if_neg k4]; rw [if_pos k5]
             refine AW_seq ?_
             refine AW_seq ?_
             refine AW_reg [4,7,8,170] fun K hK=>?_
             simp [init_eq,aload,afieldAddr,dn.gs,dn.gr,dn.gc,RSt.c0,RSt.c1,RSt.c2,RSt.c3,RSt.highC,SRec.parC,SRec.cr,SRec.qr,SRec.cb,take_cells,l13]
             refine ACalls.mono (rcmp_ok G r.cert s.high) fun v G' ⟨hr,e⟩=>?_
             subst hr
             rw [e]
             try simp
             apply hK;clear hK K
             refine AW_cond' rfl rfl (fun hx=>?_) (fun hx=>?_)
             · have y1:cmpC r.cert s.high ≤ 0:=by simpa using hx
               refine AW_seq ?_
               refine AW_reg [4,5] fun K hK=>?_
               simp [init_eq,bzR,zs dn.gz]
               apply hK;clear hK K
               exact AW_ret (herr _ 212 _ dn.gz dn.u (by rw [hE,if_pos y1]) (by decide) rfl rfl)
             have y1:¬ cmpC r.cert s.high ≤ 0:=by simpa using hx
             refine AW_skip ?_
             obtain ⟨G2,a2,q2,w2⟩:=stF (P:=Tryz.prog) (t:=24) (o:=5) (x:=.agg r.cert.cells) dn.gn rfl qsize_24 (by rw [RSt.len (s:=s) ⟨sw.f,sw.h⟩]; simp)
             rw [RSt.w5] at q2
             have d2:=dn.step w2 q2 ⟨sw.f,sw.h⟩ rfl rfl
             refine AW_reg [4,8] fun K hK=>?_
             simp [init_eq,aload,afieldAddr,dn.gs,dn.gr,dn.gc,RSt.c0,RSt.c1,RSt.c2,RSt.c3,RSt.highC,SRec.parC,SRec.cr,SRec.qr,SRec.cb,take_cells,l13,a2]
             refine hK _ _ (bend (rend ⟨_,by simp,rfl,?_,r.cert,pv,bv,?_⟩))
             · rw [hE,if_neg y1]
             · rw [hA]; exact d2
           · have k5:¬ r.kind = 5:=by simpa using hc
             refine AW_seq ?_
             refine AW_reg [2,3,4,8,26,174] fun K hK=>?_
             simp [init_eq]
             apply hK;clear hK K
             refine AW_cond' rfl rfl (fun hc=>?_) (fun hc=>?_)
             · have k6:r.kind = 6:=by simpa using hc
               have hE:s.errE r = (if s.mode ≠ 2 then 213 else if s.shared = true then 100 else 0):=by unfold RSt.errE; rw [if_neg k1]; rw [if_neg k2]; rw [if_neg k3]; rw [if_neg k4]; rw [if_neg k5]; rw [if_pos k6]
               have hA:s.act r = { s with shared:=true }:=by unfold RSt.act; rw [if_neg k1]; rw [if_neg k2]; rw [if_neg k3]; rw [if_neg k4]; rw [if_neg k5]; rw [if_pos k6]
               refine AW_seq ?_
               refine AW_seq ?_
               refine AW_reg [2,4,8,178] fun K hK=>?_
               simp [init_eq,aload,afieldAddr,dn.gs,dn.gr,dn.gc,RSt.c0,RSt.c1,RSt.c2,RSt.c3,RSt.highC,SRec.parC,SRec.cr,SRec.qr,SRec.cb,take_cells,l13]
               apply hK;clear hK K
               refine AW_cond' rfl rfl (fun hx=>?_) (fun hx=>?_)
               · have y1:s.mode ≠ 2:=by simpa using hx
                 refine AW_seq ?_
                 refine AW_reg [4,5] fun K hK=>?_
                 simp [init_eq,bzR,zs dn.gz]
                 apply hK;clear hK K
                 exact AW_ret (herr _ 213 _ dn.gz dn.u (by rw [hE,if_pos y1]) (by decide) rfl rfl)
               have y1:s.mode = 2:=by simpa using hx
               refine AW_skip ?_
               refine AW_seq ?_
               refine AW_seq ?_
               refine AW_reg [4,8,181] fun K hK=>?_
               simp [init_eq,aload,afieldAddr,dn.gs,dn.gr,dn.gc,RSt.c0,RSt.c1,RSt.c2,RSt.c3,RSt.highC,SRec.parC,SRec.cr,SRec.qr,SRec.cb,take_cells,l13,RSt.c181 sw]
               apply hK;clear hK K
               refine AW_cond' rfl rfl (fun hx=>?_) (fun hx=>?_)
               · have y2:s.shared = true:=by simpa using hx
                 refine AW_seq ?_
                 refine AW_reg [4,5] fun K hK=>?_
                 simp [init_eq,bzR,zs dn.gz]
                 apply hK;clear hK K
                 exact AW_ret (herr _ 100 _ dn.gz dn.u (by rw [hE,if_neg (by simp [y1]),if_pos y2]) (by decide) rfl rfl)
               have y2:s.shared = false:=by simpa using hx
               refine AW_skip ?_
               obtain ⟨G2,a2,q2,w2⟩:=stF (P:=Tryz.prog) (t:=4) (o:=181) (x:=.b true) dn.gn rfl qsize_4 (by rw [RSt.len (s:=s) ⟨sw.f,sw.h⟩]; simp)
               rw [RSt.w181 sw] at q2
               have d2:=dn.step w2 q2 ⟨sw.f,sw.h⟩ rfl rfl
               refine AW_reg [4,8] fun K hK=>?_
               simp [init_eq,aload,afieldAddr,a2]
               refine hK _ _ (bend (rend ⟨_,by simp,rfl,?_,r.cert,pv,bv,?_⟩))
               · rw [hE,if_neg (by simp [y1]),if_neg (by simp [y2])]
               · rw [hA]; exact d2
             · have k6:¬ r.kind = 6:=by simpa using hc
               refine AW_seq ?_
               refine AW_reg [2,3,4,8,26,184] fun K hK=>?_
               simp [init_eq]
               apply hK;clear hK K
               refine AW_cond' rfl rfl (fun hc=>?_) (fun hc=>?_)
               · have k7:r.kind = 7:=by simpa using hc
                 have hE:s.errE r = (if s.last ≤ s.view then 230 else 0):=by unfold RSt.errE; rw [if_neg k1]; rw [if_neg k2]; rw [if_neg k3]; rw [if_neg k4]; rw [if_neg k5]; rw [if_neg k6]; rw [if_pos k7]
                 have hA:s.act r = s.leave r:=by unfold RSt.act; rw [if_neg k1]; rw [if_neg k2]; rw [if_neg k3]; rw [if_neg k4]; rw [if_neg k5]; rw [if_neg k6]; rw [if_pos k7]
                 refine AW_seq ?_
                 refine AW_seq ?_
                 refine AW_reg [2,3,4,8,190] fun K hK=>?_
                 simp [init_eq,aload,afieldAddr,dn.gs,dn.gr,dn.gc,RSt.c0,RSt.c1,RSt.c2,RSt.c3,RSt.highC,SRec.parC,SRec.cr,SRec.qr,SRec.cb,take_cells,l13]
                 apply hK;clear hK K
                 refine AW_cond' rfl rfl (fun hx=>?_) (fun hx=>?_)
                 · have y1:s.last ≤ s.view:=by simpa using hx
                   refine AW_seq ?_
                   refine AW_reg [4,5] fun K hK=>?_
                   simp [init_eq,bzR,zs dn.gz]
                   apply hK;clear hK K
                   exact AW_ret (herr _ 230 _ dn.gz dn.u (by rw [hE,if_pos y1]) (by decide) rfl rfl)
                 have y1:¬ s.last ≤ s.view:=by simpa using hx
                 refine AW_skip ?_
                 have hE0:s.errE r = 0:=by rw [hE,if_neg y1]
                 have hau:=rng.sa (by rw [k7]; rfl)
                 have han:r.author.toNat < 10:=by omega
                 have hGn:H.next + 5 ≤ G.next:=AH.get_lt dn.gn
                 have rp:RS G pv 1 (s.past.map setC):=by obtain ⟨F,o,_⟩:=dn.op; exact o.rsR (f:=setC) (by decide) (fun _=>rfl)
                 have wf7:({ s.leave r with high:=s.high }:RSt).Wf:=⟨rfl,rfl⟩
                 have hwv:IntKind.i64.wrap (s.view + 1) = s.view + 1:=wrap_id (by omega) (by omega)
                 refine AW_cut (fun ρ' X=>ρ' = ⟨324,[(2,.p (some (H.next,0,0))),(3,.p (some (H.next + 1,0,0))),(4,.p (some (H.next + 2,0,0))),(8,.p (some (H.next + 4,0,0)))]⟩ ∧ ∃ v2,RN H X B s ({ s.leave r with high:=s.high }:RSt) r r.cert pv bv v2 bv) ?_ ?_
                 · refine AW_regm (.base G.next) [2,3,4,8] pl_35_55 pe_35_55 (by kernel_rfl) (by kernel_rfl) (by decide) fun K hK=>?_
                   have e0:∀ M:AH,abuildSlice Tryz.prog M 39 0 [] = some (.sl (some (M.next,0,0)) 0 false,M.new (.cells [] 0 false 1)):=fun M=>by first | (simp [abuildSlice,afill,V.cells]; done) | (simp [abuildSlice,afill,V.cells]; rfl)
                   have b0:H.next + 1 ≤ G.next:=by omega
                   have b2:H.next + 2 ≤ G.next:=by omega
                   have g187:=RSt.c187 (pv:=pv) (bv:=bv) sw
                   have g188:=RSt.c188 (pv:=pv) (bv:=bv) sw
                   have g186:=RSt.c186 (pv:=pv) (bv:=bv) sw
                   have g189:=RSt.c189 (pv:=pv) (bv:=bv) sw
                   have hbd:∀ v2:V,v2.cells = some [v2] → abuild Tryz.prog 45 [(0,.i .i64 s.last),(1,.i .i64 (s.view + 1)),(5,.agg s.high.cells),(11,v2),(12,.i .i64 s.count),(13,.i .i64 s.tip),(14,bv)] = some (.agg (({ s.leave r with high:=s.high }:RSt).cells v2 bv)):=by
                    intro v2 h2
                    have hb1:bv.cells = some [bv]:=by obtain ⟨F,o,_⟩:=dn.ob; exact o.cells
                    simp [abuild,afill,h2,hb1]
                    first | done | rfl | (exact ⟨by simp [splice],rfl⟩)
                   simp [init_eq,pl_35_55,APlan_takem,through,tkOk,Go.Abs.rid,aload,afieldAddr,dn.gs,dn.gr,RSt.c0,RSt.c1,RSt.highC,l13,g186,g187,g188,g189,hwv,e0,one_set,b0,b2]
                   have fin:∀ (M:AH) (v2:V) (F2:List Nat),Own M v2 1 ((s.past ++ [r.set]).map setC).flatten F2 → Upd G M [] → (∀ j ∈ F2,G.next ≤ j) → ∃ M2,astore Tryz.prog M 45 (.p (some (H.next + 4,0,0))) (.agg (({ s.leave r with high:=s.high }:RSt).cells v2 bv)) = some M2 ∧ K ⟨324,[(2,.p (some (H.next,0,0))),(3,.p (some (H.next + 1,0,0))),(4,.p (some (H.next + 2,0,0))),(8,.p (some (H.next + 4,0,0)))]⟩ M2:=by
                    intro M v2 F2 o u hF
                    have d2:=dn.upd u
                    obtain ⟨M2,hM2⟩:∃ M2,M2 = M.set (H.next + 4) (.cells (({ s.leave r with high:=s.high }:RSt).cells v2 bv) 0 false 0):=⟨_,rfl⟩
                    have w:Upd M M2 [H.next + 4]:=by rw [hM2]; exact Upd.set _ _ _ (by simp)
                    have q:M2.get (H.next + 4) = some (.cells (({ s.leave r with high:=s.high }:RSt).cells v2 bv) 0 false 0):=by rw [hM2]; exact AH.get_set_same (AH.get_lt d2.gn)
                    refine ⟨M2,by rw [hM2]; exact rs_store d2.gn (RSt.len sw) wf7 v2 bv,hK _ _ (rend ⟨_,by simp,rfl,v2,?_⟩)⟩
                    refine ⟨w.keep (by simp) d2.gs,w.keep (by simp) d2.gr,w.keep (by simp) d2.gz,w.keep (by simp) d2.gc,q,wf7,⟨F2,o.upd w (fun j hj h=>by have:=hF j hj; simp at h; omega),fun j hj h=>?_⟩,d2.ob.step w (by simp) (fun j h=>.inl h),d2.u.trans w (fun j hj=>.inr (by simp at hj; omega))⟩
                    have:=hF j hj
                    rcases List.mem_append.1 h with h | h
                    · simp at h; omega
                    · have:=hB j h; omega
                   have uA:Upd G (G.new (.cells [] 0 false 1)) []:=Upd.new ..
                   have uT:Upd G (G.new (.cells [u32 r.set] 0 false 1)) []:=Upd.new ..
                   refine ⟨⟨?_,?_⟩,?_⟩
                   · obtain ⟨v1,M1,F1,a1,o1,u1',f1⟩:=copySet (Own.made G 1) (rp.upd uA) (by simp; omega)
                     have uB:Upd M1 (M1.new (.cells [u32 r.set] 0 false 1)) []:=Upd.new ..
                     obtain ⟨v2,M2,F2,a2,o2,u2',f2⟩:=moreSet (o1.upd uB (by simp)) (AH.get_new_same ..) hpl
                     have l1:∀ j ∈ F1,G.next ≤ j:=fun j hj=>(f1 j hj).elim (fun h=>by simp at h; omega) (fun h=>by simp at h; omega)
                     have uG1:Upd G M1 []:=uA.trans u1' (fun j hj=>.inr (by simp at hj; omega))
                     exact ⟨v1,M1,a1,keepU u1' (by simp),v2,M2,a2,keepU u2' l1,_,hbd v2 o2.cells,fin M2 v2 F2 o2 ((uG1.trans uB (by simp)).trans u2' (fun j hj=>.inr (l1 j hj))) (fun j hj=>(f2 j hj).elim (l1 j) (fun h=>by have:=uG1.1; simp at h; omega))⟩
                   · have uB:Upd (G.new (.cells [] 0 false 1)) ((G.new (.cells [] 0 false 1)).new (.cells [u32 r.set] 0 false 1)) []:=Upd.new ..
                     obtain ⟨v1,M1,F1,a1,o1,u1',f1⟩:=copySet ((Own.made G 1).upd uB (by simp)) ((rp.upd uA).upd uB) (by simp; omega)
                     have hx:M1.get (G.next + 1) = some (.cells [u32 r.set] 0 false 1):=u1'.keep (by simp) (AH.get_new_same ..)
                     obtain ⟨v2,M2,F2,a2,o2,u2',f2⟩:=moreSet o1 hx hpl
                     have l1:∀ j ∈ F1,G.next ≤ j:=fun j hj=>(f1 j hj).elim (fun h=>by simp at h; omega) (fun h=>by simp at h; omega)
                     have uG1:Upd G M1 []:=(uA.trans uB (by simp)).trans u1' (fun j hj=>.inr (by simp at hj; omega))
                     exact ⟨v1,M1,a1,keepU u1' (by simp),v2,M2,a2,keepU u2' l1,_,hbd v2 o2.cells,fin M2 v2 F2 o2 (uG1.trans u2' (fun j hj=>.inr (l1 j hj))) (fun j hj=>(f2 j hj).elim (l1 j) (fun h=>by have:=uG1.1; omega))⟩
                   · have uB:Upd (G.new (.cells [u32 r.set] 0 false 1)) ((G.new (.cells [u32 r.set] 0 false 1)).new (.cells [] 0 false 1)) []:=Upd.new ..
                     obtain ⟨v1,M1,F1,a1,o1,u1',f1⟩:=copySet (Own.made (G.new (.cells [u32 r.set] 0 false 1)) 1) ((rp.upd uT).upd uB) (by simp; omega)
                     have hx:M1.get G.next = some (.cells [u32 r.set] 0 false 1):=u1'.keep (by simp) (uB.keep (by simp) (AH.get_new_same ..))
                     obtain ⟨v2,M2,F2,a2,o2,u2',f2⟩:=moreSet o1 hx hpl
                     have l1:∀ j ∈ F1,G.next ≤ j:=fun j hj=>(f1 j hj).elim (fun h=>by simp at h; omega) (fun h=>by simp at h; omega)
                     have uG1:Upd G M1 []:=(uT.trans uB (by simp)).trans u1' (fun j hj=>.inr (by simp at hj; omega))
                     exact ⟨v1,M1,a1,keepU u1' (by simp),v2,M2,a2,keepU u2' l1,_,hbd v2 o2.cells,fin M2 v2 F2 o2 (uG1.trans u2' (fun j hj=>.inr (l1 j hj))) (fun j hj=>(f2 j hj).elim (l1 j) (fun h=>by have:=uG1.1; omega))⟩
                 · rintro ρ' X ⟨rfl,v2,dx⟩
                   have hhd:=RSt.headC (pv:=pv) (bv:=bv) sw han
                   have hle:101 + r.author.toNat * 8 + 8 ≤ (s.cells pv bv).length:=by rw [RSt.len sw]; omega
                   have lh:aload Tryz.prog X 24 (.p (some (H.next,0,101 + r.author.toNat * 8))) = some (.agg (s.head r.author).cells):=by simp [aload,dx.gs,hhd,hle]; rfl
                   have lau:aload Tryz.prog X 3 (.p (some (H.next + 1,0,18))) = some (.i .i64 r.author):=by simp [aload,dx.gr]
                   refine AW_seq ?_
                   refine AW_reg [2,3,4,8,10] fun K hK=>?_
                   simp [init_eq,afieldAddr,arr_addr hau,lau,lh,V.cells]
                   refine ⟨_,cert_store (AH.get_new_same ..) rfl _,?_⟩
                   obtain ⟨X1,ex1,gh,xn,xo⟩:=boxS X Cert.zero.cells (s.head r.author).cells
                   rw [ex1]
                   apply hK;clear hK K
                   have d1:=dx.upd (M:=X1) ⟨by omega,fun j hj _=>xo j hj⟩
                   have hXn:H.next + 5 ≤ X.next:=AH.get_lt dx.gn
                   refine AW_seq ?_
                   refine AW_reg [2,3,4,8,10,221] fun K hK=>?_
                   simp [init_eq,aload,afieldAddr,gh]
                   apply hK;clear hK K
                   refine AW_cond' rfl rfl (fun hx=>?_) (fun hx=>?_)
                   · have z:(s.head r.author).kind = 2:=by simpa using hx
                     obtain ⟨X2,a2,q2,w2⟩:=stF (P:=Tryz.prog) (t:=22) (o:=7) (x:=u32 r.set) gh (u32_cells _) qsize_22 (by simp)
                     rw [show splice (s.head r.author).cells 7 [u32 r.set] = ({ s.head r.author with coin:=r.set }:Cert).cells from rfl] at q2
                     have d2:RN H X2 B s ({ s.leave r with high:=s.high }:RSt) r r.cert pv bv v2 bv:=⟨w2.keep (by simp; omega) d1.gs,w2.keep (by simp; omega) d1.gr,w2.keep (by simp; omega) d1.gz,w2.keep (by simp; omega) d1.gc,w2.keep (by simp; omega) d1.gn,wf7,dx.op.step (C:=[X.next]) (Upd.trans (F:=[X.next]) ⟨by omega,fun j hj _=>xo j hj⟩ w2 (fun j hj=>.inl hj)) (fun j hj=>.inr (by simp at hj; omega)) (fun j h=>.inl h),dx.ob.step (C:=[X.next]) (Upd.trans (F:=[X.next]) ⟨by omega,fun j hj _=>xo j hj⟩ w2 (fun j hj=>.inl hj)) (fun j hj=>.inr (by simp at hj; omega)) (fun j h=>.inl h),d1.u.trans w2 (fun j hj=>.inr (by simp at hj; omega))⟩
                     refine AW_seq ?_
                     refine AW_reg [2,4,8,10] fun K hK=>?_
                     simp [init_eq,aload,afieldAddr,d1.gr,a2]
                     apply hK;clear hK K
                     obtain ⟨X3,a3,q3,w3⟩:=stF (P:=Tryz.prog) (t:=24) (o:=5) (x:=.agg (maxC s.high { s.head r.author with coin:=r.set }).cells) d2.gn rfl qsize_24 (by rw [RSt.len wf7]; simp)
                     rw [RSt.w5] at q3
                     refine AW_reg [4,8] fun K hK=>?_
                     simp [init_eq,aload,afieldAddr,d2.gs,RSt.highC,l13,q2,take_cells]
                     refine ACalls.mono (rmax_ok _ s.high { s.head r.author with coin:=r.set }) fun v G' ⟨hr,e⟩=>?_
                     subst hr
                     rw [e]
                     simp [a3]
                     have hA2:s.act r = { s.leave r with high:=maxC s.high { s.head r.author with coin:=r.set } }:=by rw [hA]; unfold RSt.leave; rw [if_pos z]
                     refine hK _ _ (bend (rend ⟨_,by simp,rfl,hE0,r.cert,v2,bv,?_⟩))
                     rw [hA2]
                     exact d2.step w3 q3 ⟨rfl,rfl⟩ rfl rfl
                   · have z:¬ (s.head r.author).kind = 2:=by simpa using hx
                     have hA2:s.act r = ({ s.leave r with high:=s.high }:RSt):=by rw [hA]; unfold RSt.leave; rw [if_neg z]
                     refine AW_skip (bend (rend ⟨_,by simp,rfl,hE0,r.cert,v2,bv,?_⟩))
                     rw [hA2]
                     exact d1
               · have k7:¬ r.kind = 7:=by simpa using hc
                 refine AW_seq ?_
                 refine AW_reg [2,3,4,8,26,230] fun K hK=>?_
                 simp [init_eq]
                 apply hK;clear hK K
                 refine AW_cond' rfl rfl (fun hc=>?_) (fun hc=>?_)
                 · have k8:r.kind = 8:=by simpa using hc
                   have hE:s.errE r = (if r.count ≤ s.count then 151 else 0):=by unfold RSt.errE; rw [if_neg k1]; rw [if_neg k2]; rw [if_neg k3]; rw [if_neg k4]; rw [if_neg k5]; rw [if_neg k6]; rw [if_neg k7]; rw [if_pos k8]
                   have hA:s.act r = { s with count:=r.count,tip:=r.block }:=by unfold RSt.act; rw [if_neg k1]; rw [if_neg k2]; rw [if_neg k3]; rw [if_neg k4]; rw [if_neg k5]; rw [if_neg k6]; rw [if_neg k7]; rw [if_pos k8]
                   refine AW_seq ?_
                   refine AW_seq ?_
                   refine AW_reg [3,4,8,236] fun K hK=>?_
                   simp [init_eq,aload,afieldAddr,dn.gs,dn.gr,dn.gc,RSt.c0,RSt.c1,RSt.c2,RSt.c3,RSt.highC,SRec.parC,SRec.cr,SRec.qr,SRec.cb,take_cells,l13,RSt.c187 sw]
                   apply hK;clear hK K
                   refine AW_cond' rfl rfl (fun hx=>?_) (fun hx=>?_)
                   · have y1:r.count ≤ s.count:=by simpa using hx
                     refine AW_seq ?_
                     refine AW_reg [4,5] fun K hK=>?_
                     simp [init_eq,bzR,zs dn.gz]
                     apply hK;clear hK K
                     exact AW_ret (herr _ 151 _ dn.gz dn.u (by rw [hE,if_pos y1]) (by decide) rfl rfl)
                   have y1:¬ r.count ≤ s.count:=by simpa using hx
                   refine AW_skip ?_
                   obtain ⟨G2,a2,q2,w2⟩:=stF (P:=Tryz.prog) (t:=3) (o:=187) (x:=.i .i64 r.count) dn.gn rfl qsize_3 (by rw [RSt.len (s:=s) ⟨sw.f,sw.h⟩]; simp)
                   rw [RSt.w187 sw] at q2
                   obtain ⟨G3,a3,q3,w3⟩:=stF (P:=Tryz.prog) (t:=3) (o:=188) (x:=.i .i64 r.block) q2 rfl qsize_3 (by rw [RSt.len (s:={ s with count:=r.count }) ⟨sw.f,sw.h⟩]; simp)
                   rw [RSt.w188 (s:={ s with count:=r.count }) ⟨sw.f,sw.h⟩] at q3
                   have d2:=dn.step w2 q2 ⟨sw.f,sw.h⟩ rfl rfl
                   have d3:=d2.step w3 q3 ⟨sw.f,sw.h⟩ rfl rfl
                   refine AW_seq ?_
                   refine AW_reg [3,4,8] fun K hK=>?_
                   simp [init_eq,aload,afieldAddr,dn.gs,dn.gr,dn.gc,RSt.c0,RSt.c1,RSt.c2,RSt.c3,RSt.highC,SRec.parC,SRec.cr,SRec.qr,SRec.cb,take_cells,l13,a2]
                   apply hK;clear hK K
                   refine AW_reg [4,8] fun K hK=>?_
                   simp [init_eq,aload,afieldAddr,d2.gr,a3]
                   refine hK _ _ (bend (rend ⟨_,by simp,rfl,?_,r.cert,pv,bv,?_⟩))
                   · rw [hE,if_neg y1]
                   · rw [hA]; exact d3
                 · have k8:¬ r.kind = 8:=by simpa using hc
                   refine AW_seq ?_
                   refine AW_reg [2,3,4,8,26,244] fun K hK=>?_
                   simp [init_eq]
                   apply hK;clear hK K
                   refine AW_cond' rfl rfl (fun hc=>?_) (fun hc=>?_)
                   · have k9:r.kind = 9:=by simpa using hc
                     have hE:s.errE r = s.ownErr r:=by unfold RSt.errE; rw [if_neg k1]; rw [if_neg k2]; rw [if_neg k3]; rw [if_neg k4]; rw [if_neg k5]; rw [if_neg k6]; rw [if_neg k7]; rw [if_neg k8]; rw [if_pos k9]
                     have hA:s.act r = s.setOwn (parseBlk r.text).1.height r.text:=by unfold RSt.act; rw [if_neg k1]; rw [if_neg k2]; rw [if_neg k3]; rw [if_neg k4]; rw [if_neg k5]; rw [if_neg k6]; rw [if_neg k7]; rw [if_neg k8]; rw [if_pos k9]
                     have hpk:(parseBlk r.text).2 = 0:=form_text hf (by rw [k9]; rfl)
                     have hh:=(Blk.rng (parseBlk_inv hpk).1).height
                     have hpe:=rparseBlk_eq r.text
                     have hwe:=rparseBlk_eq (s.ownAt (parseBlk r.text).1.height)
                     refine AW_seq ?_
                     refine AW_reg [2,3,4,8,11] fun K hK=>?_
                     simp [init_eq,aload,afieldAddr,dn.gs,dn.gr,dn.gc,RSt.c0,RSt.c1,RSt.c2,RSt.c3,RSt.highC,SRec.parC,SRec.cr,SRec.qr,SRec.cb,take_cells,l13]
                     refine ACalls.mono (rparse_ok G r.text) fun v G1 ⟨pv1,tv1,hr,_,u4⟩=>?_
                     subst hr
                     rw [hpe.1]
                     simp [V.cells]
                     refine ⟨_,blk_store G1 _ pv1 tv1 _ rfl,?_⟩
                     obtain ⟨M1,e4,gb,m1,f1⟩:=boxS G1 [V.i .i64 0,.i .i64 0,.i .i64 0,.i .i64 0,.i .i64 0,.i .i64 0,.i .i64 0,.i .i64 0,.i .i64 0,.i .i64 0,u32 0#32,u32 0#32,.sl none 0 false,.sl none 0 false] ((parseBlk r.text).1.cells pv1 tv1)
                     rw [e4]
                     have dn:=dn.upd (M:=M1) (u4.trans (G:=[]) ⟨by omega,fun j hj _=>f1 j hj⟩ (by simp))
                     apply hK;clear hK K
                     unfold RSt.ownErr at hE
                     generalize hbe:(parseBlk r.text).1 = b at *
                     have hoc:=RSt.ownC (pv:=pv) (bv:=bv) sw hh
                     refine AW_seq ?_
                     refine AW_reg [2,3,4,8,11,13,14] fun K hK=>?_
                     simp [init_eq,aload,afieldAddr,gb,dn.gs,own4_addr hh,hoc]
                     refine ACalls.mono (rparse_ok M1 (s.ownAt b.height)) fun v G2 ⟨pv2,tv2,hr,_,u5⟩=>?_
                     subst hr
                     simp [V.cells]
                     refine ⟨_,blk_store G2 _ pv2 tv2 _ rfl,?_⟩
                     obtain ⟨M2,e5,gw,m2,f2⟩:=boxS G2 [V.i .i64 0,.i .i64 0,.i .i64 0,.i .i64 0,.i .i64 0,.i .i64 0,.i .i64 0,.i .i64 0,.i .i64 0,.i .i64 0,u32 0#32,u32 0#32,.sl none 0 false,.sl none 0 false] ((rparseBlk (s.ownAt b.height)).1.cells pv2 tv2)
                     rw [e5]
                     have uM2:Upd M1 M2 []:=u5.trans (G:=[]) ⟨by omega,fun j hj _=>f2 j hj⟩ (by simp)
                     have dn:=dn.upd uM2
                     have gb:=uM2.keep (by simp) gb
                     have hE:s.errE r = if b.view ≠ s.view then 210 else if 0 < b.height ∧ (rparseBlk (s.ownAt b.height)).2 = 0 then 220 else if b.height = 0 ∧ (rparseBlk (s.ownAt b.height)).2 = 0 ∧ b.round ≤ (rparseBlk (s.ownAt b.height)).1.round then 211 else 0:=by simp only [hE,hwe.1,hwe.2]
                     apply hK;clear hK K
                     generalize rparseBlk (s.ownAt b.height) = was at *
                     refine AW_seq ?_
                     refine AW_seq ?_
                     refine AW_reg [3,4,8,11,13,14,265] fun K hK=>?_
                     simp [init_eq,aload,afieldAddr,dn.gs,dn.gr,dn.gc,RSt.c0,RSt.c1,RSt.c2,RSt.c3,RSt.highC,SRec.parC,SRec.cr,SRec.qr,SRec.cb,take_cells,l13,gb]
                     apply hK;clear hK K
                     refine AW_cond' rfl rfl (fun hx=>?_) (fun hx=>?_)
                     · have y1:b.view ≠ s.view:=by simpa using hx
                       refine AW_seq ?_
                       refine AW_reg [4,5] fun K hK=>?_
                       simp [init_eq,bzR,zs dn.gz]
                       apply hK;clear hK K
                       exact AW_ret (herr _ 210 _ dn.gz dn.u (by rw [hE,if_pos y1]) (by decide) rfl rfl)
                     have y1:b.view = s.view:=by simpa using hx
                     refine AW_skip ?_
                     refine AW_seq ?_
                     refine AW_cutto ⟨324,[(3,.p (some (H.next + 1,0,0))),(4,.p (some (H.next + 2,0,0))),(8,.p (some (H.next + 4,0,0))),(11,.p (some (G1.next,0,0))),(13,.p (some (G2.next,0,0))),(14,.i .i64 was.2),(273,.b (decide (0 < b.height ∧ was.2 = 0)))]⟩ M2 ?_ ?_
                     · refine AW_regto [3,4,8,11,13,14,273] ⟨324,[(3,.p (some (H.next + 1,0,0))),(4,.p (some (H.next + 2,0,0))),(8,.p (some (H.next + 4,0,0))),(11,.p (some (G1.next,0,0))),(13,.p (some (G2.next,0,0))),(14,.i .i64 was.2),(273,.b (decide (0 < b.height ∧ was.2 = 0)))]⟩ M2 (fun K hk=>?_) (rend ⟨rfl,rfl⟩)
                       by_cases z1:0 < b.height
                       · simpa [init_eq,aload,afieldAddr,gb,z1] using hk
                       · simpa [init_eq,aload,afieldAddr,gb,z1] using hk
                     refine AW_cond' rfl rfl (fun hx=>?_) (fun hx=>?_)
                     · have y2:0 < b.height ∧ was.2 = 0:=by simpa using hx
                       refine AW_seq ?_
                       refine AW_reg [4,5] fun K hK=>?_
                       simp [init_eq,bzR,zs dn.gz]
                       apply hK;clear hK K
                       exact AW_ret (herr _ 220 _ dn.gz dn.u (by rw [hE,if_neg (by simp [y1]),if_pos y2]) (by decide) rfl rfl)
                     have y2:¬ (0 < b.height ∧ was.2 = 0):=by simpa using hx
                     refine AW_skip ?_
                     refine AW_seq ?_
                     refine AW_cutto ⟨324,[(3,.p (some (H.next + 1,0,0))),(4,.p (some (H.next + 2,0,0))),(8,.p (some (H.next + 4,0,0))),(11,.p (some (G1.next,0,0))),(288,.b (decide (b.height = 0 ∧ was.2 = 0 ∧ b.round ≤ was.1.round)))]⟩ M2 ?_ ?_
                     · refine AW_regto [3,4,8,11,288] ⟨324,[(3,.p (some (H.next + 1,0,0))),(4,.p (some (H.next + 2,0,0))),(8,.p (some (H.next + 4,0,0))),(11,.p (some (G1.next,0,0))),(288,.b (decide (b.height = 0 ∧ was.2 = 0 ∧ b.round ≤ was.1.round)))]⟩ M2 (fun K hk=>?_) (rend ⟨rfl,rfl⟩)
                       by_cases z1:b.height = 0
                       · by_cases z2:was.2 = 0
                         · simpa [init_eq,aload,afieldAddr,gb,gw,z1,z2] using hk
                         · simpa [init_eq,aload,afieldAddr,gb,gw,z1,z2] using hk
                       · simpa [init_eq,aload,afieldAddr,gb,gw,z1] using hk
                     refine AW_cond' rfl rfl (fun hx=>?_) (fun hx=>?_)
                     · have y3:b.height = 0 ∧ was.2 = 0 ∧ b.round ≤ was.1.round:=by simpa using hx
                       refine AW_seq ?_
                       refine AW_reg [4,5] fun K hK=>?_
                       simp [init_eq,bzR,zs dn.gz]
                       apply hK;clear hK K
                       exact AW_ret (herr _ 211 _ dn.gz dn.u (by rw [hE,if_neg (by simp [y1]),if_neg y2,if_pos y3]) (by decide) rfl rfl)
                     have y3:¬ (b.height = 0 ∧ was.2 = 0 ∧ b.round ≤ was.1.round):=by simpa using hx
                     refine AW_skip ?_
                     obtain ⟨N3,a3,q3,w3⟩:=stF (P:=Tryz.prog) (t:=9) (o:=182 + b.height.toNat) (x:=.s r.text) dn.gn rfl qsize_9 (by rw [RSt.len sw]; simp; omega)
                     rw [RSt.wown sw hh] at q3
                     have hso:(s.setOwn b.height r.text).Wf ∧ (s.setOwn b.height r.text).past = s.past ∧ (s.setOwn b.height r.text).blocks = s.blocks:=by unfold RSt.setOwn; split; exact ⟨⟨sw.f,sw.h⟩,rfl,rfl⟩; split; exact ⟨⟨sw.f,sw.h⟩,rfl,rfl⟩; split <;> exact ⟨⟨sw.f,sw.h⟩,rfl,rfl⟩
                     have d3:=dn.step w3 q3 hso.1 hso.2.1 hso.2.2
                     refine AW_reg [4,8] fun K hK=>?_
                     simp [init_eq,aload,afieldAddr,gb,dn.gr,own4_addr hh,a3]
                     refine hK _ _ (bend (rend ⟨_,by simp,rfl,?_,r.cert,pv,bv,?_⟩))
                     · rw [hE,if_neg (by simp [y1]),if_neg y2,if_neg y3]
                     · rw [hA]; exact d3
                   · have k9:¬ r.kind = 9:=by simpa using hc
                     refine AW_seq ?_
                     refine AW_reg [2,3,4,8,296] fun K hK=>?_
                     simp [init_eq]
                     apply hK;clear hK K
                     refine AW_cond' rfl rfl (fun hc=>?_) (fun hc=>?_)
                     · have k10:r.kind = 10:=by simpa using hc
                       have hE:s.errE r = (if r.text ∈ s.blocks then 100 else 0):=by unfold RSt.errE; rw [if_neg k1]; rw [if_neg k2]; rw [if_neg k3]; rw [if_neg k4]; rw [if_neg k5]; rw [if_neg k6]; rw [if_neg k7]; rw [if_neg k8]; rw [if_neg k9]
                       have hA:s.act r = { s with blocks:=s.blocks ++ [r.text] }:=by unfold RSt.act; rw [if_neg k1]; rw [if_neg k2]; rw [if_neg k3]; rw [if_neg k4]; rw [if_neg k5]; rw [if_neg k6]; rw [if_neg k7]; rw [if_neg k8]; rw [if_neg k9]
                       have rb:RS G bv 1 (s.blocks.map fun t=>[.s t]):=by obtain ⟨F,o,_⟩:=dn.ob; exact o.rsR (f:=strC) (by decide) (fun _=>rfl)
                       have hGn:H.next + 5 ≤ G.next:=AH.get_lt dn.gn
                       have lb:aload Tryz.prog G 40 (.p (some (H.next,0,189))) = some bv:=by simp [aload,dn.gs,RSt.c189 sw]
                       have lt:aload Tryz.prog G 9 (.p (some (H.next + 1,0,21))) = some (.s r.text):=by simp [aload,dn.gr]
                       refine AW_seq ?_
                       refine AW_seq ?_
                       refine AW_reg [2,3,4,8,15] fun K hK=>?_
                       simp [init_eq]
                       apply hK;clear hK K
                       refine AW_block ?_
                       refine AW_loop0 (fun i:Nat=>⟨324,[(2,.p (some (H.next,0,0))),(3,.p (some (H.next + 1,0,0))),(4,.p (some (H.next + 2,0,0))),(8,.p (some (H.next + 4,0,0))),(15,.i .i64 i)]⟩) (fun i=>i ≤ s.blocks.length ∧ ∀ j x,j < i → s.blocks[j]? = some x → x ≠ r.text) (fun i=>s.blocks.length - i) 0 (by simp) (by simp) (by dsimp only; omega) fun hw i ⟨hi,hno⟩=>?_
                       refine AW_seq ?_
                       refine AW_seq ?_
                       refine AW_reg [2,3,4,8,15,302] fun K hK=>?_
                       simp [init_eq,afieldAddr,lb,rb.alen qelem_40]
                       apply hK;clear hK K
                       refine AW_cond' rfl rfl (fun hx=>?_) (fun hx=>?_)
                       · have hlt:i < s.blocks.length:=by simpa using hx
                         obtain ⟨ax,p1,p2⟩:=rb.at1 (P:=Tryz.prog) qelem_40 qsize_9 qagg_9 (k:=.i64) i (x:=.s s.blocks[i]) (by simp [hlt])
                         refine AW_skip ?_
                         refine AW_seq ?_
                         refine AW_block ?_
                         refine AW_seq ?_
                         refine AW_regd [2,3,4,8,15,312] pl_35_79 pe_35_79 (by kernel_rfl) (by kernel_rfl) (by decide) fun K hK=>?_
                         simp [init_eq,pl_35_79,afieldAddr,lb,lt,p1,p2]
                         apply hK;clear hK K
                         refine AW_cond' rfl rfl (fun hx2=>?_) (fun hx2=>?_)
                         · have y1:s.blocks[i] = r.text:=by simpa using hx2
                           refine AW_seq ?_
                           refine AW_reg [4,5] fun K hK=>?_
                           simp [init_eq,bzR,zs dn.gz]
                           apply hK;clear hK K
                           exact AW_ret (herr _ 100 _ dn.gz dn.u (by rw [hE,if_pos (by rw [← y1]; exact List.getElem_mem hlt)]) (by decide) rfl rfl)
                         · have y1:s.blocks[i] ≠ r.text:=by simpa using hx2
                           refine AW_skip ?_
                           refine AW_reg [2,3,4,8,15] fun K hK=>?_
                           simp [init_eq,wrap_id (x:=(i:Int) + 1) (by omega) (by omega)]
                           apply hK;clear hK K
                           refine rend ⟨i + 1,by simp,⟨by omega,fun j x hj hx3=>?_⟩,by omega,.inl rfl⟩
                           by_cases hji:j < i
                           · exact hno j x hji hx3
                           · obtain rfl:j = i:=by omega
                             rw [List.getElem?_eq_getElem hlt] at hx3
                             cases hx3
                             exact y1
                       have hi':i = s.blocks.length:=by
                        have:¬ i < s.blocks.length:=by simpa using hx
                        omega
                       have hE0:s.errE r = 0:=by
                        rw [hE,if_neg (fun h=>?_)]
                        obtain ⟨j,hj,e⟩:=List.getElem_of_mem h
                        exact hno j _ (by omega) (List.getElem?_eq_getElem hj) e
                       refine AW_exit (then_exit (then_exit (block_here ?_)))
                       have e0:∀ M:AH,abuildSlice Tryz.prog M 40 0 [] = some (.sl (some (M.next,0,0)) 0 false,M.new (.cells [] 0 false 1)):=fun M=>by simp [abuildSlice,afill,V.cells]
                       have ex:∀ M:AH,abuildSlice Tryz.prog M 40 1 [(0,.s r.text)] = some (.sl (some (M.next,0,0)) 1 false,M.new (.cells [.s r.text] 0 false 1)):=fun M=>by simp [abuildSlice,afill,V.cells,splice_zero]
                       have b1:H.next + 1 ≤ G.next:=by omega
                       have b2:H.next + 2 ≤ G.next:=by omega
                       have rb2:RS G bv 1 (s.blocks.map strC):=rb
                       refine AW_regm (.base G.next) [4,8] pl_35_81 pe_35_81 (by kernel_rfl) (by kernel_rfl) (by decide) fun K hK=>?_
                       have fin:∀ (M:AH) (v2:V) (F2:List Nat),Own M v2 1 ((s.blocks ++ [r.text]).map strC).flatten F2 → Upd G M [] → (∀ j ∈ F2,G.next ≤ j) → ∃ M2,astore Tryz.prog M 40 (.p (some (H.next + 4,0,189))) v2 = some M2 ∧ K ⟨324,[(4,.p (some (H.next + 2,0,0))),(8,.p (some (H.next + 4,0,0)))]⟩ M2:=by
                        intro M v2 F2 o u hF
                        have d2:=dn.upd u
                        obtain ⟨M2,a,q,w⟩:=stF (P:=Tryz.prog) (t:=40) (o:=189) (x:=v2) d2.gn o.cells qsize_40 (by rw [RSt.len sw]; simp)
                        rw [RSt.w189 sw] at q
                        refine ⟨M2,a,hK _ _ (bend (rend ⟨_,by simp,rfl,hE0,r.cert,pv,v2,?_⟩))⟩
                        rw [hA]
                        refine ⟨w.keep (by simp) d2.gs,w.keep (by simp) d2.gr,w.keep (by simp) d2.gz,w.keep (by simp) d2.gc,q,⟨sw.f,sw.h⟩,d2.op.step w (by simp) (fun j h=>.inl h),⟨F2,o.upd w (fun j hj h=>by have:=hF j hj; simp at h; omega),fun j hj h=>?_⟩,d2.u.trans w (fun j hj=>.inr (by simp at hj; omega))⟩
                        have:=hF j hj
                        rcases List.mem_append.1 h with h | h
                        · simp at h; omega
                        · have:=hB j h; omega
                       simp [init_eq,pl_35_81,APlan_takem,through,tkOk,Go.Abs.rid,afieldAddr,lb,lt,e0,ex,b1,b2]
                       have uA:Upd G (G.new (.cells [] 0 false 1)) []:=Upd.new ..
                       have uT:Upd G (G.new (.cells [.s r.text] 0 false 1)) []:=Upd.new ..
                       refine ⟨⟨?_,?_⟩,?_⟩
                       · obtain ⟨v1,M1,F1,a1,o1,u1',f1⟩:=copyStr (Own.made G 1) (rb2.upd uA) (by simp; omega)
                         refine ⟨v1,M1,a1,keepU u1' (by simp),?_⟩
                         have uB:Upd M1 (M1.new (.cells [.s r.text] 0 false 1)) []:=Upd.new ..
                         obtain ⟨v2,M2,F2,a2,o2,u2',f2⟩:=moreStr (o1.upd uB (by simp)) (AH.get_new_same ..) hbl
                         have l1:∀ j ∈ F1,G.next ≤ j:=fun j hj=>(f1 j hj).elim (fun h=>by simp at h; omega) (fun h=>by simp at h; omega)
                         have uG1:Upd G M1 []:=uA.trans u1' (fun j hj=>.inr (by simp at hj; omega))
                         exact ⟨v2,M2,a2,fin M2 v2 F2 o2 ((uG1.trans uB (by simp)).trans u2' (fun j hj=>.inr (l1 j hj))) (fun j hj=>(f2 j hj).elim (l1 j) (fun h=>by have:=uG1.1; simp at h; omega))⟩
                       · have uB:Upd (G.new (.cells [] 0 false 1)) ((G.new (.cells [] 0 false 1)).new (.cells [.s r.text] 0 false 1)) []:=Upd.new ..
                         obtain ⟨v1,M1,F1,a1,o1,u1',f1⟩:=copyStr ((Own.made G 1).upd uB (by simp)) ((rb2.upd uA).upd uB) (by simp; omega)
                         refine ⟨v1,M1,a1,keepU u1' (by simp),?_⟩
                         have hx:M1.get (G.next + 1) = some (.cells [.s r.text] 0 false 1):=u1'.keep (by simp) (AH.get_new_same ..)
                         obtain ⟨v2,M2,F2,a2,o2,u2',f2⟩:=moreStr o1 hx hbl
                         have l1:∀ j ∈ F1,G.next ≤ j:=fun j hj=>(f1 j hj).elim (fun h=>by simp at h; omega) (fun h=>by simp at h; omega)
                         have uG1:Upd G M1 []:=(uA.trans uB (by simp)).trans u1' (fun j hj=>.inr (by simp at hj; omega))
                         exact ⟨v2,M2,a2,fin M2 v2 F2 o2 (uG1.trans u2' (fun j hj=>.inr (l1 j hj))) (fun j hj=>(f2 j hj).elim (l1 j) (fun h=>by have:=uG1.1; omega))⟩
                       · have uB:Upd (G.new (.cells [.s r.text] 0 false 1)) ((G.new (.cells [.s r.text] 0 false 1)).new (.cells [] 0 false 1)) []:=Upd.new ..
                         obtain ⟨v1,M1,F1,a1,o1,u1',f1⟩:=copyStr (Own.made (G.new (.cells [.s r.text] 0 false 1)) 1) ((rb2.upd uT).upd uB) (by simp; omega)
                         refine ⟨v1,M1,a1,keepU u1' (by simp),?_⟩
                         have hx:M1.get G.next = some (.cells [.s r.text] 0 false 1):=u1'.keep (by simp) (uB.keep (by simp) (AH.get_new_same ..))
                         obtain ⟨v2,M2,F2,a2,o2,u2',f2⟩:=moreStr o1 hx hbl
                         have l1:∀ j ∈ F1,G.next ≤ j:=fun j hj=>(f1 j hj).elim (fun h=>by simp at h; omega) (fun h=>by simp at h; omega)
                         have uG1:Upd G M1 []:=(uT.trans uB (by simp)).trans u1' (fun j hj=>.inr (by simp at hj; omega))
                         exact ⟨v2,M2,a2,fin M2 v2 F2 o2 (uG1.trans u2' (fun j hj=>.inr (l1 j hj))) (fun j hj=>(f2 j hj).elim (l1 j) (fun h=>by have:=uG1.1; omega))⟩
                     · have k10:¬ r.kind = 10:=by simpa using hc
                       exact absurd rng.kind (by omega)
 · rintro ρ' X ⟨rfl,he,c,pv',bv',dx⟩
   have hd:s.doR r = (s.act r,0):=by unfold RSt.doR; rw [if_neg (by simp [hf]),if_neg (by simp [he])]
   rw [hd]
   obtain ⟨Y,hY⟩:∃ Y,Y = X.set (H.next + 2) (.cells ((s.act r).cells pv' bv') 0 false 0):=⟨_,rfl⟩
   have uY:Upd X Y [H.next + 2]:=by rw [hY]; exact Upd.set _ _ _ (by simp)
   have gY:Y.get (H.next + 2) = some (.cells ((s.act r).cells pv' bv') 0 false 0):=by rw [hY]; exact AH.get_set_same (AH.get_lt dx.gz)
   refine AW_seq ?_
   refine AW_reg [4,5] fun K hK=>?_
   simp [init_eq,aload,dx.gn,RSt.take dx.wf,RSt.len dx.wf,rs_store dx.gz zeroR_len dx.wf]
   rw [← hY]
   apply hK;clear hK K
   have lessB:∀ j ∈ B,j ∈ [H.next,H.next + 1,H.next + 2,H.next + 3,H.next + 4] ++ B:=fun j h=>List.mem_append.2 (.inr h)
   exact AW_ret (end_ret (ares_cell_tmp (v:=.agg ((s.act r).cells pv' bv')) (by simp [aload,gY,RSt.take dx.wf,RSt.len dx.wf])) ⟨pv',bv',rfl,(dx.op.step uY (by simp) (fun j h=>.inl h)).less lessB,(dx.ob.step uY (by simp) (fun j h=>.inl h)).less lessB,dx.u.trans uY (fun j hj=>.inr (by simp at hj; omega))⟩)
end Go.Proofs.YtaidfojbnfkclaaGreatDoor
