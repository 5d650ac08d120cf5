/-
  Both states behind records: the document's New,and law 21's behind.
-/
import Derived.Test.YtaidfojbnfkclaaGreatDoorRDo2
import Derived.Test.YtaidfojbnfkclaaGreatDoorSafArg
set_option linter.unusedVariables false
set_option linter.unusedSimpArgs false
namespace Go.Proofs.YtaidfojbnfkclaaGreatDoor
open Go Go.Abs Go.Proofs
set_option maxRecDepth 100000
attribute [local irreducible] AEnd AW ACalls
def RSt.start (last:Int):RSt:={ RSt.zero with last:=last,view:=1 }
theorem RSt.start_wf (last:Int):(RSt.start last).Wf:=⟨rfl,rfl⟩
theorem rnew_ok (H:AH) (last:Int):ACalls Tryz.prog 34 [.i .i64 last] H fun v H' =>
  v = (if lastOk last then .tup [.agg ((RSt.start last).cells nilV nilV),.i .i64 0] else .tup [.agg zeroR,.i .i64 1]) ∧ H' = H:=by
 refine ACalls.pure (Q:=fun v=>v = (if lastOk last then .tup [.agg ((RSt.start last).cells nilV nilV),.i .i64 0] else .tup [.agg zeroR,.i .i64 1])) ⟨_,Tryz.func34,rfl,rfl⟩ ?_
 refine ACalls_body Tryz.func34 rfl rfl ?_
 refine AW_seq ?_
 refine AW_reg [0,2] fun K hK=>?_
 simp [init_eq,V.cells]
 obtain ⟨G,e1,g1,gn,go⟩:=H.boxed zeroR
 change K _ (H.new (.cells zeroR 0 false 0))
 rw [e1]
 apply hK;clear hK K
 have hst:∀ s:RSt,s.Wf → astore Tryz.prog G 45 (.p (some (H.next,0,0))) (.agg (s.cells nilV nilV)) = some (G.set H.next (.cells (s.cells nilV nilV) 0 false 0)):=fun s w=>rs_store g1 zeroR_len w _ _
 have hend:∀ s:RSt,H.next ≤ (G.set H.next (.cells (s.cells nilV nilV) 0 false 0)).next ∧ ∀ j,j < H.next → (G.set H.next (.cells (s.cells nilV nilV) 0 false 0)).get j = H.get j:=fun s=>⟨by simp; omega,fun j hj=>by rw [AH.get_set_ne (by omega)]; exact go j hj⟩
 refine AW_seq ?_
 refine AW_cutto ⟨13,[(0,.i .i64 last),(2,.p (some (H.next,0,0))),(9,.b (!lastOk last))]⟩ G ?_ ?_
 · refine AW_regto [0,2,9] ⟨13,[(0,.i .i64 last),(2,.p (some (H.next,0,0))),(9,.b (!lastOk last))]⟩ G (fun K hk=>?_) (rend ⟨rfl,rfl⟩)
   by_cases h1:last < 1
   · have h2:lastOk last = false:=by simp [lastOk]; omega
     simpa [init_eq,h1,h2] using hk
   · have h2:(!lastOk last) = decide (1048576 < last):=by
       rw [Bool.eq_iff_iff]; simp [lastOk]; omega
     simpa [init_eq,h1,h2] using hk
 refine AW_cond' rfl rfl (fun hc=>?_) (fun hc=>?_)
 · have h0:lastOk last = false:=by simpa using hc
   refine AW_seq ?_
   refine AW_reg [2,3] fun K hK=>?_
   have hz:astore Tryz.prog G 45 (.p (some (H.next,0,0))) (.agg zeroR) = some (G.set H.next (.cells zeroR 0 false 0)):=hst RSt.zero RSt.zero_wf
   simp [init_eq,bzR,hz]
   apply hK;clear hK K
   have:=hend RSt.zero
   exact AW_ret (end_ret (ares_cell_tmp (v:=.agg zeroR) (by simp [aload,AH.get_set_same (AH.get_lt g1)]; exact ⟨by decide,rfl⟩)) ⟨by rw [h0]; rfl,rfl,this⟩)
 · have h0:lastOk last = true:=by simpa using hc
   refine AW_skip ?_
   refine AW_seq ?_
   have hb:abuild Tryz.prog 45 [(0,.i .i64 last),(1,.i .i64 1)] = some (.agg ((RSt.start last).cells nilV nilV)):=by
    simp [abuild,afill,V.cells]
    exact ⟨by simp [splice],rfl⟩
   refine AW_reg [2,3] fun K hK=>?_
   simp [init_eq,hb,hst _ (RSt.start_wf last)]
   apply hK;clear hK K
   have:=hend (RSt.start last)
   exact AW_ret (end_ret (ares_cell_tmp (v:=.agg ((RSt.start last).cells nilV nilV)) (by simp [aload,AH.get_set_same (AH.get_lt g1),RSt.take (RSt.start_wf last),RSt.len (RSt.start_wf last)])) ⟨by rw [h0]; rfl,by show V.lt _ (V.agg _) = true; rfl,this⟩)
theorem start_rel (last:Int):Rel (SSt.start last) (RSt.start last):=by
 have hz:∀ a:Int,(List.replicate 10 Cert.zero).getD a.toNat Cert.zero = Cert.zero:=fun a=>by
  rw [List.getD_eq_getElem?_getD,List.getElem?_replicate]; split <;> rfl
 exact ⟨rfl,rfl,rfl,rfl,rfl,rfl,rfl,(fun a ha=>(hz a).symm),(fun a ha=>(hz a).symm),(fun c hc=>by cases hc),rfl,rfl,rfl,rfl,rfl,rfl,rfl,rfl,rfl,⟨rfl,rfl⟩⟩
/-- The memory of behind. -/
structure BS (H G:AH) (s:SSt) (m:RSt) (fv hv pv bv pm bm:V) (k:Nat):Prop where
 g0:G.get H.next = some (.cells zeroS 0 false 0)
 g1:G.get (H.next + 1) = some (.cells zeroR 0 false 0)
 gs:G.get (H.next + 2) = some (.cells (s.cells fv hv pv bv) 0 false 0)
 gm:G.get (H.next + 3) = some (.cells (m.cells pm bm) 0 false 0)
 f:OXR G [H.next,H.next + 1,H.next + 2,H.next + 3] fv 8 (s.falls.map Cert.cells).flatten
 h:OXR G [H.next,H.next + 1,H.next + 2,H.next + 3] hv 8 (s.heads.map Cert.cells).flatten
 p:OXR G [H.next,H.next + 1,H.next + 2,H.next + 3] pv 1 (s.past.map setC).flatten
 b:OXR G [H.next,H.next + 1,H.next + 2,H.next + 3] bv 1 (s.blocks.map strC).flatten
 mp:OXR G [H.next,H.next + 1,H.next + 2,H.next + 3] pm 1 (m.past.map setC).flatten
 mb:OXR G [H.next,H.next + 1,H.next + 2,H.next + 3] bm 1 (m.blocks.map strC).flatten
 rel:Rel s m
 ok:s.Ok k
 u:Upd H G []
section
variable {H G M:AH} {s:SSt} {m:RSt} {fv hv pv bv pm bm:V} {k:Nat}
theorem BS.upd (d:BS H G s m fv hv pv bv pm bm k) (u:Upd G M []):BS H M s m fv hv pv bv pm bm k :=
 ⟨u.keep (by simp) d.g0,u.keep (by simp) d.g1,u.keep (by simp) d.gs,u.keep (by simp) d.gm,d.f.step u (by simp) (fun j h=>.inl h),d.h.step u (by simp) (fun j h=>.inl h),d.p.step u (by simp) (fun j h=>.inl h),d.b.step u (by simp) (fun j h=>.inl h),d.mp.step u (by simp) (fun j h=>.inl h),d.mb.step u (by simp) (fun j h=>.inl h),d.rel,d.ok,d.u.trans u (by simp)⟩
theorem BS.mono (d:BS H G s m fv hv pv bv pm bm k):BS H G s m fv hv pv bv pm bm (k + 1):={ d with ok:=d.ok.mono (Nat.le_succ k) }
theorem OXR.rsC {B:List Nat} {v:V} {l:List Cert} (h:OXR G B v 8 (l.map Cert.cells).flatten):RS G v 8 (l.map Cert.cells):=by
 obtain ⟨_,a,_⟩:=h; exact a.rsR (f:=Cert.cells) (by decide) Cert.len
theorem OXR.rsS {B:List Nat} {v:V} {l:List (BitVec 32)} (h:OXR G B v 1 (l.map setC).flatten):RS G v 1 (l.map setC):=by
 obtain ⟨_,a,_⟩:=h; exact a.rsR (f:=setC) (by decide) (fun _=>rfl)
theorem OXR.rsT {B:List Nat} {v:V} {l:List (List UInt8)} (h:OXR G B v 1 (l.map strC).flatten):RS G v 1 (l.map strC):=by
 obtain ⟨_,a,_⟩:=h; exact a.rsR (f:=strC) (by decide) (fun _=>rfl)
theorem BS.sat (d:BS H G s m fv hv pv bv pm bm k):SAt G s fv hv pv bv:=⟨d.f.rsC,d.h.rsC,d.p.rsS,d.b.rsT⟩
end
end Go.Proofs.YtaidfojbnfkclaaGreatDoor
