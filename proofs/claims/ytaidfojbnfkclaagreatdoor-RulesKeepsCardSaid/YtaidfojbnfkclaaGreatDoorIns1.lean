/-
  slices.Insert of one certificate,ahead of the end: what the run does to the memory.
-/
import Derived.Test.YtaidfojbnfkclaaGreatDoorYtaidfojbnfkclaaGreatDoorFacts
import Derived.Shelf.RegionOpenPlain
import Derived.WalkKit
import Derived.Lib.Walk
import Derived.Lib.SliceRun
import Derived.Lib.JoinLaws
import Derived.Lib.AppendZeros
import Derived.Lib.Overlaps
import Derived.Laws.Externs
import Derived.Laws.IdiomCopy
import Derived.Lib.AppendZerosOnto
import Derived.Laws.NewBlocks
set_option linter.unusedVariables false
set_option linter.unusedSimpArgs false
namespace Go.Proofs.YtaidfojbnfkclaaGreatDoor
open Go Go.Proofs Go.Shelf Go.RowKit Go.Lib
theorem iwp_copy (w:World) {o:Oper} {a:Act} {K:Act → World → Prop} {Q:Exit → Act → World → Prop} (d s:Operand) (t t':TypeId)
  (ho:o.op = .call { callee:=.builtin .copy,args:=#[d,s],argTypes:=#[t,t'] }) (v u:Value) (hd:a.eval d = v) (hs:a.eval s = u) {v':Value} {w':World}
  (hr:(Builtin.copy_ #[t,t'] o.type #[v,u]).run Tryz.prog w = .ok v' w') (h:K (a.put o.dst v') w'):o.wp Tryz.prog a w K Q:=by
 unfold Oper.wp execOp
 simp only [ho,resolve,invoke,builtin,Sem.run_bind,Sem.run_pure,Result.andThen_ok,List.map_toArray,List.map_cons,List.map_nil,hd,hs,hr]
 exact h
theorem iwpList_copy (w:World) {ops:Array Oper} {rest:List Oper} {o:Oper} {a:Act} {Q:Exit → Act → World → Prop} (hgd:o.guard = none) (d s:Operand) (t t':TypeId)
  (ho:o.op = .call { callee:=.builtin .copy,args:=#[d,s],argTypes:=#[t,t'] }) (v u:Value) (hd:a.eval d = v) (hs:a.eval s = u) {v':Value} {w':World}
  (hr:(Builtin.copy_ #[t,t'] o.type #[v,u]).run Tryz.prog w = .ok v' w') (h:wpList Tryz.prog ops Q rest (a.put o.dst v') w'):wpList Tryz.prog ops Q (o :: rest) a w :=
 wpList_plain hgd fun _ hK=>iwp_copy w d s t t' ho v u hd hs hr (hK _ _ h)
theorem istep_copy {ops:Array Oper} {o:Oper} {a:Act} {w:World} {K:Act → World → Prop} {Q:Exit → Act → World → Prop} {E:Prop}
  (hg:o.guard = none) (d x:Operand) (dT sT:TypeId) (hop:o.op = Op.call { callee:=Callee.builtin Builtin.copy,args:=#[d,x],argTypes:=#[dT,sT] })
  (v u:Value) (hd:a.eval d = v) (hx:a.eval x = u) {v':Value} {w':World} (hr:(Builtin.copy_ #[dT,sT] o.type #[v,u]).run Tryz.prog w = .ok v' w') (hK:K (a.put o.dst v') w') :
  if Region.wanted o (yielded ops a.tmps) = true then Oper.wp Tryz.prog o a w K Q else E:=by
 have hw:Region.wanted o (yielded ops a.tmps) = true:=by simp [Region.wanted,hg]
 rw [if_pos hw]
 unfold Oper.wp
 simp [execOp,hop,resolve,invoke,builtin,hd,hx,hr,Result.andThen]
 exact hK
theorem isome_setCells (b:Nat) (vs:List Value) (o:Nat) (w:World) (h:∀ j,j < vs.length → (w.cell? ⟨b,o + j,none⟩).isSome = true) (k:Nat) (hk:(w.cell? ⟨b,k,none⟩).isSome = true):((w.setCells b o vs).cell? ⟨b,k,none⟩).isSome = true:=by
 by_cases hin:o ≤ k ∧ k < o + vs.length
 · have:=World.cell?_setCells_in b vs o w h (k - o) (by omega)
   rw [show o + (k - o) = k by omega] at this
   rw [this]; rfl
 · rw [World.cell?_setCells_out b vs o w ⟨b,k,none⟩ (fun _ _=>by show k < o ∨ o + vs.length ≤ k; omega)]
   exact hk
/-- Records of k cells go over. -/
theorem run_copy_k {P:Program} (w:World) (dT sT ty elem:TypeId) (k b o dLen dCap:Nat) (a:Addr) (sLen sCap:Nat) (cs:List Value)
  (hu:P.underlying dT = some (.slice elem)) (hs:(P.info? elem).map (·.size) = some k) (hn:cs.length = Nat.min sLen dLen * k)
  (hsrc:∀ j v,cs[j]? = some v → w.cell? (a.add j) = some v) (hc:∀ j,j < cs.length → (w.cell? ⟨b,o + j,none⟩).isSome = true) (hf:∀ j,j < cs.length → w.frozen? ⟨b,o + j,none⟩ = false) (h1:∀ v ∈ cs,v.oneCell' = true) :
  (Builtin.copy_ #[dT,sT] ty #[.slice (some ⟨b,o,none⟩) dLen dCap,.slice (some a) sLen sCap]).run P w = .ok (goInt (Nat.min sLen dLen)) (w.setCells b o cs):=by
 have hl:=run_loadCells_list (P:=P) w a cs hsrc
 have hst:=run_storeCells_cells (P:=P) b o cs 0 w (by simpa using hc) (by simpa using hf) h1
 cases hq:P.info? elem with
 | none=>simp [hq] at hs
 | some i =>
   have hi:i.size = k:=by simpa [hq] using hs
   simp [Builtin.copy_,run_underlying hu,Builtin.lenOf,Builtin.firstCells,sizeOf,typeInfo,hq,hi,← hn,hl,hst]
abbrev iF:FuncId:=96
abbrev iS:TypeId:=37
abbrev iC:TypeId:=24
theorem icert_info:(Tryz.prog.info? iC).map (·.size) = some 8:=by kernel_rfl
theorem z_cert (w:World):(Go.sizeOf iC).run Tryz.prog w = .ok 8 w:=by
 have h:=icert_info
 cases hq:Tryz.prog.info? iC with
 | none=>rw [hq] at h; cases h
 | some i =>
   rw [hq] at h
   have:i.size = 8:=by simpa using h
   simp [Go.sizeOf,typeInfo,hq,this]
set_option maxHeartbeats 4000000 in
set_option maxRecDepth 100000 in
/-- There is room: in place. -/
theorem ins_shift (b off n c i vb voff vc:Nat) (cs vs:List Value) (w:World) (hi:i < n) (hroom:n + 1 ≤ c) (hn63:n ≤ 1000000000) (hvb:vb ≠ b)
  (hcl:cs.length = n * 8) (hvl:vs.length = 8)
  (hcs:∀ j v,cs[j]? = some v → w.cell? ⟨b,off + j,none⟩ = some v) (hsp:∀ j,j < (n + 1) * 8 → (w.cell? ⟨b,off + j,none⟩).isSome = true) (hfz:∀ j,j < (n + 1) * 8 → w.frozen? ⟨b,off + j,none⟩ = false)
  (hvs:∀ j v,vs[j]? = some v → w.cell? ⟨vb,voff + j,none⟩ = some v) (h1c:∀ v ∈ cs,v.oneCell' = true) (h1v:∀ v ∈ vs,v.oneCell' = true)
  (tA tB:TypeId) (kA kB:Nat) (hsa:w.shape? vb = some (tA,kA)) (hsb:w.shape? b = some (tB,kB)) (hkB:kB ≠ 0) (hfa:w.frozen? ⟨vb,voff,none⟩ = false) (hfe:w.frozen? ⟨vb,kA,none⟩ = false) :
  Calls Tryz.prog iF #[.slice (some ⟨b, off, none⟩) n c, .int .i64 i, .slice (some ⟨vb, voff, none⟩) 1 vc] w fun e w' =>
   e = .returned (.slice (some ⟨b,off,none⟩) (n + 1) c) ∧ w' = (w.drew.setCells b (off + (i + 1) * 8) (cs.drop (i * 8))).setCells b (off + i * 8) vs:=by
 have u24:=run_underlying Tryz.underlying37
 have zc:=z_cert
 have mixed:Tryz.prog.follows .mixedOrders = true:=by kernel_rfl
 have hz2:¬ ((i:Int) = (n:Int)):=by omega
 have hov:∀ lb cb,(callFunc 121 #[.slice (some ⟨vb,voff,none⟩) 1 vc,.slice (some ⟨b,off + (i + 1) * 8,none⟩) lb cb]).run Tryz.prog w = .ok (.value (.bool false)) w:=fun lb cb=>by
  rw [run_callFunc_extern Tryz.func121 (by kernel_rfl) (by kernel_rfl) (by kernel_rfl) (e:=Extern.SlicesOverlaps.overlaps #[iS,iS] #[4]) (by kernel_rfl),
   Lib.run_overlaps_apart w iS 4 iC Tryz.underlying37 8 z_cert ⟨vb,voff,none⟩ ⟨b,off + (i + 1) * 8,none⟩ 1 vc lb cb hvb tA tB kA kB hsa hsb hkB hfa hfe]
  rfl
 have hdl:(cs.drop (i * 8)).length = (n - i) * 8:=by rw [List.length_drop,hcl,Nat.sub_mul]
 have hw1:IntKind.i64.wrap ((i:Int) + 1) = (i:Int) + 1:=by rw [IntKind.wrap_i64]; omega
 have hw2:IntKind.i64.wrap ((n:Int) + 1) = (n:Int) + 1:=by rw [IntKind.wrap_i64]; omega
 have hb1:(0:Int) ≤ (i:Int) + 1:=by omega
 have hin:i ≤ n:=by omega
 have htn:((i:Int) + 1).toNat = i + 1:=by omega
 have hb2:¬ (c = i + 1):=by omega
 have hb3:(i:Int) ≤ (n:Int) + 1:=by omega
 have hb4:¬ (c = i):=by omega
 have hcp1:∀ ty dc sc,(Builtin.copy_ #[iS,iS] ty #[.slice (some ⟨b,off + (i + 1) * 8,none⟩) (n - i) dc,.slice (some ⟨b,off + i * 8,none⟩) (n + 1 - i) sc]).run Tryz.prog w.drew = .ok (goInt (n - i:Nat)) (w.drew.setCells b (off + (i + 1) * 8) (cs.drop (i * 8))):=fun ty dc sc=>by
  have hm:Nat.min (n + 1 - i) (n - i) = n - i:=by simp only [Nat.min_def]; split <;> omega
  have:=run_copy_k (P:=Tryz.prog) w.drew iS iS ty iC 8 b (off + (i + 1) * 8) (n - i) dc ⟨b,off + i * 8,none⟩ (n + 1 - i) sc (cs.drop (i * 8)) Tryz.underlying37 icert_info (by rw [hdl,hm])
   (fun j v hj=>by rw [Addr.add_lit,Nat.add_assoc]; exact hcs (i * 8 + j) v (by rwa [List.getElem?_drop] at hj))
   (fun j hj=>by rw [Nat.add_assoc]; exact hsp _ (by omega)) (fun j hj=>by rw [Nat.add_assoc]; exact hfz _ (by omega)) (fun v hv=>h1c v (List.mem_of_mem_drop hv))
  rw [hm] at this
  exact this
 obtain ⟨W1,hW1⟩:∃ W1,W1 = w.drew.setCells b (off + (i + 1) * 8) (cs.drop (i * 8)):=⟨_,rfl⟩
 have hsp1:∀ k,k < (n + 1) * 8 → (W1.cell? ⟨b,off + k,none⟩).isSome = true:=fun k hk=>by
  rw [hW1]
  exact isome_setCells b _ _ _ (fun j hj=>by rw [Nat.add_assoc]; exact hsp _ (by omega)) _ (hsp k hk)
 have hcp2:∀ (W:World),(∀ x,W.cell? x = W1.cell? x) → (∀ x,W.frozen? x = W1.frozen? x) → ∀ ty dc,(Builtin.copy_ #[iS,iS] ty #[.slice (some ⟨b,off + i * 8,none⟩) (n + 1 - i) dc,.slice (some ⟨vb,voff,none⟩) 1 vc]).run Tryz.prog W = .ok (goInt 1) (W.setCells b (off + i * 8) vs):=fun W hWc hWf ty dc=>by
  have hm:Nat.min 1 (n + 1 - i) = 1:=by simp only [Nat.min_def]; split <;> omega
  have:=run_copy_k (P:=Tryz.prog) W iS iS ty iC 8 b (off + i * 8) (n + 1 - i) dc ⟨vb,voff,none⟩ 1 vc vs Tryz.underlying37 icert_info (by rw [hvl,hm])
   (fun j v hj=>by
     rw [Addr.add_lit,hWc,hW1,World.cell?_setCells_out b _ _ _ _ (fun h _=>absurd h hvb)]
     exact hvs j v hj)
   (fun j hj=>by rw [hWc,Nat.add_assoc]; exact hsp1 _ (by omega)) (fun j hj=>by rw [hWf,hW1,World.frozen?_setCells,Nat.add_assoc]; exact hfz _ (by omega)) h1v
  rw [hm] at this
  exact this
 rw [← hW1] at hcp1
 go_enter Tryz.func96,Tryz.ntmps96
 go_wp2_with (simp only [hov])
 go_region_law_o (refine istep_copy rfl _ _ iS iS rfl _ _ (by simp [Act.eval,Act.put]) (by simp [Act.eval,Act.put]) (hcp1 _ _ _) ?_)
 go_wp2_with (at_builtin; refine iwpList_copy _ rfl _ _ iS iS rfl _ _ rfl rfl (hcp2 _ (fun _=>rfl) (fun _=>rfl) _ _) ?_)
 go_ret
 first | exact ⟨rfl,rfl⟩ | exact ⟨rfl,by rw [hW1]⟩
theorem info_parts' {P:Program} {t:TypeId} {z:Value} {k n:Nat} (h:(P.info? t).map (fun i=>(i.zero,i.size,i.bytes)) = some (some z,k,n)):∃ i,P.info? t = some i ∧ i.zero = some z ∧ i.size = k ∧ i.bytes = n:=by
 cases hq:P.info? t with
 | none=>rw [hq] at h; cases h
 | some i =>
   rw [hq] at h
   simp only [Option.map_some,Option.some.injEq,Prod.mk.injEq] at h
   exact ⟨i,rfl,h.1,h.2.1,h.2.2⟩
def zcert:Value:=.agg #[.int .i64 0,.int .i64 0,.int .i64 0,.int .i64 0,.int .i64 0,.int .i64 0,.int .u32 0,.int .u32 0]
theorem icert_parts:(Tryz.prog.info? iC).map (fun i=>(i.zero,i.size,i.bytes)) = some (some zcert,8,56):=by kernel_rfl
set_option maxHeartbeats 8000000 in
set_option maxRecDepth 100000 in
/-- There is no room: a new row. -/
theorem ins_grow (b off n c i vb voff vc:Nat) (cs vs:List Value) (w:World) (hi:i < n) (hnc:n ≤ c) (hroom:c < n + 1) (hn63:n ≤ 1000000000)
  (hcl:cs.length = n * 8) (hvl:vs.length = 8)
  (hcs:∀ j v,cs[j]? = some v → w.cell? ⟨b,off + j,none⟩ = some v)
  (hvs:∀ j v,vs[j]? = some v → w.cell? ⟨vb,voff + j,none⟩ = some v) (h1c:∀ v ∈ cs,v.oneCell' = true) (h1v:∀ v ∈ vs,v.oneCell' = true) :
  Calls Tryz.prog iF #[.slice (some ⟨b, off, none⟩) n c, .int .i64 i, .slice (some ⟨vb, voff, none⟩) 1 vc] w fun e w' =>
   ∃ G,n + 1 ≤ G ∧ e = .returned (.slice (some ⟨w.heap.size,0,none⟩) (n + 1) G) ∧
   w' = (((w.alloc (.cells ((cs.take (i * 8)).toArray ++ Builtin.zeroCells zcert.cells (n + 1 - i) ++ Builtin.zeroCells zcert.cells (G - (n + 1))) iC)).drew.setCells w.heap.size (i * 8) vs).drew).setCells w.heap.size ((i + 1) * 8) (cs.drop (i * 8)):=by
 have u24:=run_underlying Tryz.underlying37
 have zc:=z_cert
 have mixed:Tryz.prog.follows .mixedOrders = true:=by kernel_rfl
 obtain ⟨i0,hi0,hz0,hzs,hzb⟩:=info_parts' icert_parts
 have hz2:¬ ((i:Int) = (n:Int)):=by omega
 have hz3:(c:Int) < (n:Int) + 1:=by omega
 have hbw:b < w.heap.size:=World.block_lt_of_cell? w _ (hcs 0 _ (List.getElem?_eq_getElem (by omega)))
 have hvw:vb < w.heap.size:=World.block_lt_of_cell? w _ (hvs 0 _ (List.getElem?_eq_getElem (by omega)))
 have hkk:(n:Int) + 1 - (i:Int) = ((n + 1 - i:Nat):Int):=by omega
 have hik:i + (n + 1 - i) = n + 1:=by omega
 have hold:(Builtin.firstCells i0.size i (.slice (some ⟨b,off,none⟩) i c)).run Tryz.prog w.drew = .ok (cs.take (i * 8)).toArray w.drew:=by
  rw [hzs]
  exact run_firstCells_some w.drew 8 i ⟨b,off,none⟩ i c (cs.take (i * 8)) (by rw [List.length_take]; omega) (fun j v hj=>by
   rw [Addr.add_lit]
   rw [List.getElem?_take] at hj
   split at hj
   · exact hcs j v hj
   · cases hj)
 have hrz:∀ ty,(Builtin.append_ #[iS,3] ty #[.slice (some ⟨b,off,none⟩) i c,.int .i64 ((n:Int) + 1 - (i:Int))]).run Tryz.prog w =
   .ok (.slice (some ⟨w.heap.size,0,none⟩) (n + 1) (grownCap w (n + 1) c iC)) (w.drew.alloc (.cells ((cs.take (i * 8)).toArray ++ Builtin.zeroCells zcert.cells (n + 1 - i) ++ Builtin.zeroCells zcert.cells (grownCap w (n + 1) c iC - (n + 1))) iC)):=fun ty=>by
  have h:=Lib.run_append_grow_zeros w iS 3 ty iC i0 _ .i64 .i64 Tryz.underlying37 Tryz.underlying3 hi0 hz0 (some ⟨b,off,none⟩) i c (cs.take (i * 8)) hold (n + 1 - i) (by omega) (by omega) (by omega) (by omega) (by rw [hzb]; omega) (by rw [hzb,hik]; exact growslice_fits hroom (by omega))
  rw [hik] at h
  rw [hkk]
  exact h
 obtain ⟨G,hG⟩:∃ G,G = grownCap w (n + 1) c iC:=⟨_,rfl⟩
 obtain ⟨ROW,hROW⟩:∃ ROW:Array Value,ROW = (cs.take (i * 8)).toArray ++ Builtin.zeroCells zcert.cells (n + 1 - i) ++ Builtin.zeroCells zcert.cells (G - (n + 1)):=⟨_,rfl⟩
 have hGn:n + 1 ≤ G:=by rw [hG]; exact grownCap_ge w _ _ _
 have hG63:G ≤ 9223372036854775807:=by
  have:=grownCap_le_maxLen w (n + 1) c iC (by unfold maxLen; omega)
  rw [← hG] at this
  unfold maxLen at this
  omega
 refine Calls.mono (R:=fun e w'=>e = .returned (.slice (some ⟨w.heap.size,0,none⟩) (n + 1) G) ∧ w' = (((w.alloc (.cells ROW iC)).drew.setCells w.heap.size (i * 8) vs).drew).setCells w.heap.size ((i + 1) * 8) (cs.drop (i * 8))) ?_ fun e w' h=>⟨G,hGn,h.1,by rw [← hROW]; exact h.2⟩
 rw [← hG] at hrz
 rw [← hROW] at hrz
 have hRl:(n + 1) * 8 ≤ ROW.size:=by
  rw [hROW]
  simp [Builtin.zeroCells,zcert,Value.cells]
  omega
 obtain ⟨W1,hW1⟩:∃ W1,W1 = w.drew.alloc (.cells ROW iC):=⟨_,rfl⟩
 rw [← hW1] at hrz
 have hN:∀ j,j < (n + 1) * 8 → (W1.cell? ⟨w.heap.size,j,none⟩).isSome = true:=fun j hj=>by
  rw [hW1,World.cell?_alloc_at (w:=w.drew) ROW _ w.heap.size j rfl,Array.getElem?_eq_getElem (by omega)]; rfl
 have hNf:∀ j,W1.frozen? ⟨w.heap.size,j,none⟩ = false:=fun j=>by rw [hW1]; exact World.frozen?_alloc_at (w:=w.drew) ROW _ w.heap.size j rfl
 have hOb:∀ j v,w.cell? ⟨b,j,none⟩ = some v → W1.cell? ⟨b,j,none⟩ = some v:=fun j v h=>by rw [hW1,World.cell?_alloc_past (w:=w.drew) _ b j hbw]; exact h
 have hOv:∀ j v,w.cell? ⟨vb,j,none⟩ = some v → W1.cell? ⟨vb,j,none⟩ = some v:=fun j v h=>by rw [hW1,World.cell?_alloc_past (w:=w.drew) _ vb j hvw]; exact h
 have hcpA:∀ (W:World),(∀ x,W.cell? x = W1.cell? x) → (∀ x,W.frozen? x = W1.frozen? x) → ∀ ty dc,(Builtin.copy_ #[iS,iS] ty #[.slice (some ⟨w.heap.size,i * 8,none⟩) (n + 1 - i) dc,.slice (some ⟨vb,voff,none⟩) 1 vc]).run Tryz.prog W = .ok (goInt 1) (W.setCells w.heap.size (i * 8) vs):=fun W hWc hWf ty dc=>by
  have hm:Nat.min 1 (n + 1 - i) = 1:=by simp only [Nat.min_def]; split <;> omega
  have:=run_copy_k (P:=Tryz.prog) W iS iS ty iC 8 w.heap.size (i * 8) (n + 1 - i) dc ⟨vb,voff,none⟩ 1 vc vs Tryz.underlying37 icert_info (by rw [hvl,hm])
   (fun j v hj=>by rw [Addr.add_lit,hWc]; exact hOv _ v (hvs j v hj))
   (fun j hj=>by rw [hWc]; exact hN _ (by omega)) (fun j hj=>by rw [hWf]; exact hNf _) h1v
  rw [hm] at this
  exact this
 have hGi:¬ (G = i):=by omega
 have hGim:¬ (G = i + 1):=by omega
 have hci:¬ (c = i):=by omega
 have hbN:b ≠ w.heap.size:=by omega
 have hdl:(cs.drop (i * 8)).length = (n - i) * 8:=by rw [List.length_drop,hcl,Nat.sub_mul]
 have hcpB:∀ (W:World),(∀ x,W.cell? x = (W1.setCells w.heap.size (i * 8) vs).cell? x) → (∀ x,W.frozen? x = (W1.setCells w.heap.size (i * 8) vs).frozen? x) → ∀ ty dc sc,(Builtin.copy_ #[iS,iS] ty #[.slice (some ⟨w.heap.size,(i + 1) * 8,none⟩) (n - i) dc,.slice (some ⟨b,off + i * 8,none⟩) (n - i) sc]).run Tryz.prog W = .ok (goInt (n - i:Nat)) (W.setCells w.heap.size ((i + 1) * 8) (cs.drop (i * 8))):=fun W hWc hWf ty dc sc=>by
  have hm:Nat.min (n - i) (n - i) = n - i:=by simp only [Nat.min_def]; split <;> omega
  have:=run_copy_k (P:=Tryz.prog) W iS iS ty iC 8 w.heap.size ((i + 1) * 8) (n - i) dc ⟨b,off + i * 8,none⟩ (n - i) sc (cs.drop (i * 8)) Tryz.underlying37 icert_info (by rw [hdl,hm])
   (fun j v hj=>by
     rw [Addr.add_lit,hWc,World.cell?_setCells_out _ _ _ _ _ (fun h _=>absurd h hbN),Nat.add_assoc]
     exact hOb _ v (hcs (i * 8 + j) v (by rwa [List.getElem?_drop] at hj)))
   (fun j hj=>by rw [hWc]; exact isome_setCells _ _ _ _ (fun t ht=>hN _ (by omega)) _ (hN _ (by omega)))
   (fun j hj=>by rw [hWf,World.frozen?_setCells]; exact hNf _) (fun v hv=>h1c v (List.mem_of_mem_drop hv))
  rw [hm] at this
  exact this
 subst hW1
 have hE1:∀ x,((w.alloc (.cells ROW iC)).drew).cell? x = (w.drew.alloc (.cells ROW iC)).cell? x:=fun x=>rfl
 have hE2:∀ x,((w.alloc (.cells ROW iC)).drew).frozen? x = (w.drew.alloc (.cells ROW iC)).frozen? x:=fun x=>rfl
 have hF1:∀ x,(((w.alloc (.cells ROW iC)).drew.setCells w.heap.size (i * 8) vs).drew).cell? x = ((w.drew.alloc (.cells ROW iC)).setCells w.heap.size (i * 8) vs).cell? x:=fun x=>rfl
 have hF2:∀ x,(((w.alloc (.cells ROW iC)).drew.setCells w.heap.size (i * 8) vs).drew).frozen? x = ((w.drew.alloc (.cells ROW iC)).setCells w.heap.size (i * 8) vs).frozen? x:=fun x=>rfl
 have hw1:IntKind.i64.wrap ((i:Int) + 1) = (i:Int) + 1:=by rw [IntKind.wrap_i64]; omega
 have hw2:IntKind.i64.wrap ((n:Int) + 1) = (n:Int) + 1:=by rw [IntKind.wrap_i64]; omega
 have hw3:IntKind.i64.wrap ((n:Int) + 1 - (i:Int)) = (n:Int) + 1 - (i:Int):=by rw [IntKind.wrap_i64]; omega
 have hb1:(0:Int) ≤ (i:Int) + 1:=by omega
 have hin:i ≤ n:=by omega
 have htn:((i:Int) + 1).toNat = i + 1:=by omega
 have hb3:(i:Int) ≤ (n:Int):=by omega
 have hb5:(i:Int) ≤ (n:Int) + 1:=by omega
 have hb6:i ≤ n + 1:=by omega
 clear hkk hik hold hROW hG hRl
 go_enter Tryz.func96,Tryz.ntmps96
 go_wp2_with (first
  | (at_builtin; refine Lib.wpList_append_run _ rfl _ _ _ _ rfl _ _ rfl rfl _ _ (hrz _) ?_)
  | (at_builtin; refine iwpList_copy _ rfl _ _ iS iS rfl _ _ rfl rfl (hcpA _ hE1 hE2 _ _) ?_)
  | (at_builtin; refine iwpList_copy _ rfl _ _ iS iS rfl _ _ rfl rfl (hcpB _ (fun _=>rfl) (fun _=>rfl) _ _ _) ?_))
 go_region_law_o (refine istep_copy rfl _ _ iS iS rfl (.slice (some ⟨w.heap.size,(i + 1) * 8,none⟩) (n - i) (G - (i + 1))) (.slice (some ⟨b,off + i * 8,none⟩) (n - i) (c - i)) (by simp [Act.eval,Act.put]) (by simp [Act.eval,Act.put]) (hcpB _ hF1 hF2 3 (G - (i + 1)) (c - i)) ?_)
 go_wp2
 go_ret
 exact ⟨rfl,rfl⟩
end Go.Proofs.YtaidfojbnfkclaaGreatDoor
