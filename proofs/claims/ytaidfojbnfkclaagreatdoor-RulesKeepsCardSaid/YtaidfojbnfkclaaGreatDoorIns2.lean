/-
  slices.Insert of one certificate,over abstract states.
-/
import Derived.Test.YtaidfojbnfkclaaGreatDoorIns1
import Derived.Test.YtaidfojbnfkclaaGreatDoorAbsC
set_option linter.unusedVariables false
set_option linter.unusedSimpArgs false
namespace Go.Proofs.YtaidfojbnfkclaaGreatDoor
open Go Go.Abs Go.Proofs Go.RowKit Go.Lib
set_option maxRecDepth 100000
theorem setCells_at (b:Nat) (el:TypeId) (fr:Nat × Nat):∀ (vs:List Value) (o:Nat) (w:World) (cs:Array Value),w.heap[b]? = some (.cells cs el fr) → ∃ cs',(w.setCells b o vs).heap[b]? = some (.cells cs' el fr) ∧ cs'.size = cs.size
 | [],_,_,cs,h=>⟨cs,h,rfl⟩
 | v :: r,o,w,cs,h=>by
   have h1:(w.setCell ⟨b,o,none⟩ v).heap[b]? = some (.cells (cs.setIfInBounds o v) el fr):=by
    unfold World.setCell; simp [Array.getElem?_modify,h]
   obtain ⟨cs',h2,h3⟩:=setCells_at b el fr r (o + 1) _ _ h1
   exact ⟨cs',h2,by rw [h3]; simp⟩
theorem setCells_ne (b k:Nat) (hk:k ≠ b):∀ (vs:List Value) (o:Nat) (w:World),(w.setCells b o vs).heap[k]? = w.heap[k]?
 | [],_,_=>rfl
 | v :: r,o,w=>by
   rw [World.setCells,setCells_ne b k hk r (o + 1)]
   unfold World.setCell
   simp only [Array.getElem?_modify]
   rw [if_neg (fun e=>hk e.symm)]
theorem setCells_sz (b:Nat):∀ (vs:List Value) (o:Nat) (w:World),(w.setCells b o vs).heap.size = w.heap.size
 | [],_,_=>rfl
 | v :: r,o,w=>by rw [World.setCells,setCells_sz b r (o + 1)]; simp [World.setCell]
theorem setCells_rest (b:Nat):∀ (vs:List Value) (o:Nat) (w:World),(w.setCells b o vs).os = w.os ∧ (w.setCells b o vs).tape = w.tape ∧ (w.setCells b o vs).output = w.output
 | [],_,_=>⟨rfl,rfl,rfl⟩
 | v :: r,o,w=>by rw [World.setCells]; exact setCells_rest b r (o + 1) _
theorem setCells_drew (b:Nat):∀ (vs:List Value) (o:Nat) (w:World),w.drew.setCells b o vs = (w.setCells b o vs).drew
 | [],_,_=>rfl
 | v :: r,o,w=>by
   rw [World.setCells,World.setCells]
   exact setCells_drew b r (o + 1) (w.setCell ⟨b,o,none⟩ v)
/-- Two pieces are stored behind a head: the row is the three. -/
theorem two_pieces (W:World) (b o k:Nat) (head vs tail:List Value) (hk:head.length = k) (hall:∀ j,j < k + vs.length + tail.length → (W.cell? ⟨b,o + j,none⟩).isSome = true)
  (hh:∀ j v,head[j]? = some v → W.cell? ⟨b,o + j,none⟩ = some v) (W':World)
  (hW:W' = (W.setCells b (o + (k + vs.length)) tail).setCells b (o + k) vs ∨ W' = (W.setCells b (o + k) vs).setCells b (o + (k + vs.length)) tail) (j:Nat) (v:Value) (hj:(head ++ vs ++ tail)[j]? = some v):W'.cell? ⟨b,o + j,none⟩ = some v:=by
 have hlen:=(List.getElem?_eq_some_iff.1 hj).1
 simp only [List.length_append] at hlen
 have s1:∀ j,j < k + vs.length + tail.length → ((W.setCells b (o + (k + vs.length)) tail).cell? ⟨b,o + j,none⟩).isSome = true:=fun j hj=>isome_setCells b _ _ _ (fun t ht=>by rw [Nat.add_assoc]; exact hall _ (by omega)) _ (hall j hj)
 have s2:∀ j,j < k + vs.length + tail.length → ((W.setCells b (o + k) vs).cell? ⟨b,o + j,none⟩).isSome = true:=fun j hj=>isome_setCells b _ _ _ (fun t ht=>by rw [Nat.add_assoc]; exact hall _ (by omega)) _ (hall j hj)
 by_cases h1:j < k
 · have hjh:head[j]? = some v:=by
     rw [List.append_assoc,List.getElem?_append_left (by omega)] at hj
     exact hj
   rcases hW with rfl | rfl
   · rw [World.cell?_setCells_out b _ _ _ _ (fun _ _=>.inl (by show o + j < o + k; omega)),World.cell?_setCells_out b _ _ _ _ (fun _ _=>.inl (by show o + j < o + (k + vs.length); omega))]
     exact hh j v hjh
   · rw [World.cell?_setCells_out b _ _ _ _ (fun _ _=>.inl (by show o + j < o + (k + vs.length); omega)),World.cell?_setCells_out b _ _ _ _ (fun _ _=>.inl (by show o + j < o + k; omega))]
     exact hh j v hjh
 · by_cases h2:j < k + vs.length
   · have hjv:vs[j - k]? = some v:=by
       rw [List.append_assoc,List.getElem?_append_right (by omega),List.getElem?_append_left (by omega),hk] at hj
       exact hj
     obtain ⟨hl,hv⟩:=List.getElem?_eq_some_iff.1 hjv
     rcases hW with rfl | rfl
     · have:=World.cell?_setCells_in b vs (o + k) (W.setCells b (o + (k + vs.length)) tail) (fun t ht=>by rw [Nat.add_assoc]; exact s1 _ (by omega)) (j - k) hl
       rw [show o + k + (j - k) = o + j by omega,hv] at this
       exact this
     · rw [World.cell?_setCells_out b _ _ _ _ (fun _ _=>.inl (by show o + j < o + (k + vs.length); omega))]
       have:=World.cell?_setCells_in b vs (o + k) W (fun t ht=>by rw [Nat.add_assoc]; exact hall _ (by omega)) (j - k) hl
       rw [show o + k + (j - k) = o + j by omega,hv] at this
       exact this
   · have hjt:tail[j - (k + vs.length)]? = some v:=by
       rw [List.getElem?_append_right (by simp only [List.length_append]; omega),List.length_append,hk] at hj
       exact hj
     obtain ⟨hl,hv⟩:=List.getElem?_eq_some_iff.1 hjt
     rcases hW with rfl | rfl
     · rw [World.cell?_setCells_out b _ _ _ _ (fun _ _=>.inr (by show o + k + vs.length ≤ o + j; omega))]
       have:=World.cell?_setCells_in b tail (o + (k + vs.length)) W (fun t ht=>by rw [Nat.add_assoc]; exact hall _ (by omega)) (j - (k + vs.length)) hl
       rw [show o + (k + vs.length) + (j - (k + vs.length)) = o + j by omega,hv] at this
       exact this
     · have:=World.cell?_setCells_in b tail (o + (k + vs.length)) (W.setCells b (o + k) vs) (fun t ht=>by rw [Nat.add_assoc]; exact s2 _ (by omega)) (j - (k + vs.length)) hl
       rw [show o + (k + vs.length) + (j - (k + vs.length)) = o + j by omega,hv] at this
       exact this
theorem ins_HR {C:Ctx} {S:Go.Abs.Loc} {H:AH} {w w':World} (hH:HR C S H w) {id g:Nat} {c:List V} (hg:H.get id = some (.cells c g false 8)) {blk base room:Nat} {new:List V} {new':List Value}
  (hb:(blk = S.blk id ∧ w'.heap.size = w.heap.size) ∨ (blk = w.heap.size ∧ w'.heap.size = w.heap.size + 1)) (hk:∀ k,k < w.heap.size → k ≠ blk → w'.heap[k]? = w.heap[k]?)
  (hw:w'.os = w.os ∧ w'.tape = w.tape ∧ w'.output = w.output) {cs:Array Value} {el:TypeId} {fr:Nat × Nat} (hh:w'.heap[blk]? = some (.cells cs el fr)) (hs:cs.size = room) (hbl:base + new.length ≤ room)
  (hfz:∀ o,(o < room ∨ o = room) → (decide (fr.1 ≤ o) && decide (o < fr.2)) = false) (hnv:VRs S new new') (hn1:∀ c ∈ new',c.oneCell' = true) (hcell:∀ j v,new'[j]? = some v → w'.cell? ⟨blk,base + j,none⟩ = some v) :
  HR C (S.grow id blk base room) (H.set id (.cells new (g + 1) false 8)) w':=by
 have ho:=hH.obj id _ hg
 have hlt:id < S.next:=by rw [← hH.next]; exact AH.get_lt hg
 refine hH.grow hlt (ho.2.2.2.2 rfl) hb hk hw ⟨by simp [Loc.grow,ho.1],by simp [Loc.grow,ho.2.1],fun j v hj=>?_,fun _=>⟨cs,el,fr,by simpa [Loc.grow] using hh,by simpa [Loc.grow] using hs,by simpa [Loc.grow] using hbl,fun _ o hoo=>hfz o ?_⟩,fun _=>ho.2.2.2.2 rfl⟩
 · obtain ⟨cv,hc,hvv⟩:=hnv.get j v hj
   refine ⟨cv,by simpa [Loc.grow] using hcell j cv hc,hvv.mono (Loc.le_grow ..),hn1 cv (List.mem_of_getElem? hc)⟩
 · simp only [Loc.grow,if_true] at hoo
   rcases hoo with h | h
   · exact .inl h
   · exact .inr h.2
set_option maxHeartbeats 1000000 in
/-- Ahead of the end. -/
theorem insert_mid (H:AH) {id g off n i vid vg voff:Nat} {c vc:List V} (hg:H.get id = some (.cells c g false 8)) (hn:off + n * 8 ≤ c.length)
  (hv:H.get vid = some (.cells vc vg false 8)) (hv8:voff + 8 ≤ vc.length) (hne:vid ≠ id) (hi:i < n) (hn63:n ≤ 1000000000) (vclip:Bool) :
  ACalls Tryz.prog iF [.sl (some (id,g,off)) n false,.i .i64 i,.sl (some (vid,vg,voff)) 1 vclip] H fun r H' =>
   r = .sl (some (id,g + 1,0)) (n + 1) false ∧
   H' = H.set id (.cells (((c.drop off).take (n * 8)).take (i * 8) ++ (vc.drop voff).take 8 ++ ((c.drop off).take (n * 8)).drop (i * 8)) (g + 1) false 8):=by
 refine .inl ⟨⟨_,Tryz.func96,by kernel_rfl,by kernel_rfl⟩,fun C S cargs w hl hH hva=>?_⟩
 cases hva with
 | cons _ c1 _ _ ha1 hva =>
 cases hva with
 | cons _ c2 _ _ ha2 hva =>
 cases hva with
 | cons _ c3 _ _ ha3 hva =>
 cases hva
 cases ha2
 have ho:=hH.obj id _ hg
 have hov:=hH.obj vid _ hv
 have hown:=ho.2.2.2.2 rfl
 have hownv:=hov.2.2.2.2 rfl
 have hidn:id < S.next:=by rw [← hH.next]; exact AH.get_lt hg
 have hvidn:vid < S.next:=by rw [← hH.next]; exact AH.get_lt hv
 cases ha1 with
 | sl _ _ _ _ cap _ ad h1 h2 hlc h3 h4 h5 =>
 cases ha3 with
 | sl _ _ _ _ vcap _ vad v1 v2 vlc v3 v4 v5 =>
 have e1:=h3 ho.1 (by omega)
 have e2:=v3 hov.1 (by omega)
 subst e1 e2
 obtain ⟨cs,hcv,hcl,hcc,hc1⟩:=ho.part off (n * 8) hn
 obtain ⟨vs,hvv,hvl,hvc,hv1⟩:=hov.part voff 8 hv8
 obtain ⟨row,el,fr,hh,hsz,hbl,hfz⟩:=ho.2.2.2.1 hown
 obtain ⟨rowv,elv,frv,hhv,hszv,hblv,hfzv⟩:=hov.2.2.2.1 hownv
 have hfz:=hfz rfl
 have hfzv:=hfzv rfl
 have hes:S.esz id = 8:=ho.2.1.symm
 have hesv:S.esz vid = 8:=hov.2.1.symm
 have hroom:=h5 ho.1 hown (by omega) rfl
 rw [hes] at hroom
 have hblt:S.blk id < w.heap.size:=(Array.getElem?_eq_some_iff.1 hh).1
 have hcs:∀ j v,cs[j]? = some v → w.cell? ⟨S.blk id,S.base id + off + j,none⟩ = some v:=fun j v hj=>by rw [← hcc j v hj,add_none]
 have hvs:∀ j v,vs[j]? = some v → w.cell? ⟨S.blk vid,S.base vid + voff + j,none⟩ = some v:=fun j v hj=>by rw [← hvc j v hj,add_none]
 have hnb:S.blk vid ≠ S.blk id:=fun e=>hne (hH.sep vid id hvidn hidn hownv hown e)
 have hnew:VRs S (((c.drop off).take (n * 8)).take (i * 8) ++ (vc.drop voff).take 8 ++ ((c.drop off).take (n * 8)).drop (i * 8)) (cs.take (i * 8) ++ vs ++ cs.drop (i * 8)):=((hcv.take _).append hvv).append (hcv.drop _)
 have hnew1:∀ c ∈ cs.take (i * 8) ++ vs ++ cs.drop (i * 8),c.oneCell' = true:=fun c hc=>by
  rcases List.mem_append.1 hc with h | h
  · rcases List.mem_append.1 h with h | h
    · exact hc1 c (List.mem_of_mem_take h)
    · exact hv1 c h
  · exact hc1 c (List.mem_of_mem_drop h)
 have hnl:(((c.drop off).take (n * 8)).take (i * 8) ++ (vc.drop voff).take 8 ++ ((c.drop off).take (n * 8)).drop (i * 8)).length = (n + 1) * 8:=by
  have:=hnew.length
  rw [this]; simp only [List.length_append,List.length_take,List.length_drop,hcl,hvl]; omega
 have hhd:(cs.take (i * 8)).length = i * 8:=by rw [List.length_take]; omega
 have htl:(cs.drop (i * 8)).length = (n - i) * 8:=by rw [List.length_drop,hcl,Nat.sub_mul]
 have hi8:(i + 1) * 8 = i * 8 + vs.length:=by rw [hvl]; omega
 by_cases hfit:n + 1 ≤ cap
 · have hcap:(n + 1) * 8 ≤ cap * 8:=Nat.mul_le_mul_right _ hfit
   have hsp:∀ j,j < (n + 1) * 8 → (w.cell? ⟨S.blk id,S.base id + off + j,none⟩).isSome = true:=fun j hj=>by
    unfold World.cell?
    simp only [hh,Option.isSome_none,Bool.false_eq_true,if_false]
    rw [Array.getElem?_eq_getElem (by omega)]; rfl
   have hfz':∀ j,j < (n + 1) * 8 → w.frozen? ⟨S.blk id,S.base id + off + j,none⟩ = false:=fun j hj=>by
    unfold World.frozen?
    simp only [hh]
    exact hfz _ (.inl (by omega))
   refine Calls.mono (ins_shift (S.blk id) (S.base id + off) n cap i (S.blk vid) (S.base vid + voff) vcap cs vs w hi hfit hn63 hnb hcl hvl hcs hsp hfz' hvs hc1 hv1 elv el rowv.size row.size (by simp [World.shape?,hhv]) (by simp [World.shape?,hh]) (by omega)
    (by unfold World.frozen?; simp only [hhv]; exact hfzv _ (.inl (by omega))) (by unfold World.frozen?; simp only [hhv]; exact hfzv _ (.inr ⟨by omega,by omega⟩))) fun e w' ⟨he,hw'⟩=>?_
   refine ⟨_,_,S.grow id (S.blk id) (S.base id + off) (S.room id),_,he,Loc.le_grow ..,?_,?_,rfl,rfl⟩
   · have hg0:=ho.1
     refine .sl _ _ _ _ _ _ _ hidn (by simp [Loc.grow,hg0]) hfit (fun _ _=>by simp [Loc.grow]) (fun h=>by cases h) (fun _ _ _ _=>?_)
     simp only [Loc.grow,if_true,hes]; omega
   · have hall:∀ j,j < i * 8 + vs.length + (cs.drop (i * 8)).length → (w.drew.cell? ⟨S.blk id,S.base id + off + j,none⟩).isSome = true:=fun j hj=>hsp j (by rw [hvl,htl] at hj; omega)
     have hcell:=two_pieces w.drew (S.blk id) (S.base id + off) (i * 8) (cs.take (i * 8)) vs (cs.drop (i * 8)) hhd hall (fun j v hj=>by
      rw [List.getElem?_take] at hj
      split at hj
      · exact hcs j v hj
      · cases hj) w' (.inl (by rw [hw',hi8]))
     obtain ⟨r1,k1,k2⟩:=setCells_at (S.blk id) el fr (cs.drop (i * 8)) (S.base id + off + (i + 1) * 8) w.drew row hh
     obtain ⟨r2,k3,k4⟩:=setCells_at (S.blk id) el fr vs (S.base id + off + i * 8) _ r1 k1
     refine ins_HR (w':=w') hH hg (.inl ⟨rfl,by rw [hw',setCells_sz,setCells_sz]; rfl⟩) (fun k hk hne=>by rw [hw',setCells_ne _ _ hne,setCells_ne _ _ hne]; rfl) ?_ (cs:=r2) (el:=el) (fr:=fr) (by rw [hw']; exact k3) (by rw [k4,k2,hsz]) (by rw [hnl]; omega) (fun o hoo=>hfz o (hoo.imp (fun h=>h) fun h=>⟨by omega,h⟩)) hnew hnew1 hcell
     rw [hw']
     have a1:=setCells_rest (S.blk id) vs (S.base id + off + i * 8) (w.drew.setCells (S.blk id) (S.base id + off + (i + 1) * 8) (cs.drop (i * 8)))
     have a2:=setCells_rest (S.blk id) (cs.drop (i * 8)) (S.base id + off + (i + 1) * 8) w.drew
     exact ⟨a1.1.trans a2.1,a1.2.1.trans a2.2.1,a1.2.2.trans a2.2.2⟩
 · refine Calls.mono (ins_grow (S.blk id) (S.base id + off) n cap i (S.blk vid) (S.base vid + voff) vcap cs vs w hi hlc (by omega) hn63 hcl hvl hcs hvs hc1 hv1) fun e w' ⟨G,hG,he,hw'⟩=>?_
   obtain ⟨ROW,hROW⟩:∃ ROW,ROW = (cs.take (i * 8)).toArray ++ Builtin.zeroCells zcert.cells (n + 1 - i) ++ Builtin.zeroCells zcert.cells (G - (n + 1)):=⟨_,rfl⟩
   rw [← hROW] at hw'
   have hRs:ROW.size = G * 8:=by
    rw [hROW]
    simp [Builtin.zeroCells,zcert,Value.cells,hcl]
    omega
   refine ⟨_,_,S.grow id w.heap.size 0 (G * 8),_,he,Loc.le_grow ..,?_,?_,rfl,rfl⟩
   · have hg0:=ho.1
     refine .sl _ _ _ _ _ _ _ hidn (by simp [Loc.grow,hg0]) hG (fun _ _=>by simp [Loc.grow]) (fun h=>by cases h) (fun _ _ _ _=>?_)
     simp only [Loc.grow,if_true,hes]; omega
   · have hhW:(w.alloc (.cells ROW iC)).drew.heap[w.heap.size]? = some (.cells ROW iC (0,0)):=by
       show (w.heap.push (.cells ROW iC))[w.heap.size]? = _
       exact Array.getElem?_push_size
     have hall:∀ j,j < i * 8 + vs.length + (cs.drop (i * 8)).length → ((w.alloc (.cells ROW iC)).drew.cell? ⟨w.heap.size,0 + j,none⟩).isSome = true:=fun j hj=>by
      unfold World.cell?
      simp only [hhW,Option.isSome_none,Bool.false_eq_true,if_false]
      rw [hvl,htl] at hj
      rw [Array.getElem?_eq_getElem (by omega)]; rfl
     have hcell:=two_pieces (w.alloc (.cells ROW iC)).drew w.heap.size 0 (i * 8) (cs.take (i * 8)) vs (cs.drop (i * 8)) hhd hall (fun j v hj=>by
      unfold World.cell?
      simp only [hhW,Option.isSome_none,Bool.false_eq_true,if_false]
      have hjl:=(List.getElem?_eq_some_iff.1 hj).1
      rw [hhd] at hjl
      rw [hROW,Array.append_assoc,Array.getElem?_append_left (by simp only [List.size_toArray,hhd]; omega)]
      simpa using hj) _ (.inr rfl)
     rw [Nat.zero_add,Nat.zero_add,← hi8] at hcell
     obtain ⟨r1,k1,k2⟩:=setCells_at w.heap.size iC (0,0) vs (i * 8) _ ROW hhW
     obtain ⟨r2,k3,k4⟩:=setCells_at w.heap.size iC (0,0) (cs.drop (i * 8)) ((i + 1) * 8) ((w.alloc (.cells ROW iC)).drew.setCells w.heap.size (i * 8) vs).drew r1 k1
     refine ins_HR (w':=w') hH hg (.inr ⟨rfl,by rw [hw',setCells_sz]; show ((w.alloc (.cells ROW iC)).drew.setCells w.heap.size (i * 8) vs).heap.size = _; rw [setCells_sz]; show (w.heap.push (.cells ROW iC)).size = _; exact Array.size_push ..⟩) (fun k hk hne=>?_) ?_ (cs:=r2) (el:=iC) (fr:=(0,0)) (by rw [hw']; exact k3) (by rw [k4,k2,hRs]) (by rw [hnl]; omega) (fun o hoo=>by simp) hnew hnew1 (fun j v hj=>by rw [hw',setCells_drew]; exact hcell j v hj)
     · rw [hw',setCells_ne _ _ hne]
       show ((w.alloc (.cells ROW iC)).drew.setCells w.heap.size (i * 8) vs).heap[k]? = _
       rw [setCells_ne _ _ hne]
       show (w.heap.push (.cells ROW iC))[k]? = _
       rw [Array.getElem?_push_lt hk,Array.getElem?_eq_getElem hk]
     · rw [hw']
       have a1:=setCells_rest w.heap.size (cs.drop (i * 8)) ((i + 1) * 8) ((w.alloc (.cells ROW iC)).drew.setCells w.heap.size (i * 8) vs).drew
       have a2:=setCells_rest w.heap.size vs (i * 8) (w.alloc (.cells ROW iC)).drew
       exact ⟨a1.1.trans a2.1,a1.2.1.trans a2.2.1,a1.2.2.trans a2.2.2⟩
end Go.Proofs.YtaidfojbnfkclaaGreatDoor
