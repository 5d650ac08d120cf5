/-
  put: with an author's certificate.
-/
import Derived.Test.YtaidfojbnfkclaaGreatDoorSaf1
set_option linter.unusedVariables false
set_option linter.unusedSimpArgs false
namespace Go.Proofs.YtaidfojbnfkclaaGreatDoor
open Go Go.Abs Go.Proofs
set_option maxRecDepth 100000
attribute [local irreducible] AEnd AW ACalls
theorem cells_len8 (ls:List Cert):∀ l ∈ ls.map Cert.cells,l.length = 8:=fun l h=>by
 obtain ⟨c,_,rfl⟩:=List.mem_map.1 h; rfl
theorem put_set {ls:List Cert} {c:Cert} {i:Nat} (low:Low ls c.author i) (h:(ls[i]?).map Cert.author = some c.author):putC ls c = ls.set i c:=by
 obtain ⟨x,hx,he⟩:∃ x,ls[i]? = some x ∧ x.author = c.author:=by
  cases hq:ls[i]? with
  | none=>rw [hq] at h; cases h
  | some x=>rw [hq] at h; exact ⟨x,rfl,by simpa using h⟩
 obtain ⟨hi,rfl⟩:=List.getElem?_eq_some_iff.1 hx
 rw [putC_at ls i low.below low.le,List.drop_eq_getElem_cons hi,putC,if_neg (by omega),if_pos he,List.set_eq_take_append_cons_drop,if_pos hi]
theorem put_ins {ls:List Cert} {c:Cert} {i:Nat} (low:Low ls c.author i) (h:¬ (ls[i]?).map Cert.author = some c.author):putC ls c = ls.take i ++ c :: ls.drop i:=by
 rw [putC_at ls i low.below low.le]
 congr 1
 by_cases hi:i < ls.length
 · have hx:ls[i].author ≠ c.author:=fun e=>h (by rw [List.getElem?_eq_getElem hi]; simp [e])
   have:=low.above i ls[i] (Nat.le_refl _) (List.getElem?_eq_getElem hi)
   rw [List.drop_eq_getElem_cons hi,putC,if_neg (by omega),if_neg hx]
 · rw [List.drop_eq_nil_of_le (by omega)]; rfl
theorem sput_ok (H:AH) {v:V} {ls:List Cert} (hv:RS H v 8 (ls.map Cert.cells)) (hl:ls.length ≤ 10000000) (hs:SortedC ls) (hr:RangeC ls) (c:Cert) (hc:0 ≤ c.author ∧ c.author ≤ 9) :
  ACalls Tryz.prog 47 [v,.agg c.cells] H fun r H'=>FreshL H H' r 8 ((putC ls c).map Cert.cells):=by
 refine ACalls_body Tryz.func47 rfl rfl ?_
 refine AW_seq ?_
 refine AW_reg [0,3] fun K hK=>?_
 simp [init_eq,V.cells]
 obtain ⟨H1,e1,hp1,hn1,ho1⟩:=H.boxed c.cells
 rw [e1]
 have u1:Upd H H1 []:=⟨by omega,fun j hj _=>ho1 j hj⟩
 apply hK;clear hK K
 refine AW_seq ?_
 refine AW_reg [0,3] fun K hK=>?_
 simp [init_eq]
 refine ACalls.mono (cloneCert H1 (hv.upd u1) (by simp; omega)) fun w H2 ⟨F,o2,u2,f2⟩=>?_
 have hp2:H2.get H.next = some (.cells c.cells 0 false 0):=u2.keep (by simp) hp1
 have hF:∀ j ∈ F,H.next + 1 ≤ j:=fun j hj=>by have:=f2 j hj; omega
 have r2:=o2.rsR (by decide) Cert.len
 try simp
 apply hK;clear hK K
 refine AW_seq ?_
 refine AW_reg [0,3,5,6] fun K hK=>?_
 simp [init_eq,afieldAddr,aload,hp2]
 refine ACalls.mono (find_ok H2 r2 (by omega) hs hr hc) fun r H' ⟨⟨i,low,hr'⟩,e⟩=>?_
 subst hr' e
 try simp
 apply hK;clear hK K
 have hli:=low.le
 refine AW_seq ?_
 refine AW_seq ?_
 refine AW_reg [0,3,5,16] fun K hK=>?_
 simp [init_eq]
 apply hK;clear hK K
 refine AW_cond' rfl rfl (fun hc2=>?_) (fun hc2=>?_)
 · have hth:(ls[i]?).map Cert.author = some c.author:=by simpa using hc2
   have hi:i < ls.length:=by
    apply Classical.byContradiction
    intro hn
    rw [List.getElem?_eq_none (by omega)] at hth
    cases hth
   obtain ⟨id,g,hw,_,hg,ha⟩:=Own.addr (P:=Tryz.prog) o2 (by decide) (cells_len8 ls) qelem_37 qsize_24 (k:=.i64) (i:=i) (by simpa using hi)
   obtain ⟨H3,hst,o3,u3,n3⟩:=Own.store (P:=Tryz.prog) o2 (by decide) (cells_len8 ls) qsize_24 (i:=i) (by simpa using hi) hw (x:=.agg c.cells) rfl (Cert.len c)
   refine AW_seq ?_
   refine AW_reg [0] fun K hK=>?_
   simp [init_eq,aload,hp2,take_cells,ha,hst]
   apply hK;clear hK K
   refine AW_seq ?_
   refine AW_reg [4] fun K hK=>?_
   simp [init_eq]
   apply hK;clear hK K
   refine AW_ret (end_ret rfl ?_)
   refine ⟨F,?_,?_,fun j hj=>by have:=hF j hj; omega⟩
   · rw [put_set low hth,List.map_set]; simpa using o3
   · refine (u1.trans u2 (by simp)).trans u3 (fun j hj=>.inr (by have:=hF j hj; omega))
 · have hth:¬ (ls[i]?).map Cert.author = some c.author:=by simpa using hc2
   refine AW_skip ?_
   refine AW_seq ?_
   have hbs:abuildSlice Tryz.prog H' 37 1 [(0,.agg c.cells)] = some (.sl (some (H'.next,0,0)) 1 false,H'.new (.cells c.cells 0 false 8)):=by
    simp [abuildSlice,afill,V.cells,splice]
    rfl
   have u3:Upd H' (H'.new (.cells c.cells 0 false 8)) []:=Upd.new ..
   have o3:=o2.upd u3 (by simp)
   have hlt:=o2.lt
   refine AW_reg [4] fun K hK=>?_
   simp [init_eq,aload,hp2,take_cells,hbs]
   refine ACalls.mono (insert_ok _ o3 (cells_len8 ls) (by simp; omega) (i:=i) (by simpa using hli) (AH.get_new_same ..) (Cert.len c) (fun h=>by have:=hlt _ h; omega) false) fun r H4 ⟨F4,o4,u4,f4⟩=>?_
   try simp
   apply hK;clear hK K
   refine AW_ret (end_ret rfl ?_)
   have un:=u1.1; have un2:=u2.1; have un3:=u3.1
   refine ⟨F4,?_,?_,fun j hj=>?_⟩
   · rw [put_ins low hth,List.map_append,List.map_cons,List.map_take,List.map_drop]; simpa using o4
   · exact ((u1.trans u2 (by simp)).trans u3 (by simp)).trans u4 (fun j hj=>.inr (by have:=hF j hj; omega))
   · rcases f4 j hj with h | h
     · have:=hF j h; omega
     · omega
end Go.Proofs.YtaidfojbnfkclaaGreatDoor
