import Derived.Test.YtaidfojbnfkclaaGreatDoorIns3
import Derived.Test.YtaidfojbnfkclaaGreatDoorTxtB
set_option linter.unusedVariables false
set_option linter.unusedSimpArgs false
namespace Go.Proofs.YtaidfojbnfkclaaGreatDoor
open Go Go.Abs Go.Proofs
set_option maxRecDepth 100000
attribute [local irreducible] AEnd AW ACalls
theorem appTmoS:App Tryz.prog 25 25 10 72:=App.mk' qelem_25 qsize_68 qbytes_68 qzero_68 qsrc_25 rfl (by decide)
theorem nilTmoS (n m:Nat) (c e:Bool):aeq Tryz.prog 25 (.sl none n c) (.sl none m e) = some true:=by simp [aeq,Tryz.underlying25]
theorem someTmoS (q:Nat × Nat × Nat) (n m:Nat) (c e:Bool):aeq Tryz.prog 25 (.sl (some q) n c) (.sl none m e) = some false:=by simp [aeq,Tryz.underlying25]
theorem cloneTmoS (H:AH) {v:V} {ls:List (List V)} (hv:RS H v 10 ls) (hl:ls.length ≤ 1000000000):ACalls Tryz.prog 101 [v] H fun r H'=>FreshL H H' r 10 ls:=by
 refine ACalls_body Tryz.func101 rfl rfl ?_
 refine AW_seq ?_
 refine AW_reg [0] fun K hK=>?_
 simp [init_eq]
 apply hK;clear hK K
 refine AW_seq ?_
 refine AW_seq ?_
 have hv0:=hv
 rcases hv.2 with ⟨c,rfl,hl0⟩ | ⟨id,g,off,c,ro,esz,rfl,hg,_⟩
 · subst hl0
   refine AW_reg [0,4] fun K hK=>?_
   simp [init_eq,nilTmoS]
   apply hK;clear hK K
   refine AW_cond' rfl rfl (fun hc=>?_) (fun hc=>?_)
   · refine AW_seq ?_
     refine AW_reg [2] fun K hK=>?_
     simp [init_eq]
     apply hK;clear hK K
     refine AW_ret (end_ret rfl ?_)
     exact ⟨[],Own.nil ..,Upd.refl ..,by simp⟩
   · cases hc
 · refine AW_reg [0,4] fun K hK=>?_
   simp [init_eq,someTmoS]
   apply hK;clear hK K
   refine AW_cond' rfl rfl (fun hc=>?_) (fun hc=>?_)
   · cases hc
   · refine AW_skip ?_
     refine AW_seq ?_
     have hx:=(hv0.ext (ext_new H (.cells [] 0 false 10))).source (P:=Tryz.prog) (by decide)
     obtain ⟨v',H',F',h1,h2,h3,h4⟩:=(Own.made H 10).append appTmoS hx (flatten_len ls hv0.1) (by simp [roomOk]; omega)
     refine AW_reg [2] fun K hK=>?_
     have hbs:abuildSlice Tryz.prog H 25 0 [] = some (.sl (some (H.next,0,0)) 0 false,H.new (.cells [] 0 false 10)):=by
      first | (simp [abuildSlice,afill,V.cells]; done) | (simp [abuildSlice,afill,V.cells]; rfl)
     simp [init_eq,hbs,h1]
     apply hK;clear hK K
     refine AW_ret (end_ret rfl ?_)
     refine ⟨F',by simpa using h2,(Upd.new H _ []).trans h3 (by simp),fun j hj=>?_⟩
     rcases h4 j hj with h | h
     · simp at h; omega
     · simp at h; omega
theorem appTxS:App Tryz.prog 26 26 7 88:=App.mk' qelem_26 qsize_75 qbytes_75 qzero_75 qsrc_26 rfl (by decide)
theorem nilTxS (n m:Nat) (c e:Bool):aeq Tryz.prog 26 (.sl none n c) (.sl none m e) = some true:=by simp [aeq,Tryz.underlying26]
theorem someTxS (q:Nat × Nat × Nat) (n m:Nat) (c e:Bool):aeq Tryz.prog 26 (.sl (some q) n c) (.sl none m e) = some false:=by simp [aeq,Tryz.underlying26]
theorem cloneTxS (H:AH) {v:V} {ls:List (List V)} (hv:RS H v 7 ls) (hl:ls.length ≤ 1000000000):ACalls Tryz.prog 102 [v] H fun r H'=>FreshL H H' r 7 ls:=by
 refine ACalls_body Tryz.func102 rfl rfl ?_
 refine AW_seq ?_
 refine AW_reg [0] fun K hK=>?_
 simp [init_eq]
 apply hK;clear hK K
 refine AW_seq ?_
 refine AW_seq ?_
 have hv0:=hv
 rcases hv.2 with ⟨c,rfl,hl0⟩ | ⟨id,g,off,c,ro,esz,rfl,hg,_⟩
 · subst hl0
   refine AW_reg [0,4] fun K hK=>?_
   simp [init_eq,nilTxS]
   apply hK;clear hK K
   refine AW_cond' rfl rfl (fun hc=>?_) (fun hc=>?_)
   · refine AW_seq ?_
     refine AW_reg [2] fun K hK=>?_
     simp [init_eq]
     apply hK;clear hK K
     refine AW_ret (end_ret rfl ?_)
     exact ⟨[],Own.nil ..,Upd.refl ..,by simp⟩
   · cases hc
 · refine AW_reg [0,4] fun K hK=>?_
   simp [init_eq,someTxS]
   apply hK;clear hK K
   refine AW_cond' rfl rfl (fun hc=>?_) (fun hc=>?_)
   · cases hc
   · refine AW_skip ?_
     refine AW_seq ?_
     have hx:=(hv0.ext (ext_new H (.cells [] 0 false 7))).source (P:=Tryz.prog) (by decide)
     obtain ⟨v',H',F',h1,h2,h3,h4⟩:=(Own.made H 7).append appTxS hx (flatten_len ls hv0.1) (by simp [roomOk]; omega)
     refine AW_reg [2] fun K hK=>?_
     have hbs:abuildSlice Tryz.prog H 26 0 [] = some (.sl (some (H.next,0,0)) 0 false,H.new (.cells [] 0 false 7)):=by
      first | (simp [abuildSlice,afill,V.cells]; done) | (simp [abuildSlice,afill,V.cells]; rfl)
     simp [init_eq,hbs,h1]
     apply hK;clear hK K
     refine AW_ret (end_ret rfl ?_)
     refine ⟨F',by simpa using h2,(Upd.new H _ []).trans h3 (by simp),fun j hj=>?_⟩
     rcases h4 j hj with h | h
     · simp at h; omega
     · simp at h; omega
end Go.Proofs.YtaidfojbnfkclaaGreatDoor
