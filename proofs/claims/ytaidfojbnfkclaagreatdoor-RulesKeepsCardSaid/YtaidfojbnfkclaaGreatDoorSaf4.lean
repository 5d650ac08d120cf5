/-
  must,and the checks of may. (Printed by gen_saf4.py.)
-/
import Derived.Test.YtaidfojbnfkclaaGreatDoorSaf3
set_option linter.unusedVariables false
set_option linter.unusedSimpArgs false
namespace Go.Proofs.YtaidfojbnfkclaaGreatDoor
open Go Go.Abs Go.Proofs
set_option maxRecDepth 100000
attribute [local irreducible] AEnd AW ACalls
/-- The first error of what must be. -/
def mustE:List (Bool × Int) → Int
 | []=>0
 | (ok,e) :: l=>if ok then mustE l else e
structure Chk where
 f:FuncId
 caps:List V
 ok:Bool
 e:Int
def Chk.fn (c:Chk):List V:=[.fn (.func c.f) [] c.caps]
theorem mustE_take:∀ (l:List (Bool × Int)) (i:Nat),(∀ j x,j < i → l[j]? = some x → x.1 = true) → mustE l = mustE (l.drop i)
 | _,0,_=>rfl
 | [],i + 1,_=>by simp
 | (ok,e) :: l,i + 1,h=>by
   have h0:ok = true:=h 0 (ok,e) (by omega) rfl
   rw [h0]
   exact mustE_take l i fun j x hj hx=>h (j + 1) x (by omega) (by simpa using hx)
theorem must_ok (H:AH) {v:V} (fs:List Chk) (hv:RS H v 1 (fs.map Chk.fn)) (hl:fs.length ≤ 1000) (hf:∀ c ∈ fs,ACalls Tryz.prog c.f c.caps H fun r H'=>r = .tup [.b c.ok,.i .i64 c.e] ∧ H' = H) :
  ACalls Tryz.prog 83 [v] H fun r H'=>r = .i .i64 (mustE (fs.map fun c=>(c.ok,c.e))) ∧ H' = H:=by
 refine ACalls_body Tryz.func83 rfl rfl ?_
 refine AW_seq ?_
 refine AW_reg [0] fun K hK=>?_
 simp [init_eq]
 apply hK;clear hK K
 refine AW_seq ?_
 refine AW_seq ?_
 refine AW_reg [7,8,9] fun K hK=>?_
 simp [init_eq,hv.alen qelem_152]
 apply hK;clear hK K
 refine AW_block ?_
 refine AW_loop0 (fun i:Nat=>⟨22,[(7,v),(8,.i .i64 fs.length),(9,.i .i64 i)]⟩) (fun i=>i ≤ fs.length ∧ ∀ j x,j < i → fs[j]? = some x → x.ok = true) (fun i=>fs.length - i) 0 (by simp) (by simp) (by dsimp only; omega) fun hw i ⟨hi,hno⟩=>?_
 have hdrop:mustE (fs.map fun c=>(c.ok,c.e)) = mustE ((fs.map fun c=>(c.ok,c.e)).drop i):=mustE_take _ i fun j x hj hx=>by
  simp only [List.getElem?_map,Option.map_eq_some_iff] at hx
  obtain ⟨c,hc,rfl⟩:=hx
  exact hno j c hj hc
 refine AW_seq ?_
 refine AW_reg [7,8,9,10] fun K hK=>?_
 simp [init_eq]
 apply hK;clear hK K
 refine AW_seq ?_
 refine AW_cond' rfl rfl (fun hc=>?_) (fun hc=>?_)
 · have hlt:i < fs.length:=by simpa using hc
   obtain ⟨a,q1,q2⟩:=hv.at1 (P:=Tryz.prog) qelem_152 qsize_127 qagg_127 (k:=.i64) i (x:=.fn (.func fs[i].f) [] fs[i].caps) (by simp [hlt,Chk.fn])
   have hm:(fs.map fun c=>(c.ok,c.e)).drop i = (fs[i].ok,fs[i].e) :: (fs.map fun c=>(c.ok,c.e)).drop (i + 1):=by
    rw [List.drop_eq_getElem_cons (by simpa using hlt)]; simp
   refine AW_skip ?_
   refine AW_seq ?_
   refine AW_block ?_
   refine AW_seq ?_
   refine AW_reg [4,7,8,9] fun K hK=>?_
   simp [init_eq,q1,q2]
   apply hK;clear hK K
   refine AW_seq ?_
   refine AW_reg [5,6,7,8,9] fun K hK=>?_
   simp [init_eq]
   rw [AOp_callv (f:=fs[i].f) (first:=[]) (caps:=fs[i].caps) (by simp)]
   simp
   refine ACalls.mono (hf fs[i] (List.getElem_mem hlt)) fun r H' ⟨hr,e⟩=>?_
   subst hr e
   try simp
   apply hK;clear hK K
   refine AW_seq ?_
   refine AW_reg [6,7,8,9,19] fun K hK=>?_
   simp [init_eq]
   apply hK;clear hK K
   refine AW_cond' rfl rfl (fun hc=>?_) (fun hc=>?_)
   · have hok:fs[i].ok = false:=by simpa using hc
     refine AW_seq ?_
     refine AW_reg [2] fun K hK=>?_
     simp [init_eq]
     apply hK;clear hK K
     refine AW_ret (end_ret rfl ⟨?_,rfl⟩)
     rw [hdrop,hm,mustE,if_neg (by simp [hok])]
     rfl
   · have hok:fs[i].ok = true:=by simpa using hc
     refine AW_skip ?_
     refine AW_reg [7,8,9] fun K hK=>?_
     simp [init_eq,wrap_id (x:=(i:Int) + 1) (by omega) (by omega)]
     apply hK;clear hK K
     refine rend ⟨i + 1,by simp,⟨by omega,fun j x hj hx=>?_⟩,by omega,.inl rfl⟩
     by_cases hji:j < i
     · exact hno j x hji hx
     · obtain rfl:j = i:=by omega
       rw [List.getElem?_eq_getElem hlt] at hx
       cases hx
       exact hok
 · have hi':i = fs.length:=by
     have:¬ i < fs.length:=by simpa using hc
     omega
   refine AW_exit (then_exit (then_exit (block_here ?_)))
   refine AW_seq ?_
   refine AW_reg [2] fun K hK=>?_
   simp [init_eq]
   apply hK;clear hK K
   refine AW_ret (end_ret rfl ⟨?_,rfl⟩)
   rw [hdrop,hi',List.drop_eq_nil_of_le (by simp)]
   rfl
/-- A state and a record, as the checks find them. -/
structure MC (H:AH) (bs br sid rid:Nat) (s:SSt) (fv hv pv bv:V) (r:SRec):Prop where
 ps:H.get bs = some (.cells [.p (some (sid,0,0))] 0 false 0)
 pr:H.get br = some (.cells [.p (some (rid,0,0))] 0 false 0)
 st:H.get sid = some (.cells (s.cells fv hv pv bv) 0 false 0)
 rc:H.get rid = some (.cells r.cells 0 false 0)
 at':SAt H s fv hv pv bv
theorem MC.upd {H H':AH} {bs br sid rid:Nat} {s:SSt} {fv hv pv bv:V} {r:SRec} (h:MC H bs br sid rid s fv hv pv bv r) (u:Upd H H' []):MC H' bs br sid rid s fv hv pv bv r :=
 ⟨u.keep (by simp) h.ps,u.keep (by simp) h.pr,u.keep (by simp) h.st,u.keep (by simp) h.rc,h.at'.upd u⟩
theorem SRec.cv (r:SRec):r.cells[3]? = some (.i .i64 r.cert.view):=rfl
theorem SRec.cr (r:SRec):r.cells[4]? = some (.i .i64 r.cert.round):=rfl
theorem SRec.ch (r:SRec):r.cells[5]? = some (.i .i64 r.cert.height):=rfl
theorem SRec.ca (r:SRec):r.cells[6]? = some (.i .i64 r.cert.author):=rfl
theorem SRec.qr (r:SRec):r.cells[12]? = some (.i .i64 r.parent.round):=rfl
theorem SRec.certU (r:SRec):r.cells.tail.take 8 = r.cert.cells:=rfl
theorem cert_height (c:Cert):afield Tryz.prog 24 4 (.agg c.cells) = some (.i .i64 c.height):=by
 simp [afield]
section
variable (H:AH) {bs br sid rid:Nat} {s:SSt} {fv hv pv bv:V} {r:SRec}
theorem may1_1_ok (m:MC H bs br sid rid s fv hv pv bv r) {ib:Nat} {is:Int} (hi:H.get ib = some (.cells [.i .i64 is] 0 false 0)):ACalls Tryz.prog 81 [.p (some (bs,0,0)),.p (some (ib,0,0))] H fun v H'=>v = .tup [.b (decide (s.mode = is)),.i .i64 213] ∧ H' = H:=by
 refine ACalls_body Tryz.func81 rfl rfl ?_
 refine AW_seq ?_
 refine AW_reg [0,1] fun K hK=>?_
 simp [init_eq]
 apply hK;clear hK K
 refine AW_seq ?_
 refine AW_regd [2,3] pl_81_1 pe_81_1 (by kernel_rfl) (by kernel_rfl) (by decide) fun K hK=>?_
 simp [init_eq,pl_81_1,aload,afieldAddr,m.ps,m.pr,m.st,m.rc,SRec.take,SRec.certC,SRec.parC,SRec.cv,SRec.cr,SRec.ch,SRec.ca,SRec.qr,SRec.certU,hi]
 apply hK;clear hK K
 refine AW_ret (end_ret rfl ⟨?_,rfl⟩)
 simp
theorem may2_ok (m:MC H bs br sid rid s fv hv pv bv r):ACalls Tryz.prog 82 [.p (some (br,0,0)),.p (some (bs,0,0))] H fun v H'=>v = .tup [.b (decide (r.cert.view = s.view)),.i .i64 210] ∧ H' = H:=by
 refine ACalls_body Tryz.func82 rfl rfl ?_
 refine AW_seq ?_
 refine AW_reg [0,1] fun K hK=>?_
 simp [init_eq]
 apply hK;clear hK K
 refine AW_seq ?_
 refine AW_regd [2,3] pl_82_1 pe_82_1 (by kernel_rfl) (by kernel_rfl) (by decide) fun K hK=>?_
 simp [init_eq,pl_82_1,aload,afieldAddr,m.ps,m.pr,m.st,m.rc,SRec.take,SRec.certC,SRec.parC,SRec.cv,SRec.cr,SRec.ch,SRec.ca,SRec.qr,SRec.certU]
 apply hK;clear hK K
 refine AW_ret (end_ret rfl ⟨?_,rfl⟩)
 simp
theorem may3_ok (m:MC H bs br sid rid s fv hv pv bv r) (hp:-4611686018427387904 ≤ r.parent.round ∧ r.parent.round ≤ 4611686018427387904):ACalls Tryz.prog 84 [.p (some (br,0,0)),.p (some (bs,0,0))] H fun v H'=>v = .tup [.b (decide (s.round < r.cert.round) && decide (r.cert.round = r.parent.round + 1)),.i .i64 211] ∧ H' = H:=by
 refine ACalls_body Tryz.func84 rfl rfl ?_
 refine AW_seq ?_
 refine AW_reg [0,1] fun K hK=>?_
 simp [init_eq]
 apply hK;clear hK K
 refine AW_seq ?_
 have hwp:=wrap_id (x:=r.parent.round + 1) (by omega) (by omega)
 refine AW_regdto [2,3] pl_84_1 pe_84_1 ⟨28,[(2,.b (decide (s.round < r.cert.round) && decide (r.cert.round = r.parent.round + 1))),(3,.i .i64 211)]⟩ H (by kernel_rfl) (by kernel_rfl) (by decide) (fun K hk=>?_) (AW_ret (end_ret rfl ⟨rfl,rfl⟩))
 by_cases h1:s.round < r.cert.round
 · simpa [init_eq,pl_84_1,aload,afieldAddr,m.ps,m.pr,m.st,m.rc,SRec.take,SRec.certC,SRec.parC,SRec.cv,SRec.cr,SRec.ch,SRec.ca,SRec.qr,SRec.certU,h1,hwp] using hk
 · simpa [init_eq,pl_84_1,aload,afieldAddr,m.ps,m.pr,m.st,m.rc,SRec.take,SRec.certC,SRec.parC,SRec.cv,SRec.cr,SRec.ch,SRec.ca,SRec.qr,SRec.certU,h1,hwp] using hk
theorem may4_ok (m:MC H bs br sid rid s fv hv pv bv r):ACalls Tryz.prog 85 [.p (some (br,0,0)),.p (some (bs,0,0))] H fun v H'=>v = .tup [.b (decide (0 ≤ cmpC r.parent s.high)),.i .i64 212] ∧ H' = H:=by
 refine ACalls_body Tryz.func85 rfl rfl ?_
 refine AW_seq ?_
 refine AW_reg [0,1] fun K hK=>?_
 simp [init_eq]
 apply hK;clear hK K
 refine AW_seq ?_
 refine AW_regd [2,3] pl_85_1 pe_85_1 (by kernel_rfl) (by kernel_rfl) (by decide) fun K hK=>?_
 simp [init_eq,pl_85_1,aload,afieldAddr,m.ps,m.pr,m.st,m.rc,SRec.take,SRec.certC,SRec.parC,SRec.cv,SRec.cr,SRec.ch,SRec.ca,SRec.qr,SRec.certU]
 refine ACalls.mono (certCmp_ok H r.parent s.high) fun x H' ⟨hx,e⟩=>?_
 subst hx e
 try simp
 apply hK;clear hK K
 refine AW_ret (end_ret rfl ⟨?_,rfl⟩)
 simp
theorem may5_ok (m:MC H bs br sid rid s fv hv pv bv r):ACalls Tryz.prog 86 [.p (some (bs,0,0))] H fun v H'=>v = .tup [.b (decide (s.mode ≠ 2)),.i .i64 213] ∧ H' = H:=by
 refine ACalls_body Tryz.func86 rfl rfl ?_
 refine AW_seq ?_
 refine AW_reg [0] fun K hK=>?_
 simp [init_eq]
 apply hK;clear hK K
 refine AW_seq ?_
 refine AW_reg [1,2] fun K hK=>?_
 simp [init_eq,aload,afieldAddr,m.ps,m.pr,m.st,m.rc,SRec.take,SRec.certC,SRec.parC,SRec.cv,SRec.cr,SRec.ch,SRec.ca,SRec.qr,SRec.certU]
 apply hK;clear hK K
 refine AW_ret (end_ret rfl ⟨?_,rfl⟩)
 simp
theorem may6_ok (m:MC H bs br sid rid s fv hv pv bv r) {k:Nat} (ok:s.Ok k) (hk:k ≤ 10000000):ACalls Tryz.prog 87 [.p (some (br,0,0)),.p (some (bs,0,0))] H fun v H'=>v = .tup [.b (decide ((s.fell r.cert.author).height < r.cert.height)),.i .i64 220] ∧ H' = H:=by
 refine ACalls_body Tryz.func87 rfl rfl ?_
 refine AW_seq ?_
 refine AW_reg [0,1] fun K hK=>?_
 simp [init_eq]
 apply hK;clear hK K
 refine AW_seq ?_
 refine AW_regd [2,3] pl_87_1 pe_87_1 (by kernel_rfl) (by kernel_rfl) (by decide) fun K hK=>?_
 simp [init_eq,pl_87_1,aload,afieldAddr,m.ps,m.pr,m.st,m.rc,SRec.take,SRec.certC,SRec.parC,SRec.cv,SRec.cr,SRec.ch,SRec.ca,SRec.qr,SRec.certU,SSt.take]
 refine ACalls.mono (fell_ok H m.at' ok hk r.cert.author) fun x H' ⟨hx,e⟩=>?_
 subst hx e
 try simp
 simp [cert_height]
 apply hK;clear hK K
 refine AW_ret (end_ret rfl ⟨?_,rfl⟩)
 simp
theorem may7_ok (m:MC H bs br sid rid s fv hv pv bv r):ACalls Tryz.prog 88 [.p (some (br,0,0)),.p (some (bs,0,0))] H fun v H'=>v = .tup [.b (decide (0 < cmpC r.cert s.high)),.i .i64 212] ∧ H' = H:=by
 refine ACalls_body Tryz.func88 rfl rfl ?_
 refine AW_seq ?_
 refine AW_reg [0,1] fun K hK=>?_
 simp [init_eq]
 apply hK;clear hK K
 refine AW_seq ?_
 refine AW_regd [2,3] pl_88_1 pe_88_1 (by kernel_rfl) (by kernel_rfl) (by decide) fun K hK=>?_
 simp [init_eq,pl_88_1,aload,afieldAddr,m.ps,m.pr,m.st,m.rc,SRec.take,SRec.certC,SRec.parC,SRec.cv,SRec.cr,SRec.ch,SRec.ca,SRec.qr,SRec.certU]
 refine ACalls.mono (certCmp_ok H r.cert s.high) fun x H' ⟨hx,e⟩=>?_
 subst hx e
 try simp
 apply hK;clear hK K
 refine AW_ret (end_ret rfl ⟨?_,rfl⟩)
 simp
theorem may8_ok (m:MC H bs br sid rid s fv hv pv bv r):ACalls Tryz.prog 89 [.p (some (bs,0,0))] H fun v H'=>v = .tup [.b (!s.shared),.i .i64 100] ∧ H' = H:=by
 refine ACalls_body Tryz.func89 rfl rfl ?_
 refine AW_seq ?_
 refine AW_reg [0] fun K hK=>?_
 simp [init_eq]
 apply hK;clear hK K
 refine AW_seq ?_
 refine AW_reg [1,2] fun K hK=>?_
 simp [init_eq,aload,afieldAddr,m.ps,m.pr,m.st,m.rc,SRec.take,SRec.certC,SRec.parC,SRec.cv,SRec.cr,SRec.ch,SRec.ca,SRec.qr,SRec.certU]
 apply hK;clear hK K
 refine AW_ret (end_ret rfl ⟨?_,rfl⟩)
 simp
theorem may9_ok (m:MC H bs br sid rid s fv hv pv bv r):ACalls Tryz.prog 90 [.p (some (bs,0,0))] H fun v H'=>v = .tup [.b (decide (s.view < s.last)),.i .i64 230] ∧ H' = H:=by
 refine ACalls_body Tryz.func90 rfl rfl ?_
 refine AW_seq ?_
 refine AW_reg [0] fun K hK=>?_
 simp [init_eq]
 apply hK;clear hK K
 refine AW_seq ?_
 refine AW_regd [1,2] pl_90_1 pe_90_1 (by kernel_rfl) (by kernel_rfl) (by decide) fun K hK=>?_
 simp [init_eq,pl_90_1,aload,afieldAddr,m.ps,m.pr,m.st,m.rc,SRec.take,SRec.certC,SRec.parC,SRec.cv,SRec.cr,SRec.ch,SRec.ca,SRec.qr,SRec.certU]
 apply hK;clear hK K
 refine AW_ret (end_ret rfl ⟨?_,rfl⟩)
 simp
theorem may10_ok (m:MC H bs br sid rid s fv hv pv bv r):ACalls Tryz.prog 91 [.p (some (br,0,0)),.p (some (bs,0,0))] H fun v H'=>v = .tup [.b (decide (s.count < r.count)),.i .i64 151] ∧ H' = H:=by
 refine ACalls_body Tryz.func91 rfl rfl ?_
 refine AW_seq ?_
 refine AW_reg [0,1] fun K hK=>?_
 simp [init_eq]
 apply hK;clear hK K
 refine AW_seq ?_
 refine AW_regd [2,3] pl_91_1 pe_91_1 (by kernel_rfl) (by kernel_rfl) (by decide) fun K hK=>?_
 simp [init_eq,pl_91_1,aload,afieldAddr,m.ps,m.pr,m.st,m.rc,SRec.take,SRec.certC,SRec.parC,SRec.cv,SRec.cr,SRec.ch,SRec.ca,SRec.qr,SRec.certU]
 apply hK;clear hK K
 refine AW_ret (end_ret rfl ⟨?_,rfl⟩)
 simp
theorem may11_ok (m:MC H bs br sid rid s fv hv pv bv r) (hb:s.blocks.length ≤ 1000000000):ACalls Tryz.prog 92 [.p (some (bs,0,0)),.p (some (br,0,0))] H fun v H'=>v = .tup [.b (!decide (r.text ∈ s.blocks)),.i .i64 100] ∧ H' = H:=by
 refine ACalls_body Tryz.func92 rfl rfl ?_
 refine AW_seq ?_
 refine AW_reg [0,1] fun K hK=>?_
 simp [init_eq]
 apply hK;clear hK K
 refine AW_seq ?_
 refine AW_regd [2,3] pl_92_1 pe_92_1 (by kernel_rfl) (by kernel_rfl) (by decide) fun K hK=>?_
 simp [init_eq,pl_92_1,aload,afieldAddr,m.ps,m.pr,m.st,m.rc,SRec.take,SRec.certC,SRec.parC,SRec.cv,SRec.cr,SRec.ch,SRec.ca,SRec.qr,SRec.certU]
 refine ACalls.mono (scontains_ok H m.at'.blocks hb r.text) fun x H' ⟨hx,e⟩=>?_
 subst hx e
 try simp
 apply hK;clear hK K
 refine AW_ret (end_ret rfl ⟨?_,rfl⟩)
 simp
end
end Go.Proofs.YtaidfojbnfkclaaGreatDoor
