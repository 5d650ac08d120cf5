/-
  Records: as data,which may be,their bytes and back (plain).
-/
import Derived.Test.YtaidfojbnfkclaaGreatDoorCond
import Derived.Test.YtaidfojbnfkclaaGreatDoorTxtC
import Derived.Test.YtaidfojbnfkclaaGreatDoorTxtD
import Derived.Test.YtaidfojbnfkclaaGreatDoorTxtA
set_option linter.unusedVariables false
set_option linter.unusedSimpArgs false
namespace Go.Proofs.YtaidfojbnfkclaaGreatDoor
open Go Go.Abs Go.Proofs
set_option maxRecDepth 100000
attribute [local irreducible] AEnd AW ACalls
/-- Cells that fit their kinds are held against each other by what they are. -/
theorem ceqs_iff:∀ {ks:List CK} {xs ys:List V},fitsAll ks xs = true → fitsAll ks ys = true → ∃ b,ceqs xs ys = some b ∧ (b = true ↔ xs = ys)
 | [],[],[],_,_=>⟨true,rfl,by simp⟩
 | k :: ks,v :: vs,u :: us,h1,h2=>by
   simp only [fitsAll,Bool.and_eq_true] at h1 h2
   obtain ⟨b,hb,hi⟩:=ceqs_iff h1.2 h2.2
   have hc:∃ a,ceq v u = some a ∧ (a = true ↔ v = u):=by
    cases k <;> cases v <;> simp [CK.fits] at h1 <;> cases u <;> simp [CK.fits] at h2
    · rename_i x y; exact ⟨x == y,rfl,by simp⟩
    · obtain ⟨rfl,_⟩:=h1; obtain ⟨rfl,_⟩:=h2; rename_i x y _ _
      exact ⟨x == y,by simp [ceq],by simp⟩
    · rename_i x y; exact ⟨x == y,rfl,by simp⟩
   obtain ⟨a,ha,hj⟩:=hc
   refine ⟨a && b,by simp only [ceqs,ha,hb],?_⟩
   rw [Bool.and_eq_true,hi,hj]; simp
 | [],_ :: _,_,h,_=>by simp [fitsAll] at h
 | [],[],_ :: _,_,h=>by simp [fitsAll] at h
 | _ :: _,[],_,h,_=>by simp [fitsAll] at h
 | _ :: _,_ :: _,[],_,h=>by simp [fitsAll] at h
/-- A record. -/
structure SRec where
 kind:Int
 cert:Cert
 parent:Cert
 set:BitVec 32
 author:Int
 count:Int
 block:Int
 text:List UInt8
 deriving DecidableEq
def SRec.cells (r:SRec):List V:=.i .i64 r.kind :: (r.cert.cells ++ (r.parent.cells ++ [u32 r.set,.i .i64 r.author,.i .i64 r.count,.i .i64 r.block,.s r.text]))
def SRec.zero:SRec:=⟨0,Cert.zero,Cert.zero,0#32,0,0,0,[]⟩
@[simp] theorem SRec.len (r:SRec):r.cells.length = 22:=rfl
theorem SRec.take (r:SRec):r.cells.take 22 = r.cells:=rfl
@[simp] theorem SRec.c0 (r:SRec):r.cells[0]? = some (.i .i64 r.kind):=rfl
@[simp] theorem SRec.c17 (r:SRec):r.cells[17]? = some (u32 r.set):=rfl
@[simp] theorem SRec.c18 (r:SRec):r.cells[18]? = some (.i .i64 r.author):=rfl
@[simp] theorem SRec.c19 (r:SRec):r.cells[19]? = some (.i .i64 r.count):=rfl
@[simp] theorem SRec.c20 (r:SRec):r.cells[20]? = some (.i .i64 r.block):=rfl
@[simp] theorem SRec.c21 (r:SRec):r.cells[21]? = some (.s r.text):=rfl
theorem SRec.certC (r:SRec):(r.cells.drop 1).take 8 = r.cert.cells:=rfl
theorem SRec.parC (r:SRec):(r.cells.drop 9).take 8 = r.parent.cells:=rfl
theorem SRec.w0 (r:SRec) (x:Int):splice r.cells 0 [.i .i64 x] = ({ r with kind:=x }:SRec).cells:=rfl
theorem SRec.w1 (r:SRec) (c:Cert):splice r.cells 1 c.cells = ({ r with cert:=c }:SRec).cells:=rfl
theorem SRec.w9 (r:SRec) (c:Cert):splice r.cells 9 c.cells = ({ r with parent:=c }:SRec).cells:=rfl
theorem SRec.w17 (r:SRec) (x:BitVec 32):splice r.cells 17 [u32 x] = ({ r with set:=x }:SRec).cells:=rfl
theorem SRec.w17u (r:SRec) (x:BitVec 32):splice r.cells 17 [.i .u32 x.toNat] = ({ r with set:=x }:SRec).cells:=rfl
theorem SRec.w18 (r:SRec) (x:Int):splice r.cells 18 [.i .i64 x] = ({ r with author:=x }:SRec).cells:=rfl
theorem SRec.w19 (r:SRec) (x:Int):splice r.cells 19 [.i .i64 x] = ({ r with count:=x }:SRec).cells:=rfl
theorem SRec.w20 (r:SRec) (x:Int):splice r.cells 20 [.i .i64 x] = ({ r with block:=x }:SRec).cells:=rfl
theorem SRec.w21 (r:SRec) (x:List UInt8):splice r.cells 21 [.s x] = ({ r with text:=x }:SRec).cells:=rfl
theorem SRec.wall (r x:SRec):splice r.cells 0 x.cells = x.cells:=splice_all rfl
theorem Cert.inj {x y:Cert} (h:x.cells = y.cells):x = y:=by
 cases x; cases y
 simp [Cert.cells,u32] at h
 obtain ⟨h1,h2,h3,h4,h5,h6,h7,h8⟩:=h
 have e7:=BitVec.eq_of_toNat_eq (Int.ofNat_inj.1 h7)
 have e8:=BitVec.eq_of_toNat_eq (Int.ofNat_inj.1 h8)
 simp_all
theorem SRec.inj {x y:SRec}:x.cells = y.cells ↔ x = y:=by
 refine ⟨fun h=>?_,fun h=>by rw [h]⟩
 have h1:(x.cells.drop 1).take 8 = (y.cells.drop 1).take 8:=by rw [h]
 have h2:(x.cells.drop 9).take 8 = (y.cells.drop 9).take 8:=by rw [h]
 rw [SRec.certC,SRec.certC] at h1
 rw [SRec.parC,SRec.parC] at h2
 have e1:=Cert.inj h1
 have e2:=Cert.inj h2
 have g:∀ i:Nat,x.cells[i]? = y.cells[i]?:=fun i=>by rw [h]
 have g0:=g 0; have g17:=g 17; have g18:=g 18; have g19:=g 19; have g20:=g 20; have g21:=g 21
 simp [u32] at g0 g17 g18 g19 g20 g21
 have e17:=BitVec.eq_of_toNat_eq (Int.ofNat_inj.1 g17)
 cases x; cases y
 simp_all
theorem SRec.fits (r:SRec):fitsAll ([CK.i .i64] ++ (List.replicate 6 (CK.i .i64) ++ [CK.i .u32,CK.i .u32]) ++ (List.replicate 6 (CK.i .i64) ++ [CK.i .u32,CK.i .u32]) ++ [CK.i .u32,CK.i .i64,CK.i .i64,CK.i .i64,CK.s]) r.cells = true:=rfl
theorem SRec.aeqP (x y:SRec):aeq Tryz.prog 49 (.agg x.cells) (.agg y.cells) = some (decide (x = y)):=by
 obtain ⟨b,hb,hi⟩:=ceqs_iff (SRec.fits x) (SRec.fits y)
 have h1:aeq Tryz.prog 49 (.agg x.cells) (.agg y.cells) = ceqs x.cells y.cells:=by
  simp only [Go.Abs.aeq,qeq_49]
  exact if_pos ⟨rfl,rfl⟩
 rw [h1,hb]
 congr 1
 rw [Bool.eq_iff_iff,hi,SRec.inj]; simp
theorem SRec.aeqR (x y:SRec):aeq Tryz.prog 52 (.agg x.cells) (.agg y.cells) = some (decide (x = y)):=by
 obtain ⟨b,hb,hi⟩:=ceqs_iff (SRec.fits x) (SRec.fits y)
 have h1:aeq Tryz.prog 52 (.agg x.cells) (.agg y.cells) = ceqs x.cells y.cells:=by
  simp only [Go.Abs.aeq,qeq_52]
  exact if_pos ⟨rfl,rfl⟩
 rw [h1,hb]
 congr 1
 rw [Bool.eq_iff_iff,hi,SRec.inj]; simp
/-! Kinds. -/
inductive KC where | cc | c | sa | nb | tx | no | bad
 deriving DecidableEq
def kclass (k:Int):KC:=if k = 1 ∨ k = 4 then .cc else if k = 5 then .c else if k = 7 then .sa else if k = 8 then .nb else if k = 9 ∨ k = 10 then .tx else if k = 2 ∨ k = 3 ∨ k = 6 then .no else .bad
def SRec.only (r:SRec):SRec:=match kclass r.kind with
 | .cc=>{ SRec.zero with kind:=r.kind,cert:=r.cert,parent:=r.parent }
 | .c=>{ SRec.zero with kind:=r.kind,cert:=r.cert }
 | .sa=>{ SRec.zero with kind:=r.kind,set:=r.set,author:=r.author }
 | .nb=>{ SRec.zero with kind:=r.kind,count:=r.count,block:=r.block }
 | .tx=>{ SRec.zero with kind:=r.kind,text:=r.text }
 | _=>{ SRec.zero with kind:=r.kind }
def SRec.certified (r:SRec):Bool:=r.cert.ok &&
 (if r.kind = 1 then decide (r.cert.kind = 1) && r.parent.ok else if r.kind = 4 then decide (r.cert.kind = 2) && decide (r.cert.coin = 0#32) && r.parent.ok else decide (r.cert.kind = 1) || r.cert.endorsed)
def SRec.setBad (r:SRec):Bool:=decide (r.set = 0#32) || !setOk r.set || decide (r.author < 0) || decide (10 ≤ r.author)
def SRec.numBad (r:SRec):Bool:=decide (r.count < 1) || decide (r.block < 1) || decide (2147483647 < r.count) || decide (2147483647 < r.block)
/-- May it be a record? -/
def SRec.form (r:SRec):Int :=
 if kclass r.kind = .bad ∨ r ≠ r.only then 190 else match kclass r.kind with
 | .cc=>if r.certified then 0 else 110
 | .c=>if r.certified then 0 else 110
 | .sa=>if r.setBad then 1 else 0
 | .nb=>if r.numBad then 1 else 0
 | .tx=>if (parseBlk r.text).2 = 0 then 0 else 120
 | _=>0
theorem kinds (k:Int):k = 1 ∨ k = 2 ∨ k = 3 ∨ k = 4 ∨ k = 5 ∨ k = 6 ∨ k = 7 ∨ k = 8 ∨ k = 9 ∨ k = 10 ∨ (k < 1 ∨ 10 < k):=by omega
theorem kclass_bad {k:Int} (h:k < 1 ∨ 10 < k):kclass k = .bad:=by
 unfold kclass
 rw [if_neg (by omega),if_neg (by omega),if_neg (by omega),if_neg (by omega),if_neg (by omega),if_neg (by omega)]
theorem kclass_ok {k:Int} (h:¬ (k < 1 ∨ 10 < k)):kclass k ≠ .bad:=by
 rcases kinds k with h1 | h1 | h1 | h1 | h1 | h1 | h1 | h1 | h1 | h1 | h1
 all_goals first | (subst h1; decide) | exact absurd h1 h
/-! Reading. -/
theorem form_only {r:SRec} (h:r.form = 0):kclass r.kind ≠ .bad ∧ r = r.only:=by
 unfold SRec.form at h
 by_cases hb:kclass r.kind = .bad ∨ r ≠ r.only
 · rw [if_pos hb] at h; cases h
 · simp only [not_or,Classical.not_not,ne_eq] at hb
   exact hb
end Go.Proofs.YtaidfojbnfkclaaGreatDoor
