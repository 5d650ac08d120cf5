/-
  ValidMeets,in plain words: what is valid stays valid; two that are valid meet.
-/
import Derived.Test.YtmhaimdpfelkpaaGreatDoorValid17
set_option linter.unusedVariables false
set_option linter.unusedSimpArgs false
namespace Go.Proofs.YtmhaimdpfelkpaaGreatDoor
open Go Go.Abs Go.Proofs
set_option maxRecDepth 100000
/-- Whom a view's coin elects. -/
def eff (f:Int) (co:Int → Tos) (v:Int):Int:=if (co v).chosen then (co v).who else leadN f v
/-- Registers that know at least as much. -/
structure More (d e:RegD):Prop where
 f:e.f = d.f
 bad:e.bad = d.bad
 bk:∀ n:Int,1 ≤ n → n ≤ d.bk.length → n ≤ e.bk.length ∧ e.bk[n.toNat - 1]? = d.bk[n.toNat - 1]?
 sh:∀ x ∈ d.sh,x ∈ e.sh
 co:∀ v,eff d.f e.co v = eff d.f d.co v
/-! How many. -/
theorem pop_split (s t:BitVec 32):pop s = pop (s &&& t) + pop (s &&& ~~~t):=by
 rw [pop_bits,pop_bits,pop_bits]
 unfold bitsOf bitsTo
 simp only [← List.countP_eq_length_filter]
 suffices ∀ l:List Nat,(∀ i ∈ l,i < 32) → l.countP (fun i=>s.getLsbD i) = l.countP (fun i=>(s &&& t).getLsbD i) + l.countP (fun i=>(s &&& ~~~t).getLsbD i) from this _ fun i hi=>List.mem_range.1 hi
 intro l
 induction l with
 | nil=>simp
 | cons i l ih =>
   intro h
   rw [List.countP_cons,List.countP_cons,List.countP_cons,ih fun j hj=>h j (by simp [hj])]
   have hi:=h i (by simp)
   rw [BitVec.getLsbD_and,BitVec.getLsbD_and,BitVec.getLsbD_not]
   cases s.getLsbD i <;> cases t.getLsbD i <;> simp [hi] <;> omega
end Go.Proofs.YtmhaimdpfelkpaaGreatDoor
