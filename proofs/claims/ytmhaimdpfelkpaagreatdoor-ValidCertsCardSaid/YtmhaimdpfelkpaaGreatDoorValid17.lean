/-
  ValidMore,in plain words: one signer more.
-/
import Derived.Test.YtmhaimdpfelkpaaGreatDoorTxtF
set_option linter.unusedVariables false
set_option linter.unusedSimpArgs false
namespace Go.Proofs.YtmhaimdpfelkpaaGreatDoor
open Go Go.Abs Go.Proofs
set_option maxRecDepth 100000
theorem full_bit (f:Int) (h:qtimes 3 f ≠ 0) (i:Nat) (hi:i < 32):(fullSet f).getLsbD i = decide ((i:Int) < qtimes 3 f):=by
 have h4:∀ i:Fin 32,(15#32).getLsbD i = decide (i.val < 4):=by decide
 have h7:∀ i:Fin 32,(127#32).getLsbD i = decide (i.val < 7):=by decide
 have h10:∀ i:Fin 32,(1023#32).getLsbD i = decide (i.val < 10):=by decide
 rcases qtimes3 f with e | e | e | e
 · exact absurd e h
 · have:fullSet f = 15#32:=by rw [fullSet,e]; rfl
   rw [this,e]
   exact (h4 ⟨i,hi⟩).trans (decide_eq_decide.2 (by simp; omega))
 · have:fullSet f = 127#32:=by rw [fullSet,e]; rfl
   rw [this,e]
   exact (h7 ⟨i,hi⟩).trans (decide_eq_decide.2 (by simp; omega))
 · have:fullSet f = 1023#32:=by rw [fullSet,e]; rfl
   rw [this,e]
   exact (h10 ⟨i,hi⟩).trans (decide_eq_decide.2 (by simp; omega))
theorem qcheck_zero (f:Int) (s:BitVec 32):qcheck f s = 0 ↔ qtimes 3 f ≠ 0 ∧ ∀ k ∈ bitsOf s,(k:Int) < qtimes 3 f:=by
 unfold qcheck
 by_cases h:qtimes 3 f = 0
 · simp [h]
 · rw [if_neg h]
   have key:(s &&& ~~~fullSet f = 0#32) ↔ ∀ k ∈ bitsOf s,(k:Int) < qtimes 3 f:=by
    constructor
    · intro e k hk
      have hb:=mem_bitsOf.1 hk
      have hlt:=BitVec.lt_of_getLsbD hb
      have e2:(s &&& ~~~fullSet f).getLsbD k = (0#32).getLsbD k:=congrArg (fun b=>BitVec.getLsbD b k) e
      rw [BitVec.getLsbD_and,BitVec.getLsbD_not,full_bit f h k hlt,hb] at e2
      cases hd:decide ((k:Int) < qtimes 3 f) with
      | true=>exact of_decide_eq_true hd
      | false=>rw [hd] at e2; simp [hlt] at e2
    · intro hk
      apply BitVec.eq_of_getLsbD_eq
      intro i hi
      rw [BitVec.getLsbD_and,BitVec.getLsbD_not,full_bit f h i hi]
      cases hb:s.getLsbD i with
      | false=>simp
      | true =>
        have:=hk i (mem_bitsOf.2 hb)
        simp [this]
   rw [← key]
   constructor
   · intro e
     refine ⟨h,?_⟩
     apply Classical.byContradiction
     intro hn; rw [if_neg hn] at e; simp at e
   · intro e; rw [if_pos e.2]
theorem pop_bits (s:BitVec 32):pop s = (bitsOf s).length:=rfl
end Go.Proofs.YtmhaimdpfelkpaaGreatDoor
