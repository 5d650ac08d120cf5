import Derived.Test.YtaidfojbnfkclaaGreatDoorVote1
import Derived.Test.YtaidfojbnfkclaaGreatDoorSaf9
import Derived.Test.YtaidfojbnfkclaaGreatDoorBeh2
import Derived.Test.YtaidfojbnfkclaaGreatDoorAgain1
set_option linter.unusedVariables false
set_option linter.unusedSimpArgs false
namespace Go.Proofs.YtaidfojbnfkclaaGreatDoor
open Go Go.Abs Go.Proofs
variable {s:SSt} {me n:Int} {b:Blk}
theorem vote_zero (h:(voteD (fun r=>(s.doR r).2) me n b).2 = 0):(0 ≤ me ∧ me < 10) ∧ b.err = 0 ∧ (voteD (fun r=>(s.doR r).2) me n b).1 = voteRec me n b ∧ (s.doR (voteRec me n b)).2 = 0:=by
 unfold voteD at *
 split at h
 · cases h
 · split at h
   · rename_i h1; exact absurd h h1
   · split at h
     · rename_i h1; exact absurd h h1
     · rename_i h0 h1 h2
       refine ⟨by omega,by simpa using h1,?_,by simpa using h2⟩
       rw [if_neg h0,if_neg h1,if_neg h2]
theorem cast_view:(voteRec me n b).cert.view = b.view:=by unfold voteRec castC; dsimp only; split <;> rfl
theorem vote_view (h:(voteD (fun r=>(s.doR r).2) me n b).2 = 0):b.view = s.view ∧ (b.height = 0 → 0 ≤ cmpC b.parent s.high):=by
 obtain ⟨hm,hb,_,hd⟩:=vote_zero h
 obtain ⟨hf,he,hx⟩:=doR_zero hd
 by_cases h0:b.height = 0
 · have k:(voteRec me n b).kind = 1:=by simp [voteRec,h0]
   unfold SSt.mayE at he
   rw [if_pos k] at he
   obtain ⟨_,he⟩:=mustE_cons he (by decide)
   obtain ⟨e2,he⟩:=mustE_cons he (by decide)
   obtain ⟨_,he⟩:=mustE_cons he (by decide)
   obtain ⟨e4,_⟩:=mustE_cons he (by decide)
   exact ⟨by simpa [cast_view] using e2,fun _=>of_decide_eq_true e4⟩
 · have k:(voteRec me n b).kind = 4:=by simp [voteRec,h0]
   unfold SSt.mayE at he
   rw [if_neg (by omega),if_neg (by omega),if_neg (by omega),if_pos k] at he
   obtain ⟨_,he⟩:=mustE_cons he (by decide)
   obtain ⟨e2,he⟩:=mustE_cons he (by decide)
   exact ⟨by simpa [cast_view] using e2,fun h=>absurd h h0⟩
theorem doR_fst {r:SRec} (h:(s.doR r).2 = 0):(s.doR r).1 = s.act r:=by obtain ⟨hf,hm,hd⟩:=SSt.doR_zero' h; rw [hd]
theorem cast_plain (me n:Int) (b:Blk):(castC me n b).plain = (castC 0 n b).plain:=by
 unfold castC; split <;> rfl
theorem vote_falls (h0:b.height ≠ 0) (hs:SortedC s.falls):(s.act (voteRec me n b)).fell b.author = (castC 0 n b).plain:=by
 have k:(voteRec me n b).kind = 4:=by simp [voteRec,h0]
 obtain ⟨hd,e,_⟩:=act4 (s:=s) k
 rw [e]
 show ofC (putC s.falls (voteRec me n b).cert.plain) b.author = _
 rw [fallen_fell hs]
 have ha:(voteRec me n b).cert.author = b.author:=by simp [voteRec,castC,h0]
 rw [if_pos ha]
 exact cast_plain me n b
theorem vote_again {k:Nat} (ok:s.Ok k) (h:(voteD (fun r=>(s.doR r).2) me n b).2 = 0):againB (s.doR (voteRec me n b)).1 n b = true:=by
 obtain ⟨hv,_⟩:=vote_view h
 obtain ⟨_,_,_,hd⟩:=vote_zero h
 rw [doR_fst hd]
 unfold againB
 by_cases h0:b.height = 0
 · rw [if_pos h0,act1 (by simp [voteRec,h0])]
   simp [hv,voteRec,castC,h0]
 · rw [if_neg h0,vote_falls h0 ok.fs]
   simp
theorem vote_twice {k:Nat} (ok:s.Ok k) (h:(voteD (fun r=>(s.doR r).2) me n b).2 = 0) (m:Int):(voteD (fun r=>((s.doR (voteRec me n b)).1.doR r).2) me m b).2 ≠ 0:=by
 intro h2
 obtain ⟨_,_,_,hd⟩:=vote_zero h
 obtain ⟨_,_,_,hd2⟩:=vote_zero h2
 obtain ⟨hf,he,hx⟩:=SSt.doR_zero' hd2
 rw [doR_fst hd] at he
 by_cases h0:b.height = 0
 · have:=(may1 he (by simp [voteRec,h0])).2
   rw [act1 (by simp [voteRec,h0])] at this
   simp [voteRec,castC,h0] at this
 · have:=may4 he (by simp [voteRec,h0])
   have ha:(voteRec me m b).cert.author = b.author:=by simp [voteRec,castC,h0]
   rw [ha,vote_falls h0 ok.fs] at this
   simp [voteRec,castC,h0,Cert.plain] at this
end Go.Proofs.YtaidfojbnfkclaaGreatDoor
