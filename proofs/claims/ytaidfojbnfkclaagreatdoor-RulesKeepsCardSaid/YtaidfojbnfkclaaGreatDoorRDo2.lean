/-
  The program's states and the document's (plain).
-/
import Derived.Test.YtaidfojbnfkclaaGreatDoorRDo1
set_option linter.unusedVariables false
set_option linter.unusedSimpArgs false
namespace Go.Proofs.YtaidfojbnfkclaaGreatDoor
open Go Go.Abs Go.Proofs
structure Rel (s:SSt) (m:RSt):Prop where
 last:s.last = m.last
 view:s.view = m.view
 mode:s.mode = m.mode
 round:s.round = m.round
 block:s.block = m.block
 high:s.high = m.high
 gave:s.gave = m.gave
 fell:∀ a,0 ≤ a ∧ a ≤ 9 → s.fell a = m.fall a
 head:∀ a,0 ≤ a ∧ a ≤ 9 → s.head a = m.head a
 hk:∀ c ∈ s.heads,c.kind = 2
 shared:s.shared = m.shared
 o0:s.own0 = m.own0
 o1:s.own1 = m.own1
 o2:s.own2 = m.own2
 o3:s.own3 = m.own3
 past:s.past = m.past
 count:s.count = m.count
 tip:s.tip = m.tip
 blocks:s.blocks = m.blocks
 wf:m.Wf
theorem getD_set {l:List Cert} {i j:Nat} (hi:i < l.length) (c:Cert):(l.set i c).getD j Cert.zero = if i = j then c else l.getD j Cert.zero:=by
 rw [List.getD_eq_getElem?_getD,List.getElem?_set,List.getD_eq_getElem?_getD]
 by_cases h:i = j
 · subst h; simp [hi]
 · simp [h]
section
variable {s:SSt} {m:RSt} {r:SRec}
theorem Rel.own (h:Rel s m) (x:Int):s.ownAt x = m.ownAt x:=by unfold SSt.ownAt RSt.ownAt; rw [h.o0,h.o1,h.o2,h.o3]
theorem mustE_if {ok:Bool} {e:Int} {l:List (Bool × Int)}:mustE ((ok,e) :: l) = if ok = true then mustE l else e:=rfl
/-- The errors are the same. -/
theorem Rel.err (h:Rel s m) (hf:r.form = 0):s.mayE r = m.errE r:=by
 have rng:=SRec.rng hf
 unfold SSt.mayE RSt.errE
 by_cases k1:r.kind = 1
 · rw [if_pos k1,if_pos k1,← h.mode,← h.view,← h.round,← h.high]
   simp only [mustE_if,mustE]
   by_cases a1:s.mode = 0 <;> by_cases a2:r.cert.view = s.view <;> by_cases a3:s.round < r.cert.round <;> by_cases a4:r.cert.round = r.parent.round + 1 <;> by_cases a5:0 ≤ cmpC r.parent s.high <;> simp [a1,a2,a3,a4,a5] <;> omega
 rw [if_neg k1,if_neg k1]
 by_cases k2:r.kind = 2
 · rw [if_pos k2,if_pos k2,← h.mode]; simp only [mustE_if,mustE]; by_cases a1:s.mode = 0 <;> simp [a1]
 rw [if_neg k2,if_neg k2]
 by_cases k3:r.kind = 3
 · rw [if_pos k3,if_pos k3,← h.mode]; simp only [mustE_if,mustE]; by_cases a1:s.mode = 2 <;> simp [a1]
 rw [if_neg k3,if_neg k3]
 by_cases k4:r.kind = 4
 · have hau:=(Cert.rng (rng.certs (by rw [k4]; rfl)).1).author
   rw [if_pos k4,if_pos k4,← h.mode,← h.view,← h.fell _ hau]; simp only [mustE_if,mustE]
   by_cases a1:s.mode = 2 <;> by_cases a2:r.cert.view = s.view <;> by_cases a3:(s.fell r.cert.author).height < r.cert.height <;> simp [a1,a2,a3] <;> omega
 rw [if_neg k4,if_neg k4]
 by_cases k5:r.kind = 5
 · rw [if_pos k5,if_pos k5,← h.high]; simp only [mustE_if,mustE]; by_cases a1:0 < cmpC r.cert s.high <;> simp [a1] <;> omega
 rw [if_neg k5,if_neg k5]
 by_cases k6:r.kind = 6
 · rw [if_pos k6,if_pos k6,← h.mode,← h.shared]; simp only [mustE_if,mustE]; by_cases a1:s.mode = 2 <;> cases s.shared <;> simp [a1]
 rw [if_neg k6,if_neg k6]
 by_cases k7:r.kind = 7
 · rw [if_pos k7,if_pos k7,← h.view,← h.last]; simp only [mustE_if,mustE]; by_cases a1:s.view < s.last <;> simp [a1] <;> omega
 rw [if_neg k7,if_neg k7]
 by_cases k8:r.kind = 8
 · rw [if_pos k8,if_pos k8,← h.count]; simp only [mustE_if,mustE]; by_cases a1:s.count < r.count <;> simp [a1] <;> omega
 rw [if_neg k8,if_neg k8]
 by_cases k9:r.kind = 9
 · rw [if_pos k9,if_neg (by omega)]
   simp only [SSt.mayOwnE,RSt.ownErr,h.own,h.view]
 rw [if_neg k9]
 have k10:r.kind = 10:=by have:=rng.kind; omega
 rw [if_pos k10,← h.blocks]; simp only [mustE_if,mustE]; by_cases a1:r.text ∈ s.blocks <;> simp [a1]
theorem form_coin (hf:r.form = 0) (k:r.kind = 4):r.cert.coin = 0#32:=by
 obtain ⟨hb,ho⟩:=form_only hf
 unfold SRec.form at hf
 rw [if_neg (by simp [hb,← ho]),show kclass r.kind = .cc by rw [k]; rfl] at hf
 simp only at hf
 have hc:r.certified = true:=by
  cases hc:r.certified
  · rw [hc] at hf; cases hf
  · rfl
 unfold SRec.certified at hc
 rw [if_neg (by omega),if_pos k] at hc
 simp at hc
 exact hc.2.1.2
theorem plain_eq {c:Cert} (h:c.coin = 0#32):c.plain = { c with signers:=0#32 }:=by
 cases c
 simp only at h
 subst h
 rfl
theorem shows_eq (p c:Cert):showsC p c = rshows p c:=by
 unfold showsC rshows Cert.endorsed
 by_cases h1:p.kind = 2 <;> by_cases h2:p.coin = 0#32 <;> simp [h1,h2]
/-- A record does the same to both. -/
theorem Rel.act {k:Nat} (h:Rel s m) (ok:s.Ok k) (hf:r.form = 0) (hm:s.mayE r = 0):Rel (s.act r) (m.act r):=by
 have rng:=SRec.rng hf
 rcases kinds r.kind with q | q | q | q | q | q | q | q | q | q | q
 · rw [act1 q,show m.act r = { m with round:=r.cert.round,block:=r.cert.block,high:=maxC m.high r.parent } by simp [RSt.act,q]]
   exact { h with round:=rfl,block:=rfl,high:=by show maxC s.high _ = maxC m.high _; rw [h.high],wf:=⟨h.wf.f,h.wf.h⟩ }
 · rw [act2 q,show m.act r = { m with mode:=1,gave:=m.high } by simp [RSt.act,q]]
   exact { h with mode:=rfl,gave:=h.high,wf:=⟨h.wf.f,h.wf.h⟩ }
 · rw [act3 q,show m.act r = { m with gave:=(if m.mode = 0 then m.high else m.gave),mode:=2 } by simp [RSt.act,q]]
   exact { h with mode:=rfl,gave:=by show (if s.mode = 0 then s.high else s.gave) = _; rw [h.mode,h.high,h.gave],wf:=⟨h.wf.f,h.wf.h⟩ }
 · have hcr:=rng.certs (by rw [q]; rfl)
   have hau:=(Cert.rng hcr.1).author
   have han:r.cert.author.toNat < 10:=by omega
   have hco:=form_coin hf q
   have hpl:r.cert.plain = { r.cert with signers:=0#32 }:=plain_eq hco
   have hwf:(m.fallen r).Wf:=⟨by show (m.falls.set _ _).length = 10; rw [List.length_set]; exact h.wf.f,h.wf.h⟩
   have hfall:∀ a,0 ≤ a ∧ a ≤ 9 → ofC (putC s.falls r.cert.plain) a = (m.falls.set r.cert.author.toNat { r.cert with signers:=0#32 }).getD a.toNat Cert.zero:=fun a ha=>by
    rw [fallen_fell ok.fs,getD_set (by rw [h.wf.f]; exact han),hpl]
    by_cases e:r.cert.author = a
    · rw [if_pos e,if_pos (by rw [e])]
    · rw [if_neg e,if_neg (by omega)]; exact h.fell a ha
   have base:Rel (s.fallen r) (m.fallen r):={ h with fell:=hfall,wf:=hwf }
   have hA1:s.act r = (if showsC r.parent r.cert && decide (((s.fallen r).head r.parent.author).height < r.parent.height) then { s.fallen r with heads:=putC s.heads r.parent } else s.fallen r):=by
    unfold SSt.act; rw [if_neg (by omega),if_neg (by omega),if_neg (by omega),if_pos q]
   have hA2:m.act r = (if showsC r.parent r.cert && decide ((m.head r.cert.author).height < r.parent.height) then { m.fallen r with heads:=m.heads.set r.cert.author.toNat r.parent } else m.fallen r):=by
    unfold RSt.act; rw [if_neg (by omega),if_neg (by omega),if_neg (by omega),if_pos q,shows_eq]
   rw [hA1,hA2]
   by_cases hs:showsC r.parent r.cert = true
   · have ha:r.parent.author = r.cert.author:=by
       unfold showsC at hs; simp at hs; exact hs.2
     have hk2:r.parent.kind = 2:=by
      unfold showsC at hs; simp at hs; exact hs.1.1.1
     have he:(s.fallen r).head r.parent.author = m.head r.cert.author:=by rw [ha]; exact h.head _ hau
     rw [hs,he,Bool.true_and]
     by_cases hh:(m.head r.cert.author).height < r.parent.height
     · rw [if_pos (by simpa using hh),if_pos (by simpa using hh)]
       refine { base with head:=fun a ha2=>?_,hk:=fun c hc=>?_,wf:=⟨hwf.f,by show (m.heads.set _ _).length = 10; rw [List.length_set]; exact h.wf.h⟩ }
       · show ofC (putC s.heads r.parent) a = (m.heads.set r.cert.author.toNat r.parent).getD a.toNat Cert.zero
         unfold ofC
         rw [findC_put a ok.hs,getD_set (by rw [h.wf.h]; exact han),ha]
         by_cases e:r.cert.author = a
         · rw [if_pos e,if_pos (by rw [e])]; rfl
         · rw [if_neg e,if_neg (by omega)]; exact h.head a ha2
       · rcases mem_putC hc with rfl | hc
         · exact hk2
         · exact h.hk c hc
     · rw [if_neg (by simpa using hh),if_neg (by simpa using hh)]; exact base
   · rw [if_neg (by simp [hs]),if_neg (by simp [hs])]; exact base
 · rw [act5 q,show m.act r = { m with high:=r.cert } by simp [RSt.act,q]]
   exact { h with high:=rfl,wf:=⟨h.wf.f,h.wf.h⟩ }
 · rw [act6 q,show m.act r = { m with shared:=true } by simp [RSt.act,q]]
   exact { h with shared:=rfl,wf:=⟨h.wf.f,h.wf.h⟩ }
 · rw [act7 q,show m.act r = m.leave r by simp [RSt.act,q]]
   have hau:=rng.sa (by rw [q]; rfl)
   have hh:=h.head _ hau
   have hz:∀ a:Int,0 ≤ a ∧ a ≤ 9 → (List.replicate 10 Cert.zero).getD a.toNat Cert.zero = Cert.zero:=fun a ha=>by
    rw [List.getD_eq_getElem?_getD,List.getElem?_replicate]; split <;> rfl
   refine ⟨h.last,by show s.view + 1 = m.view + 1; rw [h.view],rfl,rfl,rfl,?_,rfl,(fun a ha=>(hz a ha).symm),(fun a ha=>(hz a ha).symm),(fun c hc=>by cases hc),rfl,rfl,rfl,rfl,rfl,by show s.past ++ _ = m.past ++ _; rw [h.past],h.count,h.tip,h.blocks,⟨rfl,rfl⟩⟩
   show (if (s.head r.author).kind = 0 then s.high else maxC s.high { s.head r.author with coin:=r.set }) = (if (m.head r.author).kind = 2 then maxC m.high { m.head r.author with coin:=r.set } else m.high)
   rw [← hh,← h.high]
   rcases ofC_mem (ls:=s.heads) (a:=r.author) with e | ⟨e,_⟩
   · have e2:(s.head r.author).kind = 0:=by unfold SSt.head; rw [e]; rfl
     rw [if_pos e2,if_neg (by omega)]
   · have e2:(s.head r.author).kind = 2:=h.hk _ e
     rw [if_neg (by omega),if_pos e2]
 · rw [act8 q,show m.act r = { m with count:=r.count,tip:=r.block } by simp [RSt.act,q]]
   exact { h with count:=rfl,tip:=rfl,wf:=⟨h.wf.f,h.wf.h⟩ }
 · rw [act9 q,show m.act r = m.setOwn (parseBlk r.text).1.height r.text by simp [RSt.act,q]]
   unfold SSt.setOwn RSt.setOwn
   split
   · exact { h with o0:=rfl,wf:=⟨h.wf.f,h.wf.h⟩ }
   · split
     · exact { h with o1:=rfl,wf:=⟨h.wf.f,h.wf.h⟩ }
     · split
       · exact { h with o2:=rfl,wf:=⟨h.wf.f,h.wf.h⟩ }
       · exact { h with o3:=rfl,wf:=⟨h.wf.f,h.wf.h⟩ }
 · rw [act10 q,show m.act r = { m with blocks:=m.blocks ++ [r.text] } by simp [RSt.act,q]]
   exact { h with blocks:=by show s.blocks ++ _ = m.blocks ++ _; rw [h.blocks],wf:=⟨h.wf.f,h.wf.h⟩ }
 · have:=rng.kind; omega
theorem Rel.err2 (h:Rel s m):(s.doR r).2 = (m.doR r).2:=by
 unfold SSt.doR RSt.doR
 by_cases hf:r.form = 0
 · have he:=h.err hf
   by_cases h0:s.mayE r = 0
   · have h1:m.errE r = 0:=by rw [← he]; exact h0
     simp [hf,h0,h1]
   · have h1:m.errE r ≠ 0:=by rw [← he]; exact h0
     simp [hf,h0,h1,he]
 · simp [hf]
end
end Go.Proofs.YtaidfojbnfkclaaGreatDoor
