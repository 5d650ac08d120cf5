/-
  What records do to a state,one behind the other (plain).
-/
import Derived.Test.YtaidfojbnfkclaaGreatDoorSaf8
set_option linter.unusedVariables false
set_option linter.unusedSimpArgs false
namespace Go.Proofs.YtaidfojbnfkclaaGreatDoor
open Go Go.Abs Go.Proofs
theorem cmpI_neg (x y:Int):cmpI y x = - cmpI x y:=by
 unfold cmpI
 by_cases h:x < y
 · rw [if_neg (by omega),if_pos h,if_pos h]; rfl
 · by_cases h2:y < x
   · rw [if_pos h2,if_neg h,if_pos h2]
   · rw [if_neg h2,if_neg h,if_neg h,if_neg h2]; rfl
theorem cmpL_neg:∀ l m:List Int,l.length = m.length → cmpL m l = - cmpL l m
 | [],[],_=>rfl
 | [],_ :: _,h=>by cases h
 | _ :: _,[],h=>by cases h
 | x :: xs,y :: ys,h=>by
   have ih:=cmpL_neg xs ys (by simpa using h)
   simp only [cmpL]
   rw [cmpI_neg x y,ih]
   by_cases h0:cmpI x y = 0
   · rw [if_neg (by omega),if_neg (by omega)]
   · rw [if_pos (by omega),if_pos h0]
theorem cmp3_flip (l m:List Int) (hl:l.length = m.length) (h:cmpL l m < 0):0 ≤ cmpL m l:=by rw [cmpL_neg l m hl]; omega
theorem cmpC_flip {a b:Cert} (h:cmpC a b < 0):0 ≤ cmpC b a:=cmp3_flip _ _ rfl h
theorem cmpC_same (c:Cert):cmpC c c = 0:=by rw [cmpC_def]; simp
theorem mustE_cons {ok:Bool} {e:Int} {l:List (Bool × Int)} (h:mustE ((ok,e) :: l) = 0) (he:e ≠ 0):ok = true ∧ mustE l = 0:=by
 cases ok
 · exact absurd h he
 · exact ⟨rfl,h⟩
section
variable {s:SSt} {r:SRec}
theorem may1 (h:s.mayE r = 0) (k:r.kind = 1):s.mode = 0 ∧ s.round < r.cert.round:=by
 unfold SSt.mayE at h
 rw [if_pos k] at h
 obtain ⟨h1,h⟩:=mustE_cons h (by decide)
 obtain ⟨h2,h⟩:=mustE_cons h (by decide)
 obtain ⟨h3,h⟩:=mustE_cons h (by decide)
 simp at h1 h3
 exact ⟨h1,h3.1⟩
theorem may4 (h:s.mayE r = 0) (k:r.kind = 4):(s.fell r.cert.author).height < r.cert.height:=by
 unfold SSt.mayE at h
 rw [if_neg (by omega),if_neg (by omega),if_neg (by omega),if_pos k] at h
 obtain ⟨h1,h⟩:=mustE_cons h (by decide)
 obtain ⟨h2,h⟩:=mustE_cons h (by decide)
 simpa using (mustE_cons h (by decide)).1
theorem may7 (h:s.mayE r = 0) (k:r.kind = 7):s.view < s.last:=by
 unfold SSt.mayE at h
 rw [if_neg (by omega),if_neg (by omega),if_neg (by omega),if_neg (by omega),if_neg (by omega),if_neg (by omega),if_pos k] at h
 simpa using (mustE_cons h (by decide)).1
theorem act1 (k:r.kind = 1):s.act r = { s with round:=r.cert.round,block:=r.cert.block,high:=maxC s.high r.parent }:=by simp [SSt.act,k]
theorem act2 (k:r.kind = 2):s.act r = { s with mode:=1,gave:=s.high }:=by simp [SSt.act,k]
theorem act3 (k:r.kind = 3):s.act r = { s with gave:=(if s.mode = 0 then s.high else s.gave),mode:=2 }:=by simp [SSt.act,k]
theorem act4 (k:r.kind = 4):∃ hs,s.act r = { s.fallen r with heads:=hs } ∧ (hs = s.heads ∨ hs = putC s.heads r.parent):=by
 unfold SSt.act
 rw [if_neg (by omega),if_neg (by omega),if_neg (by omega),if_pos k]
 split
 · exact ⟨_,rfl,.inr rfl⟩
 · exact ⟨s.heads,rfl,.inl rfl⟩
theorem act5 (k:r.kind = 5):s.act r = { s with high:=r.cert }:=by simp [SSt.act,k]
theorem act6 (k:r.kind = 6):s.act r = { s with shared:=true }:=by simp [SSt.act,k]
theorem act7 (k:r.kind = 7):s.act r = s.leave r:=by simp [SSt.act,k]
theorem act8 (k:r.kind = 8):s.act r = { s with count:=r.count,tip:=r.block }:=by simp [SSt.act,k]
theorem act9 (k:r.kind = 9):s.act r = s.setOwn (parseBlk r.text).1.height r.text:=by simp [SSt.act,k]
theorem act10 (k:r.kind = 10):s.act r = { s with blocks:=s.blocks ++ [r.text] }:=by simp [SSt.act,k]
/-- What a block of one's own doesn't change. -/
theorem setOwn_rest (s:SSt) (h:Int) (t:List UInt8):∃ a b c d,s.setOwn h t = { s with own0:=a,own1:=b,own2:=c,own3:=d } ∧ (a = s.own0 ∨ a = t) ∧ (b = s.own1 ∨ b = t) ∧ (c = s.own2 ∨ c = t) ∧ (d = s.own3 ∨ d = t):=by
 unfold SSt.setOwn
 split
 · exact ⟨_,_,_,_,rfl,.inr rfl,.inl rfl,.inl rfl,.inl rfl⟩
 · split
   · exact ⟨_,_,_,_,rfl,.inl rfl,.inr rfl,.inl rfl,.inl rfl⟩
   · split
     · exact ⟨_,_,_,_,rfl,.inl rfl,.inl rfl,.inr rfl,.inl rfl⟩
     · exact ⟨_,_,_,_,rfl,.inl rfl,.inl rfl,.inl rfl,.inr rfl⟩
theorem fallen_fell (hs:SortedC s.falls) (a:Int):ofC (putC s.falls r.cert.plain) a = if r.cert.author = a then r.cert.plain else s.fell a:=by
 unfold SSt.fell ofC
 rw [findC_put a hs]
 show (if r.cert.author = a then some r.cert.plain else findC s.falls a).getD Cert.zero = _
 split <;> rfl
/-- What holds of each state holds of the next. -/
theorem step_ok {k:Nat} (ok:s.Ok k) (hf:r.form = 0) (hm:s.mayE r = 0) (ht:r.text.length ≤ 5000):(s.act r).Ok (k + 1):=by
 have rng:=SRec.rng hf
 have up:=ok.mono (Nat.le_succ k)
 rcases kinds r.kind with q | q | q | q | q | q | q | q | q | q | q
 · rw [act1 q]; exact { up with }
 · rw [act2 q]; exact { up with }
 · rw [act3 q]; exact { up with }
 · obtain ⟨hs,e,hh⟩:=act4 (s:=s) q
   have hcr:=rng.certs (by rw [q]; rfl)
   have a1:=(Cert.rng hcr.1).author
   have a2:=(Cert.rng hcr.2).author
   rw [e]
   have l1:=putC_len r.cert.plain s.falls
   have l2:=putC_len r.parent s.heads
   have:=ok.fl; have:=ok.hl
   refine { up with fs:=putC_sorted ok.fs,fr:=putC_range ok.fr a1,fl:=(show (putC s.falls r.cert.plain).length ≤ k + 1 by omega),hs:=?_,hr:=?_,hl:=?_ }
   · rcases hh with rfl | rfl
     · exact ok.hs
     · exact putC_sorted ok.hs
   · rcases hh with rfl | rfl
     · exact ok.hr
     · exact putC_range ok.hr a2
   · rcases hh with rfl | rfl
     · show s.heads.length ≤ k + 1; omega
     · show (putC s.heads r.parent).length ≤ k + 1; omega
 · rw [act5 q]; exact { up with }
 · rw [act6 q]; exact { up with }
 · rw [act7 q]
   have hv:=may7 hm q
   have h1:=ok.v1; have h2:=ok.lm; have h3:=ok.pl
   exact { up with
    fs:=List.Pairwise.nil,fr:=(fun c h=>by cases h),fl:=Nat.zero_le _,hs:=List.Pairwise.nil,hr:=(fun c h=>by cases h),hl:=Nat.zero_le _,
    o0:=Nat.zero_le _,o1:=Nat.zero_le _,o2:=Nat.zero_le _,o3:=Nat.zero_le _,
    v1:=(show 1 ≤ s.view + 1 by omega),vl:=(show s.view + 1 ≤ s.last by omega),pl:=(show ((s.past ++ [r.set]).length:Int) = s.view + 1 - 1 by simp; omega) }
 · rw [act8 q]; exact { up with }
 · rw [act9 q]
   obtain ⟨a,b,c,d,e,ha,hb,hc,hd⟩:=setOwn_rest s (parseBlk r.text).1.height r.text
   rw [e]
   refine { up with o0:=?_,o1:=?_,o2:=?_,o3:=?_ }
   · rcases ha with h | h <;> rw [h]; exact ok.o0; exact ht
   · rcases hb with h | h <;> rw [h]; exact ok.o1; exact ht
   · rcases hc with h | h <;> rw [h]; exact ok.o2; exact ht
   · rcases hd with h | h <;> rw [h]; exact ok.o3; exact ht
 · rw [act10 q]
   refine { up with bl:=?_ }
   show (s.blocks ++ [r.text]).length ≤ k + 1
   have:=ok.bl
   simp; omega
 · have:=rng.kind; omega
end
/-- What is kept of a record that was done in a view. -/
structure Once (s:SSt) (d:SRec) (v:Int):Prop where
 le:v ≤ s.view
 vote:d.kind = 1 → v = s.view → d.cert.round ≤ s.round
 fall:d.kind = 4 → v = s.view → d.cert.height ≤ (s.fell d.cert.author).height
 gave:d.kind = 2 → v = s.view → s.mode ≠ 0
 ent:d.kind = 3 → v = s.view → s.mode = 2
 shr:d.kind = 6 → v = s.view → s.shared = true
 ex:d.kind = 7 → v < s.view
section
variable {s:SSt} {r d:SRec} {v:Int}
end
end Go.Proofs.YtaidfojbnfkclaaGreatDoor
