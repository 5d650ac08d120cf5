/-
  The document's state of promises, as data and as cells.
-/
import Derived.Test.YtaidfojbnfkclaaGreatDoorSaf9
set_option linter.unusedVariables false
set_option linter.unusedSimpArgs false
namespace Go.Proofs.YtaidfojbnfkclaaGreatDoor
open Go Go.Abs Go.Proofs
set_option maxRecDepth 100000
structure RSt where
 last:Int
 view:Int
 mode:Int
 round:Int
 block:Int
 high:Cert
 gave:Cert
 falls:List Cert
 heads:List Cert
 shared:Bool
 own0:List UInt8
 own1:List UInt8
 own2:List UInt8
 own3:List UInt8
 past:List (BitVec 32)
 count:Int
 tip:Int
 blocks:List (List UInt8)
def flatC (l:List Cert):List V:=(l.map Cert.cells).flatten
theorem flatC_len (l:List Cert):(flatC l).length = l.length * 8:=by
 unfold flatC
 rw [flatten_len (sz:=8) _ (cells_len8 l),List.length_map]
theorem flatC_at {l:List Cert} {a:Nat} (ha:a < l.length):((flatC l).drop (a * 8)).take 8 = l[a].cells:=flatten_at (sz:=8) (l.map Cert.cells) a l[a].cells (cells_len8 l) (by simp [ha])
theorem flatC_set {l:List Cert} {a:Nat} (ha:a < l.length) (c:Cert):splice (flatC l) (a * 8) c.cells = flatC (l.set a c):=by
 unfold flatC
 rw [splice_set (l.map Cert.cells) a c.cells (cells_len8 l) rfl (by simpa using ha),List.map_set]
def RSt.pre (s:RSt):List V:=.i .i64 s.last :: .i .i64 s.view :: .i .i64 s.mode :: .i .i64 s.round :: .i .i64 s.block :: (s.high.cells ++ s.gave.cells)
def RSt.pos (s:RSt) (pv bv:V):List V:=[.b s.shared,.s s.own0,.s s.own1,.s s.own2,.s s.own3,pv,.i .i64 s.count,.i .i64 s.tip,bv]
def RSt.cells (s:RSt) (pv bv:V):List V:=s.pre ++ (flatC s.falls ++ (flatC s.heads ++ s.pos pv bv))
structure RSt.Wf (s:RSt):Prop where
 f:s.falls.length = 10
 h:s.heads.length = 10
theorem drop_mid {α:Type} {P F R:List α} {p k n:Nat} (hp:P.length = p) (hk:k + n ≤ F.length):((P ++ (F ++ R)).drop (p + k)).take n = (F.drop k).take n:=by
 subst hp
 rw [List.drop_length_add_append,List.drop_append_of_le_length (by omega),List.take_append_of_le_length (by rw [List.length_drop]; omega)]
theorem splice_mid {P F R l:List V} {p k:Nat} (hp:P.length = p) (hk:k + l.length ≤ F.length):splice (P ++ (F ++ R)) (p + k) l = P ++ (splice F k l ++ R):=by
 subst hp
 unfold splice
 rw [List.take_length_add_append,Nat.add_assoc,List.drop_length_add_append,List.take_append_of_le_length (by omega),List.drop_append_of_le_length hk]
 simp
theorem splice_app {P F l:List V} {p k:Nat} (hp:P.length = p):splice (P ++ F) (p + k) l = P ++ splice F k l:=by
 subst hp
 unfold splice
 rw [List.take_length_add_append,Nat.add_assoc,List.drop_length_add_append]
 simp
section
variable {s:RSt} {pv bv:V}
theorem RSt.len (w:s.Wf):(s.cells pv bv).length = 190:=by
 have h1:s.pre.length = 21:=rfl
 have h2:(s.pos pv bv).length = 9:=rfl
 have h3:=flatC_len s.falls
 have h4:=flatC_len s.heads
 rw [w.f] at h3; rw [w.h] at h4
 unfold RSt.cells
 simp only [List.length_append]; omega
theorem RSt.take (w:s.Wf):(s.cells pv bv).take 190 = s.cells pv bv:=List.take_of_length_le (by rw [RSt.len w]; exact Nat.le_refl _)
theorem RSt.c0:(s.cells pv bv)[0]? = some (.i .i64 s.last):=rfl
theorem RSt.c1:(s.cells pv bv)[1]? = some (.i .i64 s.view):=rfl
theorem RSt.c2:(s.cells pv bv)[2]? = some (.i .i64 s.mode):=rfl
theorem RSt.c3:(s.cells pv bv)[3]? = some (.i .i64 s.round):=rfl
theorem RSt.highC:((s.cells pv bv).drop 5).take 8 = s.high.cells:=rfl
theorem RSt.w2 (x:Int):splice (s.cells pv bv) 2 [.i .i64 x] = ({ s with mode:=x }:RSt).cells pv bv:=rfl
theorem RSt.w3 (x:Int):splice (s.cells pv bv) 3 [.i .i64 x] = ({ s with round:=x }:RSt).cells pv bv:=rfl
theorem RSt.w4 (x:Int):splice (s.cells pv bv) 4 [.i .i64 x] = ({ s with block:=x }:RSt).cells pv bv:=rfl
theorem RSt.w5 (x:Cert):splice (s.cells pv bv) 5 x.cells = ({ s with high:=x }:RSt).cells pv bv:=rfl
theorem RSt.w13 (x:Cert):splice (s.cells pv bv) 13 x.cells = ({ s with gave:=x }:RSt).cells pv bv:=rfl
theorem RSt.fallC (w:s.Wf) {a:Nat} (ha:a < 10):((s.cells pv bv).drop (21 + a * 8)).take 8 = (s.falls.getD a Cert.zero).cells:=by
 have h1:a < s.falls.length:=by rw [w.f]; exact ha
 have h2:=flatC_len s.falls
 rw [w.f] at h2
 unfold RSt.cells
 rw [drop_mid (show s.pre.length = 21 from rfl) (by omega),flatC_at h1,List.getD_eq_getElem?_getD,List.getElem?_eq_getElem h1]
 rfl
theorem RSt.headC (w:s.Wf) {a:Nat} (ha:a < 10):((s.cells pv bv).drop (101 + a * 8)).take 8 = (s.heads.getD a Cert.zero).cells:=by
 have h1:a < s.heads.length:=by rw [w.h]; exact ha
 have h2:=flatC_len s.falls
 have h3:=flatC_len s.heads
 rw [w.f] at h2; rw [w.h] at h3
 have h4:(s.pre ++ flatC s.falls).length = 101:=by rw [List.length_append,h2]; rfl
 unfold RSt.cells
 rw [← List.append_assoc,drop_mid h4 (by omega),flatC_at h1,List.getD_eq_getElem?_getD,List.getElem?_eq_getElem h1]
 rfl
theorem cell_of {l:List V} {o k:Nat} {c:Cert} (h:(l.drop o).take 8 = c.cells) (hk:k < 8):l[o + k]? = c.cells[k]?:=by
 rw [← h,List.getElem?_take_of_lt hk,List.getElem?_drop]
theorem RSt.wfall (w:s.Wf) {a:Nat} (ha:a < 10) (c:Cert):splice (s.cells pv bv) (21 + a * 8) c.cells = ({ s with falls:=s.falls.set a c }:RSt).cells pv bv:=by
 have h1:a < s.falls.length:=by rw [w.f]; exact ha
 have h2:=flatC_len s.falls
 rw [w.f] at h2
 unfold RSt.cells
 rw [splice_mid (show s.pre.length = 21 from rfl) (by rw [h2]; show a * 8 + 8 ≤ _; omega),flatC_set h1]
 rfl
theorem RSt.whead (w:s.Wf) {a:Nat} (ha:a < 10) (c:Cert):splice (s.cells pv bv) (101 + a * 8) c.cells = ({ s with heads:=s.heads.set a c }:RSt).cells pv bv:=by
 have h1:a < s.heads.length:=by rw [w.h]; exact ha
 have h2:=flatC_len s.falls
 have h3:=flatC_len s.heads
 rw [w.f] at h2; rw [w.h] at h3
 have h4:(s.pre ++ flatC s.falls).length = 101:=by rw [List.length_append,h2]; rfl
 unfold RSt.cells
 rw [← List.append_assoc,splice_mid h4 (by rw [h3]; show a * 8 + 8 ≤ _; omega),flatC_set h1,List.append_assoc]
 rfl
theorem RSt.posAt (w:s.Wf) (k:Nat):(s.cells pv bv)[181 + k]? = (s.pos pv bv)[k]?:=by
 have h2:=flatC_len s.falls
 have h3:=flatC_len s.heads
 rw [w.f] at h2; rw [w.h] at h3
 have h1:s.pre.length = 21:=rfl
 unfold RSt.cells
 rw [List.getElem?_append_right (by omega),List.getElem?_append_right (by omega),List.getElem?_append_right (by omega)]
 congr 1; omega
theorem RSt.c181 (w:s.Wf):(s.cells pv bv)[181]? = some (.b s.shared):=RSt.posAt w 0
theorem RSt.c186 (w:s.Wf):(s.cells pv bv)[186]? = some pv:=RSt.posAt w 5
theorem RSt.c187 (w:s.Wf):(s.cells pv bv)[187]? = some (.i .i64 s.count):=RSt.posAt w 6
theorem RSt.c188 (w:s.Wf):(s.cells pv bv)[188]? = some (.i .i64 s.tip):=RSt.posAt w 7
theorem RSt.c189 (w:s.Wf):(s.cells pv bv)[189]? = some bv:=RSt.posAt w 8
theorem RSt.wpos (w:s.Wf) (k:Nat) (l:List V):splice (s.cells pv bv) (181 + k) l = s.pre ++ (flatC s.falls ++ (flatC s.heads ++ splice (s.pos pv bv) k l)):=by
 have h2:=flatC_len s.falls
 have h3:=flatC_len s.heads
 rw [w.f] at h2; rw [w.h] at h3
 have h4:(s.pre ++ (flatC s.falls ++ flatC s.heads)).length = 181:=by rw [List.length_append,List.length_append,h2,h3]; rfl
 unfold RSt.cells
 rw [show s.pre ++ (flatC s.falls ++ (flatC s.heads ++ s.pos pv bv)) = (s.pre ++ (flatC s.falls ++ flatC s.heads)) ++ s.pos pv bv by simp,splice_app h4]
 simp
theorem RSt.w181 (w:s.Wf) (x:Bool):splice (s.cells pv bv) 181 [.b x] = ({ s with shared:=x }:RSt).cells pv bv:=RSt.wpos w 0 _
theorem RSt.w187 (w:s.Wf) (x:Int):splice (s.cells pv bv) 187 [.i .i64 x] = ({ s with count:=x }:RSt).cells pv bv:=RSt.wpos w 6 _
theorem RSt.w188 (w:s.Wf) (x:Int):splice (s.cells pv bv) 188 [.i .i64 x] = ({ s with tip:=x }:RSt).cells pv bv:=RSt.wpos w 7 _
theorem RSt.w189 (w:s.Wf) (x:V):splice (s.cells pv bv) 189 [x] = s.cells pv x:=RSt.wpos w 8 _
def RSt.ownAt (s:RSt) (h:Int):List UInt8:=if h = 0 then s.own0 else if h = 1 then s.own1 else if h = 2 then s.own2 else s.own3
def RSt.setOwn (s:RSt) (h:Int) (t:List UInt8):RSt:=if h = 0 then { s with own0:=t } else if h = 1 then { s with own1:=t } else if h = 2 then { s with own2:=t } else { s with own3:=t }
theorem RSt.ownC (w:s.Wf) {h:Int} (h0:0 ≤ h ∧ h ≤ 3):(s.cells pv bv)[182 + h.toNat]? = some (.s (s.ownAt h)):=by
 have:h = 0 ∨ h = 1 ∨ h = 2 ∨ h = 3:=by omega
 rcases this with rfl | rfl | rfl | rfl
 · exact RSt.posAt w 1
 · exact RSt.posAt w 2
 · exact RSt.posAt w 3
 · exact RSt.posAt w 4
theorem RSt.wown (w:s.Wf) {h:Int} (h0:0 ≤ h ∧ h ≤ 3) (t:List UInt8):splice (s.cells pv bv) (182 + h.toNat) [.s t] = (s.setOwn h t).cells pv bv:=by
 have:h = 0 ∨ h = 1 ∨ h = 2 ∨ h = 3:=by omega
 rcases this with rfl | rfl | rfl | rfl
 · exact RSt.wpos w 1 _
 · exact RSt.wpos w 2 _
 · exact RSt.wpos w 3 _
 · exact RSt.wpos w 4 _
end
def RSt.zero:RSt:=⟨0,0,0,0,0,Cert.zero,Cert.zero,List.replicate 10 Cert.zero,List.replicate 10 Cert.zero,false,[],[],[],[],[],0,0,[]⟩
theorem RSt.zero_wf:RSt.zero.Wf:=⟨rfl,rfl⟩
end Go.Proofs.YtaidfojbnfkclaaGreatDoor
