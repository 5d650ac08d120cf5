/-
  msg.Bytes: the bytes of a message.
-/
import Derived.Test.YtfhbdbjgmcopjaaGreatDoorMsg6
set_option linter.unusedVariables false
set_option linter.unusedSimpArgs false
namespace Go.Proofs.YtfhbdbjgmcopjaaGreatDoor
open Go Go.Abs Go.Proofs
set_option maxRecDepth 100000
attribute [local irreducible] AEnd AW ACalls

/-- The bytes under way, and cells that stay. -/
def Ow (B G : AH) (box : Nat) (ps : List (Nat × O)) (l : List UInt8) : Prop := ∃ v F, Out B G box v F l ∧ ∀ p ∈ ps, G.get p.1 = some p.2 ∧ p.1 ≠ box ∧ p.1 ∉ F
theorem Ow.keep {B G G' : AH} {box : Nat} {ps : List (Nat × O)} {l : List UInt8} (h : Ow B G box ps l) (u : Upd G G' []) : Ow B G' box ps l := by
  obtain ⟨v, F, h1, h2⟩ := h
  exact ⟨v, F, h1.keep u, fun p hp => ⟨u.keep (by simp) (h2 p hp).1, (h2 p hp).2⟩⟩
theorem Ow.more {B G G' : AH} {box : Nat} {ps : List (Nat × O)} {l : List UInt8} (h : Ow B G box ps l) (u : Upd G G' []) {k : Nat} {o : O} (hk : G'.get k = some o) (hn : G.next ≤ k) : Ow B G' box ((k, o) :: ps) l := by
  obtain ⟨v, F, h1, h2⟩ := h
  refine ⟨v, F, h1.keep u, fun p hp => ?_⟩
  rcases List.mem_cons.1 hp with rfl | hp
  · refine ⟨hk, ?_, fun hj => ?_⟩
    · have := AH.get_lt h1.get; simp only; omega
    · have := h1.own.lt _ hj; simp only at this; omega
  · exact ⟨u.keep (by simp) (h2 p hp).1, (h2 p hp).2⟩
theorem Ow.old {B G : AH} {box : Nat} {ps : List (Nat × O)} {l : List UInt8} (h : Ow B G box ps l) : Upd B G [] := by obtain ⟨v, F, h1, h2⟩ := h; exact h1.upd
theorem Ow.at {B G : AH} {box : Nat} {ps : List (Nat × O)} {l : List UInt8} (h : Ow B G box ps l) {p : Nat × O} (hp : p ∈ ps) : G.get p.1 = some p.2 := by obtain ⟨v, F, h1, h2⟩ := h; exact (h2 p hp).1
theorem Ow.less {B G : AH} {box : Nat} {ps qs : List (Nat × O)} {l : List UInt8} (h : Ow B G box ps l) (hq : ∀ p ∈ qs, p ∈ ps) : Ow B G box qs l := by obtain ⟨v, F, h1, h2⟩ := h; exact ⟨v, F, h1, fun p hp => h2 p (hq p hp)⟩
theorem madd_ok {B G : AH} {box : Nat} {ps : List (Nat × O)} {l m : List UInt8} {x e : V} (h : Ow B G box ps l) (hx : Sl G x 1 (bytesV m)) (hr : l.length + m.length ≤ 100000000) :
    ACalls Tryz.prog 23 [x, e, .p (some (box, 0, 0))] G fun r G' => r = .tup [] ∧ Ow B G' box ps (l ++ m) ∧ G.next ≤ G'.next ∧ ∀ j, j < G.next → (∃ o, (j, o) ∈ ps) → G'.get j = G.get j := by
  obtain ⟨v, F, h, hps⟩ := h
  have hb := AH.get_lt h.get
  obtain ⟨v', H2, F', b1, b2, b3, b4⟩ := h.own.appendB app_bytes (sl_asource hx) (by omega)
  have hg2 : H2.get box = some (.cells [v] 0 false 0) := b3.keep h.nin h.get
  refine ACalls_body Tryz.func23 rfl rfl ?_
  refine AW_reg [] fun K hK => ?_ -- region 0
  have hst : astore Tryz.prog H2 64 (.p (some (box, 0, 0))) v' = some (H2.set box (.cells [v'] 0 false 0)) := by
    simp [astore, hg2, b2.cells, splice]
  simp [init_eq, aload, h.get, b1, hst]
  refine hK _ _ ?_; clear hK K
  have hn : box ∉ F' := fun hj => by
    rcases b4 box hj with h1 | h1
    · exact h.nin h1
    · omega
  have hu : Upd H2 (H2.set box (.cells [v'] 0 false 0)) [box] := Upd.set _ _ _ (by simp)
  have hu2 : Upd G (H2.set box (.cells [v'] 0 false 0)) (box :: F) := (b3.mono (fun j hj => List.mem_cons_of_mem _ hj)).trans hu (by simp)
  refine end_normal rfl ⟨rfl, ⟨v', F', ⟨?_, b2.upd hu (fun j hj he => hn (by simp at he; exact he ▸ hj)), hn, h.lo, fun j hj => ?_, h.upd.trans hu2 (fun j hj => ?_)⟩, fun p hp => ⟨?_, (hps p hp).2.1, fun hj => ?_⟩⟩, hu2.1, ?_⟩
  · rw [AH.get_set_same (by have := b3.1; omega)]
  · rcases b4 j hj with h1 | h1
    · exact h.loF j h1
    · have := h.upd.1; omega
  · rcases List.mem_cons.1 hj with rfl | h1
    · exact .inr h.lo
    · exact .inr (h.loF j h1)
  · exact hu2.keep (by simp [(hps p hp).2.1, (hps p hp).2.2]) (hps p hp).1
  · rcases b4 _ hj with h1 | h1
    · exact (hps p hp).2.2 h1
    · have := AH.get_lt (hps p hp).1; omega
  · rintro j hj ⟨o, ho⟩
    exact hu2.2 j hj (by simp [(hps _ ho).2.1, (hps _ ho).2.2])
/-- The closure that adds. -/
def cfn (box : Nat) : V := .fn (.func 23) [] [.p (some (box, 0, 0))]
def clO (box : Nat) : O := .cells [cfn box] 0 false 0
theorem one_num (G : AH) (n : Nat) : abuildSlice Tryz.prog G 98 1 [(0, .i .i64 (n : Int))] = some (.sl (some (G.next, 0, 0)) 1 false, G.new (.cells [.i .i64 (n : Int)] 0 false 1)) ∧ RS (G.new (.cells [.i .i64 (n : Int)] 0 false 1)) (.sl (some (G.next, 0, 0)) 1 false) 1 ([n].map natC) ∧ Upd G (G.new (.cells [.i .i64 (n : Int)] 0 false 1)) [] :=
  ⟨by simp [abuildSlice, afill, V.cells, splice_zero], ⟨by simp [natC], .inr ⟨G.next, 0, 0, _, _, _, rfl, AH.get_new_same .., .inr rfl, by simp, by simp [natC]⟩⟩, Upd.new ..⟩
theorem two_nums (G : AH) (n k : Nat) : abuildSlice Tryz.prog G 98 2 [(0, .i .i64 (n : Int)), (1, .i .i64 (k : Int))] = some (.sl (some (G.next, 0, 0)) 2 false, G.new (.cells [.i .i64 (n : Int), .i .i64 (k : Int)] 0 false 1)) ∧ RS (G.new (.cells [.i .i64 (n : Int), .i .i64 (k : Int)] 0 false 1)) (.sl (some (G.next, 0, 0)) 2 false) 1 ([n, k].map natC) ∧ Upd G (G.new (.cells [.i .i64 (n : Int), .i .i64 (k : Int)] 0 false 1)) [] :=
  ⟨by simp [abuildSlice, afill, V.cells, splice_zero, splice_succ], ⟨by simp [natC], .inr ⟨G.next, 0, 0, _, _, _, rfl, AH.get_new_same .., .inr rfl, by simp, by simp [natC]⟩⟩, Upd.new ..⟩
theorem mtimeout_ok {B G : AH} {box cl : Nat} {ps : List (Nat × O)} {l : List UInt8} {t : Tmo} (h : Ow B G box ((cl, clO box) :: ps) l) (hs : 0 ≤ t.signer ∧ t.signer ≤ 9) (hh : t.high.ok = true) (hr : l.length ≤ 1000000) :
    ACalls Tryz.prog 24 [.agg t.cells, .p (some (cl, 0, 0))] G fun r G' => r = .tup [] ∧ Ow B G' box ((cl, clO box) :: ps) (l ++ t.bytes) := by
  have lc := Cert.bytes_len (Cert.rng hh)
  have lnS := numB_len9 (n := t.signer.toNat) (by omega)
  refine ACalls_body Tryz.func24 rfl rfl ?_
  refine AW_seq ?_
  refine AW_reg [1, 2] fun K hK => ?_ -- region 0
  simp [init_eq, V.cells]
  obtain ⟨G1, e1, g1, gn, go⟩ := G.boxed t.cells
  rw [e1]
  refine hK _ _ ?_; clear hK K
  have u1 : Upd G G1 [] := ⟨by omega, fun j hj _ => go j hj⟩
  have O1 := h.more u1 g1 (Nat.le_refl _)
  have hcl : ∀ {G' : AH} {l' : List UInt8}, Ow B G' box ((G.next, .cells t.cells 0 false 0) :: (cl, clO box) :: ps) l' → G'.get cl = some (clO box) := fun h => h.at (p := (cl, clO box)) (by simp)
  have htb : ∀ {G' : AH} {l' : List UInt8}, Ow B G' box ((G.next, .cells t.cells 0 false 0) :: (cl, clO box) :: ps) l' → G'.get G.next = some (.cells t.cells 0 false 0) := fun h => h.at (p := (G.next, _)) (by simp)
  have c1 := hcl O1
  have t1 := htb O1
  unfold clO at c1
  have hne : cl < G1.next := AH.get_lt c1
  have hne2 : G.next < G1.next := AH.get_lt t1
  clear e1 g1 gn go u1 h
  refine AW_seq ?_
  obtain ⟨q1, q2, q3⟩ := one_num G1 t.signer.toNat
  rw [Int.toNat_of_nonneg hs.1] at q1 q2 q3
  generalize hG2 : G1.new (.cells [.i .i64 t.signer] 0 false 1) = G2 at q1 q2 q3
  refine AW_regm (.only [cl, G.next]) [1, 2] pl_24_1 pe_24_1 (by kernel_rfl) (by kernel_rfl) (by decide) fun K hK => ?_ -- region 1
  simp [init_eq, pl_24_1, APlan_takem, through, tkOk, rid, afieldAddr, aload, c1, t1, q1]
  refine ⟨⟨q3.1, fun _ => q3.keep (by simp) c1, fun _ => q3.keep (by simp) t1⟩, ?_⟩
  refine ACalls.mono (nums_ok G2 q2 (by intro n hn; simp at hn; omega) (by simp)) fun r G3 h => ?_ -- hallmoot/wire.Nums
  obtain ⟨w3, rfl, F3, o3, u3, l3⟩ := h
  have O3 := (O1.keep q3).keep u3
  refine ⟨⟨u3.1, fun hn => u3.2 _ hn (by simp), fun hn => u3.2 _ hn (by simp)⟩, ?_⟩
  simp [cfn, AOp_callv (f := 23) (first := []) (caps := [.p (some (box, 0, 0))])]
  refine ACalls.mono (madd_ok O3 (m := numB t.signer.toNat) (by simpa using o3.sl) (by omega)) fun r G4 ⟨hr, O4, n4, k4⟩ => ?_ -- hallmoot/msg.Bytes$1
  subst hr
  refine ⟨⟨n4, fun hn => k4 _ hn ⟨clO box, by simp⟩, fun hn => k4 _ hn ⟨.cells t.cells 0 false 0, by simp⟩⟩, ?_⟩
  refine hK _ _ ?_; clear hK K
  have c4 := hcl O4
  have t4 := htb O4
  unfold clO at c4
  clear q1 q2 q3 o3 u3 l3 O3 k4 hG2 hne hne2
  refine AW_regm (.only [cl, G.next]) [] pl_24_2 pe_24_2 (by kernel_rfl) (by kernel_rfl) (by decide) fun K hK => ?_ -- region 2
  simp [init_eq, pl_24_2, APlan_takem, through, tkOk, rid, afieldAddr, aload, c4, t4, Tmo.high_cells]
  refine ACalls.mono (certBytes_ok _ _ hh) fun r G5 h => ?_ -- hallmoot/cert.Bytes
  obtain ⟨w5, rfl, F5, o5, u5, l5⟩ := h
  have O5 := O4.keep u5
  refine ⟨⟨u5.1, fun hn => (u5.2 _ hn (by simp)).trans c4, fun hn => (u5.2 _ hn (by simp)).trans t4⟩, ?_⟩
  simp [cfn, AOp_callv (f := 23) (first := []) (caps := [.p (some (box, 0, 0))])]
  refine ACalls.mono (madd_ok O5 o5.sl (by simp only [List.length_append]; omega)) fun r G6 ⟨hr, O6, n6, k6⟩ => ?_ -- hallmoot/msg.Bytes$1
  subst hr
  try refine ⟨⟨n6, fun hn => k6 _ hn ⟨clO box, by simp⟩, fun hn => k6 _ hn ⟨.cells t.cells 0 false 0, by simp⟩⟩, ?_⟩
  refine hK _ _ ?_; clear hK K
  refine end_normal rfl ⟨rfl, ?_⟩
  have := O6.less (qs := (cl, clO box) :: ps) (fun p hp => List.mem_cons_of_mem _ hp)
  simpa [Tmo.bytes] using this
end Go.Proofs.YtfhbdbjgmcopjaaGreatDoor
