/-
  What a message of a kind holds (msg.what).
-/
import Derived.Test.YtfhbdbjgmcopjaaGreatDoorMsg2
set_option linter.unusedVariables false
set_option linter.unusedSimpArgs false
namespace Go.Proofs.YtfhbdbjgmcopjaaGreatDoor
open Go Go.Abs Go.Proofs
set_option maxRecDepth 100000
attribute [local irreducible] AEnd AW ACalls

theorem AW_condT {r : Fm} {P : Program} [Laid P] {Q : Exit → Env → AH → Prop} {ρ : Env} {H : AH} {c : Operand} {x y : Code} (hv : aev ρ c = .b true) (h : AW r P x Q ρ H) : AW r P (.cond c x y) Q ρ H := AW_cond' hv rfl (fun _ => h) (fun h => by cases h)
theorem AW_condF {r : Fm} {P : Program} [Laid P] {Q : Exit → Env → AH → Prop} {ρ : Env} {H : AH} {c : Operand} {x y : Code} (hv : aev ρ c = .b false) (h : AW r P y Q ρ H) : AW r P (.cond c x y) Q ρ H := AW_cond' hv rfl (fun h => by cases h) (fun _ => h)
/-- The two numbers of a message that has some. -/
def Msg.pair (m : Msg) : Int × Int := if m.kind = 7 then (m.view, m.set.toNat) else if m.kind = 8 then (m.signer, m.n) else (m.signer, m.view)
/-- What it gives. -/
def whatR (m : Msg) (id : Nat) (H H' : AH) (r : V) : Prop :=
  match mclass m.kind with
  | .blk => r = .ifc 49 (.p (some (id, 0, 24)))
  | .cert => r = .ifc 51 (.p (some (id, 0, 5)))
  | .tmo => r = .ifc 53 (.p (some (id, 0, 13)))
  | .proof => r = .ifc 55 (.p (some (id, 0, 23)))
  | .tx => r = .ifc 57 (.p (some (id, 0, 38)))
  | .nums => r = .ifc 60 (.sl (some (H.next, 0, 0)) 2 false) ∧ H'.get H.next = some (.cells [.i .i64 m.pair.1, .i .i64 m.pair.2] 0 false 1)
  | .none => r = .nif
set_option maxHeartbeats 4000000 in
theorem what_ok (H : AH) {id : Nat} {m : Msg} {lv pv tv : V} (hp : H.get id = some (.cells (m.cells lv pv tv) 0 false 0)) : ACalls Tryz.prog 13 [.p (some (id, 0, 0))] H fun r H' => whatR m id H H' r ∧ Upd H H' [] := by
  refine ACalls_body Tryz.func13 rfl rfl ?_
  rcases mclass_cases m.kind with ⟨e, h1⟩ | ⟨e, h1⟩ | ⟨e, h1⟩ | ⟨e, h1⟩ | ⟨e, h1⟩ | ⟨e, h1⟩ | ⟨e, h1⟩
  case inr.inr.inr.inr.inr.inr =>
    have n1 : ¬ m.kind = 1 := by omega
    have n2 : ¬ m.kind = 2 := by omega
    have n3 : ¬ m.kind = 3 := by omega
    have n4 : ¬ m.kind = 4 := by omega
    have n5 : ¬ m.kind = 5 := by omega
    have n6 : ¬ m.kind = 6 := by omega
    have n7 : ¬ m.kind = 7 := by omega
    have n8 : ¬ m.kind = 8 := by omega
    have n9 : ¬ m.kind = 9 := by omega
    have n10 : ¬ m.kind = 10 := by omega
    have n11 : ¬ m.kind = 11 := by omega
    have n12 : ¬ m.kind = 12 := by omega
    repeat (first
      | refine AW_seq ?_
      | refine AW_block ?_
      | refine AW_skip ?_
      | refine AW_condT rfl ?_
      | refine AW_condF rfl ?_
      | (refine AW_reg [0, 2, 6, 7, 14, 22, 28, 34, 40, 53, 66] fun K hK => ?_
         simp [init_eq, afieldAddr, aload, hp, n1, n2, n3, n4, n5, n6, n7, n8, n9, n10, n11, n12]
         refine hK _ _ ?_; clear hK K))
    refine AW_ret (end_ret rfl ?_)
    exact ⟨by simp [whatR, e], Upd.refl _ _⟩
  case inl =>
    rcases h1 with hk | hk
    all_goals
      repeat (first
        | refine AW_seq ?_
        | refine AW_block ?_
        | refine AW_skip ?_
        | refine AW_condT rfl ?_
        | refine AW_condF rfl ?_
        | (refine AW_reg [0, 2, 6, 7, 14, 22, 28, 34, 40, 53, 66] fun K hK => ?_
           simp [init_eq, afieldAddr, aload, hp, hk]
           refine hK _ _ ?_; clear hK K))
      refine AW_ret (end_ret rfl ?_)
      exact ⟨by simp [whatR, e], Upd.refl _ _⟩
  case inr.inl =>
    rcases h1 with hk | hk | hk
    all_goals
      repeat (first
        | refine AW_seq ?_
        | refine AW_block ?_
        | refine AW_skip ?_
        | refine AW_condT rfl ?_
        | refine AW_condF rfl ?_
        | (refine AW_reg [0, 2, 6, 7, 14, 22, 28, 34, 40, 53, 66] fun K hK => ?_
           simp [init_eq, afieldAddr, aload, hp, hk]
           refine hK _ _ ?_; clear hK K))
      refine AW_ret (end_ret rfl ?_)
      exact ⟨by simp [whatR, e], Upd.refl _ _⟩
  case inr.inr.inr.inr.inr.inl =>
    rcases h1 with hk | hk | hk | hk
    all_goals
      repeat (first
        | refine AW_seq ?_
        | refine AW_block ?_
        | refine AW_skip ?_
        | refine AW_condT rfl ?_
        | refine AW_condF rfl ?_
        | (refine AW_reg [0, 2, 6, 7, 14, 22, 28, 34, 40, 53, 66] fun K hK => ?_
           simp [init_eq, afieldAddr, aload, hp, hk]
           refine hK _ _ ?_; clear hK K)
        | (refine AW_regd [2] pl_13_17 pe_13_17 (by kernel_rfl) (by kernel_rfl) (by decide) fun K hK => ?_
           simp [init_eq, pl_13_17, afieldAddr, aload, hp, hk, abuildSlice, afill, List.replicate, V.cells, splice]
           refine hK _ _ ?_; clear hK K)
        | (refine AW_regd [2] pl_13_19 pe_13_19 (by kernel_rfl) (by kernel_rfl) (by decide) fun K hK => ?_
           simp [init_eq, pl_13_19, afieldAddr, aload, hp, hk, abuildSlice, afill, List.replicate, V.cells, splice, u32, aconvert, wrap_id (x := ((m.set.toNat : Nat) : Int)) (by omega) (by have := m.set.isLt; omega)]
           refine hK _ _ ?_; clear hK K)
        | (refine AW_regd [2] pl_13_21 pe_13_21 (by kernel_rfl) (by kernel_rfl) (by decide) fun K hK => ?_
           simp [init_eq, pl_13_21, afieldAddr, aload, hp, hk, abuildSlice, afill, List.replicate, V.cells, splice]
           refine hK _ _ ?_; clear hK K))
      refine AW_ret (end_ret rfl ?_)
      refine ⟨?_, Upd.new ..⟩
      simp only [whatR, e]
      exact ⟨rfl, by simp [Msg.pair, hk, AH.get_new_same]⟩
  all_goals
    have hk := h1
    repeat (first
      | refine AW_seq ?_
      | refine AW_block ?_
      | refine AW_skip ?_
      | refine AW_condT rfl ?_
      | refine AW_condF rfl ?_
      | (refine AW_reg [0, 2, 6, 7, 14, 22, 28, 34, 40, 53, 66] fun K hK => ?_
         simp [init_eq, afieldAddr, aload, hp, hk]
         refine hK _ _ ?_; clear hK K))
    refine AW_ret (end_ret rfl ?_)
    exact ⟨by simp [whatR, e], Upd.refl _ _⟩
end Go.Proofs.YtfhbdbjgmcopjaaGreatDoor
