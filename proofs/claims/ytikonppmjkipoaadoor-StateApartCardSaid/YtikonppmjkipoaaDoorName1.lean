/-
  Letters and names.
-/
import Derived.Test.YtikonppmjkipoaaDoorBlock2
import Derived.Test.YtikonppmjkipoaaDoorAbsC
set_option linter.unusedVariables false
set_option linter.unusedSimpArgs false
namespace Go.Proofs.YtikonppmjkipoaaDoor
open Go Go.Abs Go.Proofs
set_option maxRecDepth 100000
attribute [local irreducible] AEnd AW ACalls

def spanHas (a b x c : Int) : Bool := decide (a ≤ c) && decide (c ≤ b) && !decide (c = x)
theorem has_ok (H : AH) (a b x c : Int) : ACalls Tryd.prog 64 [.agg [.i .i32 a, .i .i32 b, .i .i32 x], .i .i32 c] H fun r H' => r = .b (spanHas a b x c) ∧ H' = H := by
  refine ACalls.pure (Q := fun r => r = .b (spanHas a b x c)) ⟨_, Tryd.func64, rfl, rfl⟩ ?_
  refine ACalls_body Tryd.func64 rfl rfl ?_
  refine AW_seq ?_
  refine AW_reg [1, 2] fun K hK => ?_ -- region 0
  simp [init_eq, V.cells]
  obtain ⟨H1, e1, hp, hn, ho⟩ := H.boxed [.i .i32 a, .i .i32 b, .i .i32 x]
  rw [e1]
  refine hK _ _ ?_; clear hK K
  refine AW_seq ?_
  refine AW_regto [4] ⟨21, [(4, .b (spanHas a b x c))]⟩ H1 (fun K hk => ?_) (AW_ret (end_ret rfl (pure_end hn ho rfl rfl)))
  by_cases h1 : a ≤ c
  case neg => simpa [init_eq, afieldAddr, aload, hp, h1, spanHas] using hk
  by_cases h2 : c ≤ b
  case neg => simpa [init_eq, afieldAddr, aload, hp, h1, h2, spanHas] using hk
  simpa [init_eq, afieldAddr, aload, hp, h1, h2, spanHas] using hk
def spans : List (Int × Int × Int) := [(97, 122, 0), (48, 57, 0), (95, 95, 0), (45, 45, 0), (223, 255, 247), (945, 969, 0)]
def letterI (c : Int) : Bool := spans.any fun s => spanHas s.1 s.2.1 s.2.2 c
theorem letterI_nat (c : Nat) : letterI c = letterB c := by
  rw [Bool.eq_iff_iff]
  simp [letterI, spans, spanHas, letterB]
  omega
def spanCells : List V := (spans.map fun s => [V.i .i32 s.1, .i .i32 s.2.1, .i .i32 s.2.2]).flatten
theorem letter_ok (H : AH) (c : Int) : ACalls Tryd.prog 44 [.i .i32 c] H fun r H' => r = .b (letterI c) ∧ H' = H := by
  refine ACalls.pure (Q := fun r => r = .b (letterI c)) ⟨_, Tryd.func44, rfl, rfl⟩ ?_
  refine ACalls_body Tryd.func44 rfl rfl ?_
  refine AW_seq ?_
  refine AW_reg [0] fun K hK => ?_ -- region 0
  simp [init_eq]
  refine hK _ _ ?_; clear hK K
  refine AW_seq ?_
  refine AW_seq ?_
  refine AW_regto [0, 11, 12] ⟨19, [(0, .i .i32 c), (11, .agg spanCells), (12, .i .i64 0)]⟩ H (fun K hk => ?_) ?_ -- region 1
  · have hb1 : ∀ a b x : Int, abuild Tryd.prog 117 [(0, .i .i32 a), (1, .i .i32 b), (2, .i .i32 x)] = some (.agg [.i .i32 a, .i .i32 b, .i .i32 x]) := fun a b x => by simp [abuild, afill, V.cells, splice_zero, splice_succ]
    have hb2 : abuild Tryd.prog 118 [(0, .agg [.i .i32 97, .i .i32 122, .i .i32 0]), (1, .agg [.i .i32 48, .i .i32 57, .i .i32 0]), (2, .agg [.i .i32 95, .i .i32 95, .i .i32 0]), (3, .agg [.i .i32 45, .i .i32 45, .i .i32 0]), (4, .agg [.i .i32 223, .i .i32 255, .i .i32 247]), (5, .agg [.i .i32 945, .i .i32 969, .i .i32 0])] = some (.agg spanCells) := by kernel_rfl
    simp [init_eq, hb1, hb2]
    exact hk
  refine AW_block ?_
  refine AW_loop0 (fun i : Nat => ⟨19, [(0, .i .i32 c), (11, .agg spanCells), (12, .i .i64 i)]⟩) (fun i => i ≤ 6 ∧ (spans.take i).any (fun s => spanHas s.1 s.2.1 s.2.2 c) = false) (fun i => 6 - i) 0 (by simp) (by simp) (by dsimp only; omega) fun hw i hM => ?_ -- loop
  refine AW_seq ?_
  refine AW_reg [0, 11, 12, 13] fun K hK => ?_ -- region 2
  simp [init_eq]
  refine hK _ _ ?_; clear hK K
  refine AW_seq ?_
  refine AW_cond' rfl rfl (fun hc => ?_) (fun hc => ?_)
  · have hi : i < 6 := by simp at hc; omega
    have hs : i < spans.length := hi
    have hx : aindex Tryd.prog 118 (.agg spanCells) (.i .i64 i) = some (.agg [.i .i32 spans[i].1, .i .i32 spans[i].2.1, .i .i32 spans[i].2.2]) := by
      have : i = 0 ∨ i = 1 ∨ i = 2 ∨ i = 3 ∨ i = 4 ∨ i = 5 := by omega
      rcases this with rfl | rfl | rfl | rfl | rfl | rfl <;> simp [aindex, spanCells, spans]
    refine AW_skip ?_
    refine AW_seq ?_
    refine AW_block ?_
    refine AW_seq ?_
    refine AW_reg [0, 4, 11, 12] fun K hK => ?_ -- region 3
    simp [init_eq, hx, astore, AH.get_new, V.cells, splice_all]
    refine hK _ _ ?_; clear hK K
    generalize hH1 : (H.new _).set H.next _ = H1
    have hp : H1.get H.next = some (.cells [.i .i32 spans[i].1, .i .i32 spans[i].2.1, .i .i32 spans[i].2.2] 0 false 0) := by rw [← hH1]; simp [AH.get_set]
    have hn : H1.next = H.next + 1 := by rw [← hH1]; simp
    have ho : ∀ j, j < H.next → H1.get j = H.get j := fun j hj => by rw [← hH1]; simp [AH.get_set, AH.get_new, show j ≠ H.next by omega]
    refine AW_seq ?_
    refine AW_reg [0, 11, 12, 17] fun K hK => ?_ -- region 4
    simp [init_eq, aload, hp]
    refine ACalls.mono (has_ok ..) fun r H' ⟨hr, e⟩ => ?_ -- (hallmoot/name.span).has
    subst hr e
    try simp
    refine hK _ _ ?_; clear hK K
    refine AW_cond' rfl rfl (fun hc => ?_) (fun hc => ?_)
    · have hg : spanHas spans[i].1 spans[i].2.1 spans[i].2.2 c = true := by simpa using hc
      refine AW_seq ?_
      refine AW_reg [2] fun K hK => ?_ -- region 5
      simp [init_eq]
      refine hK _ _ ?_; clear hK K
      refine AW_ret (end_ret rfl (pure_end hn ho ?_ rfl))
      have : letterI c = true := List.any_eq_true.2 ⟨spans[i], List.getElem_mem hs, hg⟩
      simp [this]
    · have hg : spanHas spans[i].1 spans[i].2.1 spans[i].2.2 c = false := by simpa using hc
      refine AW_skip ?_
      refine AW_reg [0, 11, 12] fun K hK => ?_ -- region 6
      simp [init_eq, wrap_id (x := (i : Int) + 1) (by omega) (by omega)]
      refine hK _ _ ?_; clear hK K
      refine rend ⟨i + 1, by simp, ⟨by omega, ?_⟩, by omega, .inr ⟨by omega, ho, by simp [spanCells, spans]⟩⟩ -- round's end
      rw [List.take_succ_eq_append_getElem hs, List.any_append, hM.2]; simp [hg]
  · have hi : i = 6 := by
      have : ¬ i < 6 := by simp at hc; omega
      omega
    subst hi
    refine AW_exit (then_exit (then_exit (block_here ?_)))
    refine AW_seq ?_
    refine AW_reg [2] fun K hK => ?_ -- region 7
    simp [init_eq]
    refine hK _ _ ?_; clear hK K
    refine AW_ret (end_ret rfl ⟨?_, rfl, Nat.le_refl _, fun j hj => rfl⟩)
    have : letterI c = false := hM.2
    simp [this]
theorem rtail_ok (H : AH) (s : List UInt8) (i : Nat) (hi : i ≤ 4) : ACalls Tryd.prog 93 [.s s, .i .i64 i] H fun r H' => r = .i .i64 (if bcont s i then (bat s i : Int) - 128 else -1) ∧ H' = H := by
  refine ACalls_body Tryd.func93 rfl rfl ?_
  refine AW_seq ?_
  refine AW_reg [0, 1] fun K hK => ?_ -- region 0
  simp [init_eq]
  refine hK _ _ ?_; clear hK K
  refine AW_seq ?_
  refine AW_seq ?_
  have hx : i < s.length → aindex Tryd.prog 9 (.s s) (.i .i64 i) = some (.i .u8 (bat s i)) := fun h => by
    simp [aindex, bat, List.getD, h]
  have h256 := bat_lt s i
  refine AW_regto [0, 1, 22] ⟨28, [(0, .s s), (1, .i .i64 i), (22, .b (bcont s i))]⟩ H (fun K hk => ?_) ?_ -- region 1
  · by_cases h1 : i < s.length
    · by_cases h2 : 128 ≤ bat s i
      · have h2' : (128 : Int) ≤ bat s i := by omega
        simp [init_eq, alen, h1, hx h1, conv_int, wrap_id (x := (bat s i : Int)) (by omega) (by omega), h2']
        have : ((bat s i : Int) < 192) = (bat s i < 192) := propext (by omega)
        simpa [bcont, h1, h2, this] using hk
      · have h2' : ¬ (128 : Int) ≤ bat s i := by omega
        simp [init_eq, alen, h1, hx h1, conv_int, wrap_id (x := (bat s i : Int)) (by omega) (by omega), h2']
        simpa [bcont, h1, h2] using hk
    · simp [init_eq, alen, h1]
      simpa [bcont, h1] using hk
  refine AW_cond' rfl rfl (fun hc => ?_) (fun hc => ?_)
  · have hc' : bcont s i = true := hc
    have h1 : i < s.length := ((bcont_iff s i).1 hc').1
    refine AW_seq ?_
    refine AW_reg [4] fun K hK => ?_ -- region 2
    simp [init_eq, hx h1, conv_int, wrap_id (x := (bat s i : Int)) (by omega) (by omega), wrap_id (x := (bat s i : Int) - 128) (by omega) (by omega)]
    refine hK _ _ ?_; clear hK K
    refine AW_ret (end_ret rfl ?_)
    simp [hc']
  · have hc' : bcont s i = false := hc
    refine AW_skip ?_
    refine AW_seq ?_
    refine AW_reg [4] fun K hK => ?_ -- region 3
    simp [init_eq]
    refine hK _ _ ?_; clear hK K
    refine AW_ret (end_ret rfl ?_)
    simp [hc']
end Go.Proofs.YtikonppmjkipoaaDoor
