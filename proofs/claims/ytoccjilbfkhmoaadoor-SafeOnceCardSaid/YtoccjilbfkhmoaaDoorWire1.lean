/-
  Bytes of numbers and of texts: package wire's and the document's.
-/
import Derived.Test.YtoccjilbfkhmoaaDoorTx1
import Derived.Test.YtoccjilbfkhmoaaDoorAbsC
set_option linter.unusedVariables false
set_option linter.unusedSimpArgs false
namespace Go.Proofs.YtoccjilbfkhmoaaDoor
open Go Go.Abs Go.Proofs
set_option maxRecDepth 100000
attribute [local irreducible] AEnd AW ACalls

theorem app_bytes : App Tryd.prog 82 82 1 1 := App.mk' qelem_82 qsize_5 qbytes_5 qzero_5 qsrc_82 rfl (by decide)
theorem app_text : App Tryd.prog 82 9 1 1 := App.mk' qelem_82 qsize_5 qbytes_5 qzero_5 qsrc_9 rfl (by decide)
theorem bs_nil (n m : Nat) (c e : Bool) : aeq Tryd.prog 82 (.sl none n c) (.sl none m e) = some true := by simp [aeq, Tryd.underlying82]
theorem bs_some (q : Nat × Nat × Nat) (n m : Nat) (c e : Bool) : aeq Tryd.prog 82 (.sl (some q) n c) (.sl none m e) = some false := by simp [aeq, Tryd.underlying82]
theorem clone_ok (H : AH) {v : V} {l : List UInt8} (hv : Sl H v 1 (bytesV l)) (hl : l.length ≤ 100000000000) : ACalls Tryd.prog 61 [v] H fun r H' => Fresh H H' r l := by
  refine ACalls_body Tryd.func61 rfl rfl ?_
  refine AW_seq ?_
  refine AW_reg [0] fun K hK => ?_ -- region 0
  simp [init_eq]
  refine hK _ _ ?_; clear hK K
  refine AW_seq ?_
  refine AW_seq ?_
  have hv0 := hv
  rcases hv with ⟨c, rfl, hl0⟩ | ⟨id, g, off, len, clip, c, ro, esz, rfl, hg, h3, hl0⟩
  · have : l = [] := by
      have := congrArg List.length hl0; simp at this; exact this
    subst this
    refine AW_reg [0, 4] fun K hK => ?_ -- region 1
    simp [init_eq, bs_nil]
    refine hK _ _ ?_; clear hK K
    refine AW_cond' rfl rfl (fun hc => ?_) (fun hc => ?_)
    · refine AW_seq ?_
      refine AW_reg [2] fun K hK => ?_ -- region 2
      simp [init_eq]
      refine hK _ _ ?_; clear hK K
      refine AW_ret (end_ret rfl ?_)
      exact ⟨[], Own.nil .., Upd.refl .., by simp⟩
    · cases hc
  · refine AW_reg [0, 4] fun K hK => ?_ -- region 1
    simp [init_eq, bs_some]
    refine hK _ _ ?_; clear hK K
    refine AW_cond' rfl rfl (fun hc => ?_) (fun hc => ?_)
    · cases hc
    · refine AW_skip ?_
      refine AW_seq ?_
      have hx := sl_asource (P := Tryd.prog) (hv0.ext (ext_new H (.cells [] 0 false 1)))
      obtain ⟨v', H', F', h1, h2, h3, h4⟩ := (Own.made H 1).appendB (a := []) app_bytes hx (by simp; omega)
      refine AW_reg [2] fun K hK => ?_ -- region 3
      have hbs : abuildSlice Tryd.prog H 82 0 [] = some (.sl (some (H.next, 0, 0)) 0 false, H.new (.cells [] 0 false 1)) := by
        simp [abuildSlice, afill, V.cells]
      simp [init_eq, hbs, h1]
      refine hK _ _ ?_; clear hK K
      refine AW_ret (end_ret rfl ?_)
      refine ⟨F', h2, (Upd.new H _ []).trans h3 (by simp), fun j hj => ?_⟩
      rcases h4 j hj with h | h
      · simp at h; omega
      · simp at h; omega
/-- A number as a list's cell. -/
def natC (n : Nat) : List V := [.i .i64 (n : Int)]
theorem flatNum_len {ns : List Nat} (h : ∀ n ∈ ns, n ≤ 4611686018427387904) : (ns.flatMap numB).length ≤ 9 * ns.length := by
  induction ns with
  | nil => simp
  | cons n ns ih =>
    have h1 := numB_len9 (h n (by simp))
    have h2 := ih fun m hm => h m (by simp [hm])
    simp only [List.flatMap_cons, List.length_append, List.length_cons]
    omega
end Go.Proofs.YtoccjilbfkhmoaaDoor
