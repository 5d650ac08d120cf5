import Derived.Test.YtmbjcpjhlceenaaBook2
set_option linter.unusedVariables false
set_option linter.unusedSimpArgs false
namespace Go.Proofs.Ytmbjcpjhlceenaa
open Go Go.Abs Go.Proofs
set_option maxRecDepth 100000
attribute [local irreducible] AEnd AW ACalls

/-- The chapter's example. -/
theorem alive_ok (H : AH) : ACalls Try.prog 6 [] H fun r H' => r = .b true ∧ Upd H H' [] := by
  refine ACalls_body Try.func6 rfl rfl ?_
  refine AW_seq ?_
  refine AW_reg [] fun K hK => ?_ -- region 0
  simp [init_eq]
  refine hK _ _ ?_; clear hK K
  refine AW_seq ?_
  refine AW_reg [1] fun K hK => ?_ -- region 1
  simp [init_eq]
  refine ACalls.mono (new_ok H) fun r H1 ⟨F1, b1, u1, f1⟩ => ?_ -- hallmoot/book.New
  try simp
  refine hK _ _ ?_; clear hK K
  refine AW_seq ?_
  refine AW_reg [1, 2, 3] fun K hK => ?_ -- region 2
  simp [init_eq]
  refine ACalls.mono (enter_ok b1 (by simp) _) fun x H2 h2 => ?_ -- (*hallmoot/book.Book).Enter
  rw [if_neg (by simp)] at h2
  obtain ⟨F2, rfl, b2, u2, f2⟩ := h2
  simp
  refine hK _ _ ?_; clear hK K
  refine AW_seq ?_
  refine AW_reg [1, 2, 3, 4, 5] fun K hK => ?_ -- region 3
  simp [init_eq]
  refine ACalls.mono (enter_ok b2 (by decide) _) fun x H3 h3 => ?_ -- (*hallmoot/book.Book).Enter
  rw [if_neg (by simp)] at h3
  obtain ⟨F3, rfl, b3, u3, f3⟩ := h3
  simp
  refine hK _ _ ?_; clear hK K
  refine AW_seq ?_
  refine AW_reg [1, 2, 3, 4, 5, 6, 7] fun K hK => ?_ -- region 4
  simp [init_eq]
  refine ACalls.mono (enter_ok b3 (by decide) _) fun x H4 h4 => ?_ -- (*hallmoot/book.Book).Enter
  rw [if_neg (by simp)] at h4
  obtain ⟨F4, rfl, b4, u4, f4⟩ := h4
  simp
  refine hK _ _ ?_; clear hK K
  refine AW_seq ?_
  refine AW_reg [2, 3, 4, 5, 6, 7, 9] fun K hK => ?_ -- region 5
  simp [init_eq]
  refine ACalls.mono (look_ok b4 _) fun x H5 h5 => ?_ -- (*hallmoot/book.Book).Look
  obtain ⟨rfl, rfl⟩ := h5
  rw [if_neg (by decide)]
  simp
  refine hK _ _ ?_; clear hK K
  refine AW_seq ?_
  refine AW_reg [0] fun K hK => ?_ -- region 6
  have i1 : List.idxOf [120] (enter [] [120]) = 0 := by decide
  have i2 : List.idxOf [121] (enter (enter [] [120]) [121]) = 1 := by decide
  have i3 : List.idxOf [120] (enter (enter (enter [] [120]) [121]) [120]) = 0 := by decide
  simp [init_eq, i1, i2, i3]
  refine hK _ _ ?_; clear hK K
  refine AW_ret (end_ret rfl ?_)
  refine ⟨rfl, ?_⟩
  have n1 := u1.1; have n2 := u2.1; have n3 := u3.1
  refine Upd.trans (Upd.trans (Upd.trans u1 u2 (fun j hj => .inr (f1 j hj))) u3 (fun j hj => .inr ?_)) u4 (fun j hj => .inr ?_)
  · rcases f2 j hj with h | h
    · exact f1 j h
    · omega
  · rcases f3 j hj with h | h
    · rcases f2 j h with h | h
      · exact f1 j h
      · omega
    · omega

theorem nil_law (H : AH) (s : List UInt8) (n : Int) : ACalls Try.prog 5 [.s s, .i .i64 n] H fun r H' => r = .b true := by
  refine ACalls_body Try.func5 rfl rfl ?_
  refine AW_seq ?_
  refine AW_reg [0, 1] fun K hK => ?_ -- region 0
  simp [init_eq]
  refine hK _ _ ?_; clear hK K
  refine AW_seq ?_
  refine AW_seq ?_
  refine AW_reg [0, 1, 13] fun K hK => ?_ -- region 1
  simp [init_eq]
  refine ACalls.mono (alive_ok H) fun r H1 ⟨hr, u1⟩ => ?_ -- hallmoot/hallmootlaw05.alive
  subst hr
  try simp
  refine hK _ _ ?_; clear hK K
  refine AW_cond' rfl rfl (fun hc => ?_) (fun hc => ?_)
  · cases hc
  · refine AW_skip ?_
    refine AW_seq ?_
    refine AW_reg [0, 1, 5] fun K hK => ?_ -- region 3
    simp [init_eq]
    refine hK _ _ ?_; clear hK K
    refine AW_seq ?_
    refine AW_reg [0, 1, 5, 6, 7] fun K hK => ?_ -- region 4
    simp [init_eq]
    refine ACalls.mono (enter_nil H1 s) fun r H' ⟨hr, e⟩ => ?_ -- (*hallmoot/book.Book).Enter
    subst hr e
    try simp
    refine hK _ _ ?_; clear hK K
    refine AW_seq ?_
    refine AW_reg [1, 5, 6, 7, 8, 9] fun K hK => ?_ -- region 5
    simp [init_eq]
    refine ACalls.mono (look_nil _ s) fun r H' ⟨hr, e⟩ => ?_ -- (*hallmoot/book.Book).Look
    subst hr e
    try simp
    refine hK _ _ ?_; clear hK K
    refine AW_seq ?_
    refine AW_reg [5, 6, 7, 8, 9, 10, 11] fun K hK => ?_ -- region 6
    simp [init_eq]
    refine ACalls.mono (content_nil _ n) fun r H' ⟨hr, e⟩ => ?_ -- (*hallmoot/book.Book).Content
    subst hr e
    try simp
    refine hK _ _ ?_; clear hK K
    refine AW_seq ?_
    refine AW_reg [4] fun K hK => ?_ -- region 7
    simp [init_eq, conv_int (P := Try.prog) qthere_27 qint_3]
    refine ACalls.mono (len_nil _) fun r H' ⟨hr, e⟩ => ?_ -- (*hallmoot/book.Book).Len
    subst hr e
    try simp
    refine hK _ _ ?_; clear hK K
    refine AW_ret (end_ret rfl ?_)
    rfl
end Go.Proofs.Ytmbjcpjhlceenaa
