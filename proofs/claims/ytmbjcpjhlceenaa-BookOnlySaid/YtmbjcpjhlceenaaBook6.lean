import Derived.Test.YtmbjcpjhlceenaaBook4
set_option linter.unusedVariables false
set_option linter.unusedSimpArgs false
namespace Go.Proofs.Ytmbjcpjhlceenaa
open Go Go.Abs Go.Proofs
set_option maxRecDepth 100000
attribute [local irreducible] AEnd AW ACalls

theorem RefAt.lt {H : AH} {b : V} {l : List (List UInt8)} {F : List Nat} (h : RefAt H b l F) : ∀ j ∈ F, j < H.next := by
  obtain ⟨bid, sv, Fs, rfl, hb, ho, h1, rfl⟩ := h
  intro j hj
  rcases List.mem_cons.1 hj with rfl | hj
  · exact AH.get_lt hb
  · exact ho.lt j hj
theorem RefAt.upd {H H' : AH} {b : V} {l : List (List UInt8)} {F G : List Nat} (h : RefAt H b l F) (hu : Upd H H' G) (hd : ∀ j ∈ F, j ∉ G) : RefAt H' b l F := by
  obtain ⟨bid, sv, Fs, rfl, hb, ho, h1, rfl⟩ := h
  exact ⟨bid, sv, Fs, rfl, hu.keep (hd _ (by simp)) hb, ho.upd hu (fun j hj => hd j (by simp [hj])), h1, rfl⟩
theorem BookAt.lt {H : AH} {b : V} {l : List (List UInt8)} {F : List Nat} (h : BookAt H b l F) : ∀ j ∈ F, j < H.next := by
  obtain ⟨bid, mid, sv, es, clock, Fs, rfl, hb, hm, ho, he, h1, h2, h3, rfl, hn⟩ := h
  intro j hj
  rcases List.mem_cons.1 hj with rfl | hj
  · exact AH.get_lt hb
  · rcases List.mem_cons.1 hj with rfl | hj
    · exact AH.get_lt hm
    · exact ho.lt j hj
theorem BookAt.upd {H H' : AH} {b : V} {l : List (List UInt8)} {F G : List Nat} (h : BookAt H b l F) (hu : Upd H H' G) (hd : ∀ j ∈ F, j ∉ G) : BookAt H' b l F := by
  obtain ⟨bid, mid, sv, es, clock, Fs, rfl, hb, hm, ho, he, h1, h2, h3, rfl, hn⟩ := h
  exact ⟨bid, mid, sv, es, clock, Fs, rfl, hu.keep (hd _ (by simp)) hb, hu.keep (hd _ (by simp)) hm, ho.upd hu (fun j hj => hd j (by simp [hj])), he, h1, h2, h3, rfl, hn⟩

/-- A call, as a record. -/
def actV (x : Int × Int × List UInt8) : List V := [.i .i64 x.1, .i .i64 x.2.1, .s x.2.2]
/-- Both books hold the same, and nothing older was changed. -/
structure Both (H0 H : AH) (b m : V) (l : List (List UInt8)) (F G : List Nat) : Prop where
  book : BookAt H b l F
  ref : RefAt H m l G
  apart : ∀ j ∈ F, j ∉ G
  oldF : ∀ j ∈ F, H0.next ≤ j
  oldG : ∀ j ∈ G, H0.next ≤ j
  upd : Upd H0 H []

theorem plays_law (H : AH) (v : V) (acts : List (Int × Int × List UInt8)) (hv : SlR H v 3 (acts.map actV)) : ACalls Try.prog 4 [v] H fun r H' => r = .b true := by
  have hlen : ∀ H', alen Try.prog H' 33 v = some (.i .i64 acts.length) := fun H' => by rw [hv.len (P := Try.prog) (H' := H') (by decide) qelem_33]; simp
  refine ACalls_body Try.func4 rfl rfl ?_
  refine AW_seq ?_
  refine AW_reg [0] fun K hK => ?_ -- region 0
  simp [init_eq]
  refine hK _ _ ?_; clear hK K
  refine AW_seq ?_
  refine AW_seq ?_
  refine AW_reg [0, 18] fun K hK => ?_ -- region 1
  simp [init_eq]
  refine ACalls.mono (alive_ok H) fun r H1 ⟨hr, u1⟩ => ?_ -- hallmoot/hallmootlaw05.alive
  subst hr
  try simp
  refine hK _ _ ?_; clear hK K
  refine AW_cond' rfl rfl (fun hc => ?_) (fun hc => ?_)
  · cases hc
  · refine AW_skip ?_
    refine AW_seq ?_
    refine AW_reg [0, 3] fun K hK => ?_ -- region 3
    simp [init_eq]
    refine ACalls.mono (new_ok H1) fun b H2 ⟨F2, b2, u2, f2⟩ => ?_ -- hallmoot/book.New
    try simp
    refine hK _ _ ?_; clear hK K
    refine AW_seq ?_
    refine AW_reg [0, 3, 4] fun K hK => ?_ -- region 4
    simp [init_eq, abuild, afill, splice, V.cells]
    refine hK _ _ ?_; clear hK K
    generalize hH3 : H2.new (.cells [.sl none 0 false] 0 false 0) = H3
    have u3 : Upd H2 H3 [] := hH3 ▸ Upd.new ..
    have n1 := u1.1; have n2 := u2.1; have n3 := u3.1
    have both3 : Both H H3 b (.p (some (H2.next, 0, 0))) [] F2 [H2.next] := by
      refine ⟨b2.upd u3 (by simp), ⟨H2.next, _, [], rfl, by rw [← hH3, AH.get_new_same], Own.nil _ _ _, by simp, rfl⟩, fun j hj => ?_, fun j hj => ?_, fun j hj => ?_, (u1.trans u2 (by simp)).trans u3 (by simp)⟩
      · have := b2.lt j hj; simp; omega
      · have := f2 j hj; omega
      · simp at hj; omega
    clear b2 f2 u1 u2 u3 hH3 n1 n2 n3
    generalize V.p (some (H2.next, 0, 0)) = m at both3
    generalize [H2.next] = G3 at both3
    obtain ⟨q, hq⟩ : ∃ q, b = .p (some q) := by
      obtain ⟨bid, mid, sv, es, clock, Fs, rfl, _⟩ := both3.book
      exact ⟨_, rfl⟩
    subst hq
    refine AW_seq ?_
    refine AW_seq ?_
    refine AW_reg [0, 3, 4, 23] fun K hK => ?_ -- region 5
    simp [init_eq]
    refine hK _ _ ?_; clear hK K
    refine AW_cond' rfl rfl (fun hc => ?_) (fun hc => ?_)
    · cases hc
    · refine AW_skip ?_
      refine AW_seq ?_
      refine AW_seq ?_
      refine AW_reg [0, 3, 4, 5] fun K hK => ?_ -- region 7
      simp [init_eq]
      refine hK _ _ ?_; clear hK K
      refine AW_block ?_
      refine AW_loopx (fun i : Nat => ⟨160, [(0, v), (3, .p (some q)), (4, m), (5, .i .i64 i)]⟩) (fun i H' => i ≤ 100 ∧ i ≤ acts.length ∧ ∃ l F G, Both H H' (.p (some q)) m l F G ∧ l.length ≤ i) (fun i => acts.length - i) 0 (by simp) ⟨by omega, by omega, [], F2, G3, both3, by simp⟩ fun i H' hM => ?_ -- loop
      obtain ⟨hi, hi2, l, F, G, both, hll⟩ := hM
      refine AW_seq ?_
      refine AW_seq ?_
      by_cases hlt : i < acts.length
      · by_cases h100 : i < 100
        · refine AW_reg [0, 3, 4, 5, 31] fun K hK => ?_ -- region 8
          simp [init_eq, hlen, hlt, h100]
          refine hK _ _ ?_; clear hK K
          refine AW_cond' rfl rfl (fun hc => ?_) (fun hc => ?_)
          · obtain ⟨⟨k, n, s⟩, ha⟩ : ∃ a, acts[i]? = some a := ⟨acts[i], by simp [hlt]⟩
            have hsv : SlR H' v 3 (acts.map actV) := hv.ext both.upd.ext
            obtain ⟨a, hia, hrec⟩ := SlR.at (P := Try.prog) (t := 33) (k := .i64) (i := i) (by decide) hsv qelem_33 qsize_38 (by omega) (l := actV (k, n, s)) (by simp [ha])
            obtain ⟨a0, fa0, la0⟩ := hrec.fld (P := Try.prog) (ft := 3) qfield_38_0 qagg_3 qsize_3 rfl
            obtain ⟨a1, fa1, la1⟩ := hrec.fld (P := Try.prog) (ft := 3) qfield_38_1 qagg_3 qsize_3 rfl
            obtain ⟨a2, fa2, la2⟩ := hrec.fld (P := Try.prog) (ft := 9) qfield_38_2 qagg_9 qsize_9 rfl
            refine AW_skip ?_
            refine AW_seq ?_
            refine AW_block ?_
            refine AW_seq ?_
            refine AW_seq ?_
            refine AW_reg [0, 3, 4, 5, 40] fun K hK => ?_ -- region 10
            simp [init_eq, hia, fa2, la2, alen]
            refine hK _ _ ?_; clear hK K
            refine AW_cond' rfl rfl (fun hc => ?_) (fun hc => ?_)
            · refine AW_seq ?_
              refine AW_reg [2] fun K hK => ?_ -- region 11
              simp [init_eq]
              refine hK _ _ ?_; clear hK K
              refine AW_ret (end_ret rfl ?_)
              rfl
            · refine AW_skip ?_
              refine AW_cut (fun ρ' H' => ∃ l F G, ρ' = ⟨160, [(0, v), (3, .p (some q)), (4, m), (5, .i .i64 i)]⟩ ∧ Both H H' (.p (some q)) m l F G ∧ l.length ≤ i + 1) ?_ ?_
              · have hl1 : l.length ≤ 1000000 := by omega
                refine AW_seq ?_
                refine AW_reg [0, 3, 4, 5, 45] fun K hK => ?_ -- region 12
                simp [init_eq, hia, fa0, la0]
                refine hK _ _ ?_; clear hK K
                refine AW_block ?_
                refine AW_seq ?_
                refine AW_reg [0, 3, 4, 5, 45, 46] fun K hK => ?_ -- region 13
                simp [init_eq]
                refine hK _ _ ?_; clear hK K
                refine AW_cond' rfl rfl (fun hc => ?_) (fun hc => ?_)
                · refine AW_seq ?_
                  refine AW_reg [0, 3, 4, 5, 6, 7] fun K hK => ?_ -- region 14
                  simp [init_eq, hia, fa2, la2]
                  refine ACalls.mono (enter_ok both.book hl1 s) fun r H4 h4 => ?_ -- (*hallmoot/book.Book).Enter
                  by_cases hs : 65536 < s.length
                  · rw [if_pos hs] at h4
                    obtain ⟨rfl, rfl⟩ := h4
                    try simp
                    refine hK _ _ ?_; clear hK K
                    refine AW_seq ?_
                    refine AW_reg [0, 3, 4, 5, 6, 7, 8, 9] fun K hK => ?_ -- region 15
                    simp [init_eq, hia, fa2, la2]
                    refine ACalls.mono (ref_enter both.ref hl1 s) fun r H5 h5 => ?_ -- (*hallmoot/hallmootref05.Book).Enter
                    rw [if_pos hs] at h5
                    obtain ⟨rfl, rfl⟩ := h5
                    try simp
                    refine hK _ _ ?_; clear hK K
                    refine AW_seq ?_
                    refine AW_reg [0, 3, 4, 5, 75] fun K hK => ?_ -- region 16
                    simp [init_eq, conv_int (P := Try.prog) qthere_27 qint_3]
                    refine hK _ _ ?_; clear hK K
                    refine AW_cond' rfl rfl (fun hc => ?_) (fun hc => ?_)
                    · cases hc
                    · refine AW_skip ?_
                      exact bend (rend ⟨⟨160, [(0, v), (3, .p (some q)), (4, m), (5, .i .i64 i)]⟩, by simp, l, F, G, rfl, both, by omega⟩)
                  · rw [if_neg hs] at h4
                    obtain ⟨F4, rfl, b4, u4, f4⟩ := h4
                    have r4 : RefAt H4 m l G := both.ref.upd u4 (fun j hj hf => both.apart j hf hj)
                    have i4 : SlR H4 v 3 (acts.map actV) := hv.ext ((both.upd.trans u4 (fun j hj => .inr (both.oldF j hj))).ext)
                    obtain ⟨a', hia', hrec'⟩ := SlR.at (P := Try.prog) (t := 33) (k := .i64) (i := i) (by decide) i4 qelem_33 qsize_38 (by omega) (l := actV (k, n, s)) (by simp [ha])
                    obtain ⟨a2', fa2', la2'⟩ := hrec'.fld (P := Try.prog) (ft := 9) qfield_38_2 qagg_9 qsize_9 rfl
                    try simp
                    refine hK _ _ ?_; clear hK K
                    refine AW_seq ?_
                    refine AW_reg [0, 3, 4, 5, 6, 7, 8, 9] fun K hK => ?_ -- region 15
                    simp [init_eq, hia', fa2', la2']
                    refine ACalls.mono (ref_enter r4 hl1 s) fun r H5 h5 => ?_ -- (*hallmoot/hallmootref05.Book).Enter
                    rw [if_neg hs] at h5
                    obtain ⟨G5, rfl, r5, u5, f5⟩ := h5
                    try simp
                    refine hK _ _ ?_; clear hK K
                    refine AW_seq ?_
                    refine AW_reg [0, 3, 4, 5, 75] fun K hK => ?_ -- region 16
                    simp [init_eq, conv_int (P := Try.prog) qthere_27 qint_3]
                    refine hK _ _ ?_; clear hK K
                    refine AW_cond' rfl rfl (fun hc => ?_) (fun hc => ?_)
                    · cases hc
                    · refine AW_skip ?_
                      have nn := both.upd.1
                      have n4 := u4.1
                      have hFG : ∀ j ∈ F4, j ∉ G := fun j hj hg => by
                        rcases f4 j hj with h | h
                        · exact both.apart j h hg
                        · have := both.ref.lt j hg; omega
                      have hFo : ∀ j ∈ F4, H.next ≤ j := fun j hj => by
                        rcases f4 j hj with h | h
                        · exact both.oldF j h
                        · omega
                      refine bend (rend ⟨⟨160, [(0, v), (3, .p (some q)), (4, m), (5, .i .i64 i)]⟩, by simp, enter l s, F4, G5, rfl, ⟨b4.upd u5 hFG, r5, fun j hj hg => ?_, hFo, fun j hj => ?_, (both.upd.trans u4 (fun j hj => .inr (both.oldF j hj))).trans u5 (fun j hj => .inr (both.oldG j hj))⟩, ?_⟩)
                      · rcases f5 j hg with h | h
                        · exact hFG j hj h
                        · have := b4.lt j hj; omega
                      · rcases f5 j hj with h | h
                        · exact both.oldG j h
                        · omega
                      · unfold enter; split
                        · omega
                        · simp; omega
                · refine AW_seq ?_
                  refine AW_reg [0, 3, 4, 5, 45, 76] fun K hK => ?_ -- region 18
                  simp [init_eq]
                  refine hK _ _ ?_; clear hK K
                  refine AW_cond' rfl rfl (fun hc => ?_) (fun hc => ?_)
                  · refine AW_seq ?_
                    refine AW_reg [0, 3, 4, 5, 10, 11] fun K hK => ?_ -- region 19
                    simp [init_eq, hia, fa2, la2]
                    refine ACalls.mono (look_ok both.book s) fun r H4 ⟨hr, e⟩ => ?_ -- (*hallmoot/book.Book).Look
                    subst hr e
                    by_cases hs : s ∈ l
                    · simp only [hs, if_true]
                      try simp
                      refine hK _ _ ?_; clear hK K
                      refine AW_seq ?_
                      refine AW_reg [0, 3, 4, 5, 10, 11, 12] fun K hK => ?_ -- region 20
                      simp [init_eq, hia, fa2, la2]
                      refine ACalls.mono (ref_look both.ref hl1 s) fun r H5 ⟨hr, e⟩ => ?_ -- (*hallmoot/hallmootref05.Book).Look
                      subst hr e
                      simp only [hs, if_true]
                      try simp
                      refine hK _ _ ?_; clear hK K
                      have hz : (((l.idxOf s : Nat) : Int) + 1 == 0) = false := by simp; omega
                      have hz2 : (0 : Int) < ((l.idxOf s : Nat) : Int) + 1 := by omega
                      refine AW_seq ?_
                      refine AW_reg [0, 3, 4, 5, 112] fun K hK => ?_ -- region 21
                      simp [init_eq, conv_int (P := Try.prog) qthere_27 qint_3, hz, hz2]
                      refine hK _ _ ?_; clear hK K
                      refine AW_cond' rfl rfl (fun hc => ?_) (fun hc => ?_)
                      · cases hc
                      · refine AW_skip ?_
                        exact bend (rend ⟨⟨160, [(0, v), (3, .p (some q)), (4, m), (5, .i .i64 i)]⟩, by simp, l, F, G, rfl, both, by omega⟩)
                    · simp only [hs, if_false]
                      try simp
                      refine hK _ _ ?_; clear hK K
                      refine AW_seq ?_
                      refine AW_reg [0, 3, 4, 5, 10, 11, 12] fun K hK => ?_ -- region 20
                      simp [init_eq, hia, fa2, la2]
                      refine ACalls.mono (ref_look both.ref hl1 s) fun r H5 ⟨hr, e⟩ => ?_ -- (*hallmoot/hallmootref05.Book).Look
                      subst hr e
                      simp only [hs, if_false]
                      try simp
                      refine hK _ _ ?_; clear hK K
                      refine AW_seq ?_
                      refine AW_reg [0, 3, 4, 5, 112] fun K hK => ?_ -- region 21
                      simp [init_eq, conv_int (P := Try.prog) qthere_27 qint_3]
                      refine hK _ _ ?_; clear hK K
                      refine AW_cond' rfl rfl (fun hc => ?_) (fun hc => ?_)
                      · cases hc
                      · refine AW_skip ?_
                        exact bend (rend ⟨⟨160, [(0, v), (3, .p (some q)), (4, m), (5, .i .i64 i)]⟩, by simp, l, F, G, rfl, both, by omega⟩)
                  · refine AW_seq ?_
                    refine AW_reg [0, 3, 4, 5, 113] fun K hK => ?_ -- region 23
                    simp [init_eq]
                    refine hK _ _ ?_; clear hK K
                    refine AW_cond' rfl rfl (fun hc => ?_) (fun hc => ?_)
                    · refine AW_seq ?_
                      refine AW_reg [0, 3, 4, 5, 13, 14] fun K hK => ?_ -- region 24
                      simp [init_eq, hia, fa1, la1]
                      refine ACalls.mono (content_ok both.book hl1 n) fun r H4 ⟨hr, e⟩ => ?_ -- (*hallmoot/book.Book).Content
                      subst hr e
                      generalize hx : (if 1 ≤ n then l[(n - 1).toNat]? else none) = x
                      cases x with
                      | none =>
                        try simp
                        refine hK _ _ ?_; clear hK K
                        refine AW_seq ?_
                        refine AW_reg [0, 3, 4, 5, 13, 14, 15, 16] fun K hK => ?_ -- region 25
                        simp [init_eq, hia, fa1, la1]
                        refine ACalls.mono (ref_content both.ref hl1 n) fun r H5 ⟨hr, e⟩ => ?_ -- (*hallmoot/hallmootref05.Book).Content
                        subst hr e
                        rw [hx]
                        try simp
                        refine hK _ _ ?_; clear hK K
                        refine AW_seq ?_
                        refine AW_reg [0, 3, 4, 5, 151] fun K hK => ?_ -- region 26
                        simp [init_eq, conv_int (P := Try.prog) qthere_27 qint_3]
                        refine hK _ _ ?_; clear hK K
                        refine AW_cond' rfl rfl (fun hc => ?_) (fun hc => ?_)
                        · cases hc
                        · refine AW_skip ?_
                          exact bend (rend ⟨⟨160, [(0, v), (3, .p (some q)), (4, m), (5, .i .i64 i)]⟩, by simp, l, F, G, rfl, both, by omega⟩)
                      | some x =>
                        try simp
                        refine hK _ _ ?_; clear hK K
                        refine AW_seq ?_
                        refine AW_reg [0, 3, 4, 5, 13, 14, 15, 16] fun K hK => ?_ -- region 25
                        simp [init_eq, hia, fa1, la1]
                        refine ACalls.mono (ref_content both.ref hl1 n) fun r H5 ⟨hr, e⟩ => ?_ -- (*hallmoot/hallmootref05.Book).Content
                        subst hr e
                        rw [hx]
                        try simp
                        refine hK _ _ ?_; clear hK K
                        refine AW_seq ?_
                        refine AW_reg [0, 3, 4, 5, 151] fun K hK => ?_ -- region 26
                        simp [init_eq, conv_int (P := Try.prog) qthere_27 qint_3]
                        refine hK _ _ ?_; clear hK K
                        refine AW_cond' rfl rfl (fun hc => ?_) (fun hc => ?_)
                        · cases hc
                        · refine AW_skip ?_
                          exact bend (rend ⟨⟨160, [(0, v), (3, .p (some q)), (4, m), (5, .i .i64 i)]⟩, by simp, l, F, G, rfl, both, by omega⟩)
                    · refine AW_skip ?_
                      exact bend (rend ⟨⟨160, [(0, v), (3, .p (some q)), (4, m), (5, .i .i64 i)]⟩, by simp, l, F, G, rfl, both, by omega⟩)
              · rintro ρ' H4 ⟨l4, F4, G4, rfl, both4, hl4⟩
                obtain ⟨bid, sv, Fs, hm, hb, ho, h1, h2⟩ := id both4.ref
                subst hm
                refine AW_seq ?_
                refine AW_regd [0, 3, 4, 5, 159] pl_4_28 pe_4_28 (by kernel_rfl) (by kernel_rfl) (by decide) fun K hK => ?_
                simp [init_eq, pl_4_28, afieldAddr, aload, hb, ho.len (P := Try.prog) (by decide) qelem_22]
                refine ACalls.mono (len_ok both4.book) fun r H5 ⟨hr, e⟩ => ?_ -- (*hallmoot/book.Book).Len
                subst hr e
                try simp
                refine hK _ _ ?_; clear hK K
                refine AW_cond' rfl rfl (fun hc => ?_) (fun hc => ?_)
                · cases hc
                · refine AW_skip ?_
                  refine AW_reg [0, 3, 4, 5] fun K hK => ?_ -- region 9
                  simp [init_eq, wrap_id (x := (i : Int) + 1) (by omega) (by omega)]
                  refine hK _ _ ?_; clear hK K
                  exact rend ⟨i + 1, by simp, ⟨by omega, by omega, l4, F4, G4, both4, hl4⟩, by omega⟩ -- round's end
          · simp at hc; omega
        · have h100' : ¬ (i : Int) < 100 := by omega
          refine AW_reg [0, 3, 4, 5, 31] fun K hK => ?_ -- region 8
          simp [init_eq, hlen, hlt, h100']
          refine hK _ _ ?_; clear hK K
          refine AW_cond' rfl rfl (fun hc => ?_) (fun hc => ?_)
          · cases hc
          · refine AW_exit (then_exit (then_exit (block_here ?_)))
            refine AW_seq ?_
            refine AW_reg [2] fun K hK => ?_ -- region 30
            simp [init_eq]
            refine hK _ _ ?_; clear hK K
            refine AW_ret (end_ret rfl ?_)
            rfl
      · refine AW_reg [0, 3, 4, 5, 31] fun K hK => ?_ -- region 8
        simp [init_eq, hlen, hlt]
        refine hK _ _ ?_; clear hK K
        refine AW_cond' rfl rfl (fun hc => ?_) (fun hc => ?_)
        · cases hc
        · refine AW_exit (then_exit (then_exit (block_here ?_)))
          refine AW_seq ?_
          refine AW_reg [2] fun K hK => ?_ -- region 30
          simp [init_eq]
          refine hK _ _ ?_; clear hK K
          refine AW_ret (end_ret rfl ?_)
          rfl
end Go.Proofs.Ytmbjcpjhlceenaa
