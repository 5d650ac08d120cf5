/-
  The order of names: by runes, then by bytes; of keys: by who, then by key. Plain.
-/
import Derived.Test.YtikonppmjkipoaaDoorAbsC
import Derived.Sort.Statements
set_option linter.unusedVariables false
set_option linter.unusedSimpArgs false
namespace Go.Abs
open Go Go.RowKit

/-- A strict total order, told by a test. -/
structure STO {α : Type} (lt : α → α → Bool) : Prop where
  irrefl : ∀ x, lt x x = false
  trans : ∀ x y z, lt x y = true → lt y z = true → lt x z = true
  total : ∀ x y, x ≠ y → lt x y = true ∨ lt y x = true
theorem STO.asymm {α : Type} {lt : α → α → Bool} (h : STO lt) {x y : α} (hx : lt x y = true) : lt y x = false := by
  cases hy : lt y x with
  | false => rfl
  | true => have := h.trans x y x hx hy; rw [h.irrefl] at this; cases this
theorem STO.swo {α : Type} {lt : α → α → Bool} (h : STO lt) : Go.Sort.SWO lt where
  irrefl := h.irrefl
  trans := h.trans
  ntrans x y z h1 h2 := by
    cases hz : lt x z with
    | false => rfl
    | true =>
      by_cases e : x = y
      · subst e; rw [hz] at h2; cases h2
      · rcases h.total x y e with k | k
        · rw [k] at h1; cases h1
        · have := h.trans y x z k hz; rw [this] at h2; cases h2
/-- Lists in the order of their members, then by length. -/
def lexB {α : Type} [DecidableEq α] (lt : α → α → Bool) : List α → List α → Bool
  | _, [] => false
  | [], _ :: _ => true
  | a :: x, b :: y => lt a b || (decide (a = b) && lexB lt x y)
theorem lexB_sto {α : Type} [DecidableEq α] {lt : α → α → Bool} (h : STO lt) : STO (lexB lt) where
  irrefl x := by
    induction x with
    | nil => rfl
    | cons a x ih => simp [lexB, h.irrefl, ih]
  trans := by
    intro x
    induction x with
    | nil =>
      intro y z h1 h2
      cases y with
      | nil => cases h1
      | cons b y => cases z with
        | nil => cases h2
        | cons c z => rfl
    | cons a x ih =>
      intro y z h1 h2
      cases y with
      | nil => cases h1
      | cons b y => cases z with
        | nil => cases h2
        | cons c z =>
          simp only [lexB, Bool.or_eq_true, Bool.and_eq_true, decide_eq_true_eq] at h1 h2 ⊢
          rcases h1 with h1 | ⟨rfl, h1⟩
          · rcases h2 with h2 | ⟨rfl, h2⟩
            · exact .inl (h.trans _ _ _ h1 h2)
            · exact .inl h1
          · rcases h2 with h2 | ⟨rfl, h2⟩
            · exact .inl h2
            · exact .inr ⟨rfl, ih _ _ h1 h2⟩
  total := by
    intro x
    induction x with
    | nil =>
      intro y hy
      cases y with
      | nil => exact absurd rfl hy
      | cons b y => exact .inl rfl
    | cons a x ih =>
      intro y hy
      cases y with
      | nil => exact .inr rfl
      | cons b y =>
        simp only [lexB, Bool.or_eq_true, Bool.and_eq_true, decide_eq_true_eq]
        by_cases e : a = b
        · subst e
          rcases ih y (fun e => hy (by rw [e])) with k | k
          · exact .inl (.inr ⟨rfl, k⟩)
          · exact .inr (.inr ⟨rfl, k⟩)
        · rcases h.total a b e with k | k
          · exact .inl (.inl k)
          · exact .inr (.inl k)
/-- First by one thing, then by another one. -/
def thenB {α β γ : Type} [DecidableEq β] (f : α → β) (g : α → γ) (l1 : β → β → Bool) (l2 : γ → γ → Bool) (x y : α) : Bool := l1 (f x) (f y) || (decide (f x = f y) && l2 (g x) (g y))
theorem thenB_sto {α β γ : Type} [DecidableEq β] {f : α → β} {g : α → γ} {l1 : β → β → Bool} {l2 : γ → γ → Bool} (h1 : STO l1) (h2 : STO l2) (inj : ∀ x y, f x = f y → g x = g y → x = y) : STO (thenB f g l1 l2) where
  irrefl x := by simp [thenB, h1.irrefl, h2.irrefl]
  trans x y z hx hy := by
    simp only [thenB, Bool.or_eq_true, Bool.and_eq_true, decide_eq_true_eq] at hx hy ⊢
    rcases hx with hx | ⟨e, hx⟩
    · rcases hy with hy | ⟨e', hy⟩
      · exact .inl (h1.trans _ _ _ hx hy)
      · exact .inl (by rw [← e']; exact hx)
    · rcases hy with hy | ⟨e', hy⟩
      · exact .inl (by rw [e]; exact hy)
      · exact .inr ⟨e.trans e', h2.trans _ _ _ hx hy⟩
  total x y hxy := by
    simp only [thenB, Bool.or_eq_true, Bool.and_eq_true, decide_eq_true_eq]
    by_cases e : f x = f y
    · rcases h2.total (g x) (g y) (fun k => hxy (inj x y e k)) with k | k
      · exact .inl (.inr ⟨e, k⟩)
      · exact .inr (.inr ⟨e.symm, k⟩)
    · rcases h1.total _ _ e with k | k
      · exact .inl (.inl k)
      · exact .inr (.inl k)
theorem natB_sto : STO (fun a b : Nat => decide (a < b)) where
  irrefl x := by simp
  trans x y z h1 h2 := by simp at *; omega
  total x y h := by simp; omega
theorem u8B_sto : STO (fun a b : UInt8 => decide (a < b)) where
  irrefl x := by simp
  trans x y z h1 h2 := by
    simp only [decide_eq_true_eq, UInt8.lt_iff_toNat_lt] at *; omega
  total x y h := by
    simp only [decide_eq_true_eq, UInt8.lt_iff_toNat_lt]
    have : x.toNat ≠ y.toNat := fun e => h (UInt8.toNat_inj.1 e)
    omega
theorem bytesLess_lex : ∀ x y : List UInt8, Op.bytesLess x y = lexB (fun a b : UInt8 => decide (a < b)) x y
  | _, [] => by cases ‹List UInt8› <;> rfl
  | [], _ :: _ => rfl
  | a :: x, b :: y => by
    simp only [Op.bytesLess, lexB, bytesLess_lex x y]
    congr 1
/-- A text's runes. -/
def runesL (s : List UInt8) : List Nat := (letsOf s).map (·.1)
def nameLt (a b : List UInt8) : Bool := thenB runesL id (lexB fun a b : Nat => decide (a < b)) Op.bytesLess a b
theorem bytesLess_sto : STO Op.bytesLess := by
  rw [show Op.bytesLess = lexB (fun a b : UInt8 => decide (a < b)) from funext fun x => funext fun y => bytesLess_lex x y]
  exact lexB_sto u8B_sto
theorem nameLt_sto : STO nameLt := thenB_sto (lexB_sto natB_sto) bytesLess_sto (fun x y _ h => h)
abbrev Plc := List UInt8 × List UInt8
def placeLt (a b : Plc) : Bool := thenB Prod.fst Prod.snd nameLt nameLt a b
theorem placeLt_sto : STO placeLt := thenB_sto nameLt_sto nameLt_sto (fun x y h1 h2 => Prod.ext h1 h2)
def ordI {α : Type} [DecidableEq α] (lt : α → α → Bool) (a b : α) : Int := if lt a b then -1 else if a = b then 0 else 1
end Go.Abs
