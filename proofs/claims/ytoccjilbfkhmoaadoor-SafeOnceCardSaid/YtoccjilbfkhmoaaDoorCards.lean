/-
  DERIVED. GIVEN WITH THE SEED: THE CARDS: each row of YtoccjilbfkhmoaaDoorRows.lean that lists a variable, with what it lists TIED to the program's text (the seventh form; the later family's looks); each row that meets fmt, with fmt's text TOLD by the authors' own Lean function (tested against real Go, not proved from fmt's source: count such statements apart). THE CARD IS WHAT COUNTS. Prove the row's statement (the work); the ties are given (YtoccjilbfkhmoaaDoorTie.lean); close each card by the builder's one call (the guide's Derived/Test/ToyasCard.lean, 'card_holds'). Laid BY PROGRAM, IN A SANDBOX (cutbox-door.mjs). By AI agents, Wed Nov 11 2026. No macro, syntax, notation, axiom, sorry.
-/
import Derived.Test.YtoccjilbfkhmoaaDoorRows
import GoSem.ClaimSeven
namespace Go.Proofs.YtoccjilbfkhmoaaDoor
namespace Rows

/-- THE TIED CARD OF 'hallmootlaw19.SafeOnce'. -/
def safeOnceCard : Claim7 := { stood := { row := safeOnceRow, standIns := [], harness := (true, "6fe58fbbf9f6ca7f88a94ccf2de9f240614b588861b0da457136ecb16b2d77ed"), looks := false }, kinds := [], alts := [], laidByText := true, laidKinds := [.data, .pinned], laidTests := true, laidLooks := .later }
def SafeOnceCardSaid : Prop := Claim7.holds Tryd.pinned (.plain (OpenSpec.ofChange safeOnceSpec)) safeOnceCard

/-- THE SECOND FORM's CARD OF 'hallmootlaw19.SafeOnce'. -/
def safeOnceUptoCard : Claim7 := { stood := { row := safeOnceUptoRow, standIns := [], harness := (true, "6fe58fbbf9f6ca7f88a94ccf2de9f240614b588861b0da457136ecb16b2d77ed"), looks := false }, kinds := [], alts := [], laidByText := true, laidKinds := [.data, .pinned], laidTests := true, laidLooks := .later }
def SafeOnceUptoCardSaid : Prop := Claim7.holds Tryd.pinned (.plain (OpenSpec.upto safeOnceSpec)) safeOnceUptoCard
end Rows
end Go.Proofs.YtoccjilbfkhmoaaDoor
