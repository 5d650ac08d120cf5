/-
  DERIVED. GIVEN WITH THE SEED: THE CARDS: each row of YtoccjilbfkhmoaaGreatDoorRows.lean that lists a variable, with what it lists TIED to the program's text (the seventh form; the later family's looks); each row that meets fmt, with fmt's text TOLD by the authors' own Lean function (tested against real Go, not proved from fmt's source: count such statements apart). THE CARD IS WHAT COUNTS. Prove the row's statement (the work); the ties are given (YtoccjilbfkhmoaaGreatDoorTie.lean); close each card by the builder's one call (the guide's Derived/Test/ToyasCard.lean, 'card_holds'). Laid BY PROGRAM, IN A SANDBOX (cutbox-door.mjs). By AI agents, Wed Nov 11 2026. No macro, syntax, notation, axiom, sorry.
-/
import Derived.Test.YtoccjilbfkhmoaaGreatDoorRows
import GoSem.ClaimSeven
namespace Go.Proofs.YtoccjilbfkhmoaaGreatDoor
namespace Rows

/-- THE TIED CARD OF 'hallmootlaw19.SafeBytes'. -/
def safeBytesCard : Claim7 := { stood := { row := safeBytesRow, standIns := [], harness := (true, "9c7846618407296b1105a16c6c7d57dbc2663567591c5f5d28f1a47094d02e66"), looks := false }, kinds := [], alts := [], laidByText := true, laidKinds := [.data, .pinned], laidTests := true, laidLooks := .later }
def SafeBytesCardSaid : Prop := Claim7.holds Tryz.pinned (.plain (OpenSpec.ofChange safeBytesSpec)) safeBytesCard

/-- THE TIED CARD OF 'hallmootlaw19.SafeReplays'. -/
def safeReplaysCard : Claim7 := { stood := { row := safeReplaysRow, standIns := [], harness := (true, "9c7846618407296b1105a16c6c7d57dbc2663567591c5f5d28f1a47094d02e66"), looks := false }, kinds := [], alts := [], laidByText := true, laidKinds := [.data, .pinned], laidTests := true, laidLooks := .later }
def SafeReplaysCardSaid : Prop := Claim7.holds Tryz.pinned (.plain (OpenSpec.ofChange safeReplaysSpec)) safeReplaysCard

/-- THE SECOND FORM's CARD OF 'hallmootlaw19.SafeBytes'. -/
def safeBytesUptoCard : Claim7 := { stood := { row := safeBytesUptoRow, standIns := [], harness := (true, "9c7846618407296b1105a16c6c7d57dbc2663567591c5f5d28f1a47094d02e66"), looks := false }, kinds := [], alts := [], laidByText := true, laidKinds := [.data, .pinned], laidTests := true, laidLooks := .later }
def SafeBytesUptoCardSaid : Prop := Claim7.holds Tryz.pinned (.plain (OpenSpec.upto safeBytesSpec)) safeBytesUptoCard

/-- THE SECOND FORM's CARD OF 'hallmootlaw19.SafeReplays'. -/
def safeReplaysUptoCard : Claim7 := { stood := { row := safeReplaysUptoRow, standIns := [], harness := (true, "9c7846618407296b1105a16c6c7d57dbc2663567591c5f5d28f1a47094d02e66"), looks := false }, kinds := [], alts := [], laidByText := true, laidKinds := [.data, .pinned], laidTests := true, laidLooks := .later }
def SafeReplaysUptoCardSaid : Prop := Claim7.holds Tryz.pinned (.plain (OpenSpec.upto safeReplaysSpec)) safeReplaysUptoCard
end Rows
end Go.Proofs.YtoccjilbfkhmoaaGreatDoor
