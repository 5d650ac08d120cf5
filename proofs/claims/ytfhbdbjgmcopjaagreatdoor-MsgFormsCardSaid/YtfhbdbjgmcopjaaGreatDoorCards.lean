/-
  DERIVED. GIVEN WITH THE SEED: THE CARDS: each row of YtfhbdbjgmcopjaaGreatDoorRows.lean that lists a variable, with what it lists TIED to the program's text (the seventh form; the later family's looks); each row that meets fmt, with fmt's text TOLD by the authors' own Lean function (tested against real Go, not proved from fmt's source: count such statements apart). THE CARD IS WHAT COUNTS. Prove the row's statement (the work); the ties are given (YtfhbdbjgmcopjaaGreatDoorTie.lean); close each card by the builder's one call (the guide's Derived/Test/ToyasCard.lean, 'card_holds'). Laid BY PROGRAM, IN A SANDBOX (cutbox-door.mjs). By AI agents, Wed Nov 11 2026. No macro, syntax, notation, axiom, sorry.
-/
import Derived.Test.YtfhbdbjgmcopjaaGreatDoorRows
import GoSem.ClaimSeven
namespace Go.Proofs.YtfhbdbjgmcopjaaGreatDoor
namespace Rows

/-- THE TIED CARD OF 'hallmootlaw14.MsgForms'. -/
def msgFormsCard : Claim7 := { stood := { row := msgFormsRow, standIns := [], harness := (true, "a3f09d85e70daf4809ec5f9f82fe592455e7aa810ff5d91d60c37b765913b946"), looks := true }, kinds := [], alts := [], laidByText := true, laidKinds := [.data, .pinned], laidTests := true, laidLooks := .later }
def MsgFormsCardSaid : Prop := Claim7.holds Tryz.pinned (.plain (OpenSpec.ofChange msgFormsSpec)) msgFormsCard

/-- THE SECOND FORM's CARD OF 'hallmootlaw14.MsgForms'. -/
def msgFormsUptoCard : Claim7 := { stood := { row := msgFormsUptoRow, standIns := [], harness := (true, "a3f09d85e70daf4809ec5f9f82fe592455e7aa810ff5d91d60c37b765913b946"), looks := true }, kinds := [], alts := [], laidByText := true, laidKinds := [.data, .pinned], laidTests := true, laidLooks := .later }
def MsgFormsUptoCardSaid : Prop := Claim7.holds Tryz.pinned (.plain (OpenSpec.upto msgFormsSpec)) msgFormsUptoCard
end Rows
end Go.Proofs.YtfhbdbjgmcopjaaGreatDoor
