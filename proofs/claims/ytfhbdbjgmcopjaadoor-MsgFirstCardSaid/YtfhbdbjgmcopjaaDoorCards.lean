/-
  DERIVED. GIVEN WITH THE SEED: THE CARDS: each row of YtfhbdbjgmcopjaaDoorRows.lean that lists a variable, with what it lists TIED to the program's text (the seventh form; the later family's looks); each row that meets fmt, with fmt's text TOLD by the authors' own Lean function (tested against real Go, not proved from fmt's source: count such statements apart). THE CARD IS WHAT COUNTS. Prove the row's statement (the work); the ties are given (YtfhbdbjgmcopjaaDoorTie.lean); close each card by the builder's one call (the guide's Derived/Test/ToyasCard.lean, 'card_holds'). Laid BY PROGRAM, IN A SANDBOX (cutbox-door.mjs). By AI agents, Wed Nov 11 2026. No macro, syntax, notation, axiom, sorry.
-/
import Derived.Test.YtfhbdbjgmcopjaaDoorRows
import GoSem.ClaimSeven
namespace Go.Proofs.YtfhbdbjgmcopjaaDoor
namespace Rows

/-- THE TIED CARD OF 'hallmootlaw14.MsgBack'. -/
def msgBackCard : Claim7 := { stood := { row := msgBackRow, standIns := [], harness := (true, "3ce31d891062ef536c8f8d336ad3530a5981b6443159c42fc7aa2f224eb2a2c2"), looks := true }, kinds := [], alts := [], laidByText := true, laidKinds := [.data, .pinned], laidTests := true, laidLooks := .later }
def MsgBackCardSaid : Prop := Claim7.holds Tryd.pinned (.plain (OpenSpec.ofChange msgBackSpec)) msgBackCard

/-- THE TIED CARD OF 'hallmootlaw14.MsgSame'. -/
def msgSameCard : Claim7 := { stood := { row := msgSameRow, standIns := [], harness := (true, "3ce31d891062ef536c8f8d336ad3530a5981b6443159c42fc7aa2f224eb2a2c2"), looks := true }, kinds := [], alts := [], laidByText := true, laidKinds := [.data, .pinned], laidTests := true, laidLooks := .later }
def MsgSameCardSaid : Prop := Claim7.holds Tryd.pinned (.plain (OpenSpec.ofChange msgSameSpec)) msgSameCard

/-- THE TIED CARD OF 'hallmootlaw14.MsgFirst'. -/
def msgFirstCard : Claim7 := { stood := { row := msgFirstRow, standIns := [], harness := (true, "3ce31d891062ef536c8f8d336ad3530a5981b6443159c42fc7aa2f224eb2a2c2"), looks := true }, kinds := [], alts := [], laidByText := true, laidKinds := [.data, .pinned], laidTests := true, laidLooks := .later }
def MsgFirstCardSaid : Prop := Claim7.holds Tryd.pinned (.plain (OpenSpec.ofChange msgFirstSpec)) msgFirstCard

/-- THE SECOND FORM's CARD OF 'hallmootlaw14.MsgBack'. -/
def msgBackUptoCard : Claim7 := { stood := { row := msgBackUptoRow, standIns := [], harness := (true, "3ce31d891062ef536c8f8d336ad3530a5981b6443159c42fc7aa2f224eb2a2c2"), looks := true }, kinds := [], alts := [], laidByText := true, laidKinds := [.data, .pinned], laidTests := true, laidLooks := .later }
def MsgBackUptoCardSaid : Prop := Claim7.holds Tryd.pinned (.plain (OpenSpec.upto msgBackSpec)) msgBackUptoCard

/-- THE SECOND FORM's CARD OF 'hallmootlaw14.MsgSame'. -/
def msgSameUptoCard : Claim7 := { stood := { row := msgSameUptoRow, standIns := [], harness := (true, "3ce31d891062ef536c8f8d336ad3530a5981b6443159c42fc7aa2f224eb2a2c2"), looks := true }, kinds := [], alts := [], laidByText := true, laidKinds := [.data, .pinned], laidTests := true, laidLooks := .later }
def MsgSameUptoCardSaid : Prop := Claim7.holds Tryd.pinned (.plain (OpenSpec.upto msgSameSpec)) msgSameUptoCard

/-- THE SECOND FORM's CARD OF 'hallmootlaw14.MsgFirst'. -/
def msgFirstUptoCard : Claim7 := { stood := { row := msgFirstUptoRow, standIns := [], harness := (true, "3ce31d891062ef536c8f8d336ad3530a5981b6443159c42fc7aa2f224eb2a2c2"), looks := true }, kinds := [], alts := [], laidByText := true, laidKinds := [.data, .pinned], laidTests := true, laidLooks := .later }
def MsgFirstUptoCardSaid : Prop := Claim7.holds Tryd.pinned (.plain (OpenSpec.upto msgFirstSpec)) msgFirstUptoCard
end Rows
end Go.Proofs.YtfhbdbjgmcopjaaDoor
