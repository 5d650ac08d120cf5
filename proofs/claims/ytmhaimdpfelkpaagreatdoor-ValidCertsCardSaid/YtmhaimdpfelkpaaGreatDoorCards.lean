/-
  DERIVED. GIVEN WITH THE SEED: THE CARDS: each row of YtmhaimdpfelkpaaGreatDoorRows.lean that lists a variable, with what it lists TIED to the program's text (the seventh form; the later family's looks); each row that meets fmt, with fmt's text TOLD by the authors' own Lean function (tested against real Go, not proved from fmt's source: count such statements apart). THE CARD IS WHAT COUNTS. Prove the row's statement (the work); the ties are given (YtmhaimdpfelkpaaGreatDoorTie.lean); close each card by the builder's one call (the guide's Derived/Test/ToyasCard.lean, 'card_holds'). Laid BY PROGRAM, IN A SANDBOX (cutbox-door.mjs). By AI agents, Wed Nov 11 2026. No macro, syntax, notation, axiom, sorry.
-/
import Derived.Test.YtmhaimdpfelkpaaGreatDoorRows
import GoSem.ClaimSeven
namespace Go.Proofs.YtmhaimdpfelkpaaGreatDoor
namespace Rows

/-- THE TIED CARD OF 'hallmootlaw13.ValidBlocks'. -/
def validBlocksCard : Claim7 := { stood := { row := validBlocksRow, standIns := [], harness := (true, "4c61ac0757619252e7ab2dd35eab6de3b0e898c215c4e6a708a4233f6e1dacc5"), looks := false }, kinds := [], alts := [], laidByText := true, laidKinds := [.data, .data, .pinned], laidTests := true, laidLooks := .later }
def ValidBlocksCardSaid : Prop := Claim7.holds Tryz.pinned (.plain (OpenSpec.ofChange validBlocksSpec)) validBlocksCard

/-- THE TIED CARD OF 'hallmootlaw13.ValidMeets'. -/
def validMeetsCard : Claim7 := { stood := { row := validMeetsRow, standIns := [], harness := (true, "4c61ac0757619252e7ab2dd35eab6de3b0e898c215c4e6a708a4233f6e1dacc5"), looks := false }, kinds := [], alts := [], laidByText := true, laidKinds := [.data, .data, .pinned], laidTests := true, laidLooks := .later }
def ValidMeetsCardSaid : Prop := Claim7.holds Tryz.pinned (.plain (OpenSpec.ofChange validMeetsSpec)) validMeetsCard

/-- THE TIED CARD OF 'hallmootlaw13.ValidNil'. -/
def validNilCard : Claim7 := { stood := { row := validNilRow, standIns := [], harness := (true, "4c61ac0757619252e7ab2dd35eab6de3b0e898c215c4e6a708a4233f6e1dacc5"), looks := false }, kinds := [], alts := [], laidByText := true, laidKinds := [.data, .data, .pinned], laidTests := true, laidLooks := .later }
def ValidNilCardSaid : Prop := Claim7.holds Tryz.pinned (.plain (OpenSpec.ofChange validNilSpec)) validNilCard

/-- THE TIED CARD OF 'hallmootlaw13.ValidCerts'. -/
def validCertsCard : Claim7 := { stood := { row := validCertsRow, standIns := [], harness := (true, "4c61ac0757619252e7ab2dd35eab6de3b0e898c215c4e6a708a4233f6e1dacc5"), looks := false }, kinds := [], alts := [], laidByText := true, laidKinds := [.data, .data, .pinned], laidTests := true, laidLooks := .later }
def ValidCertsCardSaid : Prop := Claim7.holds Tryz.pinned (.plain (OpenSpec.ofChange validCertsSpec)) validCertsCard

/-- THE TIED CARD OF 'hallmootlaw13.ValidMore'. -/
def validMoreCard : Claim7 := { stood := { row := validMoreRow, standIns := [], harness := (true, "4c61ac0757619252e7ab2dd35eab6de3b0e898c215c4e6a708a4233f6e1dacc5"), looks := false }, kinds := [], alts := [], laidByText := true, laidKinds := [.data, .data, .pinned], laidTests := true, laidLooks := .later }
def ValidMoreCardSaid : Prop := Claim7.holds Tryz.pinned (.plain (OpenSpec.ofChange validMoreSpec)) validMoreCard

/-- THE SECOND FORM's CARD OF 'hallmootlaw13.ValidBlocks'. -/
def validBlocksUptoCard : Claim7 := { stood := { row := validBlocksUptoRow, standIns := [], harness := (true, "4c61ac0757619252e7ab2dd35eab6de3b0e898c215c4e6a708a4233f6e1dacc5"), looks := false }, kinds := [], alts := [], laidByText := true, laidKinds := [.data, .data, .pinned], laidTests := true, laidLooks := .later }
def ValidBlocksUptoCardSaid : Prop := Claim7.holds Tryz.pinned (.plain (OpenSpec.upto validBlocksSpec)) validBlocksUptoCard

/-- THE SECOND FORM's CARD OF 'hallmootlaw13.ValidMeets'. -/
def validMeetsUptoCard : Claim7 := { stood := { row := validMeetsUptoRow, standIns := [], harness := (true, "4c61ac0757619252e7ab2dd35eab6de3b0e898c215c4e6a708a4233f6e1dacc5"), looks := false }, kinds := [], alts := [], laidByText := true, laidKinds := [.data, .data, .pinned], laidTests := true, laidLooks := .later }
def ValidMeetsUptoCardSaid : Prop := Claim7.holds Tryz.pinned (.plain (OpenSpec.upto validMeetsSpec)) validMeetsUptoCard

/-- THE SECOND FORM's CARD OF 'hallmootlaw13.ValidNil'. -/
def validNilUptoCard : Claim7 := { stood := { row := validNilUptoRow, standIns := [], harness := (true, "4c61ac0757619252e7ab2dd35eab6de3b0e898c215c4e6a708a4233f6e1dacc5"), looks := false }, kinds := [], alts := [], laidByText := true, laidKinds := [.data, .data, .pinned], laidTests := true, laidLooks := .later }
def ValidNilUptoCardSaid : Prop := Claim7.holds Tryz.pinned (.plain (OpenSpec.upto validNilSpec)) validNilUptoCard

/-- THE SECOND FORM's CARD OF 'hallmootlaw13.ValidCerts'. -/
def validCertsUptoCard : Claim7 := { stood := { row := validCertsUptoRow, standIns := [], harness := (true, "4c61ac0757619252e7ab2dd35eab6de3b0e898c215c4e6a708a4233f6e1dacc5"), looks := false }, kinds := [], alts := [], laidByText := true, laidKinds := [.data, .data, .pinned], laidTests := true, laidLooks := .later }
def ValidCertsUptoCardSaid : Prop := Claim7.holds Tryz.pinned (.plain (OpenSpec.upto validCertsSpec)) validCertsUptoCard

/-- THE SECOND FORM's CARD OF 'hallmootlaw13.ValidMore'. -/
def validMoreUptoCard : Claim7 := { stood := { row := validMoreUptoRow, standIns := [], harness := (true, "4c61ac0757619252e7ab2dd35eab6de3b0e898c215c4e6a708a4233f6e1dacc5"), looks := false }, kinds := [], alts := [], laidByText := true, laidKinds := [.data, .data, .pinned], laidTests := true, laidLooks := .later }
def ValidMoreUptoCardSaid : Prop := Claim7.holds Tryz.pinned (.plain (OpenSpec.upto validMoreSpec)) validMoreUptoCard
end Rows
end Go.Proofs.YtmhaimdpfelkpaaGreatDoor
