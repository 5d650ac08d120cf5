/-
  DERIVED. GIVEN WITH THE SEED: THE CARDS: each row of YtnfnkmodcjkabaaDoorRows.lean that lists a variable, with what it lists TIED to the program's text (the seventh form; the later family's looks); each row that meets fmt, with fmt's text TOLD by the authors' own Lean function (tested against real Go, not proved from fmt's source: count such statements apart). THE CARD IS WHAT COUNTS. Prove the row's statement (the work); the ties are given (YtnfnkmodcjkabaaDoorTie.lean); close each card by the builder's one call (the guide's Derived/Test/ToyasCard.lean, 'card_holds'). Laid BY PROGRAM, IN A SANDBOX (cutbox-door.mjs). By AI agents, Wed Nov 11 2026. No macro, syntax, notation, axiom, sorry.
-/
import Derived.Test.YtnfnkmodcjkabaaDoorRows
import GoSem.ClaimSeven
namespace Go.Proofs.YtnfnkmodcjkabaaDoor
namespace Rows

/-- THE TIED CARD OF 'hallmootlaw12.BlockForms'. -/
def blockFormsCard : Claim7 := { stood := { row := blockFormsRow, standIns := [], harness := (true, "bb4344f73a3d5e0ddfd12b6e034c60726b5507a89a38f38488d9f9e515a3d7ab"), looks := false }, kinds := [], alts := [], laidByText := true, laidKinds := [.data, .pinned], laidTests := true, laidLooks := .later }
def BlockFormsCardSaid : Prop := Claim7.holds Tryd.pinned (.plain (OpenSpec.ofChange blockFormsSpec)) blockFormsCard

/-- THE TIED CARD OF 'hallmootlaw12.BlockTimeouts'. -/
def blockTimeoutsCard : Claim7 := { stood := { row := blockTimeoutsRow, standIns := [], harness := (true, "bb4344f73a3d5e0ddfd12b6e034c60726b5507a89a38f38488d9f9e515a3d7ab"), looks := false }, kinds := [], alts := [], laidByText := true, laidKinds := [.data, .pinned], laidTests := true, laidLooks := .later }
def BlockTimeoutsCardSaid : Prop := Claim7.holds Tryd.pinned (.plain (OpenSpec.ofChange blockTimeoutsSpec)) blockTimeoutsCard

/-- THE TIED CARD OF 'hallmootlaw12.BlockBack'. -/
def blockBackCard : Claim7 := { stood := { row := blockBackRow, standIns := [], harness := (true, "bb4344f73a3d5e0ddfd12b6e034c60726b5507a89a38f38488d9f9e515a3d7ab"), looks := false }, kinds := [], alts := [], laidByText := true, laidKinds := [.data, .pinned], laidTests := true, laidLooks := .later }
def BlockBackCardSaid : Prop := Claim7.holds Tryd.pinned (.plain (OpenSpec.ofChange blockBackSpec)) blockBackCard

/-- THE TIED CARD OF 'hallmootlaw12.BlockSame'. -/
def blockSameCard : Claim7 := { stood := { row := blockSameRow, standIns := [], harness := (true, "bb4344f73a3d5e0ddfd12b6e034c60726b5507a89a38f38488d9f9e515a3d7ab"), looks := false }, kinds := [], alts := [], laidByText := true, laidKinds := [.data, .pinned], laidTests := true, laidLooks := .later }
def BlockSameCardSaid : Prop := Claim7.holds Tryd.pinned (.plain (OpenSpec.ofChange blockSameSpec)) blockSameCard

/-- THE SECOND FORM's CARD OF 'hallmootlaw12.BlockForms'. -/
def blockFormsUptoCard : Claim7 := { stood := { row := blockFormsUptoRow, standIns := [], harness := (true, "bb4344f73a3d5e0ddfd12b6e034c60726b5507a89a38f38488d9f9e515a3d7ab"), looks := false }, kinds := [], alts := [], laidByText := true, laidKinds := [.data, .pinned], laidTests := true, laidLooks := .later }
def BlockFormsUptoCardSaid : Prop := Claim7.holds Tryd.pinned (.plain (OpenSpec.upto blockFormsSpec)) blockFormsUptoCard

/-- THE SECOND FORM's CARD OF 'hallmootlaw12.BlockTimeouts'. -/
def blockTimeoutsUptoCard : Claim7 := { stood := { row := blockTimeoutsUptoRow, standIns := [], harness := (true, "bb4344f73a3d5e0ddfd12b6e034c60726b5507a89a38f38488d9f9e515a3d7ab"), looks := false }, kinds := [], alts := [], laidByText := true, laidKinds := [.data, .pinned], laidTests := true, laidLooks := .later }
def BlockTimeoutsUptoCardSaid : Prop := Claim7.holds Tryd.pinned (.plain (OpenSpec.upto blockTimeoutsSpec)) blockTimeoutsUptoCard

/-- THE SECOND FORM's CARD OF 'hallmootlaw12.BlockBack'. -/
def blockBackUptoCard : Claim7 := { stood := { row := blockBackUptoRow, standIns := [], harness := (true, "bb4344f73a3d5e0ddfd12b6e034c60726b5507a89a38f38488d9f9e515a3d7ab"), looks := false }, kinds := [], alts := [], laidByText := true, laidKinds := [.data, .pinned], laidTests := true, laidLooks := .later }
def BlockBackUptoCardSaid : Prop := Claim7.holds Tryd.pinned (.plain (OpenSpec.upto blockBackSpec)) blockBackUptoCard

/-- THE SECOND FORM's CARD OF 'hallmootlaw12.BlockSame'. -/
def blockSameUptoCard : Claim7 := { stood := { row := blockSameUptoRow, standIns := [], harness := (true, "bb4344f73a3d5e0ddfd12b6e034c60726b5507a89a38f38488d9f9e515a3d7ab"), looks := false }, kinds := [], alts := [], laidByText := true, laidKinds := [.data, .pinned], laidTests := true, laidLooks := .later }
def BlockSameUptoCardSaid : Prop := Claim7.holds Tryd.pinned (.plain (OpenSpec.upto blockSameSpec)) blockSameUptoCard
end Rows
end Go.Proofs.YtnfnkmodcjkabaaDoor
