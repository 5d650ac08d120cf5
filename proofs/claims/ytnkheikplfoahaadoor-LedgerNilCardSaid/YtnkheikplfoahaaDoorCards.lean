/-
  DERIVED. GIVEN WITH THE SEED: THE CARDS: each row of YtnkheikplfoahaaDoorRows.lean that lists a variable, with what it lists TIED to the program's text (the seventh form; the later family's looks); each row that meets fmt, with fmt's text TOLD by the authors' own Lean function (tested against real Go, not proved from fmt's source: count such statements apart). THE CARD IS WHAT COUNTS. Prove the row's statement (the work); the ties are given (YtnkheikplfoahaaDoorTie.lean); close each card by the builder's one call (the guide's Derived/Test/ToyasCard.lean, 'card_holds'). Laid BY PROGRAM, IN A SANDBOX (cutbox-door.mjs). By AI agents, Wed Nov 11 2026. No macro, syntax, notation, axiom, sorry.
-/
import Derived.Test.YtnkheikplfoahaaDoorRows
import GoSem.ClaimSeven
namespace Go.Proofs.YtnkheikplfoahaaDoor
namespace Rows

/-- THE TIED CARD OF 'hallmootlaw20.LedgerNil'. -/
def ledgerNilCard : Claim7 := { stood := { row := ledgerNilRow, standIns := [], harness := (true, "4f89de8ec090c43cecce793ef02ec4d89a7a666963177deb9fcaeaf88ba18773"), looks := true }, kinds := [], alts := [], laidByText := true, laidKinds := [.data, .pinned], laidTests := true, laidLooks := .later }
def LedgerNilCardSaid : Prop := Claim7.holds Tryd.pinned (.plain (OpenSpec.ofChange ledgerNilSpec)) ledgerNilCard

/-- THE TIED CARD OF 'hallmootlaw20.LedgerFolds'. -/
def ledgerFoldsCard : Claim7 := { stood := { row := ledgerFoldsRow, standIns := [], harness := (true, "4f89de8ec090c43cecce793ef02ec4d89a7a666963177deb9fcaeaf88ba18773"), looks := true }, kinds := [], alts := [], laidByText := true, laidKinds := [.data, .pinned], laidTests := true, laidLooks := .later }
def LedgerFoldsCardSaid : Prop := Claim7.holds Tryd.pinned (.plain (OpenSpec.ofChange ledgerFoldsSpec)) ledgerFoldsCard

/-- THE SECOND FORM's CARD OF 'hallmootlaw20.LedgerNil'. -/
def ledgerNilUptoCard : Claim7 := { stood := { row := ledgerNilUptoRow, standIns := [], harness := (true, "4f89de8ec090c43cecce793ef02ec4d89a7a666963177deb9fcaeaf88ba18773"), looks := true }, kinds := [], alts := [], laidByText := true, laidKinds := [.data, .pinned], laidTests := true, laidLooks := .later }
def LedgerNilUptoCardSaid : Prop := Claim7.holds Tryd.pinned (.plain (OpenSpec.upto ledgerNilSpec)) ledgerNilUptoCard

/-- THE SECOND FORM's CARD OF 'hallmootlaw20.LedgerFolds'. -/
def ledgerFoldsUptoCard : Claim7 := { stood := { row := ledgerFoldsUptoRow, standIns := [], harness := (true, "4f89de8ec090c43cecce793ef02ec4d89a7a666963177deb9fcaeaf88ba18773"), looks := true }, kinds := [], alts := [], laidByText := true, laidKinds := [.data, .pinned], laidTests := true, laidLooks := .later }
def LedgerFoldsUptoCardSaid : Prop := Claim7.holds Tryd.pinned (.plain (OpenSpec.upto ledgerFoldsSpec)) ledgerFoldsUptoCard
end Rows
end Go.Proofs.YtnkheikplfoahaaDoor
