/-
  DERIVED. GIVEN WITH THE SEED: THE CARDS: each row of YtikonppmjkipoaaDoorRows.lean that lists a variable, with what it lists TIED to the program's text (the seventh form; the later family's looks); each row that meets fmt, with fmt's text TOLD by the authors' own Lean function (tested against real Go, not proved from fmt's source: count such statements apart). THE CARD IS WHAT COUNTS. Prove the row's statement (the work); the ties are given (YtikonppmjkipoaaDoorTie.lean); close each card by the builder's one call (the guide's Derived/Test/ToyasCard.lean, 'card_holds'). Laid BY PROGRAM, IN A SANDBOX (cutbox-door.mjs). By AI agents, Wed Nov 11 2026. No macro, syntax, notation, axiom, sorry.
-/
import Derived.Test.YtikonppmjkipoaaDoorRows
import GoSem.ClaimSeven
namespace Go.Proofs.YtikonppmjkipoaaDoor
namespace Rows

/-- THE TIED CARD OF 'hallmootlaw09.StateApart'. -/
def stateApartCard : Claim7 := { stood := { row := stateApartRow, standIns := [], harness := (true, "1e7ec9f42cff46b97b0215a299a12a5297f9f7a476a22781497574397be64bdf"), looks := true }, kinds := [], alts := [], laidByText := true, laidKinds := [.data, .pinned], laidTests := true, laidLooks := .later }
def StateApartCardSaid : Prop := Claim7.holds Tryd.pinned (.plain (OpenSpec.ofChange stateApartSpec)) stateApartCard

/-- THE TIED CARD OF 'hallmootlaw09.StateKeeps'. -/
def stateKeepsCard : Claim7 := { stood := { row := stateKeepsRow, standIns := [], harness := (true, "1e7ec9f42cff46b97b0215a299a12a5297f9f7a476a22781497574397be64bdf"), looks := true }, kinds := [], alts := [], laidByText := true, laidKinds := [.data, .pinned], laidTests := true, laidLooks := .later }
def StateKeepsCardSaid : Prop := Claim7.holds Tryd.pinned (.plain (OpenSpec.ofChange stateKeepsSpec)) stateKeepsCard

/-- THE TIED CARD OF 'hallmootlaw09.StateDoes'. -/
def stateDoesCard : Claim7 := { stood := { row := stateDoesRow, standIns := [], harness := (true, "1e7ec9f42cff46b97b0215a299a12a5297f9f7a476a22781497574397be64bdf"), looks := true }, kinds := [], alts := [], laidByText := true, laidKinds := [.data, .pinned], laidTests := true, laidLooks := .later }
def StateDoesCardSaid : Prop := Claim7.holds Tryd.pinned (.plain (OpenSpec.ofChange stateDoesSpec)) stateDoesCard

/-- THE TIED CARD OF 'hallmootlaw09.StateNil'. -/
def stateNilCard : Claim7 := { stood := { row := stateNilRow, standIns := [], harness := (true, "1e7ec9f42cff46b97b0215a299a12a5297f9f7a476a22781497574397be64bdf"), looks := true }, kinds := [], alts := [], laidByText := true, laidKinds := [.data, .pinned], laidTests := true, laidLooks := .later }
def StateNilCardSaid : Prop := Claim7.holds Tryd.pinned (.plain (OpenSpec.ofChange stateNilSpec)) stateNilCard

/-- THE SECOND FORM's CARD OF 'hallmootlaw09.StateApart'. -/
def stateApartUptoCard : Claim7 := { stood := { row := stateApartUptoRow, standIns := [], harness := (true, "1e7ec9f42cff46b97b0215a299a12a5297f9f7a476a22781497574397be64bdf"), looks := true }, kinds := [], alts := [], laidByText := true, laidKinds := [.data, .pinned], laidTests := true, laidLooks := .later }
def StateApartUptoCardSaid : Prop := Claim7.holds Tryd.pinned (.plain (OpenSpec.upto stateApartSpec)) stateApartUptoCard

/-- THE SECOND FORM's CARD OF 'hallmootlaw09.StateKeeps'. -/
def stateKeepsUptoCard : Claim7 := { stood := { row := stateKeepsUptoRow, standIns := [], harness := (true, "1e7ec9f42cff46b97b0215a299a12a5297f9f7a476a22781497574397be64bdf"), looks := true }, kinds := [], alts := [], laidByText := true, laidKinds := [.data, .pinned], laidTests := true, laidLooks := .later }
def StateKeepsUptoCardSaid : Prop := Claim7.holds Tryd.pinned (.plain (OpenSpec.upto stateKeepsSpec)) stateKeepsUptoCard

/-- THE SECOND FORM's CARD OF 'hallmootlaw09.StateDoes'. -/
def stateDoesUptoCard : Claim7 := { stood := { row := stateDoesUptoRow, standIns := [], harness := (true, "1e7ec9f42cff46b97b0215a299a12a5297f9f7a476a22781497574397be64bdf"), looks := true }, kinds := [], alts := [], laidByText := true, laidKinds := [.data, .pinned], laidTests := true, laidLooks := .later }
def StateDoesUptoCardSaid : Prop := Claim7.holds Tryd.pinned (.plain (OpenSpec.upto stateDoesSpec)) stateDoesUptoCard

/-- THE SECOND FORM's CARD OF 'hallmootlaw09.StateNil'. -/
def stateNilUptoCard : Claim7 := { stood := { row := stateNilUptoRow, standIns := [], harness := (true, "1e7ec9f42cff46b97b0215a299a12a5297f9f7a476a22781497574397be64bdf"), looks := true }, kinds := [], alts := [], laidByText := true, laidKinds := [.data, .pinned], laidTests := true, laidLooks := .later }
def StateNilUptoCardSaid : Prop := Claim7.holds Tryd.pinned (.plain (OpenSpec.upto stateNilSpec)) stateNilUptoCard
end Rows
end Go.Proofs.YtikonppmjkipoaaDoor
