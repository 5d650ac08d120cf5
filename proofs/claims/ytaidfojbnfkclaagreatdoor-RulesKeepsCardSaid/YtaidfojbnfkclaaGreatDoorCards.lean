/-
  DERIVED. GIVEN WITH THE SEED: THE CARDS: each row of YtaidfojbnfkclaaGreatDoorRows.lean that lists a variable, with what it lists TIED to the program's text (the seventh form; the later family's looks); each row that meets fmt, with fmt's text TOLD by the authors' own Lean function (tested against real Go, not proved from fmt's source: count such statements apart). THE CARD IS WHAT COUNTS. Prove the row's statement (the work); the ties are given (YtaidfojbnfkclaaGreatDoorTie.lean); close each card by the builder's one call (the guide's Derived/Test/ToyasCard.lean, 'card_holds'). Laid BY PROGRAM, IN A SANDBOX (cutbox-door.mjs). By AI agents, Wed Nov 11 2026. No macro, syntax, notation, axiom, sorry.
-/
import Derived.Test.YtaidfojbnfkclaaGreatDoorRows
import GoSem.ClaimSeven
namespace Go.Proofs.YtaidfojbnfkclaaGreatDoor
namespace Rows

/-- THE TIED CARD OF 'hallmootlaw21.RulesCommits'. -/
def rulesCommitsCard : Claim7 := { stood := { row := rulesCommitsRow, standIns := [], harness := (true, "9f6e872450b6cd04499a4e60493bae772ac00d0c6db50951f30dcd82781d66b8"), looks := false }, kinds := [], alts := [], laidByText := true, laidKinds := [.data, .pinned], laidTests := true, laidLooks := .later }
def RulesCommitsCardSaid : Prop := Claim7.holds Tryz.pinned (.plain (OpenSpec.ofChange rulesCommitsSpec)) rulesCommitsCard

/-- THE TIED CARD OF 'hallmootlaw21.RulesUp'. -/
def rulesUpCard : Claim7 := { stood := { row := rulesUpRow, standIns := [], harness := (true, "9f6e872450b6cd04499a4e60493bae772ac00d0c6db50951f30dcd82781d66b8"), looks := false }, kinds := [], alts := [], laidByText := true, laidKinds := [.data, .pinned], laidTests := true, laidLooks := .later }
def RulesUpCardSaid : Prop := Claim7.holds Tryz.pinned (.plain (OpenSpec.ofChange rulesUpSpec)) rulesUpCard

/-- THE TIED CARD OF 'hallmootlaw21.RulesVotes'. -/
def rulesVotesCard : Claim7 := { stood := { row := rulesVotesRow, standIns := [], harness := (true, "9f6e872450b6cd04499a4e60493bae772ac00d0c6db50951f30dcd82781d66b8"), looks := false }, kinds := [], alts := [], laidByText := true, laidKinds := [.data, .pinned], laidTests := true, laidLooks := .later }
def RulesVotesCardSaid : Prop := Claim7.holds Tryz.pinned (.plain (OpenSpec.ofChange rulesVotesSpec)) rulesVotesCard

/-- THE TIED CARD OF 'hallmootlaw21.RulesKeeps'. -/
def rulesKeepsCard : Claim7 := { stood := { row := rulesKeepsRow, standIns := [], harness := (true, "9f6e872450b6cd04499a4e60493bae772ac00d0c6db50951f30dcd82781d66b8"), looks := false }, kinds := [], alts := [], laidByText := true, laidKinds := [.data, .pinned], laidTests := true, laidLooks := .later }
def RulesKeepsCardSaid : Prop := Claim7.holds Tryz.pinned (.plain (OpenSpec.ofChange rulesKeepsSpec)) rulesKeepsCard

/-- THE SECOND FORM's CARD OF 'hallmootlaw21.RulesCommits'. -/
def rulesCommitsUptoCard : Claim7 := { stood := { row := rulesCommitsUptoRow, standIns := [], harness := (true, "9f6e872450b6cd04499a4e60493bae772ac00d0c6db50951f30dcd82781d66b8"), looks := false }, kinds := [], alts := [], laidByText := true, laidKinds := [.data, .pinned], laidTests := true, laidLooks := .later }
def RulesCommitsUptoCardSaid : Prop := Claim7.holds Tryz.pinned (.plain (OpenSpec.upto rulesCommitsSpec)) rulesCommitsUptoCard

/-- THE SECOND FORM's CARD OF 'hallmootlaw21.RulesUp'. -/
def rulesUpUptoCard : Claim7 := { stood := { row := rulesUpUptoRow, standIns := [], harness := (true, "9f6e872450b6cd04499a4e60493bae772ac00d0c6db50951f30dcd82781d66b8"), looks := false }, kinds := [], alts := [], laidByText := true, laidKinds := [.data, .pinned], laidTests := true, laidLooks := .later }
def RulesUpUptoCardSaid : Prop := Claim7.holds Tryz.pinned (.plain (OpenSpec.upto rulesUpSpec)) rulesUpUptoCard

/-- THE SECOND FORM's CARD OF 'hallmootlaw21.RulesVotes'. -/
def rulesVotesUptoCard : Claim7 := { stood := { row := rulesVotesUptoRow, standIns := [], harness := (true, "9f6e872450b6cd04499a4e60493bae772ac00d0c6db50951f30dcd82781d66b8"), looks := false }, kinds := [], alts := [], laidByText := true, laidKinds := [.data, .pinned], laidTests := true, laidLooks := .later }
def RulesVotesUptoCardSaid : Prop := Claim7.holds Tryz.pinned (.plain (OpenSpec.upto rulesVotesSpec)) rulesVotesUptoCard

/-- THE SECOND FORM's CARD OF 'hallmootlaw21.RulesKeeps'. -/
def rulesKeepsUptoCard : Claim7 := { stood := { row := rulesKeepsUptoRow, standIns := [], harness := (true, "9f6e872450b6cd04499a4e60493bae772ac00d0c6db50951f30dcd82781d66b8"), looks := false }, kinds := [], alts := [], laidByText := true, laidKinds := [.data, .pinned], laidTests := true, laidLooks := .later }
def RulesKeepsUptoCardSaid : Prop := Claim7.holds Tryz.pinned (.plain (OpenSpec.upto rulesKeepsSpec)) rulesKeepsUptoCard
end Rows
end Go.Proofs.YtaidfojbnfkclaaGreatDoor
