/-
  NARROWER THAN 'FOR EVERY INPUT', by the rows' own cells (each row's printed sentence says how): RulesCommits: laid · RulesUp: laid · RulesVotes: laid · RulesKeeps: laid.
  DERIVED. THE GIVEN ROWS OF THIS SEAT. 4 by the template 'for every input the law returns true; each argument reads behind the call as it read before'; 0 by the template 'total and deterministic' (their statements: YtaidfojbnfkclaaGreatDoorTotals.lean).
  GIVEN WITH THE SEED: the statements are not yours to turn. If you find one false, say at which input.
  Laid BY PROGRAM, IN A SANDBOX (cutbox-rows.mjs): the forced cells as the released guide's own fill.sh prints them over the translation d88b0ee39426e716… (all of the seat's roots in one cut). By AI agents, Wed Nov 11 2026. No macro, syntax, notation, axiom, sorry.
-/
import Derived.Test.YtaidfojbnfkclaaGreatDoorChecked
import GoSem.PinnedTables
import GoSem.Claim
import GoSem.ClaimJoined
import GoSem.ClaimMapViews
import Derived.JoinedTies
import Derived.KernelRfl
namespace Go.Proofs.YtaidfojbnfkclaaGreatDoor
/- THE CELL 'sum', in the pinned program and in every row, IS THE sha256 OF THE DUMP (.gsa) THAT YtaidfojbnfkclaaGreatDoorProg.lean LOADS. Nothing in Lean hashes anything: it is a label: what it is worth is what the hold of that sum in a sandbox is worth. -/
noncomputable def Tryz.pinned : Pinned := { name := "ytaidfojbnfkclaagreatdoor", sum := "d88b0ee39426e7166f5c19165c05794961f02d2b5e5979095da9381ea5dca9ef", checked := Tryz.checked }
namespace Rows
def none {H : Type} : Left H := { results := [], args := [] }

/- WHAT THE LISTED PACKAGE-LEVEL VARIABLES READ AS WHEN THE CALL BEGINS. Each datum BY PROGRAM (the guide's laid-datum.mjs) off the statement by which the dump's own 'gosem.cut.vars' lays the variable. In a bare row this is a premise. The card (YtaidfojbnfkclaaGreatDoorCards.lean) ties it to the program's text. -/
def laid_unicode_utf8_acceptRanges {H : Type} : DataW H := .agg [.agg [.lit (.int .u8 128), .lit (.int .u8 191)], .agg [.lit (.int .u8 160), .lit (.int .u8 191)], .agg [.lit (.int .u8 128), .lit (.int .u8 159)], .agg [.lit (.int .u8 144), .lit (.int .u8 191)], .agg [.lit (.int .u8 128), .lit (.int .u8 143)], .agg [.lit (.int .u8 0), .lit (.int .u8 0)], .agg [.lit (.int .u8 0), .lit (.int .u8 0)], .agg [.lit (.int .u8 0), .lit (.int .u8 0)], .agg [.lit (.int .u8 0), .lit (.int .u8 0)], .agg [.lit (.int .u8 0), .lit (.int .u8 0)], .agg [.lit (.int .u8 0), .lit (.int .u8 0)], .agg [.lit (.int .u8 0), .lit (.int .u8 0)], .agg [.lit (.int .u8 0), .lit (.int .u8 0)], .agg [.lit (.int .u8 0), .lit (.int .u8 0)], .agg [.lit (.int .u8 0), .lit (.int .u8 0)], .agg [.lit (.int .u8 0), .lit (.int .u8 0)]]
/-- One of Go's own tables, pinned by name: the form's constant. -/
def laid_unicode_utf8_first : DataW Unit := Go.Pinned.utf8First

/-- 'hallmootlaw21.RulesCommits': WHATEVER THE INPUT: true; the input reads as it did. -/
def rulesCommitsSpec : ChangeSpec := { name := "rulesCommits", fn := fun _ => fun
  | [d1, d2] => { results := [.lit (.bool true)], args := [d1, d2] }
  | _ => none }
def rulesCommitsRow : OpenClaim := { program := "ytaidfojbnfkclaagreatdoor", sum := "d88b0ee39426e7166f5c19165c05794961f02d2b5e5979095da9381ea5dca9ef", func := "hallmoot/hallmootlaw21.RulesCommits", spec := "rulesCommits", inPlace := ["slices.overlaps[hallmoot/api.Cert]"], unfollowed := true, recurses := true, named := ["unicode/utf8.first", "unicode/utf8.acceptRanges"], apart := false, laid := [("unicode/utf8.acceptRanges", laid_unicode_utf8_acceptRanges), ("unicode/utf8.first", laid_unicode_utf8_first)] }
def RulesCommitsSaid : Prop := rulesCommitsRow.holds Tryz.pinned (OpenSpec.ofChange rulesCommitsSpec)

/-- ITS FALSE NEIGHBOUR: 'it returns false'. Refute it at one input. -/
def rulesCommitsWrong : ChangeSpec := { name := "rulesCommits", fn := fun _ => fun
  | [d1, d2] => { results := [.lit (.bool false)], args := [d1, d2] }
  | _ => none }
def RulesCommitsWrongFalsely : Prop := rulesCommitsRow.holds Tryz.pinned (OpenSpec.ofChange rulesCommitsWrong)

/-- 'hallmootlaw21.RulesUp': WHATEVER THE INPUT: true; the input reads as it did. -/
def rulesUpSpec : ChangeSpec := { name := "rulesUp", fn := fun _ => fun
  | [d1, d2] => { results := [.lit (.bool true)], args := [d1, d2] }
  | _ => none }
def rulesUpRow : OpenClaim := { program := "ytaidfojbnfkclaagreatdoor", sum := "d88b0ee39426e7166f5c19165c05794961f02d2b5e5979095da9381ea5dca9ef", func := "hallmoot/hallmootlaw21.RulesUp", spec := "rulesUp", inPlace := ["slices.overlaps[hallmoot/api.Cert]"], unfollowed := true, recurses := true, named := ["unicode/utf8.first", "unicode/utf8.acceptRanges"], apart := false, laid := [("unicode/utf8.acceptRanges", laid_unicode_utf8_acceptRanges), ("unicode/utf8.first", laid_unicode_utf8_first)] }
def RulesUpSaid : Prop := rulesUpRow.holds Tryz.pinned (OpenSpec.ofChange rulesUpSpec)

/-- ITS FALSE NEIGHBOUR: 'it returns false'. Refute it at one input. -/
def rulesUpWrong : ChangeSpec := { name := "rulesUp", fn := fun _ => fun
  | [d1, d2] => { results := [.lit (.bool false)], args := [d1, d2] }
  | _ => none }
def RulesUpWrongFalsely : Prop := rulesUpRow.holds Tryz.pinned (OpenSpec.ofChange rulesUpWrong)

/-- 'hallmootlaw21.RulesVotes': WHATEVER THE INPUT: true; the input reads as it did. -/
def rulesVotesSpec : ChangeSpec := { name := "rulesVotes", fn := fun _ => fun
  | [d1, d2, d3, d4] => { results := [.lit (.bool true)], args := [d1, d2, d3, d4] }
  | _ => none }
def rulesVotesRow : OpenClaim := { program := "ytaidfojbnfkclaagreatdoor", sum := "d88b0ee39426e7166f5c19165c05794961f02d2b5e5979095da9381ea5dca9ef", func := "hallmoot/hallmootlaw21.RulesVotes", spec := "rulesVotes", inPlace := ["slices.overlaps[hallmoot/api.Cert]"], unfollowed := true, recurses := true, named := ["unicode/utf8.first", "unicode/utf8.acceptRanges"], apart := false, laid := [("unicode/utf8.acceptRanges", laid_unicode_utf8_acceptRanges), ("unicode/utf8.first", laid_unicode_utf8_first)] }
def RulesVotesSaid : Prop := rulesVotesRow.holds Tryz.pinned (OpenSpec.ofChange rulesVotesSpec)

/-- ITS FALSE NEIGHBOUR: 'it returns false'. Refute it at one input. -/
def rulesVotesWrong : ChangeSpec := { name := "rulesVotes", fn := fun _ => fun
  | [d1, d2, d3, d4] => { results := [.lit (.bool false)], args := [d1, d2, d3, d4] }
  | _ => none }
def RulesVotesWrongFalsely : Prop := rulesVotesRow.holds Tryz.pinned (OpenSpec.ofChange rulesVotesWrong)

/-- 'hallmootlaw21.RulesKeeps': WHATEVER THE INPUT: true; the input reads as it did. -/
def rulesKeepsSpec : ChangeSpec := { name := "rulesKeeps", fn := fun _ => fun
  | [d1, d2, d3] => { results := [.lit (.bool true)], args := [d1, d2, d3] }
  | _ => none }
def rulesKeepsRow : OpenClaim := { program := "ytaidfojbnfkclaagreatdoor", sum := "d88b0ee39426e7166f5c19165c05794961f02d2b5e5979095da9381ea5dca9ef", func := "hallmoot/hallmootlaw21.RulesKeeps", spec := "rulesKeeps", inPlace := ["slices.overlaps[hallmoot/api.Cert]"], unfollowed := true, recurses := true, named := ["unicode/utf8.first", "unicode/utf8.acceptRanges"], apart := false, laid := [("unicode/utf8.acceptRanges", laid_unicode_utf8_acceptRanges), ("unicode/utf8.first", laid_unicode_utf8_first)] }
def RulesKeepsSaid : Prop := rulesKeepsRow.holds Tryz.pinned (OpenSpec.ofChange rulesKeepsSpec)

/-- ITS FALSE NEIGHBOUR: 'it returns false'. Refute it at one input. -/
def rulesKeepsWrong : ChangeSpec := { name := "rulesKeeps", fn := fun _ => fun
  | [d1, d2, d3] => { results := [.lit (.bool false)], args := [d1, d2, d3] }
  | _ => none }
def RulesKeepsWrongFalsely : Prop := rulesKeepsRow.holds Tryz.pinned (OpenSpec.ofChange rulesKeepsWrong)

/- THE SECOND FORM. 'bulk': how many values and letters a reading holds, each counted each time it is reached (what is shared counts as often as it is met; a slice's spare places count too). A statement '..UptoSaid' is the law's where the arguments, and the package variables that the reading takes, are together of bulk at most 1048576: NARROWER than '..Said'. Prove '..Said' where nothing that the law and all that it calls make is longer than what came in: it says more and counts as full. Else prove '..UptoSaid'. A law counts once. -/
mutual
def uptoBulk {H : Type} : DataW H → Nat
  | .lit (.string bytes) => bytes.length + 1
  | .lit _ => 1
  | .nil => 1
  | .ptr d => uptoBulk d + 1
  | .slice elems spare => uptoBulkAll elems + uptoBulkAll spare + 1
  | .agg parts => uptoBulkAll parts + 1
  | .iface _ d => uptoBulk d + 1
  | .map entries => uptoBulkEntries entries + 1
  | .held _ => 1
def uptoBulkAll {H : Type} : List (DataW H) → Nat
  | [] => 0
  | d :: r => uptoBulk d + uptoBulkAll r
def uptoBulkEntries {H : Type} : List (Lit × DataW H) → Nat
  | [] => 0
  | x :: r => uptoBulkEntry x + uptoBulkEntries r
def uptoBulkEntry {H : Type} : Lit × DataW H → Nat
  | (.string bytes, d) => bytes.length + uptoBulk d + 1
  | (_, d) => uptoBulk d + 1
 end
def uptoSmall : (H : Type) → List (DataW H) → Bool := fun _ ds => decide (uptoBulkAll ds ≤ 1048576)
def OpenSpec.upto (s : _root_.Go.ChangeSpec) : _root_.Go.OpenSpec := { _root_.Go.OpenSpec.ofChange s with cond := some uptoSmall }

/-- 'hallmootlaw21.RulesCommits', WHERE WHAT IT READS IS OF BULK AT MOST 1048576: true; the input reads as it did. -/
def rulesCommitsUptoRow : OpenClaim := { program := "ytaidfojbnfkclaagreatdoor", sum := "d88b0ee39426e7166f5c19165c05794961f02d2b5e5979095da9381ea5dca9ef", func := "hallmoot/hallmootlaw21.RulesCommits", spec := "rulesCommits", inPlace := ["slices.overlaps[hallmoot/api.Cert]"], unfollowed := true, recurses := true, named := ["unicode/utf8.first", "unicode/utf8.acceptRanges"], apart := false, laid := [("unicode/utf8.acceptRanges", laid_unicode_utf8_acceptRanges), ("unicode/utf8.first", laid_unicode_utf8_first)], narrowed := true }
def RulesCommitsUptoSaid : Prop := rulesCommitsUptoRow.holds Tryz.pinned (OpenSpec.upto rulesCommitsSpec)

/-- 'hallmootlaw21.RulesUp', WHERE WHAT IT READS IS OF BULK AT MOST 1048576: true; the input reads as it did. -/
def rulesUpUptoRow : OpenClaim := { program := "ytaidfojbnfkclaagreatdoor", sum := "d88b0ee39426e7166f5c19165c05794961f02d2b5e5979095da9381ea5dca9ef", func := "hallmoot/hallmootlaw21.RulesUp", spec := "rulesUp", inPlace := ["slices.overlaps[hallmoot/api.Cert]"], unfollowed := true, recurses := true, named := ["unicode/utf8.first", "unicode/utf8.acceptRanges"], apart := false, laid := [("unicode/utf8.acceptRanges", laid_unicode_utf8_acceptRanges), ("unicode/utf8.first", laid_unicode_utf8_first)], narrowed := true }
def RulesUpUptoSaid : Prop := rulesUpUptoRow.holds Tryz.pinned (OpenSpec.upto rulesUpSpec)

/-- 'hallmootlaw21.RulesVotes', WHERE WHAT IT READS IS OF BULK AT MOST 1048576: true; the input reads as it did. -/
def rulesVotesUptoRow : OpenClaim := { program := "ytaidfojbnfkclaagreatdoor", sum := "d88b0ee39426e7166f5c19165c05794961f02d2b5e5979095da9381ea5dca9ef", func := "hallmoot/hallmootlaw21.RulesVotes", spec := "rulesVotes", inPlace := ["slices.overlaps[hallmoot/api.Cert]"], unfollowed := true, recurses := true, named := ["unicode/utf8.first", "unicode/utf8.acceptRanges"], apart := false, laid := [("unicode/utf8.acceptRanges", laid_unicode_utf8_acceptRanges), ("unicode/utf8.first", laid_unicode_utf8_first)], narrowed := true }
def RulesVotesUptoSaid : Prop := rulesVotesUptoRow.holds Tryz.pinned (OpenSpec.upto rulesVotesSpec)

/-- 'hallmootlaw21.RulesKeeps', WHERE WHAT IT READS IS OF BULK AT MOST 1048576: true; the input reads as it did. -/
def rulesKeepsUptoRow : OpenClaim := { program := "ytaidfojbnfkclaagreatdoor", sum := "d88b0ee39426e7166f5c19165c05794961f02d2b5e5979095da9381ea5dca9ef", func := "hallmoot/hallmootlaw21.RulesKeeps", spec := "rulesKeeps", inPlace := ["slices.overlaps[hallmoot/api.Cert]"], unfollowed := true, recurses := true, named := ["unicode/utf8.first", "unicode/utf8.acceptRanges"], apart := false, laid := [("unicode/utf8.acceptRanges", laid_unicode_utf8_acceptRanges), ("unicode/utf8.first", laid_unicode_utf8_first)], narrowed := true }
def RulesKeepsUptoSaid : Prop := rulesKeepsUptoRow.holds Tryz.pinned (OpenSpec.upto rulesKeepsSpec)

end Rows
end Go.Proofs.YtaidfojbnfkclaaGreatDoor
