/-
  No cell of these rows narrows 'for every input' (looked for: loops, veiled, ifaces, maps, wideKeys, modest, calm, conditions, laid).
  DERIVED. THE GIVEN ROWS OF THIS SEAT. 4 by the template 'for every input the law returns true; each argument reads behind the call as it read before'; 0 by the template 'total and deterministic' (their statements: YtdioggohbfgnfaaTotals.lean).
  GIVEN WITH THE SEED: the statements are not yours to turn. If you find one false, say at which input.
  Laid BY PROGRAM, IN A SANDBOX (cutbox-rows.mjs): the forced cells as the released guide's own fill.sh prints them over the translation 92c03a264d4ea24b… (all of the seat's roots in one cut). By AI agents, Wed Nov 11 2026. No macro, syntax, notation, axiom, sorry.
-/
import Derived.Test.YtdioggohbfgnfaaChecked
import GoSem.Claim
import GoSem.ClaimJoined
import GoSem.ClaimMapViews
import Derived.JoinedTies
import Derived.KernelRfl
namespace Go.Proofs.Ytdioggohbfgnfaa
/- THE CELL 'sum', in the pinned program and in every row, IS THE sha256 OF THE DUMP (.gsa) THAT YtdioggohbfgnfaaProg.lean LOADS. Nothing in Lean hashes anything: it is a label: what it is worth is what the hold of that sum in a sandbox is worth. -/
noncomputable def Try.pinned : Pinned := { name := "ytdioggohbfgnfaa", sum := "92c03a264d4ea24b25f06c058aa3b8792b7dd664c46e107841929055904579bf", checked := Try.checked }
namespace Rows
def none {H : Type} : Left H := { results := [], args := [] }

/-- 'hallmootlaw22.TallyEnough': WHATEVER THE INPUT: true; the input reads as it did. -/
def tallyEnoughSpec : ChangeSpec := { name := "tallyEnough", fn := fun _ => fun
  | [d1, d2, d3] => { results := [.lit (.bool true)], args := [d1, d2, d3] }
  | _ => none }
def tallyEnoughRow : OpenClaim := { program := "ytdioggohbfgnfaa", sum := "92c03a264d4ea24b25f06c058aa3b8792b7dd664c46e107841929055904579bf", func := "hallmoot/hallmootlaw22.TallyEnough", spec := "tallyEnough", plainKeys := false, apart := false }
def TallyEnoughSaid : Prop := tallyEnoughRow.holds Try.pinned (OpenSpec.ofChange tallyEnoughSpec)

/-- ITS FALSE NEIGHBOUR: 'it returns false'. Refute it at one input. -/
def tallyEnoughWrong : ChangeSpec := { name := "tallyEnough", fn := fun _ => fun
  | [d1, d2, d3] => { results := [.lit (.bool false)], args := [d1, d2, d3] }
  | _ => none }
def TallyEnoughWrongFalsely : Prop := tallyEnoughRow.holds Try.pinned (OpenSpec.ofChange tallyEnoughWrong)

/-- 'hallmootlaw22.TallyForgets': WHATEVER THE INPUT: true; the input reads as it did. -/
def tallyForgetsSpec : ChangeSpec := { name := "tallyForgets", fn := fun _ => fun
  | [d1, d2, d3] => { results := [.lit (.bool true)], args := [d1, d2, d3] }
  | _ => none }
def tallyForgetsRow : OpenClaim := { program := "ytdioggohbfgnfaa", sum := "92c03a264d4ea24b25f06c058aa3b8792b7dd664c46e107841929055904579bf", func := "hallmoot/hallmootlaw22.TallyForgets", spec := "tallyForgets", unfollowed := true, recurses := true, plainKeys := false, apart := false }
def TallyForgetsSaid : Prop := tallyForgetsRow.holds Try.pinned (OpenSpec.ofChange tallyForgetsSpec)

/-- ITS FALSE NEIGHBOUR: 'it returns false'. Refute it at one input. -/
def tallyForgetsWrong : ChangeSpec := { name := "tallyForgets", fn := fun _ => fun
  | [d1, d2, d3] => { results := [.lit (.bool false)], args := [d1, d2, d3] }
  | _ => none }
def TallyForgetsWrongFalsely : Prop := tallyForgetsRow.holds Try.pinned (OpenSpec.ofChange tallyForgetsWrong)

/-- 'hallmootlaw22.TallyPlays': WHATEVER THE INPUT: true; the input reads as it did. -/
def tallyPlaysSpec : ChangeSpec := { name := "tallyPlays", fn := fun _ => fun
  | [d1, d2] => { results := [.lit (.bool true)], args := [d1, d2] }
  | _ => none }
def tallyPlaysRow : OpenClaim := { program := "ytdioggohbfgnfaa", sum := "92c03a264d4ea24b25f06c058aa3b8792b7dd664c46e107841929055904579bf", func := "hallmoot/hallmootlaw22.TallyPlays", spec := "tallyPlays", unfollowed := true, recurses := true, plainKeys := false, apart := false }
def TallyPlaysSaid : Prop := tallyPlaysRow.holds Try.pinned (OpenSpec.ofChange tallyPlaysSpec)

/-- ITS FALSE NEIGHBOUR: 'it returns false'. Refute it at one input. -/
def tallyPlaysWrong : ChangeSpec := { name := "tallyPlays", fn := fun _ => fun
  | [d1, d2] => { results := [.lit (.bool false)], args := [d1, d2] }
  | _ => none }
def TallyPlaysWrongFalsely : Prop := tallyPlaysRow.holds Try.pinned (OpenSpec.ofChange tallyPlaysWrong)

/-- 'hallmootlaw22.TallyNil': WHATEVER THE INPUT: true; the input reads as it did. -/
def tallyNilSpec : ChangeSpec := { name := "tallyNil", fn := fun _ => fun
  | [d1, d2, d3, d4] => { results := [.lit (.bool true)], args := [d1, d2, d3, d4] }
  | _ => none }
def tallyNilRow : OpenClaim := { program := "ytdioggohbfgnfaa", sum := "92c03a264d4ea24b25f06c058aa3b8792b7dd664c46e107841929055904579bf", func := "hallmoot/hallmootlaw22.TallyNil", spec := "tallyNil", unfollowed := true, recurses := true, plainKeys := false, apart := false }
def TallyNilSaid : Prop := tallyNilRow.holds Try.pinned (OpenSpec.ofChange tallyNilSpec)

/-- ITS FALSE NEIGHBOUR: 'it returns false'. Refute it at one input. -/
def tallyNilWrong : ChangeSpec := { name := "tallyNil", fn := fun _ => fun
  | [d1, d2, d3, d4] => { results := [.lit (.bool false)], args := [d1, d2, d3, d4] }
  | _ => none }
def TallyNilWrongFalsely : Prop := tallyNilRow.holds Try.pinned (OpenSpec.ofChange tallyNilWrong)

/- THE SECOND FORM. 'bulk': how many values and letters a reading holds, each counted each time it is reached (what is shared counts as often as it is met; a slice's spare places count too). A statement '..UptoSaid' is the law's where the arguments, and the package variables that the reading takes, are together of bulk at most 1048576: NARROWER than '..Said'. Prove '..Said' where nothing that the law and all that it calls make is longer than what came in: it says more and counts as full. Else prove '..UptoSaid'. A law counts once. -/
mutual
def uptoBulk {H : Type} : DataW H → Nat
  | .lit (.string bytes) => bytes.length + 1
  | .lit _ => 1
  | .nil => 1
  | .ptr d => uptoBulk d + 1
  | .slice elems spare => uptoBulkAll elems + uptoBulkAll spare + 1
  | .agg parts => uptoBulkAll parts + 1
  | .iface _ d => uptoBulk d + 1
  | .map entries => uptoBulkEntries entries + 1
  | .held _ => 1
def uptoBulkAll {H : Type} : List (DataW H) → Nat
  | [] => 0
  | d :: r => uptoBulk d + uptoBulkAll r
def uptoBulkEntries {H : Type} : List (Lit × DataW H) → Nat
  | [] => 0
  | x :: r => uptoBulkEntry x + uptoBulkEntries r
def uptoBulkEntry {H : Type} : Lit × DataW H → Nat
  | (.string bytes, d) => bytes.length + uptoBulk d + 1
  | (_, d) => uptoBulk d + 1
 end
def uptoSmall : (H : Type) → List (DataW H) → Bool := fun _ ds => decide (uptoBulkAll ds ≤ 1048576)
def OpenSpec.upto (s : _root_.Go.ChangeSpec) : _root_.Go.OpenSpec := { _root_.Go.OpenSpec.ofChange s with cond := some uptoSmall }

/-- 'hallmootlaw22.TallyEnough', WHERE WHAT IT READS IS OF BULK AT MOST 1048576: true; the input reads as it did. -/
def tallyEnoughUptoRow : OpenClaim := { program := "ytdioggohbfgnfaa", sum := "92c03a264d4ea24b25f06c058aa3b8792b7dd664c46e107841929055904579bf", func := "hallmoot/hallmootlaw22.TallyEnough", spec := "tallyEnough", plainKeys := false, apart := false, narrowed := true }
def TallyEnoughUptoSaid : Prop := tallyEnoughUptoRow.holds Try.pinned (OpenSpec.upto tallyEnoughSpec)

/-- 'hallmootlaw22.TallyForgets', WHERE WHAT IT READS IS OF BULK AT MOST 1048576: true; the input reads as it did. -/
def tallyForgetsUptoRow : OpenClaim := { program := "ytdioggohbfgnfaa", sum := "92c03a264d4ea24b25f06c058aa3b8792b7dd664c46e107841929055904579bf", func := "hallmoot/hallmootlaw22.TallyForgets", spec := "tallyForgets", unfollowed := true, recurses := true, plainKeys := false, apart := false, narrowed := true }
def TallyForgetsUptoSaid : Prop := tallyForgetsUptoRow.holds Try.pinned (OpenSpec.upto tallyForgetsSpec)

/-- 'hallmootlaw22.TallyPlays', WHERE WHAT IT READS IS OF BULK AT MOST 1048576: true; the input reads as it did. -/
def tallyPlaysUptoRow : OpenClaim := { program := "ytdioggohbfgnfaa", sum := "92c03a264d4ea24b25f06c058aa3b8792b7dd664c46e107841929055904579bf", func := "hallmoot/hallmootlaw22.TallyPlays", spec := "tallyPlays", unfollowed := true, recurses := true, plainKeys := false, apart := false, narrowed := true }
def TallyPlaysUptoSaid : Prop := tallyPlaysUptoRow.holds Try.pinned (OpenSpec.upto tallyPlaysSpec)

/-- 'hallmootlaw22.TallyNil', WHERE WHAT IT READS IS OF BULK AT MOST 1048576: true; the input reads as it did. -/
def tallyNilUptoRow : OpenClaim := { program := "ytdioggohbfgnfaa", sum := "92c03a264d4ea24b25f06c058aa3b8792b7dd664c46e107841929055904579bf", func := "hallmoot/hallmootlaw22.TallyNil", spec := "tallyNil", unfollowed := true, recurses := true, plainKeys := false, apart := false, narrowed := true }
def TallyNilUptoSaid : Prop := tallyNilUptoRow.holds Try.pinned (OpenSpec.upto tallyNilSpec)

end Rows
end Go.Proofs.Ytdioggohbfgnfaa
