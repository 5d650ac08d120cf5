/-
  NARROWER THAN 'FOR EVERY INPUT', by the rows' own cells (each row's printed sentence says how): ValidBlocks: laid · ValidMeets: laid · ValidNil: laid · ValidCerts: laid · ValidMore: laid.
  DERIVED. THE GIVEN ROWS OF THIS SEAT. 5 by the template 'for every input the law returns true; each argument reads behind the call as it read before'; 0 by the template 'total and deterministic' (their statements: YtmhaimdpfelkpaaGreatDoorTotals.lean).
  GIVEN WITH THE SEED: the statements are not yours to turn. If you find one false, say at which input.
  Laid BY PROGRAM, IN A SANDBOX (cutbox-rows.mjs): the forced cells as the released guide's own fill.sh prints them over the translation b57b8f757a90db96… (all of the seat's roots in one cut). By AI agents, Wed Nov 11 2026. No macro, syntax, notation, axiom, sorry.
-/
import Derived.Test.YtmhaimdpfelkpaaGreatDoorChecked
import GoSem.PinnedTables
import GoSem.Claim
import GoSem.ClaimJoined
import GoSem.ClaimMapViews
import Derived.JoinedTies
import Derived.KernelRfl
namespace Go.Proofs.YtmhaimdpfelkpaaGreatDoor
/- THE CELL 'sum', in the pinned program and in every row, IS THE sha256 OF THE DUMP (.gsa) THAT YtmhaimdpfelkpaaGreatDoorProg.lean LOADS. Nothing in Lean hashes anything: it is a label: what it is worth is what the hold of that sum in a sandbox is worth. -/
noncomputable def Tryz.pinned : Pinned := { name := "ytmhaimdpfelkpaagreatdoor", sum := "b57b8f757a90db96c5af39f5d6ea4b4f941782f6d783a99b6deb5a641e45f3c3", checked := Tryz.checked }
namespace Rows
def none {H : Type} : Left H := { results := [], args := [] }

/- WHAT THE LISTED PACKAGE-LEVEL VARIABLES READ AS WHEN THE CALL BEGINS. Each datum BY PROGRAM (the guide's laid-datum.mjs) off the statement by which the dump's own 'gosem.cut.vars' lays the variable. In a bare row this is a premise. The card (YtmhaimdpfelkpaaGreatDoorCards.lean) ties it to the program's text. -/
def laid_math_bits_deBruijn32tab {H : Type} : DataW H := .agg [.lit (.int .u8 0), .lit (.int .u8 1), .lit (.int .u8 28), .lit (.int .u8 2), .lit (.int .u8 29), .lit (.int .u8 14), .lit (.int .u8 24), .lit (.int .u8 3), .lit (.int .u8 30), .lit (.int .u8 22), .lit (.int .u8 20), .lit (.int .u8 15), .lit (.int .u8 25), .lit (.int .u8 17), .lit (.int .u8 4), .lit (.int .u8 8), .lit (.int .u8 31), .lit (.int .u8 27), .lit (.int .u8 13), .lit (.int .u8 23), .lit (.int .u8 21), .lit (.int .u8 19), .lit (.int .u8 16), .lit (.int .u8 7), .lit (.int .u8 26), .lit (.int .u8 12), .lit (.int .u8 18), .lit (.int .u8 6), .lit (.int .u8 11), .lit (.int .u8 5), .lit (.int .u8 10), .lit (.int .u8 9)]
def laid_unicode_utf8_acceptRanges {H : Type} : DataW H := .agg [.agg [.lit (.int .u8 128), .lit (.int .u8 191)], .agg [.lit (.int .u8 160), .lit (.int .u8 191)], .agg [.lit (.int .u8 128), .lit (.int .u8 159)], .agg [.lit (.int .u8 144), .lit (.int .u8 191)], .agg [.lit (.int .u8 128), .lit (.int .u8 143)], .agg [.lit (.int .u8 0), .lit (.int .u8 0)], .agg [.lit (.int .u8 0), .lit (.int .u8 0)], .agg [.lit (.int .u8 0), .lit (.int .u8 0)], .agg [.lit (.int .u8 0), .lit (.int .u8 0)], .agg [.lit (.int .u8 0), .lit (.int .u8 0)], .agg [.lit (.int .u8 0), .lit (.int .u8 0)], .agg [.lit (.int .u8 0), .lit (.int .u8 0)], .agg [.lit (.int .u8 0), .lit (.int .u8 0)], .agg [.lit (.int .u8 0), .lit (.int .u8 0)], .agg [.lit (.int .u8 0), .lit (.int .u8 0)], .agg [.lit (.int .u8 0), .lit (.int .u8 0)]]
/-- One of Go's own tables, pinned by name: the form's constant. -/
def laid_unicode_utf8_first : DataW Unit := Go.Pinned.utf8First

/-- 'hallmootlaw13.ValidBlocks': WHATEVER THE INPUT: true; the input reads as it did. -/
def validBlocksSpec : ChangeSpec := { name := "validBlocks", fn := fun _ => fun
  | [d1, d2] => { results := [.lit (.bool true)], args := [d1, d2] }
  | _ => none }
def validBlocksRow : OpenClaim := { program := "ytmhaimdpfelkpaagreatdoor", sum := "b57b8f757a90db96c5af39f5d6ea4b4f941782f6d783a99b6deb5a641e45f3c3", func := "hallmoot/hallmootlaw13.ValidBlocks", spec := "validBlocks", unfollowed := true, recurses := true, named := ["unicode/utf8.first", "unicode/utf8.acceptRanges", "math/bits.deBruijn32tab"], plainKeys := false, apart := false, laid := [("math/bits.deBruijn32tab", laid_math_bits_deBruijn32tab), ("unicode/utf8.acceptRanges", laid_unicode_utf8_acceptRanges), ("unicode/utf8.first", laid_unicode_utf8_first)] }
def ValidBlocksSaid : Prop := validBlocksRow.holds Tryz.pinned (OpenSpec.ofChange validBlocksSpec)

/-- ITS FALSE NEIGHBOUR: 'it returns false'. Refute it at one input. -/
def validBlocksWrong : ChangeSpec := { name := "validBlocks", fn := fun _ => fun
  | [d1, d2] => { results := [.lit (.bool false)], args := [d1, d2] }
  | _ => none }
def ValidBlocksWrongFalsely : Prop := validBlocksRow.holds Tryz.pinned (OpenSpec.ofChange validBlocksWrong)

/-- 'hallmootlaw13.ValidMeets': WHATEVER THE INPUT: true; the input reads as it did. -/
def validMeetsSpec : ChangeSpec := { name := "validMeets", fn := fun _ => fun
  | [d1, d2, d3, d4] => { results := [.lit (.bool true)], args := [d1, d2, d3, d4] }
  | _ => none }
def validMeetsRow : OpenClaim := { program := "ytmhaimdpfelkpaagreatdoor", sum := "b57b8f757a90db96c5af39f5d6ea4b4f941782f6d783a99b6deb5a641e45f3c3", func := "hallmoot/hallmootlaw13.ValidMeets", spec := "validMeets", unfollowed := true, recurses := true, named := ["unicode/utf8.first", "unicode/utf8.acceptRanges", "math/bits.deBruijn32tab"], plainKeys := false, apart := false, laid := [("math/bits.deBruijn32tab", laid_math_bits_deBruijn32tab), ("unicode/utf8.acceptRanges", laid_unicode_utf8_acceptRanges), ("unicode/utf8.first", laid_unicode_utf8_first)] }
def ValidMeetsSaid : Prop := validMeetsRow.holds Tryz.pinned (OpenSpec.ofChange validMeetsSpec)

/-- ITS FALSE NEIGHBOUR: 'it returns false'. Refute it at one input. -/
def validMeetsWrong : ChangeSpec := { name := "validMeets", fn := fun _ => fun
  | [d1, d2, d3, d4] => { results := [.lit (.bool false)], args := [d1, d2, d3, d4] }
  | _ => none }
def ValidMeetsWrongFalsely : Prop := validMeetsRow.holds Tryz.pinned (OpenSpec.ofChange validMeetsWrong)

/-- 'hallmootlaw13.ValidNil': WHATEVER THE INPUT: true; the input reads as it did. -/
def validNilSpec : ChangeSpec := { name := "validNil", fn := fun _ => fun
  | [d1, d2, d3] => { results := [.lit (.bool true)], args := [d1, d2, d3] }
  | _ => none }
def validNilRow : OpenClaim := { program := "ytmhaimdpfelkpaagreatdoor", sum := "b57b8f757a90db96c5af39f5d6ea4b4f941782f6d783a99b6deb5a641e45f3c3", func := "hallmoot/hallmootlaw13.ValidNil", spec := "validNil", unfollowed := true, recurses := true, named := ["unicode/utf8.first", "unicode/utf8.acceptRanges", "math/bits.deBruijn32tab"], plainKeys := false, apart := false, laid := [("math/bits.deBruijn32tab", laid_math_bits_deBruijn32tab), ("unicode/utf8.acceptRanges", laid_unicode_utf8_acceptRanges), ("unicode/utf8.first", laid_unicode_utf8_first)] }
def ValidNilSaid : Prop := validNilRow.holds Tryz.pinned (OpenSpec.ofChange validNilSpec)

/-- ITS FALSE NEIGHBOUR: 'it returns false'. Refute it at one input. -/
def validNilWrong : ChangeSpec := { name := "validNil", fn := fun _ => fun
  | [d1, d2, d3] => { results := [.lit (.bool false)], args := [d1, d2, d3] }
  | _ => none }
def ValidNilWrongFalsely : Prop := validNilRow.holds Tryz.pinned (OpenSpec.ofChange validNilWrong)

/-- 'hallmootlaw13.ValidCerts': WHATEVER THE INPUT: true; the input reads as it did. -/
def validCertsSpec : ChangeSpec := { name := "validCerts", fn := fun _ => fun
  | [d1, d2, d3, d4, d5] => { results := [.lit (.bool true)], args := [d1, d2, d3, d4, d5] }
  | _ => none }
def validCertsRow : OpenClaim := { program := "ytmhaimdpfelkpaagreatdoor", sum := "b57b8f757a90db96c5af39f5d6ea4b4f941782f6d783a99b6deb5a641e45f3c3", func := "hallmoot/hallmootlaw13.ValidCerts", spec := "validCerts", unfollowed := true, recurses := true, named := ["unicode/utf8.first", "unicode/utf8.acceptRanges", "math/bits.deBruijn32tab"], plainKeys := false, apart := false, laid := [("math/bits.deBruijn32tab", laid_math_bits_deBruijn32tab), ("unicode/utf8.acceptRanges", laid_unicode_utf8_acceptRanges), ("unicode/utf8.first", laid_unicode_utf8_first)] }
def ValidCertsSaid : Prop := validCertsRow.holds Tryz.pinned (OpenSpec.ofChange validCertsSpec)

/-- ITS FALSE NEIGHBOUR: 'it returns false'. Refute it at one input. -/
def validCertsWrong : ChangeSpec := { name := "validCerts", fn := fun _ => fun
  | [d1, d2, d3, d4, d5] => { results := [.lit (.bool false)], args := [d1, d2, d3, d4, d5] }
  | _ => none }
def ValidCertsWrongFalsely : Prop := validCertsRow.holds Tryz.pinned (OpenSpec.ofChange validCertsWrong)

/-- 'hallmootlaw13.ValidMore': WHATEVER THE INPUT: true; the input reads as it did. -/
def validMoreSpec : ChangeSpec := { name := "validMore", fn := fun _ => fun
  | [d1, d2, d3] => { results := [.lit (.bool true)], args := [d1, d2, d3] }
  | _ => none }
def validMoreRow : OpenClaim := { program := "ytmhaimdpfelkpaagreatdoor", sum := "b57b8f757a90db96c5af39f5d6ea4b4f941782f6d783a99b6deb5a641e45f3c3", func := "hallmoot/hallmootlaw13.ValidMore", spec := "validMore", unfollowed := true, recurses := true, named := ["unicode/utf8.first", "unicode/utf8.acceptRanges", "math/bits.deBruijn32tab"], plainKeys := false, apart := false, laid := [("math/bits.deBruijn32tab", laid_math_bits_deBruijn32tab), ("unicode/utf8.acceptRanges", laid_unicode_utf8_acceptRanges), ("unicode/utf8.first", laid_unicode_utf8_first)] }
def ValidMoreSaid : Prop := validMoreRow.holds Tryz.pinned (OpenSpec.ofChange validMoreSpec)

/-- ITS FALSE NEIGHBOUR: 'it returns false'. Refute it at one input. -/
def validMoreWrong : ChangeSpec := { name := "validMore", fn := fun _ => fun
  | [d1, d2, d3] => { results := [.lit (.bool false)], args := [d1, d2, d3] }
  | _ => none }
def ValidMoreWrongFalsely : Prop := validMoreRow.holds Tryz.pinned (OpenSpec.ofChange validMoreWrong)

/- THE SECOND FORM. 'bulk': how many values and letters a reading holds, each counted each time it is reached (what is shared counts as often as it is met; a slice's spare places count too). A statement '..UptoSaid' is the law's where the arguments, and the package variables that the reading takes, are together of bulk at most 1048576: NARROWER than '..Said'. Prove '..Said' where nothing that the law and all that it calls make is longer than what came in: it says more and counts as full. Else prove '..UptoSaid'. A law counts once. -/
mutual
def uptoBulk {H : Type} : DataW H → Nat
  | .lit (.string bytes) => bytes.length + 1
  | .lit _ => 1
  | .nil => 1
  | .ptr d => uptoBulk d + 1
  | .slice elems spare => uptoBulkAll elems + uptoBulkAll spare + 1
  | .agg parts => uptoBulkAll parts + 1
  | .iface _ d => uptoBulk d + 1
  | .map entries => uptoBulkEntries entries + 1
  | .held _ => 1
def uptoBulkAll {H : Type} : List (DataW H) → Nat
  | [] => 0
  | d :: r => uptoBulk d + uptoBulkAll r
def uptoBulkEntries {H : Type} : List (Lit × DataW H) → Nat
  | [] => 0
  | x :: r => uptoBulkEntry x + uptoBulkEntries r
def uptoBulkEntry {H : Type} : Lit × DataW H → Nat
  | (.string bytes, d) => bytes.length + uptoBulk d + 1
  | (_, d) => uptoBulk d + 1
 end
def uptoSmall : (H : Type) → List (DataW H) → Bool := fun _ ds => decide (uptoBulkAll ds ≤ 1048576)
def OpenSpec.upto (s : _root_.Go.ChangeSpec) : _root_.Go.OpenSpec := { _root_.Go.OpenSpec.ofChange s with cond := some uptoSmall }

/-- 'hallmootlaw13.ValidBlocks', WHERE WHAT IT READS IS OF BULK AT MOST 1048576: true; the input reads as it did. -/
def validBlocksUptoRow : OpenClaim := { program := "ytmhaimdpfelkpaagreatdoor", sum := "b57b8f757a90db96c5af39f5d6ea4b4f941782f6d783a99b6deb5a641e45f3c3", func := "hallmoot/hallmootlaw13.ValidBlocks", spec := "validBlocks", unfollowed := true, recurses := true, named := ["unicode/utf8.first", "unicode/utf8.acceptRanges", "math/bits.deBruijn32tab"], plainKeys := false, apart := false, laid := [("math/bits.deBruijn32tab", laid_math_bits_deBruijn32tab), ("unicode/utf8.acceptRanges", laid_unicode_utf8_acceptRanges), ("unicode/utf8.first", laid_unicode_utf8_first)], narrowed := true }
def ValidBlocksUptoSaid : Prop := validBlocksUptoRow.holds Tryz.pinned (OpenSpec.upto validBlocksSpec)

/-- 'hallmootlaw13.ValidMeets', WHERE WHAT IT READS IS OF BULK AT MOST 1048576: true; the input reads as it did. -/
def validMeetsUptoRow : OpenClaim := { program := "ytmhaimdpfelkpaagreatdoor", sum := "b57b8f757a90db96c5af39f5d6ea4b4f941782f6d783a99b6deb5a641e45f3c3", func := "hallmoot/hallmootlaw13.ValidMeets", spec := "validMeets", unfollowed := true, recurses := true, named := ["unicode/utf8.first", "unicode/utf8.acceptRanges", "math/bits.deBruijn32tab"], plainKeys := false, apart := false, laid := [("math/bits.deBruijn32tab", laid_math_bits_deBruijn32tab), ("unicode/utf8.acceptRanges", laid_unicode_utf8_acceptRanges), ("unicode/utf8.first", laid_unicode_utf8_first)], narrowed := true }
def ValidMeetsUptoSaid : Prop := validMeetsUptoRow.holds Tryz.pinned (OpenSpec.upto validMeetsSpec)

/-- 'hallmootlaw13.ValidNil', WHERE WHAT IT READS IS OF BULK AT MOST 1048576: true; the input reads as it did. -/
def validNilUptoRow : OpenClaim := { program := "ytmhaimdpfelkpaagreatdoor", sum := "b57b8f757a90db96c5af39f5d6ea4b4f941782f6d783a99b6deb5a641e45f3c3", func := "hallmoot/hallmootlaw13.ValidNil", spec := "validNil", unfollowed := true, recurses := true, named := ["unicode/utf8.first", "unicode/utf8.acceptRanges", "math/bits.deBruijn32tab"], plainKeys := false, apart := false, laid := [("math/bits.deBruijn32tab", laid_math_bits_deBruijn32tab), ("unicode/utf8.acceptRanges", laid_unicode_utf8_acceptRanges), ("unicode/utf8.first", laid_unicode_utf8_first)], narrowed := true }
def ValidNilUptoSaid : Prop := validNilUptoRow.holds Tryz.pinned (OpenSpec.upto validNilSpec)

/-- 'hallmootlaw13.ValidCerts', WHERE WHAT IT READS IS OF BULK AT MOST 1048576: true; the input reads as it did. -/
def validCertsUptoRow : OpenClaim := { program := "ytmhaimdpfelkpaagreatdoor", sum := "b57b8f757a90db96c5af39f5d6ea4b4f941782f6d783a99b6deb5a641e45f3c3", func := "hallmoot/hallmootlaw13.ValidCerts", spec := "validCerts", unfollowed := true, recurses := true, named := ["unicode/utf8.first", "unicode/utf8.acceptRanges", "math/bits.deBruijn32tab"], plainKeys := false, apart := false, laid := [("math/bits.deBruijn32tab", laid_math_bits_deBruijn32tab), ("unicode/utf8.acceptRanges", laid_unicode_utf8_acceptRanges), ("unicode/utf8.first", laid_unicode_utf8_first)], narrowed := true }
def ValidCertsUptoSaid : Prop := validCertsUptoRow.holds Tryz.pinned (OpenSpec.upto validCertsSpec)

/-- 'hallmootlaw13.ValidMore', WHERE WHAT IT READS IS OF BULK AT MOST 1048576: true; the input reads as it did. -/
def validMoreUptoRow : OpenClaim := { program := "ytmhaimdpfelkpaagreatdoor", sum := "b57b8f757a90db96c5af39f5d6ea4b4f941782f6d783a99b6deb5a641e45f3c3", func := "hallmoot/hallmootlaw13.ValidMore", spec := "validMore", unfollowed := true, recurses := true, named := ["unicode/utf8.first", "unicode/utf8.acceptRanges", "math/bits.deBruijn32tab"], plainKeys := false, apart := false, laid := [("math/bits.deBruijn32tab", laid_math_bits_deBruijn32tab), ("unicode/utf8.acceptRanges", laid_unicode_utf8_acceptRanges), ("unicode/utf8.first", laid_unicode_utf8_first)], narrowed := true }
def ValidMoreUptoSaid : Prop := validMoreUptoRow.holds Tryz.pinned (OpenSpec.upto validMoreSpec)

end Rows
end Go.Proofs.YtmhaimdpfelkpaaGreatDoor
