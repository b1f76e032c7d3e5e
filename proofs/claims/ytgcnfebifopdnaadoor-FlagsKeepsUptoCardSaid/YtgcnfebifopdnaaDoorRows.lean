/-
  NARROWER THAN 'FOR EVERY INPUT', by the rows' own cells (each row's printed sentence says how): FlagsReads: laid · FlagsOnes: laid · FlagsFolds: laid · FlagsDrops: laid · FlagsKeeps: laid · FlagsSets: laid · FlagsShows: laid · FlagsBack: laid.
  DERIVED. THE GIVEN ROWS OF THIS SEAT. 8 by the template 'for every input the law returns true; each argument reads behind the call as it read before'; 0 by the template 'total and deterministic' (their statements: YtgcnfebifopdnaaDoorTotals.lean).
  GIVEN WITH THE SEED: the statements are not yours to turn. If you find one false, say at which input.
  Laid BY PROGRAM, IN A SANDBOX (cutbox-rows.mjs): the forced cells as the released guide's own fill.sh prints them over the translation 7b7a3b171c9aa710… (all of the seat's roots in one cut). By AI agents, Wed Nov 11 2026. No macro, syntax, notation, axiom, sorry.
-/
import Derived.Test.YtgcnfebifopdnaaDoorChecked
import GoSem.PinnedTables
import GoSem.Claim
import GoSem.ClaimJoined
import GoSem.ClaimMapViews
import Derived.JoinedTies
import Derived.KernelRfl
namespace Go.Proofs.YtgcnfebifopdnaaDoor
/- THE CELL 'sum', in the pinned program and in every row, IS THE sha256 OF THE DUMP (.gsa) THAT YtgcnfebifopdnaaDoorProg.lean LOADS. Nothing in Lean hashes anything: it is a label: what it is worth is what the hold of that sum in a sandbox is worth. -/
noncomputable def Tryd.pinned : Pinned := { name := "ytgcnfebifopdnaadoor", sum := "7b7a3b171c9aa71076d156fe6ad351eaab3a85fd3e9c0d7199d7ee9490cc3f34", checked := Tryd.checked }
namespace Rows
def none {H : Type} : Left H := { results := [], args := [] }

/- WHAT THE LISTED PACKAGE-LEVEL VARIABLES READ AS WHEN THE CALL BEGINS. Each datum BY PROGRAM (the guide's laid-datum.mjs) off the statement by which the dump's own 'gosem.cut.vars' lays the variable. In a bare row this is a premise. The card (YtgcnfebifopdnaaDoorCards.lean) ties it to the program's text. -/
def laid_unicode_utf8_acceptRanges {H : Type} : DataW H := .agg [.agg [.lit (.int .u8 128), .lit (.int .u8 191)], .agg [.lit (.int .u8 160), .lit (.int .u8 191)], .agg [.lit (.int .u8 128), .lit (.int .u8 159)], .agg [.lit (.int .u8 144), .lit (.int .u8 191)], .agg [.lit (.int .u8 128), .lit (.int .u8 143)], .agg [.lit (.int .u8 0), .lit (.int .u8 0)], .agg [.lit (.int .u8 0), .lit (.int .u8 0)], .agg [.lit (.int .u8 0), .lit (.int .u8 0)], .agg [.lit (.int .u8 0), .lit (.int .u8 0)], .agg [.lit (.int .u8 0), .lit (.int .u8 0)], .agg [.lit (.int .u8 0), .lit (.int .u8 0)], .agg [.lit (.int .u8 0), .lit (.int .u8 0)], .agg [.lit (.int .u8 0), .lit (.int .u8 0)], .agg [.lit (.int .u8 0), .lit (.int .u8 0)], .agg [.lit (.int .u8 0), .lit (.int .u8 0)], .agg [.lit (.int .u8 0), .lit (.int .u8 0)]]
/-- One of Go's own tables, pinned by name: the form's constant. -/
def laid_unicode_utf8_first : DataW Unit := Go.Pinned.utf8First
def laid_math_bits_deBruijn32tab {H : Type} : DataW H := .agg [.lit (.int .u8 0), .lit (.int .u8 1), .lit (.int .u8 28), .lit (.int .u8 2), .lit (.int .u8 29), .lit (.int .u8 14), .lit (.int .u8 24), .lit (.int .u8 3), .lit (.int .u8 30), .lit (.int .u8 22), .lit (.int .u8 20), .lit (.int .u8 15), .lit (.int .u8 25), .lit (.int .u8 17), .lit (.int .u8 4), .lit (.int .u8 8), .lit (.int .u8 31), .lit (.int .u8 27), .lit (.int .u8 13), .lit (.int .u8 23), .lit (.int .u8 21), .lit (.int .u8 19), .lit (.int .u8 16), .lit (.int .u8 7), .lit (.int .u8 26), .lit (.int .u8 12), .lit (.int .u8 18), .lit (.int .u8 6), .lit (.int .u8 11), .lit (.int .u8 5), .lit (.int .u8 10), .lit (.int .u8 9)]
def laid_math_bits_deBruijn64tab {H : Type} : DataW H := .agg [.lit (.int .u8 0), .lit (.int .u8 1), .lit (.int .u8 56), .lit (.int .u8 2), .lit (.int .u8 57), .lit (.int .u8 49), .lit (.int .u8 28), .lit (.int .u8 3), .lit (.int .u8 61), .lit (.int .u8 58), .lit (.int .u8 42), .lit (.int .u8 50), .lit (.int .u8 38), .lit (.int .u8 29), .lit (.int .u8 17), .lit (.int .u8 4), .lit (.int .u8 62), .lit (.int .u8 47), .lit (.int .u8 59), .lit (.int .u8 36), .lit (.int .u8 45), .lit (.int .u8 43), .lit (.int .u8 51), .lit (.int .u8 22), .lit (.int .u8 53), .lit (.int .u8 39), .lit (.int .u8 33), .lit (.int .u8 30), .lit (.int .u8 24), .lit (.int .u8 18), .lit (.int .u8 12), .lit (.int .u8 5), .lit (.int .u8 63), .lit (.int .u8 55), .lit (.int .u8 48), .lit (.int .u8 27), .lit (.int .u8 60), .lit (.int .u8 41), .lit (.int .u8 37), .lit (.int .u8 16), .lit (.int .u8 46), .lit (.int .u8 35), .lit (.int .u8 44), .lit (.int .u8 21), .lit (.int .u8 52), .lit (.int .u8 32), .lit (.int .u8 23), .lit (.int .u8 11), .lit (.int .u8 54), .lit (.int .u8 26), .lit (.int .u8 40), .lit (.int .u8 15), .lit (.int .u8 34), .lit (.int .u8 20), .lit (.int .u8 31), .lit (.int .u8 10), .lit (.int .u8 25), .lit (.int .u8 14), .lit (.int .u8 19), .lit (.int .u8 9), .lit (.int .u8 13), .lit (.int .u8 8), .lit (.int .u8 7), .lit (.int .u8 6)]
def laid_internal_strconv_uint64pow10 {H : Type} : DataW H := .agg [.lit (.int .u64 1), .lit (.int .u64 10), .lit (.int .u64 100), .lit (.int .u64 1000), .lit (.int .u64 10000), .lit (.int .u64 100000), .lit (.int .u64 1000000), .lit (.int .u64 10000000), .lit (.int .u64 100000000), .lit (.int .u64 1000000000), .lit (.int .u64 10000000000), .lit (.int .u64 100000000000), .lit (.int .u64 1000000000000), .lit (.int .u64 10000000000000), .lit (.int .u64 100000000000000), .lit (.int .u64 1000000000000000), .lit (.int .u64 10000000000000000), .lit (.int .u64 100000000000000000), .lit (.int .u64 1000000000000000000), .lit (.int .u64 10000000000000000000)]

/-- 'hornbooklaw03.FlagsReads': WHATEVER THE INPUT: true; the input reads as it did. -/
def flagsReadsSpec : ChangeSpec := { name := "flagsReads", fn := fun _ => fun
  | [d1, d2] => { results := [.lit (.bool true)], args := [d1, d2] }
  | _ => none }
def flagsReadsRow : OpenClaim := { program := "ytgcnfebifopdnaadoor", sum := "7b7a3b171c9aa71076d156fe6ad351eaab3a85fd3e9c0d7199d7ee9490cc3f34", func := "hornbook/hornbooklaw03.FlagsReads", spec := "flagsReads", inPlace := ["internal/bytealg.CountString", "internal/bytealg.IndexByteString", "internal/bytealg.IndexString"], recurses := true, named := ["unicode/utf8.first", "unicode/utf8.acceptRanges", "internal/bytealg.MaxLen"], apart := false, laid := [("unicode/utf8.acceptRanges", laid_unicode_utf8_acceptRanges), ("unicode/utf8.first", laid_unicode_utf8_first)] }
def FlagsReadsSaid : Prop := flagsReadsRow.holds Tryd.pinned (OpenSpec.ofChange flagsReadsSpec)

/-- ITS FALSE NEIGHBOUR: 'it returns false'. Refute it at one input. -/
def flagsReadsWrong : ChangeSpec := { name := "flagsReads", fn := fun _ => fun
  | [d1, d2] => { results := [.lit (.bool false)], args := [d1, d2] }
  | _ => none }
def FlagsReadsWrongFalsely : Prop := flagsReadsRow.holds Tryd.pinned (OpenSpec.ofChange flagsReadsWrong)

/-- 'hornbooklaw03.FlagsOnes': WHATEVER THE INPUT: true; the input reads as it did. -/
def flagsOnesSpec : ChangeSpec := { name := "flagsOnes", fn := fun _ => fun
  | [d1, d2] => { results := [.lit (.bool true)], args := [d1, d2] }
  | _ => none }
def flagsOnesRow : OpenClaim := { program := "ytgcnfebifopdnaadoor", sum := "7b7a3b171c9aa71076d156fe6ad351eaab3a85fd3e9c0d7199d7ee9490cc3f34", func := "hornbook/hornbooklaw03.FlagsOnes", spec := "flagsOnes", inPlace := ["internal/bytealg.CountString", "internal/bytealg.IndexByteString", "internal/bytealg.IndexString"], recurses := true, named := ["unicode/utf8.first", "unicode/utf8.acceptRanges", "internal/bytealg.MaxLen"], apart := false, laid := [("unicode/utf8.acceptRanges", laid_unicode_utf8_acceptRanges), ("unicode/utf8.first", laid_unicode_utf8_first)] }
def FlagsOnesSaid : Prop := flagsOnesRow.holds Tryd.pinned (OpenSpec.ofChange flagsOnesSpec)

/-- ITS FALSE NEIGHBOUR: 'it returns false'. Refute it at one input. -/
def flagsOnesWrong : ChangeSpec := { name := "flagsOnes", fn := fun _ => fun
  | [d1, d2] => { results := [.lit (.bool false)], args := [d1, d2] }
  | _ => none }
def FlagsOnesWrongFalsely : Prop := flagsOnesRow.holds Tryd.pinned (OpenSpec.ofChange flagsOnesWrong)

/-- 'hornbooklaw03.FlagsFolds': WHATEVER THE INPUT: true; the input reads as it did. -/
def flagsFoldsSpec : ChangeSpec := { name := "flagsFolds", fn := fun _ => fun
  | [d1, d2] => { results := [.lit (.bool true)], args := [d1, d2] }
  | _ => none }
def flagsFoldsRow : OpenClaim := { program := "ytgcnfebifopdnaadoor", sum := "7b7a3b171c9aa71076d156fe6ad351eaab3a85fd3e9c0d7199d7ee9490cc3f34", func := "hornbook/hornbooklaw03.FlagsFolds", spec := "flagsFolds", inPlace := ["internal/bytealg.CountString", "internal/bytealg.IndexByteString", "internal/bytealg.IndexString"], unfollowed := true, recurses := true, named := ["unicode/utf8.first", "unicode/utf8.acceptRanges", "internal/bytealg.MaxLen"], apart := false, laid := [("unicode/utf8.acceptRanges", laid_unicode_utf8_acceptRanges), ("unicode/utf8.first", laid_unicode_utf8_first)] }
def FlagsFoldsSaid : Prop := flagsFoldsRow.holds Tryd.pinned (OpenSpec.ofChange flagsFoldsSpec)

/-- ITS FALSE NEIGHBOUR: 'it returns false'. Refute it at one input. -/
def flagsFoldsWrong : ChangeSpec := { name := "flagsFolds", fn := fun _ => fun
  | [d1, d2] => { results := [.lit (.bool false)], args := [d1, d2] }
  | _ => none }
def FlagsFoldsWrongFalsely : Prop := flagsFoldsRow.holds Tryd.pinned (OpenSpec.ofChange flagsFoldsWrong)

/-- 'hornbooklaw03.FlagsDrops': WHATEVER THE INPUT: true; the input reads as it did. -/
def flagsDropsSpec : ChangeSpec := { name := "flagsDrops", fn := fun _ => fun
  | [d1, d2] => { results := [.lit (.bool true)], args := [d1, d2] }
  | _ => none }
def flagsDropsRow : OpenClaim := { program := "ytgcnfebifopdnaadoor", sum := "7b7a3b171c9aa71076d156fe6ad351eaab3a85fd3e9c0d7199d7ee9490cc3f34", func := "hornbook/hornbooklaw03.FlagsDrops", spec := "flagsDrops", inPlace := ["internal/bytealg.CountString", "internal/bytealg.IndexByteString", "internal/bytealg.IndexString"], unfollowed := true, recurses := true, named := ["unicode/utf8.first", "unicode/utf8.acceptRanges", "internal/bytealg.MaxLen"], apart := false, laid := [("unicode/utf8.acceptRanges", laid_unicode_utf8_acceptRanges), ("unicode/utf8.first", laid_unicode_utf8_first)] }
def FlagsDropsSaid : Prop := flagsDropsRow.holds Tryd.pinned (OpenSpec.ofChange flagsDropsSpec)

/-- ITS FALSE NEIGHBOUR: 'it returns false'. Refute it at one input. -/
def flagsDropsWrong : ChangeSpec := { name := "flagsDrops", fn := fun _ => fun
  | [d1, d2] => { results := [.lit (.bool false)], args := [d1, d2] }
  | _ => none }
def FlagsDropsWrongFalsely : Prop := flagsDropsRow.holds Tryd.pinned (OpenSpec.ofChange flagsDropsWrong)

/-- 'hornbooklaw03.FlagsKeeps': WHATEVER THE INPUT: true; the input reads as it did. -/
def flagsKeepsSpec : ChangeSpec := { name := "flagsKeeps", fn := fun _ => fun
  | [d1, d2] => { results := [.lit (.bool true)], args := [d1, d2] }
  | _ => none }
def flagsKeepsRow : OpenClaim := { program := "ytgcnfebifopdnaadoor", sum := "7b7a3b171c9aa71076d156fe6ad351eaab3a85fd3e9c0d7199d7ee9490cc3f34", func := "hornbook/hornbooklaw03.FlagsKeeps", spec := "flagsKeeps", inPlace := ["internal/bytealg.CountString", "internal/bytealg.IndexByteString", "internal/bytealg.IndexString"], unfollowed := true, recurses := true, named := ["unicode/utf8.first", "unicode/utf8.acceptRanges", "internal/bytealg.MaxLen"], apart := false, laid := [("unicode/utf8.acceptRanges", laid_unicode_utf8_acceptRanges), ("unicode/utf8.first", laid_unicode_utf8_first)] }
def FlagsKeepsSaid : Prop := flagsKeepsRow.holds Tryd.pinned (OpenSpec.ofChange flagsKeepsSpec)

/-- ITS FALSE NEIGHBOUR: 'it returns false'. Refute it at one input. -/
def flagsKeepsWrong : ChangeSpec := { name := "flagsKeeps", fn := fun _ => fun
  | [d1, d2] => { results := [.lit (.bool false)], args := [d1, d2] }
  | _ => none }
def FlagsKeepsWrongFalsely : Prop := flagsKeepsRow.holds Tryd.pinned (OpenSpec.ofChange flagsKeepsWrong)

/-- 'hornbooklaw03.FlagsSets': WHATEVER THE INPUT: true; the input reads as it did. -/
def flagsSetsSpec : ChangeSpec := { name := "flagsSets", fn := fun _ => fun
  | [d1, d2, d3] => { results := [.lit (.bool true)], args := [d1, d2, d3] }
  | _ => none }
def flagsSetsRow : OpenClaim := { program := "ytgcnfebifopdnaadoor", sum := "7b7a3b171c9aa71076d156fe6ad351eaab3a85fd3e9c0d7199d7ee9490cc3f34", func := "hornbook/hornbooklaw03.FlagsSets", spec := "flagsSets", inPlace := ["internal/bytealg.CountString", "internal/bytealg.IndexByteString", "internal/bytealg.IndexString"], unfollowed := true, recurses := true, named := ["unicode/utf8.first", "unicode/utf8.acceptRanges", "internal/bytealg.MaxLen"], apart := false, laid := [("unicode/utf8.acceptRanges", laid_unicode_utf8_acceptRanges), ("unicode/utf8.first", laid_unicode_utf8_first)] }
def FlagsSetsSaid : Prop := flagsSetsRow.holds Tryd.pinned (OpenSpec.ofChange flagsSetsSpec)

/-- ITS FALSE NEIGHBOUR: 'it returns false'. Refute it at one input. -/
def flagsSetsWrong : ChangeSpec := { name := "flagsSets", fn := fun _ => fun
  | [d1, d2, d3] => { results := [.lit (.bool false)], args := [d1, d2, d3] }
  | _ => none }
def FlagsSetsWrongFalsely : Prop := flagsSetsRow.holds Tryd.pinned (OpenSpec.ofChange flagsSetsWrong)

/-- 'hornbooklaw03.FlagsShows': WHATEVER THE INPUT: true; the input reads as it did. -/
def flagsShowsSpec : ChangeSpec := { name := "flagsShows", fn := fun _ => fun
  | [d1, d2] => { results := [.lit (.bool true)], args := [d1, d2] }
  | _ => none }
def flagsShowsRow : OpenClaim := { program := "ytgcnfebifopdnaadoor", sum := "7b7a3b171c9aa71076d156fe6ad351eaab3a85fd3e9c0d7199d7ee9490cc3f34", func := "hornbook/hornbooklaw03.FlagsShows", spec := "flagsShows", inPlace := ["internal/abi.NoEscape", "internal/bytealg.MakeNoZero", "internal/bytealg.CountString", "internal/bytealg.IndexByteString", "internal/bytealg.IndexString"], recurses := true, named := ["internal/strconv.uint64pow10", "math/bits.deBruijn32tab", "math/bits.deBruijn64tab", "unicode/utf8.first", "unicode/utf8.acceptRanges", "internal/bytealg.MaxLen"], apart := false, laid := [("math/bits.deBruijn32tab", laid_math_bits_deBruijn32tab), ("math/bits.deBruijn64tab", laid_math_bits_deBruijn64tab), ("internal/strconv.uint64pow10", laid_internal_strconv_uint64pow10), ("unicode/utf8.acceptRanges", laid_unicode_utf8_acceptRanges), ("unicode/utf8.first", laid_unicode_utf8_first)] }
def FlagsShowsSaid : Prop := flagsShowsRow.holds Tryd.pinned (OpenSpec.ofChange flagsShowsSpec)

/-- ITS FALSE NEIGHBOUR: 'it returns false'. Refute it at one input. -/
def flagsShowsWrong : ChangeSpec := { name := "flagsShows", fn := fun _ => fun
  | [d1, d2] => { results := [.lit (.bool false)], args := [d1, d2] }
  | _ => none }
def FlagsShowsWrongFalsely : Prop := flagsShowsRow.holds Tryd.pinned (OpenSpec.ofChange flagsShowsWrong)

/-- 'hornbooklaw03.FlagsBack': WHATEVER THE INPUT: true; the input reads as it did. -/
def flagsBackSpec : ChangeSpec := { name := "flagsBack", fn := fun _ => fun
  | [d1, d2] => { results := [.lit (.bool true)], args := [d1, d2] }
  | _ => none }
def flagsBackRow : OpenClaim := { program := "ytgcnfebifopdnaadoor", sum := "7b7a3b171c9aa71076d156fe6ad351eaab3a85fd3e9c0d7199d7ee9490cc3f34", func := "hornbook/hornbooklaw03.FlagsBack", spec := "flagsBack", inPlace := ["internal/bytealg.CountString", "internal/bytealg.IndexByteString", "internal/bytealg.IndexString", "internal/abi.NoEscape", "internal/bytealg.MakeNoZero"], recurses := true, named := ["unicode/utf8.first", "unicode/utf8.acceptRanges", "internal/bytealg.MaxLen", "internal/strconv.uint64pow10", "math/bits.deBruijn32tab", "math/bits.deBruijn64tab"], apart := false, laid := [("math/bits.deBruijn32tab", laid_math_bits_deBruijn32tab), ("math/bits.deBruijn64tab", laid_math_bits_deBruijn64tab), ("internal/strconv.uint64pow10", laid_internal_strconv_uint64pow10), ("unicode/utf8.acceptRanges", laid_unicode_utf8_acceptRanges), ("unicode/utf8.first", laid_unicode_utf8_first)] }
def FlagsBackSaid : Prop := flagsBackRow.holds Tryd.pinned (OpenSpec.ofChange flagsBackSpec)

/-- ITS FALSE NEIGHBOUR: 'it returns false'. Refute it at one input. -/
def flagsBackWrong : ChangeSpec := { name := "flagsBack", fn := fun _ => fun
  | [d1, d2] => { results := [.lit (.bool false)], args := [d1, d2] }
  | _ => none }
def FlagsBackWrongFalsely : Prop := flagsBackRow.holds Tryd.pinned (OpenSpec.ofChange flagsBackWrong)

/- THE SECOND FORM. 'bulk': how many values and letters a reading holds, each counted each time it is reached (what is shared counts as often as it is met; a slice's spare places count too). A statement '..UptoSaid' is the law's where the arguments, and the package variables that the reading takes, are together of bulk at most 1048576: NARROWER than '..Said'. Prove '..Said' where nothing that the law and all that it calls make is longer than what came in: it says more and counts as full. Else prove '..UptoSaid'. A law counts once. -/
mutual
def uptoBulk {H : Type} : DataW H → Nat
  | .lit (.string bytes) => bytes.length + 1
  | .lit _ => 1
  | .nil => 1
  | .ptr d => uptoBulk d + 1
  | .slice elems spare => uptoBulkAll elems + uptoBulkAll spare + 1
  | .agg parts => uptoBulkAll parts + 1
  | .iface _ d => uptoBulk d + 1
  | .map entries => uptoBulkEntries entries + 1
  | .held _ => 1
def uptoBulkAll {H : Type} : List (DataW H) → Nat
  | [] => 0
  | d :: r => uptoBulk d + uptoBulkAll r
def uptoBulkEntries {H : Type} : List (Lit × DataW H) → Nat
  | [] => 0
  | x :: r => uptoBulkEntry x + uptoBulkEntries r
def uptoBulkEntry {H : Type} : Lit × DataW H → Nat
  | (.string bytes, d) => bytes.length + uptoBulk d + 1
  | (_, d) => uptoBulk d + 1
 end
def uptoSmall : (H : Type) → List (DataW H) → Bool := fun _ ds => decide (uptoBulkAll ds ≤ 1048576)
def OpenSpec.upto (s : _root_.Go.ChangeSpec) : _root_.Go.OpenSpec := { _root_.Go.OpenSpec.ofChange s with cond := some uptoSmall }

/-- 'hornbooklaw03.FlagsReads', WHERE WHAT IT READS IS OF BULK AT MOST 1048576: true; the input reads as it did. -/
def flagsReadsUptoRow : OpenClaim := { program := "ytgcnfebifopdnaadoor", sum := "7b7a3b171c9aa71076d156fe6ad351eaab3a85fd3e9c0d7199d7ee9490cc3f34", func := "hornbook/hornbooklaw03.FlagsReads", spec := "flagsReads", inPlace := ["internal/bytealg.CountString", "internal/bytealg.IndexByteString", "internal/bytealg.IndexString"], recurses := true, named := ["unicode/utf8.first", "unicode/utf8.acceptRanges", "internal/bytealg.MaxLen"], apart := false, laid := [("unicode/utf8.acceptRanges", laid_unicode_utf8_acceptRanges), ("unicode/utf8.first", laid_unicode_utf8_first)], narrowed := true }
def FlagsReadsUptoSaid : Prop := flagsReadsUptoRow.holds Tryd.pinned (OpenSpec.upto flagsReadsSpec)

/-- 'hornbooklaw03.FlagsOnes', WHERE WHAT IT READS IS OF BULK AT MOST 1048576: true; the input reads as it did. -/
def flagsOnesUptoRow : OpenClaim := { program := "ytgcnfebifopdnaadoor", sum := "7b7a3b171c9aa71076d156fe6ad351eaab3a85fd3e9c0d7199d7ee9490cc3f34", func := "hornbook/hornbooklaw03.FlagsOnes", spec := "flagsOnes", inPlace := ["internal/bytealg.CountString", "internal/bytealg.IndexByteString", "internal/bytealg.IndexString"], recurses := true, named := ["unicode/utf8.first", "unicode/utf8.acceptRanges", "internal/bytealg.MaxLen"], apart := false, laid := [("unicode/utf8.acceptRanges", laid_unicode_utf8_acceptRanges), ("unicode/utf8.first", laid_unicode_utf8_first)], narrowed := true }
def FlagsOnesUptoSaid : Prop := flagsOnesUptoRow.holds Tryd.pinned (OpenSpec.upto flagsOnesSpec)

/-- 'hornbooklaw03.FlagsFolds', WHERE WHAT IT READS IS OF BULK AT MOST 1048576: true; the input reads as it did. -/
def flagsFoldsUptoRow : OpenClaim := { program := "ytgcnfebifopdnaadoor", sum := "7b7a3b171c9aa71076d156fe6ad351eaab3a85fd3e9c0d7199d7ee9490cc3f34", func := "hornbook/hornbooklaw03.FlagsFolds", spec := "flagsFolds", inPlace := ["internal/bytealg.CountString", "internal/bytealg.IndexByteString", "internal/bytealg.IndexString"], unfollowed := true, recurses := true, named := ["unicode/utf8.first", "unicode/utf8.acceptRanges", "internal/bytealg.MaxLen"], apart := false, laid := [("unicode/utf8.acceptRanges", laid_unicode_utf8_acceptRanges), ("unicode/utf8.first", laid_unicode_utf8_first)], narrowed := true }
def FlagsFoldsUptoSaid : Prop := flagsFoldsUptoRow.holds Tryd.pinned (OpenSpec.upto flagsFoldsSpec)

/-- 'hornbooklaw03.FlagsDrops', WHERE WHAT IT READS IS OF BULK AT MOST 1048576: true; the input reads as it did. -/
def flagsDropsUptoRow : OpenClaim := { program := "ytgcnfebifopdnaadoor", sum := "7b7a3b171c9aa71076d156fe6ad351eaab3a85fd3e9c0d7199d7ee9490cc3f34", func := "hornbook/hornbooklaw03.FlagsDrops", spec := "flagsDrops", inPlace := ["internal/bytealg.CountString", "internal/bytealg.IndexByteString", "internal/bytealg.IndexString"], unfollowed := true, recurses := true, named := ["unicode/utf8.first", "unicode/utf8.acceptRanges", "internal/bytealg.MaxLen"], apart := false, laid := [("unicode/utf8.acceptRanges", laid_unicode_utf8_acceptRanges), ("unicode/utf8.first", laid_unicode_utf8_first)], narrowed := true }
def FlagsDropsUptoSaid : Prop := flagsDropsUptoRow.holds Tryd.pinned (OpenSpec.upto flagsDropsSpec)

/-- 'hornbooklaw03.FlagsKeeps', WHERE WHAT IT READS IS OF BULK AT MOST 1048576: true; the input reads as it did. -/
def flagsKeepsUptoRow : OpenClaim := { program := "ytgcnfebifopdnaadoor", sum := "7b7a3b171c9aa71076d156fe6ad351eaab3a85fd3e9c0d7199d7ee9490cc3f34", func := "hornbook/hornbooklaw03.FlagsKeeps", spec := "flagsKeeps", inPlace := ["internal/bytealg.CountString", "internal/bytealg.IndexByteString", "internal/bytealg.IndexString"], unfollowed := true, recurses := true, named := ["unicode/utf8.first", "unicode/utf8.acceptRanges", "internal/bytealg.MaxLen"], apart := false, laid := [("unicode/utf8.acceptRanges", laid_unicode_utf8_acceptRanges), ("unicode/utf8.first", laid_unicode_utf8_first)], narrowed := true }
def FlagsKeepsUptoSaid : Prop := flagsKeepsUptoRow.holds Tryd.pinned (OpenSpec.upto flagsKeepsSpec)

/-- 'hornbooklaw03.FlagsSets', WHERE WHAT IT READS IS OF BULK AT MOST 1048576: true; the input reads as it did. -/
def flagsSetsUptoRow : OpenClaim := { program := "ytgcnfebifopdnaadoor", sum := "7b7a3b171c9aa71076d156fe6ad351eaab3a85fd3e9c0d7199d7ee9490cc3f34", func := "hornbook/hornbooklaw03.FlagsSets", spec := "flagsSets", inPlace := ["internal/bytealg.CountString", "internal/bytealg.IndexByteString", "internal/bytealg.IndexString"], unfollowed := true, recurses := true, named := ["unicode/utf8.first", "unicode/utf8.acceptRanges", "internal/bytealg.MaxLen"], apart := false, laid := [("unicode/utf8.acceptRanges", laid_unicode_utf8_acceptRanges), ("unicode/utf8.first", laid_unicode_utf8_first)], narrowed := true }
def FlagsSetsUptoSaid : Prop := flagsSetsUptoRow.holds Tryd.pinned (OpenSpec.upto flagsSetsSpec)

/-- 'hornbooklaw03.FlagsShows', WHERE WHAT IT READS IS OF BULK AT MOST 1048576: true; the input reads as it did. -/
def flagsShowsUptoRow : OpenClaim := { program := "ytgcnfebifopdnaadoor", sum := "7b7a3b171c9aa71076d156fe6ad351eaab3a85fd3e9c0d7199d7ee9490cc3f34", func := "hornbook/hornbooklaw03.FlagsShows", spec := "flagsShows", inPlace := ["internal/abi.NoEscape", "internal/bytealg.MakeNoZero", "internal/bytealg.CountString", "internal/bytealg.IndexByteString", "internal/bytealg.IndexString"], recurses := true, named := ["internal/strconv.uint64pow10", "math/bits.deBruijn32tab", "math/bits.deBruijn64tab", "unicode/utf8.first", "unicode/utf8.acceptRanges", "internal/bytealg.MaxLen"], apart := false, laid := [("math/bits.deBruijn32tab", laid_math_bits_deBruijn32tab), ("math/bits.deBruijn64tab", laid_math_bits_deBruijn64tab), ("internal/strconv.uint64pow10", laid_internal_strconv_uint64pow10), ("unicode/utf8.acceptRanges", laid_unicode_utf8_acceptRanges), ("unicode/utf8.first", laid_unicode_utf8_first)], narrowed := true }
def FlagsShowsUptoSaid : Prop := flagsShowsUptoRow.holds Tryd.pinned (OpenSpec.upto flagsShowsSpec)

/-- 'hornbooklaw03.FlagsBack', WHERE WHAT IT READS IS OF BULK AT MOST 1048576: true; the input reads as it did. -/
def flagsBackUptoRow : OpenClaim := { program := "ytgcnfebifopdnaadoor", sum := "7b7a3b171c9aa71076d156fe6ad351eaab3a85fd3e9c0d7199d7ee9490cc3f34", func := "hornbook/hornbooklaw03.FlagsBack", spec := "flagsBack", inPlace := ["internal/bytealg.CountString", "internal/bytealg.IndexByteString", "internal/bytealg.IndexString", "internal/abi.NoEscape", "internal/bytealg.MakeNoZero"], recurses := true, named := ["unicode/utf8.first", "unicode/utf8.acceptRanges", "internal/bytealg.MaxLen", "internal/strconv.uint64pow10", "math/bits.deBruijn32tab", "math/bits.deBruijn64tab"], apart := false, laid := [("math/bits.deBruijn32tab", laid_math_bits_deBruijn32tab), ("math/bits.deBruijn64tab", laid_math_bits_deBruijn64tab), ("internal/strconv.uint64pow10", laid_internal_strconv_uint64pow10), ("unicode/utf8.acceptRanges", laid_unicode_utf8_acceptRanges), ("unicode/utf8.first", laid_unicode_utf8_first)], narrowed := true }
def FlagsBackUptoSaid : Prop := flagsBackUptoRow.holds Tryd.pinned (OpenSpec.upto flagsBackSpec)

end Rows
end Go.Proofs.YtgcnfebifopdnaaDoor
