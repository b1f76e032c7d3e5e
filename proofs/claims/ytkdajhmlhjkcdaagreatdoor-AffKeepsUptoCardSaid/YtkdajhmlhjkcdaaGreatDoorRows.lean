/-
  NARROWER THAN 'FOR EVERY INPUT', by the rows' own cells (each row's printed sentence says how): AffReads: laid · AffClasses: laid · AffFlags: laid · AffRemarks: laid · AffFirst: laid · AffKeeps: laid · AffWrites: laid · AffNone: laid · AffBack: laid.
  DERIVED. THE GIVEN ROWS OF THIS SEAT. 9 by the template 'for every input the law returns true; each argument reads behind the call as it read before'; 0 by the template 'total and deterministic' (their statements: YtkdajhmlhjkcdaaGreatDoorTotals.lean).
  GIVEN WITH THE SEED: the statements are not yours to turn. If you find one false, say at which input.
  Laid BY PROGRAM, IN A SANDBOX (cutbox-rows.mjs): the forced cells as the released guide's own fill.sh prints them over the translation 31a984e0a7860bf4… (all of the seat's roots in one cut). By AI agents, Wed Nov 11 2026. No macro, syntax, notation, axiom, sorry.
-/
import Derived.Test.YtkdajhmlhjkcdaaGreatDoorChecked
import GoSem.PinnedTables
import GoSem.Claim
import GoSem.ClaimJoined
import GoSem.ClaimMapViews
import Derived.JoinedTies
import Derived.KernelRfl
namespace Go.Proofs.YtkdajhmlhjkcdaaGreatDoor
/- THE CELL 'sum', in the pinned program and in every row, IS THE sha256 OF THE DUMP (.gsa) THAT YtkdajhmlhjkcdaaGreatDoorProg.lean LOADS. Nothing in Lean hashes anything: it is a label: what it is worth is what the hold of that sum in a sandbox is worth. -/
noncomputable def Tryz.pinned : Pinned := { name := "ytkdajhmlhjkcdaagreatdoor", sum := "31a984e0a7860bf41bf17169cfc7dbeacfeed969781d2bed316e26c6f1c67af7", checked := Tryz.checked }
namespace Rows
def none {H : Type} : Left H := { results := [], args := [] }

/- WHAT THE LISTED PACKAGE-LEVEL VARIABLES READ AS WHEN THE CALL BEGINS. Each datum BY PROGRAM (the guide's laid-datum.mjs) off the statement by which the dump's own 'gosem.cut.vars' lays the variable. In a bare row this is a premise. The card (YtkdajhmlhjkcdaaGreatDoorCards.lean) ties it to the program's text. -/
def laid_unicode_utf8_acceptRanges {H : Type} : DataW H := .agg [.agg [.lit (.int .u8 128), .lit (.int .u8 191)], .agg [.lit (.int .u8 160), .lit (.int .u8 191)], .agg [.lit (.int .u8 128), .lit (.int .u8 159)], .agg [.lit (.int .u8 144), .lit (.int .u8 191)], .agg [.lit (.int .u8 128), .lit (.int .u8 143)], .agg [.lit (.int .u8 0), .lit (.int .u8 0)], .agg [.lit (.int .u8 0), .lit (.int .u8 0)], .agg [.lit (.int .u8 0), .lit (.int .u8 0)], .agg [.lit (.int .u8 0), .lit (.int .u8 0)], .agg [.lit (.int .u8 0), .lit (.int .u8 0)], .agg [.lit (.int .u8 0), .lit (.int .u8 0)], .agg [.lit (.int .u8 0), .lit (.int .u8 0)], .agg [.lit (.int .u8 0), .lit (.int .u8 0)], .agg [.lit (.int .u8 0), .lit (.int .u8 0)], .agg [.lit (.int .u8 0), .lit (.int .u8 0)], .agg [.lit (.int .u8 0), .lit (.int .u8 0)]]
/-- One of Go's own tables, pinned by name: the form's constant. -/
def laid_unicode_utf8_first : DataW Unit := Go.Pinned.utf8First
def laid_math_bits_deBruijn32tab {H : Type} : DataW H := .agg [.lit (.int .u8 0), .lit (.int .u8 1), .lit (.int .u8 28), .lit (.int .u8 2), .lit (.int .u8 29), .lit (.int .u8 14), .lit (.int .u8 24), .lit (.int .u8 3), .lit (.int .u8 30), .lit (.int .u8 22), .lit (.int .u8 20), .lit (.int .u8 15), .lit (.int .u8 25), .lit (.int .u8 17), .lit (.int .u8 4), .lit (.int .u8 8), .lit (.int .u8 31), .lit (.int .u8 27), .lit (.int .u8 13), .lit (.int .u8 23), .lit (.int .u8 21), .lit (.int .u8 19), .lit (.int .u8 16), .lit (.int .u8 7), .lit (.int .u8 26), .lit (.int .u8 12), .lit (.int .u8 18), .lit (.int .u8 6), .lit (.int .u8 11), .lit (.int .u8 5), .lit (.int .u8 10), .lit (.int .u8 9)]
def laid_math_bits_deBruijn64tab {H : Type} : DataW H := .agg [.lit (.int .u8 0), .lit (.int .u8 1), .lit (.int .u8 56), .lit (.int .u8 2), .lit (.int .u8 57), .lit (.int .u8 49), .lit (.int .u8 28), .lit (.int .u8 3), .lit (.int .u8 61), .lit (.int .u8 58), .lit (.int .u8 42), .lit (.int .u8 50), .lit (.int .u8 38), .lit (.int .u8 29), .lit (.int .u8 17), .lit (.int .u8 4), .lit (.int .u8 62), .lit (.int .u8 47), .lit (.int .u8 59), .lit (.int .u8 36), .lit (.int .u8 45), .lit (.int .u8 43), .lit (.int .u8 51), .lit (.int .u8 22), .lit (.int .u8 53), .lit (.int .u8 39), .lit (.int .u8 33), .lit (.int .u8 30), .lit (.int .u8 24), .lit (.int .u8 18), .lit (.int .u8 12), .lit (.int .u8 5), .lit (.int .u8 63), .lit (.int .u8 55), .lit (.int .u8 48), .lit (.int .u8 27), .lit (.int .u8 60), .lit (.int .u8 41), .lit (.int .u8 37), .lit (.int .u8 16), .lit (.int .u8 46), .lit (.int .u8 35), .lit (.int .u8 44), .lit (.int .u8 21), .lit (.int .u8 52), .lit (.int .u8 32), .lit (.int .u8 23), .lit (.int .u8 11), .lit (.int .u8 54), .lit (.int .u8 26), .lit (.int .u8 40), .lit (.int .u8 15), .lit (.int .u8 34), .lit (.int .u8 20), .lit (.int .u8 31), .lit (.int .u8 10), .lit (.int .u8 25), .lit (.int .u8 14), .lit (.int .u8 19), .lit (.int .u8 9), .lit (.int .u8 13), .lit (.int .u8 8), .lit (.int .u8 7), .lit (.int .u8 6)]
def laid_internal_strconv_uint64pow10 {H : Type} : DataW H := .agg [.lit (.int .u64 1), .lit (.int .u64 10), .lit (.int .u64 100), .lit (.int .u64 1000), .lit (.int .u64 10000), .lit (.int .u64 100000), .lit (.int .u64 1000000), .lit (.int .u64 10000000), .lit (.int .u64 100000000), .lit (.int .u64 1000000000), .lit (.int .u64 10000000000), .lit (.int .u64 100000000000), .lit (.int .u64 1000000000000), .lit (.int .u64 10000000000000), .lit (.int .u64 100000000000000), .lit (.int .u64 1000000000000000), .lit (.int .u64 10000000000000000), .lit (.int .u64 100000000000000000), .lit (.int .u64 1000000000000000000), .lit (.int .u64 10000000000000000000)]

/-- 'hornbooklaw11.AffReads': WHATEVER THE INPUT: true; the input reads as it did. -/
def affReadsSpec : ChangeSpec := { name := "affReads", fn := fun _ => fun
  | [d] => { results := [.lit (.bool true)], args := [d] }
  | _ => none }
def affReadsRow : OpenClaim := { program := "ytkdajhmlhjkcdaagreatdoor", sum := "31a984e0a7860bf41bf17169cfc7dbeacfeed969781d2bed316e26c6f1c67af7", func := "hornbook/hornbooklaw11.AffReads", spec := "affReads", inPlace := ["internal/bytealg.IndexByteString", "internal/bytealg.IndexString", "internal/abi.NoEscape", "internal/bytealg.CountString"], unfollowed := true, recurses := true, named := ["internal/bytealg.MaxLen", "unicode/utf8.first", "unicode/utf8.acceptRanges"], apart := false, laid := [("unicode/utf8.acceptRanges", laid_unicode_utf8_acceptRanges), ("unicode/utf8.first", laid_unicode_utf8_first)] }
def AffReadsSaid : Prop := affReadsRow.holds Tryz.pinned (OpenSpec.ofChange affReadsSpec)

/-- ITS FALSE NEIGHBOUR: 'it returns false'. Refute it at one input. -/
def affReadsWrong : ChangeSpec := { name := "affReads", fn := fun _ => fun
  | [d] => { results := [.lit (.bool false)], args := [d] }
  | _ => none }
def AffReadsWrongFalsely : Prop := affReadsRow.holds Tryz.pinned (OpenSpec.ofChange affReadsWrong)

/-- 'hornbooklaw11.AffClasses': WHATEVER THE INPUT: true; the input reads as it did. -/
def affClassesSpec : ChangeSpec := { name := "affClasses", fn := fun _ => fun
  | [d1, d2] => { results := [.lit (.bool true)], args := [d1, d2] }
  | _ => none }
def affClassesRow : OpenClaim := { program := "ytkdajhmlhjkcdaagreatdoor", sum := "31a984e0a7860bf41bf17169cfc7dbeacfeed969781d2bed316e26c6f1c67af7", func := "hornbook/hornbooklaw11.AffClasses", spec := "affClasses", inPlace := ["internal/bytealg.IndexByteString", "internal/bytealg.IndexString", "internal/abi.NoEscape", "internal/bytealg.CountString"], unfollowed := true, recurses := true, named := ["internal/bytealg.MaxLen", "unicode/utf8.first", "unicode/utf8.acceptRanges"], apart := false, laid := [("unicode/utf8.acceptRanges", laid_unicode_utf8_acceptRanges), ("unicode/utf8.first", laid_unicode_utf8_first)] }
def AffClassesSaid : Prop := affClassesRow.holds Tryz.pinned (OpenSpec.ofChange affClassesSpec)

/-- ITS FALSE NEIGHBOUR: 'it returns false'. Refute it at one input. -/
def affClassesWrong : ChangeSpec := { name := "affClasses", fn := fun _ => fun
  | [d1, d2] => { results := [.lit (.bool false)], args := [d1, d2] }
  | _ => none }
def AffClassesWrongFalsely : Prop := affClassesRow.holds Tryz.pinned (OpenSpec.ofChange affClassesWrong)

/-- 'hornbooklaw11.AffFlags': WHATEVER THE INPUT: true; the input reads as it did. -/
def affFlagsSpec : ChangeSpec := { name := "affFlags", fn := fun _ => fun
  | [d1, d2] => { results := [.lit (.bool true)], args := [d1, d2] }
  | _ => none }
def affFlagsRow : OpenClaim := { program := "ytkdajhmlhjkcdaagreatdoor", sum := "31a984e0a7860bf41bf17169cfc7dbeacfeed969781d2bed316e26c6f1c67af7", func := "hornbook/hornbooklaw11.AffFlags", spec := "affFlags", inPlace := ["internal/bytealg.IndexByteString", "internal/bytealg.IndexString", "internal/abi.NoEscape", "internal/bytealg.CountString"], unfollowed := true, recurses := true, named := ["internal/bytealg.MaxLen", "unicode/utf8.first", "unicode/utf8.acceptRanges"], apart := false, laid := [("unicode/utf8.acceptRanges", laid_unicode_utf8_acceptRanges), ("unicode/utf8.first", laid_unicode_utf8_first)] }
def AffFlagsSaid : Prop := affFlagsRow.holds Tryz.pinned (OpenSpec.ofChange affFlagsSpec)

/-- ITS FALSE NEIGHBOUR: 'it returns false'. Refute it at one input. -/
def affFlagsWrong : ChangeSpec := { name := "affFlags", fn := fun _ => fun
  | [d1, d2] => { results := [.lit (.bool false)], args := [d1, d2] }
  | _ => none }
def AffFlagsWrongFalsely : Prop := affFlagsRow.holds Tryz.pinned (OpenSpec.ofChange affFlagsWrong)

/-- 'hornbooklaw11.AffRemarks': WHATEVER THE INPUT: true; the input reads as it did. -/
def affRemarksSpec : ChangeSpec := { name := "affRemarks", fn := fun _ => fun
  | [d1, d2, d3] => { results := [.lit (.bool true)], args := [d1, d2, d3] }
  | _ => none }
def affRemarksRow : OpenClaim := { program := "ytkdajhmlhjkcdaagreatdoor", sum := "31a984e0a7860bf41bf17169cfc7dbeacfeed969781d2bed316e26c6f1c67af7", func := "hornbook/hornbooklaw11.AffRemarks", spec := "affRemarks", inPlace := ["internal/bytealg.IndexByteString", "internal/bytealg.IndexString", "internal/abi.NoEscape", "internal/bytealg.CountString"], unfollowed := true, recurses := true, named := ["internal/bytealg.MaxLen", "unicode/utf8.first", "unicode/utf8.acceptRanges"], apart := false, laid := [("unicode/utf8.acceptRanges", laid_unicode_utf8_acceptRanges), ("unicode/utf8.first", laid_unicode_utf8_first)] }
def AffRemarksSaid : Prop := affRemarksRow.holds Tryz.pinned (OpenSpec.ofChange affRemarksSpec)

/-- ITS FALSE NEIGHBOUR: 'it returns false'. Refute it at one input. -/
def affRemarksWrong : ChangeSpec := { name := "affRemarks", fn := fun _ => fun
  | [d1, d2, d3] => { results := [.lit (.bool false)], args := [d1, d2, d3] }
  | _ => none }
def AffRemarksWrongFalsely : Prop := affRemarksRow.holds Tryz.pinned (OpenSpec.ofChange affRemarksWrong)

/-- 'hornbooklaw11.AffFirst': WHATEVER THE INPUT: true; the input reads as it did. -/
def affFirstSpec : ChangeSpec := { name := "affFirst", fn := fun _ => fun
  | [d1, d2] => { results := [.lit (.bool true)], args := [d1, d2] }
  | _ => none }
def affFirstRow : OpenClaim := { program := "ytkdajhmlhjkcdaagreatdoor", sum := "31a984e0a7860bf41bf17169cfc7dbeacfeed969781d2bed316e26c6f1c67af7", func := "hornbook/hornbooklaw11.AffFirst", spec := "affFirst", inPlace := ["internal/bytealg.IndexByteString", "internal/bytealg.IndexString", "internal/abi.NoEscape", "internal/bytealg.CountString"], unfollowed := true, recurses := true, named := ["internal/bytealg.MaxLen", "unicode/utf8.first", "unicode/utf8.acceptRanges"], apart := false, laid := [("unicode/utf8.acceptRanges", laid_unicode_utf8_acceptRanges), ("unicode/utf8.first", laid_unicode_utf8_first)] }
def AffFirstSaid : Prop := affFirstRow.holds Tryz.pinned (OpenSpec.ofChange affFirstSpec)

/-- ITS FALSE NEIGHBOUR: 'it returns false'. Refute it at one input. -/
def affFirstWrong : ChangeSpec := { name := "affFirst", fn := fun _ => fun
  | [d1, d2] => { results := [.lit (.bool false)], args := [d1, d2] }
  | _ => none }
def AffFirstWrongFalsely : Prop := affFirstRow.holds Tryz.pinned (OpenSpec.ofChange affFirstWrong)

/-- 'hornbooklaw11.AffKeeps': WHATEVER THE INPUT: true; the input reads as it did. -/
def affKeepsSpec : ChangeSpec := { name := "affKeeps", fn := fun _ => fun
  | [d1, d2] => { results := [.lit (.bool true)], args := [d1, d2] }
  | _ => none }
def affKeepsRow : OpenClaim := { program := "ytkdajhmlhjkcdaagreatdoor", sum := "31a984e0a7860bf41bf17169cfc7dbeacfeed969781d2bed316e26c6f1c67af7", func := "hornbook/hornbooklaw11.AffKeeps", spec := "affKeeps", inPlace := ["internal/bytealg.IndexByteString", "internal/bytealg.IndexString", "internal/abi.NoEscape", "internal/bytealg.CountString"], unfollowed := true, recurses := true, named := ["internal/bytealg.MaxLen", "unicode/utf8.first", "unicode/utf8.acceptRanges"], apart := false, laid := [("unicode/utf8.acceptRanges", laid_unicode_utf8_acceptRanges), ("unicode/utf8.first", laid_unicode_utf8_first)] }
def AffKeepsSaid : Prop := affKeepsRow.holds Tryz.pinned (OpenSpec.ofChange affKeepsSpec)

/-- ITS FALSE NEIGHBOUR: 'it returns false'. Refute it at one input. -/
def affKeepsWrong : ChangeSpec := { name := "affKeeps", fn := fun _ => fun
  | [d1, d2] => { results := [.lit (.bool false)], args := [d1, d2] }
  | _ => none }
def AffKeepsWrongFalsely : Prop := affKeepsRow.holds Tryz.pinned (OpenSpec.ofChange affKeepsWrong)

/-- 'hornbooklaw11.AffWrites': WHATEVER THE INPUT: true; the input reads as it did. -/
def affWritesSpec : ChangeSpec := { name := "affWrites", fn := fun _ => fun
  | [d1, d2] => { results := [.lit (.bool true)], args := [d1, d2] }
  | _ => none }
def affWritesRow : OpenClaim := { program := "ytkdajhmlhjkcdaagreatdoor", sum := "31a984e0a7860bf41bf17169cfc7dbeacfeed969781d2bed316e26c6f1c67af7", func := "hornbook/hornbooklaw11.AffWrites", spec := "affWrites", inPlace := ["internal/bytealg.IndexByteString", "internal/bytealg.IndexString", "internal/abi.NoEscape", "internal/bytealg.CountString", "internal/bytealg.MakeNoZero"], unfollowed := true, recurses := true, named := ["internal/bytealg.MaxLen", "unicode/utf8.first", "unicode/utf8.acceptRanges", "internal/strconv.uint64pow10", "math/bits.deBruijn32tab", "math/bits.deBruijn64tab"], apart := false, laid := [("math/bits.deBruijn32tab", laid_math_bits_deBruijn32tab), ("math/bits.deBruijn64tab", laid_math_bits_deBruijn64tab), ("internal/strconv.uint64pow10", laid_internal_strconv_uint64pow10), ("unicode/utf8.acceptRanges", laid_unicode_utf8_acceptRanges), ("unicode/utf8.first", laid_unicode_utf8_first)] }
def AffWritesSaid : Prop := affWritesRow.holds Tryz.pinned (OpenSpec.ofChange affWritesSpec)

/-- ITS FALSE NEIGHBOUR: 'it returns false'. Refute it at one input. -/
def affWritesWrong : ChangeSpec := { name := "affWrites", fn := fun _ => fun
  | [d1, d2] => { results := [.lit (.bool false)], args := [d1, d2] }
  | _ => none }
def AffWritesWrongFalsely : Prop := affWritesRow.holds Tryz.pinned (OpenSpec.ofChange affWritesWrong)

/-- 'hornbooklaw11.AffNone': WHATEVER THE INPUT: true; the input reads as it did. -/
def affNoneSpec : ChangeSpec := { name := "affNone", fn := fun _ => fun
  | [d1, d2] => { results := [.lit (.bool true)], args := [d1, d2] }
  | _ => none }
def affNoneRow : OpenClaim := { program := "ytkdajhmlhjkcdaagreatdoor", sum := "31a984e0a7860bf41bf17169cfc7dbeacfeed969781d2bed316e26c6f1c67af7", func := "hornbook/hornbooklaw11.AffNone", spec := "affNone", inPlace := ["internal/bytealg.CountString", "internal/bytealg.IndexByteString", "internal/bytealg.IndexString", "internal/abi.NoEscape", "internal/bytealg.MakeNoZero"], unfollowed := true, recurses := true, named := ["unicode/utf8.first", "unicode/utf8.acceptRanges", "internal/bytealg.MaxLen", "internal/strconv.uint64pow10", "math/bits.deBruijn32tab", "math/bits.deBruijn64tab"], apart := false, laid := [("math/bits.deBruijn32tab", laid_math_bits_deBruijn32tab), ("math/bits.deBruijn64tab", laid_math_bits_deBruijn64tab), ("internal/strconv.uint64pow10", laid_internal_strconv_uint64pow10), ("unicode/utf8.acceptRanges", laid_unicode_utf8_acceptRanges), ("unicode/utf8.first", laid_unicode_utf8_first)] }
def AffNoneSaid : Prop := affNoneRow.holds Tryz.pinned (OpenSpec.ofChange affNoneSpec)

/-- ITS FALSE NEIGHBOUR: 'it returns false'. Refute it at one input. -/
def affNoneWrong : ChangeSpec := { name := "affNone", fn := fun _ => fun
  | [d1, d2] => { results := [.lit (.bool false)], args := [d1, d2] }
  | _ => none }
def AffNoneWrongFalsely : Prop := affNoneRow.holds Tryz.pinned (OpenSpec.ofChange affNoneWrong)

/-- 'hornbooklaw11.AffBack': WHATEVER THE INPUT: true; the input reads as it did. -/
def affBackSpec : ChangeSpec := { name := "affBack", fn := fun _ => fun
  | [d1, d2, d3] => { results := [.lit (.bool true)], args := [d1, d2, d3] }
  | _ => none }
def affBackRow : OpenClaim := { program := "ytkdajhmlhjkcdaagreatdoor", sum := "31a984e0a7860bf41bf17169cfc7dbeacfeed969781d2bed316e26c6f1c67af7", func := "hornbook/hornbooklaw11.AffBack", spec := "affBack", inPlace := ["internal/bytealg.IndexByteString", "internal/bytealg.IndexString", "internal/abi.NoEscape", "internal/bytealg.CountString", "internal/bytealg.MakeNoZero"], unfollowed := true, recurses := true, named := ["internal/bytealg.MaxLen", "unicode/utf8.first", "unicode/utf8.acceptRanges", "internal/strconv.uint64pow10", "math/bits.deBruijn32tab", "math/bits.deBruijn64tab"], apart := false, laid := [("math/bits.deBruijn32tab", laid_math_bits_deBruijn32tab), ("math/bits.deBruijn64tab", laid_math_bits_deBruijn64tab), ("internal/strconv.uint64pow10", laid_internal_strconv_uint64pow10), ("unicode/utf8.acceptRanges", laid_unicode_utf8_acceptRanges), ("unicode/utf8.first", laid_unicode_utf8_first)] }
def AffBackSaid : Prop := affBackRow.holds Tryz.pinned (OpenSpec.ofChange affBackSpec)

/-- ITS FALSE NEIGHBOUR: 'it returns false'. Refute it at one input. -/
def affBackWrong : ChangeSpec := { name := "affBack", fn := fun _ => fun
  | [d1, d2, d3] => { results := [.lit (.bool false)], args := [d1, d2, d3] }
  | _ => none }
def AffBackWrongFalsely : Prop := affBackRow.holds Tryz.pinned (OpenSpec.ofChange affBackWrong)

/- THE SECOND FORM. 'bulk': how many values and letters a reading holds, each counted each time it is reached (what is shared counts as often as it is met; a slice's spare places count too). A statement '..UptoSaid' is the law's where the arguments, and the package variables that the reading takes, are together of bulk at most 1048576: NARROWER than '..Said'. Prove '..Said' where nothing that the law and all that it calls make is longer than what came in: it says more and counts as full. Else prove '..UptoSaid'. A law counts once. -/
mutual
def uptoBulk {H : Type} : DataW H → Nat
  | .lit (.string bytes) => bytes.length + 1
  | .lit _ => 1
  | .nil => 1
  | .ptr d => uptoBulk d + 1
  | .slice elems spare => uptoBulkAll elems + uptoBulkAll spare + 1
  | .agg parts => uptoBulkAll parts + 1
  | .iface _ d => uptoBulk d + 1
  | .map entries => uptoBulkEntries entries + 1
  | .held _ => 1
def uptoBulkAll {H : Type} : List (DataW H) → Nat
  | [] => 0
  | d :: r => uptoBulk d + uptoBulkAll r
def uptoBulkEntries {H : Type} : List (Lit × DataW H) → Nat
  | [] => 0
  | x :: r => uptoBulkEntry x + uptoBulkEntries r
def uptoBulkEntry {H : Type} : Lit × DataW H → Nat
  | (.string bytes, d) => bytes.length + uptoBulk d + 1
  | (_, d) => uptoBulk d + 1
 end
def uptoSmall : (H : Type) → List (DataW H) → Bool := fun _ ds => decide (uptoBulkAll ds ≤ 1048576)
def OpenSpec.upto (s : _root_.Go.ChangeSpec) : _root_.Go.OpenSpec := { _root_.Go.OpenSpec.ofChange s with cond := some uptoSmall }

/-- 'hornbooklaw11.AffReads', WHERE WHAT IT READS IS OF BULK AT MOST 1048576: true; the input reads as it did. -/
def affReadsUptoRow : OpenClaim := { program := "ytkdajhmlhjkcdaagreatdoor", sum := "31a984e0a7860bf41bf17169cfc7dbeacfeed969781d2bed316e26c6f1c67af7", func := "hornbook/hornbooklaw11.AffReads", spec := "affReads", inPlace := ["internal/bytealg.IndexByteString", "internal/bytealg.IndexString", "internal/abi.NoEscape", "internal/bytealg.CountString"], unfollowed := true, recurses := true, named := ["internal/bytealg.MaxLen", "unicode/utf8.first", "unicode/utf8.acceptRanges"], apart := false, laid := [("unicode/utf8.acceptRanges", laid_unicode_utf8_acceptRanges), ("unicode/utf8.first", laid_unicode_utf8_first)], narrowed := true }
def AffReadsUptoSaid : Prop := affReadsUptoRow.holds Tryz.pinned (OpenSpec.upto affReadsSpec)

/-- 'hornbooklaw11.AffClasses', WHERE WHAT IT READS IS OF BULK AT MOST 1048576: true; the input reads as it did. -/
def affClassesUptoRow : OpenClaim := { program := "ytkdajhmlhjkcdaagreatdoor", sum := "31a984e0a7860bf41bf17169cfc7dbeacfeed969781d2bed316e26c6f1c67af7", func := "hornbook/hornbooklaw11.AffClasses", spec := "affClasses", inPlace := ["internal/bytealg.IndexByteString", "internal/bytealg.IndexString", "internal/abi.NoEscape", "internal/bytealg.CountString"], unfollowed := true, recurses := true, named := ["internal/bytealg.MaxLen", "unicode/utf8.first", "unicode/utf8.acceptRanges"], apart := false, laid := [("unicode/utf8.acceptRanges", laid_unicode_utf8_acceptRanges), ("unicode/utf8.first", laid_unicode_utf8_first)], narrowed := true }
def AffClassesUptoSaid : Prop := affClassesUptoRow.holds Tryz.pinned (OpenSpec.upto affClassesSpec)

/-- 'hornbooklaw11.AffFlags', WHERE WHAT IT READS IS OF BULK AT MOST 1048576: true; the input reads as it did. -/
def affFlagsUptoRow : OpenClaim := { program := "ytkdajhmlhjkcdaagreatdoor", sum := "31a984e0a7860bf41bf17169cfc7dbeacfeed969781d2bed316e26c6f1c67af7", func := "hornbook/hornbooklaw11.AffFlags", spec := "affFlags", inPlace := ["internal/bytealg.IndexByteString", "internal/bytealg.IndexString", "internal/abi.NoEscape", "internal/bytealg.CountString"], unfollowed := true, recurses := true, named := ["internal/bytealg.MaxLen", "unicode/utf8.first", "unicode/utf8.acceptRanges"], apart := false, laid := [("unicode/utf8.acceptRanges", laid_unicode_utf8_acceptRanges), ("unicode/utf8.first", laid_unicode_utf8_first)], narrowed := true }
def AffFlagsUptoSaid : Prop := affFlagsUptoRow.holds Tryz.pinned (OpenSpec.upto affFlagsSpec)

/-- 'hornbooklaw11.AffRemarks', WHERE WHAT IT READS IS OF BULK AT MOST 1048576: true; the input reads as it did. -/
def affRemarksUptoRow : OpenClaim := { program := "ytkdajhmlhjkcdaagreatdoor", sum := "31a984e0a7860bf41bf17169cfc7dbeacfeed969781d2bed316e26c6f1c67af7", func := "hornbook/hornbooklaw11.AffRemarks", spec := "affRemarks", inPlace := ["internal/bytealg.IndexByteString", "internal/bytealg.IndexString", "internal/abi.NoEscape", "internal/bytealg.CountString"], unfollowed := true, recurses := true, named := ["internal/bytealg.MaxLen", "unicode/utf8.first", "unicode/utf8.acceptRanges"], apart := false, laid := [("unicode/utf8.acceptRanges", laid_unicode_utf8_acceptRanges), ("unicode/utf8.first", laid_unicode_utf8_first)], narrowed := true }
def AffRemarksUptoSaid : Prop := affRemarksUptoRow.holds Tryz.pinned (OpenSpec.upto affRemarksSpec)

/-- 'hornbooklaw11.AffFirst', WHERE WHAT IT READS IS OF BULK AT MOST 1048576: true; the input reads as it did. -/
def affFirstUptoRow : OpenClaim := { program := "ytkdajhmlhjkcdaagreatdoor", sum := "31a984e0a7860bf41bf17169cfc7dbeacfeed969781d2bed316e26c6f1c67af7", func := "hornbook/hornbooklaw11.AffFirst", spec := "affFirst", inPlace := ["internal/bytealg.IndexByteString", "internal/bytealg.IndexString", "internal/abi.NoEscape", "internal/bytealg.CountString"], unfollowed := true, recurses := true, named := ["internal/bytealg.MaxLen", "unicode/utf8.first", "unicode/utf8.acceptRanges"], apart := false, laid := [("unicode/utf8.acceptRanges", laid_unicode_utf8_acceptRanges), ("unicode/utf8.first", laid_unicode_utf8_first)], narrowed := true }
def AffFirstUptoSaid : Prop := affFirstUptoRow.holds Tryz.pinned (OpenSpec.upto affFirstSpec)

/-- 'hornbooklaw11.AffKeeps', WHERE WHAT IT READS IS OF BULK AT MOST 1048576: true; the input reads as it did. -/
def affKeepsUptoRow : OpenClaim := { program := "ytkdajhmlhjkcdaagreatdoor", sum := "31a984e0a7860bf41bf17169cfc7dbeacfeed969781d2bed316e26c6f1c67af7", func := "hornbook/hornbooklaw11.AffKeeps", spec := "affKeeps", inPlace := ["internal/bytealg.IndexByteString", "internal/bytealg.IndexString", "internal/abi.NoEscape", "internal/bytealg.CountString"], unfollowed := true, recurses := true, named := ["internal/bytealg.MaxLen", "unicode/utf8.first", "unicode/utf8.acceptRanges"], apart := false, laid := [("unicode/utf8.acceptRanges", laid_unicode_utf8_acceptRanges), ("unicode/utf8.first", laid_unicode_utf8_first)], narrowed := true }
def AffKeepsUptoSaid : Prop := affKeepsUptoRow.holds Tryz.pinned (OpenSpec.upto affKeepsSpec)

/-- 'hornbooklaw11.AffWrites', WHERE WHAT IT READS IS OF BULK AT MOST 1048576: true; the input reads as it did. -/
def affWritesUptoRow : OpenClaim := { program := "ytkdajhmlhjkcdaagreatdoor", sum := "31a984e0a7860bf41bf17169cfc7dbeacfeed969781d2bed316e26c6f1c67af7", func := "hornbook/hornbooklaw11.AffWrites", spec := "affWrites", inPlace := ["internal/bytealg.IndexByteString", "internal/bytealg.IndexString", "internal/abi.NoEscape", "internal/bytealg.CountString", "internal/bytealg.MakeNoZero"], unfollowed := true, recurses := true, named := ["internal/bytealg.MaxLen", "unicode/utf8.first", "unicode/utf8.acceptRanges", "internal/strconv.uint64pow10", "math/bits.deBruijn32tab", "math/bits.deBruijn64tab"], apart := false, laid := [("math/bits.deBruijn32tab", laid_math_bits_deBruijn32tab), ("math/bits.deBruijn64tab", laid_math_bits_deBruijn64tab), ("internal/strconv.uint64pow10", laid_internal_strconv_uint64pow10), ("unicode/utf8.acceptRanges", laid_unicode_utf8_acceptRanges), ("unicode/utf8.first", laid_unicode_utf8_first)], narrowed := true }
def AffWritesUptoSaid : Prop := affWritesUptoRow.holds Tryz.pinned (OpenSpec.upto affWritesSpec)

/-- 'hornbooklaw11.AffNone', WHERE WHAT IT READS IS OF BULK AT MOST 1048576: true; the input reads as it did. -/
def affNoneUptoRow : OpenClaim := { program := "ytkdajhmlhjkcdaagreatdoor", sum := "31a984e0a7860bf41bf17169cfc7dbeacfeed969781d2bed316e26c6f1c67af7", func := "hornbook/hornbooklaw11.AffNone", spec := "affNone", inPlace := ["internal/bytealg.CountString", "internal/bytealg.IndexByteString", "internal/bytealg.IndexString", "internal/abi.NoEscape", "internal/bytealg.MakeNoZero"], unfollowed := true, recurses := true, named := ["unicode/utf8.first", "unicode/utf8.acceptRanges", "internal/bytealg.MaxLen", "internal/strconv.uint64pow10", "math/bits.deBruijn32tab", "math/bits.deBruijn64tab"], apart := false, laid := [("math/bits.deBruijn32tab", laid_math_bits_deBruijn32tab), ("math/bits.deBruijn64tab", laid_math_bits_deBruijn64tab), ("internal/strconv.uint64pow10", laid_internal_strconv_uint64pow10), ("unicode/utf8.acceptRanges", laid_unicode_utf8_acceptRanges), ("unicode/utf8.first", laid_unicode_utf8_first)], narrowed := true }
def AffNoneUptoSaid : Prop := affNoneUptoRow.holds Tryz.pinned (OpenSpec.upto affNoneSpec)

/-- 'hornbooklaw11.AffBack', WHERE WHAT IT READS IS OF BULK AT MOST 1048576: true; the input reads as it did. -/
def affBackUptoRow : OpenClaim := { program := "ytkdajhmlhjkcdaagreatdoor", sum := "31a984e0a7860bf41bf17169cfc7dbeacfeed969781d2bed316e26c6f1c67af7", func := "hornbook/hornbooklaw11.AffBack", spec := "affBack", inPlace := ["internal/bytealg.IndexByteString", "internal/bytealg.IndexString", "internal/abi.NoEscape", "internal/bytealg.CountString", "internal/bytealg.MakeNoZero"], unfollowed := true, recurses := true, named := ["internal/bytealg.MaxLen", "unicode/utf8.first", "unicode/utf8.acceptRanges", "internal/strconv.uint64pow10", "math/bits.deBruijn32tab", "math/bits.deBruijn64tab"], apart := false, laid := [("math/bits.deBruijn32tab", laid_math_bits_deBruijn32tab), ("math/bits.deBruijn64tab", laid_math_bits_deBruijn64tab), ("internal/strconv.uint64pow10", laid_internal_strconv_uint64pow10), ("unicode/utf8.acceptRanges", laid_unicode_utf8_acceptRanges), ("unicode/utf8.first", laid_unicode_utf8_first)], narrowed := true }
def AffBackUptoSaid : Prop := affBackUptoRow.holds Tryz.pinned (OpenSpec.upto affBackSpec)

end Rows
end Go.Proofs.YtkdajhmlhjkcdaaGreatDoor
