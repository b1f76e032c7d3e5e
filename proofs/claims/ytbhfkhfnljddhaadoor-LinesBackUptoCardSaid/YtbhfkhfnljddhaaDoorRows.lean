/-
  NARROWER THAN 'FOR EVERY INPUT', by the rows' own cells (each row's printed sentence says how): LinesFielded: laid · LinesNumbered: laid · LinesDecimals: laid · LinesCounts: laid · LinesBlanks: laid · LinesEaches: laid · LinesSplits: laid · LinesEnds: laid · LinesRowed: laid · LinesKeeps: laid · LinesShown: laid · LinesBack: laid.
  DERIVED. THE GIVEN ROWS OF THIS SEAT. 12 by the template 'for every input the law returns true; each argument reads behind the call as it read before'; 0 by the template 'total and deterministic' (their statements: YtbhfkhfnljddhaaDoorTotals.lean).
  GIVEN WITH THE SEED: the statements are not yours to turn. If you find one false, say at which input.
  Laid BY PROGRAM, IN A SANDBOX (cutbox-rows.mjs): the forced cells as the released guide's own fill.sh prints them over the translation 1194983da264e5ee… (all of the seat's roots in one cut). By AI agents, Wed Nov 11 2026. No macro, syntax, notation, axiom, sorry.
-/
import Derived.Test.YtbhfkhfnljddhaaDoorChecked
import GoSem.Claim
import GoSem.ClaimJoined
import GoSem.ClaimMapViews
import Derived.JoinedTies
import Derived.KernelRfl
namespace Go.Proofs.YtbhfkhfnljddhaaDoor
/- THE CELL 'sum', in the pinned program and in every row, IS THE sha256 OF THE DUMP (.gsa) THAT YtbhfkhfnljddhaaDoorProg.lean LOADS. Nothing in Lean hashes anything: it is a label: what it is worth is what the hold of that sum in a sandbox is worth. -/
noncomputable def Tryd.pinned : Pinned := { name := "ytbhfkhfnljddhaadoor", sum := "1194983da264e5ee9b661f0ee5fda7464032e4a70cd1f03a2f06630d37903002", checked := Tryd.checked }
namespace Rows
def none {H : Type} : Left H := { results := [], args := [] }

/- WHAT THE LISTED PACKAGE-LEVEL VARIABLES READ AS WHEN THE CALL BEGINS. Each datum BY PROGRAM (the guide's laid-datum.mjs) off the statement by which the dump's own 'gosem.cut.vars' lays the variable. In a bare row this is a premise. The card (YtbhfkhfnljddhaaDoorCards.lean) ties it to the program's text. -/
def laid_math_bits_deBruijn32tab {H : Type} : DataW H := .agg [.lit (.int .u8 0), .lit (.int .u8 1), .lit (.int .u8 28), .lit (.int .u8 2), .lit (.int .u8 29), .lit (.int .u8 14), .lit (.int .u8 24), .lit (.int .u8 3), .lit (.int .u8 30), .lit (.int .u8 22), .lit (.int .u8 20), .lit (.int .u8 15), .lit (.int .u8 25), .lit (.int .u8 17), .lit (.int .u8 4), .lit (.int .u8 8), .lit (.int .u8 31), .lit (.int .u8 27), .lit (.int .u8 13), .lit (.int .u8 23), .lit (.int .u8 21), .lit (.int .u8 19), .lit (.int .u8 16), .lit (.int .u8 7), .lit (.int .u8 26), .lit (.int .u8 12), .lit (.int .u8 18), .lit (.int .u8 6), .lit (.int .u8 11), .lit (.int .u8 5), .lit (.int .u8 10), .lit (.int .u8 9)]
def laid_math_bits_deBruijn64tab {H : Type} : DataW H := .agg [.lit (.int .u8 0), .lit (.int .u8 1), .lit (.int .u8 56), .lit (.int .u8 2), .lit (.int .u8 57), .lit (.int .u8 49), .lit (.int .u8 28), .lit (.int .u8 3), .lit (.int .u8 61), .lit (.int .u8 58), .lit (.int .u8 42), .lit (.int .u8 50), .lit (.int .u8 38), .lit (.int .u8 29), .lit (.int .u8 17), .lit (.int .u8 4), .lit (.int .u8 62), .lit (.int .u8 47), .lit (.int .u8 59), .lit (.int .u8 36), .lit (.int .u8 45), .lit (.int .u8 43), .lit (.int .u8 51), .lit (.int .u8 22), .lit (.int .u8 53), .lit (.int .u8 39), .lit (.int .u8 33), .lit (.int .u8 30), .lit (.int .u8 24), .lit (.int .u8 18), .lit (.int .u8 12), .lit (.int .u8 5), .lit (.int .u8 63), .lit (.int .u8 55), .lit (.int .u8 48), .lit (.int .u8 27), .lit (.int .u8 60), .lit (.int .u8 41), .lit (.int .u8 37), .lit (.int .u8 16), .lit (.int .u8 46), .lit (.int .u8 35), .lit (.int .u8 44), .lit (.int .u8 21), .lit (.int .u8 52), .lit (.int .u8 32), .lit (.int .u8 23), .lit (.int .u8 11), .lit (.int .u8 54), .lit (.int .u8 26), .lit (.int .u8 40), .lit (.int .u8 15), .lit (.int .u8 34), .lit (.int .u8 20), .lit (.int .u8 31), .lit (.int .u8 10), .lit (.int .u8 25), .lit (.int .u8 14), .lit (.int .u8 19), .lit (.int .u8 9), .lit (.int .u8 13), .lit (.int .u8 8), .lit (.int .u8 7), .lit (.int .u8 6)]
def laid_internal_strconv_uint64pow10 {H : Type} : DataW H := .agg [.lit (.int .u64 1), .lit (.int .u64 10), .lit (.int .u64 100), .lit (.int .u64 1000), .lit (.int .u64 10000), .lit (.int .u64 100000), .lit (.int .u64 1000000), .lit (.int .u64 10000000), .lit (.int .u64 100000000), .lit (.int .u64 1000000000), .lit (.int .u64 10000000000), .lit (.int .u64 100000000000), .lit (.int .u64 1000000000000), .lit (.int .u64 10000000000000), .lit (.int .u64 100000000000000), .lit (.int .u64 1000000000000000), .lit (.int .u64 10000000000000000), .lit (.int .u64 100000000000000000), .lit (.int .u64 1000000000000000000), .lit (.int .u64 10000000000000000000)]

/-- 'hornbooklaw01.LinesFielded': WHATEVER THE INPUT: true; the input reads as it did. -/
def linesFieldedSpec : ChangeSpec := { name := "linesFielded", fn := fun _ => fun
  | [d] => { results := [.lit (.bool true)], args := [d] }
  | _ => none }
def linesFieldedRow : OpenClaim := { program := "ytbhfkhfnljddhaadoor", sum := "1194983da264e5ee9b661f0ee5fda7464032e4a70cd1f03a2f06630d37903002", func := "hornbook/hornbooklaw01.LinesFielded", spec := "linesFielded", named := ["internal/strconv.uint64pow10", "math/bits.deBruijn32tab", "math/bits.deBruijn64tab"], apart := false, laid := [("math/bits.deBruijn32tab", laid_math_bits_deBruijn32tab), ("math/bits.deBruijn64tab", laid_math_bits_deBruijn64tab), ("internal/strconv.uint64pow10", laid_internal_strconv_uint64pow10)] }
def LinesFieldedSaid : Prop := linesFieldedRow.holds Tryd.pinned (OpenSpec.ofChange linesFieldedSpec)

/-- ITS FALSE NEIGHBOUR: 'it returns false'. Refute it at one input. -/
def linesFieldedWrong : ChangeSpec := { name := "linesFielded", fn := fun _ => fun
  | [d] => { results := [.lit (.bool false)], args := [d] }
  | _ => none }
def LinesFieldedWrongFalsely : Prop := linesFieldedRow.holds Tryd.pinned (OpenSpec.ofChange linesFieldedWrong)

/-- 'hornbooklaw01.LinesNumbered': WHATEVER THE INPUT: true; the input reads as it did. -/
def linesNumberedSpec : ChangeSpec := { name := "linesNumbered", fn := fun _ => fun
  | [d1, d2] => { results := [.lit (.bool true)], args := [d1, d2] }
  | _ => none }
def linesNumberedRow : OpenClaim := { program := "ytbhfkhfnljddhaadoor", sum := "1194983da264e5ee9b661f0ee5fda7464032e4a70cd1f03a2f06630d37903002", func := "hornbook/hornbooklaw01.LinesNumbered", spec := "linesNumbered", named := ["internal/strconv.uint64pow10", "math/bits.deBruijn32tab", "math/bits.deBruijn64tab"], apart := false, laid := [("math/bits.deBruijn32tab", laid_math_bits_deBruijn32tab), ("math/bits.deBruijn64tab", laid_math_bits_deBruijn64tab), ("internal/strconv.uint64pow10", laid_internal_strconv_uint64pow10)] }
def LinesNumberedSaid : Prop := linesNumberedRow.holds Tryd.pinned (OpenSpec.ofChange linesNumberedSpec)

/-- ITS FALSE NEIGHBOUR: 'it returns false'. Refute it at one input. -/
def linesNumberedWrong : ChangeSpec := { name := "linesNumbered", fn := fun _ => fun
  | [d1, d2] => { results := [.lit (.bool false)], args := [d1, d2] }
  | _ => none }
def LinesNumberedWrongFalsely : Prop := linesNumberedRow.holds Tryd.pinned (OpenSpec.ofChange linesNumberedWrong)

/-- 'hornbooklaw01.LinesDecimals': WHATEVER THE INPUT: true; the input reads as it did. -/
def linesDecimalsSpec : ChangeSpec := { name := "linesDecimals", fn := fun _ => fun
  | [d] => { results := [.lit (.bool true)], args := [d] }
  | _ => none }
def linesDecimalsRow : OpenClaim := { program := "ytbhfkhfnljddhaadoor", sum := "1194983da264e5ee9b661f0ee5fda7464032e4a70cd1f03a2f06630d37903002", func := "hornbook/hornbooklaw01.LinesDecimals", spec := "linesDecimals", named := ["internal/strconv.uint64pow10", "math/bits.deBruijn32tab", "math/bits.deBruijn64tab"], apart := false, laid := [("math/bits.deBruijn32tab", laid_math_bits_deBruijn32tab), ("math/bits.deBruijn64tab", laid_math_bits_deBruijn64tab), ("internal/strconv.uint64pow10", laid_internal_strconv_uint64pow10)] }
def LinesDecimalsSaid : Prop := linesDecimalsRow.holds Tryd.pinned (OpenSpec.ofChange linesDecimalsSpec)

/-- ITS FALSE NEIGHBOUR: 'it returns false'. Refute it at one input. -/
def linesDecimalsWrong : ChangeSpec := { name := "linesDecimals", fn := fun _ => fun
  | [d] => { results := [.lit (.bool false)], args := [d] }
  | _ => none }
def LinesDecimalsWrongFalsely : Prop := linesDecimalsRow.holds Tryd.pinned (OpenSpec.ofChange linesDecimalsWrong)

/-- 'hornbooklaw01.LinesCounts': WHATEVER THE INPUT: true; the input reads as it did. -/
def linesCountsSpec : ChangeSpec := { name := "linesCounts", fn := fun _ => fun
  | [d1, d2] => { results := [.lit (.bool true)], args := [d1, d2] }
  | _ => none }
def linesCountsRow : OpenClaim := { program := "ytbhfkhfnljddhaadoor", sum := "1194983da264e5ee9b661f0ee5fda7464032e4a70cd1f03a2f06630d37903002", func := "hornbook/hornbooklaw01.LinesCounts", spec := "linesCounts", named := ["internal/strconv.uint64pow10", "math/bits.deBruijn32tab", "math/bits.deBruijn64tab"], apart := false, laid := [("math/bits.deBruijn32tab", laid_math_bits_deBruijn32tab), ("math/bits.deBruijn64tab", laid_math_bits_deBruijn64tab), ("internal/strconv.uint64pow10", laid_internal_strconv_uint64pow10)] }
def LinesCountsSaid : Prop := linesCountsRow.holds Tryd.pinned (OpenSpec.ofChange linesCountsSpec)

/-- ITS FALSE NEIGHBOUR: 'it returns false'. Refute it at one input. -/
def linesCountsWrong : ChangeSpec := { name := "linesCounts", fn := fun _ => fun
  | [d1, d2] => { results := [.lit (.bool false)], args := [d1, d2] }
  | _ => none }
def LinesCountsWrongFalsely : Prop := linesCountsRow.holds Tryd.pinned (OpenSpec.ofChange linesCountsWrong)

/-- 'hornbooklaw01.LinesBlanks': WHATEVER THE INPUT: true; the input reads as it did. -/
def linesBlanksSpec : ChangeSpec := { name := "linesBlanks", fn := fun _ => fun
  | [d1, d2] => { results := [.lit (.bool true)], args := [d1, d2] }
  | _ => none }
def linesBlanksRow : OpenClaim := { program := "ytbhfkhfnljddhaadoor", sum := "1194983da264e5ee9b661f0ee5fda7464032e4a70cd1f03a2f06630d37903002", func := "hornbook/hornbooklaw01.LinesBlanks", spec := "linesBlanks", named := ["internal/strconv.uint64pow10", "math/bits.deBruijn32tab", "math/bits.deBruijn64tab"], apart := false, laid := [("math/bits.deBruijn32tab", laid_math_bits_deBruijn32tab), ("math/bits.deBruijn64tab", laid_math_bits_deBruijn64tab), ("internal/strconv.uint64pow10", laid_internal_strconv_uint64pow10)] }
def LinesBlanksSaid : Prop := linesBlanksRow.holds Tryd.pinned (OpenSpec.ofChange linesBlanksSpec)

/-- ITS FALSE NEIGHBOUR: 'it returns false'. Refute it at one input. -/
def linesBlanksWrong : ChangeSpec := { name := "linesBlanks", fn := fun _ => fun
  | [d1, d2] => { results := [.lit (.bool false)], args := [d1, d2] }
  | _ => none }
def LinesBlanksWrongFalsely : Prop := linesBlanksRow.holds Tryd.pinned (OpenSpec.ofChange linesBlanksWrong)

/-- 'hornbooklaw01.LinesEaches': WHATEVER THE INPUT: true; the input reads as it did. -/
def linesEachesSpec : ChangeSpec := { name := "linesEaches", fn := fun _ => fun
  | [d1, d2] => { results := [.lit (.bool true)], args := [d1, d2] }
  | _ => none }
def linesEachesRow : OpenClaim := { program := "ytbhfkhfnljddhaadoor", sum := "1194983da264e5ee9b661f0ee5fda7464032e4a70cd1f03a2f06630d37903002", func := "hornbook/hornbooklaw01.LinesEaches", spec := "linesEaches", inPlace := ["internal/bytealg.IndexByteString", "internal/bytealg.IndexString"], unfollowed := true, recurses := true, named := ["internal/bytealg.MaxLen", "internal/strconv.uint64pow10", "math/bits.deBruijn32tab", "math/bits.deBruijn64tab"], apart := false, laid := [("math/bits.deBruijn32tab", laid_math_bits_deBruijn32tab), ("math/bits.deBruijn64tab", laid_math_bits_deBruijn64tab), ("internal/strconv.uint64pow10", laid_internal_strconv_uint64pow10)] }
def LinesEachesSaid : Prop := linesEachesRow.holds Tryd.pinned (OpenSpec.ofChange linesEachesSpec)

/-- ITS FALSE NEIGHBOUR: 'it returns false'. Refute it at one input. -/
def linesEachesWrong : ChangeSpec := { name := "linesEaches", fn := fun _ => fun
  | [d1, d2] => { results := [.lit (.bool false)], args := [d1, d2] }
  | _ => none }
def LinesEachesWrongFalsely : Prop := linesEachesRow.holds Tryd.pinned (OpenSpec.ofChange linesEachesWrong)

/-- 'hornbooklaw01.LinesSplits': WHATEVER THE INPUT: true; the input reads as it did. -/
def linesSplitsSpec : ChangeSpec := { name := "linesSplits", fn := fun _ => fun
  | [d] => { results := [.lit (.bool true)], args := [d] }
  | _ => none }
def linesSplitsRow : OpenClaim := { program := "ytbhfkhfnljddhaadoor", sum := "1194983da264e5ee9b661f0ee5fda7464032e4a70cd1f03a2f06630d37903002", func := "hornbook/hornbooklaw01.LinesSplits", spec := "linesSplits", inPlace := ["internal/bytealg.IndexByteString", "internal/bytealg.IndexString"], unfollowed := true, recurses := true, named := ["internal/bytealg.MaxLen", "internal/strconv.uint64pow10", "math/bits.deBruijn32tab", "math/bits.deBruijn64tab"], apart := false, laid := [("math/bits.deBruijn32tab", laid_math_bits_deBruijn32tab), ("math/bits.deBruijn64tab", laid_math_bits_deBruijn64tab), ("internal/strconv.uint64pow10", laid_internal_strconv_uint64pow10)] }
def LinesSplitsSaid : Prop := linesSplitsRow.holds Tryd.pinned (OpenSpec.ofChange linesSplitsSpec)

/-- ITS FALSE NEIGHBOUR: 'it returns false'. Refute it at one input. -/
def linesSplitsWrong : ChangeSpec := { name := "linesSplits", fn := fun _ => fun
  | [d] => { results := [.lit (.bool false)], args := [d] }
  | _ => none }
def LinesSplitsWrongFalsely : Prop := linesSplitsRow.holds Tryd.pinned (OpenSpec.ofChange linesSplitsWrong)

/-- 'hornbooklaw01.LinesEnds': WHATEVER THE INPUT: true; the input reads as it did. -/
def linesEndsSpec : ChangeSpec := { name := "linesEnds", fn := fun _ => fun
  | [d1, d2] => { results := [.lit (.bool true)], args := [d1, d2] }
  | _ => none }
def linesEndsRow : OpenClaim := { program := "ytbhfkhfnljddhaadoor", sum := "1194983da264e5ee9b661f0ee5fda7464032e4a70cd1f03a2f06630d37903002", func := "hornbook/hornbooklaw01.LinesEnds", spec := "linesEnds", inPlace := ["internal/bytealg.IndexByteString", "internal/bytealg.IndexString"], unfollowed := true, recurses := true, named := ["internal/strconv.uint64pow10", "math/bits.deBruijn32tab", "math/bits.deBruijn64tab", "internal/bytealg.MaxLen"], apart := false, laid := [("math/bits.deBruijn32tab", laid_math_bits_deBruijn32tab), ("math/bits.deBruijn64tab", laid_math_bits_deBruijn64tab), ("internal/strconv.uint64pow10", laid_internal_strconv_uint64pow10)] }
def LinesEndsSaid : Prop := linesEndsRow.holds Tryd.pinned (OpenSpec.ofChange linesEndsSpec)

/-- ITS FALSE NEIGHBOUR: 'it returns false'. Refute it at one input. -/
def linesEndsWrong : ChangeSpec := { name := "linesEnds", fn := fun _ => fun
  | [d1, d2] => { results := [.lit (.bool false)], args := [d1, d2] }
  | _ => none }
def LinesEndsWrongFalsely : Prop := linesEndsRow.holds Tryd.pinned (OpenSpec.ofChange linesEndsWrong)

/-- 'hornbooklaw01.LinesRowed': WHATEVER THE INPUT: true; the input reads as it did. -/
def linesRowedSpec : ChangeSpec := { name := "linesRowed", fn := fun _ => fun
  | [d] => { results := [.lit (.bool true)], args := [d] }
  | _ => none }
def linesRowedRow : OpenClaim := { program := "ytbhfkhfnljddhaadoor", sum := "1194983da264e5ee9b661f0ee5fda7464032e4a70cd1f03a2f06630d37903002", func := "hornbook/hornbooklaw01.LinesRowed", spec := "linesRowed", inPlace := ["internal/bytealg.IndexByteString", "internal/bytealg.IndexString"], unfollowed := true, recurses := true, named := ["internal/bytealg.MaxLen", "internal/strconv.uint64pow10", "math/bits.deBruijn32tab", "math/bits.deBruijn64tab"], apart := false, laid := [("math/bits.deBruijn32tab", laid_math_bits_deBruijn32tab), ("math/bits.deBruijn64tab", laid_math_bits_deBruijn64tab), ("internal/strconv.uint64pow10", laid_internal_strconv_uint64pow10)] }
def LinesRowedSaid : Prop := linesRowedRow.holds Tryd.pinned (OpenSpec.ofChange linesRowedSpec)

/-- ITS FALSE NEIGHBOUR: 'it returns false'. Refute it at one input. -/
def linesRowedWrong : ChangeSpec := { name := "linesRowed", fn := fun _ => fun
  | [d] => { results := [.lit (.bool false)], args := [d] }
  | _ => none }
def LinesRowedWrongFalsely : Prop := linesRowedRow.holds Tryd.pinned (OpenSpec.ofChange linesRowedWrong)

/-- 'hornbooklaw01.LinesKeeps': WHATEVER THE INPUT: true; the input reads as it did. -/
def linesKeepsSpec : ChangeSpec := { name := "linesKeeps", fn := fun _ => fun
  | [d1, d2] => { results := [.lit (.bool true)], args := [d1, d2] }
  | _ => none }
def linesKeepsRow : OpenClaim := { program := "ytbhfkhfnljddhaadoor", sum := "1194983da264e5ee9b661f0ee5fda7464032e4a70cd1f03a2f06630d37903002", func := "hornbook/hornbooklaw01.LinesKeeps", spec := "linesKeeps", inPlace := ["internal/bytealg.IndexByteString", "internal/bytealg.IndexString"], unfollowed := true, recurses := true, named := ["internal/strconv.uint64pow10", "math/bits.deBruijn32tab", "math/bits.deBruijn64tab", "internal/bytealg.MaxLen"], apart := false, laid := [("math/bits.deBruijn32tab", laid_math_bits_deBruijn32tab), ("math/bits.deBruijn64tab", laid_math_bits_deBruijn64tab), ("internal/strconv.uint64pow10", laid_internal_strconv_uint64pow10)] }
def LinesKeepsSaid : Prop := linesKeepsRow.holds Tryd.pinned (OpenSpec.ofChange linesKeepsSpec)

/-- ITS FALSE NEIGHBOUR: 'it returns false'. Refute it at one input. -/
def linesKeepsWrong : ChangeSpec := { name := "linesKeeps", fn := fun _ => fun
  | [d1, d2] => { results := [.lit (.bool false)], args := [d1, d2] }
  | _ => none }
def LinesKeepsWrongFalsely : Prop := linesKeepsRow.holds Tryd.pinned (OpenSpec.ofChange linesKeepsWrong)

/-- 'hornbooklaw01.LinesShown': WHATEVER THE INPUT: true; the input reads as it did. -/
def linesShownSpec : ChangeSpec := { name := "linesShown", fn := fun _ => fun
  | [d] => { results := [.lit (.bool true)], args := [d] }
  | _ => none }
def linesShownRow : OpenClaim := { program := "ytbhfkhfnljddhaadoor", sum := "1194983da264e5ee9b661f0ee5fda7464032e4a70cd1f03a2f06630d37903002", func := "hornbook/hornbooklaw01.LinesShown", spec := "linesShown", inPlace := ["internal/bytealg.IndexByteString", "internal/bytealg.IndexString", "internal/abi.NoEscape", "internal/bytealg.MakeNoZero"], named := ["internal/strconv.uint64pow10", "math/bits.deBruijn32tab", "math/bits.deBruijn64tab", "internal/bytealg.MaxLen"], apart := false, laid := [("math/bits.deBruijn32tab", laid_math_bits_deBruijn32tab), ("math/bits.deBruijn64tab", laid_math_bits_deBruijn64tab), ("internal/strconv.uint64pow10", laid_internal_strconv_uint64pow10)] }
def LinesShownSaid : Prop := linesShownRow.holds Tryd.pinned (OpenSpec.ofChange linesShownSpec)

/-- ITS FALSE NEIGHBOUR: 'it returns false'. Refute it at one input. -/
def linesShownWrong : ChangeSpec := { name := "linesShown", fn := fun _ => fun
  | [d] => { results := [.lit (.bool false)], args := [d] }
  | _ => none }
def LinesShownWrongFalsely : Prop := linesShownRow.holds Tryd.pinned (OpenSpec.ofChange linesShownWrong)

/-- 'hornbooklaw01.LinesBack': WHATEVER THE INPUT: true; the input reads as it did. -/
def linesBackSpec : ChangeSpec := { name := "linesBack", fn := fun _ => fun
  | [d] => { results := [.lit (.bool true)], args := [d] }
  | _ => none }
def linesBackRow : OpenClaim := { program := "ytbhfkhfnljddhaadoor", sum := "1194983da264e5ee9b661f0ee5fda7464032e4a70cd1f03a2f06630d37903002", func := "hornbook/hornbooklaw01.LinesBack", spec := "linesBack", inPlace := ["internal/bytealg.IndexByteString", "internal/bytealg.IndexString", "internal/abi.NoEscape", "internal/bytealg.MakeNoZero"], unfollowed := true, recurses := true, named := ["internal/strconv.uint64pow10", "math/bits.deBruijn32tab", "math/bits.deBruijn64tab", "internal/bytealg.MaxLen"], apart := false, laid := [("math/bits.deBruijn32tab", laid_math_bits_deBruijn32tab), ("math/bits.deBruijn64tab", laid_math_bits_deBruijn64tab), ("internal/strconv.uint64pow10", laid_internal_strconv_uint64pow10)] }
def LinesBackSaid : Prop := linesBackRow.holds Tryd.pinned (OpenSpec.ofChange linesBackSpec)

/-- ITS FALSE NEIGHBOUR: 'it returns false'. Refute it at one input. -/
def linesBackWrong : ChangeSpec := { name := "linesBack", fn := fun _ => fun
  | [d] => { results := [.lit (.bool false)], args := [d] }
  | _ => none }
def LinesBackWrongFalsely : Prop := linesBackRow.holds Tryd.pinned (OpenSpec.ofChange linesBackWrong)

/- THE SECOND FORM. 'bulk': how many values and letters a reading holds, each counted each time it is reached (what is shared counts as often as it is met; a slice's spare places count too). A statement '..UptoSaid' is the law's where the arguments, and the package variables that the reading takes, are together of bulk at most 1048576: NARROWER than '..Said'. Prove '..Said' where nothing that the law and all that it calls make is longer than what came in: it says more and counts as full. Else prove '..UptoSaid'. A law counts once. -/
mutual
def uptoBulk {H : Type} : DataW H → Nat
  | .lit (.string bytes) => bytes.length + 1
  | .lit _ => 1
  | .nil => 1
  | .ptr d => uptoBulk d + 1
  | .slice elems spare => uptoBulkAll elems + uptoBulkAll spare + 1
  | .agg parts => uptoBulkAll parts + 1
  | .iface _ d => uptoBulk d + 1
  | .map entries => uptoBulkEntries entries + 1
  | .held _ => 1
def uptoBulkAll {H : Type} : List (DataW H) → Nat
  | [] => 0
  | d :: r => uptoBulk d + uptoBulkAll r
def uptoBulkEntries {H : Type} : List (Lit × DataW H) → Nat
  | [] => 0
  | x :: r => uptoBulkEntry x + uptoBulkEntries r
def uptoBulkEntry {H : Type} : Lit × DataW H → Nat
  | (.string bytes, d) => bytes.length + uptoBulk d + 1
  | (_, d) => uptoBulk d + 1
 end
def uptoSmall : (H : Type) → List (DataW H) → Bool := fun _ ds => decide (uptoBulkAll ds ≤ 1048576)
def OpenSpec.upto (s : _root_.Go.ChangeSpec) : _root_.Go.OpenSpec := { _root_.Go.OpenSpec.ofChange s with cond := some uptoSmall }

/-- 'hornbooklaw01.LinesFielded', WHERE WHAT IT READS IS OF BULK AT MOST 1048576: true; the input reads as it did. -/
def linesFieldedUptoRow : OpenClaim := { program := "ytbhfkhfnljddhaadoor", sum := "1194983da264e5ee9b661f0ee5fda7464032e4a70cd1f03a2f06630d37903002", func := "hornbook/hornbooklaw01.LinesFielded", spec := "linesFielded", named := ["internal/strconv.uint64pow10", "math/bits.deBruijn32tab", "math/bits.deBruijn64tab"], apart := false, laid := [("math/bits.deBruijn32tab", laid_math_bits_deBruijn32tab), ("math/bits.deBruijn64tab", laid_math_bits_deBruijn64tab), ("internal/strconv.uint64pow10", laid_internal_strconv_uint64pow10)], narrowed := true }
def LinesFieldedUptoSaid : Prop := linesFieldedUptoRow.holds Tryd.pinned (OpenSpec.upto linesFieldedSpec)

/-- 'hornbooklaw01.LinesNumbered', WHERE WHAT IT READS IS OF BULK AT MOST 1048576: true; the input reads as it did. -/
def linesNumberedUptoRow : OpenClaim := { program := "ytbhfkhfnljddhaadoor", sum := "1194983da264e5ee9b661f0ee5fda7464032e4a70cd1f03a2f06630d37903002", func := "hornbook/hornbooklaw01.LinesNumbered", spec := "linesNumbered", named := ["internal/strconv.uint64pow10", "math/bits.deBruijn32tab", "math/bits.deBruijn64tab"], apart := false, laid := [("math/bits.deBruijn32tab", laid_math_bits_deBruijn32tab), ("math/bits.deBruijn64tab", laid_math_bits_deBruijn64tab), ("internal/strconv.uint64pow10", laid_internal_strconv_uint64pow10)], narrowed := true }
def LinesNumberedUptoSaid : Prop := linesNumberedUptoRow.holds Tryd.pinned (OpenSpec.upto linesNumberedSpec)

/-- 'hornbooklaw01.LinesDecimals', WHERE WHAT IT READS IS OF BULK AT MOST 1048576: true; the input reads as it did. -/
def linesDecimalsUptoRow : OpenClaim := { program := "ytbhfkhfnljddhaadoor", sum := "1194983da264e5ee9b661f0ee5fda7464032e4a70cd1f03a2f06630d37903002", func := "hornbook/hornbooklaw01.LinesDecimals", spec := "linesDecimals", named := ["internal/strconv.uint64pow10", "math/bits.deBruijn32tab", "math/bits.deBruijn64tab"], apart := false, laid := [("math/bits.deBruijn32tab", laid_math_bits_deBruijn32tab), ("math/bits.deBruijn64tab", laid_math_bits_deBruijn64tab), ("internal/strconv.uint64pow10", laid_internal_strconv_uint64pow10)], narrowed := true }
def LinesDecimalsUptoSaid : Prop := linesDecimalsUptoRow.holds Tryd.pinned (OpenSpec.upto linesDecimalsSpec)

/-- 'hornbooklaw01.LinesCounts', WHERE WHAT IT READS IS OF BULK AT MOST 1048576: true; the input reads as it did. -/
def linesCountsUptoRow : OpenClaim := { program := "ytbhfkhfnljddhaadoor", sum := "1194983da264e5ee9b661f0ee5fda7464032e4a70cd1f03a2f06630d37903002", func := "hornbook/hornbooklaw01.LinesCounts", spec := "linesCounts", named := ["internal/strconv.uint64pow10", "math/bits.deBruijn32tab", "math/bits.deBruijn64tab"], apart := false, laid := [("math/bits.deBruijn32tab", laid_math_bits_deBruijn32tab), ("math/bits.deBruijn64tab", laid_math_bits_deBruijn64tab), ("internal/strconv.uint64pow10", laid_internal_strconv_uint64pow10)], narrowed := true }
def LinesCountsUptoSaid : Prop := linesCountsUptoRow.holds Tryd.pinned (OpenSpec.upto linesCountsSpec)

/-- 'hornbooklaw01.LinesBlanks', WHERE WHAT IT READS IS OF BULK AT MOST 1048576: true; the input reads as it did. -/
def linesBlanksUptoRow : OpenClaim := { program := "ytbhfkhfnljddhaadoor", sum := "1194983da264e5ee9b661f0ee5fda7464032e4a70cd1f03a2f06630d37903002", func := "hornbook/hornbooklaw01.LinesBlanks", spec := "linesBlanks", named := ["internal/strconv.uint64pow10", "math/bits.deBruijn32tab", "math/bits.deBruijn64tab"], apart := false, laid := [("math/bits.deBruijn32tab", laid_math_bits_deBruijn32tab), ("math/bits.deBruijn64tab", laid_math_bits_deBruijn64tab), ("internal/strconv.uint64pow10", laid_internal_strconv_uint64pow10)], narrowed := true }
def LinesBlanksUptoSaid : Prop := linesBlanksUptoRow.holds Tryd.pinned (OpenSpec.upto linesBlanksSpec)

/-- 'hornbooklaw01.LinesEaches', WHERE WHAT IT READS IS OF BULK AT MOST 1048576: true; the input reads as it did. -/
def linesEachesUptoRow : OpenClaim := { program := "ytbhfkhfnljddhaadoor", sum := "1194983da264e5ee9b661f0ee5fda7464032e4a70cd1f03a2f06630d37903002", func := "hornbook/hornbooklaw01.LinesEaches", spec := "linesEaches", inPlace := ["internal/bytealg.IndexByteString", "internal/bytealg.IndexString"], unfollowed := true, recurses := true, named := ["internal/bytealg.MaxLen", "internal/strconv.uint64pow10", "math/bits.deBruijn32tab", "math/bits.deBruijn64tab"], apart := false, laid := [("math/bits.deBruijn32tab", laid_math_bits_deBruijn32tab), ("math/bits.deBruijn64tab", laid_math_bits_deBruijn64tab), ("internal/strconv.uint64pow10", laid_internal_strconv_uint64pow10)], narrowed := true }
def LinesEachesUptoSaid : Prop := linesEachesUptoRow.holds Tryd.pinned (OpenSpec.upto linesEachesSpec)

/-- 'hornbooklaw01.LinesSplits', WHERE WHAT IT READS IS OF BULK AT MOST 1048576: true; the input reads as it did. -/
def linesSplitsUptoRow : OpenClaim := { program := "ytbhfkhfnljddhaadoor", sum := "1194983da264e5ee9b661f0ee5fda7464032e4a70cd1f03a2f06630d37903002", func := "hornbook/hornbooklaw01.LinesSplits", spec := "linesSplits", inPlace := ["internal/bytealg.IndexByteString", "internal/bytealg.IndexString"], unfollowed := true, recurses := true, named := ["internal/bytealg.MaxLen", "internal/strconv.uint64pow10", "math/bits.deBruijn32tab", "math/bits.deBruijn64tab"], apart := false, laid := [("math/bits.deBruijn32tab", laid_math_bits_deBruijn32tab), ("math/bits.deBruijn64tab", laid_math_bits_deBruijn64tab), ("internal/strconv.uint64pow10", laid_internal_strconv_uint64pow10)], narrowed := true }
def LinesSplitsUptoSaid : Prop := linesSplitsUptoRow.holds Tryd.pinned (OpenSpec.upto linesSplitsSpec)

/-- 'hornbooklaw01.LinesEnds', WHERE WHAT IT READS IS OF BULK AT MOST 1048576: true; the input reads as it did. -/
def linesEndsUptoRow : OpenClaim := { program := "ytbhfkhfnljddhaadoor", sum := "1194983da264e5ee9b661f0ee5fda7464032e4a70cd1f03a2f06630d37903002", func := "hornbook/hornbooklaw01.LinesEnds", spec := "linesEnds", inPlace := ["internal/bytealg.IndexByteString", "internal/bytealg.IndexString"], unfollowed := true, recurses := true, named := ["internal/strconv.uint64pow10", "math/bits.deBruijn32tab", "math/bits.deBruijn64tab", "internal/bytealg.MaxLen"], apart := false, laid := [("math/bits.deBruijn32tab", laid_math_bits_deBruijn32tab), ("math/bits.deBruijn64tab", laid_math_bits_deBruijn64tab), ("internal/strconv.uint64pow10", laid_internal_strconv_uint64pow10)], narrowed := true }
def LinesEndsUptoSaid : Prop := linesEndsUptoRow.holds Tryd.pinned (OpenSpec.upto linesEndsSpec)

/-- 'hornbooklaw01.LinesRowed', WHERE WHAT IT READS IS OF BULK AT MOST 1048576: true; the input reads as it did. -/
def linesRowedUptoRow : OpenClaim := { program := "ytbhfkhfnljddhaadoor", sum := "1194983da264e5ee9b661f0ee5fda7464032e4a70cd1f03a2f06630d37903002", func := "hornbook/hornbooklaw01.LinesRowed", spec := "linesRowed", inPlace := ["internal/bytealg.IndexByteString", "internal/bytealg.IndexString"], unfollowed := true, recurses := true, named := ["internal/bytealg.MaxLen", "internal/strconv.uint64pow10", "math/bits.deBruijn32tab", "math/bits.deBruijn64tab"], apart := false, laid := [("math/bits.deBruijn32tab", laid_math_bits_deBruijn32tab), ("math/bits.deBruijn64tab", laid_math_bits_deBruijn64tab), ("internal/strconv.uint64pow10", laid_internal_strconv_uint64pow10)], narrowed := true }
def LinesRowedUptoSaid : Prop := linesRowedUptoRow.holds Tryd.pinned (OpenSpec.upto linesRowedSpec)

/-- 'hornbooklaw01.LinesKeeps', WHERE WHAT IT READS IS OF BULK AT MOST 1048576: true; the input reads as it did. -/
def linesKeepsUptoRow : OpenClaim := { program := "ytbhfkhfnljddhaadoor", sum := "1194983da264e5ee9b661f0ee5fda7464032e4a70cd1f03a2f06630d37903002", func := "hornbook/hornbooklaw01.LinesKeeps", spec := "linesKeeps", inPlace := ["internal/bytealg.IndexByteString", "internal/bytealg.IndexString"], unfollowed := true, recurses := true, named := ["internal/strconv.uint64pow10", "math/bits.deBruijn32tab", "math/bits.deBruijn64tab", "internal/bytealg.MaxLen"], apart := false, laid := [("math/bits.deBruijn32tab", laid_math_bits_deBruijn32tab), ("math/bits.deBruijn64tab", laid_math_bits_deBruijn64tab), ("internal/strconv.uint64pow10", laid_internal_strconv_uint64pow10)], narrowed := true }
def LinesKeepsUptoSaid : Prop := linesKeepsUptoRow.holds Tryd.pinned (OpenSpec.upto linesKeepsSpec)

/-- 'hornbooklaw01.LinesShown', WHERE WHAT IT READS IS OF BULK AT MOST 1048576: true; the input reads as it did. -/
def linesShownUptoRow : OpenClaim := { program := "ytbhfkhfnljddhaadoor", sum := "1194983da264e5ee9b661f0ee5fda7464032e4a70cd1f03a2f06630d37903002", func := "hornbook/hornbooklaw01.LinesShown", spec := "linesShown", inPlace := ["internal/bytealg.IndexByteString", "internal/bytealg.IndexString", "internal/abi.NoEscape", "internal/bytealg.MakeNoZero"], named := ["internal/strconv.uint64pow10", "math/bits.deBruijn32tab", "math/bits.deBruijn64tab", "internal/bytealg.MaxLen"], apart := false, laid := [("math/bits.deBruijn32tab", laid_math_bits_deBruijn32tab), ("math/bits.deBruijn64tab", laid_math_bits_deBruijn64tab), ("internal/strconv.uint64pow10", laid_internal_strconv_uint64pow10)], narrowed := true }
def LinesShownUptoSaid : Prop := linesShownUptoRow.holds Tryd.pinned (OpenSpec.upto linesShownSpec)

/-- 'hornbooklaw01.LinesBack', WHERE WHAT IT READS IS OF BULK AT MOST 1048576: true; the input reads as it did. -/
def linesBackUptoRow : OpenClaim := { program := "ytbhfkhfnljddhaadoor", sum := "1194983da264e5ee9b661f0ee5fda7464032e4a70cd1f03a2f06630d37903002", func := "hornbook/hornbooklaw01.LinesBack", spec := "linesBack", inPlace := ["internal/bytealg.IndexByteString", "internal/bytealg.IndexString", "internal/abi.NoEscape", "internal/bytealg.MakeNoZero"], unfollowed := true, recurses := true, named := ["internal/strconv.uint64pow10", "math/bits.deBruijn32tab", "math/bits.deBruijn64tab", "internal/bytealg.MaxLen"], apart := false, laid := [("math/bits.deBruijn32tab", laid_math_bits_deBruijn32tab), ("math/bits.deBruijn64tab", laid_math_bits_deBruijn64tab), ("internal/strconv.uint64pow10", laid_internal_strconv_uint64pow10)], narrowed := true }
def LinesBackUptoSaid : Prop := linesBackUptoRow.holds Tryd.pinned (OpenSpec.upto linesBackSpec)

end Rows
end Go.Proofs.YtbhfkhfnljddhaaDoor
