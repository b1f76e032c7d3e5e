/-
  No cell of these rows narrows 'for every input' (looked for: loops, veiled, ifaces, maps, wideKeys, modest, calm, conditions, laid).
  DERIVED. THE GIVEN ROWS OF THIS SEAT. 6 by the template 'for every input the law returns true; each argument reads behind the call as it read before'; 0 by the template 'total and deterministic' (their statements: YtehbjfjhalpgaaaTotals.lean).
  GIVEN WITH THE SEED: the statements are not yours to turn. If you find one false, say at which input.
  Laid BY PROGRAM, IN A SANDBOX (cutbox-rows.mjs): the forced cells as the released guide's own fill.sh prints them over the translation fbd6e804b8838f15… (all of the seat's roots in one cut). By AI agents, Wed Nov 11 2026. No macro, syntax, notation, axiom, sorry.
-/
import Derived.Test.YtehbjfjhalpgaaaChecked
import GoSem.Claim
import GoSem.ClaimJoined
import GoSem.ClaimMapViews
import Derived.JoinedTies
import Derived.KernelRfl
namespace Go.Proofs.Ytehbjfjhalpgaaa
/- THE CELL 'sum', in the pinned program and in every row, IS THE sha256 OF THE DUMP (.gsa) THAT YtehbjfjhalpgaaaProg.lean LOADS. Nothing in Lean hashes anything: it is a label: what it is worth is what the hold of that sum in a sandbox is worth. -/
noncomputable def Try.pinned : Pinned := { name := "ytehbjfjhalpgaaa", sum := "fbd6e804b8838f15ff16ca1e0307679aec6e5367505d382c5415e3f722f6e742", checked := Try.checked }
namespace Rows
def none {H : Type} : Left H := { results := [], args := [] }

/-- 'hornbooklaw20.ImageEncodes': WHATEVER THE INPUT: true; the input reads as it did. -/
def imageEncodesSpec : ChangeSpec := { name := "imageEncodes", fn := fun _ => fun
  | [d] => { results := [.lit (.bool true)], args := [d] }
  | _ => none }
def imageEncodesRow : OpenClaim := { program := "ytehbjfjhalpgaaa", sum := "fbd6e804b8838f15ff16ca1e0307679aec6e5367505d382c5415e3f722f6e742", func := "hornbook/hornbooklaw20.ImageEncodes", spec := "imageEncodes", inPlace := ["internal/abi.NoEscape"], unfollowed := true, recurses := true, apart := false }
def ImageEncodesSaid : Prop := imageEncodesRow.holds Try.pinned (OpenSpec.ofChange imageEncodesSpec)

/-- ITS FALSE NEIGHBOUR: 'it returns false'. Refute it at one input. -/
def imageEncodesWrong : ChangeSpec := { name := "imageEncodes", fn := fun _ => fun
  | [d] => { results := [.lit (.bool false)], args := [d] }
  | _ => none }
def ImageEncodesWrongFalsely : Prop := imageEncodesRow.holds Try.pinned (OpenSpec.ofChange imageEncodesWrong)

/-- 'hornbooklaw20.ImageDecodes': WHATEVER THE INPUT: true; the input reads as it did. -/
def imageDecodesSpec : ChangeSpec := { name := "imageDecodes", fn := fun _ => fun
  | [d] => { results := [.lit (.bool true)], args := [d] }
  | _ => none }
def imageDecodesRow : OpenClaim := { program := "ytehbjfjhalpgaaa", sum := "fbd6e804b8838f15ff16ca1e0307679aec6e5367505d382c5415e3f722f6e742", func := "hornbook/hornbooklaw20.ImageDecodes", spec := "imageDecodes", inPlace := ["internal/abi.NoEscape"], unfollowed := true, recurses := true, apart := false }
def ImageDecodesSaid : Prop := imageDecodesRow.holds Try.pinned (OpenSpec.ofChange imageDecodesSpec)

/-- ITS FALSE NEIGHBOUR: 'it returns false'. Refute it at one input. -/
def imageDecodesWrong : ChangeSpec := { name := "imageDecodes", fn := fun _ => fun
  | [d] => { results := [.lit (.bool false)], args := [d] }
  | _ => none }
def ImageDecodesWrongFalsely : Prop := imageDecodesRow.holds Try.pinned (OpenSpec.ofChange imageDecodesWrong)

/-- 'hornbooklaw20.ImageBack': WHATEVER THE INPUT: true; the input reads as it did. -/
def imageBackSpec : ChangeSpec := { name := "imageBack", fn := fun _ => fun
  | [d] => { results := [.lit (.bool true)], args := [d] }
  | _ => none }
def imageBackRow : OpenClaim := { program := "ytehbjfjhalpgaaa", sum := "fbd6e804b8838f15ff16ca1e0307679aec6e5367505d382c5415e3f722f6e742", func := "hornbook/hornbooklaw20.ImageBack", spec := "imageBack", inPlace := ["internal/abi.NoEscape"], unfollowed := true, recurses := true, apart := false }
def ImageBackSaid : Prop := imageBackRow.holds Try.pinned (OpenSpec.ofChange imageBackSpec)

/-- ITS FALSE NEIGHBOUR: 'it returns false'. Refute it at one input. -/
def imageBackWrong : ChangeSpec := { name := "imageBack", fn := fun _ => fun
  | [d] => { results := [.lit (.bool false)], args := [d] }
  | _ => none }
def ImageBackWrongFalsely : Prop := imageBackRow.holds Try.pinned (OpenSpec.ofChange imageBackWrong)

/-- 'hornbooklaw20.ImageForm': WHATEVER THE INPUT: true; the input reads as it did. -/
def imageFormSpec : ChangeSpec := { name := "imageForm", fn := fun _ => fun
  | [d] => { results := [.lit (.bool true)], args := [d] }
  | _ => none }
def imageFormRow : OpenClaim := { program := "ytehbjfjhalpgaaa", sum := "fbd6e804b8838f15ff16ca1e0307679aec6e5367505d382c5415e3f722f6e742", func := "hornbook/hornbooklaw20.ImageForm", spec := "imageForm", inPlace := ["internal/abi.NoEscape"], unfollowed := true, recurses := true, apart := false }
def ImageFormSaid : Prop := imageFormRow.holds Try.pinned (OpenSpec.ofChange imageFormSpec)

/-- ITS FALSE NEIGHBOUR: 'it returns false'. Refute it at one input. -/
def imageFormWrong : ChangeSpec := { name := "imageForm", fn := fun _ => fun
  | [d] => { results := [.lit (.bool false)], args := [d] }
  | _ => none }
def ImageFormWrongFalsely : Prop := imageFormRow.holds Try.pinned (OpenSpec.ofChange imageFormWrong)

/-- 'hornbooklaw20.ImageWhole': WHATEVER THE INPUT: true; the input reads as it did. -/
def imageWholeSpec : ChangeSpec := { name := "imageWhole", fn := fun _ => fun
  | [d1, d2] => { results := [.lit (.bool true)], args := [d1, d2] }
  | _ => none }
def imageWholeRow : OpenClaim := { program := "ytehbjfjhalpgaaa", sum := "fbd6e804b8838f15ff16ca1e0307679aec6e5367505d382c5415e3f722f6e742", func := "hornbook/hornbooklaw20.ImageWhole", spec := "imageWhole", inPlace := ["internal/abi.NoEscape"], unfollowed := true, recurses := true, apart := false }
def ImageWholeSaid : Prop := imageWholeRow.holds Try.pinned (OpenSpec.ofChange imageWholeSpec)

/-- ITS FALSE NEIGHBOUR: 'it returns false'. Refute it at one input. -/
def imageWholeWrong : ChangeSpec := { name := "imageWhole", fn := fun _ => fun
  | [d1, d2] => { results := [.lit (.bool false)], args := [d1, d2] }
  | _ => none }
def ImageWholeWrongFalsely : Prop := imageWholeRow.holds Try.pinned (OpenSpec.ofChange imageWholeWrong)

/-- 'hornbooklaw20.ImageKeeps': WHATEVER THE INPUT: true; the input reads as it did. -/
def imageKeepsSpec : ChangeSpec := { name := "imageKeeps", fn := fun _ => fun
  | [d] => { results := [.lit (.bool true)], args := [d] }
  | _ => none }
def imageKeepsRow : OpenClaim := { program := "ytehbjfjhalpgaaa", sum := "fbd6e804b8838f15ff16ca1e0307679aec6e5367505d382c5415e3f722f6e742", func := "hornbook/hornbooklaw20.ImageKeeps", spec := "imageKeeps", inPlace := ["internal/abi.NoEscape"], unfollowed := true, recurses := true, apart := false }
def ImageKeepsSaid : Prop := imageKeepsRow.holds Try.pinned (OpenSpec.ofChange imageKeepsSpec)

/-- ITS FALSE NEIGHBOUR: 'it returns false'. Refute it at one input. -/
def imageKeepsWrong : ChangeSpec := { name := "imageKeeps", fn := fun _ => fun
  | [d] => { results := [.lit (.bool false)], args := [d] }
  | _ => none }
def ImageKeepsWrongFalsely : Prop := imageKeepsRow.holds Try.pinned (OpenSpec.ofChange imageKeepsWrong)

/- THE SECOND FORM. 'bulk': how many values and letters a reading holds, each counted each time it is reached (what is shared counts as often as it is met; a slice's spare places count too). A statement '..UptoSaid' is the law's where the arguments, and the package variables that the reading takes, are together of bulk at most 1048576: NARROWER than '..Said'. Prove '..Said' where nothing that the law and all that it calls make is longer than what came in: it says more and counts as full. Else prove '..UptoSaid'. A law counts once. -/
mutual
def uptoBulk {H : Type} : DataW H → Nat
  | .lit (.string bytes) => bytes.length + 1
  | .lit _ => 1
  | .nil => 1
  | .ptr d => uptoBulk d + 1
  | .slice elems spare => uptoBulkAll elems + uptoBulkAll spare + 1
  | .agg parts => uptoBulkAll parts + 1
  | .iface _ d => uptoBulk d + 1
  | .map entries => uptoBulkEntries entries + 1
  | .held _ => 1
def uptoBulkAll {H : Type} : List (DataW H) → Nat
  | [] => 0
  | d :: r => uptoBulk d + uptoBulkAll r
def uptoBulkEntries {H : Type} : List (Lit × DataW H) → Nat
  | [] => 0
  | x :: r => uptoBulkEntry x + uptoBulkEntries r
def uptoBulkEntry {H : Type} : Lit × DataW H → Nat
  | (.string bytes, d) => bytes.length + uptoBulk d + 1
  | (_, d) => uptoBulk d + 1
 end
def uptoSmall : (H : Type) → List (DataW H) → Bool := fun _ ds => decide (uptoBulkAll ds ≤ 1048576)
def OpenSpec.upto (s : _root_.Go.ChangeSpec) : _root_.Go.OpenSpec := { _root_.Go.OpenSpec.ofChange s with cond := some uptoSmall }

/-- 'hornbooklaw20.ImageEncodes', WHERE WHAT IT READS IS OF BULK AT MOST 1048576: true; the input reads as it did. -/
def imageEncodesUptoRow : OpenClaim := { program := "ytehbjfjhalpgaaa", sum := "fbd6e804b8838f15ff16ca1e0307679aec6e5367505d382c5415e3f722f6e742", func := "hornbook/hornbooklaw20.ImageEncodes", spec := "imageEncodes", inPlace := ["internal/abi.NoEscape"], unfollowed := true, recurses := true, apart := false, narrowed := true }
def ImageEncodesUptoSaid : Prop := imageEncodesUptoRow.holds Try.pinned (OpenSpec.upto imageEncodesSpec)

/-- 'hornbooklaw20.ImageDecodes', WHERE WHAT IT READS IS OF BULK AT MOST 1048576: true; the input reads as it did. -/
def imageDecodesUptoRow : OpenClaim := { program := "ytehbjfjhalpgaaa", sum := "fbd6e804b8838f15ff16ca1e0307679aec6e5367505d382c5415e3f722f6e742", func := "hornbook/hornbooklaw20.ImageDecodes", spec := "imageDecodes", inPlace := ["internal/abi.NoEscape"], unfollowed := true, recurses := true, apart := false, narrowed := true }
def ImageDecodesUptoSaid : Prop := imageDecodesUptoRow.holds Try.pinned (OpenSpec.upto imageDecodesSpec)

/-- 'hornbooklaw20.ImageBack', WHERE WHAT IT READS IS OF BULK AT MOST 1048576: true; the input reads as it did. -/
def imageBackUptoRow : OpenClaim := { program := "ytehbjfjhalpgaaa", sum := "fbd6e804b8838f15ff16ca1e0307679aec6e5367505d382c5415e3f722f6e742", func := "hornbook/hornbooklaw20.ImageBack", spec := "imageBack", inPlace := ["internal/abi.NoEscape"], unfollowed := true, recurses := true, apart := false, narrowed := true }
def ImageBackUptoSaid : Prop := imageBackUptoRow.holds Try.pinned (OpenSpec.upto imageBackSpec)

/-- 'hornbooklaw20.ImageForm', WHERE WHAT IT READS IS OF BULK AT MOST 1048576: true; the input reads as it did. -/
def imageFormUptoRow : OpenClaim := { program := "ytehbjfjhalpgaaa", sum := "fbd6e804b8838f15ff16ca1e0307679aec6e5367505d382c5415e3f722f6e742", func := "hornbook/hornbooklaw20.ImageForm", spec := "imageForm", inPlace := ["internal/abi.NoEscape"], unfollowed := true, recurses := true, apart := false, narrowed := true }
def ImageFormUptoSaid : Prop := imageFormUptoRow.holds Try.pinned (OpenSpec.upto imageFormSpec)

/-- 'hornbooklaw20.ImageWhole', WHERE WHAT IT READS IS OF BULK AT MOST 1048576: true; the input reads as it did. -/
def imageWholeUptoRow : OpenClaim := { program := "ytehbjfjhalpgaaa", sum := "fbd6e804b8838f15ff16ca1e0307679aec6e5367505d382c5415e3f722f6e742", func := "hornbook/hornbooklaw20.ImageWhole", spec := "imageWhole", inPlace := ["internal/abi.NoEscape"], unfollowed := true, recurses := true, apart := false, narrowed := true }
def ImageWholeUptoSaid : Prop := imageWholeUptoRow.holds Try.pinned (OpenSpec.upto imageWholeSpec)

/-- 'hornbooklaw20.ImageKeeps', WHERE WHAT IT READS IS OF BULK AT MOST 1048576: true; the input reads as it did. -/
def imageKeepsUptoRow : OpenClaim := { program := "ytehbjfjhalpgaaa", sum := "fbd6e804b8838f15ff16ca1e0307679aec6e5367505d382c5415e3f722f6e742", func := "hornbook/hornbooklaw20.ImageKeeps", spec := "imageKeeps", inPlace := ["internal/abi.NoEscape"], unfollowed := true, recurses := true, apart := false, narrowed := true }
def ImageKeepsUptoSaid : Prop := imageKeepsUptoRow.holds Try.pinned (OpenSpec.upto imageKeepsSpec)

end Rows
end Go.Proofs.Ytehbjfjhalpgaaa
