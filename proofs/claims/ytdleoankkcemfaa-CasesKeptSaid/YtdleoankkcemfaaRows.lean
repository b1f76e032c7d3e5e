/-
  No cell of these rows narrows 'for every input' (looked for: loops, veiled, ifaces, maps, wideKeys, modest, calm, conditions, laid).
  DERIVED. THE GIVEN ROWS OF THIS SEAT. 9 by the template 'for every input the law returns true; each argument reads behind the call as it read before'; 0 by the template 'total and deterministic' (their statements: YtdleoankkcemfaaTotals.lean).
  GIVEN WITH THE SEED: the statements are not yours to turn. If you find one false, say at which input.
  Laid BY PROGRAM, IN A SANDBOX (cutbox-rows.mjs): the forced cells as the released guide's own fill.sh prints them over the translation a5c8d49215e71c88… (all of the seat's roots in one cut). By AI agents, Wed Nov 11 2026. No macro, syntax, notation, axiom, sorry.
-/
import Derived.Test.YtdleoankkcemfaaChecked
import GoSem.Claim
import GoSem.ClaimJoined
import GoSem.ClaimMapViews
import Derived.JoinedTies
import Derived.KernelRfl
namespace Go.Proofs.Ytdleoankkcemfaa
/- THE CELL 'sum', in the pinned program and in every row, IS THE sha256 OF THE DUMP (.gsa) THAT YtdleoankkcemfaaProg.lean LOADS. Nothing in Lean hashes anything: it is a label: what it is worth is what the hold of that sum in a sandbox is worth. -/
noncomputable def Try.pinned : Pinned := { name := "ytdleoankkcemfaa", sum := "a5c8d49215e71c885e6abe50b53b4c2c1f7144d3b5c9b64f4f73c559351dcbee", checked := Try.checked }
namespace Rows
def none {H : Type} : Left H := { results := [], args := [] }

/-- 'hornbooklaw22.CasesKinds': WHATEVER THE INPUT: true; the input reads as it did. -/
def casesKindsSpec : ChangeSpec := { name := "casesKinds", fn := fun _ => fun
  | [d] => { results := [.lit (.bool true)], args := [d] }
  | _ => none }
def casesKindsRow : OpenClaim := { program := "ytdleoankkcemfaa", sum := "a5c8d49215e71c885e6abe50b53b4c2c1f7144d3b5c9b64f4f73c559351dcbee", func := "hornbook/hornbooklaw22.CasesKinds", spec := "casesKinds", inPlace := ["internal/abi.NoEscape"], unfollowed := true, recurses := true, apart := false }
def CasesKindsSaid : Prop := casesKindsRow.holds Try.pinned (OpenSpec.ofChange casesKindsSpec)

/-- ITS FALSE NEIGHBOUR: 'it returns false'. Refute it at one input. -/
def casesKindsWrong : ChangeSpec := { name := "casesKinds", fn := fun _ => fun
  | [d] => { results := [.lit (.bool false)], args := [d] }
  | _ => none }
def CasesKindsWrongFalsely : Prop := casesKindsRow.holds Try.pinned (OpenSpec.ofChange casesKindsWrong)

/-- 'hornbooklaw22.CasesLetters': WHATEVER THE INPUT: true; the input reads as it did. -/
def casesLettersSpec : ChangeSpec := { name := "casesLetters", fn := fun _ => fun
  | [d] => { results := [.lit (.bool true)], args := [d] }
  | _ => none }
def casesLettersRow : OpenClaim := { program := "ytdleoankkcemfaa", sum := "a5c8d49215e71c885e6abe50b53b4c2c1f7144d3b5c9b64f4f73c559351dcbee", func := "hornbook/hornbooklaw22.CasesLetters", spec := "casesLetters", inPlace := ["internal/abi.NoEscape"], unfollowed := true, recurses := true, apart := false }
def CasesLettersSaid : Prop := casesLettersRow.holds Try.pinned (OpenSpec.ofChange casesLettersSpec)

/-- ITS FALSE NEIGHBOUR: 'it returns false'. Refute it at one input. -/
def casesLettersWrong : ChangeSpec := { name := "casesLetters", fn := fun _ => fun
  | [d] => { results := [.lit (.bool false)], args := [d] }
  | _ => none }
def CasesLettersWrongFalsely : Prop := casesLettersRow.holds Try.pinned (OpenSpec.ofChange casesLettersWrong)

/-- 'hornbooklaw22.CasesForms': WHATEVER THE INPUT: true; the input reads as it did. -/
def casesFormsSpec : ChangeSpec := { name := "casesForms", fn := fun _ => fun
  | [d] => { results := [.lit (.bool true)], args := [d] }
  | _ => none }
def casesFormsRow : OpenClaim := { program := "ytdleoankkcemfaa", sum := "a5c8d49215e71c885e6abe50b53b4c2c1f7144d3b5c9b64f4f73c559351dcbee", func := "hornbook/hornbooklaw22.CasesForms", spec := "casesForms", inPlace := ["internal/abi.NoEscape"], unfollowed := true, recurses := true, apart := false }
def CasesFormsSaid : Prop := casesFormsRow.holds Try.pinned (OpenSpec.ofChange casesFormsSpec)

/-- ITS FALSE NEIGHBOUR: 'it returns false'. Refute it at one input. -/
def casesFormsWrong : ChangeSpec := { name := "casesForms", fn := fun _ => fun
  | [d] => { results := [.lit (.bool false)], args := [d] }
  | _ => none }
def CasesFormsWrongFalsely : Prop := casesFormsRow.holds Try.pinned (OpenSpec.ofChange casesFormsWrong)

/-- 'hornbooklaw22.CasesTurn': WHATEVER THE INPUT: true; the input reads as it did. -/
def casesTurnSpec : ChangeSpec := { name := "casesTurn", fn := fun _ => fun
  | [d] => { results := [.lit (.bool true)], args := [d] }
  | _ => none }
def casesTurnRow : OpenClaim := { program := "ytdleoankkcemfaa", sum := "a5c8d49215e71c885e6abe50b53b4c2c1f7144d3b5c9b64f4f73c559351dcbee", func := "hornbook/hornbooklaw22.CasesTurn", spec := "casesTurn", inPlace := ["internal/abi.NoEscape"], unfollowed := true, recurses := true, apart := false }
def CasesTurnSaid : Prop := casesTurnRow.holds Try.pinned (OpenSpec.ofChange casesTurnSpec)

/-- ITS FALSE NEIGHBOUR: 'it returns false'. Refute it at one input. -/
def casesTurnWrong : ChangeSpec := { name := "casesTurn", fn := fun _ => fun
  | [d] => { results := [.lit (.bool false)], args := [d] }
  | _ => none }
def CasesTurnWrongFalsely : Prop := casesTurnRow.holds Try.pinned (OpenSpec.ofChange casesTurnWrong)

/-- 'hornbooklaw26.ReportTokens': WHATEVER THE INPUT: true; the input reads as it did. -/
def reportTokensSpec : ChangeSpec := { name := "reportTokens", fn := fun _ => fun
  | [d] => { results := [.lit (.bool true)], args := [d] }
  | _ => none }
def reportTokensRow : OpenClaim := { program := "ytdleoankkcemfaa", sum := "a5c8d49215e71c885e6abe50b53b4c2c1f7144d3b5c9b64f4f73c559351dcbee", func := "hornbook/hornbooklaw26.ReportTokens", spec := "reportTokens", inPlace := ["internal/bytealg.IndexByteString", "internal/bytealg.IndexString"], unfollowed := true, recurses := true, named := ["internal/bytealg.MaxLen"], apart := false }
def ReportTokensSaid : Prop := reportTokensRow.holds Try.pinned (OpenSpec.ofChange reportTokensSpec)

/-- ITS FALSE NEIGHBOUR: 'it returns false'. Refute it at one input. -/
def reportTokensWrong : ChangeSpec := { name := "reportTokens", fn := fun _ => fun
  | [d] => { results := [.lit (.bool false)], args := [d] }
  | _ => none }
def ReportTokensWrongFalsely : Prop := reportTokensRow.holds Try.pinned (OpenSpec.ofChange reportTokensWrong)

/-- 'hornbooklaw26.ReportPlaces': WHATEVER THE INPUT: true; the input reads as it did. -/
def reportPlacesSpec : ChangeSpec := { name := "reportPlaces", fn := fun _ => fun
  | [d] => { results := [.lit (.bool true)], args := [d] }
  | _ => none }
def reportPlacesRow : OpenClaim := { program := "ytdleoankkcemfaa", sum := "a5c8d49215e71c885e6abe50b53b4c2c1f7144d3b5c9b64f4f73c559351dcbee", func := "hornbook/hornbooklaw26.ReportPlaces", spec := "reportPlaces", inPlace := ["internal/bytealg.IndexByteString", "internal/bytealg.IndexString"], unfollowed := true, recurses := true, named := ["internal/bytealg.MaxLen"], apart := false }
def ReportPlacesSaid : Prop := reportPlacesRow.holds Try.pinned (OpenSpec.ofChange reportPlacesSpec)

/-- ITS FALSE NEIGHBOUR: 'it returns false'. Refute it at one input. -/
def reportPlacesWrong : ChangeSpec := { name := "reportPlaces", fn := fun _ => fun
  | [d] => { results := [.lit (.bool false)], args := [d] }
  | _ => none }
def ReportPlacesWrongFalsely : Prop := reportPlacesRow.holds Try.pinned (OpenSpec.ofChange reportPlacesWrong)

/-- 'hornbooklaw26.ReportRest': WHATEVER THE INPUT: true; the input reads as it did. -/
def reportRestSpec : ChangeSpec := { name := "reportRest", fn := fun _ => fun
  | [d] => { results := [.lit (.bool true)], args := [d] }
  | _ => none }
def reportRestRow : OpenClaim := { program := "ytdleoankkcemfaa", sum := "a5c8d49215e71c885e6abe50b53b4c2c1f7144d3b5c9b64f4f73c559351dcbee", func := "hornbook/hornbooklaw26.ReportRest", spec := "reportRest", inPlace := ["internal/bytealg.IndexByteString", "internal/bytealg.IndexString"], unfollowed := true, recurses := true, named := ["internal/bytealg.MaxLen"], apart := false }
def ReportRestSaid : Prop := reportRestRow.holds Try.pinned (OpenSpec.ofChange reportRestSpec)

/-- ITS FALSE NEIGHBOUR: 'it returns false'. Refute it at one input. -/
def reportRestWrong : ChangeSpec := { name := "reportRest", fn := fun _ => fun
  | [d] => { results := [.lit (.bool false)], args := [d] }
  | _ => none }
def ReportRestWrongFalsely : Prop := reportRestRow.holds Try.pinned (OpenSpec.ofChange reportRestWrong)

/-- 'hornbooklaw22.CasesChecks': WHATEVER THE INPUT: true; the input reads as it did. -/
def casesChecksSpec : ChangeSpec := { name := "casesChecks", fn := fun _ => fun
  | [d1, d2] => { results := [.lit (.bool true)], args := [d1, d2] }
  | _ => none }
def casesChecksRow : OpenClaim := { program := "ytdleoankkcemfaa", sum := "a5c8d49215e71c885e6abe50b53b4c2c1f7144d3b5c9b64f4f73c559351dcbee", func := "hornbook/hornbooklaw22.CasesChecks", spec := "casesChecks", inPlace := ["internal/abi.NoEscape"], unfollowed := true, recurses := true, apart := false }
def CasesChecksSaid : Prop := casesChecksRow.holds Try.pinned (OpenSpec.ofChange casesChecksSpec)

/-- ITS FALSE NEIGHBOUR: 'it returns false'. Refute it at one input. -/
def casesChecksWrong : ChangeSpec := { name := "casesChecks", fn := fun _ => fun
  | [d1, d2] => { results := [.lit (.bool false)], args := [d1, d2] }
  | _ => none }
def CasesChecksWrongFalsely : Prop := casesChecksRow.holds Try.pinned (OpenSpec.ofChange casesChecksWrong)

/-- 'hornbooklaw22.CasesKept': WHATEVER THE INPUT: true; the input reads as it did. -/
def casesKeptSpec : ChangeSpec := { name := "casesKept", fn := fun _ => fun
  | [d1, d2] => { results := [.lit (.bool true)], args := [d1, d2] }
  | _ => none }
def casesKeptRow : OpenClaim := { program := "ytdleoankkcemfaa", sum := "a5c8d49215e71c885e6abe50b53b4c2c1f7144d3b5c9b64f4f73c559351dcbee", func := "hornbook/hornbooklaw22.CasesKept", spec := "casesKept", inPlace := ["internal/abi.NoEscape"], unfollowed := true, recurses := true, apart := false }
def CasesKeptSaid : Prop := casesKeptRow.holds Try.pinned (OpenSpec.ofChange casesKeptSpec)

/-- ITS FALSE NEIGHBOUR: 'it returns false'. Refute it at one input. -/
def casesKeptWrong : ChangeSpec := { name := "casesKept", fn := fun _ => fun
  | [d1, d2] => { results := [.lit (.bool false)], args := [d1, d2] }
  | _ => none }
def CasesKeptWrongFalsely : Prop := casesKeptRow.holds Try.pinned (OpenSpec.ofChange casesKeptWrong)

/- THE SECOND FORM. 'bulk': how many values and letters a reading holds, each counted each time it is reached (what is shared counts as often as it is met; a slice's spare places count too). A statement '..UptoSaid' is the law's where the arguments, and the package variables that the reading takes, are together of bulk at most 1048576: NARROWER than '..Said'. Prove '..Said' where nothing that the law and all that it calls make is longer than what came in: it says more and counts as full. Else prove '..UptoSaid'. A law counts once. -/
mutual
def uptoBulk {H : Type} : DataW H → Nat
  | .lit (.string bytes) => bytes.length + 1
  | .lit _ => 1
  | .nil => 1
  | .ptr d => uptoBulk d + 1
  | .slice elems spare => uptoBulkAll elems + uptoBulkAll spare + 1
  | .agg parts => uptoBulkAll parts + 1
  | .iface _ d => uptoBulk d + 1
  | .map entries => uptoBulkEntries entries + 1
  | .held _ => 1
def uptoBulkAll {H : Type} : List (DataW H) → Nat
  | [] => 0
  | d :: r => uptoBulk d + uptoBulkAll r
def uptoBulkEntries {H : Type} : List (Lit × DataW H) → Nat
  | [] => 0
  | x :: r => uptoBulkEntry x + uptoBulkEntries r
def uptoBulkEntry {H : Type} : Lit × DataW H → Nat
  | (.string bytes, d) => bytes.length + uptoBulk d + 1
  | (_, d) => uptoBulk d + 1
 end
def uptoSmall : (H : Type) → List (DataW H) → Bool := fun _ ds => decide (uptoBulkAll ds ≤ 1048576)
def OpenSpec.upto (s : _root_.Go.ChangeSpec) : _root_.Go.OpenSpec := { _root_.Go.OpenSpec.ofChange s with cond := some uptoSmall }

/-- 'hornbooklaw22.CasesKinds', WHERE WHAT IT READS IS OF BULK AT MOST 1048576: true; the input reads as it did. -/
def casesKindsUptoRow : OpenClaim := { program := "ytdleoankkcemfaa", sum := "a5c8d49215e71c885e6abe50b53b4c2c1f7144d3b5c9b64f4f73c559351dcbee", func := "hornbook/hornbooklaw22.CasesKinds", spec := "casesKinds", inPlace := ["internal/abi.NoEscape"], unfollowed := true, recurses := true, apart := false, narrowed := true }
def CasesKindsUptoSaid : Prop := casesKindsUptoRow.holds Try.pinned (OpenSpec.upto casesKindsSpec)

/-- 'hornbooklaw22.CasesLetters', WHERE WHAT IT READS IS OF BULK AT MOST 1048576: true; the input reads as it did. -/
def casesLettersUptoRow : OpenClaim := { program := "ytdleoankkcemfaa", sum := "a5c8d49215e71c885e6abe50b53b4c2c1f7144d3b5c9b64f4f73c559351dcbee", func := "hornbook/hornbooklaw22.CasesLetters", spec := "casesLetters", inPlace := ["internal/abi.NoEscape"], unfollowed := true, recurses := true, apart := false, narrowed := true }
def CasesLettersUptoSaid : Prop := casesLettersUptoRow.holds Try.pinned (OpenSpec.upto casesLettersSpec)

/-- 'hornbooklaw22.CasesForms', WHERE WHAT IT READS IS OF BULK AT MOST 1048576: true; the input reads as it did. -/
def casesFormsUptoRow : OpenClaim := { program := "ytdleoankkcemfaa", sum := "a5c8d49215e71c885e6abe50b53b4c2c1f7144d3b5c9b64f4f73c559351dcbee", func := "hornbook/hornbooklaw22.CasesForms", spec := "casesForms", inPlace := ["internal/abi.NoEscape"], unfollowed := true, recurses := true, apart := false, narrowed := true }
def CasesFormsUptoSaid : Prop := casesFormsUptoRow.holds Try.pinned (OpenSpec.upto casesFormsSpec)

/-- 'hornbooklaw22.CasesTurn', WHERE WHAT IT READS IS OF BULK AT MOST 1048576: true; the input reads as it did. -/
def casesTurnUptoRow : OpenClaim := { program := "ytdleoankkcemfaa", sum := "a5c8d49215e71c885e6abe50b53b4c2c1f7144d3b5c9b64f4f73c559351dcbee", func := "hornbook/hornbooklaw22.CasesTurn", spec := "casesTurn", inPlace := ["internal/abi.NoEscape"], unfollowed := true, recurses := true, apart := false, narrowed := true }
def CasesTurnUptoSaid : Prop := casesTurnUptoRow.holds Try.pinned (OpenSpec.upto casesTurnSpec)

/-- 'hornbooklaw26.ReportTokens', WHERE WHAT IT READS IS OF BULK AT MOST 1048576: true; the input reads as it did. -/
def reportTokensUptoRow : OpenClaim := { program := "ytdleoankkcemfaa", sum := "a5c8d49215e71c885e6abe50b53b4c2c1f7144d3b5c9b64f4f73c559351dcbee", func := "hornbook/hornbooklaw26.ReportTokens", spec := "reportTokens", inPlace := ["internal/bytealg.IndexByteString", "internal/bytealg.IndexString"], unfollowed := true, recurses := true, named := ["internal/bytealg.MaxLen"], apart := false, narrowed := true }
def ReportTokensUptoSaid : Prop := reportTokensUptoRow.holds Try.pinned (OpenSpec.upto reportTokensSpec)

/-- 'hornbooklaw26.ReportPlaces', WHERE WHAT IT READS IS OF BULK AT MOST 1048576: true; the input reads as it did. -/
def reportPlacesUptoRow : OpenClaim := { program := "ytdleoankkcemfaa", sum := "a5c8d49215e71c885e6abe50b53b4c2c1f7144d3b5c9b64f4f73c559351dcbee", func := "hornbook/hornbooklaw26.ReportPlaces", spec := "reportPlaces", inPlace := ["internal/bytealg.IndexByteString", "internal/bytealg.IndexString"], unfollowed := true, recurses := true, named := ["internal/bytealg.MaxLen"], apart := false, narrowed := true }
def ReportPlacesUptoSaid : Prop := reportPlacesUptoRow.holds Try.pinned (OpenSpec.upto reportPlacesSpec)

/-- 'hornbooklaw26.ReportRest', WHERE WHAT IT READS IS OF BULK AT MOST 1048576: true; the input reads as it did. -/
def reportRestUptoRow : OpenClaim := { program := "ytdleoankkcemfaa", sum := "a5c8d49215e71c885e6abe50b53b4c2c1f7144d3b5c9b64f4f73c559351dcbee", func := "hornbook/hornbooklaw26.ReportRest", spec := "reportRest", inPlace := ["internal/bytealg.IndexByteString", "internal/bytealg.IndexString"], unfollowed := true, recurses := true, named := ["internal/bytealg.MaxLen"], apart := false, narrowed := true }
def ReportRestUptoSaid : Prop := reportRestUptoRow.holds Try.pinned (OpenSpec.upto reportRestSpec)

/-- 'hornbooklaw22.CasesChecks', WHERE WHAT IT READS IS OF BULK AT MOST 1048576: true; the input reads as it did. -/
def casesChecksUptoRow : OpenClaim := { program := "ytdleoankkcemfaa", sum := "a5c8d49215e71c885e6abe50b53b4c2c1f7144d3b5c9b64f4f73c559351dcbee", func := "hornbook/hornbooklaw22.CasesChecks", spec := "casesChecks", inPlace := ["internal/abi.NoEscape"], unfollowed := true, recurses := true, apart := false, narrowed := true }
def CasesChecksUptoSaid : Prop := casesChecksUptoRow.holds Try.pinned (OpenSpec.upto casesChecksSpec)

/-- 'hornbooklaw22.CasesKept', WHERE WHAT IT READS IS OF BULK AT MOST 1048576: true; the input reads as it did. -/
def casesKeptUptoRow : OpenClaim := { program := "ytdleoankkcemfaa", sum := "a5c8d49215e71c885e6abe50b53b4c2c1f7144d3b5c9b64f4f73c559351dcbee", func := "hornbook/hornbooklaw22.CasesKept", spec := "casesKept", inPlace := ["internal/abi.NoEscape"], unfollowed := true, recurses := true, apart := false, narrowed := true }
def CasesKeptUptoSaid : Prop := casesKeptUptoRow.holds Try.pinned (OpenSpec.upto casesKeptSpec)

end Rows
end Go.Proofs.Ytdleoankkcemfaa
