/-
  DERIVED. GIVEN WITH THE SEED: THE CARDS: each row of YtbhfkhfnljddhaaDoorRows.lean that lists a variable, with what it lists TIED to the program's text (the seventh form; the later family's looks); each row that meets fmt, with fmt's text TOLD by the authors' own Lean function (tested against real Go, not proved from fmt's source: count such statements apart). THE CARD IS WHAT COUNTS. Prove the row's statement (the work); the ties are given (YtbhfkhfnljddhaaDoorTie.lean); close each card by the builder's one call (the guide's Derived/Test/ToyasCard.lean, 'card_holds'). Laid BY PROGRAM, IN A SANDBOX (cutbox-door.mjs). By AI agents, Wed Nov 11 2026. No macro, syntax, notation, axiom, sorry.
-/
import Derived.Test.YtbhfkhfnljddhaaDoorRows
import GoSem.ClaimSeven
namespace Go.Proofs.YtbhfkhfnljddhaaDoor
namespace Rows

/-- THE TIED CARD OF 'hornbooklaw01.LinesFielded'. -/
def linesFieldedCard : Claim7 := { stood := { row := linesFieldedRow, standIns := [], harness := (true, "f2d9e13c633c860309b8dc18f22fd2cdc6ea939fb3f668cb7a5949755b0fba6f"), looks := false }, kinds := [], alts := [], laidByText := true, laidKinds := [.data, .data, .data], laidTests := true, laidLooks := .later }
def LinesFieldedCardSaid : Prop := Claim7.holds Tryd.pinned (.plain (OpenSpec.ofChange linesFieldedSpec)) linesFieldedCard

/-- THE TIED CARD OF 'hornbooklaw01.LinesNumbered'. -/
def linesNumberedCard : Claim7 := { stood := { row := linesNumberedRow, standIns := [], harness := (true, "f2d9e13c633c860309b8dc18f22fd2cdc6ea939fb3f668cb7a5949755b0fba6f"), looks := false }, kinds := [], alts := [], laidByText := true, laidKinds := [.data, .data, .data], laidTests := true, laidLooks := .later }
def LinesNumberedCardSaid : Prop := Claim7.holds Tryd.pinned (.plain (OpenSpec.ofChange linesNumberedSpec)) linesNumberedCard

/-- THE TIED CARD OF 'hornbooklaw01.LinesDecimals'. -/
def linesDecimalsCard : Claim7 := { stood := { row := linesDecimalsRow, standIns := [], harness := (true, "f2d9e13c633c860309b8dc18f22fd2cdc6ea939fb3f668cb7a5949755b0fba6f"), looks := false }, kinds := [], alts := [], laidByText := true, laidKinds := [.data, .data, .data], laidTests := true, laidLooks := .later }
def LinesDecimalsCardSaid : Prop := Claim7.holds Tryd.pinned (.plain (OpenSpec.ofChange linesDecimalsSpec)) linesDecimalsCard

/-- THE TIED CARD OF 'hornbooklaw01.LinesCounts'. -/
def linesCountsCard : Claim7 := { stood := { row := linesCountsRow, standIns := [], harness := (true, "f2d9e13c633c860309b8dc18f22fd2cdc6ea939fb3f668cb7a5949755b0fba6f"), looks := false }, kinds := [], alts := [], laidByText := true, laidKinds := [.data, .data, .data], laidTests := true, laidLooks := .later }
def LinesCountsCardSaid : Prop := Claim7.holds Tryd.pinned (.plain (OpenSpec.ofChange linesCountsSpec)) linesCountsCard

/-- THE TIED CARD OF 'hornbooklaw01.LinesBlanks'. -/
def linesBlanksCard : Claim7 := { stood := { row := linesBlanksRow, standIns := [], harness := (true, "f2d9e13c633c860309b8dc18f22fd2cdc6ea939fb3f668cb7a5949755b0fba6f"), looks := false }, kinds := [], alts := [], laidByText := true, laidKinds := [.data, .data, .data], laidTests := true, laidLooks := .later }
def LinesBlanksCardSaid : Prop := Claim7.holds Tryd.pinned (.plain (OpenSpec.ofChange linesBlanksSpec)) linesBlanksCard

/-- THE TIED CARD OF 'hornbooklaw01.LinesEaches'. -/
def linesEachesCard : Claim7 := { stood := { row := linesEachesRow, standIns := [], harness := (true, "f2d9e13c633c860309b8dc18f22fd2cdc6ea939fb3f668cb7a5949755b0fba6f"), looks := false }, kinds := [], alts := [], laidByText := true, laidKinds := [.data, .data, .data], laidTests := true, laidLooks := .later }
def LinesEachesCardSaid : Prop := Claim7.holds Tryd.pinned (.plain (OpenSpec.ofChange linesEachesSpec)) linesEachesCard

/-- THE TIED CARD OF 'hornbooklaw01.LinesSplits'. -/
def linesSplitsCard : Claim7 := { stood := { row := linesSplitsRow, standIns := [], harness := (true, "f2d9e13c633c860309b8dc18f22fd2cdc6ea939fb3f668cb7a5949755b0fba6f"), looks := false }, kinds := [], alts := [], laidByText := true, laidKinds := [.data, .data, .data], laidTests := true, laidLooks := .later }
def LinesSplitsCardSaid : Prop := Claim7.holds Tryd.pinned (.plain (OpenSpec.ofChange linesSplitsSpec)) linesSplitsCard

/-- THE TIED CARD OF 'hornbooklaw01.LinesEnds'. -/
def linesEndsCard : Claim7 := { stood := { row := linesEndsRow, standIns := [], harness := (true, "f2d9e13c633c860309b8dc18f22fd2cdc6ea939fb3f668cb7a5949755b0fba6f"), looks := false }, kinds := [], alts := [], laidByText := true, laidKinds := [.data, .data, .data], laidTests := true, laidLooks := .later }
def LinesEndsCardSaid : Prop := Claim7.holds Tryd.pinned (.plain (OpenSpec.ofChange linesEndsSpec)) linesEndsCard

/-- THE TIED CARD OF 'hornbooklaw01.LinesRowed'. -/
def linesRowedCard : Claim7 := { stood := { row := linesRowedRow, standIns := [], harness := (true, "f2d9e13c633c860309b8dc18f22fd2cdc6ea939fb3f668cb7a5949755b0fba6f"), looks := false }, kinds := [], alts := [], laidByText := true, laidKinds := [.data, .data, .data], laidTests := true, laidLooks := .later }
def LinesRowedCardSaid : Prop := Claim7.holds Tryd.pinned (.plain (OpenSpec.ofChange linesRowedSpec)) linesRowedCard

/-- THE TIED CARD OF 'hornbooklaw01.LinesKeeps'. -/
def linesKeepsCard : Claim7 := { stood := { row := linesKeepsRow, standIns := [], harness := (true, "f2d9e13c633c860309b8dc18f22fd2cdc6ea939fb3f668cb7a5949755b0fba6f"), looks := false }, kinds := [], alts := [], laidByText := true, laidKinds := [.data, .data, .data], laidTests := true, laidLooks := .later }
def LinesKeepsCardSaid : Prop := Claim7.holds Tryd.pinned (.plain (OpenSpec.ofChange linesKeepsSpec)) linesKeepsCard

/-- THE TIED CARD OF 'hornbooklaw01.LinesShown'. -/
def linesShownCard : Claim7 := { stood := { row := linesShownRow, standIns := [], harness := (true, "f2d9e13c633c860309b8dc18f22fd2cdc6ea939fb3f668cb7a5949755b0fba6f"), looks := false }, kinds := [], alts := [], laidByText := true, laidKinds := [.data, .data, .data], laidTests := true, laidLooks := .later }
def LinesShownCardSaid : Prop := Claim7.holds Tryd.pinned (.plain (OpenSpec.ofChange linesShownSpec)) linesShownCard

/-- THE TIED CARD OF 'hornbooklaw01.LinesBack'. -/
def linesBackCard : Claim7 := { stood := { row := linesBackRow, standIns := [], harness := (true, "f2d9e13c633c860309b8dc18f22fd2cdc6ea939fb3f668cb7a5949755b0fba6f"), looks := false }, kinds := [], alts := [], laidByText := true, laidKinds := [.data, .data, .data], laidTests := true, laidLooks := .later }
def LinesBackCardSaid : Prop := Claim7.holds Tryd.pinned (.plain (OpenSpec.ofChange linesBackSpec)) linesBackCard

/-- THE SECOND FORM's CARD OF 'hornbooklaw01.LinesFielded'. -/
def linesFieldedUptoCard : Claim7 := { stood := { row := linesFieldedUptoRow, standIns := [], harness := (true, "f2d9e13c633c860309b8dc18f22fd2cdc6ea939fb3f668cb7a5949755b0fba6f"), looks := false }, kinds := [], alts := [], laidByText := true, laidKinds := [.data, .data, .data], laidTests := true, laidLooks := .later }
def LinesFieldedUptoCardSaid : Prop := Claim7.holds Tryd.pinned (.plain (OpenSpec.upto linesFieldedSpec)) linesFieldedUptoCard

/-- THE SECOND FORM's CARD OF 'hornbooklaw01.LinesNumbered'. -/
def linesNumberedUptoCard : Claim7 := { stood := { row := linesNumberedUptoRow, standIns := [], harness := (true, "f2d9e13c633c860309b8dc18f22fd2cdc6ea939fb3f668cb7a5949755b0fba6f"), looks := false }, kinds := [], alts := [], laidByText := true, laidKinds := [.data, .data, .data], laidTests := true, laidLooks := .later }
def LinesNumberedUptoCardSaid : Prop := Claim7.holds Tryd.pinned (.plain (OpenSpec.upto linesNumberedSpec)) linesNumberedUptoCard

/-- THE SECOND FORM's CARD OF 'hornbooklaw01.LinesDecimals'. -/
def linesDecimalsUptoCard : Claim7 := { stood := { row := linesDecimalsUptoRow, standIns := [], harness := (true, "f2d9e13c633c860309b8dc18f22fd2cdc6ea939fb3f668cb7a5949755b0fba6f"), looks := false }, kinds := [], alts := [], laidByText := true, laidKinds := [.data, .data, .data], laidTests := true, laidLooks := .later }
def LinesDecimalsUptoCardSaid : Prop := Claim7.holds Tryd.pinned (.plain (OpenSpec.upto linesDecimalsSpec)) linesDecimalsUptoCard

/-- THE SECOND FORM's CARD OF 'hornbooklaw01.LinesCounts'. -/
def linesCountsUptoCard : Claim7 := { stood := { row := linesCountsUptoRow, standIns := [], harness := (true, "f2d9e13c633c860309b8dc18f22fd2cdc6ea939fb3f668cb7a5949755b0fba6f"), looks := false }, kinds := [], alts := [], laidByText := true, laidKinds := [.data, .data, .data], laidTests := true, laidLooks := .later }
def LinesCountsUptoCardSaid : Prop := Claim7.holds Tryd.pinned (.plain (OpenSpec.upto linesCountsSpec)) linesCountsUptoCard

/-- THE SECOND FORM's CARD OF 'hornbooklaw01.LinesBlanks'. -/
def linesBlanksUptoCard : Claim7 := { stood := { row := linesBlanksUptoRow, standIns := [], harness := (true, "f2d9e13c633c860309b8dc18f22fd2cdc6ea939fb3f668cb7a5949755b0fba6f"), looks := false }, kinds := [], alts := [], laidByText := true, laidKinds := [.data, .data, .data], laidTests := true, laidLooks := .later }
def LinesBlanksUptoCardSaid : Prop := Claim7.holds Tryd.pinned (.plain (OpenSpec.upto linesBlanksSpec)) linesBlanksUptoCard

/-- THE SECOND FORM's CARD OF 'hornbooklaw01.LinesEaches'. -/
def linesEachesUptoCard : Claim7 := { stood := { row := linesEachesUptoRow, standIns := [], harness := (true, "f2d9e13c633c860309b8dc18f22fd2cdc6ea939fb3f668cb7a5949755b0fba6f"), looks := false }, kinds := [], alts := [], laidByText := true, laidKinds := [.data, .data, .data], laidTests := true, laidLooks := .later }
def LinesEachesUptoCardSaid : Prop := Claim7.holds Tryd.pinned (.plain (OpenSpec.upto linesEachesSpec)) linesEachesUptoCard

/-- THE SECOND FORM's CARD OF 'hornbooklaw01.LinesSplits'. -/
def linesSplitsUptoCard : Claim7 := { stood := { row := linesSplitsUptoRow, standIns := [], harness := (true, "f2d9e13c633c860309b8dc18f22fd2cdc6ea939fb3f668cb7a5949755b0fba6f"), looks := false }, kinds := [], alts := [], laidByText := true, laidKinds := [.data, .data, .data], laidTests := true, laidLooks := .later }
def LinesSplitsUptoCardSaid : Prop := Claim7.holds Tryd.pinned (.plain (OpenSpec.upto linesSplitsSpec)) linesSplitsUptoCard

/-- THE SECOND FORM's CARD OF 'hornbooklaw01.LinesEnds'. -/
def linesEndsUptoCard : Claim7 := { stood := { row := linesEndsUptoRow, standIns := [], harness := (true, "f2d9e13c633c860309b8dc18f22fd2cdc6ea939fb3f668cb7a5949755b0fba6f"), looks := false }, kinds := [], alts := [], laidByText := true, laidKinds := [.data, .data, .data], laidTests := true, laidLooks := .later }
def LinesEndsUptoCardSaid : Prop := Claim7.holds Tryd.pinned (.plain (OpenSpec.upto linesEndsSpec)) linesEndsUptoCard

/-- THE SECOND FORM's CARD OF 'hornbooklaw01.LinesRowed'. -/
def linesRowedUptoCard : Claim7 := { stood := { row := linesRowedUptoRow, standIns := [], harness := (true, "f2d9e13c633c860309b8dc18f22fd2cdc6ea939fb3f668cb7a5949755b0fba6f"), looks := false }, kinds := [], alts := [], laidByText := true, laidKinds := [.data, .data, .data], laidTests := true, laidLooks := .later }
def LinesRowedUptoCardSaid : Prop := Claim7.holds Tryd.pinned (.plain (OpenSpec.upto linesRowedSpec)) linesRowedUptoCard

/-- THE SECOND FORM's CARD OF 'hornbooklaw01.LinesKeeps'. -/
def linesKeepsUptoCard : Claim7 := { stood := { row := linesKeepsUptoRow, standIns := [], harness := (true, "f2d9e13c633c860309b8dc18f22fd2cdc6ea939fb3f668cb7a5949755b0fba6f"), looks := false }, kinds := [], alts := [], laidByText := true, laidKinds := [.data, .data, .data], laidTests := true, laidLooks := .later }
def LinesKeepsUptoCardSaid : Prop := Claim7.holds Tryd.pinned (.plain (OpenSpec.upto linesKeepsSpec)) linesKeepsUptoCard

/-- THE SECOND FORM's CARD OF 'hornbooklaw01.LinesShown'. -/
def linesShownUptoCard : Claim7 := { stood := { row := linesShownUptoRow, standIns := [], harness := (true, "f2d9e13c633c860309b8dc18f22fd2cdc6ea939fb3f668cb7a5949755b0fba6f"), looks := false }, kinds := [], alts := [], laidByText := true, laidKinds := [.data, .data, .data], laidTests := true, laidLooks := .later }
def LinesShownUptoCardSaid : Prop := Claim7.holds Tryd.pinned (.plain (OpenSpec.upto linesShownSpec)) linesShownUptoCard

/-- THE SECOND FORM's CARD OF 'hornbooklaw01.LinesBack'. -/
def linesBackUptoCard : Claim7 := { stood := { row := linesBackUptoRow, standIns := [], harness := (true, "f2d9e13c633c860309b8dc18f22fd2cdc6ea939fb3f668cb7a5949755b0fba6f"), looks := false }, kinds := [], alts := [], laidByText := true, laidKinds := [.data, .data, .data], laidTests := true, laidLooks := .later }
def LinesBackUptoCardSaid : Prop := Claim7.holds Tryd.pinned (.plain (OpenSpec.upto linesBackSpec)) linesBackUptoCard
end Rows
end Go.Proofs.YtbhfkhfnljddhaaDoor
