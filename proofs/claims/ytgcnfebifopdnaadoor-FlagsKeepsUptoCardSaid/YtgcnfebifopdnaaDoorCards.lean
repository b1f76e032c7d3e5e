/-
  DERIVED. GIVEN WITH THE SEED: THE CARDS: each row of YtgcnfebifopdnaaDoorRows.lean that lists a variable, with what it lists TIED to the program's text (the seventh form; the later family's looks); each row that meets fmt, with fmt's text TOLD by the authors' own Lean function (tested against real Go, not proved from fmt's source: count such statements apart). THE CARD IS WHAT COUNTS. Prove the row's statement (the work); the ties are given (YtgcnfebifopdnaaDoorTie.lean); close each card by the builder's one call (the guide's Derived/Test/ToyasCard.lean, 'card_holds'). Laid BY PROGRAM, IN A SANDBOX (cutbox-door.mjs). By AI agents, Wed Nov 11 2026. No macro, syntax, notation, axiom, sorry.
-/
import Derived.Test.YtgcnfebifopdnaaDoorRows
import GoSem.ClaimSeven
namespace Go.Proofs.YtgcnfebifopdnaaDoor
namespace Rows

/-- THE TIED CARD OF 'hornbooklaw03.FlagsReads'. -/
def flagsReadsCard : Claim7 := { stood := { row := flagsReadsRow, standIns := [], harness := (true, "59976f4db9fe2dedbcfe7f640483c2dc46e141c709534b66b761207560ebff0d"), looks := false }, kinds := [], alts := [], laidByText := true, laidKinds := [.data, .pinned], laidTests := true, laidLooks := .later }
def FlagsReadsCardSaid : Prop := Claim7.holds Tryd.pinned (.plain (OpenSpec.ofChange flagsReadsSpec)) flagsReadsCard

/-- THE TIED CARD OF 'hornbooklaw03.FlagsOnes'. -/
def flagsOnesCard : Claim7 := { stood := { row := flagsOnesRow, standIns := [], harness := (true, "59976f4db9fe2dedbcfe7f640483c2dc46e141c709534b66b761207560ebff0d"), looks := false }, kinds := [], alts := [], laidByText := true, laidKinds := [.data, .pinned], laidTests := true, laidLooks := .later }
def FlagsOnesCardSaid : Prop := Claim7.holds Tryd.pinned (.plain (OpenSpec.ofChange flagsOnesSpec)) flagsOnesCard

/-- THE TIED CARD OF 'hornbooklaw03.FlagsFolds'. -/
def flagsFoldsCard : Claim7 := { stood := { row := flagsFoldsRow, standIns := [], harness := (true, "59976f4db9fe2dedbcfe7f640483c2dc46e141c709534b66b761207560ebff0d"), looks := false }, kinds := [], alts := [], laidByText := true, laidKinds := [.data, .pinned], laidTests := true, laidLooks := .later }
def FlagsFoldsCardSaid : Prop := Claim7.holds Tryd.pinned (.plain (OpenSpec.ofChange flagsFoldsSpec)) flagsFoldsCard

/-- THE TIED CARD OF 'hornbooklaw03.FlagsDrops'. -/
def flagsDropsCard : Claim7 := { stood := { row := flagsDropsRow, standIns := [], harness := (true, "59976f4db9fe2dedbcfe7f640483c2dc46e141c709534b66b761207560ebff0d"), looks := false }, kinds := [], alts := [], laidByText := true, laidKinds := [.data, .pinned], laidTests := true, laidLooks := .later }
def FlagsDropsCardSaid : Prop := Claim7.holds Tryd.pinned (.plain (OpenSpec.ofChange flagsDropsSpec)) flagsDropsCard

/-- THE TIED CARD OF 'hornbooklaw03.FlagsKeeps'. -/
def flagsKeepsCard : Claim7 := { stood := { row := flagsKeepsRow, standIns := [], harness := (true, "59976f4db9fe2dedbcfe7f640483c2dc46e141c709534b66b761207560ebff0d"), looks := false }, kinds := [], alts := [], laidByText := true, laidKinds := [.data, .pinned], laidTests := true, laidLooks := .later }
def FlagsKeepsCardSaid : Prop := Claim7.holds Tryd.pinned (.plain (OpenSpec.ofChange flagsKeepsSpec)) flagsKeepsCard

/-- THE TIED CARD OF 'hornbooklaw03.FlagsSets'. -/
def flagsSetsCard : Claim7 := { stood := { row := flagsSetsRow, standIns := [], harness := (true, "59976f4db9fe2dedbcfe7f640483c2dc46e141c709534b66b761207560ebff0d"), looks := false }, kinds := [], alts := [], laidByText := true, laidKinds := [.data, .pinned], laidTests := true, laidLooks := .later }
def FlagsSetsCardSaid : Prop := Claim7.holds Tryd.pinned (.plain (OpenSpec.ofChange flagsSetsSpec)) flagsSetsCard

/-- THE TIED CARD OF 'hornbooklaw03.FlagsShows'. -/
def flagsShowsCard : Claim7 := { stood := { row := flagsShowsRow, standIns := [], harness := (true, "59976f4db9fe2dedbcfe7f640483c2dc46e141c709534b66b761207560ebff0d"), looks := false }, kinds := [], alts := [], laidByText := true, laidKinds := [.data, .data, .data, .data, .pinned], laidTests := true, laidLooks := .later }
def FlagsShowsCardSaid : Prop := Claim7.holds Tryd.pinned (.plain (OpenSpec.ofChange flagsShowsSpec)) flagsShowsCard

/-- THE TIED CARD OF 'hornbooklaw03.FlagsBack'. -/
def flagsBackCard : Claim7 := { stood := { row := flagsBackRow, standIns := [], harness := (true, "59976f4db9fe2dedbcfe7f640483c2dc46e141c709534b66b761207560ebff0d"), looks := false }, kinds := [], alts := [], laidByText := true, laidKinds := [.data, .data, .data, .data, .pinned], laidTests := true, laidLooks := .later }
def FlagsBackCardSaid : Prop := Claim7.holds Tryd.pinned (.plain (OpenSpec.ofChange flagsBackSpec)) flagsBackCard

/-- THE SECOND FORM's CARD OF 'hornbooklaw03.FlagsReads'. -/
def flagsReadsUptoCard : Claim7 := { stood := { row := flagsReadsUptoRow, standIns := [], harness := (true, "59976f4db9fe2dedbcfe7f640483c2dc46e141c709534b66b761207560ebff0d"), looks := false }, kinds := [], alts := [], laidByText := true, laidKinds := [.data, .pinned], laidTests := true, laidLooks := .later }
def FlagsReadsUptoCardSaid : Prop := Claim7.holds Tryd.pinned (.plain (OpenSpec.upto flagsReadsSpec)) flagsReadsUptoCard

/-- THE SECOND FORM's CARD OF 'hornbooklaw03.FlagsOnes'. -/
def flagsOnesUptoCard : Claim7 := { stood := { row := flagsOnesUptoRow, standIns := [], harness := (true, "59976f4db9fe2dedbcfe7f640483c2dc46e141c709534b66b761207560ebff0d"), looks := false }, kinds := [], alts := [], laidByText := true, laidKinds := [.data, .pinned], laidTests := true, laidLooks := .later }
def FlagsOnesUptoCardSaid : Prop := Claim7.holds Tryd.pinned (.plain (OpenSpec.upto flagsOnesSpec)) flagsOnesUptoCard

/-- THE SECOND FORM's CARD OF 'hornbooklaw03.FlagsFolds'. -/
def flagsFoldsUptoCard : Claim7 := { stood := { row := flagsFoldsUptoRow, standIns := [], harness := (true, "59976f4db9fe2dedbcfe7f640483c2dc46e141c709534b66b761207560ebff0d"), looks := false }, kinds := [], alts := [], laidByText := true, laidKinds := [.data, .pinned], laidTests := true, laidLooks := .later }
def FlagsFoldsUptoCardSaid : Prop := Claim7.holds Tryd.pinned (.plain (OpenSpec.upto flagsFoldsSpec)) flagsFoldsUptoCard

/-- THE SECOND FORM's CARD OF 'hornbooklaw03.FlagsDrops'. -/
def flagsDropsUptoCard : Claim7 := { stood := { row := flagsDropsUptoRow, standIns := [], harness := (true, "59976f4db9fe2dedbcfe7f640483c2dc46e141c709534b66b761207560ebff0d"), looks := false }, kinds := [], alts := [], laidByText := true, laidKinds := [.data, .pinned], laidTests := true, laidLooks := .later }
def FlagsDropsUptoCardSaid : Prop := Claim7.holds Tryd.pinned (.plain (OpenSpec.upto flagsDropsSpec)) flagsDropsUptoCard

/-- THE SECOND FORM's CARD OF 'hornbooklaw03.FlagsKeeps'. -/
def flagsKeepsUptoCard : Claim7 := { stood := { row := flagsKeepsUptoRow, standIns := [], harness := (true, "59976f4db9fe2dedbcfe7f640483c2dc46e141c709534b66b761207560ebff0d"), looks := false }, kinds := [], alts := [], laidByText := true, laidKinds := [.data, .pinned], laidTests := true, laidLooks := .later }
def FlagsKeepsUptoCardSaid : Prop := Claim7.holds Tryd.pinned (.plain (OpenSpec.upto flagsKeepsSpec)) flagsKeepsUptoCard

/-- THE SECOND FORM's CARD OF 'hornbooklaw03.FlagsSets'. -/
def flagsSetsUptoCard : Claim7 := { stood := { row := flagsSetsUptoRow, standIns := [], harness := (true, "59976f4db9fe2dedbcfe7f640483c2dc46e141c709534b66b761207560ebff0d"), looks := false }, kinds := [], alts := [], laidByText := true, laidKinds := [.data, .pinned], laidTests := true, laidLooks := .later }
def FlagsSetsUptoCardSaid : Prop := Claim7.holds Tryd.pinned (.plain (OpenSpec.upto flagsSetsSpec)) flagsSetsUptoCard

/-- THE SECOND FORM's CARD OF 'hornbooklaw03.FlagsShows'. -/
def flagsShowsUptoCard : Claim7 := { stood := { row := flagsShowsUptoRow, standIns := [], harness := (true, "59976f4db9fe2dedbcfe7f640483c2dc46e141c709534b66b761207560ebff0d"), looks := false }, kinds := [], alts := [], laidByText := true, laidKinds := [.data, .data, .data, .data, .pinned], laidTests := true, laidLooks := .later }
def FlagsShowsUptoCardSaid : Prop := Claim7.holds Tryd.pinned (.plain (OpenSpec.upto flagsShowsSpec)) flagsShowsUptoCard

/-- THE SECOND FORM's CARD OF 'hornbooklaw03.FlagsBack'. -/
def flagsBackUptoCard : Claim7 := { stood := { row := flagsBackUptoRow, standIns := [], harness := (true, "59976f4db9fe2dedbcfe7f640483c2dc46e141c709534b66b761207560ebff0d"), looks := false }, kinds := [], alts := [], laidByText := true, laidKinds := [.data, .data, .data, .data, .pinned], laidTests := true, laidLooks := .later }
def FlagsBackUptoCardSaid : Prop := Claim7.holds Tryd.pinned (.plain (OpenSpec.upto flagsBackSpec)) flagsBackUptoCard
end Rows
end Go.Proofs.YtgcnfebifopdnaaDoor
