/-
  DERIVED. GIVEN WITH THE SEED: THE CARDS: each row of YtkdajhmlhjkcdaaGreatDoorRows.lean that lists a variable, with what it lists TIED to the program's text (the seventh form; the later family's looks); each row that meets fmt, with fmt's text TOLD by the authors' own Lean function (tested against real Go, not proved from fmt's source: count such statements apart). THE CARD IS WHAT COUNTS. Prove the row's statement (the work); the ties are given (YtkdajhmlhjkcdaaGreatDoorTie.lean); close each card by the builder's one call (the guide's Derived/Test/ToyasCard.lean, 'card_holds'). Laid BY PROGRAM, IN A SANDBOX (cutbox-door.mjs). By AI agents, Wed Nov 11 2026. No macro, syntax, notation, axiom, sorry.
-/
import Derived.Test.YtkdajhmlhjkcdaaGreatDoorRows
import GoSem.ClaimSeven
namespace Go.Proofs.YtkdajhmlhjkcdaaGreatDoor
namespace Rows

/-- THE TIED CARD OF 'hornbooklaw11.AffReads'. -/
def affReadsCard : Claim7 := { stood := { row := affReadsRow, standIns := [], harness := (true, "aa9dc81d7e5e5a9cdc643fd13525cde544fc34b25a5bcc641daecba06de1b4c4"), looks := true }, kinds := [], alts := [], laidByText := true, laidKinds := [.data, .pinned], laidTests := true, laidLooks := .later }
def AffReadsCardSaid : Prop := Claim7.holds Tryz.pinned (.plain (OpenSpec.ofChange affReadsSpec)) affReadsCard

/-- THE TIED CARD OF 'hornbooklaw11.AffClasses'. -/
def affClassesCard : Claim7 := { stood := { row := affClassesRow, standIns := [], harness := (true, "aa9dc81d7e5e5a9cdc643fd13525cde544fc34b25a5bcc641daecba06de1b4c4"), looks := true }, kinds := [], alts := [], laidByText := true, laidKinds := [.data, .pinned], laidTests := true, laidLooks := .later }
def AffClassesCardSaid : Prop := Claim7.holds Tryz.pinned (.plain (OpenSpec.ofChange affClassesSpec)) affClassesCard

/-- THE TIED CARD OF 'hornbooklaw11.AffFlags'. -/
def affFlagsCard : Claim7 := { stood := { row := affFlagsRow, standIns := [], harness := (true, "aa9dc81d7e5e5a9cdc643fd13525cde544fc34b25a5bcc641daecba06de1b4c4"), looks := true }, kinds := [], alts := [], laidByText := true, laidKinds := [.data, .pinned], laidTests := true, laidLooks := .later }
def AffFlagsCardSaid : Prop := Claim7.holds Tryz.pinned (.plain (OpenSpec.ofChange affFlagsSpec)) affFlagsCard

/-- THE TIED CARD OF 'hornbooklaw11.AffRemarks'. -/
def affRemarksCard : Claim7 := { stood := { row := affRemarksRow, standIns := [], harness := (true, "aa9dc81d7e5e5a9cdc643fd13525cde544fc34b25a5bcc641daecba06de1b4c4"), looks := true }, kinds := [], alts := [], laidByText := true, laidKinds := [.data, .pinned], laidTests := true, laidLooks := .later }
def AffRemarksCardSaid : Prop := Claim7.holds Tryz.pinned (.plain (OpenSpec.ofChange affRemarksSpec)) affRemarksCard

/-- THE TIED CARD OF 'hornbooklaw11.AffFirst'. -/
def affFirstCard : Claim7 := { stood := { row := affFirstRow, standIns := [], harness := (true, "aa9dc81d7e5e5a9cdc643fd13525cde544fc34b25a5bcc641daecba06de1b4c4"), looks := true }, kinds := [], alts := [], laidByText := true, laidKinds := [.data, .pinned], laidTests := true, laidLooks := .later }
def AffFirstCardSaid : Prop := Claim7.holds Tryz.pinned (.plain (OpenSpec.ofChange affFirstSpec)) affFirstCard

/-- THE TIED CARD OF 'hornbooklaw11.AffKeeps'. -/
def affKeepsCard : Claim7 := { stood := { row := affKeepsRow, standIns := [], harness := (true, "aa9dc81d7e5e5a9cdc643fd13525cde544fc34b25a5bcc641daecba06de1b4c4"), looks := true }, kinds := [], alts := [], laidByText := true, laidKinds := [.data, .pinned], laidTests := true, laidLooks := .later }
def AffKeepsCardSaid : Prop := Claim7.holds Tryz.pinned (.plain (OpenSpec.ofChange affKeepsSpec)) affKeepsCard

/-- THE TIED CARD OF 'hornbooklaw11.AffWrites'. -/
def affWritesCard : Claim7 := { stood := { row := affWritesRow, standIns := [], harness := (true, "aa9dc81d7e5e5a9cdc643fd13525cde544fc34b25a5bcc641daecba06de1b4c4"), looks := true }, kinds := [], alts := [], laidByText := true, laidKinds := [.data, .data, .data, .data, .pinned], laidTests := true, laidLooks := .later }
def AffWritesCardSaid : Prop := Claim7.holds Tryz.pinned (.plain (OpenSpec.ofChange affWritesSpec)) affWritesCard

/-- THE TIED CARD OF 'hornbooklaw11.AffNone'. -/
def affNoneCard : Claim7 := { stood := { row := affNoneRow, standIns := [], harness := (true, "aa9dc81d7e5e5a9cdc643fd13525cde544fc34b25a5bcc641daecba06de1b4c4"), looks := true }, kinds := [], alts := [], laidByText := true, laidKinds := [.data, .data, .data, .data, .pinned], laidTests := true, laidLooks := .later }
def AffNoneCardSaid : Prop := Claim7.holds Tryz.pinned (.plain (OpenSpec.ofChange affNoneSpec)) affNoneCard

/-- THE TIED CARD OF 'hornbooklaw11.AffBack'. -/
def affBackCard : Claim7 := { stood := { row := affBackRow, standIns := [], harness := (true, "aa9dc81d7e5e5a9cdc643fd13525cde544fc34b25a5bcc641daecba06de1b4c4"), looks := true }, kinds := [], alts := [], laidByText := true, laidKinds := [.data, .data, .data, .data, .pinned], laidTests := true, laidLooks := .later }
def AffBackCardSaid : Prop := Claim7.holds Tryz.pinned (.plain (OpenSpec.ofChange affBackSpec)) affBackCard

/-- THE SECOND FORM's CARD OF 'hornbooklaw11.AffReads'. -/
def affReadsUptoCard : Claim7 := { stood := { row := affReadsUptoRow, standIns := [], harness := (true, "aa9dc81d7e5e5a9cdc643fd13525cde544fc34b25a5bcc641daecba06de1b4c4"), looks := true }, kinds := [], alts := [], laidByText := true, laidKinds := [.data, .pinned], laidTests := true, laidLooks := .later }
def AffReadsUptoCardSaid : Prop := Claim7.holds Tryz.pinned (.plain (OpenSpec.upto affReadsSpec)) affReadsUptoCard

/-- THE SECOND FORM's CARD OF 'hornbooklaw11.AffClasses'. -/
def affClassesUptoCard : Claim7 := { stood := { row := affClassesUptoRow, standIns := [], harness := (true, "aa9dc81d7e5e5a9cdc643fd13525cde544fc34b25a5bcc641daecba06de1b4c4"), looks := true }, kinds := [], alts := [], laidByText := true, laidKinds := [.data, .pinned], laidTests := true, laidLooks := .later }
def AffClassesUptoCardSaid : Prop := Claim7.holds Tryz.pinned (.plain (OpenSpec.upto affClassesSpec)) affClassesUptoCard

/-- THE SECOND FORM's CARD OF 'hornbooklaw11.AffFlags'. -/
def affFlagsUptoCard : Claim7 := { stood := { row := affFlagsUptoRow, standIns := [], harness := (true, "aa9dc81d7e5e5a9cdc643fd13525cde544fc34b25a5bcc641daecba06de1b4c4"), looks := true }, kinds := [], alts := [], laidByText := true, laidKinds := [.data, .pinned], laidTests := true, laidLooks := .later }
def AffFlagsUptoCardSaid : Prop := Claim7.holds Tryz.pinned (.plain (OpenSpec.upto affFlagsSpec)) affFlagsUptoCard

/-- THE SECOND FORM's CARD OF 'hornbooklaw11.AffRemarks'. -/
def affRemarksUptoCard : Claim7 := { stood := { row := affRemarksUptoRow, standIns := [], harness := (true, "aa9dc81d7e5e5a9cdc643fd13525cde544fc34b25a5bcc641daecba06de1b4c4"), looks := true }, kinds := [], alts := [], laidByText := true, laidKinds := [.data, .pinned], laidTests := true, laidLooks := .later }
def AffRemarksUptoCardSaid : Prop := Claim7.holds Tryz.pinned (.plain (OpenSpec.upto affRemarksSpec)) affRemarksUptoCard

/-- THE SECOND FORM's CARD OF 'hornbooklaw11.AffFirst'. -/
def affFirstUptoCard : Claim7 := { stood := { row := affFirstUptoRow, standIns := [], harness := (true, "aa9dc81d7e5e5a9cdc643fd13525cde544fc34b25a5bcc641daecba06de1b4c4"), looks := true }, kinds := [], alts := [], laidByText := true, laidKinds := [.data, .pinned], laidTests := true, laidLooks := .later }
def AffFirstUptoCardSaid : Prop := Claim7.holds Tryz.pinned (.plain (OpenSpec.upto affFirstSpec)) affFirstUptoCard

/-- THE SECOND FORM's CARD OF 'hornbooklaw11.AffKeeps'. -/
def affKeepsUptoCard : Claim7 := { stood := { row := affKeepsUptoRow, standIns := [], harness := (true, "aa9dc81d7e5e5a9cdc643fd13525cde544fc34b25a5bcc641daecba06de1b4c4"), looks := true }, kinds := [], alts := [], laidByText := true, laidKinds := [.data, .pinned], laidTests := true, laidLooks := .later }
def AffKeepsUptoCardSaid : Prop := Claim7.holds Tryz.pinned (.plain (OpenSpec.upto affKeepsSpec)) affKeepsUptoCard

/-- THE SECOND FORM's CARD OF 'hornbooklaw11.AffWrites'. -/
def affWritesUptoCard : Claim7 := { stood := { row := affWritesUptoRow, standIns := [], harness := (true, "aa9dc81d7e5e5a9cdc643fd13525cde544fc34b25a5bcc641daecba06de1b4c4"), looks := true }, kinds := [], alts := [], laidByText := true, laidKinds := [.data, .data, .data, .data, .pinned], laidTests := true, laidLooks := .later }
def AffWritesUptoCardSaid : Prop := Claim7.holds Tryz.pinned (.plain (OpenSpec.upto affWritesSpec)) affWritesUptoCard

/-- THE SECOND FORM's CARD OF 'hornbooklaw11.AffNone'. -/
def affNoneUptoCard : Claim7 := { stood := { row := affNoneUptoRow, standIns := [], harness := (true, "aa9dc81d7e5e5a9cdc643fd13525cde544fc34b25a5bcc641daecba06de1b4c4"), looks := true }, kinds := [], alts := [], laidByText := true, laidKinds := [.data, .data, .data, .data, .pinned], laidTests := true, laidLooks := .later }
def AffNoneUptoCardSaid : Prop := Claim7.holds Tryz.pinned (.plain (OpenSpec.upto affNoneSpec)) affNoneUptoCard

/-- THE SECOND FORM's CARD OF 'hornbooklaw11.AffBack'. -/
def affBackUptoCard : Claim7 := { stood := { row := affBackUptoRow, standIns := [], harness := (true, "aa9dc81d7e5e5a9cdc643fd13525cde544fc34b25a5bcc641daecba06de1b4c4"), looks := true }, kinds := [], alts := [], laidByText := true, laidKinds := [.data, .data, .data, .data, .pinned], laidTests := true, laidLooks := .later }
def AffBackUptoCardSaid : Prop := Claim7.holds Tryz.pinned (.plain (OpenSpec.upto affBackSpec)) affBackUptoCard
end Rows
end Go.Proofs.YtkdajhmlhjkcdaaGreatDoor
