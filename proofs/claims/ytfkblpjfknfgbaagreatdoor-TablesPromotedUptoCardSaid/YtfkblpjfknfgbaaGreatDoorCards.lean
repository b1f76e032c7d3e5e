/-
  DERIVED. GIVEN WITH THE SEED: THE CARDS: each row of YtfkblpjfknfgbaaGreatDoorRows.lean that lists a variable, with what it lists TIED to the program's text (the seventh form; the later family's looks); each row that meets fmt, with fmt's text TOLD by the authors' own Lean function (tested against real Go, not proved from fmt's source: count such statements apart). THE CARD IS WHAT COUNTS. Prove the row's statement (the work); the ties are given (YtfkblpjfknfgbaaGreatDoorTie.lean); close each card by the builder's one call (the guide's Derived/Test/ToyasCard.lean, 'card_holds'). Laid BY PROGRAM, IN A SANDBOX (cutbox-door.mjs). By AI agents, Wed Nov 11 2026. No macro, syntax, notation, axiom, sorry.
-/
import Derived.Test.YtfkblpjfknfgbaaGreatDoorRows
import GoSem.ClaimSeven
namespace Go.Proofs.YtfkblpjfknfgbaaGreatDoor
namespace Rows

/-- THE TIED CARD OF 'hornbooklaw13.TablesReads'. -/
def tablesReadsCard : Claim7 := { stood := { row := tablesReadsRow, standIns := [], harness := (true, "f39c69a7f8058642050bc25ae39b03ea1b4ab03fba726edba59aa7bcc54c6245"), looks := true }, kinds := [], alts := [], laidByText := true, laidKinds := [.data, .pinned], laidTests := true, laidLooks := .later }
def TablesReadsCardSaid : Prop := Claim7.holds Tryz.pinned (.plain (OpenSpec.ofChange tablesReadsSpec)) tablesReadsCard

/-- THE TIED CARD OF 'hornbooklaw13.TablesFirst'. -/
def tablesFirstCard : Claim7 := { stood := { row := tablesFirstRow, standIns := [], harness := (true, "f39c69a7f8058642050bc25ae39b03ea1b4ab03fba726edba59aa7bcc54c6245"), looks := true }, kinds := [], alts := [], laidByText := true, laidKinds := [.data, .pinned], laidTests := true, laidLooks := .later }
def TablesFirstCardSaid : Prop := Claim7.holds Tryz.pinned (.plain (OpenSpec.ofChange tablesFirstSpec)) tablesFirstCard

/-- THE TIED CARD OF 'hornbooklaw13.TablesMarks'. -/
def tablesMarksCard : Claim7 := { stood := { row := tablesMarksRow, standIns := [], harness := (true, "f39c69a7f8058642050bc25ae39b03ea1b4ab03fba726edba59aa7bcc54c6245"), looks := true }, kinds := [], alts := [], laidByText := true, laidKinds := [.data, .pinned], laidTests := true, laidLooks := .later }
def TablesMarksCardSaid : Prop := Claim7.holds Tryz.pinned (.plain (OpenSpec.ofChange tablesMarksSpec)) tablesMarksCard

/-- THE TIED CARD OF 'hornbooklaw13.TablesRules'. -/
def tablesRulesCard : Claim7 := { stood := { row := tablesRulesRow, standIns := [], harness := (true, "f39c69a7f8058642050bc25ae39b03ea1b4ab03fba726edba59aa7bcc54c6245"), looks := true }, kinds := [], alts := [], laidByText := true, laidKinds := [.data, .pinned], laidTests := true, laidLooks := .later }
def TablesRulesCardSaid : Prop := Claim7.holds Tryz.pinned (.plain (OpenSpec.ofChange tablesRulesSpec)) tablesRulesCard

/-- THE TIED CARD OF 'hornbooklaw13.TablesKeeps'. -/
def tablesKeepsCard : Claim7 := { stood := { row := tablesKeepsRow, standIns := [], harness := (true, "f39c69a7f8058642050bc25ae39b03ea1b4ab03fba726edba59aa7bcc54c6245"), looks := true }, kinds := [], alts := [], laidByText := true, laidKinds := [.data, .pinned], laidTests := true, laidLooks := .later }
def TablesKeepsCardSaid : Prop := Claim7.holds Tryz.pinned (.plain (OpenSpec.ofChange tablesKeepsSpec)) tablesKeepsCard

/-- THE TIED CARD OF 'hornbooklaw13.TablesNames'. -/
def tablesNamesCard : Claim7 := { stood := { row := tablesNamesRow, standIns := [], harness := (true, "f39c69a7f8058642050bc25ae39b03ea1b4ab03fba726edba59aa7bcc54c6245"), looks := true }, kinds := [], alts := [], laidByText := true, laidKinds := [.data, .pinned], laidTests := true, laidLooks := .later }
def TablesNamesCardSaid : Prop := Claim7.holds Tryz.pinned (.plain (OpenSpec.ofChange tablesNamesSpec)) tablesNamesCard

/-- THE TIED CARD OF 'hornbooklaw13.TablesPromoted'. -/
def tablesPromotedCard : Claim7 := { stood := { row := tablesPromotedRow, standIns := [], harness := (true, "f39c69a7f8058642050bc25ae39b03ea1b4ab03fba726edba59aa7bcc54c6245"), looks := true }, kinds := [], alts := [], laidByText := true, laidKinds := [.data, .data, .data, .data, .pinned], laidTests := true, laidLooks := .later }
def TablesPromotedCardSaid : Prop := Claim7.holds Tryz.pinned (.plain (OpenSpec.ofChange tablesPromotedSpec)) tablesPromotedCard

/-- THE SECOND FORM's CARD OF 'hornbooklaw13.TablesReads'. -/
def tablesReadsUptoCard : Claim7 := { stood := { row := tablesReadsUptoRow, standIns := [], harness := (true, "f39c69a7f8058642050bc25ae39b03ea1b4ab03fba726edba59aa7bcc54c6245"), looks := true }, kinds := [], alts := [], laidByText := true, laidKinds := [.data, .pinned], laidTests := true, laidLooks := .later }
def TablesReadsUptoCardSaid : Prop := Claim7.holds Tryz.pinned (.plain (OpenSpec.upto tablesReadsSpec)) tablesReadsUptoCard

/-- THE SECOND FORM's CARD OF 'hornbooklaw13.TablesFirst'. -/
def tablesFirstUptoCard : Claim7 := { stood := { row := tablesFirstUptoRow, standIns := [], harness := (true, "f39c69a7f8058642050bc25ae39b03ea1b4ab03fba726edba59aa7bcc54c6245"), looks := true }, kinds := [], alts := [], laidByText := true, laidKinds := [.data, .pinned], laidTests := true, laidLooks := .later }
def TablesFirstUptoCardSaid : Prop := Claim7.holds Tryz.pinned (.plain (OpenSpec.upto tablesFirstSpec)) tablesFirstUptoCard

/-- THE SECOND FORM's CARD OF 'hornbooklaw13.TablesMarks'. -/
def tablesMarksUptoCard : Claim7 := { stood := { row := tablesMarksUptoRow, standIns := [], harness := (true, "f39c69a7f8058642050bc25ae39b03ea1b4ab03fba726edba59aa7bcc54c6245"), looks := true }, kinds := [], alts := [], laidByText := true, laidKinds := [.data, .pinned], laidTests := true, laidLooks := .later }
def TablesMarksUptoCardSaid : Prop := Claim7.holds Tryz.pinned (.plain (OpenSpec.upto tablesMarksSpec)) tablesMarksUptoCard

/-- THE SECOND FORM's CARD OF 'hornbooklaw13.TablesRules'. -/
def tablesRulesUptoCard : Claim7 := { stood := { row := tablesRulesUptoRow, standIns := [], harness := (true, "f39c69a7f8058642050bc25ae39b03ea1b4ab03fba726edba59aa7bcc54c6245"), looks := true }, kinds := [], alts := [], laidByText := true, laidKinds := [.data, .pinned], laidTests := true, laidLooks := .later }
def TablesRulesUptoCardSaid : Prop := Claim7.holds Tryz.pinned (.plain (OpenSpec.upto tablesRulesSpec)) tablesRulesUptoCard

/-- THE SECOND FORM's CARD OF 'hornbooklaw13.TablesKeeps'. -/
def tablesKeepsUptoCard : Claim7 := { stood := { row := tablesKeepsUptoRow, standIns := [], harness := (true, "f39c69a7f8058642050bc25ae39b03ea1b4ab03fba726edba59aa7bcc54c6245"), looks := true }, kinds := [], alts := [], laidByText := true, laidKinds := [.data, .pinned], laidTests := true, laidLooks := .later }
def TablesKeepsUptoCardSaid : Prop := Claim7.holds Tryz.pinned (.plain (OpenSpec.upto tablesKeepsSpec)) tablesKeepsUptoCard

/-- THE SECOND FORM's CARD OF 'hornbooklaw13.TablesNames'. -/
def tablesNamesUptoCard : Claim7 := { stood := { row := tablesNamesUptoRow, standIns := [], harness := (true, "f39c69a7f8058642050bc25ae39b03ea1b4ab03fba726edba59aa7bcc54c6245"), looks := true }, kinds := [], alts := [], laidByText := true, laidKinds := [.data, .pinned], laidTests := true, laidLooks := .later }
def TablesNamesUptoCardSaid : Prop := Claim7.holds Tryz.pinned (.plain (OpenSpec.upto tablesNamesSpec)) tablesNamesUptoCard

/-- THE SECOND FORM's CARD OF 'hornbooklaw13.TablesPromoted'. -/
def tablesPromotedUptoCard : Claim7 := { stood := { row := tablesPromotedUptoRow, standIns := [], harness := (true, "f39c69a7f8058642050bc25ae39b03ea1b4ab03fba726edba59aa7bcc54c6245"), looks := true }, kinds := [], alts := [], laidByText := true, laidKinds := [.data, .data, .data, .data, .pinned], laidTests := true, laidLooks := .later }
def TablesPromotedUptoCardSaid : Prop := Claim7.holds Tryz.pinned (.plain (OpenSpec.upto tablesPromotedSpec)) tablesPromotedUptoCard
end Rows
end Go.Proofs.YtfkblpjfknfgbaaGreatDoor
