/-
  DERIVED. GIVEN WITH THE SEED: THE CARDS: each row of YtdemfbaaimockaaDoorRows.lean that lists a variable, with what it lists TIED to the program's text (the seventh form; the later family's looks); each row that meets fmt, with fmt's text TOLD by the authors' own Lean function (tested against real Go, not proved from fmt's source: count such statements apart). THE CARD IS WHAT COUNTS. Prove the row's statement (the work); the ties are given (YtdemfbaaimockaaDoorTie.lean); close each card by the builder's one call (the guide's Derived/Test/ToyasCard.lean, 'card_holds'). Laid BY PROGRAM, IN A SANDBOX (cutbox-door.mjs). By AI agents, Wed Nov 11 2026. No macro, syntax, notation, axiom, sorry.
-/
import Derived.Test.YtdemfbaaimockaaDoorRows
import GoSem.ClaimSeven
namespace Go.Proofs.YtdemfbaaimockaaDoor
namespace Rows

/-- THE TIED CARD OF 'trclaw7.CalendarAdd'. -/
def calendarAddCard : Claim7 := { stood := { row := calendarAddRow, standIns := [], harness := (true, "df44af9c1fcd1bc39e0b9a64888b8b234d976d6772db15c2430bea0e4ce3b5c9"), looks := true }, kinds := [], alts := [], laidByText := true, laidKinds := [.data, .data, .data], laidTests := true, laidLooks := .later }
def CalendarAddCardSaid : Prop := Claim7.holds Tryd.pinned (.plain (OpenSpec.ofChange calendarAddSpec)) calendarAddCard

/-- THE TIED CARD OF 'trclaw7.CalendarMonths'. -/
def calendarMonthsCard : Claim7 := { stood := { row := calendarMonthsRow, standIns := [], harness := (true, "df44af9c1fcd1bc39e0b9a64888b8b234d976d6772db15c2430bea0e4ce3b5c9"), looks := true }, kinds := [], alts := [], laidByText := true, laidKinds := [.data, .data, .data], laidTests := true, laidLooks := .later }
def CalendarMonthsCardSaid : Prop := Claim7.holds Tryd.pinned (.plain (OpenSpec.ofChange calendarMonthsSpec)) calendarMonthsCard

/-- THE TIED CARD OF 'trclaw7.CalendarParse'. -/
def calendarParseCard : Claim7 := { stood := { row := calendarParseRow, standIns := [], harness := (true, "df44af9c1fcd1bc39e0b9a64888b8b234d976d6772db15c2430bea0e4ce3b5c9"), looks := true }, kinds := [], alts := [], laidByText := true, laidKinds := [.data, .data, .data, .sentinel, .sentinel], laidTests := true, laidLooks := .later }
def CalendarParseCardSaid : Prop := Claim7.holds Tryd.pinned (.plain (OpenSpec.ofChange calendarParseSpec)) calendarParseCard

/-- THE TIED CARD OF 'trclaw7.CalendarReads'. -/
def calendarReadsCard : Claim7 := { stood := { row := calendarReadsRow, standIns := [], harness := (true, "df44af9c1fcd1bc39e0b9a64888b8b234d976d6772db15c2430bea0e4ce3b5c9"), looks := true }, kinds := [], alts := [], laidByText := true, laidKinds := [.data, .data, .data, .sentinel, .sentinel], laidTests := true, laidLooks := .later }
def CalendarReadsCardSaid : Prop := Claim7.holds Tryd.pinned (.plain (OpenSpec.ofChange calendarReadsSpec)) calendarReadsCard

/-- THE SECOND FORM's CARD OF 'trclaw7.CalendarAdd'. -/
def calendarAddUptoCard : Claim7 := { stood := { row := calendarAddUptoRow, standIns := [], harness := (true, "df44af9c1fcd1bc39e0b9a64888b8b234d976d6772db15c2430bea0e4ce3b5c9"), looks := true }, kinds := [], alts := [], laidByText := true, laidKinds := [.data, .data, .data], laidTests := true, laidLooks := .later }
def CalendarAddUptoCardSaid : Prop := Claim7.holds Tryd.pinned (.plain (OpenSpec.upto calendarAddSpec)) calendarAddUptoCard

/-- THE SECOND FORM's CARD OF 'trclaw7.CalendarMonths'. -/
def calendarMonthsUptoCard : Claim7 := { stood := { row := calendarMonthsUptoRow, standIns := [], harness := (true, "df44af9c1fcd1bc39e0b9a64888b8b234d976d6772db15c2430bea0e4ce3b5c9"), looks := true }, kinds := [], alts := [], laidByText := true, laidKinds := [.data, .data, .data], laidTests := true, laidLooks := .later }
def CalendarMonthsUptoCardSaid : Prop := Claim7.holds Tryd.pinned (.plain (OpenSpec.upto calendarMonthsSpec)) calendarMonthsUptoCard

/-- THE SECOND FORM's CARD OF 'trclaw7.CalendarParse'. -/
def calendarParseUptoCard : Claim7 := { stood := { row := calendarParseUptoRow, standIns := [], harness := (true, "df44af9c1fcd1bc39e0b9a64888b8b234d976d6772db15c2430bea0e4ce3b5c9"), looks := true }, kinds := [], alts := [], laidByText := true, laidKinds := [.data, .data, .data, .sentinel, .sentinel], laidTests := true, laidLooks := .later }
def CalendarParseUptoCardSaid : Prop := Claim7.holds Tryd.pinned (.plain (OpenSpec.upto calendarParseSpec)) calendarParseUptoCard

/-- THE SECOND FORM's CARD OF 'trclaw7.CalendarReads'. -/
def calendarReadsUptoCard : Claim7 := { stood := { row := calendarReadsUptoRow, standIns := [], harness := (true, "df44af9c1fcd1bc39e0b9a64888b8b234d976d6772db15c2430bea0e4ce3b5c9"), looks := true }, kinds := [], alts := [], laidByText := true, laidKinds := [.data, .data, .data, .sentinel, .sentinel], laidTests := true, laidLooks := .later }
def CalendarReadsUptoCardSaid : Prop := Claim7.holds Tryd.pinned (.plain (OpenSpec.upto calendarReadsSpec)) calendarReadsUptoCard
end Rows
end Go.Proofs.YtdemfbaaimockaaDoor
