/-
  DERIVED. GIVEN WITH THE SEED: THE CARDS: each row of YtdemfbaaimockaaModsDoorRows.lean that lists a variable, with what it lists TIED to the program's text (the seventh form; the later family's looks); each row that meets fmt, with fmt's text TOLD by the authors' own Lean function (tested against real Go, not proved from fmt's source: count such statements apart). THE CARD IS WHAT COUNTS. Prove the row's statement (the work); the ties are given (YtdemfbaaimockaaModsDoorTie.lean); close each card by the builder's one call (the guide's Derived/Test/ToyasCard.lean, 'card_holds'). Laid BY PROGRAM, IN A SANDBOX (cutbox-door.mjs). By AI agents, Wed Nov 11 2026. No macro, syntax, notation, axiom, sorry.
-/
import Derived.Test.YtdemfbaaimockaaModsDoorRows
import GoSem.ClaimSeven
namespace Go.Proofs.YtdemfbaaimockaaModsDoor
namespace Rows

/-- THE TIED CARD OF 'trclaw7.CalendarDates'. -/
def calendarDatesCard : Claim7 := { stood := { row := calendarDatesRow, standIns := [], harness := (true, "fa3ed1e497bd64c4ed2483a0b8f1c049567681bd881a6795f63a13457ba5ac60"), looks := false }, kinds := [], alts := [], laidByText := true, laidKinds := [.data, .data, .data], laidTests := true, laidLooks := .later }
def CalendarDatesCardSaid : Prop := Claim7.holds Trym.pinned (.plain (OpenSpec.ofChange calendarDatesSpec)) calendarDatesCard

/-- THE TIED CARD OF 'trclaw7.CalendarInverse'. -/
def calendarInverseCard : Claim7 := { stood := { row := calendarInverseRow, standIns := [], harness := (true, "fa3ed1e497bd64c4ed2483a0b8f1c049567681bd881a6795f63a13457ba5ac60"), looks := false }, kinds := [], alts := [], laidByText := true, laidKinds := [.data, .data, .data], laidTests := true, laidLooks := .later }
def CalendarInverseCardSaid : Prop := Claim7.holds Trym.pinned (.plain (OpenSpec.ofChange calendarInverseSpec)) calendarInverseCard

/-- THE TIED CARD OF 'trclaw7.CalendarFormat'. -/
def calendarFormatCard : Claim7 := { stood := { row := calendarFormatRow, standIns := [], harness := (true, "fa3ed1e497bd64c4ed2483a0b8f1c049567681bd881a6795f63a13457ba5ac60"), looks := false }, kinds := [], alts := [], laidByText := true, laidKinds := [.data, .data, .data], laidTests := true, laidLooks := .later }
def CalendarFormatCardSaid : Prop := Claim7.holds Trym.pinned (.plain (OpenSpec.ofChange calendarFormatSpec)) calendarFormatCard

/-- THE TIED CARD OF 'trclaw7.CalendarStart'. -/
def calendarStartCard : Claim7 := { stood := { row := calendarStartRow, standIns := [], harness := (true, "fa3ed1e497bd64c4ed2483a0b8f1c049567681bd881a6795f63a13457ba5ac60"), looks := false }, kinds := [], alts := [], laidByText := true, laidKinds := [.data, .data, .data], laidTests := true, laidLooks := .later }
def CalendarStartCardSaid : Prop := Claim7.holds Trym.pinned (.plain (OpenSpec.ofChange calendarStartSpec)) calendarStartCard

/-- THE TIED CARD OF 'trclaw7.CalendarNests'. -/
def calendarNestsCard : Claim7 := { stood := { row := calendarNestsRow, standIns := [], harness := (true, "fa3ed1e497bd64c4ed2483a0b8f1c049567681bd881a6795f63a13457ba5ac60"), looks := false }, kinds := [], alts := [], laidByText := true, laidKinds := [.data, .data, .data], laidTests := true, laidLooks := .later }
def CalendarNestsCardSaid : Prop := Claim7.holds Trym.pinned (.plain (OpenSpec.ofChange calendarNestsSpec)) calendarNestsCard

/-- THE TIED CARD OF 'trclaw7.CalendarUnit'. -/
def calendarUnitCard : Claim7 := { stood := { row := calendarUnitRow, standIns := [], harness := (true, "fa3ed1e497bd64c4ed2483a0b8f1c049567681bd881a6795f63a13457ba5ac60"), looks := false }, kinds := [], alts := [], laidByText := true, laidKinds := [.data, .data, .data], laidTests := true, laidLooks := .later }
def CalendarUnitCardSaid : Prop := Claim7.holds Trym.pinned (.plain (OpenSpec.ofChange calendarUnitSpec)) calendarUnitCard

/-- THE SECOND FORM's CARD OF 'trclaw7.CalendarDates'. -/
def calendarDatesUptoCard : Claim7 := { stood := { row := calendarDatesUptoRow, standIns := [], harness := (true, "fa3ed1e497bd64c4ed2483a0b8f1c049567681bd881a6795f63a13457ba5ac60"), looks := false }, kinds := [], alts := [], laidByText := true, laidKinds := [.data, .data, .data], laidTests := true, laidLooks := .later }
def CalendarDatesUptoCardSaid : Prop := Claim7.holds Trym.pinned (.plain (OpenSpec.upto calendarDatesSpec)) calendarDatesUptoCard

/-- THE SECOND FORM's CARD OF 'trclaw7.CalendarInverse'. -/
def calendarInverseUptoCard : Claim7 := { stood := { row := calendarInverseUptoRow, standIns := [], harness := (true, "fa3ed1e497bd64c4ed2483a0b8f1c049567681bd881a6795f63a13457ba5ac60"), looks := false }, kinds := [], alts := [], laidByText := true, laidKinds := [.data, .data, .data], laidTests := true, laidLooks := .later }
def CalendarInverseUptoCardSaid : Prop := Claim7.holds Trym.pinned (.plain (OpenSpec.upto calendarInverseSpec)) calendarInverseUptoCard

/-- THE SECOND FORM's CARD OF 'trclaw7.CalendarFormat'. -/
def calendarFormatUptoCard : Claim7 := { stood := { row := calendarFormatUptoRow, standIns := [], harness := (true, "fa3ed1e497bd64c4ed2483a0b8f1c049567681bd881a6795f63a13457ba5ac60"), looks := false }, kinds := [], alts := [], laidByText := true, laidKinds := [.data, .data, .data], laidTests := true, laidLooks := .later }
def CalendarFormatUptoCardSaid : Prop := Claim7.holds Trym.pinned (.plain (OpenSpec.upto calendarFormatSpec)) calendarFormatUptoCard

/-- THE SECOND FORM's CARD OF 'trclaw7.CalendarStart'. -/
def calendarStartUptoCard : Claim7 := { stood := { row := calendarStartUptoRow, standIns := [], harness := (true, "fa3ed1e497bd64c4ed2483a0b8f1c049567681bd881a6795f63a13457ba5ac60"), looks := false }, kinds := [], alts := [], laidByText := true, laidKinds := [.data, .data, .data], laidTests := true, laidLooks := .later }
def CalendarStartUptoCardSaid : Prop := Claim7.holds Trym.pinned (.plain (OpenSpec.upto calendarStartSpec)) calendarStartUptoCard

/-- THE SECOND FORM's CARD OF 'trclaw7.CalendarNests'. -/
def calendarNestsUptoCard : Claim7 := { stood := { row := calendarNestsUptoRow, standIns := [], harness := (true, "fa3ed1e497bd64c4ed2483a0b8f1c049567681bd881a6795f63a13457ba5ac60"), looks := false }, kinds := [], alts := [], laidByText := true, laidKinds := [.data, .data, .data], laidTests := true, laidLooks := .later }
def CalendarNestsUptoCardSaid : Prop := Claim7.holds Trym.pinned (.plain (OpenSpec.upto calendarNestsSpec)) calendarNestsUptoCard

/-- THE SECOND FORM's CARD OF 'trclaw7.CalendarUnit'. -/
def calendarUnitUptoCard : Claim7 := { stood := { row := calendarUnitUptoRow, standIns := [], harness := (true, "fa3ed1e497bd64c4ed2483a0b8f1c049567681bd881a6795f63a13457ba5ac60"), looks := false }, kinds := [], alts := [], laidByText := true, laidKinds := [.data, .data, .data], laidTests := true, laidLooks := .later }
def CalendarUnitUptoCardSaid : Prop := Claim7.holds Trym.pinned (.plain (OpenSpec.upto calendarUnitSpec)) calendarUnitUptoCard
end Rows
end Go.Proofs.YtdemfbaaimockaaModsDoor
