/-
  DERIVED. GIVEN WITH THE SEED: THE CARDS: each row of YtegcacnmcdkfiaaGreatDoorRows.lean that lists a variable, with what it lists TIED to the program's text (the seventh form; the later family's looks); each row that meets fmt, with fmt's text TOLD by the authors' own Lean function (tested against real Go, not proved from fmt's source: count such statements apart). THE CARD IS WHAT COUNTS. Prove the row's statement (the work); the ties are given (YtegcacnmcdkfiaaGreatDoorTie.lean); close each card by the builder's one call (the guide's Derived/Test/ToyasCard.lean, 'card_holds'). Laid BY PROGRAM, IN A SANDBOX (cutbox-door.mjs). By AI agents, Wed Nov 11 2026. No macro, syntax, notation, axiom, sorry.
-/
import Derived.Test.YtegcacnmcdkfiaaGreatDoorRows
import GoSem.ClaimSeven
namespace Go.Proofs.YtegcacnmcdkfiaaGreatDoor
namespace Rows

/-- THE TIED CARD OF 'trclaw17.InlineParse'. -/
def inlineParseCard : Claim7 := { stood := { row := inlineParseRow, standIns := [], harness := (true, "7345dc8571bc930e1ac2dcfe00a60356ec16ad678ee93521cc63b44a08cacb1f"), looks := true }, kinds := [], alts := [], laidByText := true, laidKinds := [.data, .data, .data, .data, .sentinel, .sentinel, .pinned], laidTests := true, laidLooks := .later }
def InlineParseCardSaid : Prop := Claim7.holds Tryz.pinned (.plain (OpenSpec.ofChange inlineParseSpec)) inlineParseCard

/-- THE TIED CARD OF 'trclaw17.InlineBuilt'. -/
def inlineBuiltCard : Claim7 := { stood := { row := inlineBuiltRow, standIns := [], harness := (true, "7345dc8571bc930e1ac2dcfe00a60356ec16ad678ee93521cc63b44a08cacb1f"), looks := true }, kinds := [], alts := [], laidByText := true, laidKinds := [.data, .data, .data, .data, .sentinel, .sentinel, .pinned], laidTests := true, laidLooks := .later }
def InlineBuiltCardSaid : Prop := Claim7.holds Tryz.pinned (.plain (OpenSpec.ofChange inlineBuiltSpec)) inlineBuiltCard

/-- THE TIED CARD OF 'trclaw17.InlinePlain'. -/
def inlinePlainCard : Claim7 := { stood := { row := inlinePlainRow, standIns := [], harness := (true, "7345dc8571bc930e1ac2dcfe00a60356ec16ad678ee93521cc63b44a08cacb1f"), looks := true }, kinds := [], alts := [], laidByText := true, laidKinds := [.data, .data, .data, .data, .sentinel, .sentinel, .pinned], laidTests := true, laidLooks := .later }
def InlinePlainCardSaid : Prop := Claim7.holds Tryz.pinned (.plain (OpenSpec.ofChange inlinePlainSpec)) inlinePlainCard

/-- THE TIED CARD OF 'trclaw17.InlineShape'. -/
def inlineShapeCard : Claim7 := { stood := { row := inlineShapeRow, standIns := [], harness := (true, "7345dc8571bc930e1ac2dcfe00a60356ec16ad678ee93521cc63b44a08cacb1f"), looks := true }, kinds := [], alts := [], laidByText := true, laidKinds := [.data, .data, .data, .data, .sentinel, .sentinel, .pinned], laidTests := true, laidLooks := .later }
def InlineShapeCardSaid : Prop := Claim7.holds Tryz.pinned (.plain (OpenSpec.ofChange inlineShapeSpec)) inlineShapeCard

/-- THE TIED CARD OF 'trclaw17.InlineEntities'. -/
def inlineEntitiesCard : Claim7 := { stood := { row := inlineEntitiesRow, standIns := [], harness := (true, "7345dc8571bc930e1ac2dcfe00a60356ec16ad678ee93521cc63b44a08cacb1f"), looks := true }, kinds := [], alts := [], laidByText := true, laidKinds := [.data, .data, .data, .data, .sentinel, .sentinel, .pinned], laidTests := true, laidLooks := .later }
def InlineEntitiesCardSaid : Prop := Claim7.holds Tryz.pinned (.plain (OpenSpec.ofChange inlineEntitiesSpec)) inlineEntitiesCard

/-- THE TIED CARD OF 'trclaw17.InlineText'. -/
def inlineTextCard : Claim7 := { stood := { row := inlineTextRow, standIns := [], harness := (true, "7345dc8571bc930e1ac2dcfe00a60356ec16ad678ee93521cc63b44a08cacb1f"), looks := true }, kinds := [], alts := [], laidByText := true, laidKinds := [.data, .data, .data, .data, .sentinel, .sentinel, .pinned], laidTests := true, laidLooks := .later }
def InlineTextCardSaid : Prop := Claim7.holds Tryz.pinned (.plain (OpenSpec.ofChange inlineTextSpec)) inlineTextCard

/-- THE TIED CARD OF 'trclaw17.InlineLinks'. -/
def inlineLinksCard : Claim7 := { stood := { row := inlineLinksRow, standIns := [], harness := (true, "7345dc8571bc930e1ac2dcfe00a60356ec16ad678ee93521cc63b44a08cacb1f"), looks := true }, kinds := [], alts := [], laidByText := true, laidKinds := [.data, .data, .data, .data, .sentinel, .sentinel, .pinned], laidTests := true, laidLooks := .later }
def InlineLinksCardSaid : Prop := Claim7.holds Tryz.pinned (.plain (OpenSpec.ofChange inlineLinksSpec)) inlineLinksCard

/-- THE TIED CARD OF 'trclaw17.InlineNotes'. -/
def inlineNotesCard : Claim7 := { stood := { row := inlineNotesRow, standIns := [], harness := (true, "7345dc8571bc930e1ac2dcfe00a60356ec16ad678ee93521cc63b44a08cacb1f"), looks := true }, kinds := [], alts := [], laidByText := true, laidKinds := [.data, .data, .data, .data, .sentinel, .sentinel, .pinned], laidTests := true, laidLooks := .later }
def InlineNotesCardSaid : Prop := Claim7.holds Tryz.pinned (.plain (OpenSpec.ofChange inlineNotesSpec)) inlineNotesCard

/-- THE TIED CARD OF 'trclaw17.InlineMarks'. -/
def inlineMarksCard : Claim7 := { stood := { row := inlineMarksRow, standIns := [], harness := (true, "7345dc8571bc930e1ac2dcfe00a60356ec16ad678ee93521cc63b44a08cacb1f"), looks := true }, kinds := [], alts := [], laidByText := true, laidKinds := [.data, .data, .data, .data, .sentinel, .sentinel, .pinned], laidTests := true, laidLooks := .later }
def InlineMarksCardSaid : Prop := Claim7.holds Tryz.pinned (.plain (OpenSpec.ofChange inlineMarksSpec)) inlineMarksCard

/-- THE SECOND FORM's CARD OF 'trclaw17.InlineParse'. -/
def inlineParseUptoCard : Claim7 := { stood := { row := inlineParseUptoRow, standIns := [], harness := (true, "7345dc8571bc930e1ac2dcfe00a60356ec16ad678ee93521cc63b44a08cacb1f"), looks := true }, kinds := [], alts := [], laidByText := true, laidKinds := [.data, .data, .data, .data, .sentinel, .sentinel, .pinned], laidTests := true, laidLooks := .later }
def InlineParseUptoCardSaid : Prop := Claim7.holds Tryz.pinned (.plain (OpenSpec.upto inlineParseSpec)) inlineParseUptoCard

/-- THE SECOND FORM's CARD OF 'trclaw17.InlineBuilt'. -/
def inlineBuiltUptoCard : Claim7 := { stood := { row := inlineBuiltUptoRow, standIns := [], harness := (true, "7345dc8571bc930e1ac2dcfe00a60356ec16ad678ee93521cc63b44a08cacb1f"), looks := true }, kinds := [], alts := [], laidByText := true, laidKinds := [.data, .data, .data, .data, .sentinel, .sentinel, .pinned], laidTests := true, laidLooks := .later }
def InlineBuiltUptoCardSaid : Prop := Claim7.holds Tryz.pinned (.plain (OpenSpec.upto inlineBuiltSpec)) inlineBuiltUptoCard

/-- THE SECOND FORM's CARD OF 'trclaw17.InlinePlain'. -/
def inlinePlainUptoCard : Claim7 := { stood := { row := inlinePlainUptoRow, standIns := [], harness := (true, "7345dc8571bc930e1ac2dcfe00a60356ec16ad678ee93521cc63b44a08cacb1f"), looks := true }, kinds := [], alts := [], laidByText := true, laidKinds := [.data, .data, .data, .data, .sentinel, .sentinel, .pinned], laidTests := true, laidLooks := .later }
def InlinePlainUptoCardSaid : Prop := Claim7.holds Tryz.pinned (.plain (OpenSpec.upto inlinePlainSpec)) inlinePlainUptoCard

/-- THE SECOND FORM's CARD OF 'trclaw17.InlineShape'. -/
def inlineShapeUptoCard : Claim7 := { stood := { row := inlineShapeUptoRow, standIns := [], harness := (true, "7345dc8571bc930e1ac2dcfe00a60356ec16ad678ee93521cc63b44a08cacb1f"), looks := true }, kinds := [], alts := [], laidByText := true, laidKinds := [.data, .data, .data, .data, .sentinel, .sentinel, .pinned], laidTests := true, laidLooks := .later }
def InlineShapeUptoCardSaid : Prop := Claim7.holds Tryz.pinned (.plain (OpenSpec.upto inlineShapeSpec)) inlineShapeUptoCard

/-- THE SECOND FORM's CARD OF 'trclaw17.InlineEntities'. -/
def inlineEntitiesUptoCard : Claim7 := { stood := { row := inlineEntitiesUptoRow, standIns := [], harness := (true, "7345dc8571bc930e1ac2dcfe00a60356ec16ad678ee93521cc63b44a08cacb1f"), looks := true }, kinds := [], alts := [], laidByText := true, laidKinds := [.data, .data, .data, .data, .sentinel, .sentinel, .pinned], laidTests := true, laidLooks := .later }
def InlineEntitiesUptoCardSaid : Prop := Claim7.holds Tryz.pinned (.plain (OpenSpec.upto inlineEntitiesSpec)) inlineEntitiesUptoCard

/-- THE SECOND FORM's CARD OF 'trclaw17.InlineText'. -/
def inlineTextUptoCard : Claim7 := { stood := { row := inlineTextUptoRow, standIns := [], harness := (true, "7345dc8571bc930e1ac2dcfe00a60356ec16ad678ee93521cc63b44a08cacb1f"), looks := true }, kinds := [], alts := [], laidByText := true, laidKinds := [.data, .data, .data, .data, .sentinel, .sentinel, .pinned], laidTests := true, laidLooks := .later }
def InlineTextUptoCardSaid : Prop := Claim7.holds Tryz.pinned (.plain (OpenSpec.upto inlineTextSpec)) inlineTextUptoCard

/-- THE SECOND FORM's CARD OF 'trclaw17.InlineLinks'. -/
def inlineLinksUptoCard : Claim7 := { stood := { row := inlineLinksUptoRow, standIns := [], harness := (true, "7345dc8571bc930e1ac2dcfe00a60356ec16ad678ee93521cc63b44a08cacb1f"), looks := true }, kinds := [], alts := [], laidByText := true, laidKinds := [.data, .data, .data, .data, .sentinel, .sentinel, .pinned], laidTests := true, laidLooks := .later }
def InlineLinksUptoCardSaid : Prop := Claim7.holds Tryz.pinned (.plain (OpenSpec.upto inlineLinksSpec)) inlineLinksUptoCard

/-- THE SECOND FORM's CARD OF 'trclaw17.InlineNotes'. -/
def inlineNotesUptoCard : Claim7 := { stood := { row := inlineNotesUptoRow, standIns := [], harness := (true, "7345dc8571bc930e1ac2dcfe00a60356ec16ad678ee93521cc63b44a08cacb1f"), looks := true }, kinds := [], alts := [], laidByText := true, laidKinds := [.data, .data, .data, .data, .sentinel, .sentinel, .pinned], laidTests := true, laidLooks := .later }
def InlineNotesUptoCardSaid : Prop := Claim7.holds Tryz.pinned (.plain (OpenSpec.upto inlineNotesSpec)) inlineNotesUptoCard

/-- THE SECOND FORM's CARD OF 'trclaw17.InlineMarks'. -/
def inlineMarksUptoCard : Claim7 := { stood := { row := inlineMarksUptoRow, standIns := [], harness := (true, "7345dc8571bc930e1ac2dcfe00a60356ec16ad678ee93521cc63b44a08cacb1f"), looks := true }, kinds := [], alts := [], laidByText := true, laidKinds := [.data, .data, .data, .data, .sentinel, .sentinel, .pinned], laidTests := true, laidLooks := .later }
def InlineMarksUptoCardSaid : Prop := Claim7.holds Tryz.pinned (.plain (OpenSpec.upto inlineMarksSpec)) inlineMarksUptoCard
end Rows
end Go.Proofs.YtegcacnmcdkfiaaGreatDoor
