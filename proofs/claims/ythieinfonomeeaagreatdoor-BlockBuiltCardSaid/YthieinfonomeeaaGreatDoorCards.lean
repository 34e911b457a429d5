/-
  DERIVED. GIVEN WITH THE SEED: THE CARDS: each row of YthieinfonomeeaaGreatDoorRows.lean that lists a variable, with what it lists TIED to the program's text (the seventh form; the later family's looks); each row that meets fmt, with fmt's text TOLD by the authors' own Lean function (tested against real Go, not proved from fmt's source: count such statements apart). THE CARD IS WHAT COUNTS. Prove the row's statement (the work); the ties are given (YthieinfonomeeaaGreatDoorTie.lean); close each card by the builder's one call (the guide's Derived/Test/ToyasCard.lean, 'card_holds'). Laid BY PROGRAM, IN A SANDBOX (cutbox-door.mjs). By AI agents, Wed Nov 11 2026. No macro, syntax, notation, axiom, sorry.
-/
import Derived.Test.YthieinfonomeeaaGreatDoorRows
import GoSem.ClaimSeven
namespace Go.Proofs.YthieinfonomeeaaGreatDoor
namespace Rows

/-- THE TIED CARD OF 'trclaw18.BlockParse'. -/
def blockParseCard : Claim7 := { stood := { row := blockParseRow, standIns := [], harness := (true, "1caee315436daa27bd50abfd9cba2181c438d325771f65404d64b8d6bd8ff7d5"), looks := true }, kinds := [], alts := [], laidByText := true, laidKinds := [.data, .data, .data, .data, .sentinel, .sentinel, .pinned], laidTests := true, laidLooks := .later }
def BlockParseCardSaid : Prop := Claim7.holds Tryz.pinned (.plain (OpenSpec.ofChange blockParseSpec)) blockParseCard

/-- THE TIED CARD OF 'trclaw18.BlockBuilt'. -/
def blockBuiltCard : Claim7 := { stood := { row := blockBuiltRow, standIns := [], harness := (true, "1caee315436daa27bd50abfd9cba2181c438d325771f65404d64b8d6bd8ff7d5"), looks := true }, kinds := [], alts := [], laidByText := true, laidKinds := [.data, .data, .data, .data, .sentinel, .sentinel, .pinned], laidTests := true, laidLooks := .later }
def BlockBuiltCardSaid : Prop := Claim7.holds Tryz.pinned (.plain (OpenSpec.ofChange blockBuiltSpec)) blockBuiltCard

/-- THE TIED CARD OF 'trclaw18.BlockPlain'. -/
def blockPlainCard : Claim7 := { stood := { row := blockPlainRow, standIns := [], harness := (true, "1caee315436daa27bd50abfd9cba2181c438d325771f65404d64b8d6bd8ff7d5"), looks := true }, kinds := [], alts := [], laidByText := true, laidKinds := [.data, .data, .data, .data, .sentinel, .sentinel, .pinned], laidTests := true, laidLooks := .later }
def BlockPlainCardSaid : Prop := Claim7.holds Tryz.pinned (.plain (OpenSpec.ofChange blockPlainSpec)) blockPlainCard

/-- THE TIED CARD OF 'trclaw18.BlockParagraphs'. -/
def blockParagraphsCard : Claim7 := { stood := { row := blockParagraphsRow, standIns := [], harness := (true, "1caee315436daa27bd50abfd9cba2181c438d325771f65404d64b8d6bd8ff7d5"), looks := true }, kinds := [], alts := [], laidByText := true, laidKinds := [.data, .data, .data, .data, .sentinel, .sentinel, .pinned], laidTests := true, laidLooks := .later }
def BlockParagraphsCardSaid : Prop := Claim7.holds Tryz.pinned (.plain (OpenSpec.ofChange blockParagraphsSpec)) blockParagraphsCard

/-- THE TIED CARD OF 'trclaw18.BlockShape'. -/
def blockShapeCard : Claim7 := { stood := { row := blockShapeRow, standIns := [], harness := (true, "1caee315436daa27bd50abfd9cba2181c438d325771f65404d64b8d6bd8ff7d5"), looks := true }, kinds := [], alts := [], laidByText := true, laidKinds := [.data, .data, .data, .data, .sentinel, .sentinel, .pinned], laidTests := true, laidLooks := .later }
def BlockShapeCardSaid : Prop := Claim7.holds Tryz.pinned (.plain (OpenSpec.ofChange blockShapeSpec)) blockShapeCard

/-- THE TIED CARD OF 'trclaw18.BlockLists'. -/
def blockListsCard : Claim7 := { stood := { row := blockListsRow, standIns := [], harness := (true, "1caee315436daa27bd50abfd9cba2181c438d325771f65404d64b8d6bd8ff7d5"), looks := true }, kinds := [], alts := [], laidByText := true, laidKinds := [.data, .data, .data, .data, .sentinel, .sentinel, .pinned], laidTests := true, laidLooks := .later }
def BlockListsCardSaid : Prop := Claim7.holds Tryz.pinned (.plain (OpenSpec.ofChange blockListsSpec)) blockListsCard

/-- THE TIED CARD OF 'trclaw18.BlockTables'. -/
def blockTablesCard : Claim7 := { stood := { row := blockTablesRow, standIns := [], harness := (true, "1caee315436daa27bd50abfd9cba2181c438d325771f65404d64b8d6bd8ff7d5"), looks := true }, kinds := [], alts := [], laidByText := true, laidKinds := [.data, .data, .data, .data, .sentinel, .sentinel, .pinned], laidTests := true, laidLooks := .later }
def BlockTablesCardSaid : Prop := Claim7.holds Tryz.pinned (.plain (OpenSpec.ofChange blockTablesSpec)) blockTablesCard

/-- THE TIED CARD OF 'trclaw18.BlockCode'. -/
def blockCodeCard : Claim7 := { stood := { row := blockCodeRow, standIns := [], harness := (true, "1caee315436daa27bd50abfd9cba2181c438d325771f65404d64b8d6bd8ff7d5"), looks := true }, kinds := [], alts := [], laidByText := true, laidKinds := [.data, .data, .data, .data, .sentinel, .sentinel, .pinned], laidTests := true, laidLooks := .later }
def BlockCodeCardSaid : Prop := Claim7.holds Tryz.pinned (.plain (OpenSpec.ofChange blockCodeSpec)) blockCodeCard

/-- THE TIED CARD OF 'trclaw18.BlockLimit'. -/
def blockLimitCard : Claim7 := { stood := { row := blockLimitRow, standIns := [], harness := (true, "1caee315436daa27bd50abfd9cba2181c438d325771f65404d64b8d6bd8ff7d5"), looks := true }, kinds := [], alts := [], laidByText := true, laidKinds := [.data, .data, .data, .data, .sentinel, .sentinel, .pinned], laidTests := true, laidLooks := .later }
def BlockLimitCardSaid : Prop := Claim7.holds Tryz.pinned (.plain (OpenSpec.ofChange blockLimitSpec)) blockLimitCard

/-- THE SECOND FORM's CARD OF 'trclaw18.BlockParse'. -/
def blockParseUptoCard : Claim7 := { stood := { row := blockParseUptoRow, standIns := [], harness := (true, "1caee315436daa27bd50abfd9cba2181c438d325771f65404d64b8d6bd8ff7d5"), looks := true }, kinds := [], alts := [], laidByText := true, laidKinds := [.data, .data, .data, .data, .sentinel, .sentinel, .pinned], laidTests := true, laidLooks := .later }
def BlockParseUptoCardSaid : Prop := Claim7.holds Tryz.pinned (.plain (OpenSpec.upto blockParseSpec)) blockParseUptoCard

/-- THE SECOND FORM's CARD OF 'trclaw18.BlockBuilt'. -/
def blockBuiltUptoCard : Claim7 := { stood := { row := blockBuiltUptoRow, standIns := [], harness := (true, "1caee315436daa27bd50abfd9cba2181c438d325771f65404d64b8d6bd8ff7d5"), looks := true }, kinds := [], alts := [], laidByText := true, laidKinds := [.data, .data, .data, .data, .sentinel, .sentinel, .pinned], laidTests := true, laidLooks := .later }
def BlockBuiltUptoCardSaid : Prop := Claim7.holds Tryz.pinned (.plain (OpenSpec.upto blockBuiltSpec)) blockBuiltUptoCard

/-- THE SECOND FORM's CARD OF 'trclaw18.BlockPlain'. -/
def blockPlainUptoCard : Claim7 := { stood := { row := blockPlainUptoRow, standIns := [], harness := (true, "1caee315436daa27bd50abfd9cba2181c438d325771f65404d64b8d6bd8ff7d5"), looks := true }, kinds := [], alts := [], laidByText := true, laidKinds := [.data, .data, .data, .data, .sentinel, .sentinel, .pinned], laidTests := true, laidLooks := .later }
def BlockPlainUptoCardSaid : Prop := Claim7.holds Tryz.pinned (.plain (OpenSpec.upto blockPlainSpec)) blockPlainUptoCard

/-- THE SECOND FORM's CARD OF 'trclaw18.BlockParagraphs'. -/
def blockParagraphsUptoCard : Claim7 := { stood := { row := blockParagraphsUptoRow, standIns := [], harness := (true, "1caee315436daa27bd50abfd9cba2181c438d325771f65404d64b8d6bd8ff7d5"), looks := true }, kinds := [], alts := [], laidByText := true, laidKinds := [.data, .data, .data, .data, .sentinel, .sentinel, .pinned], laidTests := true, laidLooks := .later }
def BlockParagraphsUptoCardSaid : Prop := Claim7.holds Tryz.pinned (.plain (OpenSpec.upto blockParagraphsSpec)) blockParagraphsUptoCard

/-- THE SECOND FORM's CARD OF 'trclaw18.BlockShape'. -/
def blockShapeUptoCard : Claim7 := { stood := { row := blockShapeUptoRow, standIns := [], harness := (true, "1caee315436daa27bd50abfd9cba2181c438d325771f65404d64b8d6bd8ff7d5"), looks := true }, kinds := [], alts := [], laidByText := true, laidKinds := [.data, .data, .data, .data, .sentinel, .sentinel, .pinned], laidTests := true, laidLooks := .later }
def BlockShapeUptoCardSaid : Prop := Claim7.holds Tryz.pinned (.plain (OpenSpec.upto blockShapeSpec)) blockShapeUptoCard

/-- THE SECOND FORM's CARD OF 'trclaw18.BlockLists'. -/
def blockListsUptoCard : Claim7 := { stood := { row := blockListsUptoRow, standIns := [], harness := (true, "1caee315436daa27bd50abfd9cba2181c438d325771f65404d64b8d6bd8ff7d5"), looks := true }, kinds := [], alts := [], laidByText := true, laidKinds := [.data, .data, .data, .data, .sentinel, .sentinel, .pinned], laidTests := true, laidLooks := .later }
def BlockListsUptoCardSaid : Prop := Claim7.holds Tryz.pinned (.plain (OpenSpec.upto blockListsSpec)) blockListsUptoCard

/-- THE SECOND FORM's CARD OF 'trclaw18.BlockTables'. -/
def blockTablesUptoCard : Claim7 := { stood := { row := blockTablesUptoRow, standIns := [], harness := (true, "1caee315436daa27bd50abfd9cba2181c438d325771f65404d64b8d6bd8ff7d5"), looks := true }, kinds := [], alts := [], laidByText := true, laidKinds := [.data, .data, .data, .data, .sentinel, .sentinel, .pinned], laidTests := true, laidLooks := .later }
def BlockTablesUptoCardSaid : Prop := Claim7.holds Tryz.pinned (.plain (OpenSpec.upto blockTablesSpec)) blockTablesUptoCard

/-- THE SECOND FORM's CARD OF 'trclaw18.BlockCode'. -/
def blockCodeUptoCard : Claim7 := { stood := { row := blockCodeUptoRow, standIns := [], harness := (true, "1caee315436daa27bd50abfd9cba2181c438d325771f65404d64b8d6bd8ff7d5"), looks := true }, kinds := [], alts := [], laidByText := true, laidKinds := [.data, .data, .data, .data, .sentinel, .sentinel, .pinned], laidTests := true, laidLooks := .later }
def BlockCodeUptoCardSaid : Prop := Claim7.holds Tryz.pinned (.plain (OpenSpec.upto blockCodeSpec)) blockCodeUptoCard

/-- THE SECOND FORM's CARD OF 'trclaw18.BlockLimit'. -/
def blockLimitUptoCard : Claim7 := { stood := { row := blockLimitUptoRow, standIns := [], harness := (true, "1caee315436daa27bd50abfd9cba2181c438d325771f65404d64b8d6bd8ff7d5"), looks := true }, kinds := [], alts := [], laidByText := true, laidKinds := [.data, .data, .data, .data, .sentinel, .sentinel, .pinned], laidTests := true, laidLooks := .later }
def BlockLimitUptoCardSaid : Prop := Claim7.holds Tryz.pinned (.plain (OpenSpec.upto blockLimitSpec)) blockLimitUptoCard
end Rows
end Go.Proofs.YthieinfonomeeaaGreatDoor
