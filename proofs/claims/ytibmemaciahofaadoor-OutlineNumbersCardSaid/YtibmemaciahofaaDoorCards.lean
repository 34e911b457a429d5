/-
  DERIVED. GIVEN WITH THE SEED: THE CARDS: each row of YtibmemaciahofaaDoorRows.lean that lists a variable, with what it lists TIED to the program's text (the seventh form; the later family's looks); each row that meets fmt, with fmt's text TOLD by the authors' own Lean function (tested against real Go, not proved from fmt's source: count such statements apart). THE CARD IS WHAT COUNTS. Prove the row's statement (the work); the ties are given (YtibmemaciahofaaDoorTie.lean); close each card by the builder's one call (the guide's Derived/Test/ToyasCard.lean, 'card_holds'). Laid BY PROGRAM, IN A SANDBOX (cutbox-door.mjs). By AI agents, Wed Nov 11 2026. No macro, syntax, notation, axiom, sorry.
-/
import Derived.Test.YtibmemaciahofaaDoorRows
import GoSem.ClaimSeven
namespace Go.Proofs.YtibmemaciahofaaDoor
namespace Rows

/-- THE TIED CARD OF 'trclaw19.OutlineAnchor'. -/
def outlineAnchorCard : Claim7 := { stood := { row := outlineAnchorRow, standIns := [], harness := (true, "b7b3e41bf27d1eeb91da236c1d27467182db79dd07781abfd02015ec82820dd6"), looks := false }, kinds := [], alts := [], laidByText := true, laidKinds := [.data, .data, .data], laidTests := true, laidLooks := .later }
def OutlineAnchorCardSaid : Prop := Claim7.holds Tryd.pinned (.plain (OpenSpec.ofChange outlineAnchorSpec)) outlineAnchorCard

/-- THE TIED CARD OF 'trclaw19.OutlineContents'. -/
def outlineContentsCard : Claim7 := { stood := { row := outlineContentsRow, standIns := [], harness := (true, "b7b3e41bf27d1eeb91da236c1d27467182db79dd07781abfd02015ec82820dd6"), looks := false }, kinds := [], alts := [], laidByText := true, laidKinds := [.data, .data, .data], laidTests := true, laidLooks := .later }
def OutlineContentsCardSaid : Prop := Claim7.holds Tryd.pinned (.plain (OpenSpec.ofChange outlineContentsSpec)) outlineContentsCard

/-- THE TIED CARD OF 'trclaw19.OutlineNotes'. -/
def outlineNotesCard : Claim7 := { stood := { row := outlineNotesRow, standIns := [], harness := (true, "b7b3e41bf27d1eeb91da236c1d27467182db79dd07781abfd02015ec82820dd6"), looks := false }, kinds := [], alts := [], laidByText := true, laidKinds := [.data, .data, .data], laidTests := true, laidLooks := .later }
def OutlineNotesCardSaid : Prop := Claim7.holds Tryd.pinned (.plain (OpenSpec.ofChange outlineNotesSpec)) outlineNotesCard

/-- THE TIED CARD OF 'trclaw19.OutlineUses'. -/
def outlineUsesCard : Claim7 := { stood := { row := outlineUsesRow, standIns := [], harness := (true, "b7b3e41bf27d1eeb91da236c1d27467182db79dd07781abfd02015ec82820dd6"), looks := false }, kinds := [], alts := [], laidByText := true, laidKinds := [.data, .data, .data], laidTests := true, laidLooks := .later }
def OutlineUsesCardSaid : Prop := Claim7.holds Tryd.pinned (.plain (OpenSpec.ofChange outlineUsesSpec)) outlineUsesCard

/-- THE TIED CARD OF 'trclaw19.OutlineAppends'. -/
def outlineAppendsCard : Claim7 := { stood := { row := outlineAppendsRow, standIns := [], harness := (true, "b7b3e41bf27d1eeb91da236c1d27467182db79dd07781abfd02015ec82820dd6"), looks := false }, kinds := [], alts := [], laidByText := true, laidKinds := [.data, .data, .data], laidTests := true, laidLooks := .later }
def OutlineAppendsCardSaid : Prop := Claim7.holds Tryd.pinned (.plain (OpenSpec.ofChange outlineAppendsSpec)) outlineAppendsCard

/-- THE TIED CARD OF 'trclaw19.OutlineNumbers'. -/
def outlineNumbersCard : Claim7 := { stood := { row := outlineNumbersRow, standIns := [], harness := (true, "b7b3e41bf27d1eeb91da236c1d27467182db79dd07781abfd02015ec82820dd6"), looks := false }, kinds := [], alts := [], laidByText := true, laidKinds := [.data, .data, .data], laidTests := true, laidLooks := .later }
def OutlineNumbersCardSaid : Prop := Claim7.holds Tryd.pinned (.plain (OpenSpec.ofChange outlineNumbersSpec)) outlineNumbersCard

/-- THE SECOND FORM's CARD OF 'trclaw19.OutlineAnchor'. -/
def outlineAnchorUptoCard : Claim7 := { stood := { row := outlineAnchorUptoRow, standIns := [], harness := (true, "b7b3e41bf27d1eeb91da236c1d27467182db79dd07781abfd02015ec82820dd6"), looks := false }, kinds := [], alts := [], laidByText := true, laidKinds := [.data, .data, .data], laidTests := true, laidLooks := .later }
def OutlineAnchorUptoCardSaid : Prop := Claim7.holds Tryd.pinned (.plain (OpenSpec.upto outlineAnchorSpec)) outlineAnchorUptoCard

/-- THE SECOND FORM's CARD OF 'trclaw19.OutlineContents'. -/
def outlineContentsUptoCard : Claim7 := { stood := { row := outlineContentsUptoRow, standIns := [], harness := (true, "b7b3e41bf27d1eeb91da236c1d27467182db79dd07781abfd02015ec82820dd6"), looks := false }, kinds := [], alts := [], laidByText := true, laidKinds := [.data, .data, .data], laidTests := true, laidLooks := .later }
def OutlineContentsUptoCardSaid : Prop := Claim7.holds Tryd.pinned (.plain (OpenSpec.upto outlineContentsSpec)) outlineContentsUptoCard

/-- THE SECOND FORM's CARD OF 'trclaw19.OutlineNotes'. -/
def outlineNotesUptoCard : Claim7 := { stood := { row := outlineNotesUptoRow, standIns := [], harness := (true, "b7b3e41bf27d1eeb91da236c1d27467182db79dd07781abfd02015ec82820dd6"), looks := false }, kinds := [], alts := [], laidByText := true, laidKinds := [.data, .data, .data], laidTests := true, laidLooks := .later }
def OutlineNotesUptoCardSaid : Prop := Claim7.holds Tryd.pinned (.plain (OpenSpec.upto outlineNotesSpec)) outlineNotesUptoCard

/-- THE SECOND FORM's CARD OF 'trclaw19.OutlineUses'. -/
def outlineUsesUptoCard : Claim7 := { stood := { row := outlineUsesUptoRow, standIns := [], harness := (true, "b7b3e41bf27d1eeb91da236c1d27467182db79dd07781abfd02015ec82820dd6"), looks := false }, kinds := [], alts := [], laidByText := true, laidKinds := [.data, .data, .data], laidTests := true, laidLooks := .later }
def OutlineUsesUptoCardSaid : Prop := Claim7.holds Tryd.pinned (.plain (OpenSpec.upto outlineUsesSpec)) outlineUsesUptoCard

/-- THE SECOND FORM's CARD OF 'trclaw19.OutlineAppends'. -/
def outlineAppendsUptoCard : Claim7 := { stood := { row := outlineAppendsUptoRow, standIns := [], harness := (true, "b7b3e41bf27d1eeb91da236c1d27467182db79dd07781abfd02015ec82820dd6"), looks := false }, kinds := [], alts := [], laidByText := true, laidKinds := [.data, .data, .data], laidTests := true, laidLooks := .later }
def OutlineAppendsUptoCardSaid : Prop := Claim7.holds Tryd.pinned (.plain (OpenSpec.upto outlineAppendsSpec)) outlineAppendsUptoCard

/-- THE SECOND FORM's CARD OF 'trclaw19.OutlineNumbers'. -/
def outlineNumbersUptoCard : Claim7 := { stood := { row := outlineNumbersUptoRow, standIns := [], harness := (true, "b7b3e41bf27d1eeb91da236c1d27467182db79dd07781abfd02015ec82820dd6"), looks := false }, kinds := [], alts := [], laidByText := true, laidKinds := [.data, .data, .data], laidTests := true, laidLooks := .later }
def OutlineNumbersUptoCardSaid : Prop := Claim7.holds Tryd.pinned (.plain (OpenSpec.upto outlineNumbersSpec)) outlineNumbersUptoCard
end Rows
end Go.Proofs.YtibmemaciahofaaDoor
