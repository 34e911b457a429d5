/-
  DERIVED. GIVEN WITH THE SEED: THE CARDS: each row of YtlkfnpmcihfjmaaGreatDoorRows.lean that lists a variable, with what it lists TIED to the program's text (the seventh form; the later family's looks); each row that meets fmt, with fmt's text TOLD by the authors' own Lean function (tested against real Go, not proved from fmt's source: count such statements apart). THE CARD IS WHAT COUNTS. Prove the row's statement (the work); the ties are given (YtlkfnpmcihfjmaaGreatDoorTie.lean); close each card by the builder's one call (the guide's Derived/Test/ToyasCard.lean, 'card_holds'). Laid BY PROGRAM, IN A SANDBOX (cutbox-door.mjs). By AI agents, Wed Nov 11 2026. No macro, syntax, notation, axiom, sorry.
-/
import Derived.Test.YtlkfnpmcihfjmaaGreatDoorRows
import GoSem.ClaimSeven
namespace Go.Proofs.YtlkfnpmcihfjmaaGreatDoor
namespace Rows

/-- THE TIED CARD OF 'trclaw8.FormulaEval'. -/
def formulaEvalCard : Claim7 := { stood := { row := formulaEvalRow, standIns := [], harness := (true, "c46fdf586c169553c6f85d6a7c35fdcbe2b71ba79a5d9044bc7869b33087379f"), looks := true }, kinds := [], alts := [], laidByText := true, laidKinds := [.data, .data, .data, .sentinel, .sentinel], laidTests := true, laidLooks := .later }
def FormulaEvalCardSaid : Prop := Claim7.holds Tryz.pinned (.plain (OpenSpec.ofChange formulaEvalSpec)) formulaEvalCard

/-- THE TIED CARD OF 'trclaw8.FormulaBuilt'. -/
def formulaBuiltCard : Claim7 := { stood := { row := formulaBuiltRow, standIns := [], harness := (true, "c46fdf586c169553c6f85d6a7c35fdcbe2b71ba79a5d9044bc7869b33087379f"), looks := true }, kinds := [], alts := [], laidByText := true, laidKinds := [.data, .data, .data, .sentinel, .sentinel], laidTests := true, laidLooks := .later }
def FormulaBuiltCardSaid : Prop := Claim7.holds Tryz.pinned (.plain (OpenSpec.ofChange formulaBuiltSpec)) formulaBuiltCard

/-- THE SECOND FORM's CARD OF 'trclaw8.FormulaEval'. -/
def formulaEvalUptoCard : Claim7 := { stood := { row := formulaEvalUptoRow, standIns := [], harness := (true, "c46fdf586c169553c6f85d6a7c35fdcbe2b71ba79a5d9044bc7869b33087379f"), looks := true }, kinds := [], alts := [], laidByText := true, laidKinds := [.data, .data, .data, .sentinel, .sentinel], laidTests := true, laidLooks := .later }
def FormulaEvalUptoCardSaid : Prop := Claim7.holds Tryz.pinned (.plain (OpenSpec.upto formulaEvalSpec)) formulaEvalUptoCard

/-- THE SECOND FORM's CARD OF 'trclaw8.FormulaBuilt'. -/
def formulaBuiltUptoCard : Claim7 := { stood := { row := formulaBuiltUptoRow, standIns := [], harness := (true, "c46fdf586c169553c6f85d6a7c35fdcbe2b71ba79a5d9044bc7869b33087379f"), looks := true }, kinds := [], alts := [], laidByText := true, laidKinds := [.data, .data, .data, .sentinel, .sentinel], laidTests := true, laidLooks := .later }
def FormulaBuiltUptoCardSaid : Prop := Claim7.holds Tryz.pinned (.plain (OpenSpec.upto formulaBuiltSpec)) formulaBuiltUptoCard
end Rows
end Go.Proofs.YtlkfnpmcihfjmaaGreatDoor
