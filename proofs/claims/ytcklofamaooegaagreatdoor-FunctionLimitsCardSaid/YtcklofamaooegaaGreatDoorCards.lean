/-
  DERIVED. GIVEN WITH THE SEED: THE CARDS: each row of YtcklofamaooegaaGreatDoorRows.lean that lists a variable, with what it lists TIED to the program's text (the seventh form; the later family's looks); each row that meets fmt, with fmt's text TOLD by the authors' own Lean function (tested against real Go, not proved from fmt's source: count such statements apart). THE CARD IS WHAT COUNTS. Prove the row's statement (the work); the ties are given (YtcklofamaooegaaGreatDoorTie.lean); close each card by the builder's one call (the guide's Derived/Test/ToyasCard.lean, 'card_holds'). Laid BY PROGRAM, IN A SANDBOX (cutbox-door.mjs). By AI agents, Wed Nov 11 2026. No macro, syntax, notation, axiom, sorry.
-/
import Derived.Test.YtcklofamaooegaaGreatDoorRows
import GoSem.ClaimSeven
namespace Go.Proofs.YtcklofamaooegaaGreatDoor
namespace Rows

/-- THE TIED CARD OF 'trclaw11.FunctionCall'. -/
def functionCallCard : Claim7 := { stood := { row := functionCallRow, standIns := [], harness := (true, "2cbcb7b0f19dcc4e3984c2e29aaf2ae83b4694039d13d893b3267ad300a61c81"), looks := true }, kinds := [], alts := [], laidByText := true, laidKinds := [.data, .data, .data, .data, .sentinel, .sentinel, .pinned], laidTests := true, laidLooks := .later }
def FunctionCallCardSaid : Prop := Claim7.holds Tryz.pinned (.plain (OpenSpec.ofChange functionCallSpec)) functionCallCard

/-- THE TIED CARD OF 'trclaw11.FunctionEach'. -/
def functionEachCard : Claim7 := { stood := { row := functionEachRow, standIns := [], harness := (true, "2cbcb7b0f19dcc4e3984c2e29aaf2ae83b4694039d13d893b3267ad300a61c81"), looks := true }, kinds := [], alts := [], laidByText := true, laidKinds := [.data, .data, .data, .data, .sentinel, .sentinel, .pinned], laidTests := true, laidLooks := .later }
def FunctionEachCardSaid : Prop := Claim7.holds Tryz.pinned (.plain (OpenSpec.ofChange functionEachSpec)) functionEachCard

/-- THE TIED CARD OF 'trclaw11.FunctionBuilt'. -/
def functionBuiltCard : Claim7 := { stood := { row := functionBuiltRow, standIns := [], harness := (true, "2cbcb7b0f19dcc4e3984c2e29aaf2ae83b4694039d13d893b3267ad300a61c81"), looks := true }, kinds := [], alts := [], laidByText := true, laidKinds := [.data, .data, .data, .data, .sentinel, .sentinel, .pinned], laidTests := true, laidLooks := .later }
def FunctionBuiltCardSaid : Prop := Claim7.holds Tryz.pinned (.plain (OpenSpec.ofChange functionBuiltSpec)) functionBuiltCard

/-- THE TIED CARD OF 'trclaw11.FunctionTrims'. -/
def functionTrimsCard : Claim7 := { stood := { row := functionTrimsRow, standIns := [], harness := (true, "2cbcb7b0f19dcc4e3984c2e29aaf2ae83b4694039d13d893b3267ad300a61c81"), looks := true }, kinds := [], alts := [], laidByText := true, laidKinds := [.data, .data, .data, .data, .sentinel, .sentinel, .pinned], laidTests := true, laidLooks := .later }
def FunctionTrimsCardSaid : Prop := Claim7.holds Tryz.pinned (.plain (OpenSpec.ofChange functionTrimsSpec)) functionTrimsCard

/-- THE TIED CARD OF 'trclaw11.FunctionCounts'. -/
def functionCountsCard : Claim7 := { stood := { row := functionCountsRow, standIns := [], harness := (true, "2cbcb7b0f19dcc4e3984c2e29aaf2ae83b4694039d13d893b3267ad300a61c81"), looks := true }, kinds := [], alts := [], laidByText := true, laidKinds := [.data, .data, .data, .data, .sentinel, .sentinel, .pinned], laidTests := true, laidLooks := .later }
def FunctionCountsCardSaid : Prop := Claim7.holds Tryz.pinned (.plain (OpenSpec.ofChange functionCountsSpec)) functionCountsCard

/-- THE TIED CARD OF 'trclaw11.FunctionLimits'. -/
def functionLimitsCard : Claim7 := { stood := { row := functionLimitsRow, standIns := [], harness := (true, "2cbcb7b0f19dcc4e3984c2e29aaf2ae83b4694039d13d893b3267ad300a61c81"), looks := true }, kinds := [], alts := [], laidByText := true, laidKinds := [.data, .data, .data, .data, .sentinel, .sentinel, .pinned], laidTests := true, laidLooks := .later }
def FunctionLimitsCardSaid : Prop := Claim7.holds Tryz.pinned (.plain (OpenSpec.ofChange functionLimitsSpec)) functionLimitsCard

/-- THE SECOND FORM's CARD OF 'trclaw11.FunctionCall'. -/
def functionCallUptoCard : Claim7 := { stood := { row := functionCallUptoRow, standIns := [], harness := (true, "2cbcb7b0f19dcc4e3984c2e29aaf2ae83b4694039d13d893b3267ad300a61c81"), looks := true }, kinds := [], alts := [], laidByText := true, laidKinds := [.data, .data, .data, .data, .sentinel, .sentinel, .pinned], laidTests := true, laidLooks := .later }
def FunctionCallUptoCardSaid : Prop := Claim7.holds Tryz.pinned (.plain (OpenSpec.upto functionCallSpec)) functionCallUptoCard

/-- THE SECOND FORM's CARD OF 'trclaw11.FunctionEach'. -/
def functionEachUptoCard : Claim7 := { stood := { row := functionEachUptoRow, standIns := [], harness := (true, "2cbcb7b0f19dcc4e3984c2e29aaf2ae83b4694039d13d893b3267ad300a61c81"), looks := true }, kinds := [], alts := [], laidByText := true, laidKinds := [.data, .data, .data, .data, .sentinel, .sentinel, .pinned], laidTests := true, laidLooks := .later }
def FunctionEachUptoCardSaid : Prop := Claim7.holds Tryz.pinned (.plain (OpenSpec.upto functionEachSpec)) functionEachUptoCard

/-- THE SECOND FORM's CARD OF 'trclaw11.FunctionBuilt'. -/
def functionBuiltUptoCard : Claim7 := { stood := { row := functionBuiltUptoRow, standIns := [], harness := (true, "2cbcb7b0f19dcc4e3984c2e29aaf2ae83b4694039d13d893b3267ad300a61c81"), looks := true }, kinds := [], alts := [], laidByText := true, laidKinds := [.data, .data, .data, .data, .sentinel, .sentinel, .pinned], laidTests := true, laidLooks := .later }
def FunctionBuiltUptoCardSaid : Prop := Claim7.holds Tryz.pinned (.plain (OpenSpec.upto functionBuiltSpec)) functionBuiltUptoCard

/-- THE SECOND FORM's CARD OF 'trclaw11.FunctionTrims'. -/
def functionTrimsUptoCard : Claim7 := { stood := { row := functionTrimsUptoRow, standIns := [], harness := (true, "2cbcb7b0f19dcc4e3984c2e29aaf2ae83b4694039d13d893b3267ad300a61c81"), looks := true }, kinds := [], alts := [], laidByText := true, laidKinds := [.data, .data, .data, .data, .sentinel, .sentinel, .pinned], laidTests := true, laidLooks := .later }
def FunctionTrimsUptoCardSaid : Prop := Claim7.holds Tryz.pinned (.plain (OpenSpec.upto functionTrimsSpec)) functionTrimsUptoCard

/-- THE SECOND FORM's CARD OF 'trclaw11.FunctionCounts'. -/
def functionCountsUptoCard : Claim7 := { stood := { row := functionCountsUptoRow, standIns := [], harness := (true, "2cbcb7b0f19dcc4e3984c2e29aaf2ae83b4694039d13d893b3267ad300a61c81"), looks := true }, kinds := [], alts := [], laidByText := true, laidKinds := [.data, .data, .data, .data, .sentinel, .sentinel, .pinned], laidTests := true, laidLooks := .later }
def FunctionCountsUptoCardSaid : Prop := Claim7.holds Tryz.pinned (.plain (OpenSpec.upto functionCountsSpec)) functionCountsUptoCard

/-- THE SECOND FORM's CARD OF 'trclaw11.FunctionLimits'. -/
def functionLimitsUptoCard : Claim7 := { stood := { row := functionLimitsUptoRow, standIns := [], harness := (true, "2cbcb7b0f19dcc4e3984c2e29aaf2ae83b4694039d13d893b3267ad300a61c81"), looks := true }, kinds := [], alts := [], laidByText := true, laidKinds := [.data, .data, .data, .data, .sentinel, .sentinel, .pinned], laidTests := true, laidLooks := .later }
def FunctionLimitsUptoCardSaid : Prop := Claim7.holds Tryz.pinned (.plain (OpenSpec.upto functionLimitsSpec)) functionLimitsUptoCard
end Rows
end Go.Proofs.YtcklofamaooegaaGreatDoor
