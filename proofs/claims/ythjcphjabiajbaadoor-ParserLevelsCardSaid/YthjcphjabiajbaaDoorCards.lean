/-
  DERIVED. GIVEN WITH THE SEED: THE CARDS: each row of YthjcphjabiajbaaDoorRows.lean that lists a variable, with what it lists TIED to the program's text (the seventh form; the later family's looks); each row that meets fmt, with fmt's text TOLD by the authors' own Lean function (tested against real Go, not proved from fmt's source: count such statements apart). THE CARD IS WHAT COUNTS. Prove the row's statement (the work); the ties are given (YthjcphjabiajbaaDoorTie.lean); close each card by the builder's one call (the guide's Derived/Test/ToyasCard.lean, 'card_holds'). Laid BY PROGRAM, IN A SANDBOX (cutbox-door.mjs). By AI agents, Wed Nov 11 2026. No macro, syntax, notation, axiom, sorry.
-/
import Derived.Test.YthjcphjabiajbaaDoorRows
import GoSem.ClaimSeven
namespace Go.Proofs.YthjcphjabiajbaaDoor
namespace Rows

/-- THE TIED CARD OF 'debuggerlaw03.ParserExamples'. -/
def parserExamplesCard : Claim7 := { stood := { row := parserExamplesRow, standIns := [], harness := (true, "6d722b4092a5cd1204546b3330ae534776e6425efa1cef00bdb9b631974098d1"), looks := true }, kinds := [], alts := [], laidByText := true, laidKinds := [.data, .data, .data, .data, .data, .data], laidTests := true, laidLooks := .later }
def ParserExamplesCardSaid : Prop := Claim7.holds Tryd.pinned (.plain (OpenSpec.ofChange parserExamplesSpec)) parserExamplesCard

/-- THE TIED CARD OF 'debuggerlaw03.ParserLevels'. -/
def parserLevelsCard : Claim7 := { stood := { row := parserLevelsRow, standIns := [], harness := (true, "6d722b4092a5cd1204546b3330ae534776e6425efa1cef00bdb9b631974098d1"), looks := true }, kinds := [], alts := [], laidByText := true, laidKinds := [.data, .data, .data, .data, .data, .data], laidTests := true, laidLooks := .later }
def ParserLevelsCardSaid : Prop := Claim7.holds Tryd.pinned (.plain (OpenSpec.ofChange parserLevelsSpec)) parserLevelsCard

/-- THE TIED CARD OF 'debuggerlaw03.ParserParens'. -/
def parserParensCard : Claim7 := { stood := { row := parserParensRow, standIns := [], harness := (true, "6d722b4092a5cd1204546b3330ae534776e6425efa1cef00bdb9b631974098d1"), looks := true }, kinds := [], alts := [], laidByText := true, laidKinds := [.data, .data, .data, .data, .data, .data], laidTests := true, laidLooks := .later }
def ParserParensCardSaid : Prop := Claim7.holds Tryd.pinned (.plain (OpenSpec.ofChange parserParensSpec)) parserParensCard

/-- THE TIED CARD OF 'debuggerlaw03.ParserNest'. -/
def parserNestCard : Claim7 := { stood := { row := parserNestRow, standIns := [], harness := (true, "6d722b4092a5cd1204546b3330ae534776e6425efa1cef00bdb9b631974098d1"), looks := true }, kinds := [], alts := [], laidByText := true, laidKinds := [.data, .data, .data, .data, .data, .data], laidTests := true, laidLooks := .later }
def ParserNestCardSaid : Prop := Claim7.holds Tryd.pinned (.plain (OpenSpec.ofChange parserNestSpec)) parserNestCard

/-- THE SECOND FORM's CARD OF 'debuggerlaw03.ParserExamples'. -/
def parserExamplesUptoCard : Claim7 := { stood := { row := parserExamplesUptoRow, standIns := [], harness := (true, "6d722b4092a5cd1204546b3330ae534776e6425efa1cef00bdb9b631974098d1"), looks := true }, kinds := [], alts := [], laidByText := true, laidKinds := [.data, .data, .data, .data, .data, .data], laidTests := true, laidLooks := .later }
def ParserExamplesUptoCardSaid : Prop := Claim7.holds Tryd.pinned (.plain (OpenSpec.upto parserExamplesSpec)) parserExamplesUptoCard

/-- THE SECOND FORM's CARD OF 'debuggerlaw03.ParserLevels'. -/
def parserLevelsUptoCard : Claim7 := { stood := { row := parserLevelsUptoRow, standIns := [], harness := (true, "6d722b4092a5cd1204546b3330ae534776e6425efa1cef00bdb9b631974098d1"), looks := true }, kinds := [], alts := [], laidByText := true, laidKinds := [.data, .data, .data, .data, .data, .data], laidTests := true, laidLooks := .later }
def ParserLevelsUptoCardSaid : Prop := Claim7.holds Tryd.pinned (.plain (OpenSpec.upto parserLevelsSpec)) parserLevelsUptoCard

/-- THE SECOND FORM's CARD OF 'debuggerlaw03.ParserParens'. -/
def parserParensUptoCard : Claim7 := { stood := { row := parserParensUptoRow, standIns := [], harness := (true, "6d722b4092a5cd1204546b3330ae534776e6425efa1cef00bdb9b631974098d1"), looks := true }, kinds := [], alts := [], laidByText := true, laidKinds := [.data, .data, .data, .data, .data, .data], laidTests := true, laidLooks := .later }
def ParserParensUptoCardSaid : Prop := Claim7.holds Tryd.pinned (.plain (OpenSpec.upto parserParensSpec)) parserParensUptoCard

/-- THE SECOND FORM's CARD OF 'debuggerlaw03.ParserNest'. -/
def parserNestUptoCard : Claim7 := { stood := { row := parserNestUptoRow, standIns := [], harness := (true, "6d722b4092a5cd1204546b3330ae534776e6425efa1cef00bdb9b631974098d1"), looks := true }, kinds := [], alts := [], laidByText := true, laidKinds := [.data, .data, .data, .data, .data, .data], laidTests := true, laidLooks := .later }
def ParserNestUptoCardSaid : Prop := Claim7.holds Tryd.pinned (.plain (OpenSpec.upto parserNestSpec)) parserNestUptoCard
end Rows
end Go.Proofs.YthjcphjabiajbaaDoor
