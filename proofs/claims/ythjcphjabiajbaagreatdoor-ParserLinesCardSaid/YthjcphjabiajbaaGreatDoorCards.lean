/-
  DERIVED. GIVEN WITH THE SEED: THE CARDS: each row of YthjcphjabiajbaaGreatDoorRows.lean that lists a variable, with what it lists TIED to the program's text (the seventh form; the later family's looks); each row that meets fmt, with fmt's text TOLD by the authors' own Lean function (tested against real Go, not proved from fmt's source: count such statements apart). THE CARD IS WHAT COUNTS. Prove the row's statement (the work); the ties are given (YthjcphjabiajbaaGreatDoorTie.lean); close each card by the builder's one call (the guide's Derived/Test/ToyasCard.lean, 'card_holds'). Laid BY PROGRAM, IN A SANDBOX (cutbox-door.mjs). By AI agents, Wed Nov 11 2026. No macro, syntax, notation, axiom, sorry.
-/
import Derived.Test.YthjcphjabiajbaaGreatDoorRows
import GoSem.ClaimSeven
namespace Go.Proofs.YthjcphjabiajbaaGreatDoor
namespace Rows

/-- THE TIED CARD OF 'debuggerlaw03.ParserLines'. -/
def parserLinesCard : Claim7 := { stood := { row := parserLinesRow, standIns := [], harness := (true, "6cd6353aa516256812d4cccc0aa2862a00c5b4520e5d57f29181c41341007851"), looks := true }, kinds := [], alts := [], laidByText := true, laidKinds := [.data, .data, .data, .data, .data, .data], laidTests := true, laidLooks := .later }
def ParserLinesCardSaid : Prop := Claim7.holds Tryz.pinned (.plain (OpenSpec.ofChange parserLinesSpec)) parserLinesCard

/-- THE TIED CARD OF 'debuggerlaw03.ParserParses'. -/
def parserParsesCard : Claim7 := { stood := { row := parserParsesRow, standIns := [], harness := (true, "6cd6353aa516256812d4cccc0aa2862a00c5b4520e5d57f29181c41341007851"), looks := true }, kinds := [], alts := [], laidByText := true, laidKinds := [.data, .data, .data, .data, .data, .data], laidTests := true, laidLooks := .later }
def ParserParsesCardSaid : Prop := Claim7.holds Tryz.pinned (.plain (OpenSpec.ofChange parserParsesSpec)) parserParsesCard

/-- THE TIED CARD OF 'debuggerlaw03.ParserSpoilt'. -/
def parserSpoiltCard : Claim7 := { stood := { row := parserSpoiltRow, standIns := [], harness := (true, "6cd6353aa516256812d4cccc0aa2862a00c5b4520e5d57f29181c41341007851"), looks := true }, kinds := [], alts := [], laidByText := true, laidKinds := [.data, .data, .data, .data, .data, .data], laidTests := true, laidLooks := .later }
def ParserSpoiltCardSaid : Prop := Claim7.holds Tryz.pinned (.plain (OpenSpec.ofChange parserSpoiltSpec)) parserSpoiltCard

/-- THE TIED CARD OF 'debuggerlaw03.ParserPrints'. -/
def parserPrintsCard : Claim7 := { stood := { row := parserPrintsRow, standIns := [], harness := (true, "6cd6353aa516256812d4cccc0aa2862a00c5b4520e5d57f29181c41341007851"), looks := true }, kinds := [], alts := [], laidByText := true, laidKinds := [.data, .data, .data, .data, .data, .data], laidTests := true, laidLooks := .later }
def ParserPrintsCardSaid : Prop := Claim7.holds Tryz.pinned (.plain (OpenSpec.ofChange parserPrintsSpec)) parserPrintsCard

/-- THE TIED CARD OF 'debuggerlaw03.ParserBack'. -/
def parserBackCard : Claim7 := { stood := { row := parserBackRow, standIns := [], harness := (true, "6cd6353aa516256812d4cccc0aa2862a00c5b4520e5d57f29181c41341007851"), looks := true }, kinds := [], alts := [], laidByText := true, laidKinds := [.data, .data, .data, .data, .data, .data], laidTests := true, laidLooks := .later }
def ParserBackCardSaid : Prop := Claim7.holds Tryz.pinned (.plain (OpenSpec.ofChange parserBackSpec)) parserBackCard

/-- THE SECOND FORM's CARD OF 'debuggerlaw03.ParserLines'. -/
def parserLinesUptoCard : Claim7 := { stood := { row := parserLinesUptoRow, standIns := [], harness := (true, "6cd6353aa516256812d4cccc0aa2862a00c5b4520e5d57f29181c41341007851"), looks := true }, kinds := [], alts := [], laidByText := true, laidKinds := [.data, .data, .data, .data, .data, .data], laidTests := true, laidLooks := .later }
def ParserLinesUptoCardSaid : Prop := Claim7.holds Tryz.pinned (.plain (OpenSpec.upto parserLinesSpec)) parserLinesUptoCard

/-- THE SECOND FORM's CARD OF 'debuggerlaw03.ParserParses'. -/
def parserParsesUptoCard : Claim7 := { stood := { row := parserParsesUptoRow, standIns := [], harness := (true, "6cd6353aa516256812d4cccc0aa2862a00c5b4520e5d57f29181c41341007851"), looks := true }, kinds := [], alts := [], laidByText := true, laidKinds := [.data, .data, .data, .data, .data, .data], laidTests := true, laidLooks := .later }
def ParserParsesUptoCardSaid : Prop := Claim7.holds Tryz.pinned (.plain (OpenSpec.upto parserParsesSpec)) parserParsesUptoCard

/-- THE SECOND FORM's CARD OF 'debuggerlaw03.ParserSpoilt'. -/
def parserSpoiltUptoCard : Claim7 := { stood := { row := parserSpoiltUptoRow, standIns := [], harness := (true, "6cd6353aa516256812d4cccc0aa2862a00c5b4520e5d57f29181c41341007851"), looks := true }, kinds := [], alts := [], laidByText := true, laidKinds := [.data, .data, .data, .data, .data, .data], laidTests := true, laidLooks := .later }
def ParserSpoiltUptoCardSaid : Prop := Claim7.holds Tryz.pinned (.plain (OpenSpec.upto parserSpoiltSpec)) parserSpoiltUptoCard

/-- THE SECOND FORM's CARD OF 'debuggerlaw03.ParserPrints'. -/
def parserPrintsUptoCard : Claim7 := { stood := { row := parserPrintsUptoRow, standIns := [], harness := (true, "6cd6353aa516256812d4cccc0aa2862a00c5b4520e5d57f29181c41341007851"), looks := true }, kinds := [], alts := [], laidByText := true, laidKinds := [.data, .data, .data, .data, .data, .data], laidTests := true, laidLooks := .later }
def ParserPrintsUptoCardSaid : Prop := Claim7.holds Tryz.pinned (.plain (OpenSpec.upto parserPrintsSpec)) parserPrintsUptoCard

/-- THE SECOND FORM's CARD OF 'debuggerlaw03.ParserBack'. -/
def parserBackUptoCard : Claim7 := { stood := { row := parserBackUptoRow, standIns := [], harness := (true, "6cd6353aa516256812d4cccc0aa2862a00c5b4520e5d57f29181c41341007851"), looks := true }, kinds := [], alts := [], laidByText := true, laidKinds := [.data, .data, .data, .data, .data, .data], laidTests := true, laidLooks := .later }
def ParserBackUptoCardSaid : Prop := Claim7.holds Tryz.pinned (.plain (OpenSpec.upto parserBackSpec)) parserBackUptoCard
end Rows
end Go.Proofs.YthjcphjabiajbaaGreatDoor
