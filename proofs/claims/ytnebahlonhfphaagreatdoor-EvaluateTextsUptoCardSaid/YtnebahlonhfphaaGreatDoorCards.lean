/-
  DERIVED. GIVEN WITH THE SEED: THE CARDS: each row of YtnebahlonhfphaaGreatDoorRows.lean that lists a variable, with what it lists TIED to the program's text (the seventh form; the later family's looks); each row that meets fmt, with fmt's text TOLD by the authors' own Lean function (tested against real Go, not proved from fmt's source: count such statements apart). THE CARD IS WHAT COUNTS. Prove the row's statement (the work); the ties are given (YtnebahlonhfphaaGreatDoorTie.lean); close each card by the builder's one call (the guide's Derived/Test/ToyasCard.lean, 'card_holds'). Laid BY PROGRAM, IN A SANDBOX (cutbox-door.mjs). By AI agents, Wed Nov 11 2026. No macro, syntax, notation, axiom, sorry.
-/
import Derived.Test.YtnebahlonhfphaaGreatDoorRows
import GoSem.ClaimSeven
namespace Go.Proofs.YtnebahlonhfphaaGreatDoor
namespace Rows

/-- THE TIED CARD OF 'debuggerlaw31.EvaluateOperators'. -/
def evaluateOperatorsCard : Claim7 := { stood := { row := evaluateOperatorsRow, standIns := [], harness := (true, "3c7bed87286b3f7a866ee7bd8b868bda35d20b78b0a39e78dafcfaf26bf6c7ce"), looks := false }, kinds := [], alts := [], laidByText := true, laidKinds := [.data, .data, .data], laidTests := true, laidLooks := .later }
def EvaluateOperatorsCardSaid : Prop := Claim7.holds Tryz.pinned (.plain (OpenSpec.ofChange evaluateOperatorsSpec)) evaluateOperatorsCard

/-- THE TIED CARD OF 'debuggerlaw31.EvaluateTexts'. -/
def evaluateTextsCard : Claim7 := { stood := { row := evaluateTextsRow, standIns := [], harness := (true, "3c7bed87286b3f7a866ee7bd8b868bda35d20b78b0a39e78dafcfaf26bf6c7ce"), looks := false }, kinds := [], alts := [], laidByText := true, laidKinds := [.data, .data, .data], laidTests := true, laidLooks := .later }
def EvaluateTextsCardSaid : Prop := Claim7.holds Tryz.pinned (.plain (OpenSpec.ofChange evaluateTextsSpec)) evaluateTextsCard

/-- THE SECOND FORM's CARD OF 'debuggerlaw31.EvaluateOperators'. -/
def evaluateOperatorsUptoCard : Claim7 := { stood := { row := evaluateOperatorsUptoRow, standIns := [], harness := (true, "3c7bed87286b3f7a866ee7bd8b868bda35d20b78b0a39e78dafcfaf26bf6c7ce"), looks := false }, kinds := [], alts := [], laidByText := true, laidKinds := [.data, .data, .data], laidTests := true, laidLooks := .later }
def EvaluateOperatorsUptoCardSaid : Prop := Claim7.holds Tryz.pinned (.plain (OpenSpec.upto evaluateOperatorsSpec)) evaluateOperatorsUptoCard

/-- THE SECOND FORM's CARD OF 'debuggerlaw31.EvaluateTexts'. -/
def evaluateTextsUptoCard : Claim7 := { stood := { row := evaluateTextsUptoRow, standIns := [], harness := (true, "3c7bed87286b3f7a866ee7bd8b868bda35d20b78b0a39e78dafcfaf26bf6c7ce"), looks := false }, kinds := [], alts := [], laidByText := true, laidKinds := [.data, .data, .data], laidTests := true, laidLooks := .later }
def EvaluateTextsUptoCardSaid : Prop := Claim7.holds Tryz.pinned (.plain (OpenSpec.upto evaluateTextsSpec)) evaluateTextsUptoCard
end Rows
end Go.Proofs.YtnebahlonhfphaaGreatDoor
