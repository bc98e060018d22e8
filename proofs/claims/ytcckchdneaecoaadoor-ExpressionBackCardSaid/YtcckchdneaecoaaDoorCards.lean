/-
  DERIVED. GIVEN WITH THE SEED: THE CARDS: each row of YtcckchdneaecoaaDoorRows.lean that lists a variable, with what it lists TIED to the program's text (the seventh form; the later family's looks); each row that meets fmt, with fmt's text TOLD by the authors' own Lean function (tested against real Go, not proved from fmt's source: count such statements apart). THE CARD IS WHAT COUNTS. Prove the row's statement (the work); the ties are given (YtcckchdneaecoaaDoorTie.lean); close each card by the builder's one call (the guide's Derived/Test/ToyasCard.lean, 'card_holds'). Laid BY PROGRAM, IN A SANDBOX (cutbox-door.mjs). By AI agents, Wed Nov 11 2026. No macro, syntax, notation, axiom, sorry.
-/
import Derived.Test.YtcckchdneaecoaaDoorRows
import GoSem.ClaimSeven
namespace Go.Proofs.YtcckchdneaecoaaDoor
namespace Rows

/-- THE TIED CARD OF 'debuggerlaw30.ExpressionParses'. -/
def expressionParsesCard : Claim7 := { stood := { row := expressionParsesRow, standIns := [], harness := (true, "a214f5ea0c5b170d565b8565961ee5e640e87342d7bf26c539b21f055e390209"), looks := false }, kinds := [], alts := [], laidByText := true, laidKinds := [.data, .data, .data, .data, .data, .data], laidTests := true, laidLooks := .later }
def ExpressionParsesCardSaid : Prop := Claim7.holds Tryd.pinned (.plain (OpenSpec.ofChange expressionParsesSpec)) expressionParsesCard

/-- THE TIED CARD OF 'debuggerlaw30.ExpressionPrints'. -/
def expressionPrintsCard : Claim7 := { stood := { row := expressionPrintsRow, standIns := [], harness := (true, "a214f5ea0c5b170d565b8565961ee5e640e87342d7bf26c539b21f055e390209"), looks := false }, kinds := [], alts := [], laidByText := true, laidKinds := [.data, .data, .data, .data, .data, .data], laidTests := true, laidLooks := .later }
def ExpressionPrintsCardSaid : Prop := Claim7.holds Tryd.pinned (.plain (OpenSpec.ofChange expressionPrintsSpec)) expressionPrintsCard

/-- THE TIED CARD OF 'debuggerlaw30.ExpressionBack'. -/
def expressionBackCard : Claim7 := { stood := { row := expressionBackRow, standIns := [], harness := (true, "a214f5ea0c5b170d565b8565961ee5e640e87342d7bf26c539b21f055e390209"), looks := false }, kinds := [], alts := [], laidByText := true, laidKinds := [.data, .data, .data, .data, .data, .data], laidTests := true, laidLooks := .later }
def ExpressionBackCardSaid : Prop := Claim7.holds Tryd.pinned (.plain (OpenSpec.ofChange expressionBackSpec)) expressionBackCard

/-- THE TIED CARD OF 'debuggerlaw30.ExpressionParsed'. -/
def expressionParsedCard : Claim7 := { stood := { row := expressionParsedRow, standIns := [], harness := (true, "a214f5ea0c5b170d565b8565961ee5e640e87342d7bf26c539b21f055e390209"), looks := false }, kinds := [], alts := [], laidByText := true, laidKinds := [.data, .data, .data, .data, .data, .data], laidTests := true, laidLooks := .later }
def ExpressionParsedCardSaid : Prop := Claim7.holds Tryd.pinned (.plain (OpenSpec.ofChange expressionParsedSpec)) expressionParsedCard

/-- THE SECOND FORM's CARD OF 'debuggerlaw30.ExpressionParses'. -/
def expressionParsesUptoCard : Claim7 := { stood := { row := expressionParsesUptoRow, standIns := [], harness := (true, "a214f5ea0c5b170d565b8565961ee5e640e87342d7bf26c539b21f055e390209"), looks := false }, kinds := [], alts := [], laidByText := true, laidKinds := [.data, .data, .data, .data, .data, .data], laidTests := true, laidLooks := .later }
def ExpressionParsesUptoCardSaid : Prop := Claim7.holds Tryd.pinned (.plain (OpenSpec.upto expressionParsesSpec)) expressionParsesUptoCard

/-- THE SECOND FORM's CARD OF 'debuggerlaw30.ExpressionPrints'. -/
def expressionPrintsUptoCard : Claim7 := { stood := { row := expressionPrintsUptoRow, standIns := [], harness := (true, "a214f5ea0c5b170d565b8565961ee5e640e87342d7bf26c539b21f055e390209"), looks := false }, kinds := [], alts := [], laidByText := true, laidKinds := [.data, .data, .data, .data, .data, .data], laidTests := true, laidLooks := .later }
def ExpressionPrintsUptoCardSaid : Prop := Claim7.holds Tryd.pinned (.plain (OpenSpec.upto expressionPrintsSpec)) expressionPrintsUptoCard

/-- THE SECOND FORM's CARD OF 'debuggerlaw30.ExpressionBack'. -/
def expressionBackUptoCard : Claim7 := { stood := { row := expressionBackUptoRow, standIns := [], harness := (true, "a214f5ea0c5b170d565b8565961ee5e640e87342d7bf26c539b21f055e390209"), looks := false }, kinds := [], alts := [], laidByText := true, laidKinds := [.data, .data, .data, .data, .data, .data], laidTests := true, laidLooks := .later }
def ExpressionBackUptoCardSaid : Prop := Claim7.holds Tryd.pinned (.plain (OpenSpec.upto expressionBackSpec)) expressionBackUptoCard

/-- THE SECOND FORM's CARD OF 'debuggerlaw30.ExpressionParsed'. -/
def expressionParsedUptoCard : Claim7 := { stood := { row := expressionParsedUptoRow, standIns := [], harness := (true, "a214f5ea0c5b170d565b8565961ee5e640e87342d7bf26c539b21f055e390209"), looks := false }, kinds := [], alts := [], laidByText := true, laidKinds := [.data, .data, .data, .data, .data, .data], laidTests := true, laidLooks := .later }
def ExpressionParsedUptoCardSaid : Prop := Claim7.holds Tryd.pinned (.plain (OpenSpec.upto expressionParsedSpec)) expressionParsedUptoCard
end Rows
end Go.Proofs.YtcckchdneaecoaaDoor
