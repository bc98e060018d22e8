/-
  DERIVED. GIVEN WITH THE SEED: THE CARDS: each row of YtmbjedojknmgcaaDoorRows.lean that lists a variable, with what it lists TIED to the program's text (the seventh form; the later family's looks); each row that meets fmt, with fmt's text TOLD by the authors' own Lean function (tested against real Go, not proved from fmt's source: count such statements apart). THE CARD IS WHAT COUNTS. Prove the row's statement (the work); the ties are given (YtmbjedojknmgcaaDoorTie.lean); close each card by the builder's one call (the guide's Derived/Test/ToyasCard.lean, 'card_holds'). Laid BY PROGRAM, IN A SANDBOX (cutbox-door.mjs). By AI agents, Wed Nov 11 2026. No macro, syntax, notation, axiom, sorry.
-/
import Derived.Test.YtmbjedojknmgcaaDoorRows
import GoSem.ClaimSeven
namespace Go.Proofs.YtmbjedojknmgcaaDoor
namespace Rows

/-- THE TIED CARD OF 'debuggerlaw16.IsaWords'. -/
def isaWordsCard : Claim7 := { stood := { row := isaWordsRow, standIns := [], harness := (true, "aab60a1cafa098675e14bfdd98a038ae8160e2b83f0394ba35b41f5a8c12b88f"), looks := false }, kinds := [], alts := [], laidByText := true, laidKinds := [.data, .data, .data, .data], laidTests := true, laidLooks := .later }
def IsaWordsCardSaid : Prop := Claim7.holds Tryd.pinned (.plain (OpenSpec.ofChange isaWordsSpec)) isaWordsCard

/-- THE TIED CARD OF 'debuggerlaw16.IsaBack'. -/
def isaBackCard : Claim7 := { stood := { row := isaBackRow, standIns := [], harness := (true, "aab60a1cafa098675e14bfdd98a038ae8160e2b83f0394ba35b41f5a8c12b88f"), looks := false }, kinds := [], alts := [], laidByText := true, laidKinds := [.data, .data, .data, .data], laidTests := true, laidLooks := .later }
def IsaBackCardSaid : Prop := Claim7.holds Tryd.pinned (.plain (OpenSpec.ofChange isaBackSpec)) isaBackCard

/-- THE TIED CARD OF 'debuggerlaw16.IsaExecutes'. -/
def isaExecutesCard : Claim7 := { stood := { row := isaExecutesRow, standIns := [], harness := (true, "aab60a1cafa098675e14bfdd98a038ae8160e2b83f0394ba35b41f5a8c12b88f"), looks := false }, kinds := [], alts := [], laidByText := true, laidKinds := [.data, .data, .data, .data], laidTests := true, laidLooks := .later }
def IsaExecutesCardSaid : Prop := Claim7.holds Tryd.pinned (.plain (OpenSpec.ofChange isaExecutesSpec)) isaExecutesCard

/-- THE TIED CARD OF 'debuggerlaw16.IsaRuns'. -/
def isaRunsCard : Claim7 := { stood := { row := isaRunsRow, standIns := [], harness := (true, "aab60a1cafa098675e14bfdd98a038ae8160e2b83f0394ba35b41f5a8c12b88f"), looks := false }, kinds := [], alts := [], laidByText := true, laidKinds := [.data, .data, .data, .data], laidTests := true, laidLooks := .later }
def IsaRunsCardSaid : Prop := Claim7.holds Tryd.pinned (.plain (OpenSpec.ofChange isaRunsSpec)) isaRunsCard

/-- THE TIED CARD OF 'debuggerlaw16.IsaBinary'. -/
def isaBinaryCard : Claim7 := { stood := { row := isaBinaryRow, standIns := [], harness := (true, "aab60a1cafa098675e14bfdd98a038ae8160e2b83f0394ba35b41f5a8c12b88f"), looks := false }, kinds := [], alts := [], laidByText := true, laidKinds := [.data, .data, .data, .data], laidTests := true, laidLooks := .later }
def IsaBinaryCardSaid : Prop := Claim7.holds Tryd.pinned (.plain (OpenSpec.ofChange isaBinarySpec)) isaBinaryCard

/-- THE TIED CARD OF 'debuggerlaw16.IsaCalls'. -/
def isaCallsCard : Claim7 := { stood := { row := isaCallsRow, standIns := [], harness := (true, "aab60a1cafa098675e14bfdd98a038ae8160e2b83f0394ba35b41f5a8c12b88f"), looks := false }, kinds := [], alts := [], laidByText := true, laidKinds := [.data, .data, .data, .data], laidTests := true, laidLooks := .later }
def IsaCallsCardSaid : Prop := Claim7.holds Tryd.pinned (.plain (OpenSpec.ofChange isaCallsSpec)) isaCallsCard

/-- THE TIED CARD OF 'debuggerlaw16.IsaLoop'. -/
def isaLoopCard : Claim7 := { stood := { row := isaLoopRow, standIns := [], harness := (true, "aab60a1cafa098675e14bfdd98a038ae8160e2b83f0394ba35b41f5a8c12b88f"), looks := false }, kinds := [], alts := [], laidByText := true, laidKinds := [.data, .data, .data, .data], laidTests := true, laidLooks := .later }
def IsaLoopCardSaid : Prop := Claim7.holds Tryd.pinned (.plain (OpenSpec.ofChange isaLoopSpec)) isaLoopCard

/-- THE SECOND FORM's CARD OF 'debuggerlaw16.IsaWords'. -/
def isaWordsUptoCard : Claim7 := { stood := { row := isaWordsUptoRow, standIns := [], harness := (true, "aab60a1cafa098675e14bfdd98a038ae8160e2b83f0394ba35b41f5a8c12b88f"), looks := false }, kinds := [], alts := [], laidByText := true, laidKinds := [.data, .data, .data, .data], laidTests := true, laidLooks := .later }
def IsaWordsUptoCardSaid : Prop := Claim7.holds Tryd.pinned (.plain (OpenSpec.upto isaWordsSpec)) isaWordsUptoCard

/-- THE SECOND FORM's CARD OF 'debuggerlaw16.IsaBack'. -/
def isaBackUptoCard : Claim7 := { stood := { row := isaBackUptoRow, standIns := [], harness := (true, "aab60a1cafa098675e14bfdd98a038ae8160e2b83f0394ba35b41f5a8c12b88f"), looks := false }, kinds := [], alts := [], laidByText := true, laidKinds := [.data, .data, .data, .data], laidTests := true, laidLooks := .later }
def IsaBackUptoCardSaid : Prop := Claim7.holds Tryd.pinned (.plain (OpenSpec.upto isaBackSpec)) isaBackUptoCard

/-- THE SECOND FORM's CARD OF 'debuggerlaw16.IsaExecutes'. -/
def isaExecutesUptoCard : Claim7 := { stood := { row := isaExecutesUptoRow, standIns := [], harness := (true, "aab60a1cafa098675e14bfdd98a038ae8160e2b83f0394ba35b41f5a8c12b88f"), looks := false }, kinds := [], alts := [], laidByText := true, laidKinds := [.data, .data, .data, .data], laidTests := true, laidLooks := .later }
def IsaExecutesUptoCardSaid : Prop := Claim7.holds Tryd.pinned (.plain (OpenSpec.upto isaExecutesSpec)) isaExecutesUptoCard

/-- THE SECOND FORM's CARD OF 'debuggerlaw16.IsaRuns'. -/
def isaRunsUptoCard : Claim7 := { stood := { row := isaRunsUptoRow, standIns := [], harness := (true, "aab60a1cafa098675e14bfdd98a038ae8160e2b83f0394ba35b41f5a8c12b88f"), looks := false }, kinds := [], alts := [], laidByText := true, laidKinds := [.data, .data, .data, .data], laidTests := true, laidLooks := .later }
def IsaRunsUptoCardSaid : Prop := Claim7.holds Tryd.pinned (.plain (OpenSpec.upto isaRunsSpec)) isaRunsUptoCard

/-- THE SECOND FORM's CARD OF 'debuggerlaw16.IsaBinary'. -/
def isaBinaryUptoCard : Claim7 := { stood := { row := isaBinaryUptoRow, standIns := [], harness := (true, "aab60a1cafa098675e14bfdd98a038ae8160e2b83f0394ba35b41f5a8c12b88f"), looks := false }, kinds := [], alts := [], laidByText := true, laidKinds := [.data, .data, .data, .data], laidTests := true, laidLooks := .later }
def IsaBinaryUptoCardSaid : Prop := Claim7.holds Tryd.pinned (.plain (OpenSpec.upto isaBinarySpec)) isaBinaryUptoCard

/-- THE SECOND FORM's CARD OF 'debuggerlaw16.IsaCalls'. -/
def isaCallsUptoCard : Claim7 := { stood := { row := isaCallsUptoRow, standIns := [], harness := (true, "aab60a1cafa098675e14bfdd98a038ae8160e2b83f0394ba35b41f5a8c12b88f"), looks := false }, kinds := [], alts := [], laidByText := true, laidKinds := [.data, .data, .data, .data], laidTests := true, laidLooks := .later }
def IsaCallsUptoCardSaid : Prop := Claim7.holds Tryd.pinned (.plain (OpenSpec.upto isaCallsSpec)) isaCallsUptoCard

/-- THE SECOND FORM's CARD OF 'debuggerlaw16.IsaLoop'. -/
def isaLoopUptoCard : Claim7 := { stood := { row := isaLoopUptoRow, standIns := [], harness := (true, "aab60a1cafa098675e14bfdd98a038ae8160e2b83f0394ba35b41f5a8c12b88f"), looks := false }, kinds := [], alts := [], laidByText := true, laidKinds := [.data, .data, .data, .data], laidTests := true, laidLooks := .later }
def IsaLoopUptoCardSaid : Prop := Claim7.holds Tryd.pinned (.plain (OpenSpec.upto isaLoopSpec)) isaLoopUptoCard
end Rows
end Go.Proofs.YtmbjedojknmgcaaDoor
