/-
  NARROWER THAN 'FOR EVERY INPUT', by the rows' own cells (each row's printed sentence says how): LexerScans: laid · LexerSpoilt: laid · LexerGaps: laid · LexerJoins: laid · LexerLines: laid · LexerLimits: laid · LexerExamples: laid.
  DERIVED. THE GIVEN ROWS OF THIS SEAT. 7 by the template 'for every input the law returns true; each argument reads behind the call as it read before'; 0 by the template 'total and deterministic' (their statements: YtmpifmapdmhgkaaDoorTotals.lean).
  GIVEN WITH THE SEED: the statements are not yours to turn. If you find one false, say at which input.
  Laid BY PROGRAM, IN A SANDBOX (cutbox-rows.mjs): the forced cells as the released guide's own fill.sh prints them over the translation 91a965230e1b8c59… (all of the seat's roots in one cut). By AI agents, Wed Nov 11 2026. No macro, syntax, notation, axiom, sorry.
-/
import Derived.Test.YtmpifmapdmhgkaaDoorChecked
import GoSem.Claim
import GoSem.ClaimJoined
import GoSem.ClaimMapViews
import Derived.JoinedTies
import Derived.KernelRfl
namespace Go.Proofs.YtmpifmapdmhgkaaDoor
/- THE CELL 'sum', in the pinned program and in every row, IS THE sha256 OF THE DUMP (.gsa) THAT YtmpifmapdmhgkaaDoorProg.lean LOADS. Nothing in Lean hashes anything: it is a label: what it is worth is what the hold of that sum in a sandbox is worth. -/
noncomputable def Tryd.pinned : Pinned := { name := "ytmpifmapdmhgkaadoor", sum := "91a965230e1b8c59fe881067feff6c1dc2a360a097171820dc67008ca3b4fa95", checked := Tryd.checked }
namespace Rows
def none {H : Type} : Left H := { results := [], args := [] }

/- WHAT THE LISTED PACKAGE-LEVEL VARIABLES READ AS WHEN THE CALL BEGINS. Each datum BY PROGRAM (the guide's laid-datum.mjs) off the statement by which the dump's own 'gosem.cut.vars' lays the variable. In a bare row this is a premise. The card (YtmpifmapdmhgkaaDoorCards.lean) ties it to the program's text. -/
def laid_debugger_lexer_words {H : Type} : DataW H := .agg [.lit (.string [114, 101, 99, 111, 114, 100]), .lit (.string [102, 117, 110, 99]), .lit (.string [118, 97, 114]), .lit (.string [105, 110, 116]), .lit (.string [105, 102]), .lit (.string [101, 108, 115, 101]), .lit (.string [119, 104, 105, 108, 101]), .lit (.string [114, 101, 116, 117, 114, 110]), .lit (.string [116, 104, 114, 111, 119]), .lit (.string [116, 114, 121]), .lit (.string [99, 97, 116, 99, 104]), .lit (.string [112, 114, 105, 110, 116])]
def laid_debugger_lexer_signs {H : Type} : DataW H := .agg [.lit (.string [60, 61]), .lit (.string [61, 61]), .lit (.string [33, 61]), .lit (.string [40]), .lit (.string [41]), .lit (.string [123]), .lit (.string [125]), .lit (.string [91]), .lit (.string [93]), .lit (.string [44]), .lit (.string [59]), .lit (.string [58]), .lit (.string [46]), .lit (.string [43]), .lit (.string [45]), .lit (.string [42]), .lit (.string [47]), .lit (.string [37]), .lit (.string [38]), .lit (.string [124]), .lit (.string [94]), .lit (.string [60]), .lit (.string [61]), .lit (.string [33])]

/-- 'debuggerlaw02.LexerScans': WHATEVER THE INPUT: true; the input reads as it did. -/
def lexerScansSpec : ChangeSpec := { name := "lexerScans", fn := fun _ => fun
  | [d1, d2] => { results := [.lit (.bool true)], args := [d1, d2] }
  | _ => none }
def lexerScansRow : OpenClaim := { program := "ytmpifmapdmhgkaadoor", sum := "91a965230e1b8c59fe881067feff6c1dc2a360a097171820dc67008ca3b4fa95", func := "debugger/debuggerlaw02.LexerScans", spec := "lexerScans", unfollowed := true, recurses := true, named := ["debugger/lexer.words", "debugger/lexer.signs"], apart := false, laid := [("debugger/lexer.words", laid_debugger_lexer_words), ("debugger/lexer.signs", laid_debugger_lexer_signs)] }
def LexerScansSaid : Prop := lexerScansRow.holds Tryd.pinned (OpenSpec.ofChange lexerScansSpec)

/-- ITS FALSE NEIGHBOUR: 'it returns false'. Refute it at one input. -/
def lexerScansWrong : ChangeSpec := { name := "lexerScans", fn := fun _ => fun
  | [d1, d2] => { results := [.lit (.bool false)], args := [d1, d2] }
  | _ => none }
def LexerScansWrongFalsely : Prop := lexerScansRow.holds Tryd.pinned (OpenSpec.ofChange lexerScansWrong)

/-- 'debuggerlaw02.LexerSpoilt': WHATEVER THE INPUT: true; the input reads as it did. -/
def lexerSpoiltSpec : ChangeSpec := { name := "lexerSpoilt", fn := fun _ => fun
  | [d1, d2, d3, d4] => { results := [.lit (.bool true)], args := [d1, d2, d3, d4] }
  | _ => none }
def lexerSpoiltRow : OpenClaim := { program := "ytmpifmapdmhgkaadoor", sum := "91a965230e1b8c59fe881067feff6c1dc2a360a097171820dc67008ca3b4fa95", func := "debugger/debuggerlaw02.LexerSpoilt", spec := "lexerSpoilt", unfollowed := true, recurses := true, named := ["debugger/lexer.words", "debugger/lexer.signs"], apart := false, laid := [("debugger/lexer.words", laid_debugger_lexer_words), ("debugger/lexer.signs", laid_debugger_lexer_signs)] }
def LexerSpoiltSaid : Prop := lexerSpoiltRow.holds Tryd.pinned (OpenSpec.ofChange lexerSpoiltSpec)

/-- ITS FALSE NEIGHBOUR: 'it returns false'. Refute it at one input. -/
def lexerSpoiltWrong : ChangeSpec := { name := "lexerSpoilt", fn := fun _ => fun
  | [d1, d2, d3, d4] => { results := [.lit (.bool false)], args := [d1, d2, d3, d4] }
  | _ => none }
def LexerSpoiltWrongFalsely : Prop := lexerSpoiltRow.holds Tryd.pinned (OpenSpec.ofChange lexerSpoiltWrong)

/-- 'debuggerlaw02.LexerGaps': WHATEVER THE INPUT: true; the input reads as it did. -/
def lexerGapsSpec : ChangeSpec := { name := "lexerGaps", fn := fun _ => fun
  | [d1, d2] => { results := [.lit (.bool true)], args := [d1, d2] }
  | _ => none }
def lexerGapsRow : OpenClaim := { program := "ytmpifmapdmhgkaadoor", sum := "91a965230e1b8c59fe881067feff6c1dc2a360a097171820dc67008ca3b4fa95", func := "debugger/debuggerlaw02.LexerGaps", spec := "lexerGaps", unfollowed := true, recurses := true, named := ["debugger/lexer.words", "debugger/lexer.signs"], apart := false, laid := [("debugger/lexer.words", laid_debugger_lexer_words), ("debugger/lexer.signs", laid_debugger_lexer_signs)] }
def LexerGapsSaid : Prop := lexerGapsRow.holds Tryd.pinned (OpenSpec.ofChange lexerGapsSpec)

/-- ITS FALSE NEIGHBOUR: 'it returns false'. Refute it at one input. -/
def lexerGapsWrong : ChangeSpec := { name := "lexerGaps", fn := fun _ => fun
  | [d1, d2] => { results := [.lit (.bool false)], args := [d1, d2] }
  | _ => none }
def LexerGapsWrongFalsely : Prop := lexerGapsRow.holds Tryd.pinned (OpenSpec.ofChange lexerGapsWrong)

/-- 'debuggerlaw02.LexerJoins': WHATEVER THE INPUT: true; the input reads as it did. -/
def lexerJoinsSpec : ChangeSpec := { name := "lexerJoins", fn := fun _ => fun
  | [d1, d2] => { results := [.lit (.bool true)], args := [d1, d2] }
  | _ => none }
def lexerJoinsRow : OpenClaim := { program := "ytmpifmapdmhgkaadoor", sum := "91a965230e1b8c59fe881067feff6c1dc2a360a097171820dc67008ca3b4fa95", func := "debugger/debuggerlaw02.LexerJoins", spec := "lexerJoins", unfollowed := true, recurses := true, named := ["debugger/lexer.words", "debugger/lexer.signs"], apart := false, laid := [("debugger/lexer.words", laid_debugger_lexer_words), ("debugger/lexer.signs", laid_debugger_lexer_signs)] }
def LexerJoinsSaid : Prop := lexerJoinsRow.holds Tryd.pinned (OpenSpec.ofChange lexerJoinsSpec)

/-- ITS FALSE NEIGHBOUR: 'it returns false'. Refute it at one input. -/
def lexerJoinsWrong : ChangeSpec := { name := "lexerJoins", fn := fun _ => fun
  | [d1, d2] => { results := [.lit (.bool false)], args := [d1, d2] }
  | _ => none }
def LexerJoinsWrongFalsely : Prop := lexerJoinsRow.holds Tryd.pinned (OpenSpec.ofChange lexerJoinsWrong)

/-- 'debuggerlaw02.LexerLines': WHATEVER THE INPUT: true; the input reads as it did. -/
def lexerLinesSpec : ChangeSpec := { name := "lexerLines", fn := fun _ => fun
  | [d1, d2] => { results := [.lit (.bool true)], args := [d1, d2] }
  | _ => none }
def lexerLinesRow : OpenClaim := { program := "ytmpifmapdmhgkaadoor", sum := "91a965230e1b8c59fe881067feff6c1dc2a360a097171820dc67008ca3b4fa95", func := "debugger/debuggerlaw02.LexerLines", spec := "lexerLines", unfollowed := true, recurses := true, named := ["debugger/lexer.words", "debugger/lexer.signs"], apart := false, laid := [("debugger/lexer.words", laid_debugger_lexer_words), ("debugger/lexer.signs", laid_debugger_lexer_signs)] }
def LexerLinesSaid : Prop := lexerLinesRow.holds Tryd.pinned (OpenSpec.ofChange lexerLinesSpec)

/-- ITS FALSE NEIGHBOUR: 'it returns false'. Refute it at one input. -/
def lexerLinesWrong : ChangeSpec := { name := "lexerLines", fn := fun _ => fun
  | [d1, d2] => { results := [.lit (.bool false)], args := [d1, d2] }
  | _ => none }
def LexerLinesWrongFalsely : Prop := lexerLinesRow.holds Tryd.pinned (OpenSpec.ofChange lexerLinesWrong)

/-- 'debuggerlaw02.LexerLimits': WHATEVER THE INPUT: true; the input reads as it did. -/
def lexerLimitsSpec : ChangeSpec := { name := "lexerLimits", fn := fun _ => fun
  | [d] => { results := [.lit (.bool true)], args := [d] }
  | _ => none }
def lexerLimitsRow : OpenClaim := { program := "ytmpifmapdmhgkaadoor", sum := "91a965230e1b8c59fe881067feff6c1dc2a360a097171820dc67008ca3b4fa95", func := "debugger/debuggerlaw02.LexerLimits", spec := "lexerLimits", unfollowed := true, recurses := true, named := ["debugger/lexer.words", "debugger/lexer.signs"], apart := false, laid := [("debugger/lexer.words", laid_debugger_lexer_words), ("debugger/lexer.signs", laid_debugger_lexer_signs)] }
def LexerLimitsSaid : Prop := lexerLimitsRow.holds Tryd.pinned (OpenSpec.ofChange lexerLimitsSpec)

/-- ITS FALSE NEIGHBOUR: 'it returns false'. Refute it at one input. -/
def lexerLimitsWrong : ChangeSpec := { name := "lexerLimits", fn := fun _ => fun
  | [d] => { results := [.lit (.bool false)], args := [d] }
  | _ => none }
def LexerLimitsWrongFalsely : Prop := lexerLimitsRow.holds Tryd.pinned (OpenSpec.ofChange lexerLimitsWrong)

/-- 'debuggerlaw02.LexerExamples': WHATEVER THE INPUT: true; the input reads as it did. -/
def lexerExamplesSpec : ChangeSpec := { name := "lexerExamples", fn := fun _ => fun
  | [] => { results := [.lit (.bool true)], args := [] }
  | _ => none }
def lexerExamplesRow : OpenClaim := { program := "ytmpifmapdmhgkaadoor", sum := "91a965230e1b8c59fe881067feff6c1dc2a360a097171820dc67008ca3b4fa95", func := "debugger/debuggerlaw02.LexerExamples", spec := "lexerExamples", unfollowed := true, recurses := true, named := ["debugger/lexer.words", "debugger/lexer.signs"], apart := false, laid := [("debugger/lexer.words", laid_debugger_lexer_words), ("debugger/lexer.signs", laid_debugger_lexer_signs)] }
def LexerExamplesSaid : Prop := lexerExamplesRow.holds Tryd.pinned (OpenSpec.ofChange lexerExamplesSpec)

/-- ITS FALSE NEIGHBOUR: 'it returns false'. Refute it at one input. -/
def lexerExamplesWrong : ChangeSpec := { name := "lexerExamples", fn := fun _ => fun
  | [] => { results := [.lit (.bool false)], args := [] }
  | _ => none }
def LexerExamplesWrongFalsely : Prop := lexerExamplesRow.holds Tryd.pinned (OpenSpec.ofChange lexerExamplesWrong)

/- THE SECOND FORM. 'bulk': how many values and letters a reading holds, each counted each time it is reached (what is shared counts as often as it is met; a slice's spare places count too). A statement '..UptoSaid' is the law's where the arguments, and the package variables that the reading takes, are together of bulk at most 1048576: NARROWER than '..Said'. Prove '..Said' where nothing that the law and all that it calls make is longer than what came in: it says more and counts as full. Else prove '..UptoSaid'. A law counts once. -/
mutual
def uptoBulk {H : Type} : DataW H → Nat
  | .lit (.string bytes) => bytes.length + 1
  | .lit _ => 1
  | .nil => 1
  | .ptr d => uptoBulk d + 1
  | .slice elems spare => uptoBulkAll elems + uptoBulkAll spare + 1
  | .agg parts => uptoBulkAll parts + 1
  | .iface _ d => uptoBulk d + 1
  | .map entries => uptoBulkEntries entries + 1
  | .held _ => 1
def uptoBulkAll {H : Type} : List (DataW H) → Nat
  | [] => 0
  | d :: r => uptoBulk d + uptoBulkAll r
def uptoBulkEntries {H : Type} : List (Lit × DataW H) → Nat
  | [] => 0
  | x :: r => uptoBulkEntry x + uptoBulkEntries r
def uptoBulkEntry {H : Type} : Lit × DataW H → Nat
  | (.string bytes, d) => bytes.length + uptoBulk d + 1
  | (_, d) => uptoBulk d + 1
 end
def uptoSmall : (H : Type) → List (DataW H) → Bool := fun _ ds => decide (uptoBulkAll ds ≤ 1048576)
def OpenSpec.upto (s : _root_.Go.ChangeSpec) : _root_.Go.OpenSpec := { _root_.Go.OpenSpec.ofChange s with cond := some uptoSmall }

/-- 'debuggerlaw02.LexerScans', WHERE WHAT IT READS IS OF BULK AT MOST 1048576: true; the input reads as it did. -/
def lexerScansUptoRow : OpenClaim := { program := "ytmpifmapdmhgkaadoor", sum := "91a965230e1b8c59fe881067feff6c1dc2a360a097171820dc67008ca3b4fa95", func := "debugger/debuggerlaw02.LexerScans", spec := "lexerScans", unfollowed := true, recurses := true, named := ["debugger/lexer.words", "debugger/lexer.signs"], apart := false, laid := [("debugger/lexer.words", laid_debugger_lexer_words), ("debugger/lexer.signs", laid_debugger_lexer_signs)], narrowed := true }
def LexerScansUptoSaid : Prop := lexerScansUptoRow.holds Tryd.pinned (OpenSpec.upto lexerScansSpec)

/-- 'debuggerlaw02.LexerSpoilt', WHERE WHAT IT READS IS OF BULK AT MOST 1048576: true; the input reads as it did. -/
def lexerSpoiltUptoRow : OpenClaim := { program := "ytmpifmapdmhgkaadoor", sum := "91a965230e1b8c59fe881067feff6c1dc2a360a097171820dc67008ca3b4fa95", func := "debugger/debuggerlaw02.LexerSpoilt", spec := "lexerSpoilt", unfollowed := true, recurses := true, named := ["debugger/lexer.words", "debugger/lexer.signs"], apart := false, laid := [("debugger/lexer.words", laid_debugger_lexer_words), ("debugger/lexer.signs", laid_debugger_lexer_signs)], narrowed := true }
def LexerSpoiltUptoSaid : Prop := lexerSpoiltUptoRow.holds Tryd.pinned (OpenSpec.upto lexerSpoiltSpec)

/-- 'debuggerlaw02.LexerGaps', WHERE WHAT IT READS IS OF BULK AT MOST 1048576: true; the input reads as it did. -/
def lexerGapsUptoRow : OpenClaim := { program := "ytmpifmapdmhgkaadoor", sum := "91a965230e1b8c59fe881067feff6c1dc2a360a097171820dc67008ca3b4fa95", func := "debugger/debuggerlaw02.LexerGaps", spec := "lexerGaps", unfollowed := true, recurses := true, named := ["debugger/lexer.words", "debugger/lexer.signs"], apart := false, laid := [("debugger/lexer.words", laid_debugger_lexer_words), ("debugger/lexer.signs", laid_debugger_lexer_signs)], narrowed := true }
def LexerGapsUptoSaid : Prop := lexerGapsUptoRow.holds Tryd.pinned (OpenSpec.upto lexerGapsSpec)

/-- 'debuggerlaw02.LexerJoins', WHERE WHAT IT READS IS OF BULK AT MOST 1048576: true; the input reads as it did. -/
def lexerJoinsUptoRow : OpenClaim := { program := "ytmpifmapdmhgkaadoor", sum := "91a965230e1b8c59fe881067feff6c1dc2a360a097171820dc67008ca3b4fa95", func := "debugger/debuggerlaw02.LexerJoins", spec := "lexerJoins", unfollowed := true, recurses := true, named := ["debugger/lexer.words", "debugger/lexer.signs"], apart := false, laid := [("debugger/lexer.words", laid_debugger_lexer_words), ("debugger/lexer.signs", laid_debugger_lexer_signs)], narrowed := true }
def LexerJoinsUptoSaid : Prop := lexerJoinsUptoRow.holds Tryd.pinned (OpenSpec.upto lexerJoinsSpec)

/-- 'debuggerlaw02.LexerLines', WHERE WHAT IT READS IS OF BULK AT MOST 1048576: true; the input reads as it did. -/
def lexerLinesUptoRow : OpenClaim := { program := "ytmpifmapdmhgkaadoor", sum := "91a965230e1b8c59fe881067feff6c1dc2a360a097171820dc67008ca3b4fa95", func := "debugger/debuggerlaw02.LexerLines", spec := "lexerLines", unfollowed := true, recurses := true, named := ["debugger/lexer.words", "debugger/lexer.signs"], apart := false, laid := [("debugger/lexer.words", laid_debugger_lexer_words), ("debugger/lexer.signs", laid_debugger_lexer_signs)], narrowed := true }
def LexerLinesUptoSaid : Prop := lexerLinesUptoRow.holds Tryd.pinned (OpenSpec.upto lexerLinesSpec)

/-- 'debuggerlaw02.LexerLimits', WHERE WHAT IT READS IS OF BULK AT MOST 1048576: true; the input reads as it did. -/
def lexerLimitsUptoRow : OpenClaim := { program := "ytmpifmapdmhgkaadoor", sum := "91a965230e1b8c59fe881067feff6c1dc2a360a097171820dc67008ca3b4fa95", func := "debugger/debuggerlaw02.LexerLimits", spec := "lexerLimits", unfollowed := true, recurses := true, named := ["debugger/lexer.words", "debugger/lexer.signs"], apart := false, laid := [("debugger/lexer.words", laid_debugger_lexer_words), ("debugger/lexer.signs", laid_debugger_lexer_signs)], narrowed := true }
def LexerLimitsUptoSaid : Prop := lexerLimitsUptoRow.holds Tryd.pinned (OpenSpec.upto lexerLimitsSpec)

/-- 'debuggerlaw02.LexerExamples', WHERE WHAT IT READS IS OF BULK AT MOST 1048576: true; the input reads as it did. -/
def lexerExamplesUptoRow : OpenClaim := { program := "ytmpifmapdmhgkaadoor", sum := "91a965230e1b8c59fe881067feff6c1dc2a360a097171820dc67008ca3b4fa95", func := "debugger/debuggerlaw02.LexerExamples", spec := "lexerExamples", unfollowed := true, recurses := true, named := ["debugger/lexer.words", "debugger/lexer.signs"], apart := false, laid := [("debugger/lexer.words", laid_debugger_lexer_words), ("debugger/lexer.signs", laid_debugger_lexer_signs)], narrowed := true }
def LexerExamplesUptoSaid : Prop := lexerExamplesUptoRow.holds Tryd.pinned (OpenSpec.upto lexerExamplesSpec)

end Rows
end Go.Proofs.YtmpifmapdmhgkaaDoor
