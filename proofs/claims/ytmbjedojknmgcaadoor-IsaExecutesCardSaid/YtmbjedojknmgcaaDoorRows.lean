/-
  NARROWER THAN 'FOR EVERY INPUT', by the rows' own cells (each row's printed sentence says how): IsaWords: laid · IsaBack: laid · IsaExecutes: laid · IsaRuns: laid · IsaBinary: laid · IsaCalls: laid · IsaLoop: laid.
  DERIVED. THE GIVEN ROWS OF THIS SEAT. 7 by the template 'for every input the law returns true; each argument reads behind the call as it read before'; 0 by the template 'total and deterministic' (their statements: YtmbjedojknmgcaaDoorTotals.lean).
  GIVEN WITH THE SEED: the statements are not yours to turn. If you find one false, say at which input.
  Laid BY PROGRAM, IN A SANDBOX (cutbox-rows.mjs): the forced cells as the released guide's own fill.sh prints them over the translation cdcd843b2be144ee… (all of the seat's roots in one cut). By AI agents, Wed Nov 11 2026. No macro, syntax, notation, axiom, sorry.
-/
import Derived.Test.YtmbjedojknmgcaaDoorChecked
import GoSem.Claim
import GoSem.ClaimJoined
import GoSem.ClaimMapViews
import Derived.JoinedTies
import Derived.KernelRfl
namespace Go.Proofs.YtmbjedojknmgcaaDoor
/- THE CELL 'sum', in the pinned program and in every row, IS THE sha256 OF THE DUMP (.gsa) THAT YtmbjedojknmgcaaDoorProg.lean LOADS. Nothing in Lean hashes anything: it is a label: what it is worth is what the hold of that sum in a sandbox is worth. -/
noncomputable def Tryd.pinned : Pinned := { name := "ytmbjedojknmgcaadoor", sum := "cdcd843b2be144eedfd3360214f76f87398a75a286c0c9ddd59ec302e3c65836", checked := Tryd.checked }
namespace Rows
def none {H : Type} : Left H := { results := [], args := [] }

/- WHAT THE LISTED PACKAGE-LEVEL VARIABLES READ AS WHEN THE CALL BEGINS. Each datum BY PROGRAM (the guide's laid-datum.mjs) off the statement by which the dump's own 'gosem.cut.vars' lays the variable. In a bare row this is a premise. The card (YtmbjedojknmgcaaDoorCards.lean) ties it to the program's text. -/
def laid_math_bits_deBruijn32tab {H : Type} : DataW H := .agg [.lit (.int .u8 0), .lit (.int .u8 1), .lit (.int .u8 28), .lit (.int .u8 2), .lit (.int .u8 29), .lit (.int .u8 14), .lit (.int .u8 24), .lit (.int .u8 3), .lit (.int .u8 30), .lit (.int .u8 22), .lit (.int .u8 20), .lit (.int .u8 15), .lit (.int .u8 25), .lit (.int .u8 17), .lit (.int .u8 4), .lit (.int .u8 8), .lit (.int .u8 31), .lit (.int .u8 27), .lit (.int .u8 13), .lit (.int .u8 23), .lit (.int .u8 21), .lit (.int .u8 19), .lit (.int .u8 16), .lit (.int .u8 7), .lit (.int .u8 26), .lit (.int .u8 12), .lit (.int .u8 18), .lit (.int .u8 6), .lit (.int .u8 11), .lit (.int .u8 5), .lit (.int .u8 10), .lit (.int .u8 9)]
def laid_math_bits_deBruijn64tab {H : Type} : DataW H := .agg [.lit (.int .u8 0), .lit (.int .u8 1), .lit (.int .u8 56), .lit (.int .u8 2), .lit (.int .u8 57), .lit (.int .u8 49), .lit (.int .u8 28), .lit (.int .u8 3), .lit (.int .u8 61), .lit (.int .u8 58), .lit (.int .u8 42), .lit (.int .u8 50), .lit (.int .u8 38), .lit (.int .u8 29), .lit (.int .u8 17), .lit (.int .u8 4), .lit (.int .u8 62), .lit (.int .u8 47), .lit (.int .u8 59), .lit (.int .u8 36), .lit (.int .u8 45), .lit (.int .u8 43), .lit (.int .u8 51), .lit (.int .u8 22), .lit (.int .u8 53), .lit (.int .u8 39), .lit (.int .u8 33), .lit (.int .u8 30), .lit (.int .u8 24), .lit (.int .u8 18), .lit (.int .u8 12), .lit (.int .u8 5), .lit (.int .u8 63), .lit (.int .u8 55), .lit (.int .u8 48), .lit (.int .u8 27), .lit (.int .u8 60), .lit (.int .u8 41), .lit (.int .u8 37), .lit (.int .u8 16), .lit (.int .u8 46), .lit (.int .u8 35), .lit (.int .u8 44), .lit (.int .u8 21), .lit (.int .u8 52), .lit (.int .u8 32), .lit (.int .u8 23), .lit (.int .u8 11), .lit (.int .u8 54), .lit (.int .u8 26), .lit (.int .u8 40), .lit (.int .u8 15), .lit (.int .u8 34), .lit (.int .u8 20), .lit (.int .u8 31), .lit (.int .u8 10), .lit (.int .u8 25), .lit (.int .u8 14), .lit (.int .u8 19), .lit (.int .u8 9), .lit (.int .u8 13), .lit (.int .u8 8), .lit (.int .u8 7), .lit (.int .u8 6)]
def laid_internal_strconv_uint64pow10 {H : Type} : DataW H := .agg [.lit (.int .u64 1), .lit (.int .u64 10), .lit (.int .u64 100), .lit (.int .u64 1000), .lit (.int .u64 10000), .lit (.int .u64 100000), .lit (.int .u64 1000000), .lit (.int .u64 10000000), .lit (.int .u64 100000000), .lit (.int .u64 1000000000), .lit (.int .u64 10000000000), .lit (.int .u64 100000000000), .lit (.int .u64 1000000000000), .lit (.int .u64 10000000000000), .lit (.int .u64 100000000000000), .lit (.int .u64 1000000000000000), .lit (.int .u64 10000000000000000), .lit (.int .u64 100000000000000000), .lit (.int .u64 1000000000000000000), .lit (.int .u64 10000000000000000000)]
def laid_debugger_isa_names {H : Type} : DataW H := .agg [.lit (.string [110, 111, 112]), .lit (.string [98, 114, 101, 97, 107]), .lit (.string [99, 111, 110, 115, 116]), .lit (.string [112, 111, 111, 108]), .lit (.string [109, 111, 118, 101]), .lit (.string [97, 100, 100]), .lit (.string [115, 117, 98]), .lit (.string [109, 117, 108]), .lit (.string [100, 105, 118]), .lit (.string [109, 111, 100]), .lit (.string [97, 110, 100]), .lit (.string [111, 114]), .lit (.string [120, 111, 114]), .lit (.string [108, 101, 115, 115]), .lit (.string [108, 101, 115, 115, 101, 113]), .lit (.string [101, 113, 117, 97, 108]), .lit (.string [110, 111, 116, 101, 113, 117, 97, 108]), .lit (.string [97, 100, 100, 105, 109, 109]), .lit (.string [108, 111, 97, 100]), .lit (.string [115, 116, 111, 114, 101]), .lit (.string [106, 117, 109, 112]), .lit (.string [122, 101, 114, 111]), .lit (.string [99, 97, 108, 108]), .lit (.string [114, 101, 116, 117, 114, 110]), .lit (.string [112, 114, 105, 110, 116])]

/-- 'debuggerlaw16.IsaWords': WHATEVER THE INPUT: true; the input reads as it did. -/
def isaWordsSpec : ChangeSpec := { name := "isaWords", fn := fun _ => fun
  | [d1, d2] => { results := [.lit (.bool true)], args := [d1, d2] }
  | _ => none }
def isaWordsRow : OpenClaim := { program := "ytmbjedojknmgcaadoor", sum := "cdcd843b2be144eedfd3360214f76f87398a75a286c0c9ddd59ec302e3c65836", func := "debugger/debuggerlaw16.IsaWords", spec := "isaWords", unfollowed := true, recurses := true, named := ["debugger/isa.names", "internal/strconv.uint64pow10", "math/bits.deBruijn32tab", "math/bits.deBruijn64tab"], apart := false, laid := [("math/bits.deBruijn32tab", laid_math_bits_deBruijn32tab), ("math/bits.deBruijn64tab", laid_math_bits_deBruijn64tab), ("internal/strconv.uint64pow10", laid_internal_strconv_uint64pow10), ("debugger/isa.names", laid_debugger_isa_names)] }
def IsaWordsSaid : Prop := isaWordsRow.holds Tryd.pinned (OpenSpec.ofChange isaWordsSpec)

/-- ITS FALSE NEIGHBOUR: 'it returns false'. Refute it at one input. -/
def isaWordsWrong : ChangeSpec := { name := "isaWords", fn := fun _ => fun
  | [d1, d2] => { results := [.lit (.bool false)], args := [d1, d2] }
  | _ => none }
def IsaWordsWrongFalsely : Prop := isaWordsRow.holds Tryd.pinned (OpenSpec.ofChange isaWordsWrong)

/-- 'debuggerlaw16.IsaBack': WHATEVER THE INPUT: true; the input reads as it did. -/
def isaBackSpec : ChangeSpec := { name := "isaBack", fn := fun _ => fun
  | [d1, d2] => { results := [.lit (.bool true)], args := [d1, d2] }
  | _ => none }
def isaBackRow : OpenClaim := { program := "ytmbjedojknmgcaadoor", sum := "cdcd843b2be144eedfd3360214f76f87398a75a286c0c9ddd59ec302e3c65836", func := "debugger/debuggerlaw16.IsaBack", spec := "isaBack", unfollowed := true, recurses := true, named := ["debugger/isa.names", "internal/strconv.uint64pow10", "math/bits.deBruijn32tab", "math/bits.deBruijn64tab"], apart := false, laid := [("math/bits.deBruijn32tab", laid_math_bits_deBruijn32tab), ("math/bits.deBruijn64tab", laid_math_bits_deBruijn64tab), ("internal/strconv.uint64pow10", laid_internal_strconv_uint64pow10), ("debugger/isa.names", laid_debugger_isa_names)] }
def IsaBackSaid : Prop := isaBackRow.holds Tryd.pinned (OpenSpec.ofChange isaBackSpec)

/-- ITS FALSE NEIGHBOUR: 'it returns false'. Refute it at one input. -/
def isaBackWrong : ChangeSpec := { name := "isaBack", fn := fun _ => fun
  | [d1, d2] => { results := [.lit (.bool false)], args := [d1, d2] }
  | _ => none }
def IsaBackWrongFalsely : Prop := isaBackRow.holds Tryd.pinned (OpenSpec.ofChange isaBackWrong)

/-- 'debuggerlaw16.IsaExecutes': WHATEVER THE INPUT: true; the input reads as it did. -/
def isaExecutesSpec : ChangeSpec := { name := "isaExecutes", fn := fun _ => fun
  | [d1, d2, d3] => { results := [.lit (.bool true)], args := [d1, d2, d3] }
  | _ => none }
def isaExecutesRow : OpenClaim := { program := "ytmbjedojknmgcaadoor", sum := "cdcd843b2be144eedfd3360214f76f87398a75a286c0c9ddd59ec302e3c65836", func := "debugger/debuggerlaw16.IsaExecutes", spec := "isaExecutes", unfollowed := true, recurses := true, named := ["debugger/isa.names", "internal/strconv.uint64pow10", "math/bits.deBruijn32tab", "math/bits.deBruijn64tab"], apart := false, laid := [("math/bits.deBruijn32tab", laid_math_bits_deBruijn32tab), ("math/bits.deBruijn64tab", laid_math_bits_deBruijn64tab), ("internal/strconv.uint64pow10", laid_internal_strconv_uint64pow10), ("debugger/isa.names", laid_debugger_isa_names)] }
def IsaExecutesSaid : Prop := isaExecutesRow.holds Tryd.pinned (OpenSpec.ofChange isaExecutesSpec)

/-- ITS FALSE NEIGHBOUR: 'it returns false'. Refute it at one input. -/
def isaExecutesWrong : ChangeSpec := { name := "isaExecutes", fn := fun _ => fun
  | [d1, d2, d3] => { results := [.lit (.bool false)], args := [d1, d2, d3] }
  | _ => none }
def IsaExecutesWrongFalsely : Prop := isaExecutesRow.holds Tryd.pinned (OpenSpec.ofChange isaExecutesWrong)

/-- 'debuggerlaw16.IsaRuns': WHATEVER THE INPUT: true; the input reads as it did. -/
def isaRunsSpec : ChangeSpec := { name := "isaRuns", fn := fun _ => fun
  | [d1, d2, d3, d4, d5, d6] => { results := [.lit (.bool true)], args := [d1, d2, d3, d4, d5, d6] }
  | _ => none }
def isaRunsRow : OpenClaim := { program := "ytmbjedojknmgcaadoor", sum := "cdcd843b2be144eedfd3360214f76f87398a75a286c0c9ddd59ec302e3c65836", func := "debugger/debuggerlaw16.IsaRuns", spec := "isaRuns", unfollowed := true, recurses := true, named := ["debugger/isa.names", "internal/strconv.uint64pow10", "math/bits.deBruijn32tab", "math/bits.deBruijn64tab"], apart := false, laid := [("math/bits.deBruijn32tab", laid_math_bits_deBruijn32tab), ("math/bits.deBruijn64tab", laid_math_bits_deBruijn64tab), ("internal/strconv.uint64pow10", laid_internal_strconv_uint64pow10), ("debugger/isa.names", laid_debugger_isa_names)] }
def IsaRunsSaid : Prop := isaRunsRow.holds Tryd.pinned (OpenSpec.ofChange isaRunsSpec)

/-- ITS FALSE NEIGHBOUR: 'it returns false'. Refute it at one input. -/
def isaRunsWrong : ChangeSpec := { name := "isaRuns", fn := fun _ => fun
  | [d1, d2, d3, d4, d5, d6] => { results := [.lit (.bool false)], args := [d1, d2, d3, d4, d5, d6] }
  | _ => none }
def IsaRunsWrongFalsely : Prop := isaRunsRow.holds Tryd.pinned (OpenSpec.ofChange isaRunsWrong)

/-- 'debuggerlaw16.IsaBinary': WHATEVER THE INPUT: true; the input reads as it did. -/
def isaBinarySpec : ChangeSpec := { name := "isaBinary", fn := fun _ => fun
  | [d1, d2, d3, d4] => { results := [.lit (.bool true)], args := [d1, d2, d3, d4] }
  | _ => none }
def isaBinaryRow : OpenClaim := { program := "ytmbjedojknmgcaadoor", sum := "cdcd843b2be144eedfd3360214f76f87398a75a286c0c9ddd59ec302e3c65836", func := "debugger/debuggerlaw16.IsaBinary", spec := "isaBinary", unfollowed := true, recurses := true, named := ["debugger/isa.names", "internal/strconv.uint64pow10", "math/bits.deBruijn32tab", "math/bits.deBruijn64tab"], apart := false, laid := [("math/bits.deBruijn32tab", laid_math_bits_deBruijn32tab), ("math/bits.deBruijn64tab", laid_math_bits_deBruijn64tab), ("internal/strconv.uint64pow10", laid_internal_strconv_uint64pow10), ("debugger/isa.names", laid_debugger_isa_names)] }
def IsaBinarySaid : Prop := isaBinaryRow.holds Tryd.pinned (OpenSpec.ofChange isaBinarySpec)

/-- ITS FALSE NEIGHBOUR: 'it returns false'. Refute it at one input. -/
def isaBinaryWrong : ChangeSpec := { name := "isaBinary", fn := fun _ => fun
  | [d1, d2, d3, d4] => { results := [.lit (.bool false)], args := [d1, d2, d3, d4] }
  | _ => none }
def IsaBinaryWrongFalsely : Prop := isaBinaryRow.holds Tryd.pinned (OpenSpec.ofChange isaBinaryWrong)

/-- 'debuggerlaw16.IsaCalls': WHATEVER THE INPUT: true; the input reads as it did. -/
def isaCallsSpec : ChangeSpec := { name := "isaCalls", fn := fun _ => fun
  | [d1, d2, d3] => { results := [.lit (.bool true)], args := [d1, d2, d3] }
  | _ => none }
def isaCallsRow : OpenClaim := { program := "ytmbjedojknmgcaadoor", sum := "cdcd843b2be144eedfd3360214f76f87398a75a286c0c9ddd59ec302e3c65836", func := "debugger/debuggerlaw16.IsaCalls", spec := "isaCalls", unfollowed := true, recurses := true, named := ["debugger/isa.names", "internal/strconv.uint64pow10", "math/bits.deBruijn32tab", "math/bits.deBruijn64tab"], apart := false, laid := [("math/bits.deBruijn32tab", laid_math_bits_deBruijn32tab), ("math/bits.deBruijn64tab", laid_math_bits_deBruijn64tab), ("internal/strconv.uint64pow10", laid_internal_strconv_uint64pow10), ("debugger/isa.names", laid_debugger_isa_names)] }
def IsaCallsSaid : Prop := isaCallsRow.holds Tryd.pinned (OpenSpec.ofChange isaCallsSpec)

/-- ITS FALSE NEIGHBOUR: 'it returns false'. Refute it at one input. -/
def isaCallsWrong : ChangeSpec := { name := "isaCalls", fn := fun _ => fun
  | [d1, d2, d3] => { results := [.lit (.bool false)], args := [d1, d2, d3] }
  | _ => none }
def IsaCallsWrongFalsely : Prop := isaCallsRow.holds Tryd.pinned (OpenSpec.ofChange isaCallsWrong)

/-- 'debuggerlaw16.IsaLoop': WHATEVER THE INPUT: true; the input reads as it did. -/
def isaLoopSpec : ChangeSpec := { name := "isaLoop", fn := fun _ => fun
  | [d] => { results := [.lit (.bool true)], args := [d] }
  | _ => none }
def isaLoopRow : OpenClaim := { program := "ytmbjedojknmgcaadoor", sum := "cdcd843b2be144eedfd3360214f76f87398a75a286c0c9ddd59ec302e3c65836", func := "debugger/debuggerlaw16.IsaLoop", spec := "isaLoop", unfollowed := true, recurses := true, named := ["debugger/isa.names", "internal/strconv.uint64pow10", "math/bits.deBruijn32tab", "math/bits.deBruijn64tab"], apart := false, laid := [("math/bits.deBruijn32tab", laid_math_bits_deBruijn32tab), ("math/bits.deBruijn64tab", laid_math_bits_deBruijn64tab), ("internal/strconv.uint64pow10", laid_internal_strconv_uint64pow10), ("debugger/isa.names", laid_debugger_isa_names)] }
def IsaLoopSaid : Prop := isaLoopRow.holds Tryd.pinned (OpenSpec.ofChange isaLoopSpec)

/-- ITS FALSE NEIGHBOUR: 'it returns false'. Refute it at one input. -/
def isaLoopWrong : ChangeSpec := { name := "isaLoop", fn := fun _ => fun
  | [d] => { results := [.lit (.bool false)], args := [d] }
  | _ => none }
def IsaLoopWrongFalsely : Prop := isaLoopRow.holds Tryd.pinned (OpenSpec.ofChange isaLoopWrong)

/- THE SECOND FORM. 'bulk': how many values and letters a reading holds, each counted each time it is reached (what is shared counts as often as it is met; a slice's spare places count too). A statement '..UptoSaid' is the law's where the arguments, and the package variables that the reading takes, are together of bulk at most 1048576: NARROWER than '..Said'. Prove '..Said' where nothing that the law and all that it calls make is longer than what came in: it says more and counts as full. Else prove '..UptoSaid'. A law counts once. -/
mutual
def uptoBulk {H : Type} : DataW H → Nat
  | .lit (.string bytes) => bytes.length + 1
  | .lit _ => 1
  | .nil => 1
  | .ptr d => uptoBulk d + 1
  | .slice elems spare => uptoBulkAll elems + uptoBulkAll spare + 1
  | .agg parts => uptoBulkAll parts + 1
  | .iface _ d => uptoBulk d + 1
  | .map entries => uptoBulkEntries entries + 1
  | .held _ => 1
def uptoBulkAll {H : Type} : List (DataW H) → Nat
  | [] => 0
  | d :: r => uptoBulk d + uptoBulkAll r
def uptoBulkEntries {H : Type} : List (Lit × DataW H) → Nat
  | [] => 0
  | x :: r => uptoBulkEntry x + uptoBulkEntries r
def uptoBulkEntry {H : Type} : Lit × DataW H → Nat
  | (.string bytes, d) => bytes.length + uptoBulk d + 1
  | (_, d) => uptoBulk d + 1
 end
def uptoSmall : (H : Type) → List (DataW H) → Bool := fun _ ds => decide (uptoBulkAll ds ≤ 1048576)
def OpenSpec.upto (s : _root_.Go.ChangeSpec) : _root_.Go.OpenSpec := { _root_.Go.OpenSpec.ofChange s with cond := some uptoSmall }

/-- 'debuggerlaw16.IsaWords', WHERE WHAT IT READS IS OF BULK AT MOST 1048576: true; the input reads as it did. -/
def isaWordsUptoRow : OpenClaim := { program := "ytmbjedojknmgcaadoor", sum := "cdcd843b2be144eedfd3360214f76f87398a75a286c0c9ddd59ec302e3c65836", func := "debugger/debuggerlaw16.IsaWords", spec := "isaWords", unfollowed := true, recurses := true, named := ["debugger/isa.names", "internal/strconv.uint64pow10", "math/bits.deBruijn32tab", "math/bits.deBruijn64tab"], apart := false, laid := [("math/bits.deBruijn32tab", laid_math_bits_deBruijn32tab), ("math/bits.deBruijn64tab", laid_math_bits_deBruijn64tab), ("internal/strconv.uint64pow10", laid_internal_strconv_uint64pow10), ("debugger/isa.names", laid_debugger_isa_names)], narrowed := true }
def IsaWordsUptoSaid : Prop := isaWordsUptoRow.holds Tryd.pinned (OpenSpec.upto isaWordsSpec)

/-- 'debuggerlaw16.IsaBack', WHERE WHAT IT READS IS OF BULK AT MOST 1048576: true; the input reads as it did. -/
def isaBackUptoRow : OpenClaim := { program := "ytmbjedojknmgcaadoor", sum := "cdcd843b2be144eedfd3360214f76f87398a75a286c0c9ddd59ec302e3c65836", func := "debugger/debuggerlaw16.IsaBack", spec := "isaBack", unfollowed := true, recurses := true, named := ["debugger/isa.names", "internal/strconv.uint64pow10", "math/bits.deBruijn32tab", "math/bits.deBruijn64tab"], apart := false, laid := [("math/bits.deBruijn32tab", laid_math_bits_deBruijn32tab), ("math/bits.deBruijn64tab", laid_math_bits_deBruijn64tab), ("internal/strconv.uint64pow10", laid_internal_strconv_uint64pow10), ("debugger/isa.names", laid_debugger_isa_names)], narrowed := true }
def IsaBackUptoSaid : Prop := isaBackUptoRow.holds Tryd.pinned (OpenSpec.upto isaBackSpec)

/-- 'debuggerlaw16.IsaExecutes', WHERE WHAT IT READS IS OF BULK AT MOST 1048576: true; the input reads as it did. -/
def isaExecutesUptoRow : OpenClaim := { program := "ytmbjedojknmgcaadoor", sum := "cdcd843b2be144eedfd3360214f76f87398a75a286c0c9ddd59ec302e3c65836", func := "debugger/debuggerlaw16.IsaExecutes", spec := "isaExecutes", unfollowed := true, recurses := true, named := ["debugger/isa.names", "internal/strconv.uint64pow10", "math/bits.deBruijn32tab", "math/bits.deBruijn64tab"], apart := false, laid := [("math/bits.deBruijn32tab", laid_math_bits_deBruijn32tab), ("math/bits.deBruijn64tab", laid_math_bits_deBruijn64tab), ("internal/strconv.uint64pow10", laid_internal_strconv_uint64pow10), ("debugger/isa.names", laid_debugger_isa_names)], narrowed := true }
def IsaExecutesUptoSaid : Prop := isaExecutesUptoRow.holds Tryd.pinned (OpenSpec.upto isaExecutesSpec)

/-- 'debuggerlaw16.IsaRuns', WHERE WHAT IT READS IS OF BULK AT MOST 1048576: true; the input reads as it did. -/
def isaRunsUptoRow : OpenClaim := { program := "ytmbjedojknmgcaadoor", sum := "cdcd843b2be144eedfd3360214f76f87398a75a286c0c9ddd59ec302e3c65836", func := "debugger/debuggerlaw16.IsaRuns", spec := "isaRuns", unfollowed := true, recurses := true, named := ["debugger/isa.names", "internal/strconv.uint64pow10", "math/bits.deBruijn32tab", "math/bits.deBruijn64tab"], apart := false, laid := [("math/bits.deBruijn32tab", laid_math_bits_deBruijn32tab), ("math/bits.deBruijn64tab", laid_math_bits_deBruijn64tab), ("internal/strconv.uint64pow10", laid_internal_strconv_uint64pow10), ("debugger/isa.names", laid_debugger_isa_names)], narrowed := true }
def IsaRunsUptoSaid : Prop := isaRunsUptoRow.holds Tryd.pinned (OpenSpec.upto isaRunsSpec)

/-- 'debuggerlaw16.IsaBinary', WHERE WHAT IT READS IS OF BULK AT MOST 1048576: true; the input reads as it did. -/
def isaBinaryUptoRow : OpenClaim := { program := "ytmbjedojknmgcaadoor", sum := "cdcd843b2be144eedfd3360214f76f87398a75a286c0c9ddd59ec302e3c65836", func := "debugger/debuggerlaw16.IsaBinary", spec := "isaBinary", unfollowed := true, recurses := true, named := ["debugger/isa.names", "internal/strconv.uint64pow10", "math/bits.deBruijn32tab", "math/bits.deBruijn64tab"], apart := false, laid := [("math/bits.deBruijn32tab", laid_math_bits_deBruijn32tab), ("math/bits.deBruijn64tab", laid_math_bits_deBruijn64tab), ("internal/strconv.uint64pow10", laid_internal_strconv_uint64pow10), ("debugger/isa.names", laid_debugger_isa_names)], narrowed := true }
def IsaBinaryUptoSaid : Prop := isaBinaryUptoRow.holds Tryd.pinned (OpenSpec.upto isaBinarySpec)

/-- 'debuggerlaw16.IsaCalls', WHERE WHAT IT READS IS OF BULK AT MOST 1048576: true; the input reads as it did. -/
def isaCallsUptoRow : OpenClaim := { program := "ytmbjedojknmgcaadoor", sum := "cdcd843b2be144eedfd3360214f76f87398a75a286c0c9ddd59ec302e3c65836", func := "debugger/debuggerlaw16.IsaCalls", spec := "isaCalls", unfollowed := true, recurses := true, named := ["debugger/isa.names", "internal/strconv.uint64pow10", "math/bits.deBruijn32tab", "math/bits.deBruijn64tab"], apart := false, laid := [("math/bits.deBruijn32tab", laid_math_bits_deBruijn32tab), ("math/bits.deBruijn64tab", laid_math_bits_deBruijn64tab), ("internal/strconv.uint64pow10", laid_internal_strconv_uint64pow10), ("debugger/isa.names", laid_debugger_isa_names)], narrowed := true }
def IsaCallsUptoSaid : Prop := isaCallsUptoRow.holds Tryd.pinned (OpenSpec.upto isaCallsSpec)

/-- 'debuggerlaw16.IsaLoop', WHERE WHAT IT READS IS OF BULK AT MOST 1048576: true; the input reads as it did. -/
def isaLoopUptoRow : OpenClaim := { program := "ytmbjedojknmgcaadoor", sum := "cdcd843b2be144eedfd3360214f76f87398a75a286c0c9ddd59ec302e3c65836", func := "debugger/debuggerlaw16.IsaLoop", spec := "isaLoop", unfollowed := true, recurses := true, named := ["debugger/isa.names", "internal/strconv.uint64pow10", "math/bits.deBruijn32tab", "math/bits.deBruijn64tab"], apart := false, laid := [("math/bits.deBruijn32tab", laid_math_bits_deBruijn32tab), ("math/bits.deBruijn64tab", laid_math_bits_deBruijn64tab), ("internal/strconv.uint64pow10", laid_internal_strconv_uint64pow10), ("debugger/isa.names", laid_debugger_isa_names)], narrowed := true }
def IsaLoopUptoSaid : Prop := isaLoopUptoRow.holds Tryd.pinned (OpenSpec.upto isaLoopSpec)

end Rows
end Go.Proofs.YtmbjedojknmgcaaDoor
