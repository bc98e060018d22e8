/-
  No cell of these rows narrows 'for every input' (looked for: loops, veiled, ifaces, maps, wideKeys, modest, calm, conditions, laid).
  DERIVED. THE GIVEN ROWS OF THIS SEAT. 2 by the template 'for every input the law returns true; each argument reads behind the call as it read before'; 0 by the template 'total and deterministic' (their statements: YtmpghkcdejikiaaTotals.lean).
  GIVEN WITH THE SEED: the statements are not yours to turn. If you find one false, say at which input.
  Laid BY PROGRAM, IN A SANDBOX (cutbox-rows.mjs): the forced cells as the released guide's own fill.sh prints them over the translation 222f7b31b7b15f0e… (all of the seat's roots in one cut). By AI agents, Wed Nov 11 2026. No macro, syntax, notation, axiom, sorry.
-/
import Derived.Test.YtmpghkcdejikiaaChecked
import GoSem.Claim
import GoSem.ClaimJoined
import GoSem.ClaimMapViews
import Derived.JoinedTies
import Derived.KernelRfl
namespace Go.Proofs.Ytmpghkcdejikiaa
/- THE CELL 'sum', in the pinned program and in every row, IS THE sha256 OF THE DUMP (.gsa) THAT YtmpghkcdejikiaaProg.lean LOADS. Nothing in Lean hashes anything: it is a label: what it is worth is what the hold of that sum in a sandbox is worth. -/
noncomputable def Try.pinned : Pinned := { name := "ytmpghkcdejikiaa", sum := "222f7b31b7b15f0ec3039a0d182247d5de2dfc0cf98aa340eb976de89d551abd", checked := Try.checked }
namespace Rows
def none {H : Type} : Left H := { results := [], args := [] }

/-- 'debuggerlaw28.FramesRoutes': WHATEVER THE INPUT: true; the input reads as it did. -/
def framesRoutesSpec : ChangeSpec := { name := "framesRoutes", fn := fun _ => fun
  | [d1, d2, d3] => { results := [.lit (.bool true)], args := [d1, d2, d3] }
  | _ => none }
def framesRoutesRow : OpenClaim := { program := "ytmpghkcdejikiaa", sum := "222f7b31b7b15f0ec3039a0d182247d5de2dfc0cf98aa340eb976de89d551abd", func := "debugger/debuggerlaw28.FramesRoutes", spec := "framesRoutes", apart := false }
def FramesRoutesSaid : Prop := framesRoutesRow.holds Try.pinned (OpenSpec.ofChange framesRoutesSpec)

/-- ITS FALSE NEIGHBOUR: 'it returns false'. Refute it at one input. -/
def framesRoutesWrong : ChangeSpec := { name := "framesRoutes", fn := fun _ => fun
  | [d1, d2, d3] => { results := [.lit (.bool false)], args := [d1, d2, d3] }
  | _ => none }
def FramesRoutesWrongFalsely : Prop := framesRoutesRow.holds Try.pinned (OpenSpec.ofChange framesRoutesWrong)

/-- 'debuggerlaw28.FramesWays': WHATEVER THE INPUT: true; the input reads as it did. -/
def framesWaysSpec : ChangeSpec := { name := "framesWays", fn := fun _ => fun
  | [d1, d2, d3] => { results := [.lit (.bool true)], args := [d1, d2, d3] }
  | _ => none }
def framesWaysRow : OpenClaim := { program := "ytmpghkcdejikiaa", sum := "222f7b31b7b15f0ec3039a0d182247d5de2dfc0cf98aa340eb976de89d551abd", func := "debugger/debuggerlaw28.FramesWays", spec := "framesWays", apart := false }
def FramesWaysSaid : Prop := framesWaysRow.holds Try.pinned (OpenSpec.ofChange framesWaysSpec)

/-- ITS FALSE NEIGHBOUR: 'it returns false'. Refute it at one input. -/
def framesWaysWrong : ChangeSpec := { name := "framesWays", fn := fun _ => fun
  | [d1, d2, d3] => { results := [.lit (.bool false)], args := [d1, d2, d3] }
  | _ => none }
def FramesWaysWrongFalsely : Prop := framesWaysRow.holds Try.pinned (OpenSpec.ofChange framesWaysWrong)

/- THE SECOND FORM. 'bulk': how many values and letters a reading holds, each counted each time it is reached (what is shared counts as often as it is met; a slice's spare places count too). A statement '..UptoSaid' is the law's where the arguments, and the package variables that the reading takes, are together of bulk at most 1048576: NARROWER than '..Said'. Prove '..Said' where nothing that the law and all that it calls make is longer than what came in: it says more and counts as full. Else prove '..UptoSaid'. A law counts once. -/
mutual
def uptoBulk {H : Type} : DataW H → Nat
  | .lit (.string bytes) => bytes.length + 1
  | .lit _ => 1
  | .nil => 1
  | .ptr d => uptoBulk d + 1
  | .slice elems spare => uptoBulkAll elems + uptoBulkAll spare + 1
  | .agg parts => uptoBulkAll parts + 1
  | .iface _ d => uptoBulk d + 1
  | .map entries => uptoBulkEntries entries + 1
  | .held _ => 1
def uptoBulkAll {H : Type} : List (DataW H) → Nat
  | [] => 0
  | d :: r => uptoBulk d + uptoBulkAll r
def uptoBulkEntries {H : Type} : List (Lit × DataW H) → Nat
  | [] => 0
  | x :: r => uptoBulkEntry x + uptoBulkEntries r
def uptoBulkEntry {H : Type} : Lit × DataW H → Nat
  | (.string bytes, d) => bytes.length + uptoBulk d + 1
  | (_, d) => uptoBulk d + 1
 end
def uptoSmall : (H : Type) → List (DataW H) → Bool := fun _ ds => decide (uptoBulkAll ds ≤ 1048576)
def OpenSpec.upto (s : _root_.Go.ChangeSpec) : _root_.Go.OpenSpec := { _root_.Go.OpenSpec.ofChange s with cond := some uptoSmall }

/-- 'debuggerlaw28.FramesRoutes', WHERE WHAT IT READS IS OF BULK AT MOST 1048576: true; the input reads as it did. -/
def framesRoutesUptoRow : OpenClaim := { program := "ytmpghkcdejikiaa", sum := "222f7b31b7b15f0ec3039a0d182247d5de2dfc0cf98aa340eb976de89d551abd", func := "debugger/debuggerlaw28.FramesRoutes", spec := "framesRoutes", apart := false, narrowed := true }
def FramesRoutesUptoSaid : Prop := framesRoutesUptoRow.holds Try.pinned (OpenSpec.upto framesRoutesSpec)

/-- 'debuggerlaw28.FramesWays', WHERE WHAT IT READS IS OF BULK AT MOST 1048576: true; the input reads as it did. -/
def framesWaysUptoRow : OpenClaim := { program := "ytmpghkcdejikiaa", sum := "222f7b31b7b15f0ec3039a0d182247d5de2dfc0cf98aa340eb976de89d551abd", func := "debugger/debuggerlaw28.FramesWays", spec := "framesWays", apart := false, narrowed := true }
def FramesWaysUptoSaid : Prop := framesWaysUptoRow.holds Try.pinned (OpenSpec.upto framesWaysSpec)

end Rows
end Go.Proofs.Ytmpghkcdejikiaa
