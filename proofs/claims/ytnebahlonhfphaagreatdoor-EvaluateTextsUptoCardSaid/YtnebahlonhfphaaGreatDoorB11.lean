/- A run of the reference compiler on a fixed text, computed in the kernel: debuggerlaw31.awake. No conditions: definitions and lemmas only. -/
import Derived.Test.YtnebahlonhfphaaGreatDoorB10
namespace Go.Proofs.Cl
open Go.AM Go.AX
def v_awake:AV:=.bool true
abbrev c_awake:Nat × List AV × AV:=(8,[],v_awake)
set_option maxRecDepth 100000 in
theorem k_awake:Known [c_awake]:=known_cons (memo:=[c_of]) (known_app k_of (known_nil)) known_nil (by decide +kernel)
end Go.Proofs.Cl
