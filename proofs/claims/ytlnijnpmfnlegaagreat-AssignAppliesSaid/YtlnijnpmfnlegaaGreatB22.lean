/- A run of the law's sanity check, computed in the kernel: debuggerlaw32.awake. No conditions: definitions and lemmas only. -/
import Derived.Test.YtlnijnpmfnlegaaGreatB21
namespace Go.Proofs.Cl
open Go.AM Go.AX
set_option maxRecDepth 100000 in
theorem k_37_awake:Known [c_37_awake]:=known_sp (memo:=[c_14_Of,c_36_Of]) (known_app k_14_Of (known_app k_36_Of (known_nil))) known_nil (by decide +kernel)
end Go.Proofs.Cl
