/- A run of the law's sanity check, computed in the kernel: debuggerref03.Parse. No conditions: definitions and lemmas only. -/
import Derived.Test.YtlnijnpmfnlegaaGreatB6
namespace Go.Proofs.Cl
open Go.AM Go.AX
set_option maxRecDepth 100000 in
theorem k_1_Parse:Known [c_1_Parse]:=known_cons (memo:=[c_0_Scan]) (known_app k_0_Scan (known_nil)) known_nil (by decide +kernel)
end Go.Proofs.Cl
