/- A run of the law's sanity check, computed in the kernel: debuggerref02.Scan. No conditions: definitions and lemmas only. -/
import Derived.Test.YtlnijnpmfnlegaaGreatB5
namespace Go.Proofs.Cl
open Go.AM Go.AX
set_option maxRecDepth 100000 in
theorem k_0_Scan:Known [c_0_Scan]:=known_cons (memo:=[]) (known_nil) known_nil (by decide +kernel)
end Go.Proofs.Cl
