/- A run of the law's sanity check, computed in the kernel: debuggerref21.Encode. No conditions: definitions and lemmas only. -/
import Derived.Test.YtlnijnpmfnlegaaGreatB16
namespace Go.Proofs.Cl
open Go.AM Go.AX
set_option maxRecDepth 100000 in
theorem k_31_Encode:Known [c_31_Encode]:=known_cons (memo:=[]) (known_nil) known_nil (by decide +kernel)
end Go.Proofs.Cl
