/- A run of the law's sanity check, computed in the kernel: debuggerref17.Emit. No conditions: definitions and lemmas only. -/
import Derived.Test.YtlnijnpmfnlegaaGreatB7
namespace Go.Proofs.Cl
open Go.AM Go.AX
set_option maxRecDepth 100000 in
theorem k_7_Emit:Known [c_7_Emit]:=known_cons (memo:=[c_5_CheckCode,c_6_Allocate]) (known_app k_5_CheckCode (known_app k_6_Allocate (known_nil))) known_nil (by decide +kernel)
end Go.Proofs.Cl
