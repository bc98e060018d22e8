/- A run of the law's sanity check, computed in the kernel: debuggerref22.Image. No conditions: definitions and lemmas only. -/
import Derived.Test.YtlnijnpmfnlegaaGreatB17
namespace Go.Proofs.Cl
open Go.AM Go.AX
set_option maxRecDepth 100000 in
theorem k_32_Image:Known [c_32_Image]:=known_cons (memo:=[c_31_Encode]) (known_app k_31_Encode (known_nil)) known_nil (by decide +kernel)
end Go.Proofs.Cl
