/- A run of the law's sanity check, computed in the kernel: debuggerref22.Image. No conditions: definitions and lemmas only. -/
import Derived.Test.YtlnijnpmfnlegaaGreatB9
namespace Go.Proofs.Cl
open Go.AM Go.AX
set_option maxRecDepth 100000 in
theorem k_10_Image:Known [c_10_Image]:=known_cons (memo:=[c_9_Encode]) (known_app k_9_Encode (known_nil)) known_nil (by decide +kernel)
end Go.Proofs.Cl
