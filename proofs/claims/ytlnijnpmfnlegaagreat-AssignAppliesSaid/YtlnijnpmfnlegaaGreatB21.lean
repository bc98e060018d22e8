/- A run of the law's sanity check, computed in the kernel: debuggerref23.Load, debuggerstop.Of. No conditions: definitions and lemmas only. -/
import Derived.Test.YtlnijnpmfnlegaaGreatB20
namespace Go.Proofs.Cl
open Go.AM Go.AX
set_option maxRecDepth 100000 in
theorem k_35_Load:Known [c_35_Load]:=known_cons (memo:=[c_33_Decode,c_34_Decode]) (known_app k_33_Decode (known_app k_34_Decode (known_nil))) known_nil (by decide +kernel)
set_option maxRecDepth 100000 in
theorem k_36_Of:Known [c_36_Of]:=known_cons (memo:=[c_30_Unit,c_32_Image,c_35_Load]) (known_app k_30_Unit (known_app k_32_Image (known_app k_35_Load (known_nil)))) known_nil (by decide +kernel)
end Go.Proofs.Cl
