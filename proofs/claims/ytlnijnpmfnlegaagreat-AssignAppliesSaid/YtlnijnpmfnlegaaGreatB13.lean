/- A run of the law's sanity check, computed in the kernel: debuggerref23.Load, debuggerstop.Of, debuggerref11.Inline, debuggerref08.Fold. No conditions: definitions and lemmas only. -/
import Derived.Test.YtlnijnpmfnlegaaGreatB12
namespace Go.Proofs.Cl
open Go.AM Go.AX
set_option maxRecDepth 100000 in
theorem k_13_Load:Known [c_13_Load]:=known_cons (memo:=[c_11_Decode,c_12_Decode]) (known_app k_11_Decode (known_app k_12_Decode (known_nil))) known_nil (by decide +kernel)
set_option maxRecDepth 100000 in
theorem k_14_Of:Known [c_14_Of]:=known_cons (memo:=[c_8_Unit,c_10_Image,c_13_Load]) (known_app k_8_Unit (known_app k_10_Image (known_app k_13_Load (known_nil)))) known_nil (by decide +kernel)
set_option maxRecDepth 100000 in
theorem k_15_Inline:Known [c_15_Inline]:=known_cons (memo:=[c_5_CheckCode]) (known_app k_5_CheckCode (known_nil)) known_nil (by decide +kernel)
set_option maxRecDepth 100000 in
theorem k_16_Fold:Known [c_16_Fold]:=known_cons (memo:=[c_5_CheckCode]) (known_app k_5_CheckCode (known_nil)) known_nil (by decide +kernel)
end Go.Proofs.Cl
