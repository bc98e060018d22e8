/- A run of the law's sanity check, computed in the kernel: debuggerref22.Unit, debuggerref21.Encode. No conditions: definitions and lemmas only. -/
import Derived.Test.YtlnijnpmfnlegaaGreatB8
namespace Go.Proofs.Cl
open Go.AM Go.AX
set_option maxRecDepth 100000 in
theorem k_8_Unit:Known [c_8_Unit]:=known_cons (memo:=[c_1_Parse,c_2_Check,c_3_Lower,c_4_Optimise,c_7_Emit]) (known_app k_1_Parse (known_app k_2_Check (known_app k_3_Lower (known_app k_4_Optimise (known_app k_7_Emit (known_nil)))))) known_nil (by decide +kernel)
set_option maxRecDepth 100000 in
theorem k_9_Encode:Known [c_9_Encode]:=known_cons (memo:=[]) (known_nil) known_nil (by decide +kernel)
end Go.Proofs.Cl
