/- A run of the law's sanity check, computed in the kernel: debuggerref17.Emit, debuggerref22.Unit. No conditions: definitions and lemmas only. -/
import Derived.Test.YtlnijnpmfnlegaaGreatB15
namespace Go.Proofs.Cl
open Go.AM Go.AX
set_option maxRecDepth 100000 in
theorem k_29_Emit:Known [c_29_Emit]:=known_cons (memo:=[c_27_CheckCode,c_28_Allocate]) (known_app k_27_CheckCode (known_app k_28_Allocate (known_nil))) known_nil (by decide +kernel)
set_option maxRecDepth 100000 in
theorem k_30_Unit:Known [c_30_Unit]:=known_cons (memo:=[c_1_Parse,c_2_Check,c_3_Lower,c_26_Optimise,c_29_Emit]) (known_app k_1_Parse (known_app k_2_Check (known_app k_3_Lower (known_app k_26_Optimise (known_app k_29_Emit (known_nil)))))) known_nil (by decide +kernel)
end Go.Proofs.Cl
