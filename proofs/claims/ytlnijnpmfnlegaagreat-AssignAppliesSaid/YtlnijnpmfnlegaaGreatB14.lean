/- A run of the law's sanity check, computed in the kernel: debuggerref06.CheckCode, debuggerref09.Merge, debuggerref08.Fold, debuggerref10.Dead, debuggerref12.Unroll. No conditions: definitions and lemmas only. -/
import Derived.Test.YtlnijnpmfnlegaaGreatB13
namespace Go.Proofs.Cl
open Go.AM Go.AX
set_option maxRecDepth 100000 in
theorem k_17_CheckCode:Known [c_17_CheckCode]:=known_cons (memo:=[]) (known_nil) known_nil (by decide +kernel)
set_option maxRecDepth 100000 in
theorem k_18_Merge:Known [c_18_Merge]:=known_cons (memo:=[c_17_CheckCode]) (known_app k_17_CheckCode (known_nil)) known_nil (by decide +kernel)
set_option maxRecDepth 100000 in
theorem k_19_Fold:Known [c_19_Fold]:=known_cons (memo:=[c_17_CheckCode]) (known_app k_17_CheckCode (known_nil)) known_nil (by decide +kernel)
set_option maxRecDepth 100000 in
theorem k_20_Dead:Known [c_20_Dead]:=known_cons (memo:=[c_17_CheckCode]) (known_app k_17_CheckCode (known_nil)) known_nil (by decide +kernel)
set_option maxRecDepth 100000 in
theorem k_21_CheckCode:Known [c_21_CheckCode]:=known_cons (memo:=[]) (known_nil) known_nil (by decide +kernel)
set_option maxRecDepth 100000 in
theorem k_22_Unroll:Known [c_22_Unroll]:=known_cons (memo:=[c_21_CheckCode]) (known_app k_21_CheckCode (known_nil)) known_nil (by decide +kernel)
end Go.Proofs.Cl
