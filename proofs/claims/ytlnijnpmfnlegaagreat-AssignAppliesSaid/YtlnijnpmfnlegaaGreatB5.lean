/- A run of the law's sanity check, computed in the kernel: debuggerref04.Check, debuggerref07.Lower, debuggerref22.Optimise, debuggerref06.CheckCode, debuggerref15.Allocate. No conditions: definitions and lemmas only. -/
import Derived.Test.YtlnijnpmfnlegaaGreatB4
namespace Go.Proofs.Cl
open Go.AM Go.AX
set_option maxRecDepth 100000 in
theorem k_2_Check:Known [c_2_Check]:=known_cons (memo:=[]) (known_nil) known_nil (by decide +kernel)
set_option maxRecDepth 100000 in
theorem k_3_Lower:Known [c_3_Lower]:=known_cons (memo:=[]) (known_nil) known_nil (by decide +kernel)
set_option maxRecDepth 100000 in
theorem k_4_Optimise:Known [c_4_Optimise]:=known_cons (memo:=[]) (known_nil) known_nil (by decide +kernel)
set_option maxRecDepth 100000 in
theorem k_5_CheckCode:Known [c_5_CheckCode]:=known_cons (memo:=[]) (known_nil) known_nil (by decide +kernel)
set_option maxRecDepth 100000 in
theorem k_6_Allocate:Known [c_6_Allocate]:=known_cons (memo:=[c_5_CheckCode]) (known_app k_5_CheckCode (known_nil)) known_nil (by decide +kernel)
end Go.Proofs.Cl
