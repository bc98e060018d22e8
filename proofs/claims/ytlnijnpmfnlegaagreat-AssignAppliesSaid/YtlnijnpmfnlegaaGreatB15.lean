/- A run of the law's sanity check, computed in the kernel: debuggerref10.Dead, debuggerref14.Tail, debuggerref13.Sink, debuggerref22.Optimise, debuggerref06.CheckCode, debuggerref15.Allocate. No conditions: definitions and lemmas only. -/
import Derived.Test.YtlnijnpmfnlegaaGreatB14
namespace Go.Proofs.Cl
open Go.AM Go.AX
set_option maxRecDepth 100000 in
theorem k_23_Dead:Known [c_23_Dead]:=known_cons (memo:=[c_21_CheckCode]) (known_app k_21_CheckCode (known_nil)) known_nil (by decide +kernel)
set_option maxRecDepth 100000 in
theorem k_24_Tail:Known [c_24_Tail]:=known_cons (memo:=[c_21_CheckCode]) (known_app k_21_CheckCode (known_nil)) known_nil (by decide +kernel)
set_option maxRecDepth 100000 in
theorem k_25_Sink:Known [c_25_Sink]:=known_cons (memo:=[c_21_CheckCode]) (known_app k_21_CheckCode (known_nil)) known_nil (by decide +kernel)
set_option maxRecDepth 100000 in
theorem k_26_Optimise:Known [c_26_Optimise]:=known_cons (memo:=[c_5_CheckCode,c_15_Inline,c_16_Fold,c_18_Merge,c_19_Fold,c_20_Dead,c_22_Unroll,c_23_Dead,c_24_Tail,c_25_Sink]) (known_app k_5_CheckCode (known_app k_15_Inline (known_app k_16_Fold (known_app k_18_Merge (known_app k_19_Fold (known_app k_20_Dead (known_app k_22_Unroll (known_app k_23_Dead (known_app k_24_Tail (known_app k_25_Sink (known_nil))))))))))) known_nil (by decide +kernel)
set_option maxRecDepth 100000 in
theorem k_27_CheckCode:Known [c_27_CheckCode]:=known_cons (memo:=[]) (known_nil) known_nil (by decide +kernel)
set_option maxRecDepth 100000 in
theorem k_28_Allocate:Known [c_28_Allocate]:=known_cons (memo:=[c_27_CheckCode]) (known_app k_27_CheckCode (known_nil)) known_nil (by decide +kernel)
end Go.Proofs.Cl
