/- A run of the reference compiler on a fixed text, computed in the kernel: debuggerref03.Parse. No conditions: definitions and lemmas only. -/
import Derived.Test.YtnebahlonhfphaaGreatDoorB3
namespace Go.Proofs.Cl
open Go.AM Go.AX
def v_parse:AV:=.tuple [.agg [.view 0 [] .nil,.view 4 [[.str [102],.int .i64 1,.view 1 [[.str [97]],[.str [98]]] .shared,.view 13 [[.int .i64 6,.int .i64 1,.int .i64 0,.str [],.str [],.int .i64 0,.int .i64 0,.view 0 [] .nil,.str [],.int .i64 0,.view 6 [[.int .i64 1,.int .i64 0,.int .i64 0,.str [97],.str [],.view 0 [] .nil]] .full,.view 0 [] .nil,.view 0 [] .nil],[.int .i64 10,.int .i64 1,.int .i64 0,.str [],.str [],.int .i64 0,.int .i64 0,.view 0 [] .nil,.str [],.int .i64 0,.view 0 [] .nil,.view 0 [] .nil,.view 0 [] .nil]] .shared]] .shared],.int .i64 0,.int .i64 0]
abbrev c_parse:Nat × List AV × AV:=(24,[txt],v_parse)
set_option maxRecDepth 100000 in
theorem k_parse:Known [c_parse]:=known_cons (memo:=[]) (known_nil) known_nil (by decide +kernel)
end Go.Proofs.Cl
