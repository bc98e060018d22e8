/- A run of the reference compiler on a fixed text, computed in the kernel: debuggerref17.Emit. No conditions: definitions and lemmas only. -/
import Derived.Test.YtnebahlonhfphaaGreatDoorB4
namespace Go.Proofs.Cl
open Go.AM Go.AX
def v_emit:AV:=.tuple [.agg [.view 1 [[.int .i64 1],[.int .i64 65541],[.int .i64 3331],[.int .i64 24]] .shared,.int .i64 4,.view 8 [[.int .i64 0,.int .i64 4,.view 4 [[.int .i64 0,.int .i64 0,.int .i64 0,.bool true]] .shared,.view 6 [[.int .i64 0,.int .i64 0,.int .i64 0,.int .i64 0,.int .i64 4,.view 3 [[.int .i64 2,.int .i64 1,.int .i64 0]] .shared],[.int .i64 0,.int .i64 1,.int .i64 0,.int .i64 0,.int .i64 4,.view 3 [[.int .i64 2,.int .i64 2,.int .i64 0]] .shared]] .shared,.view 0 [] .nil,.view 2 [[.int .i64 0,.int .i64 0]] .shared,.view 0 [] .nil,.view 3 [[.int .i64 (-1),.int .i64 (-1),.int .i64 0]] .shared]] .shared],.int .i64 0]
abbrev c_emit:Nat × List AV × AV:=(28,[.agg [.view 4 [[.int .i64 2,.view 10 [[.int .i64 2,.view 11 [[.int .i64 21,.int .i64 0,.int .i64 0,.int .i64 0,.int .i64 0,.int .i64 0,.int .i64 0,.int .i64 0,.int .i64 2,.int .i64 0,.int .i64 0],[.int .i64 21,.int .i64 0,.int .i64 0,.int .i64 0,.int .i64 0,.int .i64 0,.int .i64 1,.int .i64 0,.int .i64 2,.int .i64 1,.int .i64 0],[.int .i64 19,.int .i64 0,.int .i64 0,.int .i64 0,.int .i64 0,.int .i64 0,.int .i64 0,.int .i64 0,.int .i64 0,.int .i64 0,.int .i64 0]] .shared,.int .i64 4,.int .i64 0,.int .i64 0,.view 0 [] .nil,.int .i64 (-1),.view 0 [] .nil,.int .i64 (-1),.view 0 [] .nil]] .shared,.view 3 [[.int .i64 (-1),.int .i64 (-1),.int .i64 0]] .full,.view 0 [] .nil]] .shared],.bool true],v_emit)
set_option maxRecDepth 100000 in
theorem k_emit:Known [c_emit]:=known_cons (memo:=[]) (known_nil) known_nil (by decide +kernel)
end Go.Proofs.Cl
