/- What EvaluateOperators' closing needs of its seat: the laid tables, of which it reads none, the arguments' kinds. No conditions: lemmas only. -/
import Derived.Test.YtnebahlonhfphaaGreatDoorRows
import Derived.Test.YtnebahlonhfphaaGreatDoorTie
import Derived.Test.YtnebahlonhfphaaGreatDoorCards
import Derived.ProofKit
import Derived.OpenShut
import Derived.Lay
import Derived.Test.YtnebahlonhfphaaGreatDoorB12
namespace Go.Proofs.YtnebahlonhfphaaGreatDoor
open Go.ChangeShapes Go.WideShapes Go.ChangeAt Go.RowKit Go.AM

theorem own:ownKnob Tryz.prog.godebug=none:=by kernel_rfl
theorem laidOut:laidOutB Tryz.prog=true:=by kernel_rfl
theorem rowed:mapsRowed Tryz.prog=true:=by kernel_rfl
theorem keys:Tryz.prog.plainKeys=true:=by kernel_rfl
theorem heard:Tryz.prog.stopsHeard=true:=by kernel_rfl
theorem enter:Tryz.prog.mayEnter=true:=by kernel_rfl
def laidAll : List (String × DataW Unit) := [("math/bits.deBruijn32tab", Rows.laid_math_bits_deBruijn32tab), ("math/bits.deBruijn64tab", Rows.laid_math_bits_deBruijn64tab), ("internal/strconv.uint64pow10", Rows.laid_internal_strconv_uint64pow10)]
theorem kinds:∀ t ∈ [3],Go.AM.kindOk Tryz.prog [3] t=true:=by
 intro t ht
 simp only [List.mem_cons,List.not_mem_nil,or_false] at ht
 rcases ht with rfl <;> kernel_rfl
theorem tables {W:World} (_:laidMetH Tryz.prog laidAll W):∀ gi row,(gi,row) ∈ ([]:List (Nat × List AV))→GlobAt (G0 W) W gi row:=fun gi row h=>by cases h
end Go.Proofs.YtnebahlonhfphaaGreatDoor
