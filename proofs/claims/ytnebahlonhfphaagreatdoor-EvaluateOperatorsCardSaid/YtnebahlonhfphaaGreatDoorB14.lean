/- EvaluateOperators: the facts about the program that its row asks for, one by one. No conditions: lemmas only. -/
import Derived.Test.YtnebahlonhfphaaGreatDoorB13
namespace Go.Proofs.YtnebahlonhfphaaGreatDoor.evaluateOperators
open Go.ChangeShapes Go.WideShapes Go.ChangeAt Go.RowKit Go.AM

theorem fact1:(Rows.evaluateOperatorsRow.inPlace == Tryz.prog.inPlace 3)=true:=by kernel_rfl
theorem fact2:(Rows.evaluateOperatorsRow.unfollowed == Tryz.prog.unfollowed 3)=true:=by kernel_rfl
theorem fact3:(Rows.evaluateOperatorsRow.recurses == Tryz.prog.recurses 3)=true:=by kernel_rfl
theorem fact4:(Rows.evaluateOperatorsRow.named == Tryz.prog.varsNamed 3)=true:=by kernel_rfl
theorem facts:joinedFacts Tryz.prog 3 Tryz.f3 Rows.evaluateOperatorsSpec Rows.evaluateOperatorsRow=true:=by
 unfold joinedFacts
 rw [laidOut,rowed,fact1,fact2,fact3,fact4,keys,heard,enter]
 kernel_rfl
end Go.Proofs.YtnebahlonhfphaaGreatDoor.evaluateOperators
