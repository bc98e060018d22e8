/- AssignApplies: the facts about the program that its row asks for, one by one. No conditions: lemmas only. -/
import Derived.Test.YtlnijnpmfnlegaaGreatB24
namespace Go.Proofs.YtlnijnpmfnlegaaGreat.assignApplies
open Go.ChangeShapes Go.WideShapes Go.ChangeAt Go.RowKit Go.AM

theorem fact1:(Rows.assignAppliesRow.inPlace == Tryz.prog.inPlace 3)=true:=by kernel_rfl
theorem fact2:(Rows.assignAppliesRow.unfollowed == Tryz.prog.unfollowed 3)=true:=by kernel_rfl
theorem fact3:(Rows.assignAppliesRow.recurses == Tryz.prog.recurses 3)=true:=by kernel_rfl
theorem fact4:(Rows.assignAppliesRow.named == Tryz.prog.varsNamed 3)=true:=by kernel_rfl
theorem facts:joinedFacts Tryz.prog 3 Tryz.f3 Rows.assignAppliesSpec Rows.assignAppliesRow=true:=by
 unfold joinedFacts
 rw [laidOut,rowed,fact1,fact2,fact3,fact4,keys,heard,enter]
 kernel_rfl
end Go.Proofs.YtlnijnpmfnlegaaGreat.assignApplies
