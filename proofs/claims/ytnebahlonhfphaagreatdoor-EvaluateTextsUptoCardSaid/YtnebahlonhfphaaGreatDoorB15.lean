/- EvaluateTexts: the facts about the program that its row asks for, one by one. No conditions: lemmas only. -/
import Derived.Test.YtnebahlonhfphaaGreatDoorB14
namespace Go.Proofs.YtnebahlonhfphaaGreatDoor.evaluateTexts
open Go.ChangeShapes Go.WideShapes Go.ChangeAt Go.RowKit Go.AM

theorem fact1:(Rows.evaluateTextsUptoRow.inPlace == Tryz.prog.inPlace 4)=true:=by kernel_rfl
theorem fact2:(Rows.evaluateTextsUptoRow.unfollowed == Tryz.prog.unfollowed 4)=true:=by kernel_rfl
theorem fact3:(Rows.evaluateTextsUptoRow.recurses == Tryz.prog.recurses 4)=true:=by kernel_rfl
theorem fact4:(Rows.evaluateTextsUptoRow.named == Tryz.prog.varsNamed 4)=true:=by kernel_rfl
theorem facts:joinedFacts Tryz.prog 4 Tryz.f4 (Rows.OpenSpec.upto Rows.evaluateTextsSpec).bare Rows.evaluateTextsUptoRow=true:=by
 unfold joinedFacts
 rw [laidOut,rowed,fact1,fact2,fact3,fact4,keys,heard,enter]
 kernel_rfl
end Go.Proofs.YtnebahlonhfphaaGreatDoor.evaluateTexts
