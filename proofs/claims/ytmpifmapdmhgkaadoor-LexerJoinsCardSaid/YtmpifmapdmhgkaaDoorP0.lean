/- What the laws of this seat share: the two laid tables, the arguments' kinds. No conditions: lemmas only. -/
import Derived.Test.YtmpifmapdmhgkaaDoorRows
import Derived.Test.YtmpifmapdmhgkaaDoorTie
import Derived.Test.YtmpifmapdmhgkaaDoorCards
import Derived.ProofKit
import Derived.OpenShut
import Derived.Lay
import Derived.Test.YtmpifmapdmhgkaaDoorAM26
import Derived.Test.YtmpifmapdmhgkaaDoorL6
namespace Go.Proofs.YtmpifmapdmhgkaaDoor
open Go.ChangeShapes Go.WideShapes Go.ChangeAt Go.RowKit Go.AM

theorem own : ownKnob Tryd.prog.godebug = none := by kernel_rfl
theorem laidOut : laidOutB Tryd.prog = true := by kernel_rfl
def laidAll : List (String × DataW Unit) := [("debugger/lexer.words", Rows.laid_debugger_lexer_words), ("debugger/lexer.signs", Rows.laid_debugger_lexer_signs)]

theorem kinds : ∀ t ∈ [3, 9, 22, 53, 85], Go.AM.kindOk Tryd.prog [3, 9, 22, 53, 85] t = true := by
  intro t ht
  simp only [List.mem_cons, List.not_mem_nil, or_false] at ht
  rcases ht with rfl | rfl | rfl | rfl | rfl <;> kernel_rfl

theorem tables {W : World} (h : laidMetH Tryd.prog laidAll W) : ∀ gi row, (gi, row) ∈ [(0, wordRow), (1, signRow)] → R (G0 W) W (.eptr row.length [row] 0 0) (.pointer (some ⟨gi, 0, none⟩)) := by
  have h' : laidMet Tryd.prog laidAll W := h
  intro gi row hm
  simp only [List.mem_cons, List.not_mem_nil, or_false] at hm
  rcases hm with hm | hm
  · cases hm
    exact laid_row kinds h' (n := "debugger/lexer.words") (t := 53) (List.mem_cons_self ..) rfl (by kernel_rfl) (by kernel_rfl) (by decide) (by decide)
  · cases hm
    exact laid_row kinds h' (n := "debugger/lexer.signs") (t := 85) (List.mem_cons_of_mem _ (List.mem_cons_self ..)) rfl (by kernel_rfl) (by kernel_rfl) (by decide) (by decide)
end Go.Proofs.YtmpifmapdmhgkaaDoor
