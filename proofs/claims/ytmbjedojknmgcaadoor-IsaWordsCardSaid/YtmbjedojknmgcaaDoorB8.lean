/- The laws' arguments, opened. No conditions: lemmas only. -/
import Derived.Test.YtmbjedojknmgcaaDoorRows
import Derived.Test.YtmbjedojknmgcaaDoorTie
import Derived.Test.YtmbjedojknmgcaaDoorCards
import Derived.ProofKit
import Derived.OpenShut
import Derived.Lay
import Derived.Test.YtmbjedojknmgcaaDoorB7
namespace Go.Proofs
open Go.AM
theorem wf64 {x : Int} (h : (Lit.int .i64 x).wf = true) : w64 x := by
  simp only [Lit.wf, Bool.and_eq_true, decide_eq_true_eq] at h
  have h1 : (-9223372036854775808 : Int) ≤ x := h.1
  have h2 : x ≤ (9223372036854775807 : Int) := h.2
  unfold w64
  omega
theorem arg_ins {a : AV} (h : ArgTy Tryd.prog 23 a) : ∃ i : Ins, a = .agg (insRow i) ∧ i.w := by
  obtain ⟨cs, rfl, hf⟩ := arg_flat (d := 10) (sh := List.replicate 5 (.kI .i64)) Tryd.underlying23 rfl (by kernel_rfl) (by kernel_rfl) h
  obtain ⟨l, rfl, hl, hw⟩ := fits_ints 5 hf
  match l, hl with
  | [o, a, b, c, m], _ => exact ⟨⟨o, a, b, c, m⟩, rfl, wf64 (hw o (by simp)), wf64 (hw a (by simp)), wf64 (hw b (by simp)), wf64 (hw c (by simp)), wf64 (hw m (by simp))⟩
theorem arg_cpu {a : AV} (h : ArgTy Tryd.prog 35 a) : ∃ c : Cp, a = .agg (cpRow c) ∧ c.good := by
  obtain ⟨cs, rfl, hf⟩ := arg_flat (d := 10) (sh := List.replicate 17 (.kI .i64)) Tryd.underlying35 rfl (by kernel_rfl) (by kernel_rfl) h
  obtain ⟨l, rfl, hl, hw⟩ := fits_ints 17 hf
  obtain ⟨p, hp⟩ : ∃ p, l[16]? = some p := ⟨l[16], List.getElem?_eq_getElem (by omega)⟩
  have e : l = l.take 16 ++ [p] := by
    have h1 : l.take 17 = l := List.take_of_length_le (by omega)
    rw [List.take_add_one, hp] at h1
    exact h1.symm
  refine ⟨⟨l.take 16, p⟩, ?_, by simp [hl], fun x hx => wf64 (hw x (List.mem_of_mem_take hx)), wf64 (hw p (List.mem_of_getElem? hp))⟩
  conv => lhs; rw [e]
  rw [List.map_append]
  rfl
end Go.Proofs
/- What the laws of this seat share: the laid tables, the arguments' kinds. No conditions: lemmas only. -/
namespace Go.Proofs.YtmbjedojknmgcaaDoor
open Go.ChangeShapes Go.WideShapes Go.ChangeAt Go.RowKit Go.AM

theorem own : ownKnob Tryd.prog.godebug = none := by kernel_rfl
theorem laidOut : laidOutB Tryd.prog = true := by kernel_rfl
def laidAll : List (String × DataW Unit) := [("math/bits.deBruijn32tab", Rows.laid_math_bits_deBruijn32tab), ("math/bits.deBruijn64tab", Rows.laid_math_bits_deBruijn64tab), ("internal/strconv.uint64pow10", Rows.laid_internal_strconv_uint64pow10), ("debugger/isa.names", Rows.laid_debugger_isa_names)]

theorem kinds : ∀ t ∈ [3, 9, 44, 23, 36, 33, 35, 59, 75, 81], Go.AM.kindOk Tryd.prog [3, 9, 44, 23, 36, 33, 35, 59, 75, 81] t = true := by
  intro t ht
  simp only [List.mem_cons, List.not_mem_nil, or_false] at ht
  rcases ht with rfl | rfl | rfl | rfl | rfl | rfl | rfl | rfl | rfl | rfl <;> kernel_rfl
theorem pow_row : litRow (Rows.laid_internal_strconv_uint64pow10 : DataW Unit) = some powRow := by kernel_rfl
theorem tables {W : World} (h : laidMetH Tryd.prog laidAll W) : ∀ gi row, (gi, row) ∈ [(0, nameRow), (1, powRow)] → GlobAt (G0 W) W gi row := by
  have h' : laidMet Tryd.prog laidAll W := h
  intro gi row hm
  simp only [List.mem_cons, List.not_mem_nil, or_false] at hm
  rcases hm with hm | hm
  · cases hm
    exact laid_row kinds h' (n := "debugger/isa.names") (t := 59) (.tail _ (.tail _ (.tail _ (.head _)))) rfl (by kernel_rfl) (by kernel_rfl) (by decide) (by decide)
  · cases hm
    exact laid_row kinds h' (n := "internal/strconv.uint64pow10") (t := 81) (.tail _ (.tail _ (.head _))) pow_row (by kernel_rfl) (by kernel_rfl) (by decide) (by decide)
theorem hT : ((1, powRow) : Nat × List AV) ∈ [(0, nameRow), (1, powRow)] := .tail _ (.head _)
end Go.Proofs.YtmbjedojknmgcaaDoor
