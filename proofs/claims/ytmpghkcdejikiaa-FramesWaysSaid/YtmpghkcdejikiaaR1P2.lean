/- FramesWays: the law answers true at every input. No conditions. -/
import Derived.Test.YtmpghkcdejikiaaR1P0
import Derived.Test.YtmpghkcdejikiaaR1W12
namespace Go.Proofs.Ytmpghkcdejikiaa.framesWays
open Go.ChangeShapes Go.WideShapes Go.ChangeAt Go.RowKit Go.AM

set_option maxRecDepth 100000 in
theorem lifted (os : Os) (started : os.Started) (H : Type) (enc : TypeId × Value → H) :
    ReturnsInHanded {} Try.checked os 4 .any (Rows.framesWaysSpec.pre6 enc Try.prog Try.f4 Rows.framesWaysRow.domain false) (Rows.framesWaysSpec.post enc Try.prog Try.f4 false true false false) := by
  refine returnsInHanded_of_change (C := Try.checked) own started (by kernel_rfl) Try.func4
    (ChangeSpec.witness6 (enc := enc) (C := Try.checked) false ⟨#[], #[.slice none 0 0, .int .i64 0, .int .i64 0], []⟩ 8 (by kernel_rfl) (by kernel_rfl) (by kernel_rfl) (by kernel_rfl)) ?_
  intro W base args ds gs before hval0 hW _ _
  refine law_contract (tb := 4) (S := [3, 22, 49]) [] laid kinds ?_ rfl ?_ (by kernel_rfl) Try.underlying4 W base args ds gs before hval0 hW (fun gi row h => by cases h) ?_
  · rw [Try.params4]
    intro t ht
    simp only [List.mem_cons, List.not_mem_nil, or_false] at ht
    rcases ht with rfl | rfl | rfl <;> exact ⟨by decide, by kernel_rfl, of_decide_eq_true (by kernel_rfl)⟩
  · intro ds hl
    rw [Try.params4] at hl
    match ds, hl with
    | [_, _, _], _ => rfl
  · intro avs hl hty
    rw [Try.params4] at hl hty
    match avs, hl with
    | [a, b, c], _ =>
      obtain ⟨l, rfl, hll⟩ := arg_tails (hty 0 22 a rfl rfl)
      obtain ⟨x, rfl⟩ := arg_int (hty 1 3 b rfl rfl)
      obtain ⟨y, rfl⟩ := arg_int (hty 2 3 c rfl rfl)
      exact (framesWays_ok l x y _).mono (fun v _ h => h.1) (fun _ _ h => h)

theorem over : Rows.framesWaysRow.holds Try.pinned (OpenSpec.ofChange Rows.framesWaysSpec) :=
  OpenClaim.holds_of_wide 4 Try.f4 rfl rfl rfl rfl rfl rfl rfl ⟨rfl, rfl, rfl, rfl, rfl⟩ rfl rfl rfl rfl rfl (by kernel_rfl) Try.func4 (by kernel_rfl)
    (of_decide_eq_true (by kernel_rfl)) (by unfold Func.isWrapper; first | (rw [if_pos (by decide +kernel)]; kernel_rfl) | (rw [if_neg (by decide +kernel)]; exact ⟨rfl, rfl⟩))
    (fun os started H enc _ => lifted os started H enc)

theorem proved : Rows.FramesWaysSaid := over
#print axioms proved
end Go.Proofs.Ytmpghkcdejikiaa.framesWays
