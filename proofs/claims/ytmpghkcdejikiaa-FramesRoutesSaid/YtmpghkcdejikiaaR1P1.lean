/- FramesRoutes: the law answers true at every input. No conditions. -/
import Derived.Test.YtmpghkcdejikiaaRows
import Derived.ProofKit
import Derived.OpenShut
import Derived.Test.YtmpghkcdejikiaaAM12
import Derived.Test.YtmpghkcdejikiaaR1W10
namespace Go.Proofs.Ytmpghkcdejikiaa.framesRoutes
open Go.ChangeShapes Go.WideShapes Go.ChangeAt Go.RowKit Go.AM

theorem own : ownKnob Try.prog.godebug = none := by kernel_rfl
theorem laid : laidOutB Try.prog = true := by kernel_rfl

theorem rows_tail {fuel : Nat} : ∀ (rows : List (List AV)), (∀ row ∈ rows, HasTy Try.prog fuel 49 row) → ∃ l : List Tail3, rows = l.map tailRow
  | [], _ => ⟨[], rfl⟩
  | row :: rows, h => by
    obtain ⟨l, rfl⟩ := rows_tail rows fun r hr => h r (List.mem_cons_of_mem _ hr)
    have h0 := h row (by simp)
    cases fuel with
    | zero => exact h0.elim
    | succ fuel =>
      unfold HasTy at h0
      rw [Try.underlying49] at h0
      obtain ⟨hl, hf⟩ := h0
      have hc49 : Try.prog.cellsOf 49 = 3 := by kernel_rfl
      have hc3 : Try.prog.cellsOf 3 = 1 := by kernel_rfl
      rw [hc49] at hl
      match row, hl with
      | [a, b, c], _ =>
        have get : ∀ (f : Field), f.type = 3 → f ∈ (#[⟨ "From", 3, 0, false, "", "", 0⟩, ⟨ "To", 3, 1, false, "", "", 8⟩, ⟨ "Addr", 3, 2, false, "", "", 16⟩] : Array Field).toList → ∃ x, (([a, b, c] : List AV).drop f.offset).take 1 = [.int .i64 x] := by
          intro f ht hm
          have h1 := hf f hm
          rw [ht, hc3] at h1
          cases fuel with
          | zero => exact h1.elim
          | succ fuel =>
            unfold HasTy at h1
            rw [Try.underlying3] at h1
            obtain ⟨x, hx, _⟩ := h1
            exact ⟨x, hx⟩
        obtain ⟨x, hx⟩ := get _ rfl (List.mem_cons_self ..)
        obtain ⟨y, hy⟩ := get _ rfl (List.mem_cons_of_mem _ (List.mem_cons_self ..))
        obtain ⟨z, hz⟩ := get _ rfl (List.mem_cons_of_mem _ (List.mem_cons_of_mem _ (List.mem_cons_self ..)))
        simp at hx hy hz
        subst hx hy hz
        exact ⟨(x, y, z) :: l, rfl⟩

theorem arg_tails {a : AV} (h : ArgTy Try.prog 22 a) : ∃ l : List Tail3, a = .view 3 (l.map tailRow) .shared ∧ l.length ≤ 9223372036854775807 := by
  obtain ⟨fuel, cs, h1, h2⟩ := h
  rcases h2 with ⟨td, hu, ha, _⟩ | ⟨td, hu, ha, rfl⟩
  · rw [Try.underlying22] at hu
    cases hu
    cases ha
  · cases fuel with
    | zero => exact h1.elim
    | succ fuel =>
      unfold HasTy at h1
      rw [Try.underlying22] at h1
      obtain ⟨rows, hr, hl, hrow⟩ := h1
      obtain ⟨l, rfl⟩ := rows_tail rows hrow
      have hc49 : Try.prog.cellsOf 49 = 3 := by kernel_rfl
      rw [hc49] at hr
      cases hr
      refine ⟨l, rfl, ?_⟩
      unfold maxLen at hl
      simpa using hl

theorem arg_int {a : AV} (h : ArgTy Try.prog 3 a) : ∃ x, a = .int .i64 x := by
  obtain ⟨fuel, cs, h1, h2⟩ := h
  rcases h2 with ⟨td, hu, ha, _⟩ | ⟨td, hu, ha, rfl⟩
  · rw [Try.underlying3] at hu
    cases hu
    cases ha
  · cases fuel with
    | zero => exact h1.elim
    | succ fuel =>
      unfold HasTy at h1
      rw [Try.underlying3] at h1
      obtain ⟨x, hx, _⟩ := h1
      cases hx
      exact ⟨x, rfl⟩

theorem kinds : ∀ t ∈ [3, 22, 49], Go.AM.kindOk Try.prog [3, 22, 49] t = true := by
  intro t ht
  simp only [List.mem_cons, List.not_mem_nil, or_false] at ht
  rcases ht with rfl | rfl | rfl <;> kernel_rfl

set_option maxRecDepth 100000 in
theorem lifted (os : Os) (started : os.Started) (H : Type) (enc : TypeId × Value → H) :
    ReturnsInHanded {} Try.checked os 3 .any (Rows.framesRoutesSpec.pre6 enc Try.prog Try.f3 Rows.framesRoutesRow.domain false) (Rows.framesRoutesSpec.post enc Try.prog Try.f3 false true false false) := by
  refine returnsInHanded_of_change (C := Try.checked) own started (by kernel_rfl) Try.func3
    (ChangeSpec.witness6 (enc := enc) (C := Try.checked) false ⟨#[], #[.slice none 0 0, .int .i64 0, .int .i64 0], []⟩ 8 (by kernel_rfl) (by kernel_rfl) (by kernel_rfl) (by kernel_rfl)) ?_
  intro W base args ds gs before hval0 hW _ _
  refine law_contract (tb := 4) (S := [3, 22, 49]) [] laid kinds ?_ rfl ?_ (by kernel_rfl) Try.underlying4 W base args ds gs before hval0 hW (fun gi row h => by cases h) ?_
  · rw [Try.params3]
    intro t ht
    simp only [List.mem_cons, List.not_mem_nil, or_false] at ht
    rcases ht with rfl | rfl | rfl <;> exact ⟨by decide, by kernel_rfl, of_decide_eq_true (by kernel_rfl)⟩
  · intro ds hl
    rw [Try.params3] at hl
    match ds, hl with
    | [_, _, _], _ => rfl
  · intro avs hl hty
    rw [Try.params3] at hl hty
    match avs, hl with
    | [a, b, c], _ =>
      obtain ⟨l, rfl, hll⟩ := arg_tails (hty 0 22 a rfl rfl)
      obtain ⟨x, rfl⟩ := arg_int (hty 1 3 b rfl rfl)
      obtain ⟨y, rfl⟩ := arg_int (hty 2 3 c rfl rfl)
      exact (framesRoutes_ok l hll x y _).mono (fun v _ h => h.1) (fun _ _ h => h)

theorem over : Rows.framesRoutesRow.holds Try.pinned (OpenSpec.ofChange Rows.framesRoutesSpec) :=
  OpenClaim.holds_of_wide 3 Try.f3 rfl rfl rfl rfl rfl rfl rfl ⟨rfl, rfl, rfl, rfl, rfl⟩ rfl rfl rfl rfl rfl (by kernel_rfl) Try.func3 (by kernel_rfl)
    (of_decide_eq_true (by kernel_rfl)) (by unfold Func.isWrapper; first | (rw [if_pos (by decide +kernel)]; kernel_rfl) | (rw [if_neg (by decide +kernel)]; exact ⟨rfl, rfl⟩))
    (fun os started H enc _ => lifted os started H enc)

theorem proved : Rows.FramesRoutesSaid := over
#print axioms proved
end Go.Proofs.Ytmpghkcdejikiaa.framesRoutes
