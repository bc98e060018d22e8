/- The arguments of the two laws. No conditions: lemmas only. -/
import Derived.Test.YtmpghkcdejikiaaRows
import Derived.ProofKit
import Derived.OpenShut
import Derived.Test.YtmpghkcdejikiaaAM12
import Derived.Test.YtmpghkcdejikiaaR1G
namespace Go.Proofs.Ytmpghkcdejikiaa
open Go.ChangeShapes Go.WideShapes Go.ChangeAt Go.RowKit Go.AM

theorem own : ownKnob Try.prog.godebug = none := by kernel_rfl
theorem laid : laidOutB Try.prog = true := by kernel_rfl

theorem rows_tail {fuel : Nat} : ∀ (rows : List (List AV)), (∀ row ∈ rows, HasTy Try.prog fuel 49 row) → ∃ l : List Tail3, rows = l.map tailRow
  | [], _ => ⟨[], rfl⟩
  | row :: rows, h => by
    obtain ⟨l, rfl⟩ := rows_tail rows fun r hr => h r (List.mem_cons_of_mem _ hr)
    have h0 := h row (by simp)
    cases fuel with
    | zero => exact h0.elim
    | succ fuel =>
      unfold HasTy at h0
      rw [Try.underlying49] at h0
      obtain ⟨hl, hf⟩ := h0
      have hc49 : Try.prog.cellsOf 49 = 3 := by kernel_rfl
      have hc3 : Try.prog.cellsOf 3 = 1 := by kernel_rfl
      rw [hc49] at hl
      match row, hl with
      | [a, b, c], _ =>
        have get : ∀ (f : Field), f.type = 3 → f ∈ (#[⟨ "From", 3, 0, false, "", "", 0⟩, ⟨ "To", 3, 1, false, "", "", 8⟩, ⟨ "Addr", 3, 2, false, "", "", 16⟩] : Array Field).toList → ∃ x, (([a, b, c] : List AV).drop f.offset).take 1 = [.int .i64 x] := by
          intro f ht hm
          have h1 := hf f hm
          rw [ht, hc3] at h1
          cases fuel with
          | zero => exact h1.elim
          | succ fuel =>
            unfold HasTy at h1
            rw [Try.underlying3] at h1
            obtain ⟨x, hx, _⟩ := h1
            exact ⟨x, hx⟩
        obtain ⟨x, hx⟩ := get _ rfl (List.mem_cons_self ..)
        obtain ⟨y, hy⟩ := get _ rfl (List.mem_cons_of_mem _ (List.mem_cons_self ..))
        obtain ⟨z, hz⟩ := get _ rfl (List.mem_cons_of_mem _ (List.mem_cons_of_mem _ (List.mem_cons_self ..)))
        simp at hx hy hz
        subst hx hy hz
        exact ⟨(x, y, z) :: l, rfl⟩

theorem arg_tails {a : AV} (h : ArgTy Try.prog 22 a) : ∃ l : List Tail3, a = .view 3 (l.map tailRow) .shared ∧ l.length ≤ 9223372036854775807 := by
  obtain ⟨fuel, cs, h1, h2⟩ := h
  rcases h2 with ⟨td, hu, ha, _⟩ | ⟨td, hu, ha, rfl⟩
  · rw [Try.underlying22] at hu
    cases hu
    cases ha
  · cases fuel with
    | zero => exact h1.elim
    | succ fuel =>
      unfold HasTy at h1
      rw [Try.underlying22] at h1
      obtain ⟨rows, hr, hl, hrow⟩ := h1
      obtain ⟨l, rfl⟩ := rows_tail rows hrow
      have hc49 : Try.prog.cellsOf 49 = 3 := by kernel_rfl
      rw [hc49] at hr
      cases hr
      refine ⟨l, rfl, ?_⟩
      unfold maxLen at hl
      simpa using hl

theorem arg_int {a : AV} (h : ArgTy Try.prog 3 a) : ∃ x, a = .int .i64 x := by
  obtain ⟨fuel, cs, h1, h2⟩ := h
  rcases h2 with ⟨td, hu, ha, _⟩ | ⟨td, hu, ha, rfl⟩
  · rw [Try.underlying3] at hu
    cases hu
    cases ha
  · cases fuel with
    | zero => exact h1.elim
    | succ fuel =>
      unfold HasTy at h1
      rw [Try.underlying3] at h1
      obtain ⟨x, hx, _⟩ := h1
      cases hx
      exact ⟨x, rfl⟩

theorem kinds : ∀ t ∈ [3, 22, 49], Go.AM.kindOk Try.prog [3, 22, 49] t = true := by
  intro t ht
  simp only [List.mem_cons, List.not_mem_nil, or_false] at ht
  rcases ht with rfl | rfl | rfl <;> kernel_rfl

end Go.Proofs.Ytmpghkcdejikiaa
