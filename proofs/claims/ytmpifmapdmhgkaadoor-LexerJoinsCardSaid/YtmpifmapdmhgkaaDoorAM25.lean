/- A law's arguments, opened by their types. No conditions: lemmas only. -/
import Derived.Test.YtmpifmapdmhgkaaDoorAM24
namespace Go.AM

variable {P : Program} {t : TypeId} {a : AV}

theorem arg_one {td : TypeDesc} (hu : P.underlying t = some td) (ha : aggD td = false) (h : ArgTy P t a) : ∃ fuel, HasTy P fuel t [a] := by
  obtain ⟨fuel, cs, h1, h2⟩ := h
  rcases h2 with ⟨td', hu', ha', _⟩ | ⟨_, _, _, rfl⟩
  · rw [hu] at hu'
    cases hu'
    rw [ha] at ha'
    cases ha'
  · exact ⟨fuel, h1⟩

theorem arg_int {k : IntKind} (hu : P.underlying t = some (.int k)) (h : ArgTy P t a) : ∃ x, a = .int k x ∧ (Lit.int k x).wf = true := by
  obtain ⟨fuel, h1⟩ := arg_one hu rfl h
  cases fuel with
  | zero => exact h1.elim
  | succ fuel =>
    unfold HasTy at h1
    rw [hu] at h1
    obtain ⟨x, hx, hw⟩ := h1
    cases hx
    exact ⟨x, rfl, hw⟩

theorem arg_bool (hu : P.underlying t = some .bool) (h : ArgTy P t a) : ∃ x, a = .bool x := by
  obtain ⟨fuel, h1⟩ := arg_one hu rfl h
  cases fuel with
  | zero => exact h1.elim
  | succ fuel =>
    unfold HasTy at h1
    rw [hu] at h1
    obtain ⟨x, hx⟩ := h1
    cases hx
    exact ⟨x, rfl⟩

theorem arg_str (hu : P.underlying t = some .string) (h : ArgTy P t a) : ∃ l, a = .str l ∧ l.length ≤ maxLen := by
  obtain ⟨fuel, h1⟩ := arg_one hu rfl h
  cases fuel with
  | zero => exact h1.elim
  | succ fuel =>
    unfold HasTy at h1
    rw [hu] at h1
    obtain ⟨x, hx, hw⟩ := h1
    cases hx
    exact ⟨x, rfl, hw⟩

/-- A slice of numbers. -/
theorem arg_ints {e : TypeId} {k : IntKind} (hu : P.underlying t = some (.slice e)) (he : P.underlying e = some (.int k)) (hc : P.cellsOf e = 1) (h : ArgTy P t a) :
    ∃ l : List Int, a = .view 1 (l.map fun x => [.int k x]) .shared ∧ l.length ≤ maxLen ∧ ∀ x ∈ l, (Lit.int k x).wf = true := by
  obtain ⟨fuel, h1⟩ := arg_one hu rfl h
  cases fuel with
  | zero => exact h1.elim
  | succ fuel =>
    unfold HasTy at h1
    rw [hu] at h1
    obtain ⟨rows, hr, hl, hrow⟩ := h1
    rw [hc] at hr
    cases hr
    have : ∀ rows : List (List AV), (∀ row ∈ rows, HasTy P fuel e row) → ∃ l : List Int, rows = l.map (fun x => [.int k x]) ∧ ∀ x ∈ l, (Lit.int k x).wf = true := by
      intro rows
      induction rows with
      | nil => exact fun _ => ⟨[], rfl, fun x hx => by cases hx⟩
      | cons row rows ih =>
        intro hrow
        obtain ⟨l, rfl, hl⟩ := ih fun r hr => hrow r (List.mem_cons_of_mem _ hr)
        have h0 := hrow row (by simp)
        cases fuel with
        | zero => exact h0.elim
        | succ fuel =>
          unfold HasTy at h0
          rw [he] at h0
          obtain ⟨x, rfl, hx⟩ := h0
          refine ⟨x :: l, rfl, fun y hy => ?_⟩
          rcases List.mem_cons.1 hy with rfl | hy
          · exact hx
          · exact hl y hy
    obtain ⟨l, rfl, hl2⟩ := this rows hrow
    exact ⟨l, rfl, by simpa using hl, hl2⟩

end Go.AM
