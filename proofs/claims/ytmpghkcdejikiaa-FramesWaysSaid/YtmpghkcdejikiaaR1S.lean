/- What the first seat's functions compute, in plain lists. No conditions: definitions only. -/
import Derived.Test.YtmpghkcdejikiaaAM13
import Derived.Test.YtmpghkcdejikiaaR1T
namespace Go.Proofs
open Go.AM

abbrev Site := Int × Int × Bool
def nv : AV := .view 0 [] .nil
def siteRow (s : Site) : List AV := [.int .i64 s.1, .int .i64 s.2.1, .int .i64 0, .int .i64 0, .bool s.2.2, nv]
def procRow (ss : List Site) : List AV := [.str [], .int .i64 0, .int .i64 0, .int .i64 0, nv, nv, nv, nv, .view 6 (ss.map siteRow) .shared, nv, nv]
def dbgCells (ps : List (List Site)) : List AV := [.int .i64 0, .int .i64 0, nv, nv, .view 11 (ps.map procRow) .shared]
def dbg (ps : List (List Site)) : AV := .agg (dbgCells ps)

/-- Is it a tail call to one of n functions? -/
def isTail (n : Nat) (s : Site) : Bool := s.2.2 && (decide (0 ≤ s.2.1) && decide (s.2.1 < n))

structure Small (ps : List (List Site)) : Prop where
  few : ps.length ≤ 1000
  each : ∀ ss ∈ ps, ss.length ≤ 1000

theorem StLe.reTok {st : St} {tk : Nat} (h : st.tok tk = false) (tk' : Nat) : StLe (((st.addTok tk).untok tk).addTok tk') (st.addTok tk') := by
  refine ⟨fun _ _ h => h, fun t ht => ?_, rfl⟩
  simp only [St.addTok, St.untok] at ht ⊢
  by_cases h1 : t = tk'
  · simp [h1]
  · simp only [h1, if_false] at ht ⊢
    by_cases h2 : t = tk
    · subst h2; rw [h] at ht; cases ht
    · simp [h2, ht]
theorem St.tok_of_add {st : St} {tk tk' : Nat} (h : (st.addTok tk).tok tk' = false) : st.tok tk' = false := by
  simp only [St.addTok] at h
  split at h
  · cases h
  · exact h

end Go.Proofs
