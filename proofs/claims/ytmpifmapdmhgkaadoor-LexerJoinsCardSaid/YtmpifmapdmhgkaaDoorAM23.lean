/- Small laws of states. No conditions: lemmas only. -/
import Derived.Test.YtmpifmapdmhgkaaDoorAM22
namespace Go.AM
theorem St.set_inner {st : St} {o2 o3 : Nat} (h : o3 ≠ o2) (a a' b : AObj) : ((st.set o2 a).set o3 b).set o2 a' = (st.set o2 a').set o3 b := by
  rw [St.set_comm (st.set o2 a) h, St.set_set]

theorem St.obj_under {st : St} {o o' : Nat} (h : o' ≠ o) (c d : AObj) : ((st.set o c).set o' d).obj o = some c := (St.obj_set_ne (fun e => h e.symm)).trans (St.obj_set _ _ _)
theorem St.new_ne {st : St} {o o' : Nat} {c : AObj} (h : (st.set o c).obj o' = none) : o' ≠ o := by rintro rfl; rw [St.obj_set] at h; cases h
theorem St.new_old {st : St} {o o' : Nat} {c : AObj} (h : (st.set o c).obj o' = none) : st.obj o' = none := by rwa [St.obj_set_ne (St.new_ne h)] at h

theorem StLe.reTok {st : St} {tk : Nat} (h : st.tok tk = false) (tk' : Nat) : StLe (((st.addTok tk).untok tk).addTok tk') (st.addTok tk') := by
  refine ⟨fun _ _ h => h, fun t ht => ?_, rfl⟩
  simp only [St.addTok, St.untok] at ht ⊢
  by_cases h1 : t = tk'
  · simp [h1]
  · simp only [h1, if_false] at ht ⊢
    by_cases h2 : t = tk
    · subst h2; rw [h] at ht; cases ht
    · simp [h2, ht]
theorem St.tok_of_add {st : St} {tk tk' : Nat} (h : (st.addTok tk).tok tk' = false) : st.tok tk' = false := by
  simp only [St.addTok] at h
  split at h
  · cases h
  · exact h

theorem Le.pair {a a' b b' : AV} (h : Le a a') (k : Le b b') : Le (.tuple [a, b]) (.tuple [a', b']) := by
  refine .tuple _ _ rfl fun i c c' hc hc' => ?_
  match i with
  | 0 => cases hc; cases hc'; exact h
  | 1 => cases hc; cases hc'; exact k
  | i + 2 => cases hc
theorem Le.tri {a a' b b' c c' : AV} (h : Le a a') (k : Le b b') (l : Le c c') : Le (.tuple [a, b, c]) (.tuple [a', b', c']) := by
  refine .tuple _ _ rfl fun i x x' hc hc' => ?_
  match i with
  | 0 => cases hc; cases hc'; exact h
  | 1 => cases hc; cases hc'; exact k
  | 2 => cases hc; cases hc'; exact l
  | i + 3 => cases hc
end Go.AM
