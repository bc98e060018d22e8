/- The graph that a law makes, in plain lists. No conditions: definitions and lemmas only. -/
import Derived.Test.YtmpghkcdejikiaaR1L2
namespace Go.Proofs
open Go.AM

abbrev Tail3 := Int × Int × Int
def tailRow (t : Tail3) : List AV := [.int .i64 t.1, .int .i64 t.2.1, .int .i64 t.2.2]

def goMod (n k : Int) : Int := if n.tmod k < 0 then n.tmod k + k else n.tmod k

theorem goMod_range (n : Int) {k : Int} (hk : 0 < k) : 0 ≤ goMod n k ∧ goMod n k < k := by
  have hlt := Int.tmod_lt_of_pos n hk
  have hgt := Int.lt_tmod_of_pos n hk
  unfold goMod
  split <;> omega

theorem goMod_id {n k : Int} (h0 : 0 ≤ n) (h1 : n < k) : goMod n k = n := by
  have : n.tmod k = n := Int.tmod_eq_of_lt h0 h1
  unfold goMod
  rw [this, if_neg (by omega)]

def siteOf (i : Nat) (t : Tail3) : Site := (i, goMod t.2.1 6, decide (t.2.2.tmod 4 ≠ 3))
def addSite (ps : List (List Site)) (i : Nat) (t : Tail3) : List (List Site) := ps.set (goMod t.1 6).toNat ((ps[(goMod t.1 6).toNat]?).getD [] ++ [siteOf i t])
def gr (l : List Tail3) : Nat → List (List Site)
  | 0 => List.replicate 6 []
  | i + 1 => match l[i]? with
    | some t => addSite (gr l i) i t
    | none => gr l i

theorem gr_length (l : List Tail3) : ∀ i, (gr l i).length = 6
  | 0 => by simp [gr]
  | i + 1 => by
    unfold gr
    split
    · simp [addSite, gr_length l i]
    · exact gr_length l i

theorem gr_small (l : List Tail3) : ∀ i, i ≤ 1000 → Small (gr l i) ∧ ∀ ss ∈ gr l i, ss.length ≤ i
  | 0, _ => ⟨⟨by simp [gr], fun ss h => by rw [(List.mem_replicate.1 h).2]; simp⟩, fun ss h => by rw [(List.mem_replicate.1 h).2]; simp⟩
  | i + 1, hi => by
    obtain ⟨ih1, ih2⟩ := gr_small l i (by omega)
    have key : ∀ ss ∈ gr l (i + 1), ss.length ≤ i + 1 := by
      intro ss h
      unfold gr at h
      split at h
      · rcases List.mem_or_eq_of_mem_set h with h | rfl
        · exact Nat.le_succ_of_le (ih2 ss h)
        · simp only [List.length_append, List.length_singleton]
          have : ((gr l i)[(goMod (‹Tail3›).1 6).toNat]?.getD []).length ≤ i := by
            cases h : (gr l i)[(goMod (‹Tail3›).1 6).toNat]? with
            | none => simp
            | some x => exact ih2 x (List.mem_of_getElem? h)
          omega
      · exact Nat.le_succ_of_le (ih2 ss h)
    exact ⟨⟨by rw [gr_length]; omega, fun ss h => Nat.le_trans (key ss h) hi⟩, key⟩

/-- The sites of functions while they grow. -/
def prow (x : List Site × Option Nat) : List AV := [.str [], .int .i64 0, .int .i64 0, .int .i64 0, nv, nv, nv, nv, slot 6 47 (x.1.map siteRow) x.2, nv, nv]

structure GInv (l : List Tail3) (i : Nat) (X : List (List Site × Option Nat)) : Prop where
  eq : X.map (·.1) = gr l i
  nil : ∀ (c : Nat) (x : List Site × Option Nat), X[c]? = some x → x.2 = none → x.1 = []

theorem GInv.start (l : List Tail3) : GInv l 0 (List.replicate 6 ([], none)) where
  eq := by simp [gr]
  nil := fun c x h _ => by rw [(List.mem_replicate.1 (List.mem_of_getElem? h)).2]

theorem GInv.len {l : List Tail3} {i : Nat} {X : List (List Site × Option Nat)} (h : GInv l i X) : X.length = 6 := by
  have := congrArg List.length h.eq
  simpa [gr_length] using this

theorem GInv.step {l : List Tail3} {i k' : Nat} {X : List (List Site × Option Nat)} (h : GInv l i X) {t : Tail3} (ht : l[i]? = some t) {f : Nat} (hf : goMod t.1 6 = f) (hfl : f < X.length) :
    GInv l (i + 1) (X.set f (X[f].1 ++ [siteOf i t], some k')) where
  eq := by
    have hg : (gr l i)[f]? = some X[f].1 := by rw [← h.eq]; simp [hfl]
    rw [List.map_set, h.eq]
    simp only [gr, ht, addSite, hf, Int.toNat_natCast, hg, Option.getD_some]
  nil := fun c x hx hn => by
    rw [List.getElem?_set] at hx
    split at hx
    · cases hx; cases hn
    · exact h.nil c x hx hn

theorem GInv.le {l : List Tail3} {i : Nat} {X : List (List Site × Option Nat)} (h : GInv l i X) : Le (.view 11 (X.map prow) .shared) (.view 11 ((gr l i).map procRow) .shared) := by
  have e : (gr l i).map procRow = X.map fun x => procRow x.1 := by rw [← h.eq, List.map_map]; rfl
  rw [e]
  refine .view _ _ _ _ (by simp) ?_ ?_ ?_
  · intro row hr c hc
    simp only [List.mem_map] at hr
    obtain ⟨x, _, rfl⟩ := hr
    simp only [procRow, List.mem_cons, List.not_mem_nil, or_false] at hc
    rcases hc with rfl | rfl | rfl | rfl | rfl | rfl | rfl | rfl | rfl | rfl | rfl <;> rfl
  · intro i row row' hr hr'
    simp only [List.getElem?_map, Option.map_eq_some_iff] at hr hr'
    obtain ⟨x, _, rfl⟩ := hr
    obtain ⟨y, _, rfl⟩ := hr'
    rfl
  · intro i j row row' c c' hr hr' hc hc'
    simp only [List.getElem?_map, Option.map_eq_some_iff] at hr hr'
    obtain ⟨x, hx, rfl⟩ := hr
    obtain ⟨y, hy, rfl⟩ := hr'
    rw [hx] at hy
    cases hy
    match j with
    | 0 | 1 | 2 | 3 | 4 | 5 | 6 | 7 | 9 | 10 => cases hc; cases hc'; exact .refl _
    | 8 =>
      cases hc
      cases hc'
      cases ho : x.2 with
      | none =>
        rw [h.nil i x hx ho]
        exact .nilShared _ _
      | some k => exact .shared _ _ _
    | j + 11 => cases hc
end Go.Proofs
