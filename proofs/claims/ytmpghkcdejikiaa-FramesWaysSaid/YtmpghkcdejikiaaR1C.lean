/- Counting ways, in plain lists. No conditions: definitions and lemmas only. -/
import Derived.Test.YtmpghkcdejikiaaR1G
namespace Go.Proofs
open Go.AM

/-- How many ways of at most so many calls lead to t. -/
def wy (ps : List (List Site)) (t : Nat) : Nat → Nat → Nat
  | 0, f => if f = t then 1 else 0
  | k + 1, f => (if f = t then 1 else 0) + ((tls ps f).map fun s => wy ps t k s.2.1.toNat).sum

section
variable {ps : List (List Site)} {t : Nat}

theorem sum_pos {l : List Nat} : 0 < l.sum ↔ ∃ x ∈ l, 0 < x := by
  induction l with
  | nil => simp
  | cons a l ih => simp only [List.sum_cons, List.mem_cons, exists_eq_or_imp, ← ih]; omega

theorem wy_pos : ∀ (k f : Nat), 0 < wy ps t k f ↔ lv ps t k f = true
  | 0, f => by
    unfold wy lv
    split <;> simp_all
  | k + 1, f => by
    have key : lv ps t (k + 1) f = true ↔ (f = t ∨ ∃ s ∈ tls ps f, lv ps t k s.2.1.toNat = true) := by
      constructor
      · intro h
        by_cases hf : f = t
        · exact .inl hf
        · exact .inr (lv_next hf h)
      · rintro (rfl | ⟨s, hs, h⟩)
        · exact lv_le (k := 0) (by simp [lv]) (Nat.zero_le _)
        · exact lv_step (List.mem_map.2 ⟨s, hs, rfl⟩) h
    rw [key, wy]
    have hs : 0 < ((tls ps f).map fun s => wy ps t k s.2.1.toNat).sum ↔ ∃ s ∈ tls ps f, lv ps t k s.2.1.toNat = true := by
      rw [sum_pos]
      constructor
      · rintro ⟨x, hx, h0⟩
        obtain ⟨s, hs, rfl⟩ := List.mem_map.1 hx
        exact ⟨s, hs, (wy_pos k _).1 h0⟩
      · rintro ⟨s, hs, h⟩
        exact ⟨_, List.mem_map.2 ⟨s, hs, rfl⟩, (wy_pos k _).2 h⟩
    rw [← hs]
    split <;> rename_i hf
    · simp [hf]; omega
    · simp [hf]

/-- One call less is enough. -/
theorem lv_top1 (ht : t < ps.length) {k g : Nat} (hg : g < ps.length) (h : lv ps t k g = true) : lv ps t (ps.length - 1) g = true := by
  have hst : ∃ j, j < ps.length ∧ ∀ g, g < ps.length → lv ps t (j + 1) g = true → lv ps t j g = true := by
    refine Classical.byContradiction fun hno => ?_
    have hall : ∀ j, j < ps.length → ∃ g, g < ps.length ∧ lv ps t (j + 1) g = true ∧ lv ps t j g = false := by
      intro j hj
      refine Classical.byContradiction fun hn => hno ⟨j, hj, fun g hg h1 => ?_⟩
      cases h2 : lv ps t j g with
      | true => rfl
      | false => exact absurd ⟨g, hg, h1, h2⟩ hn
    have h1 := cnt_ge ht ps.length hall
    have h2 := cnt_le (ps := ps) (t := t) ps.length
    omega
  obtain ⟨j, hj, hs⟩ := hst
  rcases Nat.lt_or_ge k j with hk | hk
  · exact lv_le h (by omega)
  · have := lv_stable hs (k - j) g hg (by rwa [show j + (k - j) = k by omega])
    exact lv_le this (by omega)

/-- Of the calls that do not lead to t nothing comes. -/
theorem wy_nxt (ht : t < ps.length) (m f : Nat) : ((tls ps f).map fun s => wy ps t m s.2.1.toNat).sum = ((nxt ps t f).map fun s => wy ps t m s.2.1.toNat).sum := by
  unfold nxt
  have h : ∀ s ∈ tls ps f, s.2.1.toNat < ps.length := fun s hs => (tls_lt hs).2.2
  generalize tls ps f = l at h
  induction l with
  | nil => rfl
  | cons s l ih =>
    have ih := ih fun s hs => h s (List.mem_cons_of_mem _ hs)
    cases hl : lv ps t ps.length s.2.1.toNat with
    | true => simp only [List.filter_cons, hl, if_true, List.map_cons, List.sum_cons, ih]
    | false =>
      have h0 : wy ps t m s.2.1.toNat = 0 := by
        refine Nat.eq_zero_of_not_pos fun hp => ?_
        rw [lv_top ht (h s (by simp)) ((wy_pos m _).1 hp)] at hl
        cases hl
      simp only [List.filter_cons, hl, Bool.false_eq_true, if_false, List.map_cons, List.sum_cons, ih, h0, Nat.zero_add]

/-- A chain of calls from f to t. -/
def chain (ps : List (List Site)) (t : Nat) : Nat → List Site → Prop
  | f, [] => f = t
  | f, s :: r => s ∈ tls ps f ∧ chain ps t s.2.1.toNat r

theorem follow_spec (ht : t < ps.length) : ∀ (j f fuel m : Nat) (out : List Site), f < ps.length → lv ps t j f = true → j < fuel → j + ps.length ≤ m →
    ((follow ps t fuel f out).2 = 1 ∧ wy ps t m f = 1 ∧ ∃ w, (follow ps t fuel f out).1 = out ++ w ∧ chain ps t f w) ∨ ((follow ps t fuel f out).2 = 2 ∧ 2 ≤ wy ps t m f ∧ (follow ps t fuel f out).1 = []) := by
  intro j
  induction j with
  | zero =>
    intro f fuel m out hf hl hj hm
    obtain ⟨fuel, rfl⟩ : ∃ k, fuel = k + 1 := ⟨fuel - 1, by omega⟩
    obtain ⟨m, rfl⟩ : ∃ k, m = k + 1 := ⟨m - 1, by omega⟩
    have hft : f = t := by simpa [lv] using hl
    rw [follow, if_pos hft, wy, if_pos hft, wy_nxt ht]
    by_cases hn : nxt ps t f = []
    · rw [if_pos hn, hn]
      exact .inl ⟨rfl, rfl, [], by simp, hft⟩
    · rw [if_neg hn]
      refine .inr ⟨rfl, ?_, rfl⟩
      have hp : 0 < ((nxt ps t f).map fun s => wy ps t m s.2.1.toNat).sum := by
        obtain ⟨s, hs⟩ := List.exists_mem_of_ne_nil _ hn
        obtain ⟨_, h2, h3⟩ := nxt_lt hs
        exact sum_pos.2 ⟨_, List.mem_map.2 ⟨s, hs, rfl⟩, (wy_pos m _).2 (lv_le (lv_top1 ht h2 h3) (by omega))⟩
      omega
  | succ j ih =>
    intro f fuel m out hf hl hj hm
    by_cases hft : f = t
    · obtain ⟨fuel, rfl⟩ : ∃ k, fuel = k + 1 := ⟨fuel - 1, by omega⟩
      obtain ⟨m, rfl⟩ : ∃ k, m = k + 1 := ⟨m - 1, by omega⟩
      rw [follow, if_pos hft, wy, if_pos hft, wy_nxt ht]
      by_cases hn : nxt ps t f = []
      · rw [if_pos hn, hn]
        exact .inl ⟨rfl, rfl, [], by simp, hft⟩
      · rw [if_neg hn]
        refine .inr ⟨rfl, ?_, rfl⟩
        have hp : 0 < ((nxt ps t f).map fun s => wy ps t m s.2.1.toNat).sum := by
          obtain ⟨s, hs⟩ := List.exists_mem_of_ne_nil _ hn
          obtain ⟨_, h2, h3⟩ := nxt_lt hs
          exact sum_pos.2 ⟨_, List.mem_map.2 ⟨s, hs, rfl⟩, (wy_pos m _).2 (lv_le (lv_top1 ht h2 h3) (by omega))⟩
        omega
    · obtain ⟨fuel, rfl⟩ : ∃ k, fuel = k + 1 := ⟨fuel - 1, by omega⟩
      obtain ⟨m, rfl⟩ : ∃ k, m = k + 1 := ⟨m - 1, by omega⟩
      obtain ⟨s0, hs0, hl0⟩ := lv_next hft hl
      have hm0 : s0 ∈ nxt ps t f := by
        simp only [nxt, List.mem_filter]
        exact ⟨hs0, lv_top ht (tls_lt hs0).2.2 hl0⟩
      rw [follow, if_neg hft, wy, if_neg hft, wy_nxt ht, Nat.zero_add]
      have hall : ∀ s ∈ nxt ps t f, 0 < wy ps t m s.2.1.toNat := fun s hs => by
        obtain ⟨_, h2, h3⟩ := nxt_lt hs
        exact (wy_pos m _).2 (lv_le (lv_top1 ht h2 h3) (by omega))
      have hin : ∀ s ∈ nxt ps t f, s ∈ tls ps f := fun s hs => (List.mem_filter.1 hs).1
      generalize nxt ps t f = ns at hm0 hall hin
      match ns, hm0, hall, hin with
      | [s], hm0, hall, hin =>
        rw [List.mem_singleton] at hm0
        subst hm0
        have hst := hin s0 (by simp)
        rcases ih s0.2.1.toNat fuel m (out ++ [s0]) (tls_lt hst).2.2 hl0 (by omega) (by omega) with ⟨h1, h2, w, h3, h4⟩ | ⟨h1, h2, h3⟩
        · exact .inl ⟨h1, by simpa using h2, s0 :: w, by simpa using h3, hst, h4⟩
        · exact .inr ⟨h1, by simpa using h2, h3⟩
      | a :: b :: r, _, hall, _ =>
        refine .inr ⟨rfl, ?_, rfl⟩
        have ha := hall a (by simp)
        have hb := hall b (by simp)
        simp only [List.map_cons, List.sum_cons]
        omega

theorem gr_inside (l : List Tail3) : ∀ i, ∀ ss ∈ gr l i, ∀ s ∈ ss, 0 ≤ s.2.1 ∧ s.2.1 < 6
  | 0, ss, h, s, hs => by rw [(List.mem_replicate.1 h).2] at hs; cases hs
  | i + 1, ss, h, s, hs => by
    rw [gr] at h
    cases hl : l[i]? with
    | none => rw [hl] at h; exact gr_inside l i ss h s hs
    | some t =>
      rw [hl] at h
      rcases List.mem_or_eq_of_mem_set h with h | rfl
      · exact gr_inside l i ss h s hs
      · rcases List.mem_append.1 hs with hs | hs
        · cases hp : (gr l i)[(goMod t.1 6).toNat]? with
          | none => rw [hp] at hs; cases hs
          | some x =>
            rw [hp] at hs
            exact gr_inside l i x (List.mem_of_getElem? hp) s hs
        · rw [List.mem_singleton] at hs
          subst hs
          exact goMod_range _ (by omega)

/-- What Route answers, by the count of ways. -/
theorem route_spec (hN : 0 < ps.length) {f t : Nat} (hf : f < ps.length) (ht : t < ps.length) {m : Nat} (hm : 2 * ps.length ≤ m + 1) :
    (route ps f t).2 = (min (wy ps t m f) 2 : Nat) ∧ ((route ps f t).2 = 1 → chain ps t f (route ps f t).1) ∧ ((route ps f t).2 ≠ 1 → (route ps f t).1 = []) := by
  have hb : bad ps f t = false := by simp [bad]; omega
  unfold route
  rw [hb, cond_false]
  simp only [Int.toNat_natCast]
  cases hl : lv ps t ps.length f with
  | false =>
    have h0 : wy ps t m f = 0 := by
      refine Nat.eq_zero_of_not_pos fun hp => ?_
      rw [lv_top ht hf ((wy_pos m _).1 hp)] at hl
      cases hl
    simp [h0]
  | true =>
    rcases follow_spec ht (ps.length - 1) f (ps.length + 1) m [] hf (lv_top1 ht hf hl) (by omega) (by omega) with ⟨h1, h2, w, h3, h4⟩ | ⟨h1, h2, h3⟩
    · rw [cond_true, h1, h2, h3]
      exact ⟨rfl, fun _ => h4, fun h => absurd rfl h⟩
    · rw [cond_true, h1, h3]
      refine ⟨?_, fun h => by simp at h, fun _ => rfl⟩
      have : min (wy ps t m f) 2 = 2 := by omega
      rw [this]
      rfl

end

/-! the counts, forward -/

def dot (F : Nat → Nat) : Nat → List Nat → Nat
  | _, [] => 0
  | i, x :: r => x * F i + dot F (i + 1) r

theorem dot_modify (F : Nat → Nat) (a : Nat) : ∀ (X : List Nat) (i c : Nat), c < X.length → dot F i (X.modify c (· + a)) = dot F i X + a * F (i + c)
  | [], _, _, h => by simp at h
  | x :: X, i, 0, _ => by simp [List.modify, dot, Nat.add_mul]; omega
  | x :: X, i, c + 1, h => by
    have := dot_modify F a X (i + 1) c (by simpa using h)
    rw [show i + (c + 1) = i + 1 + c by omega]
    simp only [List.modify_succ_cons, dot, this]
    omega

theorem dot_append (F : Nat → Nat) : ∀ (X : List Nat) (i x : Nat), dot F i (X ++ [x]) = dot F i X + x * F (i + X.length)
  | [], i, x => by simp [dot]
  | y :: X, i, x => by
    have := dot_append F X (i + 1) x
    simp only [List.cons_append, dot, this, List.length_cons]
    rw [show i + (X.length + 1) = i + 1 + X.length by omega]
    omega

theorem dot_replicate (F : Nat → Nat) : ∀ (n i : Nat), dot F i (List.replicate n 0) = 0
  | 0, _ => rfl
  | n + 1, i => by rw [List.replicate_succ, dot, dot_replicate F n]; omega

def addT (a : Nat) (X : List Nat) (s : Site) : List Nat := bif s.2.2 then X.modify s.2.1.toNat (· + a) else X
def rowT (a : Nat) (X : List Nat) (ss : List Site) : List Nat := ss.foldl (addT a) X
def nextT (ps : List (List Site)) (A : List Nat) (f : Nat) : List Nat := (List.range f).foldl (fun X g => rowT (A.getD g 0) X ((ps[g]?).getD [])) (List.replicate ps.length 0)
def iterT (ps : List (List Site)) (t : Nat) (A : List Nat) (n : Nat) : Nat → List Nat × Nat
  | 0 => (A, n)
  | k + 1 => let p := iterT ps t A n k; let A' := nextT ps p.1 ps.length; (A', p.2 + A'.getD t 0)

theorem rowT_length (a : Nat) (ss : List Site) : ∀ (X : List Nat), (rowT a X ss).length = X.length := by
  induction ss with
  | nil => intro X; rfl
  | cons s ss ih =>
    intro X
    rw [rowT, List.foldl_cons]
    have := ih (addT a X s)
    rw [rowT] at this
    rw [this]
    unfold addT
    cases s.2.2 <;> simp

theorem nextT_succ (ps : List (List Site)) (A : List Nat) (f : Nat) : nextT ps A (f + 1) = rowT (A.getD f 0) (nextT ps A f) ((ps[f]?).getD []) := by
  unfold nextT
  rw [List.range_succ, List.foldl_append]
  rfl

theorem nextT_length (ps : List (List Site)) (A : List Nat) : ∀ f, (nextT ps A f).length = ps.length
  | 0 => by simp [nextT]
  | f + 1 => by rw [nextT_succ, rowT_length, nextT_length ps A f]

theorem iterT_length (ps : List (List Site)) (t : Nat) (A : List Nat) (n : Nat) (h : A.length = ps.length) : ∀ k, (iterT ps t A n k).1.length = ps.length
  | 0 => h
  | _ + 1 => nextT_length _ _ _

/-- All callees are functions. -/
def Inside (ps : List (List Site)) : Prop := ∀ ss ∈ ps, ∀ s ∈ ss, 0 ≤ s.2.1 ∧ s.2.1 < ps.length

theorem Inside.tls {ps : List (List Site)} (h : Inside ps) (f : Nat) : tls ps f = ((ps[f]?).getD []).filter (·.2.2) := by
  unfold Go.Proofs.tls
  refine List.filter_congr fun s hs => ?_
  cases hp : ps[f]? with
  | none => rw [hp] at hs; cases hs
  | some ss =>
    rw [hp] at hs
    obtain ⟨h1, h2⟩ := h ss (List.mem_of_getElem? hp) s hs
    simp [isTail, h1, h2]

theorem dot_rowT (F : Nat → Nat) (a : Nat) : ∀ (ss : List Site) (X : List Nat), (∀ s ∈ ss, s.2.1.toNat < X.length) → dot F 0 (rowT a X ss) = dot F 0 X + a * ((ss.filter (·.2.2)).map fun s => F s.2.1.toNat).sum
  | [], X, _ => by simp [rowT]
  | s :: ss, X, h => by
    have hl : (addT a X s).length = X.length := by unfold addT; cases s.2.2 <;> simp
    have ih := dot_rowT F a ss (addT a X s) fun s' hs' => by rw [hl]; exact h s' (List.mem_cons_of_mem _ hs')
    rw [show rowT a X (s :: ss) = rowT a (addT a X s) ss from rfl, ih]
    cases hs : s.2.2 with
    | true =>
      simp only [addT, hs, cond_true, dot_modify F a X 0 _ (h s (by simp)), Nat.zero_add, List.filter_cons, if_true, List.map_cons, List.sum_cons, Nat.mul_add]
      omega
    | false => simp only [addT, hs, cond_false, List.filter_cons, Bool.false_eq_true, if_false]

theorem dot_nextT {ps : List (List Site)} (h : Inside ps) (F : Nat → Nat) (A : List Nat) : ∀ f, f ≤ A.length → dot F 0 (nextT ps A f) = dot (fun g => ((Go.Proofs.tls ps g).map fun s => F s.2.1.toNat).sum) 0 (A.take f)
  | 0, _ => by simp [nextT, dot_replicate, dot]
  | f + 1, hf => by
    have hfl : f < A.length := by omega
    have hin : ∀ s ∈ (ps[f]?).getD [], s.2.1.toNat < (nextT ps A f).length := by
      intro s hs
      cases hp : ps[f]? with
      | none => rw [hp] at hs; cases hs
      | some ss =>
        rw [hp] at hs
        obtain ⟨h1, h2⟩ := h ss (List.mem_of_getElem? hp) s hs
        rw [nextT_length]
        omega
    rw [nextT_succ, dot_rowT F _ _ _ hin, dot_nextT h F A f (by omega), ← h.tls f, List.take_add_one, List.getElem?_eq_getElem hfl]
    have hg : A.getD f 0 = A[f] := by simp [hfl]
    rw [hg, Option.toList_some, dot_append, Nat.zero_add, List.length_take, Nat.min_eq_left (by omega)]

theorem dot_add (F G : Nat → Nat) : ∀ (X : List Nat) (i : Nat), dot (fun g => F g + G g) i X = dot F i X + dot G i X
  | [], _ => rfl
  | x :: X, i => by
    simp only [dot, dot_add F G X (i + 1), Nat.mul_add]
    omega

theorem dot_ind (t : Nat) : ∀ (X : List Nat) (i : Nat), dot (fun g => if g = t then 1 else 0) i X = if i ≤ t then X.getD (t - i) 0 else 0
  | [], i => by simp [dot]
  | x :: X, i => by
    rw [dot, dot_ind t X (i + 1)]
    by_cases h1 : i = t
    · subst h1
      simp
      intro h
      omega
    · by_cases h2 : i ≤ t
      · obtain ⟨d, rfl⟩ : ∃ d, t = i + 1 + d := ⟨t - i - 1, by omega⟩
        rw [show i + 1 + d - i = d + 1 by omega, show i + 1 + d - (i + 1) = d by omega]
        simp [h1]
        omega
      · rw [if_neg h1, if_neg (by omega), if_neg h2]
        simp

theorem dot_wy (ps : List (List Site)) (t m : Nat) (X : List Nat) : dot (wy ps t (m + 1)) 0 X = X.getD t 0 + dot (fun g => ((Go.Proofs.tls ps g).map fun s => wy ps t m s.2.1.toNat).sum) 0 X := by
  have := dot_add (fun g => if g = t then 1 else 0) (fun g => ((Go.Proofs.tls ps g).map fun s => wy ps t m s.2.1.toNat).sum) X 0
  rw [dot_ind, if_pos (Nat.zero_le _), Nat.sub_zero] at this
  exact this

theorem iterT_succ (ps : List (List Site)) (t : Nat) (A : List Nat) (n k : Nat) : iterT ps t A n (k + 1) = (nextT ps (iterT ps t A n k).1 ps.length, (iterT ps t A n k).2 + (nextT ps (iterT ps t A n k).1 ps.length).getD t 0) := rfl

/-- The sum along the way. -/
theorem iterT_sum {ps : List (List Site)} (h : Inside ps) {t : Nat} (A : List Nat) (hA : A.length = ps.length) : ∀ (k m : Nat),
    (iterT ps t A (A.getD t 0) k).2 + dot (wy ps t m) 0 (iterT ps t A (A.getD t 0) k).1 = (iterT ps t A (A.getD t 0) k).1.getD t 0 + dot (wy ps t (m + k)) 0 A
  | 0, m => rfl
  | k + 1, m => by
    have ih := iterT_sum h (t := t) A hA k (m + 1)
    have hl := iterT_length ps t A (A.getD t 0) hA k
    rw [dot_wy] at ih
    rw [iterT_succ]
    generalize iterT ps t A (A.getD t 0) k = p at ih hl
    simp only
    have hd := dot_nextT h (wy ps t m) p.1 ps.length (by omega)
    rw [List.take_of_length_le (by omega)] at hd
    rw [hd, show m + (k + 1) = m + 1 + k by omega]
    omega

theorem dot_one (F : Nat → Nat) : ∀ (n i c : Nat), c < n → dot F i ((List.replicate n 0).set c 1) = F (i + c)
  | n + 1, i, 0, _ => by simp [List.replicate_succ, dot, dot_replicate]
  | n + 1, i, c + 1, h => by
    have := dot_one F n (i + 1) c (by omega)
    rw [List.replicate_succ, List.set_cons_succ, dot, this, show i + (c + 1) = i + 1 + c by omega]
    omega

/-- All ways of at most k calls, counted forward. -/
theorem iterT_wy {ps : List (List Site)} (h : Inside ps) {f t : Nat} (hf : f < ps.length) (k : Nat) :
    (iterT ps t ((List.replicate ps.length 0).set f 1) (((List.replicate ps.length 0).set f 1).getD t 0) k).2 = wy ps t k f := by
  have h1 := iterT_sum h (t := t) ((List.replicate ps.length 0).set f 1) (by simp) k 0
  rw [Nat.zero_add, dot_one _ _ _ _ hf, Nat.zero_add] at h1
  have h2 := dot_ind t (iterT ps t ((List.replicate ps.length 0).set f 1) (((List.replicate ps.length 0).set f 1).getD t 0) k).1 0
  rw [if_pos (Nat.zero_le _), Nat.sub_zero] at h2
  have h3 : dot (wy ps t 0) 0 (iterT ps t ((List.replicate ps.length 0).set f 1) (((List.replicate ps.length 0).set f 1).getD t 0) k).1 = dot (fun g => if g = t then 1 else 0) 0 (iterT ps t ((List.replicate ps.length 0).set f 1) (((List.replicate ps.length 0).set f 1).getD t 0) k).1 := rfl
  omega
end Go.Proofs
