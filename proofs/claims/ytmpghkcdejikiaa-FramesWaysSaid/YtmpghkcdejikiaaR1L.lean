/- Which functions lead to another one, in plain lists. No conditions: definitions and lemmas only. -/
import Derived.Test.YtmpghkcdejikiaaR1S
namespace Go.Proofs
open Go.AM

def brow (b : Bool) : List AV := [.bool b]

/-- The tail calls of a function, and where they go. -/
def tls (ps : List (List Site)) (f : Nat) : List Site := ((ps[f]?).getD []).filter (isTail ps.length)
def edge (ps : List (List Site)) (f : Nat) : List Nat := (tls ps f).map fun s => s.2.1.toNat

/-- Does a way of at most so many calls lead to t? -/
def lv (ps : List (List Site)) (t : Nat) : Nat → Nat → Bool
  | 0, f => f == t
  | k + 1, f => lv ps t k f || (edge ps f).any (lv ps t k)

section
variable {ps : List (List Site)} {t : Nat}

theorem tls_lt {f : Nat} {s : Site} (h : s ∈ tls ps f) : s.2.2 = true ∧ s.2.1 = (s.2.1.toNat : Int) ∧ s.2.1.toNat < ps.length := by
  simp only [tls, List.mem_filter, isTail, Bool.and_eq_true, decide_eq_true_eq] at h
  obtain ⟨_, h1, h2, h3⟩ := h
  exact ⟨h1, by omega, by omega⟩

theorem edge_lt {f c : Nat} (h : c ∈ edge ps f) : c < ps.length := by
  simp only [edge, List.mem_map] at h
  obtain ⟨s, hs, rfl⟩ := h
  exact (tls_lt hs).2.2

theorem lv_mono {k : Nat} : ∀ {j f : Nat}, lv ps t k f = true → lv ps t (k + j) f = true
  | 0, _, h => h
  | j + 1, f, h => by
    have := lv_mono (j := j) h
    rw [← Nat.add_assoc, lv, this]
    rfl

theorem lv_le {j k f : Nat} (h : lv ps t k f = true) (hk : k ≤ j) : lv ps t j f = true := by
  have := lv_mono (j := j - k) h
  rwa [show k + (j - k) = j by omega] at this

theorem lv_step {k f c : Nat} (hc : c ∈ edge ps f) (h : lv ps t k c = true) : lv ps t (k + 1) f = true := by
  rw [lv, Bool.or_eq_true, List.any_eq_true]
  exact .inr ⟨c, hc, h⟩

/-- A way that is not at its end has a first call. -/
theorem lv_next {f : Nat} (hf : f ≠ t) : ∀ {k : Nat}, lv ps t (k + 1) f = true → ∃ s ∈ tls ps f, lv ps t k s.2.1.toNat = true := by
  intro k
  induction k with
  | zero =>
    intro h
    rw [lv, Bool.or_eq_true, List.any_eq_true] at h
    rcases h with h | ⟨c, hc, h⟩
    · exact absurd (by simpa [lv] using h) hf
    · simp only [edge, List.mem_map] at hc
      obtain ⟨s, hs, rfl⟩ := hc
      exact ⟨s, hs, h⟩
  | succ k ih =>
    intro h
    rw [lv, Bool.or_eq_true, List.any_eq_true] at h
    rcases h with h | ⟨c, hc, h⟩
    · obtain ⟨s, hs, h2⟩ := ih h
      exact ⟨s, hs, lv_le h2 (by omega)⟩
    · simp only [edge, List.mem_map] at hc
      obtain ⟨s, hs, rfl⟩ := hc
      exact ⟨s, hs, h⟩

/-- If one more call does not lead further, no more calls do. -/
theorem lv_stable {k : Nat} (hk : ∀ g, g < ps.length → lv ps t (k + 1) g = true → lv ps t k g = true) : ∀ (j g : Nat), g < ps.length → lv ps t (k + j) g = true → lv ps t k g = true
  | 0, _, _, h => h
  | j + 1, g, hg, h => by
    rw [← Nat.add_assoc, lv, Bool.or_eq_true, List.any_eq_true] at h
    rcases h with h | ⟨c, hc, h⟩
    · exact lv_stable hk j g hg h
    · exact hk g hg (lv_step hc (lv_stable hk j c (edge_lt hc) h))

def cnt (ps : List (List Site)) (t k : Nat) : Nat := ((List.range ps.length).filter (lv ps t k)).length

theorem filter_length_le {α : Type} {p q : α → Bool} : ∀ (l : List α), (∀ x ∈ l, p x = true → q x = true) → (l.filter p).length ≤ (l.filter q).length
  | [], _ => Nat.le_refl _
  | x :: l, h => by
    have ih := filter_length_le (p := p) (q := q) l fun y hy => h y (List.mem_cons_of_mem _ hy)
    simp only [List.filter_cons]
    cases hp : p x
    · cases hq : q x <;> simp <;> omega
    · rw [h x (by simp) hp]; simp; omega

theorem filter_length_lt {α : Type} {p q : α → Bool} : ∀ (l : List α), (∀ x ∈ l, p x = true → q x = true) → (∃ x ∈ l, p x = false ∧ q x = true) → (l.filter p).length < (l.filter q).length
  | [], _, h => by obtain ⟨x, hx, _⟩ := h; cases hx
  | x :: l, h, ⟨y, hy, h1, h2⟩ => by
    have hl := filter_length_le (p := p) (q := q) l fun y hy => h y (List.mem_cons_of_mem _ hy)
    simp only [List.filter_cons]
    rcases List.mem_cons.1 hy with rfl | hy
    · rw [h1, h2]; simp; omega
    · have ih := filter_length_lt (p := p) (q := q) l (fun y hy => h y (List.mem_cons_of_mem _ hy)) ⟨y, hy, h1, h2⟩
      cases hp : p x
      · cases hq : q x <;> simp <;> omega
      · rw [h x (by simp) hp]; simp; omega

theorem cnt_ge (ht : t < ps.length) : ∀ k, (∀ j, j < k → ∃ g, g < ps.length ∧ lv ps t (j + 1) g = true ∧ lv ps t j g = false) → k + 1 ≤ cnt ps t k
  | 0, _ => by
    unfold cnt
    rw [Nat.succ_le_iff]
    refine List.length_pos_of_mem (a := t) (List.mem_filter.2 ⟨List.mem_range.2 ht, ?_⟩)
    simp [lv]
  | k + 1, h => by
    have ih := cnt_ge ht k fun j hj => h j (by omega)
    obtain ⟨g, hg, h1, h2⟩ := h k (by omega)
    have := filter_length_lt (p := lv ps t k) (q := lv ps t (k + 1)) (List.range ps.length) (fun x _ hx => lv_mono (j := 1) hx) ⟨g, List.mem_range.2 hg, h2, h1⟩
    unfold cnt at ih ⊢
    omega

theorem cnt_le (k : Nat) : cnt ps t k ≤ ps.length := by
  unfold cnt
  have := List.length_filter_le (lv ps t k) (List.range ps.length)
  simpa using this

/-- Whatever way there is, there is one that is no longer than there are functions. -/
theorem lv_top (ht : t < ps.length) {k g : Nat} (hg : g < ps.length) (h : lv ps t k g = true) : lv ps t ps.length g = true := by
  have hst : ∃ j, j < ps.length ∧ ∀ g, g < ps.length → lv ps t (j + 1) g = true → lv ps t j g = true := by
    refine Classical.byContradiction fun hno => ?_
    have hall : ∀ j, j < ps.length → ∃ g, g < ps.length ∧ lv ps t (j + 1) g = true ∧ lv ps t j g = false := by
      intro j hj
      refine Classical.byContradiction fun hn => hno ⟨j, hj, fun g hg h1 => ?_⟩
      cases h2 : lv ps t j g with
      | true => rfl
      | false => exact absurd ⟨g, hg, h1, h2⟩ hn
    have h1 := cnt_ge ht ps.length hall
    have h2 := cnt_le (ps := ps) (t := t) ps.length
    omega
  obtain ⟨j, hj, hs⟩ := hst
  rcases Nat.lt_or_ge k j with hk | hk
  · exact lv_le h (by omega)
  · have := lv_stable hs (k - j) g hg (by rwa [show j + (k - j) = k by omega])
    exact lv_le this (by omega)

/-- Which functions lead to t. -/
def inn (ps : List (List Site)) (t : Nat) : List Bool := (List.range ps.length).map (lv ps t ps.length)

theorem inn_get {f : Nat} (hf : f < ps.length) : (inn ps t)[f]? = some (lv ps t ps.length f) := by
  simp [inn, hf]
theorem inn_length : (inn ps t).length = ps.length := by simp [inn]

/-- The tail calls of a function that lead to t. -/
def nxt (ps : List (List Site)) (t f : Nat) : List Site := (tls ps f).filter fun s => lv ps t ps.length s.2.1.toNat

def follow (ps : List (List Site)) (t : Nat) : Nat → Nat → List Site → List Site × Int
  | 0, _, _ => ([], 2)
  | k + 1, f, out => if f = t then (if nxt ps t f = [] then (out, 1) else ([], 2)) else match nxt ps t f with
    | [s] => follow ps t k s.2.1.toNat (out ++ [s])
    | _ => ([], 2)

/-- Is it no function's number? -/
def bad (ps : List (List Site)) (a b : Int) : Bool := decide (a < 0) || decide ((ps.length : Int) ≤ a) || decide (b < 0) || decide ((ps.length : Int) ≤ b)

def route (ps : List (List Site)) (a b : Int) : List Site × Int :=
  bif bad ps a b then ([], 0) else bif lv ps b.toNat ps.length a.toNat then follow ps b.toNat (ps.length + 1) a.toNat [] else ([], 0)

theorem nxt_lt {f : Nat} {s : Site} (h : s ∈ nxt ps t f) : s.2.1 = (s.2.1.toNat : Int) ∧ s.2.1.toNat < ps.length ∧ lv ps t ps.length s.2.1.toNat = true := by
  simp only [nxt, List.mem_filter] at h
  exact ⟨(tls_lt h.1).2.1, (tls_lt h.1).2.2, h.2⟩

/-! the reference's rounds -/

structure RInv (ps : List (List Site)) (t k f : Nat) (bs : List Bool) : Prop where
  len : bs.length = ps.length
  sound : ∀ g : Nat, bs[g]? = some true → ∃ k, lv ps t k g = true
  lev : ∀ g, g < ps.length → lv ps t k g = true → bs[g]? = some true
  mid : ∀ g, g < f → g < ps.length → lv ps t (k + 1) g = true → bs[g]? = some true

theorem RInv.start (ht : t < ps.length) : RInv ps t 0 0 ((List.replicate ps.length false).set t true) where
  len := by simp
  sound := fun g hg => by
    rw [List.getElem?_set] at hg
    split at hg
    · rename_i e; subst e; exact ⟨0, by simp [lv]⟩
    · simp [List.getElem?_replicate] at hg
  lev := fun g hg h => by
    simp only [lv, beq_iff_eq] at h
    subst h
    simp [hg]
  mid := fun g hg => by omega

theorem RInv.step {k f c : Nat} {bs : List Bool} {b d : Bool} (h : RInv ps t k f bs) (hc : c ∈ edge ps f) (hb : bs[f]? = some b) (hd : bs[c]? = some d) :
    RInv ps t k f (bs.set f (b || d)) ∧ (bs[f]? = some true → (bs.set f (b || d))[f]? = some true) ∧ (lv ps t k c = true → (bs.set f (b || d))[f]? = some true) := by
  have hf : f < bs.length := (List.getElem?_eq_some_iff.1 hb).1
  have keep : ∀ g : Nat, bs[g]? = some true → (bs.set f (b || d))[g]? = some true := by
    intro g hg
    rw [List.getElem?_set]
    split
    · rename_i e; subst e; rw [hb] at hg; cases hg; simp
    · exact hg
  refine ⟨⟨by simp [h.len], fun g hg => ?_, fun g hg hl => keep g (h.lev g hg hl), fun g hg hg' hl => keep g (h.mid g hg hg' hl)⟩, keep f, fun hl => ?_⟩
  · rw [List.getElem?_set] at hg
    split at hg
    · rename_i e
      subst e
      simp only [Option.some.injEq, Bool.or_eq_true] at hg
      rcases hg with rfl | rfl
      · exact h.sound _ hb
      · obtain ⟨k', hk'⟩ := h.sound _ hd
        exact ⟨k' + 1, lv_step hc hk'⟩
    · exact h.sound g hg
  · have := h.lev c (edge_lt hc) hl
    rw [hd] at this
    cases this
    simp [hf]

theorem RInv.next {k f : Nat} {bs : List Bool} (h : RInv ps t k f bs) (hf : f < ps.length) (he : ∀ c ∈ edge ps f, lv ps t k c = true → bs[f]? = some true) : RInv ps t k (f + 1) bs where
  len := h.len
  sound := h.sound
  lev := h.lev
  mid := fun g hg hg' hl => by
    rcases Nat.lt_or_ge g f with h1 | h1
    · exact h.mid g h1 hg' hl
    · have : g = f := by omega
      subst this
      rw [lv, Bool.or_eq_true, List.any_eq_true] at hl
      rcases hl with hl | ⟨c, hc, hl⟩
      · exact h.lev g hg' hl
      · exact he c hc hl

theorem RInv.round {k : Nat} {bs : List Bool} (h : RInv ps t k ps.length bs) : RInv ps t (k + 1) 0 bs where
  len := h.len
  sound := h.sound
  lev := fun g hg hl => h.mid g hg hg hl
  mid := fun g hg => by omega

theorem RInv.done (ht : t < ps.length) {bs : List Bool} (h : RInv ps t ps.length 0 bs) : bs = inn ps t := by
  refine List.ext_getElem? fun g => ?_
  rcases Nat.lt_or_ge g ps.length with hg | hg
  · rw [inn_get hg]
    cases hl : lv ps t ps.length g with
    | true => exact h.lev g hg hl
    | false =>
      have hb : g < bs.length := by rw [h.len]; exact hg
      rw [List.getElem?_eq_getElem hb]
      cases hv : bs[g] with
      | false => rfl
      | true =>
        obtain ⟨k, hk⟩ := h.sound g (by rw [List.getElem?_eq_getElem hb, hv])
        rw [lv_top ht hg hk] at hl
        cases hl
  · rw [List.getElem?_eq_none (by rw [h.len]; exact hg), List.getElem?_eq_none (by rw [inn_length]; exact hg)]

end
end Go.Proofs
