/- Callers of functions, and the search along them, in plain lists. No conditions: definitions and lemmas only. -/
import Derived.Test.YtmpghkcdejikiaaR1L
import Derived.Test.YtmpghkcdejikiaaAM15
namespace Go.Proofs
open Go.AM

def irow (f : Nat) : List AV := [.int .i64 f]
def crow (x : List Nat × Option Nat) : List AV := [slot 1 3 (x.1.map irow) x.2]

/-- What the callers' lists hold when all functions ahead of f are done, and of f the calls to the given ones. -/
structure CInv (ps : List (List Site)) (f : Nat) (old : List Nat) (X : List (List Nat × Option Nat)) : Prop where
  len : X.length = ps.length
  nil : ∀ (c : Nat) (x : List Nat × Option Nat), X[c]? = some x → x.2 = none → x.1 = []
  mem : ∀ (c : Nat) (x : List Nat × Option Nat), X[c]? = some x → ∀ g, g ∈ x.1 ↔ (g < f ∧ c ∈ edge ps g) ∨ (g = f ∧ c ∈ old)

theorem CInv.start (ps : List (List Site)) : CInv ps 0 [] (List.replicate ps.length ([], none)) where
  len := by simp
  nil := fun c x h _ => by simp [List.getElem?_replicate] at h; simp [← h.2]
  mem := fun c x h g => by
    simp [List.getElem?_replicate] at h
    simp [← h.2]

theorem CInv.step {ps : List (List Site)} {f c0 k' : Nat} {old : List Nat} {X : List (List Nat × Option Nat)} (h : CInv ps f old X) {x : List Nat × Option Nat} (hx : X[c0]? = some x) :
    CInv ps f (old ++ [c0]) (X.set c0 (x.1 ++ [f], some k')) where
  len := by simp [h.len]
  nil := fun c y hy hn => by
    rw [List.getElem?_set] at hy
    split at hy
    · split at hy
      · simp only [Option.some.injEq] at hy; subst hy; cases hn
      · cases hy
    · exact h.nil c y hy hn
  mem := fun c y hy g => by
    rw [List.getElem?_set] at hy
    split at hy
    · rename_i e
      subst e
      split at hy
      · simp only [Option.some.injEq] at hy
        subst hy
        simp only [List.mem_append, h.mem _ x hx g, List.mem_singleton]
        grind
      · cases hy
    · rename_i e
      simp only [h.mem c y hy g, List.mem_append, List.mem_singleton]
      have : c ≠ c0 := fun h => e h.symm
      simp [this]

theorem CInv.next {ps : List (List Site)} {f : Nat} {X : List (List Nat × Option Nat)} (h : CInv ps f (edge ps f) X) : CInv ps (f + 1) [] X where
  len := h.len
  nil := h.nil
  mem := fun c x hx g => by
    rw [h.mem c x hx g]
    constructor
    · rintro (⟨h1, h2⟩ | ⟨rfl, h2⟩)
      · exact .inl ⟨by omega, h2⟩
      · exact .inl ⟨by omega, h2⟩
    · rintro (⟨h1, h2⟩ | ⟨_, h2⟩)
      · rcases Nat.lt_or_ge g f with h3 | h3
        · exact .inl ⟨h3, h2⟩
        · have : g = f := by omega
          subst this
          exact .inr ⟨rfl, h2⟩
      · cases h2

theorem St.toks_set (st : St) (o : Nat) (c c' : AObj) (L : List (Option Nat)) : ((st.set o c).toks L).set o c' = (st.set o c').toks L := by
  simp only [St.toks, St.set]
  congr 1
  funext p
  by_cases h : p = o <;> simp [h]

theorem TokL.same {st : St} {o : Nat} {c : AObj} {L : List (Option Nat)} (h : TokL (st.set o c) L) : TokL st L := ⟨h.one, h.fresh⟩
theorem TokL.set' {st : St} {o : Nat} {c : AObj} {L : List (Option Nat)} (h : TokL st L) : TokL (st.set o c) L := ⟨h.one, h.fresh⟩

theorem crow_set (X : List (List Nat × Option Nat)) (c : Nat) (y : List Nat × Option Nat) : (X.map crow).set (0 + c) (crow y) = (X.set c y).map crow := by
  rw [Nat.zero_add, List.map_set]

/-! the search -/

structure DInv (ps : List (List Site)) (t : Nat) (bs : List Bool) (S : List Nat) (cur : Option (Nat × List Nat)) : Prop where
  len : bs.length = ps.length
  sound : ∀ g : Nat, bs[g]? = some true → ∃ k, lv ps t k g = true
  top : bs[t]? = some true
  stack : ∀ g : Nat, g ∈ S → bs[g]? = some true
  curt : ∀ f l, cur = some (f, l) → bs[f]? = some true
  closed : ∀ c : Nat, bs[c]? = some true → c ∈ S ∨ (∀ g : Nat, c ∈ edge ps g → g < ps.length → bs[g]? = some true) ∨ (∃ l, cur = some (c, l) ∧ ∀ g ∈ l, bs[g]? = some true)
  size : S.length + bs.count false ≤ ps.length

section
variable {ps : List (List Site)} {t : Nat} {bs : List Bool} {S : List Nat}

theorem count_set_true {bs : List Bool} {g : Nat} (h : bs[g]? = some false) : (bs.set g true).count false + 1 = bs.count false := by
  induction bs generalizing g with
  | nil => simp at h
  | cons b bs ih =>
    cases g with
    | zero => simp at h; subst h; simp
    | succ g =>
      have := ih (g := g) (by simpa using h)
      simp only [List.set_cons_succ, List.count_cons]
      omega

theorem DInv.start (ht : t < ps.length) : DInv ps t ((List.replicate ps.length false).set t true) [t] none where
  len := by simp
  sound := (RInv.start ht).sound
  top := by simp [ht]
  stack := fun g hg => by simp at hg; subst hg; simp [ht]
  curt := fun f l h => by cases h
  closed := fun c hc => by
    rw [List.getElem?_set] at hc
    split at hc
    · rename_i e; exact .inl (by simp [e])
    · simp [List.getElem?_replicate] at hc
  size := by
    have := count_set_true (bs := List.replicate ps.length false) (g := t) (by simp [ht])
    simp only [List.count_replicate_self] at this
    simp only [List.length_cons, List.length_nil]
    omega

theorem DInv.pop {f : Nat} (h : DInv ps t bs (S ++ [f]) none) : DInv ps t bs S (some (f, [])) where
  len := h.len
  sound := h.sound
  top := h.top
  stack := fun g hg => h.stack g (List.mem_append_left _ hg)
  curt := fun f' l e => by cases e; exact h.stack f (by simp)
  closed := fun c hc => by
    rcases h.closed c hc with h1 | h1 | ⟨l, h1, _⟩
    · rcases List.mem_append.1 h1 with h2 | h2
      · exact .inl h2
      · simp at h2; subst h2; exact .inr (.inr ⟨[], rfl, fun g hg => by cases hg⟩)
    · exact .inr (.inl h1)
    · cases h1
  size := by have := h.size; simp only [List.length_append, List.length_cons, List.length_nil] at this; omega

theorem DInv.seen {f g : Nat} {l : List Nat} (h : DInv ps t bs S (some (f, l))) (hg : bs[g]? = some true) : DInv ps t bs S (some (f, l ++ [g])) where
  len := h.len
  sound := h.sound
  top := h.top
  stack := h.stack
  curt := fun f' l' e => by cases e; exact h.curt f l rfl
  closed := fun c hc => by
    rcases h.closed c hc with h1 | h1 | ⟨l', h1, h2⟩
    · exact .inl h1
    · exact .inr (.inl h1)
    · cases h1
      exact .inr (.inr ⟨_, rfl, fun g' hg' => (List.mem_append.1 hg').elim (h2 g') (fun h3 => by simp at h3; subst h3; exact hg)⟩)
  size := h.size

theorem DInv.visit {f g : Nat} {l : List Nat} (h : DInv ps t bs S (some (f, l))) (hg : bs[g]? = some false) (he : f ∈ edge ps g) : DInv ps t (bs.set g true) (S ++ [g]) (some (f, l ++ [g])) := by
  have hgl : g < bs.length := (List.getElem?_eq_some_iff.1 hg).1
  have keep : ∀ c : Nat, bs[c]? = some true → (bs.set g true)[c]? = some true := by
    intro c hc
    rw [List.getElem?_set]
    split
    · rename_i e; subst e; simp
    · exact hc
  have hnew : (bs.set g true)[g]? = some true := by simp [hgl]
  refine ⟨by simp [h.len], fun c hc => ?_, keep t h.top, fun c hc => ?_, fun f' l' e => by cases e; exact keep f (h.curt f l rfl), fun c hc => ?_, ?_⟩
  · rw [List.getElem?_set] at hc
    split at hc
    · rename_i e
      subst e
      obtain ⟨k, hk⟩ := h.sound f (h.curt f l rfl)
      exact ⟨k + 1, lv_step he hk⟩
    · exact h.sound c hc
  · rcases List.mem_append.1 hc with h1 | h1
    · exact keep c (h.stack c h1)
    · simp at h1; subst h1; exact hnew
  · rw [List.getElem?_set] at hc
    split at hc
    · rename_i e; exact .inl (by simp [e])
    · rcases h.closed c hc with h1 | h1 | ⟨l', h1, h2⟩
      · exact .inl (List.mem_append_left _ h1)
      · exact .inr (.inl fun g' h3 h4 => keep g' (h1 g' h3 h4))
      · cases h1
        exact .inr (.inr ⟨_, rfl, fun g' hg' => (List.mem_append.1 hg').elim (fun h3 => keep g' (h2 g' h3)) (fun h3 => by simp at h3; subst h3; exact hnew)⟩)
  · have h1 := h.size
    have h2 := count_set_true hg
    simp only [List.length_append, List.length_cons, List.length_nil]
    omega

theorem DInv.finish {f : Nat} {l : List Nat} (h : DInv ps t bs S (some (f, l))) (hl : ∀ g, f ∈ edge ps g → g < ps.length → g ∈ l) : DInv ps t bs S none where
  len := h.len
  sound := h.sound
  top := h.top
  stack := h.stack
  curt := fun f l h => by cases h
  closed := fun c hc => by
    rcases h.closed c hc with h1 | h1 | ⟨l', h1, h2⟩
    · exact .inl h1
    · exact .inr (.inl h1)
    · cases h1
      exact .inr (.inl fun g h3 h4 => h2 g (hl g h3 h4))
  size := h.size

theorem DInv.done (ht : t < ps.length) (h : DInv ps t bs [] none) : bs = inn ps t := by
  have key : ∀ k g, g < ps.length → lv ps t k g = true → bs[g]? = some true := by
    intro k
    induction k with
    | zero =>
      intro g _ hl
      simp only [lv, beq_iff_eq] at hl
      subst hl
      exact h.top
    | succ k ih =>
      intro g hg hl
      rw [lv, Bool.or_eq_true, List.any_eq_true] at hl
      rcases hl with hl | ⟨c, hc, hl⟩
      · exact ih g hg hl
      · rcases h.closed c (ih c (edge_lt hc) hl) with h1 | h1 | ⟨l, h1, _⟩
        · cases h1
        · exact h1 g hc hg
        · cases h1
  exact RInv.done ht ⟨h.len, h.sound, fun g hg hl => key _ g hg hl, fun g hg => by omega⟩

end

/-! the lists of callers, read only -/

def srow (x : List Nat × Option Nat) : List AV := [.view 1 (x.1.map irow) .shared]

theorem crow_le {X : List (List Nat × Option Nat)} (h : ∀ (c : Nat) (x : List Nat × Option Nat), X[c]? = some x → x.2 = none → x.1 = []) : Le (.view 1 (X.map crow) .shared) (.view 1 (X.map srow) .shared) := by
  refine .view 1 _ _ _ (by simp) (fun row hr c hc => ?_) (fun i row row' h1 h2 => ?_) (fun i j row row' c c' h1 h2 h3 h4 => ?_)
  · simp only [List.mem_map] at hr
    obtain ⟨x, _, rfl⟩ := hr
    simp only [srow, List.mem_singleton] at hc
    subst hc
    rfl
  · simp only [List.getElem?_map, Option.map_eq_some_iff] at h1 h2
    obtain ⟨x, hx, rfl⟩ := h1
    obtain ⟨y, hy, rfl⟩ := h2
    rfl
  · simp only [List.getElem?_map, Option.map_eq_some_iff] at h1 h2
    obtain ⟨x, hx, rfl⟩ := h1
    obtain ⟨y, hy, rfl⟩ := h2
    rw [hx] at hy
    cases hy
    cases j with
    | succ j => simp [crow] at h3
    | zero =>
      simp only [crow, srow, List.getElem?_cons_zero, Option.some.injEq] at h3 h4
      subst h3
      subst h4
      cases hx2 : x.2 with
      | none =>
        rw [h i x hx hx2]
        exact .nilShared 0 1
      | some k => exact .shared _ _ _

theorem StLe.toksDrop {st : St} {o : Nat} {c : AObj} {L : List (Option Nat)} (h : st.obj o = none) : StLe (((st.set o c).toks L).drop o) st :=
  ⟨fun p x hp => by
    have : p ≠ o := St.ne_of_new h hp
    rw [St.obj_drop_ne this]
    exact (St.obj_set_ne this).trans hp, fun t ht => by
    show (decide (some t ∈ L) || st.tok t) = true
    rw [ht, Bool.or_true], rfl⟩

theorem St.set_inner {st : St} {o2 o3 : Nat} (h : o3 ≠ o2) (a a' b : AObj) : ((st.set o2 a).set o3 b).set o2 a' = (st.set o2 a').set o3 b := by
  rw [St.set_comm (st.set o2 a) h, St.set_set]

theorem StLe.two {st : St} {o2 o3 : Nat} {a b : AObj} (h2 : st.obj o2 = none) (h3 : st.obj o3 = none) : StLe (((st.set o2 a).set o3 b).drop o2) st :=
  ⟨fun p x hp => by
    have e2 : p ≠ o2 := St.ne_of_new h2 hp
    have e3 : p ≠ o3 := St.ne_of_new h3 hp
    rw [St.obj_drop_ne e2, St.obj_set_ne e3, St.obj_set_ne e2]
    exact hp, fun t ht => ht, rfl⟩

end Go.Proofs
