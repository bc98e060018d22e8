/- Regions that draw their order, every operation keeping an invariant of the state. No conditions: definitions and lemmas only. -/
import Derived.Lib.LaidTab
import Derived.Sort.Grow
import Derived.Test.YtmbjedojknmgcaaDoorProg
import Derived.KernelRfl
import Derived.Test.YtmbjedojknmgcaaDoorB2
namespace Go.AM
open Go.RowKit (Below)

section
variable {P : Program} {n : Nat} {K : Post} {E : EPost} {T : Tmps} {st : St}

/-- From every state of the invariant to one of it, the outcome as told. -/
def EffI (P : Program) (n : Nat) (I : St → Prop) (T : Tmps) (o : Oper) (Q : AV → Prop) : Prop :=
  ∀ st g w a (K' : Act → World → Prop) (Q' : Exit → Act → World → Prop), I st → Sim g w st → Known g w T a → a.tmps.size = n →
    (∀ rv g' w' v st1, Ext g w g' w' → Sim g' w' st1 → R g' w' v rv → Q v → I st1 → K' (a.put o.dst rv) w') → o.wp P a w K' Q'

def StepI (P : Program) (n : Nat) (I : St → Prop) (ops : Array Oper) (T : Tmps) (o : Oper) (Q : AV → Prop) : Prop :=
  (wantedA ops T o = some true ∧ EffI P n I T o Q) ∨ (wantedA ops T o = some false ∧ Q (.lit undef))

/-- The walk in the text's order; behind it k. -/
def DRunI (P : Program) (n : Nat) (I : St → Prop) (ops : Array Oper) : List Oper → List (AV → Prop) → Tmps → (Tmps → St → Prop) → Prop
  | [], [], T, k => ∀ st, I st → k T st
  | o :: r, Q :: Qs, T, k => ∃ d, o.dst = some d ∧ Nat.blt d n = true ∧ (∃ u, Q u) ∧ StepI P n I ops (see ops o T) o Q ∧ ∀ u, Q u → DRunI P n I ops r Qs ((d, u) :: T) k
  | _, _, _, _ => False

/-- The entries of the first i operations. -/
def ents (l : List Oper) (us : Nat → AV) : Nat → Tmps
  | 0 => []
  | i + 1 => match (l[i]?).bind (·.dst) with
    | some d => (d, us i) :: ents l us i
    | none => ents l us i

theorem DRunI.out {I : St → Prop} {ops : Array Oper} {k : Tmps → St → Prop} (us : Nat → AV) (l : List Oper) : ∀ (r : List Oper) (Qs : List (AV → Prop)) (i0 : Nat), (∀ (i : Nat) (o : Oper), r[i]? = some o → l[i0 + i]? = some o) → (∀ (i : Nat) (Q : AV → Prop), Qs[i]? = some Q → Q (us (i0 + i))) →
    DRunI P n I ops r Qs (ents l us i0 ++ T) k → Qs.length = r.length ∧ (∀ st, I st → k (ents l us (i0 + r.length) ++ T) st) ∧
      ∀ i o, r[i]? = some o → ∃ d Q, o.dst = some d ∧ d < n ∧ Qs[i]? = some Q ∧ StepI P n I ops (see ops o (ents l us (i0 + i) ++ T)) o Q
  | [], [], i0, _, _, h => ⟨rfl, h, fun i o ho => by simp at ho⟩
  | [], _ :: _, _, _, _, h => h.elim
  | _ :: _, [], _, _, _, h => h.elim
  | o :: r, Q :: Qs, i0, hl, hq, h => by
    obtain ⟨d, h1, h2, _, h4, h5⟩ := h
    have h6 := h5 (us i0) (hq 0 Q rfl)
    have hl0 : l[i0]? = some o := by simpa using hl 0 o rfl
    have he : (d, us i0) :: (ents l us i0 ++ T) = ents l us (i0 + 1) ++ T := by
      rw [ents, hl0]
      simp only [Option.bind_some, h1, List.cons_append]
    rw [he] at h6
    obtain ⟨a1, a2, a3⟩ := DRunI.out us l r Qs (i0 + 1) (fun i o' ho' => by have := hl (i + 1) o' (by simpa using ho'); rwa [show i0 + (i + 1) = i0 + 1 + i by omega] at this) (fun i Q' hQ' => by have := hq (i + 1) Q' (by simpa using hQ'); rwa [show i0 + (i + 1) = i0 + 1 + i by omega] at this) h6
    refine ⟨by simp [a1], by rw [List.length_cons, show i0 + (r.length + 1) = i0 + 1 + r.length by omega]; exact a2, fun i o' ho' => ?_⟩
    cases i with
    | zero =>
      simp only [List.getElem?_cons_zero, Option.some.injEq] at ho'
      subst ho'
      exact ⟨d, Q, h1, by simpa using h2, rfl, h4⟩
    | succ i =>
      obtain ⟨d', Q', b1, b2, b3, b4⟩ := a3 i o' (by simpa using ho')
      exact ⟨d', Q', b1, b2, by simpa using b3, by rwa [show i0 + 1 + i = i0 + (i + 1) by omega] at b4⟩

/-- Values that fit, for all numbers. -/
theorem DRunI.fits {I : St → Prop} {ops : Array Oper} {k : Tmps → St → Prop} : ∀ (r : List Oper) (Qs : List (AV → Prop)) (T : Tmps), DRunI P n I ops r Qs T k → ∀ (i : Nat) (Q : AV → Prop), Qs[i]? = some Q → ∃ u, Q u
  | [], [], _, _, i, Q, h => by simp at h
  | [], _ :: _, _, h, _, _, _ => h.elim
  | _ :: _, [], _, h, _, _, _ => h.elim
  | o :: r, Q0 :: Qs, T, h, i, Q, hq => by
    obtain ⟨d, h1, h2, ⟨u, hu⟩, h4, h5⟩ := h
    cases i with
    | zero => simp at hq; subst hq; exact ⟨u, hu⟩
    | succ i => exact DRunI.fits r Qs _ (h5 u hu) i Q (by simpa using hq)

/-- An entry of ents, told by its number. -/
theorem ents_get {l : List Oper} {us : Nat → AV} : ∀ (i : Nat) (t : Nat) (v : AV), Tmps.get (ents l us i) t = some v → ∃ j, j < i ∧ (l[j]?).bind (·.dst) = some t ∧ v = us j
  | 0, t, v, h => by cases h
  | i + 1, t, v, h => by
    unfold ents at h
    cases hd : (l[i]?).bind (·.dst) with
    | none =>
      rw [hd] at h
      obtain ⟨j, h1, h2, h3⟩ := ents_get i t v h
      exact ⟨j, by omega, h2, h3⟩
    | some d =>
      rw [hd] at h
      simp only at h
      rw [Tmps.get_cons] at h
      by_cases hdt : d = t
      · rw [if_pos hdt] at h
        cases h
        exact ⟨i, by omega, by rw [hd, hdt], rfl⟩
      · rw [if_neg hdt] at h
        obtain ⟨j, h1, h2, h3⟩ := ents_get i t v h
        exact ⟨j, by omega, h2, h3⟩

theorem ents_none {l : List Oper} {us : Nat → AV} : ∀ (i : Nat) (t : Nat), Tmps.get (ents l us i) t = none → ∀ j, j < i → (l[j]?).bind (·.dst) ≠ some t
  | 0, t, _, j, h => by omega
  | i + 1, t, h, j, hj => by
    unfold ents at h
    cases hd : (l[i]?).bind (·.dst) with
    | none =>
      rw [hd] at h
      rcases Nat.lt_or_ge j i with h1 | h1
      · exact ents_none i t h j h1
      · have : j = i := by omega
        subst this
        rw [hd]
        simp
    | some d =>
      rw [hd] at h
      simp only at h
      rw [Tmps.get_cons] at h
      by_cases hdt : d = t
      · rw [if_pos hdt] at h; cases h
      · rw [if_neg hdt] at h
        rcases Nat.lt_or_ge j i with h1 | h1
        · exact ents_none i t h j h1
        · have : j = i := by omega
          subst this
          rw [hd]
          simpa using hdt

/-- A region that draws its order, every operation keeping the invariant. -/
theorem AWP.drawI {l : List Oper} {id : Nat} (hm : P.follows .mixedOrders = true) (k : Nat) (I : St → Prop) (Qs : List (AV → Prop)) (hok : drawOk l k l.length = true) (hI : I st)
    (h : DRunI P n I l.toArray (l.take k) Qs T fun T' st' => AOps P n l.toArray (l.drop k) K E T' st') : AWP P n (.region id l.toArray true) K E T st := by
  obtain ⟨hkl, hedge, hbody, htail⟩ := drawOk_spec hok
  have hfits := DRunI.fits _ _ _ h
  have hout := fun (us : Nat → AV) (hus : ∀ (i : Nat) (Q : AV → Prop), Qs[i]? = some Q → Q (us (0 + i))) => DRunI.out (T := T) us l (l.take k) Qs 0 (fun i o ho => by
    have hi : i < k := by have := (List.getElem?_eq_some_iff.1 ho).1; simp at this; omega
    rw [List.getElem?_take_of_lt hi] at ho
    rwa [Nat.zero_add]) hus h
  have hlk0 : (l.take k).length = k := by simp; omega
  -- some values that fit
  obtain ⟨wit, hwit⟩ : ∃ wit : Nat → AV, ∀ (i : Nat) (Q : AV → Prop), Qs[i]? = some Q → Q (wit i) := by
    have : ∀ i : Nat, ∃ u : AV, ∀ Q : AV → Prop, Qs[i]? = some Q → Q u := fun i => by
      cases hq : Qs[i]? with
      | none => exact ⟨.bool true, fun Q h => by cases h⟩
      | some Q =>
        obtain ⟨u, hu⟩ := hfits i Q hq
        exact ⟨u, fun Q' h => by cases h; exact hu⟩
    exact ⟨fun i => Classical.choose (this i), fun i Q hQ => Classical.choose_spec (this i) Q hQ⟩
  have hQl : Qs.length = k := by rw [(hout wit (fun i Q hQ => by rw [Nat.zero_add]; exact hwit i Q hQ)).1, hlk0]
  intro g0 w0 a0 hs0 hk0 hn0
  refine wp_region_any hm ?_
  obtain ⟨hed, hsd⟩ := hs0.draw
  let Inv : Array Bool → Act → World → Prop := fun listed a w => listed.size = l.length ∧ Closed l listed ∧ (∀ j, k ≤ j → j < l.length → listed.getD j true = false) ∧ a.tmps.size = n ∧ a.defers = a0.defers ∧
    ∃ g st1, Ext g0 w0 g w ∧ Sim g w st1 ∧ I st1 ∧
      (∀ t v, Tmps.get T t = some v → (∀ i, i < k → (l[i]?).bind (·.dst) = some t → listed.getD i false = false) → ∃ rv, a.tmps[t]? = some rv ∧ R g w v rv) ∧
      (∀ i d Q, i < k → (l[i]?).bind (·.dst) = some d → Qs[i]? = some Q → listed.getD i false = true → ∃ u rv, Q u ∧ a.tmps[d]? = some rv ∧ R g w u rv)
  let μ : Array Bool → Nat := fun listed => (List.range l.length).countP fun j => !listed.getD j true
  have hμ : ∀ (listed : Array Bool) i, i < l.length → listed.size = l.length → listed.getD i true = false → μ (listed.setIfInBounds i true) + 1 ≤ μ listed := by
    intro listed i hil hsz hi
    have gen : ∀ (A : List Nat), i ∈ A → A.countP (fun j => !(listed.setIfInBounds i true).getD j true) + 1 ≤ A.countP (fun j => !listed.getD j true) := by
      have le : ∀ (A : List Nat), A.countP (fun j => !(listed.setIfInBounds i true).getD j true) ≤ A.countP (fun j => !listed.getD j true) := fun A => List.countP_mono_left fun j _ hj => by
        by_cases hij : i = j
        · subst hij
          rw [Array.getD_eq_getD_getElem?, Array.getElem?_setIfInBounds_self_of_lt (by omega)] at hj
          simp at hj
        · rw [getD_set_ne true hij] at hj; exact hj
      intro A
      induction A with
      | nil => intro h; simp at h
      | cons x A ih =>
        intro h
        rw [List.countP_cons, List.countP_cons]
        by_cases hx : x = i
        · subst hx
          have h1 : (!(listed.setIfInBounds x true).getD x true) = false := by
            rw [Array.getD_eq_getD_getElem?, Array.getElem?_setIfInBounds_self_of_lt (by omega)]; rfl
          have h2 : (!listed.getD x true) = true := by rw [hi]; rfl
          rw [h1, h2, if_neg (by decide), if_pos rfl]
          have := le A
          omega
        · have hm' : i ∈ A := by rcases List.mem_cons.1 h with h | h; exact absurd h.symm hx; exact h
          have := ih hm'
          have h3 : (listed.setIfInBounds i true).getD x true = listed.getD x true := getD_set_ne true (Ne.symm hx)
          rw [h3]
          omega
    exact gen _ (List.mem_range.2 hil)
  -- values that are there
  have choose : ∀ (listed : Array Bool) (a : Act) (g : G) (w : World), (∀ i d Q, i < k → (l[i]?).bind (·.dst) = some d → Qs[i]? = some Q → listed.getD i false = true → ∃ u rv, Q u ∧ a.tmps[d]? = some rv ∧ R g w u rv) →
      ∃ us : Nat → AV, (∀ (i : Nat) (Q : AV → Prop), Qs[i]? = some Q → Q (us i)) ∧ ∀ i d, i < k → (l[i]?).bind (·.dst) = some d → listed.getD i false = true → ∃ rv, a.tmps[d]? = some rv ∧ R g w (us i) rv := by
    intro listed a g w hB
    have : ∀ i : Nat, ∃ u : AV, (∀ Q : AV → Prop, Qs[i]? = some Q → Q u) ∧ ∀ d, i < k → (l[i]?).bind (·.dst) = some d → listed.getD i false = true → ∃ rv, a.tmps[d]? = some rv ∧ R g w u rv := fun i => by
      by_cases hc : i < k ∧ listed.getD i false = true
      · obtain ⟨hik, hli⟩ := hc
        have hd := (hbody i l[i] (List.getElem?_eq_getElem (by omega)) hik).1
        obtain ⟨d, hd⟩ := Option.isSome_iff_exists.1 hd
        have hd' : (l[i]?).bind (·.dst) = some d := by rw [List.getElem?_eq_getElem (by omega)]; exact hd
        have hq : Qs[i]? = some (Qs[i]'(by omega)) := List.getElem?_eq_getElem _
        obtain ⟨u, rv, h1, h2, h3⟩ := hB i d _ hik hd' hq hli
        refine ⟨u, fun Q h => by rw [hq] at h; cases h; exact h1, fun d' _ hd2 _ => ?_⟩
        rw [hd'] at hd2
        cases hd2
        exact ⟨rv, h2, h3⟩
      · exact ⟨wit i, hwit i, fun d h1 _ h2 => absurd ⟨h1, h2⟩ hc⟩
    exact ⟨fun i => Classical.choose (this i), fun i => (Classical.choose_spec (this i)).1, fun i => (Classical.choose_spec (this i)).2⟩
  -- what is seen of a walk's entries is known
  have done : ∀ (m : Nat) (listed : Array Bool) (a : Act) (w : World), Inv listed a w → (∀ j, j < k → listed.getD j true = true) → l.length ≤ k + m → wpAny P .any l.toArray (QOf n a0.defers g0 w0 K E) m listed a w := by
    intro m listed a w ⟨hsz, hcl, htl, hn, hd, g, st1, he, hs, hI1, hA, hB⟩ hall hm'
    have hlist : ∀ j, j < k → listed.getD j false = true := fun j hj => by
      have h1 := hall j hj
      rw [Array.getD_eq_getD_getElem?, Array.getElem?_eq_getElem (by omega)] at h1 ⊢
      simpa using h1
    refine wpAny_tail hedge k htail m k listed a w (Nat.le_refl _) hkl hm' hsz (fun j hj => ?_) hcl ?_
    · by_cases hjk : j < k
      · rw [hall j hjk, decide_eq_true hjk]
      · rw [htl j (by omega) hj, decide_eq_false hjk]
    · obtain ⟨us, hus, hus2⟩ := choose listed a g w hB
      obtain ⟨_, hfin, _⟩ := hout us (fun i Q hQ => by rw [Nat.zero_add]; exact hus i Q hQ)
      rw [hlk0, Nat.zero_add] at hfin
      have h5 := hfin st1 hI1 g w a hs (fun t u hu => by
        rw [get_append] at hu
        cases hg : Tmps.get (ents l us k) t with
        | some u' =>
          rw [hg] at hu
          cases hu
          obtain ⟨j, hj, hdj, rfl⟩ := ents_get k t _ hg
          exact hus2 j t hj hdj (hlist j hj)
        | none =>
          rw [hg] at hu
          exact hA t u hu fun i hi hit => absurd hit (ents_none k t hg i hi)) hn
      rw [hd] at h5
      exact wpList_mono (fun _ _ _ q => QOf.ext he q) _ _ _ h5
  -- a step of the body
  have step : ∀ (K' : Act → World → Prop) (listed : Array Bool) (a : Act) (w : World) (i : Nat), Inv listed a w → i < k → i ∈ Region.ready .any l.toArray listed → (∀ a' w', Inv (listed.setIfInBounds i true) a' w' → K' a' w') →
      wpOp P l.toArray (QOf n a0.defers g0 w0 K E) i K' a w := by
    intro K' listed a w i ⟨hsz, hcl, htl, hn, hd, g, st1, he, hs, hI1, hA, hB⟩ hik hri hK
    obtain ⟨hun, o, ho, hed'⟩ := ready_edges hri
    have hil := (List.getElem?_eq_some_iff.1 ho).1
    have hunf : listed.getD i false = false := by
      rw [Array.getD_eq_getD_getElem?, Array.getElem?_eq_getElem (by omega)] at hun ⊢
      simpa using hun
    have hcl' := hcl.set ho hed'
    have hsz' : (listed.setIfInBounds i true).size = l.length := by simpa using hsz
    have htl' : ∀ j, k ≤ j → j < l.length → (listed.setIfInBounds i true).getD j true = false := fun j h1 h2 => by
      rw [getD_set_ne true (by omega)]; exact htl j h1 h2
    obtain ⟨us, hus, hus2⟩ := choose listed a g w hB
    obtain ⟨_, _, hops⟩ := hout us (fun i Q hQ => by rw [Nat.zero_add]; exact hus i Q hQ)
    obtain ⟨d, Q, hod, hdn, hQi, hstep⟩ := hops i o (by rw [List.getElem?_take_of_lt hik]; exact ho)
    rw [Nat.zero_add] at hstep
    -- the entries of others that are seen are there
    have hlooked : ∀ j, j < k → ∀ t, (l[j]?).bind (·.dst) = some t → (o.looksAt l.toArray).contains t = true → listed.getD j false = true ∧ j < i := by
      intro j hj t hjt hlook
      have hp : l[j]? = some l[j] := List.getElem?_eq_getElem (by omega)
      rw [hp] at hjt
      have h2 := (((hbody i o ho hik).2 j _ hj hp).2 t hjt hlook).2
      refine ⟨h2 listed hcl hed', ?_⟩
      have hcl2 : Closed l (Array.ofFn fun q : Fin l.length => decide (q.val < i)) := by
        intro q oq hq hq' x hx'
        have hql := (List.getElem?_eq_some_iff.1 hq).1
        rw [Array.getD_eq_getD_getElem?, Array.getElem?_ofFn] at hq' ⊢
        simp only [hql, dif_pos, Option.getD_some, decide_eq_true_eq] at hq'
        have hxq := hedge q oq hq x hx'
        simp only [show x < l.length by omega, dif_pos, Option.getD_some, decide_eq_true_eq]
        omega
      have h3 := h2 _ hcl2 (fun x hx' => by
        have hxi := hedge i o ho x hx'
        rw [Array.getD_eq_getD_getElem?, Array.getElem?_ofFn]
        simp only [show x < l.length by omega, dif_pos, Option.getD_some, decide_eq_true_eq]
        exact hxi)
      rw [Array.getD_eq_getD_getElem?, Array.getElem?_ofFn] at h3
      simp only [show j < l.length by omega, dif_pos, Option.getD_some, decide_eq_true_eq] at h3
      exact h3
    have hknown : Known g w (see l.toArray o (ents l us i ++ T)) a := fun t v ht => by
      obtain ⟨hlook, hget⟩ := get_filter _ _ _ _ ht
      rw [get_append] at hget
      cases hg : Tmps.get (ents l us i) t with
      | some u' =>
        rw [hg] at hget
        cases hget
        obtain ⟨j, hj, hdj, rfl⟩ := ents_get i t _ hg
        exact hus2 j t (by omega) hdj (hlooked j (by omega) t hdj hlook).1
      | none =>
        rw [hg] at hget
        refine hA t v hget fun j hj hjt => ?_
        have h1 := hlooked j hj t hjt hlook
        exact absurd hjt (ents_none i t hg j h1.2)
    have hother : ∀ t, t ≠ d → ∀ rv', (a.put o.dst rv').tmps[t]? = a.tmps[t]? := fun t ht rv' => by
      rw [hod]
      simp only [Act.put, Array.getElem?_setIfInBounds]
      rw [if_neg (Ne.symm ht)]
    have hself : ∀ rv', (a.put o.dst rv').tmps[d]? = some rv' := fun rv' => by
      rw [hod]
      simp only [Act.put, Array.getElem?_setIfInBounds]
      simp [hn, hdn]
    have hdi : (l[i]?).bind (·.dst) = some d := by rw [ho]; exact hod
    have after : ∀ v rv g' w' st2, Ext g w g' w' → Sim g' w' st2 → R g' w' v rv → Q v → I st2 → Inv (listed.setIfInBounds i true) (a.put o.dst rv) w' := by
      intro v rv g' w' st2 he' hs' hR hQv hI2
      refine ⟨hsz', hcl', htl', by rw [Act.size_put]; exact hn, by rw [Act.defers_put]; exact hd, g', st2, he.trans he', hs', hI2, fun t u ht hwr => ?_, fun j d' Q' hj hjd hjQ hjl => ?_⟩
      · have htd : t ≠ d := fun htd => by
          have := hwr i hik (by rw [htd]; exact hdi)
          rw [Array.getD_eq_getD_getElem?, Array.getElem?_setIfInBounds_self_of_lt (by omega)] at this
          simp at this
        obtain ⟨ru, h1, h2⟩ := hA t u ht fun j hj hjt => by
          have h3 := hwr j hj hjt
          by_cases hij : i = j
          · subst hij; exact hunf
          · rwa [getD_set_ne false hij] at h3
        exact ⟨ru, by rw [hother t htd]; exact h1, h2.ext he'⟩
      · by_cases hij : i = j
        · subst hij
          rw [hdi] at hjd
          cases hjd
          rw [hQi] at hjQ
          cases hjQ
          exact ⟨v, rv, hQv, hself rv, hR⟩
        · rw [getD_set_ne false hij] at hjl
          obtain ⟨u, ru, h1, h2, h3⟩ := hB j d' Q' hj hjd hjQ hjl
          refine ⟨u, ru, h1, ?_, h3.ext he'⟩
          rw [hother d' ?_]
          · exact h2
          · have hp : l[j]? = some l[j] := List.getElem?_eq_getElem (by omega)
            rw [hp] at hjd
            exact fun hdd => ((hbody i o ho hik).2 j _ hj hp).1 hij d d' hod hjd hdd.symm
    unfold wpOp
    simp only [List.getElem?_toArray, ho]
    rcases hstep with ⟨hw, hq⟩ | ⟨hw, hq⟩
    · rw [wanted_of hknown hw, if_pos rfl]
      left
      exact hq st1 g w a K' _ hI1 hs hknown hn fun rv g' w' v st2 he' hs' hR hQv hI2 => hK _ _ (after v rv g' w' st2 he' hs' hR hQv hI2)
    · rw [wanted_of hknown hw, if_neg (by simp)]
      exact hK _ _ (after _ undef g w st1 (.refl _ _) hs (.lit _) hq hI1)
  have key : ∀ (m : Nat) (listed : Array Bool) (a : Act) (w : World), Inv listed a w → μ listed ≤ m → wpAny P .any l.toArray (QOf n a0.defers g0 w0 K E) m listed a w := by
    intro m
    induction m with
    | zero =>
      intro listed a w hi hm0
      -- nothing is left
      have hall : ∀ j, j < l.length → listed.getD j true = true := fun j hj => by
        cases hv : listed.getD j true with
        | true => rfl
        | false => have := hμ listed j hj hi.1 hv; omega
      have hlk : l.length = k := by
        rcases Nat.eq_or_lt_of_le hkl with h' | h'
        · exact h'.symm
        · have h1 := hall k h'
          have h2 := hi.2.2.1 k (Nat.le_refl _) h'
          rw [h1] at h2
          cases h2
      exact done 0 listed a w hi (fun j hj => hall j (by omega)) (by omega)
    | succ m ih =>
      intro listed a w hi hm1
      by_cases hall : ∀ j, j < k → listed.getD j true = true
      · refine done (m + 1) listed a w hi hall ?_
        -- the tail is unlisted: it is counted
        have : l.length - k ≤ μ listed := by
          exact countP_range_ge k _ l.length fun j h1 h2 => by rw [hi.2.2.1 j h1 h2]; rfl
        omega
      · have hex : ∃ j, j < k ∧ listed.getD j true = false ∧ ∀ q, q < j → listed.getD q true = true := by
          have : ∃ j, j < k ∧ listed.getD j true = false := by
            apply Classical.byContradiction
            intro hno
            apply hall
            intro j hj
            cases hv : listed.getD j true with
            | true => rfl
            | false => exact absurd ⟨j, hj, hv⟩ hno
          obtain ⟨j, hj⟩ := this
          induction j using Nat.strongRecOn with
          | _ j ihj =>
            by_cases hq : ∀ q, q < j → listed.getD q true = true
            · exact ⟨j, hj.1, hj.2, hq⟩
            · simp only [Classical.not_forall] at hq
              obtain ⟨q, hqj, hq⟩ := hq
              exact ihj q hqj ⟨by omega, by simpa using hq⟩
        obtain ⟨j0, hj0, hv0, hmin⟩ := hex
        have hsz := hi.1
        have hjl : j0 < l.length := by omega
        have hready : j0 ∈ Region.ready .any l.toArray listed := ready_of_edges hv0 (List.getElem?_eq_getElem hjl) (fun x hx => by
          have hxj := hedge j0 _ (List.getElem?_eq_getElem hjl) x hx
          have h1 := hmin x hxj
          rw [Array.getD_eq_getD_getElem?, Array.getElem?_eq_getElem (by omega)] at h1 ⊢
          simpa using h1)
        refine ⟨fun h0 => (by rw [h0] at hready; cases hready), fun i hri => ?_⟩
        obtain ⟨hun, o, ho, hed'⟩ := ready_edges hri
        have hil := (List.getElem?_eq_some_iff.1 ho).1
        have hik : i < k := by
          rcases Nat.lt_or_ge i k with h' | h'
          · exact h'
          · have h1 := htail i o h' ho listed hi.2.1 hed' j0 (by omega)
            rw [Array.getD_eq_getD_getElem?, Array.getElem?_eq_getElem (by omega)] at h1 hv0
            simp at h1 hv0
            rw [h1] at hv0
            cases hv0
        exact step _ listed a w i hi hik hri fun a' w' hi' => ih _ a' w' hi' (by have := hμ listed i hil hsz hun; omega)
  refine key _ _ a0 _ ?_ ?_
  · have hnone : ∀ j, (Array.replicate l.toArray.size false).getD j false = false := fun j => by
      rw [Array.getD_eq_getD_getElem?, Array.getElem?_replicate]
      split <;> rfl
    refine ⟨by simp, fun i o ho hi' => ?_, fun j _ hj => by simp [hj], hn0, rfl, g0, st, hed, hsd, hI, fun t v ht _ => (hk0.ext hed) t v ht, fun i d Q _ _ _ hl => ?_⟩
    · rw [hnone] at hi'; cases hi'
    · rw [hnone] at hl; cases hl
  · have := List.countP_le_length (p := fun j => !(Array.replicate l.length false).getD j true) (l := List.range l.length)
    exact Nat.le_trans this (by simp)

end
end Go.AM
/- Shifts, function values that capture, copies, slices of arrays. No conditions: lemmas only. -/
namespace Go.AM
open Go.RowKit (Below)
section
variable {P : Program} {n : Nat} {K : Post} {E : EPost} {T : Tmps} {st : St} {ops : Array Oper} {rest : List Oper}
variable {ty : TypeId} {pos : String} {es : Array Edge} {gd : Option (Nat × Bool)} {d : Tmp} {x y : Operand} {dd : Option Tmp}
/-- Shifts. -/
theorem shl_ {t u : TypeId} {k k' : IntKind} {a c : Int} {b : Nat} (hg : goes ops n T ⟨dd, .binOp .shl t x y u, ty, pos, es, gd⟩ = some d)
    (hx : ev st T x = some (.int k a)) (hy : ev st T y = some (.int k' (b : Int))) (hc : k.wrap (a * 2 ^ (min b k.bits)) = c)
    (h : AOps P n ops rest K E ((d, .int k c) :: T) st) : AOps P n ops (⟨dd, .binOp .shl t x y u, ty, pos, es, gd⟩ :: rest) K E T st := by
  obtain ⟨hw, hd, hok⟩ := goes_some hg
  simp only at hd
  subst hd
  refine AOps.pure hw hok _ (fun g w a' hs hk => ?_) h
  have h1 := ev_R hs hk hx
  have h2 := ev_R hs hk hy
  generalize hu : a'.eval x = u1 at h1
  generalize hv : a'.eval y = u2 at h2
  cases h1
  cases h2
  subst hc
  refine ⟨_, ?_, .int k _⟩
  have hb : ¬ (b : Int) < 0 := by omega
  simp [execOp, hu, hv, eqGuard_at_int, binOp, Op.shift, hb]
theorem shr_ {t u : TypeId} {k k' : IntKind} {a c : Int} {b : Nat} (hg : goes ops n T ⟨dd, .binOp .shr t x y u, ty, pos, es, gd⟩ = some d)
    (hx : ev st T x = some (.int k a)) (hy : ev st T y = some (.int k' (b : Int))) (hc : a.fdiv (2 ^ (min b k.bits)) = c)
    (h : AOps P n ops rest K E ((d, .int k c) :: T) st) : AOps P n ops (⟨dd, .binOp .shr t x y u, ty, pos, es, gd⟩ :: rest) K E T st := by
  obtain ⟨hw, hd, hok⟩ := goes_some hg
  simp only at hd
  subst hd
  refine AOps.pure hw hok _ (fun g w a' hs hk => ?_) h
  have h1 := ev_R hs hk hx
  have h2 := ev_R hs hk hy
  generalize hu : a'.eval x = u1 at h1
  generalize hv : a'.eval y = u2 at h2
  cases h1
  cases h2
  subst hc
  refine ⟨_, ?_, .int k _⟩
  have hb : ¬ (b : Int) < 0 := by omega
  simp [execOp, hu, hv, eqGuard_at_int, binOp, Op.shift, hb]
/-- And, or, xor. -/
theorem btk {bo : BinOp} {t u : TypeId} {k : IntKind} {a b c : Int} (hbo : bo = .and ∨ bo = .or ∨ bo = .xor) (hg : goes ops n T ⟨dd, .binOp bo t x y u, ty, pos, es, gd⟩ = some d)
    (hx : ev st T x = some (.int k a)) (hy : ev st T y = some (.int k b)) (hc : bits bo k a b = c)
    (h : AOps P n ops rest K E ((d, .int k c) :: T) st) : AOps P n ops (⟨dd, .binOp bo t x y u, ty, pos, es, gd⟩ :: rest) K E T st := by
  obtain ⟨hw, hd, hok⟩ := goes_some hg
  simp only at hd
  subst hd
  exact AOps.bits hbo hw hok hx hy hc h
/-- A function value that captures. -/
theorem mkf {fn : Fn} {fi ca : Array Operand} {cs ds : List AV} (hg : goes ops n T ⟨dd, .makeFunc fn fi ca, ty, pos, es, gd⟩ = some d)
    (h1 : evs st T fi.toList = some cs) (h2 : evs st T ca.toList = some ds)
    (h : AOps P n ops rest K E ((d, .func fn cs ds) :: T) st) : AOps P n ops (⟨dd, .makeFunc fn fi ca, ty, pos, es, gd⟩ :: rest) K E T st := by
  obtain ⟨hw, hd, hok⟩ := goes_some hg
  simp only at hd
  subst hd
  refine AOps.pure hw hok _ (fun g w a' hs hk => ?_) h
  obtain ⟨l1, r1⟩ := evs_R hs hk _ _ h1
  obtain ⟨l2, r2⟩ := evs_R hs hk _ _ h2
  refine ⟨.func fn (fi.map a'.eval) (ca.map a'.eval), by simp [execOp, Instr.makeFunc], .func fn cs ds _ _ (by simpa using l1) (by simpa using l2) (fun i c v hc hv => r1 i c v hc (by simpa using hv)) (fun i c v hc hv => r2 i c v hc (by simpa using hv))⟩
/-- A call of a function value that captures. -/
theorem AOps.callC {d : Option Tmp} {f : FuncId} [hf : GoFun P f] {args : Array Operand} {tys : Array TypeId} {avs ds : List AV} {Rt RP : AV → St → Prop} (hx : ev st T x = some (.func (.func f) [] ds))
    (hw : wantedA ops T ⟨d, .call ⟨.value x, args, tys⟩, ty, pos, es, gd⟩ = some true) (hd : dstOk d n = true) (ha : evs st T args.toList = some avs)
    (hc : ACalls P f (avs ++ ds) st Rt RP) (h : ∀ v st', Rt v st' → AOps P n ops rest K E (T.put d v) st') (hp : ∀ v st', RP v st' → E (.panic v) T st') :
    AOps P n ops (⟨d, .call ⟨.value x, args, tys⟩, ty, pos, es, gd⟩ :: rest) K E T st := by
  intro g w a hs hk hn
  obtain ⟨hl, hr⟩ := evs_R hs hk _ _ ha
  obtain ⟨fn, h1, h2, h3⟩ := hf.out
  have hxR := ev_R hs hk hx
  generalize hux : a.eval x = ux at hxR
  obtain ⟨us, hux', hlu, hru⟩ : ∃ us : Array Value, ux = .func (.func f) #[] us ∧ ds.length = us.size ∧ ∀ (i : Nat) c v, ds[i]? = some c → us[i]? = some v → R g w c v := by
    cases hxR with
    | func _ _ _ vs us hl1 hl2 _ h' =>
      have e1 : vs = #[] := Array.eq_empty_of_size_eq_zero (by simpa using hl1.symm)
      exact ⟨us, by rw [e1], hl2, h'⟩
  subst hux'
  have hcall := hc g w (args.map a.eval ++ us) hs (by simp [hlu]; simpa using hl) (fun i c v hc hv => by
    rw [List.getElem?_append] at hc
    rw [Array.getElem?_append] at hv
    simp only [Array.size_map] at hv
    simp only [Array.length_toList] at hl
    split at hc
    · rw [if_pos (by omega)] at hv
      exact hr i c v hc (by simpa using hv)
    · rw [if_neg (by omega)] at hv
      exact hru _ c v hc (by rw [hl]; exact hv))
  unfold wpList
  rw [wanted_of hk hw, if_pos rfl]
  left
  have hrun : (execOp a.eval ⟨d, .call ⟨.value x, args, tys⟩, ty, pos, es, gd⟩).run P w = .ok (.enter f (args.map a.eval ++ us)) w := by
    have h2' : ¬ fn.body = none := by intro e; simp [e] at h2
    have h3' : ¬ fn.name = "runtime.NumGoroutine" := by simpa using h3
    simp [execOp, resolve, hux, Deferred.ofValue, invoke, callFunc, h1, h2', h3']
  unfold Oper.wp
  rw [hrun]
  simp only [Oper.upon]
  refine hcall.mono fun e w' ⟨g', st', he, hs', hq⟩ => ?_
  cases e with
  | returned rv =>
    obtain ⟨v, hR, hRt⟩ := hq
    have h4 := h v st' hRt g' w' (a.put d rv) hs' ((hk.ext he).put (fun t ht => hn ▸ dstOk_lt hd t ht) hR) (by rw [Act.size_put]; exact hn)
    rw [Act.defers_put] at h4
    exact wpList_mono (fun _ _ _ q => QOf.ext he q) rest _ _ h4
  | panicked ch =>
    obtain ⟨pv, v, x1, x2, x3⟩ := hq
    exact ⟨hn, rfl, g', T, st', he, hs', hk.ext he, pv, v, x1, x2, hp pv st' x3⟩
  | outgrown => exact hq.elim
/-- .. that answers X and leaves the state alone. -/
theorem clc {f : FuncId} [hf : GoFun P f] {args : Array Operand} {tys : Array TypeId} {avs ds : List AV} {X : AV}
    (hg : goes ops n T ⟨dd, .call ⟨.value x, args, tys⟩, ty, pos, es, gd⟩ = some d) (hx : ev st T x = some (.func (.func f) [] ds)) (ha : evs st T args.toList = some avs)
    (hc : ACalls P f (avs ++ ds) st (fun v st' => v = X ∧ st' = st) (fun _ _ => False)) (h : AOps P n ops rest K E ((d, X) :: T) st) :
    AOps P n ops (⟨dd, .call ⟨.value x, args, tys⟩, ty, pos, es, gd⟩ :: rest) K E T st := by
  obtain ⟨hw, hd, hok⟩ := goes_some hg
  simp only at hd
  subst hd
  exact AOps.callC hx hw hok ha hc (fun v st' ⟨h1, h2⟩ => by subst h1 h2; exact h) fun _ _ h => h.elim
/-- Cells are written in a row. -/
theorem Sim.poke {g : G} {w : World} (hs : Sim g w st) {o s b m : Nat} {oty : TypeId} {rows : List (List AV)} (ho : st.obj o = some (.cells oty s rows)) (hb : g.obj o = some (b, m)) (p : Nat) (cs : List AV) (vs : List Value)
    (hlen : cs.length = vs.length) (hv : ∀ u ∈ vs, u.oneCell' = true) (hR : ∀ (i : Nat) c u, cs[i]? = some c → vs[i]? = some u → R g w c u)
    (hp : p + vs.length ≤ rows.length * s) (rows' : List (List AV)) (hl' : rows'.length = rows.length) (hr' : ∀ row ∈ rows', row.length = s) (h1 : ∀ row ∈ rows', ∀ c ∈ row, c.one = true)
    (hspec : ∀ (i j : Nat) row c, rows'[i]? = some row → row[j]? = some c → (p ≤ i * s + j ∧ i * s + j < p + cs.length ∧ cs[i * s + j - p]? = some c) ∨ ((i * s + j < p ∨ p + cs.length ≤ i * s + j) ∧ ∃ row0, rows[i]? = some row0 ∧ row0[j]? = some c)) :
    ∃ w', (storeCells ⟨b, p, none⟩ vs).run P w = .ok () w' ∧ Ext g w g w' ∧ Sim g w' (st.set o (.cells oty s rows')) := by
  obtain ⟨_, ⟨arr, ha, hasz, hml, hl, h1', hc⟩, _⟩ := hs.objOf ho hb
  have hst := run_storeCells_at P b p oty vs 0 arr w ha (by rw [hasz]; omega) hv
  simp only [Nat.add_zero] at hst
  generalize harr' : (arr.toList.take p ++ vs ++ arr.toList.drop (p + vs.length)).toArray = arr' at hst
  have hsize' : arr'.size = m := by
    rw [← harr', ← hasz]
    simp
    omega
  have flat : ∀ q : Nat, arr'[q]? = if q < p then arr[q]? else if q < p + vs.length then vs[q - p]? else arr[q]? := by
    intro q
    rw [← harr']
    simp only [List.getElem?_toArray, List.append_assoc]
    rw [List.getElem?_append]
    simp only [List.length_take, Array.length_toList]
    have hmin : min p arr.size = p := by omega
    rw [hmin]
    by_cases hq : q < p
    · rw [if_pos hq, if_pos hq, List.getElem?_take_of_lt hq, Array.getElem?_toList]
    · rw [if_neg hq, if_neg hq, List.getElem?_append]
      by_cases hq2 : q < p + vs.length
      · rw [if_pos (by omega), if_pos hq2]
      · rw [if_neg (by omega), if_neg hq2, List.getElem?_drop, Array.getElem?_toList]
        congr 1
        omega
  obtain ⟨he', hs'⟩ := hs.write (c' := .cells oty s rows') ho hb (w.setRow b arr') (by simp) rfl rfl rfl (fun k hk => setRow_other w b k arr' hk) (fun he' => by
    refine ⟨arr', setRow_heap w b arr arr' oty (0, 0) ha, hsize', by rw [hl']; exact hml, hr', h1, ?_⟩
    intro i j row c hrow hcj
    rcases hspec i j row c hrow hcj with ⟨q1, q2, q3⟩ | ⟨q1, row0, q2, q3⟩
    · have hlt : i * s + j - p < vs.length := by omega
      refine ⟨vs[i * s + j - p], ?_, (hR _ c _ q3 (List.getElem?_eq_getElem hlt)).ext he'⟩
      rw [flat, if_neg (by omega), if_pos (by omega), List.getElem?_eq_getElem hlt]
    · obtain ⟨u, hu1, hu2⟩ := hc i j row0 c q2 q3
      refine ⟨u, ?_, hu2.ext he'⟩
      rw [flat]
      rcases q1 with q | q
      · rw [if_pos q]; exact hu1
      · rw [if_neg (by omega), if_neg (by omega)]; exact hu1)
  exact ⟨_, hst, he', hs'⟩
theorem one_rows {rows : List (List AV)} (h : ∀ row ∈ rows, row.length = 1) (q : Nat) : rows.flatten[q]? = (rows[q]?).bind (·[0]?) := by
  induction rows generalizing q with
  | nil => simp
  | cons r rs ih =>
    have hr := h r (List.mem_cons_self ..)
    obtain ⟨c, rfl⟩ := List.length_eq_one_iff.1 hr
    cases q with
    | zero => simp
    | succ q => simpa using ih (fun row hm => h row (List.mem_cons_of_mem _ hm)) q
theorem one_rows_len {rows : List (List AV)} (h : ∀ row ∈ rows, row.length = 1) : rows.flatten.length = rows.length := by
  induction rows with
  | nil => rfl
  | cons r rs ih => simp [h r (List.mem_cons_self ..), ih (fun row hm => h row (List.mem_cons_of_mem _ hm))]; omega
/-- What a copy of one-cell elements does. -/
theorem copy_run {g : G} {w : World} (hs : Sim g w st) {t e : TypeId} {by_ : Nat} {ez : Value} [hu : Und P t (.slice e)] [hie : Inf P e 1 by_ ez] {ty : TypeId} {ta : Array TypeId} (hta : ta[0]? = some t) {o s lo len : Nat} {oty : TypeId} {rows rows2 rows' : List (List AV)} {tk2 : Tok} {ux uy : Value}
    (h1 : R g w (.msl o 1 lo len) ux) (ho : st.obj o = some (.cells oty s rows)) (hlo : lo + len ≤ rows.length * s) (h2 : R g w (.view 1 rows2 tk2) uy)
    (hl' : rows'.length = rows.length) (hr' : ∀ row ∈ rows', row.length = s) (h1' : ∀ row ∈ rows', ∀ c ∈ row, c.one = true)
    (hspec : ∀ (i j : Nat) row c, rows'[i]? = some row → row[j]? = some c → (lo ≤ i * s + j ∧ i * s + j < lo + min rows2.length len ∧ (rows2.flatten.take (min rows2.length len))[i * s + j - lo]? = some c) ∨ ((i * s + j < lo ∨ lo + min rows2.length len ≤ i * s + j) ∧ ∃ row0, rows[i]? = some row0 ∧ row0[j]? = some c)) :
    ∃ w', (Builtin.copy_ ta ty #[ux, uy]).run P w = .ok (.int .i64 (min rows2.length len : Nat)) w' ∧ Ext g w g w' ∧ Sim g w' (st.set o (.cells oty s rows')) := by
  obtain ⟨base, cap, f, rfl, hbn, hR2, hsz2, hone2, hcell, hone⟩ := src_of h2
  cases h1 with
  | msl _ _ _ _ cap1 b m hob hc1 hmx hfit =>
    have hfl : rows2.flatten.length = rows2.length := one_rows_len hsz2
    have hcs : (rows2.flatten.take (min rows2.length len)).length = min rows2.length len := by rw [List.length_take, hfl]; omega
    have hfv : (flatV f rows2.length 1).length = rows2.length := by rw [flatV_length, Nat.mul_one]
    have hvs : ((flatV f rows2.length 1).take (min rows2.length len)).length = min rows2.length len := by rw [List.length_take, hfv]; omega
    obtain ⟨w', hst, he, hs'⟩ := hs.poke (P := P) ho hob lo (rows2.flatten.take (min rows2.length len)) ((flatV f rows2.length 1).take (min rows2.length len)) (by rw [hcs, hvs])
      (fun u hu => hone u (List.mem_of_mem_take hu)) (fun i c u hc hu => by
        have hi : i < min rows2.length len := by have := (List.getElem?_eq_some_iff.1 hc).1; omega
        rw [List.getElem?_take_of_lt hi, one_rows hsz2] at hc
        rw [List.getElem?_take_of_lt hi] at hu
        obtain ⟨q1, rfl⟩ := flatV_get hu
        cases hr : rows2[i]? with
        | none => rw [hr] at hc; cases hc
        | some row =>
          rw [hr] at hc
          have := hR2 i 0 row c hr hc
          simpa [Nat.div_one, Nat.mod_one] using this) (by rw [hvs]; omega) rows' hl' hr' h1' (by rw [hcs]; exact hspec)
    refine ⟨w', ?_, he, hs'⟩
    have hload : ∀ a0, base = some a0 → (loadCells a0 (min rows2.length len)).run P w = .ok ((flatV f rows2.length 1).take (min rows2.length len)).toArray w := by
      intro a0 hb0
      have h := run_loadCells_list (P := P) (w := w) a0 ((flatV f rows2.length 1).take (min rows2.length len)) (fun j v hj => by
        have hj' : j < min rows2.length len := by have := (List.getElem?_eq_some_iff.1 hj).1; omega
        rw [List.getElem?_take_of_lt hj'] at hj
        exact hcell a0 hb0 j v hj)
      rw [hvs] at h
      exact h
    have hsz := run_size (P := P) (t := e) w
    cases base with
    | none =>
      obtain ⟨h0, _⟩ := hbn rfl
      subst h0
      simp only [List.take_nil, List.length_nil, Nat.zero_min, flatV, Nat.zero_mul, List.range_zero, List.map_nil] at hst
      simp [Builtin.copy_, hta, run_und (P := P) (t := t) w, Builtin.lenOf, hsz, Builtin.firstCells, goInt] at hst ⊢
      simp [storeCells] at hst ⊢
      exact hst
    | some a0 =>
      have := hload a0 rfl
      simp only [Nat.mul_one] at *
      simp [Builtin.copy_, hta, run_und (P := P) (t := t) w, Builtin.lenOf, hsz, Builtin.firstCells, goInt, this, hst]
/-- copy into a slice of one-cell elements. -/
theorem cpm {t t2 e : TypeId} {by_ : Nat} {ez : Value} [hu : Und P t (.slice e)] [hie : Inf P e 1 by_ ez] {o lo len : Nat} {oty : TypeId} {rows rows2 : List (List AV)} {tk2 : Tok} {k1 : Nat}
    (hg : goes ops n T ⟨dd, .call ⟨.builtin .copy, #[x, y], #[t, t2]⟩, ty, pos, es, gd⟩ = some d) (hx : ev st T x = some (.msl o 1 lo len)) (hy : ev st T y = some (.view 1 rows2 tk2)) (ho : st.obj o = some (.cells oty 1 rows)) (hlo : lo + len ≤ rows.length)
    (hk1 : min rows2.length len = k1)
    (k : AOps P n ops rest K E ((d, .int .i64 (k1 : Int)) :: T) (st.set o (.cells oty 1 (rows.take lo ++ rows2.take k1 ++ rows.drop (lo + k1))))) :
    AOps P n ops (⟨dd, .call ⟨.builtin .copy, #[x, y], #[t, t2]⟩, ty, pos, es, gd⟩ :: rest) K E T st := by
  obtain ⟨hw, hd, hok⟩ := goes_some hg
  simp only at hd
  subst hd hk1
  refine AOps.step hw hok _ _ (fun g w a hs hk => ?_) k
  have h1 := ev_R hs hk hx
  have h2 := ev_R hs hk hy
  generalize hux : a.eval x = ux at h1
  generalize huy : a.eval y = uy at h2
  obtain ⟨_, _, _, _, _, _, hsz2, hone2, _, _⟩ := src_of h2
  have hob : ∃ b m, g.obj o = some (b, m) := by cases h1 with | msl _ _ _ _ _ b m hob => exact ⟨b, m, hob⟩
  obtain ⟨b, m, hob⟩ := hob
  obtain ⟨_, ⟨_, _, _, _, hl, h1', _⟩, _⟩ := hs.objOf ho hob
  have hlen : (rows.take lo ++ rows2.take (min rows2.length len) ++ rows.drop (lo + min rows2.length len)).length = rows.length := by simp; omega
  have hmem : ∀ row ∈ rows.take lo ++ rows2.take (min rows2.length len) ++ rows.drop (lo + min rows2.length len), row ∈ rows ∨ row ∈ rows2 := by
    intro row hm
    simp only [List.mem_append] at hm
    rcases hm with (h | h) | h
    · exact .inl (List.mem_of_mem_take h)
    · exact .inr (List.mem_of_mem_take h)
    · exact .inl (List.mem_of_mem_drop h)
  obtain ⟨w', hr, he, hs'⟩ := copy_run (P := P) hs (t := t) (ty := ty) (ta := #[t, t2]) (by simp) h1 ho (by omega) h2 hlen (fun row hm => (hmem row hm).elim (hl row) (hsz2 row)) (fun row hm => (hmem row hm).elim (h1' row) (hone2 row))
    (fun i j row c hrow hcj => by
      have hrl : row.length = 1 := (hmem row (List.mem_of_getElem? hrow)).elim (hl row) (hsz2 row)
      have hj : j = 0 := by have := (List.getElem?_eq_some_iff.1 hcj).1; omega
      subst hj
      simp only [Nat.mul_one, Nat.add_zero]
      rw [List.append_assoc, List.getElem?_append] at hrow
      simp only [List.length_take] at hrow
      have hmin : min lo rows.length = lo := by omega
      rw [hmin] at hrow
      by_cases q : i < lo
      · rw [if_pos q, List.getElem?_take_of_lt q] at hrow
        exact .inr ⟨.inl q, row, hrow, hcj⟩
      · rw [if_neg q, List.getElem?_append] at hrow
        simp only [List.length_take] at hrow
        by_cases q2 : i - lo < min rows2.length len
        · rw [if_pos (by omega), List.getElem?_take_of_lt q2] at hrow
          refine .inl ⟨by omega, by omega, ?_⟩
          rw [List.getElem?_take_of_lt q2, one_rows hsz2, hrow]
          exact hcj
        · rw [if_neg (by omega), List.getElem?_drop] at hrow
          refine .inr ⟨.inr (by omega), row, ?_, hcj⟩
          rw [← hrow]
          congr 1
          omega)
  exact ⟨_, g, w', .inl (by simp [execOp, resolve, invoke, builtin, hux, huy, hr]), he, hs', .int .i64 _⟩
/-- copy into a part of an array of one-cell elements. -/
theorem cpa {t t2 e : TypeId} {by_ : Nat} {ez : Value} [hu : Und P t (.slice e)] [hie : Inf P e 1 by_ ez] {o s lo len : Nat} {oty : TypeId} {row : List AV} {rows2 : List (List AV)} {tk2 : Tok} {k1 : Nat} {cs : List AV}
    (hg : goes ops n T ⟨dd, .call ⟨.builtin .copy, #[x, y], #[t, t2]⟩, ty, pos, es, gd⟩ = some d) (hx : ev st T x = some (.msl o 1 lo len)) (hy : ev st T y = some (.view 1 rows2 tk2)) (ho : st.obj o = some (.cells oty s [row])) (hlo : lo + len ≤ row.length)
    (hk1 : min rows2.length len = k1) (hcs : rows2.flatten.take k1 = cs)
    (k : AOps P n ops rest K E ((d, .int .i64 (k1 : Int)) :: T) (st.set o (.cells oty s [rowSet row lo cs]))) :
    AOps P n ops (⟨dd, .call ⟨.builtin .copy, #[x, y], #[t, t2]⟩, ty, pos, es, gd⟩ :: rest) K E T st := by
  obtain ⟨hw, hd, hok⟩ := goes_some hg
  simp only at hd
  subst hd hk1 hcs
  refine AOps.step hw hok _ _ (fun g w a hs hk => ?_) k
  have h1 := ev_R hs hk hx
  have h2 := ev_R hs hk hy
  generalize hux : a.eval x = ux at h1
  generalize huy : a.eval y = uy at h2
  obtain ⟨_, _, _, _, _, _, hsz2, hone2, _, _⟩ := src_of h2
  have hob : ∃ b m, g.obj o = some (b, m) := by cases h1 with | msl _ _ _ _ _ b m hob => exact ⟨b, m, hob⟩
  obtain ⟨b, m, hob⟩ := hob
  obtain ⟨_, ⟨_, _, _, _, hl, h1', _⟩, _⟩ := hs.objOf ho hob
  have hrl : row.length = s := hl row (List.mem_cons_self ..)
  have hfl : rows2.flatten.length = rows2.length := one_rows_len hsz2
  have hcl : (rows2.flatten.take (min rows2.length len)).length = min rows2.length len := by rw [List.length_take, hfl]; omega
  have hrs : (rowSet row lo (rows2.flatten.take (min rows2.length len))).length = s := by rw [rowSet_length (by omega), hrl]
  obtain ⟨w', hr, he, hs'⟩ := copy_run (P := P) hs (t := t) (ty := ty) (ta := #[t, t2]) (by simp) h1 ho (by simp; omega) h2 (rows' := [rowSet row lo (rows2.flatten.take (min rows2.length len))]) rfl
    (fun r hm => by rw [List.mem_singleton] at hm; subst hm; exact hrs)
    (fun r hm c hc => by
      rw [List.mem_singleton] at hm
      subst hm
      simp only [rowSet, List.mem_append] at hc
      rcases hc with (h | h) | h
      · exact h1' row (List.mem_cons_self ..) c (List.mem_of_mem_take h)
      · obtain ⟨r2, hr2, hc2⟩ := List.mem_flatten.1 (List.mem_of_mem_take h)
        exact hone2 r2 hr2 c hc2
      · exact h1' row (List.mem_cons_self ..) c (List.mem_of_mem_drop h))
    (fun i j r c hrow hcj => by
      cases i with
      | succ i => simp at hrow
      | zero =>
        simp only [List.getElem?_cons_zero, Option.some.injEq] at hrow
        subst hrow
        simp only [Nat.zero_mul, Nat.zero_add]
        simp only [rowSet, List.append_assoc] at hcj
        rw [List.getElem?_append] at hcj
        simp only [List.length_take] at hcj
        have hmin : min lo row.length = lo := by omega
        rw [hmin] at hcj
        by_cases q : j < lo
        · rw [if_pos q, List.getElem?_take_of_lt q] at hcj
          exact .inr ⟨.inl q, row, rfl, hcj⟩
        · rw [if_neg q, List.getElem?_append, hcl] at hcj
          by_cases q2 : j - lo < min rows2.length len
          · rw [if_pos q2] at hcj
            exact .inl ⟨by omega, by omega, hcj⟩
          · rw [if_neg q2, List.getElem?_drop] at hcj
            refine .inr ⟨.inr (by omega), row, rfl, ?_⟩
            rw [← hcj]
            congr 1
            omega)
  exact ⟨_, g, w', .inl (by simp [execOp, resolve, invoke, builtin, hux, huy, hr]), he, hs', .int .i64 _⟩
/-- a[lo:] of an array variable of one-cell elements. -/
theorem sla {t e : TypeId} {len by_ : Nat} [hu : Und P t (.array len e)] {ez : Value} [hie : Inf P e 1 by_ ez] {o s off a : Nat} {oty : TypeId} {row : List AV} {k : IntKind}
    (hg : goes ops n T ⟨dd, .slice t x (some y) none none, ty, pos, es, gd⟩ = some d) (hx : ev st T x = some (.cptr o s 0 off)) (hy : ev st T y = some (.int k (a : Int))) (ho : st.obj o = some (.cells oty s [row])) (ha : a < len) (hlr : off + len ≤ row.length) (hm : len ≤ maxLen)
    (kk : AOps P n ops rest K E ((d, .msl o 1 (off + a) (len - a)) :: T) st) : AOps P n ops (⟨dd, .slice t x (some y) none none, ty, pos, es, gd⟩ :: rest) K E T st := by
  obtain ⟨hw, hd, hok⟩ := goes_some hg
  simp only at hd
  subst hd
  refine AOps.pure hw hok _ (fun g w ac hs hk => ?_) kk
  have h1 := ev_R hs hk hx
  have h2 := ev_R hs hk hy
  generalize hux : ac.eval x = ux at h1
  generalize huy : ac.eval y = uy at h2
  cases h2
  cases h1 with
  | cptr _ _ _ _ b m hob =>
    obtain ⟨_, ⟨arr, _, hasz, hml, hl, _, _⟩, _⟩ := hs.objOf ho hob
    have hrl : row.length = s := hl row (List.mem_cons_self ..)
    simp only [List.length_singleton, Nat.one_mul] at hml
    refine ⟨.slice (some ⟨b, (off + a) * 1, none⟩) (len - a) (len - a), ?_, .msl o 1 (off + a) (len - a) (len - a) b m hob (Nat.le_refl _) (by omega) (by omega)⟩
    have e1 : ¬ len = a := by omega
    have e2 : a ≤ len := by omega
    simp [execOp, hux, huy, Instr.sliceAt, run_und (P := P) (t := t) w, Instr.sureAddr, Instr.sliceBounds, Instr.sliceBound, asIntOf, e1, e2, run_size (P := P) (t := e) w, addr_add]
end
end Go.AM
/- Contracts found by themselves; tests whose outcome is known. No conditions: definitions and lemmas only. -/
namespace Go.AM
open Go.RowKit (Below)
/-- A function that answers X to these arguments and leaves the state alone. -/
class PureFn (P : Program) (f : FuncId) (args : List AV) (X : outParam AV) : Prop where
  out : ∀ st, ACalls P f args st (fun v st' => v = X ∧ st' = st) (fun _ _ => False)
section
variable {P : Program} {n : Nat} {K : Post} {E : EPost} {T : Tmps} {st : St} {ops : Array Oper} {rest : List Oper}
variable {ty : TypeId} {pos : String} {es : Array Edge} {gd : Option (Nat × Bool)} {d : Tmp} {x y : Operand} {dd : Option Tmp}
theorem clp {f : FuncId} [hf : GoFun P f] {args : Array Operand} {tys : Array TypeId} {avs : List AV} {X : AV}
    (hg : goes ops n T ⟨dd, .call ⟨.value (.func f), args, tys⟩, ty, pos, es, gd⟩ = some d) (ha : evs st T args.toList = some avs)
    (hc : PureFn P f avs X) (h : AOps P n ops rest K E ((d, X) :: T) st) :
    AOps P n ops (⟨dd, .call ⟨.value (.func f), args, tys⟩, ty, pos, es, gd⟩ :: rest) K E T st := cle hg ha (hc.out st) h
/-- A value is told in other words. -/
theorem Tmps.tell {v v' : AV} {t : Nat} (ht : T.get t = some v) (he : v = v') (h : AOps P n ops rest K E ((t, v') :: T) st) : AOps P n ops rest K E T st :=
  AOps.weaken (TLe.consE ht he (.refl _)) (.refl _) h
def gtmp (ops : Array Oper) (T : Tmps) (o : Oper) : Option (Nat × Bool) :=
  match o.guard with
  | some (j, _) => match (ops[j]?).bind (·.dst) with
    | some t => match T.get t with
      | some (.bool b) => some (t, b)
      | _ => none
    | none => none
  | none => none
theorem gtmp_some {o : Oper} {t : Nat} {b : Bool} (h : gtmp ops T o = some (t, b)) : T.get t = some (.bool b) := by
  unfold gtmp at h
  split at h
  · split at h
    · split at h
      · simp only [Option.some.injEq, Prod.mk.injEq] at h
        obtain ⟨rfl, rfl⟩ := h
        assumption
      · cases h
    · cases h
  · cases h
/-- The guard's outcome is known. -/
theorem gB {o : Oper} {t : Nat} {b : Bool} (b' : Bool) (h : gtmp ops T o = some (t, b)) (hb : b = b') (k : AOps P n ops (o :: rest) K E ((t, .bool b') :: T) st) : AOps P n ops (o :: rest) K E T st :=
  Tmps.tell (gtmp_some h) (by rw [hb]) k
def ptmp (T : Tmps) (o : Oper) : Option (Nat × Bool) :=
  match o.op with
  | .pick (.tmp t) _ _ => match T.get t with
    | some (.bool b) => some (t, b)
    | _ => none
  | _ => none
theorem ptmp_some {o : Oper} {t : Nat} {b : Bool} (h : ptmp T o = some (t, b)) : T.get t = some (.bool b) := by
  unfold ptmp at h
  split at h
  · split at h
    · simp only [Option.some.injEq, Prod.mk.injEq] at h
      obtain ⟨rfl, rfl⟩ := h
      assumption
    · cases h
  · cases h
theorem pB {o : Oper} {t : Nat} {b : Bool} (b' : Bool) (h : ptmp T o = some (t, b)) (hb : b = b') (k : AOps P n ops (o :: rest) K E ((t, .bool b') :: T) st) : AOps P n ops (o :: rest) K E T st :=
  Tmps.tell (ptmp_some h) (by rw [hb]) k
/-- The guard's outcome, both ways. -/
theorem gS {o : Oper} {t : Nat} {p : Prop} {_ : Decidable p} (h : gtmp ops T o = some (t, decide p)) (kt : p → AOps P n ops (o :: rest) K E ((t, .bool true) :: T) st) (kf : ¬ p → AOps P n ops (o :: rest) K E ((t, .bool false) :: T) st) : AOps P n ops (o :: rest) K E T st :=
  AOps.split t (gtmp_some h) kt kf
theorem gSB {o : Oper} {t : Nat} {b : Bool} (h : gtmp ops T o = some (t, b)) (kt : b = true → AOps P n ops (o :: rest) K E ((t, .bool true) :: T) st) (kf : b = false → AOps P n ops (o :: rest) K E ((t, .bool false) :: T) st) : AOps P n ops (o :: rest) K E T st :=
  AOps.splitB t (gtmp_some h) kt kf
/-- The test's outcome is known. -/
theorem cT {c : Operand} {x y : Code} {b : Bool} (hc : ev st T c = some (.bool b)) (hb : b = true) (h : AWP P n x K E T st) : AWP P n (.cond c x y) K E T st := by
  subst hb; exact AWP.cond_true hc h
theorem cF {c : Operand} {x y : Code} {b : Bool} (hc : ev st T c = some (.bool b)) (hb : b = false) (h : AWP P n y K E T st) : AWP P n (.cond c x y) K E T st := by
  subst hb; exact AWP.cond_false hc h
/-- A store into an object of one row. -/
theorem so1 {t : TypeId} {sz by_ : Nat} {zz : Value} [hi : Inf P t sz by_ zz] {o s : Nat} {off : Nat} {row row' : List AV} {v : AV} {oty : TypeId}
    (hw : wantedA ops T ⟨none, .store t x y, ty, pos, es, gd⟩ = some true) (hx : ev (st.set o (.cells oty s [row])) T x = some (.cptr o s 0 off)) (hy : ev (st.set o (.cells oty s [row])) T y = some v)
    (hv : storable v = true) (hsz : Nat.beq v.cells.length sz = true) (hle : off + v.cells.length ≤ row.length) (he : rowSet row off v.cells = row')
    (k : AOps P n ops rest K E T (st.set o (.cells oty s [row']))) : AOps P n ops (⟨none, .store t x y, ty, pos, es, gd⟩ :: rest) K E T (st.set o (.cells oty s [row])) := by
  refine so hw hx hy (St.obj_set _ _ _) rfl hv hsz (Nat.ble_eq_true_of_le hle) rfl ?_
  rw [St.set_set, ← he] at *
  exact k
/-- The whole variable, below another one. -/
theorem soU {t : TypeId} {sz by_ : Nat} {zz : Value} [hi : Inf P t sz by_ zz] {o o2 s : Nat} {row : List AV} {v : AV} {oty : TypeId} {c2 : AObj}
    (hw : wantedA ops T ⟨none, .store t x y, ty, pos, es, gd⟩ = some true) (hne : o2 ≠ o) (hx : ev ((st.set o (.cells oty s [row])).set o2 c2) T x = some (.cptr o s 0 0)) (hy : ev ((st.set o (.cells oty s [row])).set o2 c2) T y = some v)
    (hv : storable v = true) (hsz : Nat.beq v.cells.length sz = true) (hle : Nat.beq v.cells.length row.length = true)
    (k : AOps P n ops rest K E T ((st.set o (.cells oty s [v.cells])).set o2 c2)) : AOps P n ops (⟨none, .store t x y, ty, pos, es, gd⟩ :: rest) K E T ((st.set o (.cells oty s [row])).set o2 c2) := by
  have hl : v.cells.length = row.length := Nat.eq_of_beq_eq_true hle
  refine so hw hx hy (St.obj_under hne _ _) rfl hv hsz (Nat.ble_eq_true_of_le (by omega)) rfl ?_
  rw [St.set_inner hne]
  simp only [List.set_cons_zero]
  rw [rowSet_all hl]
  exact k
end
theorem fits1_self : ∀ {s : Sh} {c : AV}, fit1 s c = true → avEq c c = true := by
  intro s c h
  cases s <;> cases c <;> simp [fit1, avEq] at h ⊢
theorem cellsEq_self : ∀ {ss : List Sh} {cs : List AV}, fits ss cs = true → cellsEq cs cs = true
  | [], [], _ => rfl
  | s :: ss, c :: cs, h => by
    simp only [fits, Bool.and_eq_true] at h
    simp only [cellsEq, Bool.and_eq_true]
    exact ⟨fits1_self h.1, cellsEq_self h.2⟩
  | [], _ :: _, h => by cases h
  | _ :: _, [], h => by cases h
end Go.AM
/- Regions that draw their order, some operations changing the state, one behind the other. No conditions: definitions and lemmas only. -/
namespace Go.AM
open Go.RowKit (Below)
/-- The form that is asked of a region: k operations in whatever order, those of E one behind the other, the rest behind them in the text's order. -/
def drawOkS (l : List Oper) (k : Nat) (E : List Nat) : Bool :=
  let S := predSets l []
  Nat.ble k l.length && ((List.range l.length).all fun i =>
    match l[i]? with
    | none => false
    | some o => (edgesOf o).all (fun x => Nat.blt x i) &&
      (bif Nat.blt i k then
        (o.dst.isSome || E.contains i) && (List.range k).all (fun j => match l[j]? with
          | none => false
          | some p => (bif Nat.beq i j then true else (match o.dst, p.dst with | some a, some b => !(Nat.beq a b) | _, _ => true)) &&
            (match p.dst with
              | some t => bif (o.looksAt l.toArray).contains t then (S.getD i 0).testBit j else true
              | none => true))
      else (List.range i).all fun j => (S.getD i 0).testBit j)) &&
  (List.range E.length).all fun b => Nat.blt (E.getD b 0) k && (List.range b).all fun a => Nat.blt (E.getD a 0) (E.getD b 0) && (S.getD (E.getD b 0) 0).testBit (E.getD a 0)
section
variable {P : Program} {n : Nat} {K : Post} {E : EPost} {T : Tmps} {st : St}
theorem drawOkS_spec {l : List Oper} {k : Nat} {Es : List Nat} (h : drawOkS l k Es = true) : k ≤ l.length ∧ (∀ i o, l[i]? = some o → ∀ x ∈ edgesOf o, x < i) ∧
    (∀ i o, l[i]? = some o → i < k → (o.dst = none → Es.contains i = true) ∧ ∀ j p, j < k → l[j]? = some p → (i ≠ j → ∀ a b, o.dst = some a → p.dst = some b → a ≠ b) ∧
      (∀ t, p.dst = some t → (o.looksAt l.toArray).contains t = true → ∀ listed : Array Bool, Closed l listed → (∀ x ∈ edgesOf o, listed.getD x false = true) → listed.getD j false = true)) ∧
    (∀ i o, k ≤ i → l[i]? = some o → ∀ listed : Array Bool, Closed l listed → (∀ x ∈ edgesOf o, listed.getD x false = true) → ∀ j, j < i → listed.getD j false = true) ∧
    (∀ b i : Nat, Es[b]? = some i → i < k ∧ ∀ a j : Nat, a < b → Es[a]? = some j → j < i ∧ ∀ o, l[i]? = some o → ∀ listed : Array Bool, Closed l listed → (∀ x ∈ edgesOf o, listed.getD x false = true) → listed.getD j false = true) := by
  simp only [drawOkS, Bool.and_eq_true] at h
  obtain ⟨⟨h0, hall⟩, hE⟩ := h
  have hS : ∀ listed, Closed l listed → ∀ i o, l[i]? = some o → (∀ x ∈ edgesOf o, listed.getD x false = true) → ∀ j, ((predSets l []).getD i 0).testBit j = true → listed.getD j false = true := by
    intro listed hc i o ho he j hj
    exact predSets_spec l listed hc l [] (fun j => by simp) (fun i o hi => by simp at hi) i o (by rw [predSets_length]; simpa using (List.getElem?_eq_some_iff.1 ho).1) ho he j hj
  have hat : ∀ i o, l[i]? = some o → ((edgesOf o).all (fun x => Nat.blt x i) = true ∧
      (bif Nat.blt i k then
        (o.dst.isSome || Es.contains i) && (List.range k).all (fun j => match l[j]? with
          | none => false
          | some p => (bif Nat.beq i j then true else (match o.dst, p.dst with | some a, some b => !(Nat.beq a b) | _, _ => true)) &&
            (match p.dst with
              | some t => bif (o.looksAt l.toArray).contains t then ((predSets l []).getD i 0).testBit j else true
              | none => true))
      else (List.range i).all fun j => ((predSets l []).getD i 0).testBit j) = true) := by
    intro i o ho
    have hi := (List.getElem?_eq_some_iff.1 ho).1
    have := List.all_eq_true.1 hall i (List.mem_range.2 hi)
    simp only [ho, Bool.and_eq_true] at this
    exact this
  refine ⟨Nat.ble_le h0, fun i o ho x hx => ?_, fun i o ho hik => ?_, fun i o hik ho listed hc he j hj => ?_, fun b i hb => ?_⟩
  · have := List.all_eq_true.1 (hat i o ho).1 x hx
    simpa [Nat.blt_eq] using this
  · have h2 := (hat i o ho).2
    rw [show Nat.blt i k = true by simpa [Nat.blt_eq] using hik, cond_true, Bool.and_eq_true] at h2
    refine ⟨fun hd => ?_, fun j p hj hp => ?_⟩
    · rw [hd] at h2
      simpa using h2.1
    · have h3 := List.all_eq_true.1 h2.2 j (List.mem_range.2 hj)
      simp only [hp, Bool.and_eq_true] at h3
      refine ⟨fun hij a b ha hb => ?_, fun t ht hlook listed hc he => ?_⟩
      · have h4 := h3.1
        rw [nbeq_ne hij, cond_false, ha, hb] at h4
        intro e
        rw [e] at h4
        simp at h4
      · have h4 := h3.2
        rw [ht] at h4
        simp only [hlook, cond_true] at h4
        exact hS listed hc i o ho he j h4
  · have h2 := (hat i o ho).2
    rw [show Nat.blt i k = false by rw [Bool.eq_false_iff, Ne, Nat.blt_eq]; omega, cond_false] at h2
    exact hS listed hc i o ho he j (List.all_eq_true.1 h2 j (List.mem_range.2 hj))
  · have hbl := (List.getElem?_eq_some_iff.1 hb).1
    have h2 := List.all_eq_true.1 hE b (List.mem_range.2 hbl)
    have eb : Es.getD b 0 = i := by rw [List.getD_eq_getElem?_getD, hb]; rfl
    simp only [eb, Bool.and_eq_true] at h2
    refine ⟨by simpa [Nat.blt_eq] using h2.1, fun a j hab ha => ?_⟩
    have ea : Es.getD a 0 = j := by rw [List.getD_eq_getElem?_getD, ha]; rfl
    have h3 := List.all_eq_true.1 h2.2 a (List.mem_range.2 hab)
    simp only [ea, Bool.and_eq_true] at h3
    exact ⟨by simpa [Nat.blt_eq] using h3.1, fun o ho listed hc he => hS listed hc i o ho he j h3.2⟩
/-- From every state of I to one of I', the outcome as told. -/
def EffJ (P : Program) (n : Nat) (I I' : St → Prop) (T : Tmps) (o : Oper) (Q : AV → Prop) : Prop :=
  ∀ st g w a (K' : Act → World → Prop) (Q' : Exit → Act → World → Prop), I st → Sim g w st → Known g w T a → a.tmps.size = n →
    (∀ rv g' w' v st1, Ext g w g' w' → Sim g' w' st1 → R g' w' v rv → Q v → I' st1 → K' (a.put o.dst rv) w') → o.wp P a w K' Q'
def StepS (P : Program) (n : Nat) (I : Nat → St → Prop) (Es : List Nat) (i : Nat) (ops : Array Oper) (T : Tmps) (o : Oper) (Q : AV → Prop) : Prop :=
  (wantedA ops T o = some true ∧ (Es.contains i = false → ∀ j, EffJ P n (I j) (I j) T o Q) ∧ ∀ j, Es[j]? = some i → EffJ P n (I j) (I (j + 1)) T o Q) ∨ (wantedA ops T o = some false ∧ Q (.lit undef) ∧ Es.contains i = false)
/-- The walk in the text's order; behind it k. -/
def DRunS (P : Program) (n : Nat) (I : Nat → St → Prop) (Es : List Nat) (ops : Array Oper) : Nat → List Oper → List (AV → Prop) → Tmps → (Tmps → St → Prop) → Prop
  | _, [], [], T, k => ∀ st, I Es.length st → k T st
  | i, o :: r, Q :: Qs, T, k => (∃ u, Q u) ∧ dstOk o.dst n = true ∧ StepS P n I Es i ops (see ops o T) o Q ∧ ∀ u, Q u → DRunS P n I Es ops (i + 1) r Qs (T.put o.dst u) k
  | _, _, _, _, _ => False
theorem DRunS.out {I : Nat → St → Prop} {Es : List Nat} {ops : Array Oper} {k : Tmps → St → Prop} (us : Nat → AV) (l : List Oper) : ∀ (r : List Oper) (Qs : List (AV → Prop)) (i0 : Nat), (∀ (i : Nat) (o : Oper), r[i]? = some o → l[i0 + i]? = some o) → (∀ (i : Nat) (Q : AV → Prop), Qs[i]? = some Q → Q (us (i0 + i))) →
    DRunS P n I Es ops i0 r Qs (ents l us i0 ++ T) k → Qs.length = r.length ∧ (∀ st, I Es.length st → k (ents l us (i0 + r.length) ++ T) st) ∧
      ∀ i o, r[i]? = some o → ∃ Q, dstOk o.dst n = true ∧ Qs[i]? = some Q ∧ StepS P n I Es (i0 + i) ops (see ops o (ents l us (i0 + i) ++ T)) o Q
  | [], [], i0, _, _, h => ⟨rfl, h, fun i o ho => by simp at ho⟩
  | [], _ :: _, _, _, _, h => h.elim
  | _ :: _, [], _, _, _, h => h.elim
  | o :: r, Q :: Qs, i0, hl, hq, h => by
    obtain ⟨_, h2, h4, h5⟩ := h
    have h6 := h5 (us i0) (hq 0 Q rfl)
    have hl0 : l[i0]? = some o := by simpa using hl 0 o rfl
    have he : (ents l us i0 ++ T).put o.dst (us i0) = ents l us (i0 + 1) ++ T := by
      rw [ents, hl0]
      simp only [Option.bind_some]
      cases o.dst <;> rfl
    rw [he] at h6
    obtain ⟨a1, a2, a3⟩ := DRunS.out us l r Qs (i0 + 1) (fun i o' ho' => by have := hl (i + 1) o' (by simpa using ho'); rwa [show i0 + (i + 1) = i0 + 1 + i by omega] at this) (fun i Q' hQ' => by have := hq (i + 1) Q' (by simpa using hQ'); rwa [show i0 + (i + 1) = i0 + 1 + i by omega] at this) h6
    refine ⟨by simp [a1], by rw [List.length_cons, show i0 + (r.length + 1) = i0 + 1 + r.length by omega]; exact a2, fun i o' ho' => ?_⟩
    cases i with
    | zero =>
      simp only [List.getElem?_cons_zero, Option.some.injEq] at ho'
      subst ho'
      exact ⟨Q, h2, rfl, h4⟩
    | succ i =>
      obtain ⟨Q', b1, b2, b3⟩ := a3 i o' (by simpa using ho')
      exact ⟨Q', b1, by simpa using b2, by rwa [show i0 + 1 + i = i0 + (i + 1) by omega] at b3⟩
theorem DRunS.fits {I : Nat → St → Prop} {Es : List Nat} {ops : Array Oper} {k : Tmps → St → Prop} : ∀ (r : List Oper) (Qs : List (AV → Prop)) (i0 : Nat) (T : Tmps), DRunS P n I Es ops i0 r Qs T k → ∀ (i : Nat) (Q : AV → Prop), Qs[i]? = some Q → ∃ u, Q u
  | [], [], _, _, _, i, Q, h => by simp at h
  | [], _ :: _, _, _, h, _, _, _ => h.elim
  | _ :: _, [], _, _, h, _, _, _ => h.elim
  | o :: r, Q0 :: Qs, i0, T, h, i, Q, hq => by
    obtain ⟨⟨u, hu⟩, h2, h4, h5⟩ := h
    cases i with
    | zero => simp at hq; subst hq; exact ⟨u, hu⟩
    | succ i => exact DRunS.fits r Qs _ _ (h5 u hu) i Q (by simpa using hq)
/-- How many of a list are done, where the first ones are. -/
theorem countP_first (p : Nat → Bool) : ∀ (Es : List Nat) (j : Nat), j ≤ Es.length → (∀ a x, a < j → Es[a]? = some x → p x = true) → (∀ a x, j ≤ a → Es[a]? = some x → p x = false) → Es.countP p = j
  | [], j, hj, _, _ => by simp at hj; simp [hj]
  | x :: Es, 0, _, _, h2 => by
    rw [List.countP_cons, h2 0 x (Nat.le_refl _) rfl]
    have := countP_first p Es 0 (Nat.zero_le _) (fun a y h => by omega) (fun a y _ hy => h2 (a + 1) y (Nat.zero_le _) (by simpa using hy))
    simp [this]
  | x :: Es, j + 1, hj, h1, h2 => by
    rw [List.countP_cons, h1 0 x (by omega) rfl]
    have := countP_first p Es j (by simpa using hj) (fun a y h hy => h1 (a + 1) y (by omega) (by simpa using hy)) (fun a y h hy => h2 (a + 1) y (by omega) (by simpa using hy))
    simp [this]

theorem AWP.drawS {l : List Oper} {id : Nat} (hm : P.follows .mixedOrders = true) (k : Nat) (Es : List Nat) (I : Nat → St → Prop) (Qs : List (AV → Prop)) (hok : drawOkS l k Es = true) (hI : I 0 st)
    (h : DRunS P n I Es l.toArray 0 (l.take k) Qs T fun T' st' => AOps P n l.toArray (l.drop k) K E T' st') : AWP P n (.region id l.toArray true) K E T st := by
  obtain ⟨hkl, hedge, hbody, htail, hchain⟩ := drawOkS_spec hok
  have hfits := DRunS.fits _ _ _ _ h
  have hout := fun (us : Nat → AV) (hus : ∀ (i : Nat) (Q : AV → Prop), Qs[i]? = some Q → Q (us (0 + i))) => DRunS.out (T := T) us l (l.take k) Qs 0 (fun i o ho => by
    have hi : i < k := by have := (List.getElem?_eq_some_iff.1 ho).1; simp at this; omega
    rw [List.getElem?_take_of_lt hi] at ho
    rwa [Nat.zero_add]) hus h
  have hlk0 : (l.take k).length = k := by simp; omega
  -- some values that fit
  obtain ⟨wit, hwit⟩ : ∃ wit : Nat → AV, ∀ (i : Nat) (Q : AV → Prop), Qs[i]? = some Q → Q (wit i) := by
    have : ∀ i : Nat, ∃ u : AV, ∀ Q : AV → Prop, Qs[i]? = some Q → Q u := fun i => by
      cases hq : Qs[i]? with
      | none => exact ⟨.bool true, fun Q h => by cases h⟩
      | some Q =>
        obtain ⟨u, hu⟩ := hfits i Q hq
        exact ⟨u, fun Q' h => by cases h; exact hu⟩
    exact ⟨fun i => Classical.choose (this i), fun i Q hQ => Classical.choose_spec (this i) Q hQ⟩
  have hQl : Qs.length = k := by rw [(hout wit (fun i Q hQ => by rw [Nat.zero_add]; exact hwit i Q hQ)).1, hlk0]
  intro g0 w0 a0 hs0 hk0 hn0
  refine wp_region_any hm ?_
  obtain ⟨hed, hsd⟩ := hs0.draw
  let Inv : Array Bool → Act → World → Prop := fun listed a w => listed.size = l.length ∧ Closed l listed ∧ (∀ j, k ≤ j → j < l.length → listed.getD j true = false) ∧ a.tmps.size = n ∧ a.defers = a0.defers ∧
    ∃ g st1, Ext g0 w0 g w ∧ Sim g w st1 ∧ I (Es.countP fun e => listed.getD e false) st1 ∧
      (∀ t v, Tmps.get T t = some v → (∀ i, i < k → (l[i]?).bind (·.dst) = some t → listed.getD i false = false) → ∃ rv, a.tmps[t]? = some rv ∧ R g w v rv) ∧
      (∀ i d Q, i < k → (l[i]?).bind (·.dst) = some d → Qs[i]? = some Q → listed.getD i false = true → ∃ u rv, Q u ∧ a.tmps[d]? = some rv ∧ R g w u rv)
  let μ : Array Bool → Nat := fun listed => (List.range l.length).countP fun j => !listed.getD j true
  have hμ : ∀ (listed : Array Bool) i, i < l.length → listed.size = l.length → listed.getD i true = false → μ (listed.setIfInBounds i true) + 1 ≤ μ listed := by
    intro listed i hil hsz hi
    have gen : ∀ (A : List Nat), i ∈ A → A.countP (fun j => !(listed.setIfInBounds i true).getD j true) + 1 ≤ A.countP (fun j => !listed.getD j true) := by
      have le : ∀ (A : List Nat), A.countP (fun j => !(listed.setIfInBounds i true).getD j true) ≤ A.countP (fun j => !listed.getD j true) := fun A => List.countP_mono_left fun j _ hj => by
        by_cases hij : i = j
        · subst hij
          rw [Array.getD_eq_getD_getElem?, Array.getElem?_setIfInBounds_self_of_lt (by omega)] at hj
          simp at hj
        · rw [getD_set_ne true hij] at hj; exact hj
      intro A
      induction A with
      | nil => intro h; simp at h
      | cons x A ih =>
        intro h
        rw [List.countP_cons, List.countP_cons]
        by_cases hx : x = i
        · subst hx
          have h1 : (!(listed.setIfInBounds x true).getD x true) = false := by
            rw [Array.getD_eq_getD_getElem?, Array.getElem?_setIfInBounds_self_of_lt (by omega)]; rfl
          have h2 : (!listed.getD x true) = true := by rw [hi]; rfl
          rw [h1, h2, if_neg (by decide), if_pos rfl]
          have := le A
          omega
        · have hm' : i ∈ A := by rcases List.mem_cons.1 h with h | h; exact absurd h.symm hx; exact h
          have := ih hm'
          have h3 : (listed.setIfInBounds i true).getD x true = listed.getD x true := getD_set_ne true (Ne.symm hx)
          rw [h3]
          omega
    exact gen _ (List.mem_range.2 hil)
  -- values that are there
  have choose : ∀ (listed : Array Bool) (a : Act) (g : G) (w : World), (∀ i d Q, i < k → (l[i]?).bind (·.dst) = some d → Qs[i]? = some Q → listed.getD i false = true → ∃ u rv, Q u ∧ a.tmps[d]? = some rv ∧ R g w u rv) →
      ∃ us : Nat → AV, (∀ (i : Nat) (Q : AV → Prop), Qs[i]? = some Q → Q (us i)) ∧ ∀ i d, i < k → (l[i]?).bind (·.dst) = some d → listed.getD i false = true → ∃ rv, a.tmps[d]? = some rv ∧ R g w (us i) rv := by
    intro listed a g w hB
    have : ∀ i : Nat, ∃ u : AV, (∀ Q : AV → Prop, Qs[i]? = some Q → Q u) ∧ ∀ d, i < k → (l[i]?).bind (·.dst) = some d → listed.getD i false = true → ∃ rv, a.tmps[d]? = some rv ∧ R g w u rv := fun i => by
      by_cases hc : i < k ∧ listed.getD i false = true
      · obtain ⟨hik, hli⟩ := hc
        cases hd' : (l[i]?).bind (·.dst) with
        | none => exact ⟨wit i, hwit i, fun d _ hd2 _ => by cases hd2⟩
        | some d =>
          have hq : Qs[i]? = some (Qs[i]'(by omega)) := List.getElem?_eq_getElem _
          obtain ⟨u, rv, h1, h2, h3⟩ := hB i d _ hik hd' hq hli
          refine ⟨u, fun Q h => by rw [hq] at h; cases h; exact h1, fun d' _ hd2 _ => ?_⟩
          cases hd2
          exact ⟨rv, h2, h3⟩
      · exact ⟨wit i, hwit i, fun d h1 _ h2 => absurd ⟨h1, h2⟩ hc⟩
    exact ⟨fun i => Classical.choose (this i), fun i => (Classical.choose_spec (this i)).1, fun i => (Classical.choose_spec (this i)).2⟩
  -- what is seen of a walk's entries is known
  have done : ∀ (m : Nat) (listed : Array Bool) (a : Act) (w : World), Inv listed a w → (∀ j, j < k → listed.getD j true = true) → l.length ≤ k + m → wpAny P .any l.toArray (QOf n a0.defers g0 w0 K E) m listed a w := by
    intro m listed a w ⟨hsz, hcl, htl, hn, hd, g, st1, he, hs, hI1, hA, hB⟩ hall hm'
    have hlist : ∀ j, j < k → listed.getD j false = true := fun j hj => by
      have h1 := hall j hj
      rw [Array.getD_eq_getD_getElem?, Array.getElem?_eq_getElem (by omega)] at h1 ⊢
      simpa using h1
    refine wpAny_tail hedge k htail m k listed a w (Nat.le_refl _) hkl hm' hsz (fun j hj => ?_) hcl ?_
    · by_cases hjk : j < k
      · rw [hall j hjk, decide_eq_true hjk]
      · rw [htl j (by omega) hj, decide_eq_false hjk]
    · obtain ⟨us, hus, hus2⟩ := choose listed a g w hB
      obtain ⟨_, hfin, _⟩ := hout us (fun i Q hQ => by rw [Nat.zero_add]; exact hus i Q hQ)
      rw [hlk0, Nat.zero_add] at hfin
      rw [countP_first _ Es Es.length (Nat.le_refl _) (fun b x _ hx => hlist x (hchain b x hx).1) (fun b x hb hx => by have := (List.getElem?_eq_some_iff.1 hx).1; omega)] at hI1
      have h5 := hfin st1 hI1 g w a hs (fun t u hu => by
        rw [get_append] at hu
        cases hg : Tmps.get (ents l us k) t with
        | some u' =>
          rw [hg] at hu
          cases hu
          obtain ⟨j, hj, hdj, rfl⟩ := ents_get k t _ hg
          exact hus2 j t hj hdj (hlist j hj)
        | none =>
          rw [hg] at hu
          exact hA t u hu fun i hi hit => absurd hit (ents_none k t hg i hi)) hn
      rw [hd] at h5
      exact wpList_mono (fun _ _ _ q => QOf.ext he q) _ _ _ h5
  -- a step of the body
  have step : ∀ (K' : Act → World → Prop) (listed : Array Bool) (a : Act) (w : World) (i : Nat), Inv listed a w → i < k → i ∈ Region.ready .any l.toArray listed → (∀ a' w', Inv (listed.setIfInBounds i true) a' w' → K' a' w') →
      wpOp P l.toArray (QOf n a0.defers g0 w0 K E) i K' a w := by
    intro K' listed a w i ⟨hsz, hcl, htl, hn, hd, g, st1, he, hs, hI1, hA, hB⟩ hik hri hK
    obtain ⟨hun, o, ho, hed'⟩ := ready_edges hri
    have hil := (List.getElem?_eq_some_iff.1 ho).1
    have hunf : listed.getD i false = false := by
      rw [Array.getD_eq_getD_getElem?, Array.getElem?_eq_getElem (by omega)] at hun ⊢
      simpa using hun
    have hcl' := hcl.set ho hed'
    have hsz' : (listed.setIfInBounds i true).size = l.length := by simpa using hsz
    have htl' : ∀ j, k ≤ j → j < l.length → (listed.setIfInBounds i true).getD j true = false := fun j h1 h2 => by
      rw [getD_set_ne true (by omega)]; exact htl j h1 h2
    obtain ⟨us, hus, hus2⟩ := choose listed a g w hB
    obtain ⟨_, _, hops⟩ := hout us (fun i Q hQ => by rw [Nat.zero_add]; exact hus i Q hQ)
    obtain ⟨Q, hdn, hQi, hstep⟩ := hops i o (by rw [List.getElem?_take_of_lt hik]; exact ho)
    rw [Nat.zero_add] at hstep
    -- the entries of others that are seen are there
    have hlooked : ∀ j, j < k → ∀ t, (l[j]?).bind (·.dst) = some t → (o.looksAt l.toArray).contains t = true → listed.getD j false = true ∧ j < i := by
      intro j hj t hjt hlook
      have hp : l[j]? = some l[j] := List.getElem?_eq_getElem (by omega)
      rw [hp] at hjt
      have h2 := ((hbody i o ho hik).2 j _ hj hp).2 t hjt hlook
      refine ⟨h2 listed hcl hed', ?_⟩
      have hcl2 : Closed l (Array.ofFn fun q : Fin l.length => decide (q.val < i)) := by
        intro q oq hq hq' x hx'
        have hql := (List.getElem?_eq_some_iff.1 hq).1
        rw [Array.getD_eq_getD_getElem?, Array.getElem?_ofFn] at hq' ⊢
        simp only [hql, dif_pos, Option.getD_some, decide_eq_true_eq] at hq'
        have hxq := hedge q oq hq x hx'
        simp only [show x < l.length by omega, dif_pos, Option.getD_some, decide_eq_true_eq]
        omega
      have h3 := h2 _ hcl2 (fun x hx' => by
        have hxi := hedge i o ho x hx'
        rw [Array.getD_eq_getD_getElem?, Array.getElem?_ofFn]
        simp only [show x < l.length by omega, dif_pos, Option.getD_some, decide_eq_true_eq]
        exact hxi)
      rw [Array.getD_eq_getD_getElem?, Array.getElem?_ofFn] at h3
      simp only [show j < l.length by omega, dif_pos, Option.getD_some, decide_eq_true_eq] at h3
      exact h3
    have hknown : Known g w (see l.toArray o (ents l us i ++ T)) a := fun t v ht => by
      obtain ⟨hlook, hget⟩ := get_filter _ _ _ _ ht
      rw [get_append] at hget
      cases hg : Tmps.get (ents l us i) t with
      | some u' =>
        rw [hg] at hget
        cases hget
        obtain ⟨j, hj, hdj, rfl⟩ := ents_get i t _ hg
        exact hus2 j t (by omega) hdj (hlooked j (by omega) t hdj hlook).1
      | none =>
        rw [hg] at hget
        refine hA t v hget fun j hj hjt => ?_
        have h1 := hlooked j hj t hjt hlook
        exact absurd hjt (ents_none i t hg j h1.2)
    have hother : ∀ t, o.dst ≠ some t → ∀ rv', (a.put o.dst rv').tmps[t]? = a.tmps[t]? := fun t ht rv' => by
      cases hod : o.dst with
      | none => rfl
      | some d =>
        simp only [Act.put, Array.getElem?_setIfInBounds]
        rw [if_neg (fun h => ht (by rw [hod, h]))]
    have hself : ∀ d, o.dst = some d → ∀ rv', (a.put o.dst rv').tmps[d]? = some rv' := fun d hod rv' => by
      have hdn' := dstOk_lt hdn d hod
      rw [hod]
      simp only [Act.put, Array.getElem?_setIfInBounds]
      simp [hn, hdn']
    have hdi : ∀ d, (l[i]?).bind (·.dst) = some d → o.dst = some d := fun d h => by rw [ho] at h; exact h
    have after : ∀ v rv g' w' st2, Ext g w g' w' → Sim g' w' st2 → R g' w' v rv → Q v → I (Es.countP fun e => (listed.setIfInBounds i true).getD e false) st2 → Inv (listed.setIfInBounds i true) (a.put o.dst rv) w' := by
      intro v rv g' w' st2 he' hs' hR hQv hI2
      refine ⟨hsz', hcl', htl', by rw [Act.size_put]; exact hn, by rw [Act.defers_put]; exact hd, g', st2, he.trans he', hs', hI2, fun t u ht hwr => ?_, fun j d' Q' hj hjd hjQ hjl => ?_⟩
      · have htd : o.dst ≠ some t := fun htd => by
          have := hwr i hik (by rw [ho]; exact htd)
          rw [Array.getD_eq_getD_getElem?, Array.getElem?_setIfInBounds_self_of_lt (by omega)] at this
          simp at this
        obtain ⟨ru, h1, h2⟩ := hA t u ht fun j hj hjt => by
          have h3 := hwr j hj hjt
          by_cases hij : i = j
          · subst hij; exact hunf
          · rwa [getD_set_ne false hij] at h3
        exact ⟨ru, by rw [hother t htd]; exact h1, h2.ext he'⟩
      · by_cases hij : i = j
        · subst hij
          rw [hQi] at hjQ
          cases hjQ
          exact ⟨v, rv, hQv, hself d' (hdi d' hjd) rv, hR⟩
        · rw [getD_set_ne false hij] at hjl
          obtain ⟨u, ru, h1, h2, h3⟩ := hB j d' Q' hj hjd hjQ hjl
          refine ⟨u, ru, h1, ?_, h3.ext he'⟩
          rw [hother d' ?_]
          · exact h2
          · have hp : l[j]? = some l[j] := List.getElem?_eq_getElem (by omega)
            rw [hp] at hjd
            exact fun hdd => ((hbody i o ho hik).2 j _ hj hp).1 hij d' d' hdd hjd rfl
    have hcount : Es.contains i = false → (Es.countP fun e => (listed.setIfInBounds i true).getD e false) = Es.countP fun e => listed.getD e false := fun hni => by
      refine List.countP_congr fun e he => ?_
      have hne : i ≠ e := fun h => by
        subst h
        rw [List.contains_iff_mem.2 he] at hni
        cases hni
      rw [getD_set_ne false hne]
    have hpos : ∀ j, Es[j]? = some i → (Es.countP fun e => listed.getD e false) = j ∧ (Es.countP fun e => (listed.setIfInBounds i true).getD e false) = j + 1 := fun j hj => by
      have hjl := (List.getElem?_eq_some_iff.1 hj).1
      have before : ∀ b x, b < j → Es[b]? = some x → listed.getD x false = true := fun b x hb hx => ((hchain j i hj).2 b x hb hx).2 o ho listed hcl hed'
      have behind : ∀ b x, j < b → Es[b]? = some x → listed.getD x false = false := fun b x hb hx => by
        obtain ⟨h1, h2⟩ := hchain b x hx
        cases hv : listed.getD x false with
        | false => rfl
        | true =>
          have hxl : x < l.length := by omega
          have := (h2 j i hb hj).2 l[x] (List.getElem?_eq_getElem hxl) listed hcl (fun y hy => hcl x _ (List.getElem?_eq_getElem hxl) hv y hy)
          rw [hunf] at this
          cases this
      refine ⟨countP_first _ Es j (by omega) before (fun b x hb hx => ?_), countP_first _ Es (j + 1) (by omega) (fun b x hb hx => ?_) (fun b x hb hx => ?_)⟩
      · rcases Nat.eq_or_lt_of_le hb with h | h
        · subst h
          rw [hj] at hx
          cases hx
          exact hunf
        · exact behind b x h hx
      · by_cases hbj : b = j
        · subst hbj
          rw [hj] at hx
          cases hx
          rw [Array.getD_eq_getD_getElem?, Array.getElem?_setIfInBounds_self_of_lt (by omega)]
          rfl
        · have hb' : b < j := by omega
          rw [getD_set_ne false (by have := ((hchain j i hj).2 b x hb' hx).1; omega)]
          exact before b x hb' hx
      · rw [getD_set_ne false (by have := ((hchain b x hx).2 j i hb hj).1; omega)]
        exact behind b x hb hx
    unfold wpOp
    simp only [List.getElem?_toArray, ho]
    rcases hstep with ⟨hw, hq1, hq2⟩ | ⟨hw, hq, hni⟩
    · rw [wanted_of hknown hw, if_pos rfl]
      left
      cases hc : Es.contains i with
      | false => exact hq1 hc _ st1 g w a K' _ hI1 hs hknown hn fun rv g' w' v st2 he' hs' hR hQv hI2 => hK _ _ (after v rv g' w' st2 he' hs' hR hQv (by rw [hcount hc]; exact hI2))
      | true =>
        obtain ⟨j, hj⟩ := List.getElem?_of_mem (List.contains_iff_mem.1 hc)
        obtain ⟨p1, p2⟩ := hpos j hj
        rw [p1] at hI1
        exact hq2 j hj st1 g w a K' _ hI1 hs hknown hn fun rv g' w' v st2 he' hs' hR hQv hI2 => hK _ _ (after v rv g' w' st2 he' hs' hR hQv (by rw [p2]; exact hI2))
    · rw [wanted_of hknown hw, if_neg (by simp)]
      exact hK _ _ (after _ undef g w st1 (.refl _ _) hs (.lit _) hq (by rw [hcount hni]; exact hI1))
  have key : ∀ (m : Nat) (listed : Array Bool) (a : Act) (w : World), Inv listed a w → μ listed ≤ m → wpAny P .any l.toArray (QOf n a0.defers g0 w0 K E) m listed a w := by
    intro m
    induction m with
    | zero =>
      intro listed a w hi hm0
      -- nothing is left
      have hall : ∀ j, j < l.length → listed.getD j true = true := fun j hj => by
        cases hv : listed.getD j true with
        | true => rfl
        | false => have := hμ listed j hj hi.1 hv; omega
      have hlk : l.length = k := by
        rcases Nat.eq_or_lt_of_le hkl with h' | h'
        · exact h'.symm
        · have h1 := hall k h'
          have h2 := hi.2.2.1 k (Nat.le_refl _) h'
          rw [h1] at h2
          cases h2
      exact done 0 listed a w hi (fun j hj => hall j (by omega)) (by omega)
    | succ m ih =>
      intro listed a w hi hm1
      by_cases hall : ∀ j, j < k → listed.getD j true = true
      · refine done (m + 1) listed a w hi hall ?_
        -- the tail is unlisted: it is counted
        have : l.length - k ≤ μ listed := by
          exact countP_range_ge k _ l.length fun j h1 h2 => by rw [hi.2.2.1 j h1 h2]; rfl
        omega
      · have hex : ∃ j, j < k ∧ listed.getD j true = false ∧ ∀ q, q < j → listed.getD q true = true := by
          have : ∃ j, j < k ∧ listed.getD j true = false := by
            apply Classical.byContradiction
            intro hno
            apply hall
            intro j hj
            cases hv : listed.getD j true with
            | true => rfl
            | false => exact absurd ⟨j, hj, hv⟩ hno
          obtain ⟨j, hj⟩ := this
          induction j using Nat.strongRecOn with
          | _ j ihj =>
            by_cases hq : ∀ q, q < j → listed.getD q true = true
            · exact ⟨j, hj.1, hj.2, hq⟩
            · simp only [Classical.not_forall] at hq
              obtain ⟨q, hqj, hq⟩ := hq
              exact ihj q hqj ⟨by omega, by simpa using hq⟩
        obtain ⟨j0, hj0, hv0, hmin⟩ := hex
        have hsz := hi.1
        have hjl : j0 < l.length := by omega
        have hready : j0 ∈ Region.ready .any l.toArray listed := ready_of_edges hv0 (List.getElem?_eq_getElem hjl) (fun x hx => by
          have hxj := hedge j0 _ (List.getElem?_eq_getElem hjl) x hx
          have h1 := hmin x hxj
          rw [Array.getD_eq_getD_getElem?, Array.getElem?_eq_getElem (by omega)] at h1 ⊢
          simpa using h1)
        refine ⟨fun h0 => (by rw [h0] at hready; cases hready), fun i hri => ?_⟩
        obtain ⟨hun, o, ho, hed'⟩ := ready_edges hri
        have hil := (List.getElem?_eq_some_iff.1 ho).1
        have hik : i < k := by
          rcases Nat.lt_or_ge i k with h' | h'
          · exact h'
          · have h1 := htail i o h' ho listed hi.2.1 hed' j0 (by omega)
            rw [Array.getD_eq_getD_getElem?, Array.getElem?_eq_getElem (by omega)] at h1 hv0
            simp at h1 hv0
            rw [h1] at hv0
            cases hv0
        exact step _ listed a w i hi hik hri fun a' w' hi' => ih _ a' w' hi' (by have := hμ listed i hil hsz hun; omega)
  refine key _ _ a0 _ ?_ ?_
  · have hnone : ∀ j, (Array.replicate l.toArray.size false).getD j false = false := fun j => by
      rw [Array.getD_eq_getD_getElem?, Array.getElem?_replicate]
      split <;> rfl
    refine ⟨by simp, fun i o ho hi' => ?_, fun j _ hj => by simp [hj], hn0, rfl, g0, st, hed, hsd, by rw [countP_first _ Es 0 (Nat.zero_le _) (fun b x hb => by omega) (fun b x _ _ => hnone x)]; exact hI, fun t v ht _ => (hk0.ext hed) t v ht, fun i d Q _ _ _ hl => ?_⟩
    · rw [hnone] at hi'; cases hi'
    · rw [hnone] at hl; cases hl
  · have := List.countP_le_length (p := fun j => !(Array.replicate l.length false).getD j true) (l := List.range l.length)
    exact Nat.le_trans this (by simp)

end
end Go.AM
/- The steps of a region that draws its order and writes, out of the rules for a region that does not. No conditions: definitions and lemmas only. -/
namespace Go.AM
open Go.RowKit (Below)
section
variable {P : Program} {n : Nat} {K : Post} {E : EPost} {T : Tmps} {st base : St} {ops : Array Oper} {sts : List St} {Es : List Nat}
/-- The state behind the first j operations that write. -/
def IX (sts : List St) (base : St) (j : Nat) (s : St) : Prop := sts[j]? = some s ∧ StLe s base
def DRunX (P : Program) (n : Nat) (I : Nat → St → Prop) (Es : List Nat) (ops : Array Oper) (i : Nat) (l : List Oper) (T : Tmps) (k : Tmps → St → Prop) : Prop := ∃ Qs, DRunS P n I Es ops i l Qs T k
theorem AWP.drawX {l : List Oper} {id : Nat} (hm : P.follows .mixedOrders = true) (k : Nat) (Es : List Nat) (sts : List St) (base : St) (hok : drawOkS l k Es = true) (h0 : sts[0]? = some st) (hb : StLe st base)
    (h : DRunX P n (IX sts base) Es l.toArray 0 (l.take k) T fun T' st' => AOps P n l.toArray (l.drop k) K E T' st') : AWP P n (.region id l.toArray true) K E T st :=
  h.elim fun Qs h => AWP.drawS hm k Es (IX sts base) Qs hok ⟨h0, hb⟩ h
/-- An operation without a temporary. -/
theorem AOps.singleN {o : Oper} {v : St → Prop} (h : AOps P n ops [o] (fun T' st' => T' = T ∧ v st') (fun _ _ _ => False) T st) (hw : wantedA ops T o = some true)
    {g : G} {w : World} {a : Act} (hs : Sim g w st) (hk : Known g w T a) (K' : Act → World → Prop) (Q' : Exit → Act → World → Prop)
    (hK : ∀ rv g' w' st', Ext g w g' w' → Sim g' w' st' → v st' → K' (a.put o.dst rv) w') (hn : a.tmps.size = n) : o.wp P a w K' Q' := by
  have h1 := h g w a hs hk hn
  unfold wpList at h1
  rw [wanted_of hk hw, if_pos rfl] at h1
  rcases h1 with h1 | ⟨_, h1⟩
  · refine wp_put h1 (fun a' w' hda hq ⟨rv, hrv⟩ => ?_) (fun a' w' hq => hq.2.1) (fun e a' w' hne hq => ?_)
    · obtain ⟨h2, h3, g', T', st', h4, h5, h6, hT, hv⟩ := hq
      subst hrv
      exact hK rv g' w' st' h4 h5 hv
    · obtain ⟨_, _, g', T', st', _, _, _, h6⟩ := hq
      cases e with
      | normal => exact absurd rfl hne
      | exit id => exact h6.elim
      | ret => exact h6.elim
      | panic ch => obtain ⟨_, _, _, _, h7⟩ := h6; exact h7.elim
      | goto l => exact h6.elim
      | outgrown => exact h6.elim
  · exact absurd h1 LetsOut.not_QOf
theorem ev_glob {s s' : St} (h : s.glob = s'.glob) (T : Tmps) (x : Operand) : ev s T x = ev s' T x := by
  cases x <;> simp [ev, St.row, h]
theorem valA_glob {s s' : St} (h : s.glob = s'.glob) (T : Tmps) (o : Op) : valA s T o = valA s' T o := by
  unfold valA
  simp only [ev_glob h]
theorem step1_glob {s s' : St} (h : s.glob = s'.glob) (T : Tmps) (o : Oper) : step1 ops n s T o = step1 ops n s' T o := by
  unfold step1
  rw [valA_glob h]
theorem posS_spec {i j : Nat} (h : (List.range Es.length).filter (fun q => Nat.beq (Es.getD q 0) i) = [j]) : Es[j]? = some i ∧ ∀ q, Es[q]? = some i → q = j := by
  have hm : ∀ q, q ∈ (List.range Es.length).filter (fun q => Nat.beq (Es.getD q 0) i) ↔ q = j := fun q => by rw [h]; simp
  constructor
  · have := (hm j).2 rfl
    rw [List.mem_filter, List.mem_range] at this
    have e := Nat.eq_of_beq_eq_true this.2
    rw [List.getD_eq_getElem?_getD, List.getElem?_eq_getElem this.1] at e
    rw [List.getElem?_eq_getElem this.1]
    exact congrArg some e
  · intro q hq
    refine (hm q).1 ?_
    rw [List.mem_filter, List.mem_range]
    refine ⟨(List.getElem?_eq_some_iff.1 hq).1, ?_⟩
    rw [List.getD_eq_getElem?_getD, hq]
    exact nbeq_self i
/-- A quiet step. -/
theorem dqS {i : Nat} {o : Oper} {r : List Oper} {d : Tmp} {v : AV} {k : Tmps → St → Prop} (hi : Es.contains i = false) (hd : dstA n o.dst = some d) (hw : wantedA ops (see ops o T) o = some true)
    (h : ∀ st', StLe st' base → AOps P n ops [o] (fun T' st'' => ∃ u, T' = (d, u) :: see ops o T ∧ (u = v ∧ st'' = st')) (fun _ _ _ => False) (see ops o T) st')
    (hr : DRunX P n (IX sts base) Es ops (i + 1) r ((d, v) :: T) k) : DRunX P n (IX sts base) Es ops i (o :: r) T k := by
  obtain ⟨Qs, hr⟩ := hr
  obtain ⟨hd', hdn⟩ := dstA_some hd
  refine ⟨(fun u => u = v) :: Qs, ⟨v, rfl⟩, hdn, .inl ⟨hw, fun _ j => ?_, fun j hj => ?_⟩, fun u hu => ?_⟩
  · intro s g w a K' Q' ⟨hI, hle⟩ hs hk hn hK
    refine AOps.single hd' (dstOk_lt hdn d hd') (h s hle) hw hs hk K' Q' (fun rv g' w' u st' he hs' hR ⟨hu, hst⟩ => ?_) hn
    subst hu hst
    exact hK rv g' w' u st' he hs' hR rfl ⟨hI, hle⟩
  · rw [List.contains_iff_mem.2 (List.mem_of_getElem? hj)] at hi
    cases hi
  · subst hu
    rw [hd']
    exact hr
/-- A quiet step that asks nothing. -/
theorem dsS {i : Nat} {o : Oper} {r : List Oper} {d : Tmp} {v : AV} {k : Tmps → St → Prop} (hi : Es.contains i = false) (hs : step1 ops n base (see ops o T) o = some (d, v))
    (hr : DRunX P n (IX sts base) Es ops (i + 1) r ((d, v) :: T) k) : DRunX P n (IX sts base) Es ops i (o :: r) T k := by
  have hg : goes ops n (see ops o T) o = some d := by
    unfold step1 at hs
    split at hs
    · rename_i h1 h2
      cases hs
      exact h1
    · cases hs
  obtain ⟨hw, hd, hok⟩ := goes_some hg
  have hda : dstA n o.dst = some d := by
    unfold goes at hg
    rw [hw] at hg
    exact hg
  exact dqS hi hda hw (fun st' hle => sm ((step1_glob (n := n) (ops := ops) hle.glob (see ops o T) o).symm.trans hs) (nl ⟨v, rfl, rfl, rfl⟩)) hr
/-- An operation whose guard is false. -/
theorem duS {i : Nat} {o : Oper} {r : List Oper} {d : Tmp} {k : Tmps → St → Prop} (hi : Es.contains i = false) (hd : dstA n o.dst = some d) (hw : wantedA ops (see ops o T) o = some false)
    (hr : DRunX P n (IX sts base) Es ops (i + 1) r ((d, .lit undef) :: T) k) : DRunX P n (IX sts base) Es ops i (o :: r) T k := by
  obtain ⟨Qs, hr⟩ := hr
  obtain ⟨hd', hdn⟩ := dstA_some hd
  refine ⟨(fun u => u = .lit undef) :: Qs, ⟨_, rfl⟩, hdn, .inr ⟨hw, rfl, hi⟩, fun u hu => ?_⟩
  subst hu
  rw [hd']
  exact hr
/-- A step that writes. -/
theorem deS {i j : Nat} {o : Oper} {r : List Oper} {s1 s2 : St} {k : Tmps → St → Prop} (hj : (List.range Es.length).filter (fun q => Nat.beq (Es.getD q 0) i) = [j]) (h1 : sts[j]? = some s1) (h2 : sts[j + 1]? = some s2) (hle : StLe s2 base)
    (hd : o.dst = none) (hw : wantedA ops (see ops o T) o = some true) (h : AOps P n ops [o] (fun T' st'' => T' = see ops o T ∧ st'' = s2) (fun _ _ _ => False) (see ops o T) s1)
    (hr : DRunX P n (IX sts base) Es ops (i + 1) r T k) : DRunX P n (IX sts base) Es ops i (o :: r) T k := by
  obtain ⟨Qs, hr⟩ := hr
  obtain ⟨p1, p2⟩ := posS_spec hj
  refine ⟨(fun _ => True) :: Qs, ⟨.bool true, trivial⟩, by rw [hd]; rfl, .inl ⟨hw, fun hc => ?_, fun q hq => ?_⟩, fun u _ => ?_⟩
  · rw [List.contains_iff_mem.2 (List.mem_of_getElem? p1)] at hc
    cases hc
  · obtain rfl := p2 q hq
    intro s g w a K' Q' ⟨hI, _⟩ hs hk hn hK
    rw [h1] at hI
    cases hI
    refine AOps.singleN h hw hs hk K' Q' (fun rv g' w' st' he hs' hst => ?_) hn
    rw [hst] at hs'
    exact hK rv g' w' (.lit rv) s2 he hs' (.lit rv) trivial ⟨h2, hle⟩
  · rw [hd]
    exact hr
theorem dnS {i : Nat} {sN : St} {k : Tmps → St → Prop} (hN : sts[Es.length]? = some sN) (h : k T sN) : DRunX P n (IX sts base) Es ops i [] T k := by
  refine ⟨[], ?_⟩
  intro s ⟨hs, _⟩
  rw [hN] at hs
  cases hs
  exact h
end
end Go.AM
/- Functions of the library that a contract of the kit tells. No conditions: lemmas only. -/
namespace Go.AM
open Go.RowKit (Below)
/-- New blocks that nobody knows. -/
theorem Sim.grown {g : G} {w w' : World} {st : St} (hs : Sim g w st) (os : Array Obj) (hh : w'.heap = w.heap ++ os) (h1 : w'.os = w.os) (h2 : w'.tape = w.tape) (h3 : w'.output = w.output) : Ext g w g w' ∧ Sim g w' st := by
  have hb : ∀ k, k < w.heap.size → w'.heap[k]? = w.heap[k]? := fun k hk => by rw [hh, Array.getElem?_append, if_pos hk]
  have hsz : w.heap.size ≤ w'.heap.size := by rw [hh, Array.size_append]; omega
  have he : Ext g w g w' := ⟨rfl, Nat.le_refl _, fun _ _ h => h, fun b i h => by simp only [World.cell?, hb b (hs.immlt b i h)], fun _ _ h => h, fun _ _ h => h, ⟨h1, h2, h3, hsz, fun k hk => hb k (Nat.lt_of_lt_of_le hk hs.base)⟩⟩
  refine ⟨he, Nat.le_trans hs.base hsz, fun o c hc => ?_, hs.inj, fun t ht => ?_, hs.tobj, hs.tinj, fun b i h => Nat.lt_of_lt_of_le (hs.immlt b i h) hsz, fun o b m h => Nat.lt_of_lt_of_le (hs.objlt o b m h) hsz, fun t b r h => Nat.lt_of_lt_of_le (hs.toklt t b r h) hsz, hs.fresh, fun gi row h => (hs.globs gi row h).ext he⟩
  · obtain ⟨b, m, h1, h2, h3, h4⟩ := hs.objs o c hc
    exact ⟨b, m, h1, h2, h3.mono he (hb b (hs.objlt o b m h1)), h4⟩
  · obtain ⟨⟨b', len, cap, e, size⟩, h1, h2⟩ := hs.toks t ht
    refine ⟨_, h1, ?_⟩
    cases b' with
    | none => exact h2
    | some b' =>
      obtain ⟨a1, a2, a3, a4, ⟨cur, a5, a6⟩, a7⟩ := h2
      exact ⟨a1, a2, a3, a4, ⟨cur, (hb b' (hs.toklt t b' _ h1)).trans a5, a6⟩, a7⟩
/-- A contract of the kit whose world only grows, as a contract here. -/
theorem ACalls.grown {P : Program} {f : FuncId} {args : List AV} {st : St} {X : AV}
    (h : ∀ g w (rargs : Array Value), Sim g w st → args.length = rargs.size → (∀ (i : Nat) c v, args[i]? = some c → rargs[i]? = some v → R g w c v) →
      Calls P f rargs w fun e w' => ∃ rv, e = .returned rv ∧ (∀ g w, R g w X rv) ∧ ∃ os, w'.heap = w.heap ++ os ∧ w'.os = w.os ∧ w'.tape = w.tape ∧ w'.output = w.output) :
    ACalls P f args st (fun v st' => v = X ∧ st' = st) (fun _ _ => False) := by
  intro g w rargs hs hl hr
  refine (h g w rargs hs hl hr).mono fun e w' ⟨rv, he, hR, os, a1, a2, a3, a4⟩ => ?_
  obtain ⟨hx, hs'⟩ := hs.grown os a1 a2 a3 a4
  refine ⟨g, st, hx, hs', ?_⟩
  subst he
  exact ⟨X, hR g w', rfl, rfl⟩
/-- A table of numbers, as the kit tells it. -/
theorem globs_cells {g : G} {w : World} {st : St} (hs : Sim g w st) {gi : Nat} {row : List AV} (h : (gi, row) ∈ st.glob) : ∀ (j : Nat) c, row[j]? = some c → ∃ v, w.cell? ⟨gi, j, none⟩ = some v ∧ R g w c v := by
  have hR := (hs.globs gi row h).rel
  generalize hp : Value.pointer (some ⟨gi, 0, none⟩) = pv at hR
  cases hR with
  | eptr _ _ _ _ b off f hsz h1 himm hh =>
    intro j c hj
    have hjl := (List.getElem?_eq_some_iff.1 hj).1
    simp only [Value.pointer.injEq, Option.some.injEq, Addr.mk.injEq] at hp
    obtain ⟨rfl, hoff, _⟩ := hp
    have h2 := (himm 0 j (by simp) hjl).2
    refine ⟨f 0 j, ?_, hh 0 j row c rfl hj⟩
    rw [← h2]
    congr 2
    omega
/-- A table of numbers of the library's. -/
theorem tabIs {P : Program} {g : G} {w : World} {st : St} (hs : Sim g w st) {name : String} {gi : Nat} {k : IntKind} {zs : List Int} (hg : P.globalNamed name = some gi) (h : (gi, zs.map fun z => AV.int k z) ∈ st.glob) : Lib.TabIs P w name k zs := by
  obtain ⟨cs, ty, fr, h1, h2⟩ := (hs.globs gi _ h).arr
  have hc := globs_cells hs h
  unfold Lib.TabIs World.var?
  rw [hg]
  simp only [Option.bind_some, h1, Option.some.injEq]
  apply Array.ext_getElem?
  intro j
  rcases Nat.lt_or_ge j zs.length with hj | hj
  · obtain ⟨v, hv, hR⟩ := hc j (.int k zs[j]) (by simp [hj])
    cases hR
    have hv' : cs[j]? = some (.int k zs[j]) := by
      have : w.cell? ⟨gi, j, none⟩ = cs[j]? := by simp [World.cell?, h1]
      rw [← this]; exact hv
    rw [hv']
    simp [hj]
  · rw [Array.getElem?_eq_none (by rw [h2]; simpa using hj)]
    simp [hj]
end Go.AM
/- A nil slice in a variable gets a token. No conditions: lemmas only. -/
namespace Go.AM
open Go.RowKit (Below)
variable {P : Program} {n : Nat} {K : Post} {E : EPost} {T : Tmps} {st : St}
theorem Sim.nilTokIn {g : G} {w : World} (hs : Sim g w st) {o s i j : Nat} {oty : TypeId} {rows : List (List AV)} {row : List AV} (ho : st.obj o = some (.cells oty s rows)) (hr : rows[i]? = some row) (hj : row[j]? = some (.view 0 [] .nil)) (e : TypeId) (sz : Nat) :
    ∃ g' tk, Ext g w g' w ∧ st.tok tk = false ∧ Sim g' w ((st.addTok tk).set o (.cells oty s (rows.set i (row.set j (.view sz [] (.own tk e)))))) := by
  obtain ⟨g', he, hs', htk, hf⟩ := hs.nilTok e
  obtain ⟨b, m, hb, _, _, _⟩ := hs'.objs o _ ho
  obtain ⟨_, ⟨arr, ha, hasz, hml, hl, h1, hc⟩, _⟩ := hs'.objOf ho hb
  have hil : i < rows.length := (List.getElem?_eq_some_iff.1 hr).1
  have hjl : j < row.length := (List.getElem?_eq_some_iff.1 hj).1
  obtain ⟨_, hs2⟩ := hs'.write (c' := .cells oty s (rows.set i (row.set j (.view sz [] (.own g.next e))))) ho hb w rfl rfl rfl rfl (fun _ _ => rfl) (fun _ => by
    refine ⟨arr, ha, hasz, by simpa using hml, fun r hm => ?_, fun r hm => ?_, fun i' j' r c hr' hc' => ?_⟩
    · rcases List.mem_or_eq_of_mem_set hm with h | h
      · exact hl r h
      · rw [h, List.length_set]; exact hl row (List.mem_of_getElem? hr)
    · rcases List.mem_or_eq_of_mem_set hm with h | h
      · exact h1 r h
      · subst h
        intro c hcm
        rcases List.mem_or_eq_of_mem_set hcm with h2 | h2
        · exact h1 row (List.mem_of_getElem? hr) c h2
        · subst h2; rfl
    · by_cases hi : i' = i
      · subst hi
        rw [List.getElem?_set_self hil] at hr'
        cases hr'
        by_cases hjj : j' = j
        · subst hjj
          rw [List.getElem?_set_self hjl] at hc'
          cases hc'
          obtain ⟨v, hv, hR⟩ := hc i' j' row _ hr hj
          refine ⟨v, hv, ?_⟩
          have hv0 : v = .slice none 0 0 := by
            cases hR with
            | vnil => rfl
            | view _ _ _ _ _ _ _ _ _ _ _ ht' => simp [TokAt] at ht'
          subst hv0
          exact .vnil _ _ (TokAt.mkOwn rfl htk (fun h => absurd rfl h))
        · rw [List.getElem?_set_ne (Ne.symm hjj)] at hc'
          exact hc i' j' row c hr hc'
      · rw [List.getElem?_set_ne (Ne.symm hi)] at hr'
        exact hc i' j' r c hr' hc')
  exact ⟨g', g.next, he, hf, hs2⟩
theorem AWP.nilIn {c : Code} {o s i j : Nat} {oty : TypeId} {rows : List (List AV)} {row : List AV} (e : TypeId) (sz : Nat) (ho : st.obj o = some (.cells oty s rows)) (hr : rows[i]? = some row) (hj : row[j]? = some (.view 0 [] .nil))
    (h : ∀ tk, st.tok tk = false → AWP P n c K E T ((st.addTok tk).set o (.cells oty s (rows.set i (row.set j (.view sz [] (.own tk e))))))) : AWP P n c K E T st :=
  AWP.ghost fun g w a hs hk => by
    obtain ⟨g', tk, he, hf, hs'⟩ := hs.nilTokIn ho hr hj e sz
    exact ⟨g', T, _, he, hs', hk.ext he, h tk hf⟩
end Go.AM
/- Arguments that are structs and arrays of plain cells, opened. No conditions: definitions and lemmas only. -/
namespace Go.AM
def FitW1 : Sh → AV → Prop
  | .kI k, c => ∃ x, c = .int k x ∧ (Lit.int k x).wf = true
  | .kB, c => ∃ b, c = .bool b
  | .kS, c => ∃ l : List UInt8, c = .str l ∧ l.length ≤ maxLen
def FitsW : List Sh → List AV → Prop
  | [], [] => True
  | s :: ss, c :: cs => FitW1 s c ∧ FitsW ss cs
  | _, _ => False
theorem FitsW.append : ∀ {s1 s2 : List Sh} {c1 c2 : List AV}, FitsW s1 c1 → FitsW s2 c2 → FitsW (s1 ++ s2) (c1 ++ c2)
  | [], _, [], _, _, h2 => h2
  | _ :: _, _, _ :: _, _, h1, h2 => ⟨h1.1, h1.2.append h2⟩
  | [], _, _ :: _, _, h1, _ => h1.elim
  | _ :: _, _, [], _, h1, _ => h1.elim
theorem flatFields_fits {P : Program} {fuel : Nat} {F : TypeId → Option (List Sh)} (hF : ∀ t sh cs, F t = some sh → P.cellsOf t = sh.length → HasTy P fuel t cs → cs.length = sh.length → FitsW sh cs) {cs : List AV} :
    ∀ (fs : List Field) (off : Nat) (sh : List Sh), flatFields P F off fs = some sh → (∀ f ∈ fs, HasTy P fuel f.type ((cs.drop f.offset).take (P.cellsOf f.type))) → cs.length = off + sh.length → FitsW sh (cs.drop off)
  | [], off, sh, h, _, hl => by
    simp only [flatFields, Option.some.injEq] at h
    subst h
    rw [List.drop_eq_nil_of_le (by simp at hl; omega)]
    trivial
  | f :: fs, off, sh, h, hf, hl => by
    unfold flatFields at h
    cases h1 : F f.type with
    | none => simp [h1] at h
    | some s1 =>
      cases h2 : (P.info? f.type).map (·.size) with
      | none => simp [h1, h2] at h
      | some sz =>
        simp only [h1, h2] at h
        cases hc : Nat.beq f.offset off && Nat.beq sz s1.length && f.name != "_" with
        | false => rw [hc] at h; cases h
        | true =>
          rw [hc, cond_true] at h
          simp only [Bool.and_eq_true] at hc
          have e1 := Nat.eq_of_beq_eq_true hc.1.1
          have e2 := Nat.eq_of_beq_eq_true hc.1.2
          have hcell : P.cellsOf f.type = s1.length := by simp [Program.cellsOf, h2, e2]
          cases h3 : flatFields P F (off + s1.length) fs with
          | none => rw [h3] at h; cases h
          | some s2 =>
            rw [h3] at h
            simp only [Option.map_some, Option.some.injEq] at h
            subst h
            have a1 := hf f (List.mem_cons_self ..)
            rw [e1, hcell] at a1
            simp only [List.length_append] at hl
            have a2 := hF _ _ _ h1 hcell a1 (by simp; omega)
            have a3 := flatFields_fits hF fs (off + s1.length) s2 h3 (fun f hm => hf f (List.mem_cons_of_mem _ hm)) (by omega)
            have := a2.append a3
            rwa [← List.drop_drop, List.take_append_drop] at this
theorem hasTy_flat {P : Program} : ∀ (d fuel : Nat) (t : TypeId) (sh : List Sh) (cs : List AV), flatTy P d t = some sh → P.cellsOf t = sh.length → HasTy P fuel t cs → cs.length = sh.length → FitsW sh cs
  | 0, _, _, _, _, h, _, _, _ => by cases h
  | d + 1, 0, _, _, _, _, _, h, _ => h.elim
  | d + 1, fuel + 1, t, sh, cs, h, hc, hty, hl => by
    unfold flatTy at h
    unfold HasTy at hty
    cases hu : P.underlying t with
    | none => simp [hu] at h
    | some td =>
      cases td with
      | int k => simp only [hu, Option.some.injEq] at h hty; obtain ⟨x, rfl, hx⟩ := hty; subst h; exact ⟨⟨x, rfl, hx⟩, trivial⟩
      | bool => simp only [hu, Option.some.injEq] at h hty; obtain ⟨b, rfl⟩ := hty; subst h; exact ⟨⟨b, rfl⟩, trivial⟩
      | string => simp only [hu, Option.some.injEq] at h hty; obtain ⟨l, rfl, hx⟩ := hty; subst h; exact ⟨⟨l, rfl, hx⟩, trivial⟩
      | struct fs =>
        simp only [hu] at h hty
        cases hs : P.stoodInHeld t with
        | true => rw [hs] at h; cases h
        | false =>
          rw [hs, cond_false] at h
          have := flatFields_fits (P := P) (fuel := fuel) (fun t sh cs h1 h2 h3 h4 => hasTy_flat d fuel t sh cs h1 h2 h3 h4) fs.toList 0 sh h hty.2 (by omega)
          simpa using this
      | array m e =>
        simp only [hu] at h hty
        cases h1 : flatTy P d e with
        | none => simp [h1] at h
        | some s1 =>
          cases h2 : (P.info? e).map (·.size) with
          | none => simp [h1, h2] at h
          | some sz =>
            simp only [h1, h2] at h
            cases hb : Nat.beq sz s1.length with
            | false => rw [hb] at h; cases h
            | true =>
              rw [hb, cond_true, Option.some.injEq] at h
              subst h
              have e2 := Nat.eq_of_beq_eq_true hb
              have hcell : P.cellsOf e = s1.length := by simp [Program.cellsOf, h2, e2]
              rw [hcell] at hty
              have key : ∀ (j : Nat) (cs : List AV), cs.length = j * s1.length → (∀ i, i < j → HasTy P fuel e ((cs.drop (i * s1.length)).take s1.length)) → FitsW (List.replicate j s1).flatten cs := by
                intro j
                induction j with
                | zero => intro cs hl _; simp at hl; subst hl; trivial
                | succ j ih =>
                  intro cs hl hi
                  rw [List.replicate_succ, List.flatten_cons]
                  rw [Nat.add_mul, Nat.one_mul] at hl
                  have a1 := hasTy_flat d fuel e s1 _ h1 hcell (by simpa using hi 0 (by omega)) (by simp; omega)
                  have a2 := ih (cs.drop s1.length) (by simp; omega) (fun i hij => by
                    have := hi (i + 1) (by omega)
                    rw [List.drop_drop]
                    rwa [show s1.length + i * s1.length = (i + 1) * s1.length by rw [Nat.add_mul, Nat.one_mul, Nat.add_comm]])
                  have := a1.append a2
                  rwa [List.take_append_drop] at this
              refine key m cs ?_ hty.2
              rw [hl, List.length_flatten]
              simp
      | _ => simp [hu] at h
section
variable {P : Program} {n : Nat} {K : Post} {E : EPost} {T : Tmps} {st : St} {ops : Array Oper} {rest : List Oper}
variable {ty ty2 : TypeId} {pos pos2 : String} {es es2 : Array Edge} {gd : Option (Nat × Bool)} {d : Tmp} {y : Operand} {dd : Option Tmp}
/-- A new variable gets its only value. -/
theorem alN {t : TypeId} {sz by_ : Nat} {z : Value} [hi : Inf P t sz by_ z] {v : AV} (hg : goes ops n T ⟨dd, .alloc t, ty, pos, es, gd⟩ = some d) (hz : zok sz z = true) (hy : ∀ o, ev (st.set o (.cells t sz [zrow z])) ((d, .cptr o sz 0 0) :: T) y = some v)
    (hv : storable v = true) (hsz : Nat.beq v.cells.length sz = true)
    (k : AOps P n ops rest K E ((d, .eptr sz [v.cells] 0 0) :: T) st) :
    AOps P n ops (⟨dd, .alloc t, ty, pos, es, gd⟩ :: ⟨none, .store t (.tmp d) y, ty2, pos2, es2, none⟩ :: rest) K E T st := by
  refine al hg hz fun o ho => ?_
  have hzl := (zok_spec hz).2.2.1
  refine soN d rfl ?_ (hy o) hv hsz ?_ ho ?_
  · simp [Tmps.get_cons]
  · rw [Nat.eq_of_beq_eq_true hsz, hzl]; exact nbeq_self sz
  · refine AOps.weaken ?_ (.refl _) k
    intro i v' h
    rw [Tmps.get_cons] at h
    by_cases e : d = i
    · subst e
      rw [if_pos rfl] at h
      cases h
      exact ⟨_, by rw [Tmps.get_cons, if_pos rfl], .refl _⟩
    · rw [if_neg e] at h
      exact ⟨v', by rw [Tmps.get_cons, if_neg e, Tmps.get_cons, if_neg e]; exact h, .refl _⟩
end
/-- Cells that are all numbers. -/
theorem fits_ints : ∀ (n : Nat) {cs : List AV}, FitsW (List.replicate n (.kI .i64)) cs → ∃ l : List Int, cs = l.map (AV.int .i64) ∧ l.length = n ∧ ∀ x ∈ l, (Lit.int .i64 x).wf = true
  | 0, [], _ => ⟨[], rfl, rfl, fun x h => by cases h⟩
  | 0, _ :: _, h => h.elim
  | n + 1, [], h => h.elim
  | n + 1, c :: cs, h => by
    obtain ⟨⟨x, rfl, hx⟩, h2⟩ := h
    obtain ⟨l, rfl, hl, hw⟩ := fits_ints n h2
    exact ⟨x :: l, rfl, by simp [hl], fun y hy => by rcases List.mem_cons.1 hy with h | h; exact h ▸ hx; exact hw y h⟩
/-- A struct or array argument of plain cells. -/
theorem arg_flat {P : Program} {t : TypeId} {a : AV} {td : TypeDesc} {d : Nat} {sh : List Sh} (hu : P.underlying t = some td) (ha : aggD td = true) (hc : P.cellsOf t = sh.length) (hf : flatTy P d t = some sh) (h : ArgTy P t a) : ∃ cs, a = .agg cs ∧ FitsW sh cs := by
  obtain ⟨fuel, cs, hty, h⟩ := h
  have hlen : cs.length = P.cellsOf t := by
    cases fuel with
    | zero => exact hty.elim
    | succ fuel =>
      unfold HasTy at hty
      rw [hu] at hty
      cases td <;> simp only [aggD] at ha <;> first | exact hty.1 | cases ha
  rcases h with ⟨td', h1, _, rfl⟩ | ⟨td', h1, h2, _⟩
  · exact ⟨cs, rfl, hasTy_flat d fuel t sh cs hf hc hty (by rw [hlen, hc])⟩
  · rw [hu] at h1
    cases h1
    rw [ha] at h2
    cases h2
end Go.AM
/- The same rules, their premises paid by themselves. No conditions: lemmas only. -/
namespace Go.AM
section
variable {P : Program} {n : Nat} {K : Post} {E : EPost} {T : Tmps} {st : St} {ops : Array Oper} {rest : List Oper}
variable {ty ty2 : TypeId} {pos pos2 : String} {es es2 : Array Edge} {gd : Option (Nat × Bool)} {d : Tmp} {x y : Operand} {dd : Option Tmp}
theorem ZA {o : Oper} {d : Tmp} {v : AV} (h : step1 ops n st T o = some (d, v) := by exact rfl) (z : AOps P n ops rest K E ((d, v) :: T) st) : AOps P n ops (o :: rest) K E T st := sm h z
theorem ZB {o : Oper} {d : Tmp} (h : step0 ops n T o = some d := by exact rfl) (z : AOps P n ops rest K E ((d, .lit undef) :: T) st) : AOps P n ops (o :: rest) K E T st := uw h z
theorem ZC {t ft : TypeId} {f off : Nat} [hf : Fld P t f off ft] {sz by_ : Nat} {zz : Value} [hi : Inf P ft (sz + 1) by_ zz] {q : AV} (hg : goes ops n T ⟨dd, .fieldAddr t x f, ty, pos, es, gd⟩ = some d := by exact rfl)
    (hx : ptrA off (ev st T x) = some q := by exact rfl)
    (z : AOps P n ops rest K E ((d, q) :: T) st) : AOps P n ops (⟨dd, .fieldAddr t x f, ty, pos, es, gd⟩ :: rest) K E T st := fa hg hx z
theorem ZD {t : TypeId} {td : TypeDesc} [hu : Und P t td] {sz by_ : Nat} {zz : Value} [hi : Inf P t sz by_ zz] {s : Nat} {rows : List (List AV)} {i : Nat} {row : List AV}
    (hg : goes ops n T ⟨dd, .load t x, ty, pos, es, gd⟩ = some d := by exact rfl) (ha : aggD td = true := by exact rfl) (hx : ev st T x = some (.eptr s rows i 0) := by exact rfl) (hr : rows[i]? = some row := by first | exact rfl | assumption) (hl : Nat.beq sz row.length = true := by exact rfl)
    (z : AOps P n ops rest K E ((d, .agg row) :: T) st) : AOps P n ops (⟨dd, .load t x, ty, pos, es, gd⟩ :: rest) K E T st := leW hg ha hx hr hl z
theorem ZE {t : TypeId} {td : TypeDesc} [hu : Und P t td] {sz by_ : Nat} {zz : Value} [hi : Inf P t sz by_ zz] {o s : Nat} {rows : List (List AV)} {i : Nat} {row : List AV} {oty : TypeId}
    (hg : goes ops n T ⟨dd, .load t x, ty, pos, es, gd⟩ = some d := by exact rfl) (ha : aggD td = true := by exact rfl) (hx : ev st T x = some (.cptr o s i 0) := by exact rfl) (ho : st.obj o = some (.cells oty s rows) := by first | exact St.obj_set _ _ _ | (rename_i hle; exact hle.obj _ _ (St.obj_set _ _ _)) | (rename_i hle; exact hle.obj _ _ (by assumption))) (hr : rows[i]? = some row := by exact rfl) (hl : Nat.beq sz row.length = true := by exact rfl)
    (z : AOps P n ops rest K E ((d, .agg row) :: T) st) : AOps P n ops (⟨dd, .load t x, ty, pos, es, gd⟩ :: rest) K E T st := lcW hg ha hx ho hr hl z
theorem ZF {t : TypeId} {td : TypeDesc} [hu : Und P t td] {sz by_ : Nat} {zz : Value} [hi : Inf P t sz by_ zz] {s : Nat} {rows : List (List AV)} {i off : Nat} {row : List AV} {v : AV}
    (hg : goes ops n T ⟨dd, .load t x, ty, pos, es, gd⟩ = some d := by exact rfl) (hx : ev st T x = some (.eptr s rows i off) := by exact rfl) (hr : rows[i]? = some row := by first | exact rfl | assumption) (hv : sel (aggD td) sz row off = some v := by exact rfl)
    (z : AOps P n ops rest K E ((d, v) :: T) st) : AOps P n ops (⟨dd, .load t x, ty, pos, es, gd⟩ :: rest) K E T st := le hg hx hr hv z
theorem ZG {t : TypeId} {td : TypeDesc} [hu : Und P t td] {sz by_ : Nat} {zz : Value} [hi : Inf P t sz by_ zz] {s : Nat} {rows : List (List AV)} {i off : Nat} {row : List AV} {v : AV}
    (hg : goes ops n T ⟨dd, .load t x, ty, pos, es, gd⟩ = some d := by exact rfl) (ha : aggD td = false := by exact rfl) (hx : ev st T x = some (.eptr s rows i off) := by exact rfl) (hr : rows[i]? = some row := by exact rfl) (hv : row[off]? = some v := by assumption)
    (z : AOps P n ops rest K E ((d, v) :: T) st) : AOps P n ops (⟨dd, .load t x, ty, pos, es, gd⟩ :: rest) K E T st := leS hg ha hx hr hv z
theorem ZH {t : TypeId} {td : TypeDesc} [hu : Und P t td] {sz by_ : Nat} {zz : Value} [hi : Inf P t sz by_ zz] {o s : Nat} {rows : List (List AV)} {i off : Nat} {row : List AV} {v : AV} {oty : TypeId}
    (hg : goes ops n T ⟨dd, .load t x, ty, pos, es, gd⟩ = some d := by exact rfl) (hx : ev st T x = some (.cptr o s i off) := by exact rfl) (ho : st.obj o = some (.cells oty s rows) := by first | exact St.obj_set _ _ _ | assumption | (rename_i hle; exact hle.obj _ _ (St.obj_set _ _ _)) | (rename_i hle; exact hle.obj _ _ (by assumption))) (hr : rows[i]? = some row := by first | exact rfl | assumption) (hv : sel (aggD td) sz row off = some v := by exact rfl)
    (z : AOps P n ops rest K E ((d, v) :: T) st) : AOps P n ops (⟨dd, .load t x, ty, pos, es, gd⟩ :: rest) K E T st := lc hg hx ho hr hv z
theorem ZI {t : TypeId} {td : TypeDesc} [hu : Und P t td] {sz by_ : Nat} {zz : Value} [hi : Inf P t sz by_ zz] {o s : Nat} {rows : List (List AV)} {i off : Nat} {row : List AV} {v : AV} {oty : TypeId}
    (hg : goes ops n T ⟨dd, .load t x, ty, pos, es, gd⟩ = some d := by exact rfl) (ha : aggD td = false := by exact rfl) (hx : ev st T x = some (.cptr o s i off) := by exact rfl) (ho : st.obj o = some (.cells oty s rows) := by first | exact St.obj_set _ _ _ | (rename_i hle; exact hle.obj _ _ (St.obj_set _ _ _)) | (rename_i hle; exact hle.obj _ _ (by assumption))) (hr : rows[i]? = some row := by exact rfl) (hv : row[off]? = some v := by assumption)
    (z : AOps P n ops rest K E ((d, v) :: T) st) : AOps P n ops (⟨dd, .load t x, ty, pos, es, gd⟩ :: rest) K E T st := lcS hg ha hx ho hr hv z
theorem ZJ {t u : TypeId} {e : TypeId} [hu : Und P t (.slice e)] {sz : Nat} {rows : List (List AV)} {tk : Tok}
    (hg : goes ops n T ⟨dd, .call ⟨.builtin .len, #[x], #[t]⟩, u, pos, es, gd⟩ = some d := by exact rfl) (hx : ev st T x = some (.view sz rows tk) := by exact rfl)
    (z : AOps P n ops rest K E ((d, .int .i64 rows.length) :: T) st) : AOps P n ops (⟨dd, .call ⟨.builtin .len, #[x], #[t]⟩, u, pos, es, gd⟩ :: rest) K E T st := lnv hg hx z
theorem ZK {t u : TypeId} {e : TypeId} [hu : Und P t (.slice e)] {o sz lo len : Nat}
    (hg : goes ops n T ⟨dd, .call ⟨.builtin .len, #[x], #[t]⟩, u, pos, es, gd⟩ = some d := by exact rfl) (hx : ev st T x = some (.msl o sz lo len) := by exact rfl)
    (z : AOps P n ops rest K E ((d, .int .i64 len) :: T) st) : AOps P n ops (⟨dd, .call ⟨.builtin .len, #[x], #[t]⟩, u, pos, es, gd⟩ :: rest) K E T st := lnm hg hx z
theorem ZL {t u : TypeId} [hu : Und P t .string] {l : List UInt8}
    (hg : goes ops n T ⟨dd, .call ⟨.builtin .len, #[x], #[t]⟩, u, pos, es, gd⟩ = some d := by exact rfl) (hx : ev st T x = some (.str l) := by exact rfl)
    (z : AOps P n ops rest K E ((d, .int .i64 l.length) :: T) st) : AOps P n ops (⟨dd, .call ⟨.builtin .len, #[x], #[t]⟩, u, pos, es, gd⟩ :: rest) K E T st := lns hg hx z
theorem ZM {t e : TypeId} [hu : Und P t (.slice e)] {sz by_ : Nat} {zz : Value} [hi : Inf P e sz by_ zz] {rows : List (List AV)} {tk : Tok} {k : IntKind} {i : Int} {m : Nat}
    (hg : goes ops n T ⟨dd, .indexAddr t x y, ty, pos, es, gd⟩ = some d := by exact rfl) (hx : ev st T x = some (.view sz rows tk) := by exact rfl) (hy : ev st T y = some (.int k i) := by exact rfl)
    (hm : i = m := by first | exact rfl | exact (rfl : (0 : Int) = ((0 : Nat) : Int)) | exact (rfl : (1 : Int) = ((1 : Nat) : Int)) | exact (rfl : (2 : Int) = ((2 : Nat) : Int)) | exact (rfl : (3 : Int) = ((3 : Nat) : Int)) | exact (rfl : (4 : Int) = ((4 : Nat) : Int)) | exact (rfl : (5 : Int) = ((5 : Nat) : Int)) | exact (rfl : (6 : Int) = ((6 : Nat) : Int)))
    (hlt : m < rows.length := by first | assumption | exact of_decide_eq_true rfl)
    (z : AOps P n ops rest K E ((d, .eptr sz rows m 0) :: T) st) : AOps P n ops (⟨dd, .indexAddr t x y, ty, pos, es, gd⟩ :: rest) K E T st := ix hg hx hy hm hlt z
theorem ZN {t e : TypeId} [hu : Und P t (.slice e)] {sz by_ : Nat} {zz : Value} [hi : Inf P e sz by_ zz] {o lo len : Nat} {k : IntKind} {i : Int} {m : Nat}
    (hg : goes ops n T ⟨dd, .indexAddr t x y, ty, pos, es, gd⟩ = some d := by exact rfl) (hx : ev st T x = some (.msl o sz lo len) := by exact rfl) (hy : ev st T y = some (.int k i) := by exact rfl) (hm : i = m := by exact rfl) (hlt : m < len := by assumption)
    (z : AOps P n ops rest K E ((d, .cptr o sz (lo + m) 0) :: T) st) : AOps P n ops (⟨dd, .indexAddr t x y, ty, pos, es, gd⟩ :: rest) K E T st := ixm hg hx hy hm hlt z
theorem ZO {t u : TypeId} {a : Nat} (hg : goes ops n T ⟨dd, .binOp .add t x y u, ty, pos, es, gd⟩ = some d := by exact rfl)
    (hx : ev st T x = some (.int .i64 (a : Int)) := by exact rfl) (hy : ev st T y = some (.int .i64 1) := by exact rfl) (hc : a < 9223372036854775807 := by omega)
    (z : AOps P n ops rest K E ((d, .int .i64 ((a + 1 : Nat) : Int)) :: T) st) : AOps P n ops (⟨dd, .binOp .add t x y u, ty, pos, es, gd⟩ :: rest) K E T st := inc hg hx hy hc z
theorem ZP {t u : TypeId} {a b : Nat} (hg : goes ops n T ⟨dd, .binOp .add t x y u, ty, pos, es, gd⟩ = some d := by exact rfl)
    (hx : ev st T x = some (.int .i64 (a : Int)) := by exact rfl) (hy : ev st T y = some (.int .i64 (b : Int)) := by exact rfl) (hc : a + b < 9223372036854775808 := by omega)
    (z : AOps P n ops rest K E ((d, .int .i64 ((a + b : Nat) : Int)) :: T) st) : AOps P n ops (⟨dd, .binOp .add t x y u, ty, pos, es, gd⟩ :: rest) K E T st := adn hg hx hy hc z
theorem ZQ {t e : TypeId} {esz eby : Nat} {ez : Value} {v : AV} [hu : Und P t (.slice e)] [hie : Inf P e (esz + 1) eby ez] (hg : goes ops n T ⟨dd, .buildSlice t 1 #[(0, x)], ty, pos, es, gd⟩ = some d := by exact rfl)
    (hz : zok (esz + 1) ez = true := by exact rfl) (hsm : Nat.ble (1 * (esz + 1)) 16777216 = true := by exact rfl) (hx : ev st T x = some v := by exact rfl) (hl : Nat.beq v.cells.length (esz + 1) = true := by exact rfl) (hv : storable v = true := by exact rfl)
    (z : AOps P n ops rest K E ((d, .view (esz + 1) [v.cells] .shared) :: T) st) : AOps P n ops (⟨dd, .buildSlice t 1 #[(0, x)], ty, pos, es, gd⟩ :: rest) K E T st := bs1 hg hz hsm hx hl hv z
theorem ZR {t : TypeId} {v : AV} {sz : Nat} (hg : goes ops n T ⟨dd, .box t x, ty, pos, es, gd⟩ = some d := by exact rfl) (hx : ev st T x = some v := by exact rfl) (hv : storable v = true := by exact rfl) (hsz : v.cells.length = sz := by exact rfl)
    (z : AOps P n ops rest K E ((d, .eptr sz [v.cells] 0 0) :: T) st) : AOps P n ops (⟨dd, .box t x, ty, pos, es, gd⟩ :: rest) K E T st := bxe hg hx hv hsz z
theorem ZS {t e u : TypeId} [hu : Und P t (.slice e)] {sz : Nat}
    (hg : goes ops n T ⟨dd, .binOp .eql t x (.const (.slice none 0 0)) u, ty, pos, es, gd⟩ = some d := by exact rfl) (hx : ev st T x = some (.view sz [] .nil) := by exact rfl)
    (z : AOps P n ops rest K E ((d, .bool true) :: T) st) : AOps P n ops (⟨dd, .binOp .eql t x (.const (.slice none 0 0)) u, ty, pos, es, gd⟩ :: rest) K E T st := eqn hg hx z
theorem ZT {t u : TypeId} [hu : Und P t .bool] {p q : Bool}
    (hg : goes ops n T ⟨dd, .binOp .eql t x y u, ty, pos, es, gd⟩ = some d := by exact rfl) (hx : ev st T x = some (.bool p) := by exact rfl) (hy : ev st T y = some (.bool q) := by exact rfl)
    (z : AOps P n ops rest K E ((d, .bool (p == q)) :: T) st) : AOps P n ops (⟨dd, .binOp .eql t x y u, ty, pos, es, gd⟩ :: rest) K E T st := eqb hg hx hy z
theorem ZU {t u : TypeId} [hu : Und P t .bool] {p q : Bool}
    (hg : goes ops n T ⟨dd, .binOp .neq t x y u, ty, pos, es, gd⟩ = some d := by exact rfl) (hx : ev st T x = some (.bool p) := by exact rfl) (hy : ev st T y = some (.bool q) := by exact rfl)
    (z : AOps P n ops rest K E ((d, .bool (!(p == q))) :: T) st) : AOps P n ops (⟨dd, .binOp .neq t x y u, ty, pos, es, gd⟩ :: rest) K E T st := neb hg hx hy z
theorem ZV {t u : TypeId} {sh : List Sh} [h : FlatT P t sh] {cs ds : List AV} (hg : goes ops n T ⟨dd, .binOp .eql t x y u, ty, pos, es, gd⟩ = some d := by exact rfl) (hx : ev st T x = some (.agg cs) := by exact rfl) (hy : ev st T y = some (.agg ds) := by exact rfl)
    (h1 : fits sh cs = true := by exact rfl) (h2 : fits sh ds = true := by exact rfl) (z : AOps P n ops rest K E ((d, .bool (cellsEq cs ds)) :: T) st) : AOps P n ops (⟨dd, .binOp .eql t x y u, ty, pos, es, gd⟩ :: rest) K E T st := eqA hg hx hy h1 h2 z
theorem ZW {t u : TypeId} {sh : List Sh} [h : FlatT P t sh] {cs ds : List AV} (hg : goes ops n T ⟨dd, .binOp .neq t x y u, ty, pos, es, gd⟩ = some d := by exact rfl) (hx : ev st T x = some (.agg cs) := by exact rfl) (hy : ev st T y = some (.agg ds) := by exact rfl)
    (h1 : fits sh cs = true := by exact rfl) (h2 : fits sh ds = true := by exact rfl) (z : AOps P n ops rest K E ((d, .bool (!cellsEq cs ds)) :: T) st) : AOps P n ops (⟨dd, .binOp .neq t x y u, ty, pos, es, gd⟩ :: rest) K E T st := neA hg hx hy h1 h2 z
theorem ZX {t : TypeId} [hu : Und P t .string] {l : List UInt8} {k : IntKind} {i : Int} {m : Nat} {c : UInt8} (hg : goes ops n T ⟨dd, .index t x y, ty, pos, es, gd⟩ = some d := by exact rfl)
    (hx : ev st T x = some (.str l) := by exact rfl) (hy : ev st T y = some (.int k i) := by exact rfl) (hi : i = m := by exact rfl) (hc : l[m]? = some c := by assumption)
    (z : AOps P n ops rest K E ((d, .int .u8 c.toNat) :: T) st) : AOps P n ops (⟨dd, .index t x y, ty, pos, es, gd⟩ :: rest) K E T st := sx hg hx hy hi hc z
theorem ZY {t : TypeId} [hu : Und P t .string] {l : List UInt8} {k : IntKind} {a : Nat} (hg : goes ops n T ⟨dd, .slice t x (some y) none none, ty, pos, es, gd⟩ = some d := by exact rfl)
    (hx : ev st T x = some (.str l) := by exact rfl) (hy : ev st T y = some (.int k (a : Int)) := by exact rfl) (ha : a ≤ l.length := by omega)
    (z : AOps P n ops rest K E ((d, .str (l.drop a)) :: T) st) : AOps P n ops (⟨dd, .slice t x (some y) none none, ty, pos, es, gd⟩ :: rest) K E T st := ssl hg hx hy ha z
theorem ZZ {t : TypeId} [hu : Und P t .string] {l : List UInt8} {k : IntKind} {b : Nat} (hg : goes ops n T ⟨dd, .slice t x none (some y) none, ty, pos, es, gd⟩ = some d := by exact rfl)
    (hx : ev st T x = some (.str l) := by exact rfl) (hy : ev st T y = some (.int k (b : Int)) := by exact rfl) (hb : b ≤ l.length := by omega)
    (z : AOps P n ops rest K E ((d, .str (l.take b)) :: T) st) : AOps P n ops (⟨dd, .slice t x none (some y) none, ty, pos, es, gd⟩ :: rest) K E T st := ssh hg hx hy hb z
theorem YA {t : TypeId} {sz by_ : Nat} {zz : Value} [hi : Inf P t sz by_ zz] {v : AV} (hg : goes ops n T ⟨dd, .alloc t, ty, pos, es, gd⟩ = some d := by exact rfl) (hz : zok sz zz = true := by exact rfl) (hy : ∀ o, ev (st.set o (.cells t sz [zrow zz])) ((d, .cptr o sz 0 0) :: T) y = some v := by exact fun _ => rfl)
    (hv : storable v = true := by exact rfl) (hsz : Nat.beq v.cells.length sz = true := by exact rfl)
    (z : AOps P n ops rest K E ((d, .eptr sz [v.cells] 0 0) :: T) st) :
    AOps P n ops (⟨dd, .alloc t, ty, pos, es, gd⟩ :: ⟨none, .store t (.tmp d) y, ty2, pos2, es2, none⟩ :: rest) K E T st := alN hg hz hy hv hsz z
theorem YB {t : TypeId} {sz by_ : Nat} {zz : Value} [hi : Inf P t sz by_ zz] {o s : Nat} {off : Nat} {row row' : List AV} {v : AV} {oty : TypeId}
    (hw : wantedA ops T ⟨none, .store t x y, ty, pos, es, gd⟩ = some true := by exact rfl) (hx : ev (st.set o (.cells oty s [row])) T x = some (.cptr o s 0 off) := by exact rfl) (hy : ev (st.set o (.cells oty s [row])) T y = some v := by exact rfl)
    (hv : storable v = true := by exact rfl) (hsz : Nat.beq v.cells.length sz = true := by exact rfl) (hle : off + v.cells.length ≤ row.length := by assumption) (he : rowSet row off v.cells = row' := by assumption)
    (z : AOps P n ops rest K E T (st.set o (.cells oty s [row']))) : AOps P n ops (⟨none, .store t x y, ty, pos, es, gd⟩ :: rest) K E T (st.set o (.cells oty s [row])) := so1 hw hx hy hv hsz hle he z
theorem YC {f : FuncId} [hf : GoFun P f] {args : Array Operand} {tys : Array TypeId} {avs : List AV} {X : AV}
    (hg : goes ops n T ⟨dd, .call ⟨.value (.func f), args, tys⟩, ty, pos, es, gd⟩ = some d := by exact rfl) (ha : evs st T args.toList = some avs := by exact rfl)
    (hc : PureFn P f avs X := by exact inferInstance) (z : AOps P n ops rest K E ((d, X) :: T) st) :
    AOps P n ops (⟨dd, .call ⟨.value (.func f), args, tys⟩, ty, pos, es, gd⟩ :: rest) K E T st := clp hg ha hc z
theorem YD {o : Oper} {t : Nat} {b : Bool} (h : gtmp ops T o = some (t, b) := by exact rfl) (hb : b = true := by (fail_if_success rfl); first | assumption | exact decide_eq_true (by assumption) | exact decide_eq_true rfl | exact decide_eq_true (by omega)) (z : AOps P n ops (o :: rest) K E ((t, .bool true) :: T) st) : AOps P n ops (o :: rest) K E T st := gB true h hb z
theorem YE {o : Oper} {t : Nat} {b : Bool} (h : gtmp ops T o = some (t, b) := by exact rfl) (hb : b = false := by (fail_if_success rfl); first | assumption | exact decide_eq_false (by assumption) | exact decide_eq_false (by omega)) (z : AOps P n ops (o :: rest) K E ((t, .bool false) :: T) st) : AOps P n ops (o :: rest) K E T st := gB false h hb z
theorem YF {o : Oper} {t : Nat} {b : Bool} (h : ptmp T o = some (t, b) := by exact rfl) (hb : b = true := by (fail_if_success rfl); first | assumption | exact decide_eq_true (by assumption) | exact decide_eq_true rfl | exact decide_eq_true (by omega)) (z : AOps P n ops (o :: rest) K E ((t, .bool true) :: T) st) : AOps P n ops (o :: rest) K E T st := pB true h hb z
theorem YG {o : Oper} {t : Nat} {b : Bool} (h : ptmp T o = some (t, b) := by exact rfl) (hb : b = false := by (fail_if_success rfl); first | assumption | exact decide_eq_false (by assumption) | exact decide_eq_false (by omega)) (z : AOps P n ops (o :: rest) K E ((t, .bool false) :: T) st) : AOps P n ops (o :: rest) K E T st := pB false h hb z
theorem YH {c : Operand} {x y : Code} {b : Bool} (hc : ev st T c = some (.bool b) := by exact rfl) (hb : b = true := by first | exact rfl | assumption | exact decide_eq_true (by assumption) | exact decide_eq_true rfl | exact decide_eq_true (by omega)) (z : AWP P n x K E T st) : AWP P n (.cond c x y) K E T st := cT hc hb z
theorem YI {c : Operand} {x y : Code} {b : Bool} (hc : ev st T c = some (.bool b) := by exact rfl) (hb : b = false := by first | exact rfl | assumption | exact decide_eq_false (by assumption) | exact decide_eq_false (by omega)) (z : AWP P n y K E T st) : AWP P n (.cond c x y) K E T st := cF hc hb z
theorem YJ {t u : TypeId} {a b : Int} (hg : goes ops n T ⟨dd, .binOp .add t x y u, ty, pos, es, gd⟩ = some d := by exact rfl)
    (hx : ev st T x = some (.int .i64 a) := by exact rfl) (hy : ev st T y = some (.int .i64 b) := by exact rfl) (hc : -9223372036854775808 ≤ a + b ∧ a + b < 9223372036854775808 := by omega)
    (z : AOps P n ops rest K E ((d, .int .i64 (a + b)) :: T) st) : AOps P n ops (⟨dd, .binOp .add t x y u, ty, pos, es, gd⟩ :: rest) K E T st := Go.AM.ad hg hx hy hc z
theorem YK {t u : TypeId} {a b : Int} (hg : goes ops n T ⟨dd, .binOp .sub t x y u, ty, pos, es, gd⟩ = some d := by exact rfl)
    (hx : ev st T x = some (.int .i64 a) := by exact rfl) (hy : ev st T y = some (.int .i64 b) := by exact rfl) (hc : -9223372036854775808 ≤ a - b ∧ a - b < 9223372036854775808 := by omega)
    (z : AOps P n ops rest K E ((d, .int .i64 (a - b)) :: T) st) : AOps P n ops (⟨dd, .binOp .sub t x y u, ty, pos, es, gd⟩ :: rest) K E T st := Go.AM.sb hg hx hy hc z
theorem YL {t u : TypeId} {k : IntKind} {a b c : Int} (hg : goes ops n T ⟨dd, .binOp .add t x y u, ty, pos, es, gd⟩ = some d := by exact rfl)
    (hx : ev st T x = some (.int k a) := by exact rfl) (hy : ev st T y = some (.int k b) := by exact rfl) (hc : k.wrap (a + b) = c := by exact rfl)
    (z : AOps P n ops rest K E ((d, .int k c) :: T) st) : AOps P n ops (⟨dd, .binOp .add t x y u, ty, pos, es, gd⟩ :: rest) K E T st := adk hg hx hy hc z
theorem YM {t u : TypeId} {k : IntKind} {a b c : Int} (hg : goes ops n T ⟨dd, .binOp .sub t x y u, ty, pos, es, gd⟩ = some d := by exact rfl)
    (hx : ev st T x = some (.int k a) := by exact rfl) (hy : ev st T y = some (.int k b) := by exact rfl) (hc : k.wrap (a - b) = c := by exact rfl)
    (z : AOps P n ops rest K E ((d, .int k c) :: T) st) : AOps P n ops (⟨dd, .binOp .sub t x y u, ty, pos, es, gd⟩ :: rest) K E T st := sbk hg hx hy hc z
theorem nz {v : AV} : AOps P n ops [] (fun T' st'' => ∃ u, T' = (d, u) :: T ∧ (u = v ∧ st'' = st)) E ((d, v) :: T) st := nl ⟨_, rfl, rfl, rfl⟩
theorem dp {e : Nat} {Φ : AV → St → Prop} {i : Nat} {o : Oper} {r : List Oper} {d : Tmp} {v : AV} {k : Tmps → Prop} (hi : Nat.beq i e = false := by exact rfl) (hd : dstA n o.dst = some d := by exact rfl) (hw : wantedA ops (see ops o T) o = some true := by exact rfl)
    (h : ∀ st', StLe st' st.notok → AOps P n ops [o] (fun T' st'' => ∃ u, T' = (d, u) :: see ops o T ∧ (u = v ∧ st'' = st')) (fun _ _ _ => False) (see ops o T) st')
    (z : DRun P n st ops e Φ (i + 1) r ((d, v) :: T) k) : DRun P n st ops e Φ i (o :: r) T k := dq hi hd hw h z
theorem dpS {base : St} {sts : List St} {Es : List Nat} {i : Nat} {o : Oper} {r : List Oper} {d : Tmp} {v : AV} {k : Tmps → St → Prop} (hi : Es.contains i = false := by exact rfl) (hd : dstA n o.dst = some d := by exact rfl) (hw : wantedA ops (see ops o T) o = some true := by exact rfl)
    (h : ∀ st', StLe st' base → AOps P n ops [o] (fun T' st'' => ∃ u, T' = (d, u) :: see ops o T ∧ (u = v ∧ st'' = st')) (fun _ _ _ => False) (see ops o T) st')
    (z : DRunX P n (IX sts base) Es ops (i + 1) r ((d, v) :: T) k) : DRunX P n (IX sts base) Es ops i (o :: r) T k := dqS hi hd hw h z
end
end Go.AM
/- The types and functions of the translated program, as instances; by program (gen_types.py). No conditions. -/
namespace Go.Proofs
open Go.AM

instance Tryd.tinf2 : Inf Tryd.prog 2 1 8 (.int .i64 0) := ⟨by kernel_rfl⟩
instance Tryd.tinf3 : Inf Tryd.prog 3 1 8 (.int .i64 0) := ⟨by kernel_rfl⟩
instance Tryd.tinf4 : Inf Tryd.prog 4 1 1 (.bool false) := ⟨by kernel_rfl⟩
instance Tryd.tinf5 : Inf Tryd.prog 5 1 1 (.int .u8 0) := ⟨by kernel_rfl⟩
instance Tryd.tinf6 : Inf Tryd.prog 6 1 1 (.int .u8 0) := ⟨by kernel_rfl⟩
instance Tryd.tinf7 : Inf Tryd.prog 7 4 24 (.agg #[.int .i64 0, .int .i64 0, .bool false, .int .u8 0]) := ⟨by kernel_rfl⟩
instance Tryd.tinf8 : Inf Tryd.prog 8 4 24 (.agg #[.int .i64 0, .int .i64 0, .bool false, .int .u8 0]) := ⟨by kernel_rfl⟩
instance Tryd.tinf9 : Inf Tryd.prog 9 1 16 (.string ⟨#[]⟩) := ⟨by kernel_rfl⟩
instance Tryd.tinf10 : Inf Tryd.prog 10 1 16 (.string ⟨#[]⟩) := ⟨by kernel_rfl⟩
instance Tryd.tinf11 : Inf Tryd.prog 11 1 16 (.string ⟨#[]⟩) := ⟨by kernel_rfl⟩
instance Tryd.tinf12 : Inf Tryd.prog 12 1 8 (.int .u64 0) := ⟨by kernel_rfl⟩
instance Tryd.tinf13 : Inf Tryd.prog 13 2 24 (.agg #[.string ⟨#[]⟩, .int .u64 0]) := ⟨by kernel_rfl⟩
instance Tryd.tinf14 : Inf Tryd.prog 14 2 24 (.agg #[.string ⟨#[]⟩, .int .u64 0]) := ⟨by kernel_rfl⟩
instance Tryd.tinf15 : Inf Tryd.prog 15 1 8 (.pointer none) := ⟨by kernel_rfl⟩
instance Tryd.tinf16 : Inf Tryd.prog 16 1 8 (.pointer none) := ⟨by kernel_rfl⟩
instance Tryd.tinf17 : Inf Tryd.prog 17 1 8 (.pointer none) := ⟨by kernel_rfl⟩
instance Tryd.tinf18 : Inf Tryd.prog 18 1 8 (.agg #[.pointer none]) := ⟨by kernel_rfl⟩
instance Tryd.tinf19 : Inf Tryd.prog 19 1 8 (.agg #[.pointer none]) := ⟨by kernel_rfl⟩
instance Tryd.tinf21 : Inf Tryd.prog 21 1 4 (.int .i32 0) := ⟨by kernel_rfl⟩
instance Tryd.tinf22 : Inf Tryd.prog 22 5 40 (.agg #[.int .i64 0, .int .i64 0, .int .i64 0, .int .i64 0, .int .i64 0]) := ⟨by kernel_rfl⟩
instance Tryd.tinf23 : Inf Tryd.prog 23 5 40 (.agg #[.int .i64 0, .int .i64 0, .int .i64 0, .int .i64 0, .int .i64 0]) := ⟨by kernel_rfl⟩
instance Tryd.tinf24 : Inf Tryd.prog 24 1 8 (.int .i64 0) := ⟨by kernel_rfl⟩
instance Tryd.tinf33 : Inf Tryd.prog 33 16 128 (.agg #[.int .i64 0, .int .i64 0, .int .i64 0, .int .i64 0, .int .i64 0, .int .i64 0, .int .i64 0, .int .i64 0, .int .i64 0, .int .i64 0, .int .i64 0, .int .i64 0, .int .i64 0, .int .i64 0, .int .i64 0, .int .i64 0]) := ⟨by kernel_rfl⟩
instance Tryd.tinf34 : Inf Tryd.prog 34 17 136 (.agg #[.int .i64 0, .int .i64 0, .int .i64 0, .int .i64 0, .int .i64 0, .int .i64 0, .int .i64 0, .int .i64 0, .int .i64 0, .int .i64 0, .int .i64 0, .int .i64 0, .int .i64 0, .int .i64 0, .int .i64 0, .int .i64 0, .int .i64 0]) := ⟨by kernel_rfl⟩
instance Tryd.tinf35 : Inf Tryd.prog 35 17 136 (.agg #[.int .i64 0, .int .i64 0, .int .i64 0, .int .i64 0, .int .i64 0, .int .i64 0, .int .i64 0, .int .i64 0, .int .i64 0, .int .i64 0, .int .i64 0, .int .i64 0, .int .i64 0, .int .i64 0, .int .i64 0, .int .i64 0, .int .i64 0]) := ⟨by kernel_rfl⟩
instance Tryd.tinf36 : Inf Tryd.prog 36 1 24 (.slice none 0 0) := ⟨by kernel_rfl⟩
instance Tryd.tinf39 : Inf Tryd.prog 39 22 176 (.agg #[.int .i64 0, .int .i64 0, .int .i64 0, .int .i64 0, .int .i64 0, .int .i64 0, .int .i64 0, .int .i64 0, .int .i64 0, .int .i64 0, .int .i64 0, .int .i64 0, .int .i64 0, .int .i64 0, .int .i64 0, .int .i64 0, .int .i64 0, .bool false, .int .i64 0, .int .i64 0, .bool false, .int .i64 0]) := ⟨by kernel_rfl⟩
instance Tryd.tinf40 : Inf Tryd.prog 40 22 176 (.agg #[.int .i64 0, .int .i64 0, .int .i64 0, .int .i64 0, .int .i64 0, .int .i64 0, .int .i64 0, .int .i64 0, .int .i64 0, .int .i64 0, .int .i64 0, .int .i64 0, .int .i64 0, .int .i64 0, .int .i64 0, .int .i64 0, .int .i64 0, .bool false, .int .i64 0, .int .i64 0, .bool false, .int .i64 0]) := ⟨by kernel_rfl⟩
instance Tryd.tinf44 : Inf Tryd.prog 44 1 24 (.slice none 0 0) := ⟨by kernel_rfl⟩
instance Tryd.tinf47 : Inf Tryd.prog 47 4 48 (.agg #[.int .i64 0, .bool false, .int .i64 0, .slice none 0 0]) := ⟨by kernel_rfl⟩
instance Tryd.tinf48 : Inf Tryd.prog 48 4 48 (.agg #[.int .i64 0, .bool false, .int .i64 0, .slice none 0 0]) := ⟨by kernel_rfl⟩
instance Tryd.tinf57 : Inf Tryd.prog 57 1 8 (.int .u64 0) := ⟨by kernel_rfl⟩
instance Tryd.tinf59 : Inf Tryd.prog 59 25 400 (.agg #[.string ⟨#[]⟩, .string ⟨#[]⟩, .string ⟨#[]⟩, .string ⟨#[]⟩, .string ⟨#[]⟩, .string ⟨#[]⟩, .string ⟨#[]⟩, .string ⟨#[]⟩, .string ⟨#[]⟩, .string ⟨#[]⟩, .string ⟨#[]⟩, .string ⟨#[]⟩, .string ⟨#[]⟩, .string ⟨#[]⟩, .string ⟨#[]⟩, .string ⟨#[]⟩, .string ⟨#[]⟩, .string ⟨#[]⟩, .string ⟨#[]⟩, .string ⟨#[]⟩, .string ⟨#[]⟩, .string ⟨#[]⟩, .string ⟨#[]⟩, .string ⟨#[]⟩, .string ⟨#[]⟩]) := ⟨by kernel_rfl⟩
instance Tryd.tinf60 : Inf Tryd.prog 60 1 24 (.slice none 0 0) := ⟨by kernel_rfl⟩
instance Tryd.tinf64 : Inf Tryd.prog 64 1 8 (.pointer none) := ⟨by kernel_rfl⟩
instance Tryd.tinf71 : Inf Tryd.prog 71 1 24 (.slice none 0 0) := ⟨by kernel_rfl⟩
instance Tryd.tinf74 : Inf Tryd.prog 74 24 24 (.agg #[.int .u8 0, .int .u8 0, .int .u8 0, .int .u8 0, .int .u8 0, .int .u8 0, .int .u8 0, .int .u8 0, .int .u8 0, .int .u8 0, .int .u8 0, .int .u8 0, .int .u8 0, .int .u8 0, .int .u8 0, .int .u8 0, .int .u8 0, .int .u8 0, .int .u8 0, .int .u8 0, .int .u8 0, .int .u8 0, .int .u8 0, .int .u8 0]) := ⟨by kernel_rfl⟩
instance Tryd.tinf75 : Inf Tryd.prog 75 1 8 (.int .u64 0) := ⟨by kernel_rfl⟩
instance Tryd.tinf81 : Inf Tryd.prog 81 20 160 (.agg #[.int .u64 0, .int .u64 0, .int .u64 0, .int .u64 0, .int .u64 0, .int .u64 0, .int .u64 0, .int .u64 0, .int .u64 0, .int .u64 0, .int .u64 0, .int .u64 0, .int .u64 0, .int .u64 0, .int .u64 0, .int .u64 0, .int .u64 0, .int .u64 0, .int .u64 0, .int .u64 0]) := ⟨by kernel_rfl⟩
instance Tryd.tinf82 : Inf Tryd.prog 82 1 4 (.int .u32 0) := ⟨by kernel_rfl⟩
instance Tryd.tinf83 : Inf Tryd.prog 83 65 65 (.agg #[.int .u8 0, .int .u8 0, .int .u8 0, .int .u8 0, .int .u8 0, .int .u8 0, .int .u8 0, .int .u8 0, .int .u8 0, .int .u8 0, .int .u8 0, .int .u8 0, .int .u8 0, .int .u8 0, .int .u8 0, .int .u8 0, .int .u8 0, .int .u8 0, .int .u8 0, .int .u8 0, .int .u8 0, .int .u8 0, .int .u8 0, .int .u8 0, .int .u8 0, .int .u8 0, .int .u8 0, .int .u8 0, .int .u8 0, .int .u8 0, .int .u8 0, .int .u8 0, .int .u8 0, .int .u8 0, .int .u8 0, .int .u8 0, .int .u8 0, .int .u8 0, .int .u8 0, .int .u8 0, .int .u8 0, .int .u8 0, .int .u8 0, .int .u8 0, .int .u8 0, .int .u8 0, .int .u8 0, .int .u8 0, .int .u8 0, .int .u8 0, .int .u8 0, .int .u8 0, .int .u8 0, .int .u8 0, .int .u8 0, .int .u8 0, .int .u8 0, .int .u8 0, .int .u8 0, .int .u8 0, .int .u8 0, .int .u8 0, .int .u8 0, .int .u8 0, .int .u8 0]) := ⟨by kernel_rfl⟩
instance Tryd.tinf86 : Inf Tryd.prog 86 32 32 (.agg #[.int .u8 0, .int .u8 0, .int .u8 0, .int .u8 0, .int .u8 0, .int .u8 0, .int .u8 0, .int .u8 0, .int .u8 0, .int .u8 0, .int .u8 0, .int .u8 0, .int .u8 0, .int .u8 0, .int .u8 0, .int .u8 0, .int .u8 0, .int .u8 0, .int .u8 0, .int .u8 0, .int .u8 0, .int .u8 0, .int .u8 0, .int .u8 0, .int .u8 0, .int .u8 0, .int .u8 0, .int .u8 0, .int .u8 0, .int .u8 0, .int .u8 0, .int .u8 0]) := ⟨by kernel_rfl⟩
instance Tryd.tinf87 : Inf Tryd.prog 87 64 64 (.agg #[.int .u8 0, .int .u8 0, .int .u8 0, .int .u8 0, .int .u8 0, .int .u8 0, .int .u8 0, .int .u8 0, .int .u8 0, .int .u8 0, .int .u8 0, .int .u8 0, .int .u8 0, .int .u8 0, .int .u8 0, .int .u8 0, .int .u8 0, .int .u8 0, .int .u8 0, .int .u8 0, .int .u8 0, .int .u8 0, .int .u8 0, .int .u8 0, .int .u8 0, .int .u8 0, .int .u8 0, .int .u8 0, .int .u8 0, .int .u8 0, .int .u8 0, .int .u8 0, .int .u8 0, .int .u8 0, .int .u8 0, .int .u8 0, .int .u8 0, .int .u8 0, .int .u8 0, .int .u8 0, .int .u8 0, .int .u8 0, .int .u8 0, .int .u8 0, .int .u8 0, .int .u8 0, .int .u8 0, .int .u8 0, .int .u8 0, .int .u8 0, .int .u8 0, .int .u8 0, .int .u8 0, .int .u8 0, .int .u8 0, .int .u8 0, .int .u8 0, .int .u8 0, .int .u8 0, .int .u8 0, .int .u8 0, .int .u8 0, .int .u8 0, .int .u8 0]) := ⟨by kernel_rfl⟩
instance Tryd.tinf89 : Inf Tryd.prog 89 4 40 (.agg #[.pointer none, .pointer none, .pointer none, .string ⟨#[]⟩]) := ⟨by kernel_rfl⟩
instance Tryd.tinf90 : Inf Tryd.prog 90 4 40 (.agg #[.pointer none, .pointer none, .pointer none, .string ⟨#[]⟩]) := ⟨by kernel_rfl⟩
instance Tryd.tinf91 : Inf Tryd.prog 91 0 0 (.agg #[]) := ⟨by kernel_rfl⟩
instance Tryd.tinf92 : Inf Tryd.prog 92 0 0 (.agg #[]) := ⟨by kernel_rfl⟩
instance Tryd.tinf93 : Inf Tryd.prog 93 0 0 (.agg #[]) := ⟨by kernel_rfl⟩
instance Tryd.tinf95 : Inf Tryd.prog 95 1 1 (.int .u8 0) := ⟨by kernel_rfl⟩
instance Tryd.tinf96 : Inf Tryd.prog 96 1 1 (.int .u8 0) := ⟨by kernel_rfl⟩
instance Tryd.tinf98 : Inf Tryd.prog 98 1 8 (.pointer none) := ⟨by kernel_rfl⟩
instance Tryd.tinf99 : Inf Tryd.prog 99 1 4 (.int .i32 0) := ⟨by kernel_rfl⟩
instance Tryd.tinf100 : Inf Tryd.prog 100 1 4 (.int .i32 0) := ⟨by kernel_rfl⟩
instance Tryd.tinf101 : Inf Tryd.prog 101 11 48 (.agg #[.int .u64 0, .int .u64 0, .int .u32 0, .int .u8 0, .int .u8 0, .int .u8 0, .int .u8 0, .nilFunc, .pointer none, .int .i32 0, .int .i32 0]) := ⟨by kernel_rfl⟩
instance Tryd.tinf102 : Inf Tryd.prog 102 11 48 (.agg #[.int .u64 0, .int .u64 0, .int .u32 0, .int .u8 0, .int .u8 0, .int .u8 0, .int .u8 0, .nilFunc, .pointer none, .int .i32 0, .int .i32 0]) := ⟨by kernel_rfl⟩
instance Tryd.tund2 : Und Tryd.prog 2 (.int .i64) := ⟨Tryd.underlying2⟩
instance Tryd.tund3 : Und Tryd.prog 3 (.int .i64) := ⟨Tryd.underlying3⟩
instance Tryd.tund4 : Und Tryd.prog 4 .bool := ⟨Tryd.underlying4⟩
instance Tryd.tund5 : Und Tryd.prog 5 (.int .u8) := ⟨Tryd.underlying5⟩
instance Tryd.tund6 : Und Tryd.prog 6 (.int .u8) := ⟨Tryd.underlying6⟩
instance Tryd.tund7 : Und Tryd.prog 7 (.struct (fOf Tryd.underlying7)) := ⟨Tryd.underlying7⟩
instance Tryd.tund8 : Und Tryd.prog 8 (.struct (fOf Tryd.underlying8)) := ⟨Tryd.underlying8⟩
instance Tryd.tund9 : Und Tryd.prog 9 .string := ⟨Tryd.underlying9⟩
instance Tryd.tund10 : Und Tryd.prog 10 .string := ⟨Tryd.underlying10⟩
instance Tryd.tund11 : Und Tryd.prog 11 .string := ⟨Tryd.underlying11⟩
instance Tryd.tund12 : Und Tryd.prog 12 (.int .u64) := ⟨Tryd.underlying12⟩
instance Tryd.tund13 : Und Tryd.prog 13 (.struct (fOf Tryd.underlying13)) := ⟨Tryd.underlying13⟩
instance Tryd.tund14 : Und Tryd.prog 14 (.struct (fOf Tryd.underlying14)) := ⟨Tryd.underlying14⟩
instance Tryd.tund15 : Und Tryd.prog 15 (.pointer 90) := ⟨Tryd.underlying15⟩
instance Tryd.tund16 : Und Tryd.prog 16 (.pointer 93) := ⟨Tryd.underlying16⟩
instance Tryd.tund17 : Und Tryd.prog 17 (.pointer 102) := ⟨Tryd.underlying17⟩
instance Tryd.tund18 : Und Tryd.prog 18 (.struct (fOf Tryd.underlying18)) := ⟨Tryd.underlying18⟩
instance Tryd.tund19 : Und Tryd.prog 19 (.struct (fOf Tryd.underlying19)) := ⟨Tryd.underlying19⟩
instance Tryd.tund21 : Und Tryd.prog 21 (.int .i32) := ⟨Tryd.underlying21⟩
instance Tryd.tund22 : Und Tryd.prog 22 (.struct (fOf Tryd.underlying22)) := ⟨Tryd.underlying22⟩
instance Tryd.tund23 : Und Tryd.prog 23 (.struct (fOf Tryd.underlying23)) := ⟨Tryd.underlying23⟩
instance Tryd.tund24 : Und Tryd.prog 24 (.int .i64) := ⟨Tryd.underlying24⟩
instance Tryd.tund33 : Und Tryd.prog 33 (.array 16 3) := ⟨Tryd.underlying33⟩
instance Tryd.tund34 : Und Tryd.prog 34 (.struct (fOf Tryd.underlying34)) := ⟨Tryd.underlying34⟩
instance Tryd.tund35 : Und Tryd.prog 35 (.struct (fOf Tryd.underlying35)) := ⟨Tryd.underlying35⟩
instance Tryd.tund36 : Und Tryd.prog 36 (.slice 23) := ⟨Tryd.underlying36⟩
instance Tryd.tund39 : Und Tryd.prog 39 (.struct (fOf Tryd.underlying39)) := ⟨Tryd.underlying39⟩
instance Tryd.tund40 : Und Tryd.prog 40 (.struct (fOf Tryd.underlying40)) := ⟨Tryd.underlying40⟩
instance Tryd.tund44 : Und Tryd.prog 44 (.slice 3) := ⟨Tryd.underlying44⟩
instance Tryd.tund47 : Und Tryd.prog 47 (.struct (fOf Tryd.underlying47)) := ⟨Tryd.underlying47⟩
instance Tryd.tund48 : Und Tryd.prog 48 (.struct (fOf Tryd.underlying48)) := ⟨Tryd.underlying48⟩
instance Tryd.tund57 : Und Tryd.prog 57 (.int .u64) := ⟨Tryd.underlying57⟩
instance Tryd.tund59 : Und Tryd.prog 59 (.array 25 9) := ⟨Tryd.underlying59⟩
instance Tryd.tund60 : Und Tryd.prog 60 (.slice 9) := ⟨Tryd.underlying60⟩
instance Tryd.tund64 : Und Tryd.prog 64 (.pointer 33) := ⟨Tryd.underlying64⟩
instance Tryd.tund71 : Und Tryd.prog 71 (.slice 5) := ⟨Tryd.underlying71⟩
instance Tryd.tund74 : Und Tryd.prog 74 (.array 24 5) := ⟨Tryd.underlying74⟩
instance Tryd.tund75 : Und Tryd.prog 75 (.int .u64) := ⟨Tryd.underlying75⟩
instance Tryd.tund81 : Und Tryd.prog 81 (.array 20 75) := ⟨Tryd.underlying81⟩
instance Tryd.tund82 : Und Tryd.prog 82 (.int .u32) := ⟨Tryd.underlying82⟩
instance Tryd.tund83 : Und Tryd.prog 83 (.array 65 5) := ⟨Tryd.underlying83⟩
instance Tryd.tund86 : Und Tryd.prog 86 (.array 32 5) := ⟨Tryd.underlying86⟩
instance Tryd.tund87 : Und Tryd.prog 87 (.array 64 5) := ⟨Tryd.underlying87⟩
instance Tryd.tund89 : Und Tryd.prog 89 (.struct (fOf Tryd.underlying89)) := ⟨Tryd.underlying89⟩
instance Tryd.tund90 : Und Tryd.prog 90 (.struct (fOf Tryd.underlying90)) := ⟨Tryd.underlying90⟩
instance Tryd.tund91 : Und Tryd.prog 91 (.array 0 16) := ⟨Tryd.underlying91⟩
instance Tryd.tund92 : Und Tryd.prog 92 (.struct (fOf Tryd.underlying92)) := ⟨Tryd.underlying92⟩
instance Tryd.tund93 : Und Tryd.prog 93 (.struct (fOf Tryd.underlying93)) := ⟨Tryd.underlying93⟩
instance Tryd.tund95 : Und Tryd.prog 95 (.int .u8) := ⟨Tryd.underlying95⟩
instance Tryd.tund96 : Und Tryd.prog 96 (.int .u8) := ⟨Tryd.underlying96⟩
instance Tryd.tund98 : Und Tryd.prog 98 (.pointer 5) := ⟨Tryd.underlying98⟩
instance Tryd.tund99 : Und Tryd.prog 99 (.int .i32) := ⟨Tryd.underlying99⟩
instance Tryd.tund100 : Und Tryd.prog 100 (.int .i32) := ⟨Tryd.underlying100⟩
instance Tryd.tund101 : Und Tryd.prog 101 (.struct (fOf Tryd.underlying101)) := ⟨Tryd.underlying101⟩
instance Tryd.tund102 : Und Tryd.prog 102 (.struct (fOf Tryd.underlying102)) := ⟨Tryd.underlying102⟩
instance Tryd.tfld7_0 : Fld Tryd.prog 7 0 0 2 := ⟨_, _, Tryd.underlying7, rfl, rfl, rfl⟩
instance Tryd.tfld7_1 : Fld Tryd.prog 7 1 1 3 := ⟨_, _, Tryd.underlying7, rfl, rfl, rfl⟩
instance Tryd.tfld7_2 : Fld Tryd.prog 7 2 2 4 := ⟨_, _, Tryd.underlying7, rfl, rfl, rfl⟩
instance Tryd.tfld7_3 : Fld Tryd.prog 7 3 3 6 := ⟨_, _, Tryd.underlying7, rfl, rfl, rfl⟩
instance Tryd.tpl7 : Places Tryd.prog  (fOf Tryd.underlying7) [(0, 1), (1, 1), (2, 1), (3, 1)] := ⟨by kernel_rfl⟩
instance Tryd.tfld8_0 : Fld Tryd.prog 8 0 0 2 := ⟨_, _, Tryd.underlying8, rfl, rfl, rfl⟩
instance Tryd.tfld8_1 : Fld Tryd.prog 8 1 1 3 := ⟨_, _, Tryd.underlying8, rfl, rfl, rfl⟩
instance Tryd.tfld8_2 : Fld Tryd.prog 8 2 2 4 := ⟨_, _, Tryd.underlying8, rfl, rfl, rfl⟩
instance Tryd.tfld8_3 : Fld Tryd.prog 8 3 3 6 := ⟨_, _, Tryd.underlying8, rfl, rfl, rfl⟩
instance Tryd.tpl8 : Places Tryd.prog  (fOf Tryd.underlying8) [(0, 1), (1, 1), (2, 1), (3, 1)] := ⟨by kernel_rfl⟩
instance Tryd.tfld13_0 : Fld Tryd.prog 13 0 0 9 := ⟨_, _, Tryd.underlying13, rfl, rfl, rfl⟩
instance Tryd.tfld13_1 : Fld Tryd.prog 13 1 1 12 := ⟨_, _, Tryd.underlying13, rfl, rfl, rfl⟩
instance Tryd.tpl13 : Places Tryd.prog  (fOf Tryd.underlying13) [(0, 1), (1, 1)] := ⟨by kernel_rfl⟩
instance Tryd.tfld14_0 : Fld Tryd.prog 14 0 0 9 := ⟨_, _, Tryd.underlying14, rfl, rfl, rfl⟩
instance Tryd.tfld14_1 : Fld Tryd.prog 14 1 1 12 := ⟨_, _, Tryd.underlying14, rfl, rfl, rfl⟩
instance Tryd.tpl14 : Places Tryd.prog  (fOf Tryd.underlying14) [(0, 1), (1, 1)] := ⟨by kernel_rfl⟩
instance Tryd.tfld18_0 : Fld Tryd.prog 18 0 0 17 := ⟨_, _, Tryd.underlying18, rfl, rfl, rfl⟩
instance Tryd.tpl18 : Places Tryd.prog  (fOf Tryd.underlying18) [(0, 1)] := ⟨by kernel_rfl⟩
instance Tryd.tfld19_0 : Fld Tryd.prog 19 0 0 17 := ⟨_, _, Tryd.underlying19, rfl, rfl, rfl⟩
instance Tryd.tpl19 : Places Tryd.prog  (fOf Tryd.underlying19) [(0, 1)] := ⟨by kernel_rfl⟩
instance Tryd.tfld22_0 : Fld Tryd.prog 22 0 0 3 := ⟨_, _, Tryd.underlying22, rfl, rfl, rfl⟩
instance Tryd.tfld22_1 : Fld Tryd.prog 22 1 1 3 := ⟨_, _, Tryd.underlying22, rfl, rfl, rfl⟩
instance Tryd.tfld22_2 : Fld Tryd.prog 22 2 2 3 := ⟨_, _, Tryd.underlying22, rfl, rfl, rfl⟩
instance Tryd.tfld22_3 : Fld Tryd.prog 22 3 3 3 := ⟨_, _, Tryd.underlying22, rfl, rfl, rfl⟩
instance Tryd.tfld22_4 : Fld Tryd.prog 22 4 4 3 := ⟨_, _, Tryd.underlying22, rfl, rfl, rfl⟩
instance Tryd.tpl22 : Places Tryd.prog  (fOf Tryd.underlying22) [(0, 1), (1, 1), (2, 1), (3, 1), (4, 1)] := ⟨by kernel_rfl⟩
instance Tryd.tfld23_0 : Fld Tryd.prog 23 0 0 3 := ⟨_, _, Tryd.underlying23, rfl, rfl, rfl⟩
instance Tryd.tfld23_1 : Fld Tryd.prog 23 1 1 3 := ⟨_, _, Tryd.underlying23, rfl, rfl, rfl⟩
instance Tryd.tfld23_2 : Fld Tryd.prog 23 2 2 3 := ⟨_, _, Tryd.underlying23, rfl, rfl, rfl⟩
instance Tryd.tfld23_3 : Fld Tryd.prog 23 3 3 3 := ⟨_, _, Tryd.underlying23, rfl, rfl, rfl⟩
instance Tryd.tfld23_4 : Fld Tryd.prog 23 4 4 3 := ⟨_, _, Tryd.underlying23, rfl, rfl, rfl⟩
instance Tryd.tpl23 : Places Tryd.prog  (fOf Tryd.underlying23) [(0, 1), (1, 1), (2, 1), (3, 1), (4, 1)] := ⟨by kernel_rfl⟩
instance Tryd.tfld34_0 : Fld Tryd.prog 34 0 0 33 := ⟨_, _, Tryd.underlying34, rfl, rfl, rfl⟩
instance Tryd.tfld34_1 : Fld Tryd.prog 34 1 16 3 := ⟨_, _, Tryd.underlying34, rfl, rfl, rfl⟩
instance Tryd.tpl34 : Places Tryd.prog  (fOf Tryd.underlying34) [(0, 16), (16, 1)] := ⟨by kernel_rfl⟩
instance Tryd.tfld35_0 : Fld Tryd.prog 35 0 0 33 := ⟨_, _, Tryd.underlying35, rfl, rfl, rfl⟩
instance Tryd.tfld35_1 : Fld Tryd.prog 35 1 16 3 := ⟨_, _, Tryd.underlying35, rfl, rfl, rfl⟩
instance Tryd.tpl35 : Places Tryd.prog  (fOf Tryd.underlying35) [(0, 16), (16, 1)] := ⟨by kernel_rfl⟩
instance Tryd.tfld39_0 : Fld Tryd.prog 39 0 0 35 := ⟨_, _, Tryd.underlying39, rfl, rfl, rfl⟩
instance Tryd.tfld39_1 : Fld Tryd.prog 39 1 17 4 := ⟨_, _, Tryd.underlying39, rfl, rfl, rfl⟩
instance Tryd.tfld39_2 : Fld Tryd.prog 39 2 18 3 := ⟨_, _, Tryd.underlying39, rfl, rfl, rfl⟩
instance Tryd.tfld39_3 : Fld Tryd.prog 39 3 19 3 := ⟨_, _, Tryd.underlying39, rfl, rfl, rfl⟩
instance Tryd.tfld39_4 : Fld Tryd.prog 39 4 20 4 := ⟨_, _, Tryd.underlying39, rfl, rfl, rfl⟩
instance Tryd.tfld39_5 : Fld Tryd.prog 39 5 21 3 := ⟨_, _, Tryd.underlying39, rfl, rfl, rfl⟩
instance Tryd.tpl39 : Places Tryd.prog  (fOf Tryd.underlying39) [(0, 17), (17, 1), (18, 1), (19, 1), (20, 1), (21, 1)] := ⟨by kernel_rfl⟩
instance Tryd.tfld40_0 : Fld Tryd.prog 40 0 0 35 := ⟨_, _, Tryd.underlying40, rfl, rfl, rfl⟩
instance Tryd.tfld40_1 : Fld Tryd.prog 40 1 17 4 := ⟨_, _, Tryd.underlying40, rfl, rfl, rfl⟩
instance Tryd.tfld40_2 : Fld Tryd.prog 40 2 18 3 := ⟨_, _, Tryd.underlying40, rfl, rfl, rfl⟩
instance Tryd.tfld40_3 : Fld Tryd.prog 40 3 19 3 := ⟨_, _, Tryd.underlying40, rfl, rfl, rfl⟩
instance Tryd.tfld40_4 : Fld Tryd.prog 40 4 20 4 := ⟨_, _, Tryd.underlying40, rfl, rfl, rfl⟩
instance Tryd.tfld40_5 : Fld Tryd.prog 40 5 21 3 := ⟨_, _, Tryd.underlying40, rfl, rfl, rfl⟩
instance Tryd.tpl40 : Places Tryd.prog  (fOf Tryd.underlying40) [(0, 17), (17, 1), (18, 1), (19, 1), (20, 1), (21, 1)] := ⟨by kernel_rfl⟩
instance Tryd.tfld47_0 : Fld Tryd.prog 47 0 0 24 := ⟨_, _, Tryd.underlying47, rfl, rfl, rfl⟩
instance Tryd.tfld47_1 : Fld Tryd.prog 47 1 1 4 := ⟨_, _, Tryd.underlying47, rfl, rfl, rfl⟩
instance Tryd.tfld47_2 : Fld Tryd.prog 47 2 2 3 := ⟨_, _, Tryd.underlying47, rfl, rfl, rfl⟩
instance Tryd.tfld47_3 : Fld Tryd.prog 47 3 3 44 := ⟨_, _, Tryd.underlying47, rfl, rfl, rfl⟩
instance Tryd.tpl47 : Places Tryd.prog  (fOf Tryd.underlying47) [(0, 1), (1, 1), (2, 1), (3, 1)] := ⟨by kernel_rfl⟩
instance Tryd.tfld48_0 : Fld Tryd.prog 48 0 0 24 := ⟨_, _, Tryd.underlying48, rfl, rfl, rfl⟩
instance Tryd.tfld48_1 : Fld Tryd.prog 48 1 1 4 := ⟨_, _, Tryd.underlying48, rfl, rfl, rfl⟩
instance Tryd.tfld48_2 : Fld Tryd.prog 48 2 2 3 := ⟨_, _, Tryd.underlying48, rfl, rfl, rfl⟩
instance Tryd.tfld48_3 : Fld Tryd.prog 48 3 3 44 := ⟨_, _, Tryd.underlying48, rfl, rfl, rfl⟩
instance Tryd.tpl48 : Places Tryd.prog  (fOf Tryd.underlying48) [(0, 1), (1, 1), (2, 1), (3, 1)] := ⟨by kernel_rfl⟩
instance Tryd.tfld89_0 : Fld Tryd.prog 89 0 0 17 := ⟨_, _, Tryd.underlying89, rfl, rfl, rfl⟩
instance Tryd.tfld89_1 : Fld Tryd.prog 89 1 1 17 := ⟨_, _, Tryd.underlying89, rfl, rfl, rfl⟩
instance Tryd.tfld89_2 : Fld Tryd.prog 89 2 2 17 := ⟨_, _, Tryd.underlying89, rfl, rfl, rfl⟩
instance Tryd.tfld89_3 : Fld Tryd.prog 89 3 3 9 := ⟨_, _, Tryd.underlying89, rfl, rfl, rfl⟩
instance Tryd.tpl89 : Places Tryd.prog  (fOf Tryd.underlying89) [(0, 1), (1, 1), (2, 1), (3, 1)] := ⟨by kernel_rfl⟩
instance Tryd.tfld90_0 : Fld Tryd.prog 90 0 0 17 := ⟨_, _, Tryd.underlying90, rfl, rfl, rfl⟩
instance Tryd.tfld90_1 : Fld Tryd.prog 90 1 1 17 := ⟨_, _, Tryd.underlying90, rfl, rfl, rfl⟩
instance Tryd.tfld90_2 : Fld Tryd.prog 90 2 2 17 := ⟨_, _, Tryd.underlying90, rfl, rfl, rfl⟩
instance Tryd.tfld90_3 : Fld Tryd.prog 90 3 3 9 := ⟨_, _, Tryd.underlying90, rfl, rfl, rfl⟩
instance Tryd.tpl90 : Places Tryd.prog  (fOf Tryd.underlying90) [(0, 1), (1, 1), (2, 1), (3, 1)] := ⟨by kernel_rfl⟩
instance Tryd.tfld92_0 : Fld Tryd.prog 92 0 0 91 := ⟨_, _, Tryd.underlying92, rfl, rfl, rfl⟩
instance Tryd.tpl92 : Places Tryd.prog  (fOf Tryd.underlying92) [(0, 0)] := ⟨by kernel_rfl⟩
instance Tryd.tfld93_0 : Fld Tryd.prog 93 0 0 91 := ⟨_, _, Tryd.underlying93, rfl, rfl, rfl⟩
instance Tryd.tpl93 : Places Tryd.prog  (fOf Tryd.underlying93) [(0, 0)] := ⟨by kernel_rfl⟩
instance Tryd.tfld101_0 : Fld Tryd.prog 101 0 0 12 := ⟨_, _, Tryd.underlying101, rfl, rfl, rfl⟩
instance Tryd.tfld101_1 : Fld Tryd.prog 101 1 1 12 := ⟨_, _, Tryd.underlying101, rfl, rfl, rfl⟩
instance Tryd.tfld101_2 : Fld Tryd.prog 101 2 2 82 := ⟨_, _, Tryd.underlying101, rfl, rfl, rfl⟩
instance Tryd.tfld101_3 : Fld Tryd.prog 101 3 3 95 := ⟨_, _, Tryd.underlying101, rfl, rfl, rfl⟩
instance Tryd.tfld101_4 : Fld Tryd.prog 101 4 4 5 := ⟨_, _, Tryd.underlying101, rfl, rfl, rfl⟩
instance Tryd.tfld101_5 : Fld Tryd.prog 101 5 5 5 := ⟨_, _, Tryd.underlying101, rfl, rfl, rfl⟩
instance Tryd.tfld101_6 : Fld Tryd.prog 101 6 6 96 := ⟨_, _, Tryd.underlying101, rfl, rfl, rfl⟩
instance Tryd.tfld101_7 : Fld Tryd.prog 101 7 7 97 := ⟨_, _, Tryd.underlying101, rfl, rfl, rfl⟩
instance Tryd.tfld101_8 : Fld Tryd.prog 101 8 8 98 := ⟨_, _, Tryd.underlying101, rfl, rfl, rfl⟩
instance Tryd.tfld101_9 : Fld Tryd.prog 101 9 9 99 := ⟨_, _, Tryd.underlying101, rfl, rfl, rfl⟩
instance Tryd.tfld101_10 : Fld Tryd.prog 101 10 10 100 := ⟨_, _, Tryd.underlying101, rfl, rfl, rfl⟩
instance Tryd.tpl101 : Places Tryd.prog  (fOf Tryd.underlying101) [(0, 1), (1, 1), (2, 1), (3, 1), (4, 1), (5, 1), (6, 1), (7, 1), (8, 1), (9, 1), (10, 1)] := ⟨by kernel_rfl⟩
instance Tryd.tfld102_0 : Fld Tryd.prog 102 0 0 12 := ⟨_, _, Tryd.underlying102, rfl, rfl, rfl⟩
instance Tryd.tfld102_1 : Fld Tryd.prog 102 1 1 12 := ⟨_, _, Tryd.underlying102, rfl, rfl, rfl⟩
instance Tryd.tfld102_2 : Fld Tryd.prog 102 2 2 82 := ⟨_, _, Tryd.underlying102, rfl, rfl, rfl⟩
instance Tryd.tfld102_3 : Fld Tryd.prog 102 3 3 95 := ⟨_, _, Tryd.underlying102, rfl, rfl, rfl⟩
instance Tryd.tfld102_4 : Fld Tryd.prog 102 4 4 5 := ⟨_, _, Tryd.underlying102, rfl, rfl, rfl⟩
instance Tryd.tfld102_5 : Fld Tryd.prog 102 5 5 5 := ⟨_, _, Tryd.underlying102, rfl, rfl, rfl⟩
instance Tryd.tfld102_6 : Fld Tryd.prog 102 6 6 96 := ⟨_, _, Tryd.underlying102, rfl, rfl, rfl⟩
instance Tryd.tfld102_7 : Fld Tryd.prog 102 7 7 97 := ⟨_, _, Tryd.underlying102, rfl, rfl, rfl⟩
instance Tryd.tfld102_8 : Fld Tryd.prog 102 8 8 98 := ⟨_, _, Tryd.underlying102, rfl, rfl, rfl⟩
instance Tryd.tfld102_9 : Fld Tryd.prog 102 9 9 99 := ⟨_, _, Tryd.underlying102, rfl, rfl, rfl⟩
instance Tryd.tfld102_10 : Fld Tryd.prog 102 10 10 100 := ⟨_, _, Tryd.underlying102, rfl, rfl, rfl⟩
instance Tryd.tpl102 : Places Tryd.prog  (fOf Tryd.underlying102) [(0, 1), (1, 1), (2, 1), (3, 1), (4, 1), (5, 1), (6, 1), (7, 1), (8, 1), (9, 1), (10, 1)] := ⟨by kernel_rfl⟩
instance Tryd.gofun3 : GoFun Tryd.prog 3 := ⟨_, Tryd.func3, by kernel_rfl, by kernel_rfl⟩
instance Tryd.gofun4 : GoFun Tryd.prog 4 := ⟨_, Tryd.func4, by kernel_rfl, by kernel_rfl⟩
instance Tryd.gofun5 : GoFun Tryd.prog 5 := ⟨_, Tryd.func5, by kernel_rfl, by kernel_rfl⟩
instance Tryd.gofun6 : GoFun Tryd.prog 6 := ⟨_, Tryd.func6, by kernel_rfl, by kernel_rfl⟩
instance Tryd.gofun7 : GoFun Tryd.prog 7 := ⟨_, Tryd.func7, by kernel_rfl, by kernel_rfl⟩
instance Tryd.gofun8 : GoFun Tryd.prog 8 := ⟨_, Tryd.func8, by kernel_rfl, by kernel_rfl⟩
instance Tryd.gofun9 : GoFun Tryd.prog 9 := ⟨_, Tryd.func9, by kernel_rfl, by kernel_rfl⟩
instance Tryd.gofun10 : GoFun Tryd.prog 10 := ⟨_, Tryd.func10, by kernel_rfl, by kernel_rfl⟩
instance Tryd.gofun11 : GoFun Tryd.prog 11 := ⟨_, Tryd.func11, by kernel_rfl, by kernel_rfl⟩
instance Tryd.gofun12 : GoFun Tryd.prog 12 := ⟨_, Tryd.func12, by kernel_rfl, by kernel_rfl⟩
instance Tryd.gofun13 : GoFun Tryd.prog 13 := ⟨_, Tryd.func13, by kernel_rfl, by kernel_rfl⟩
instance Tryd.gofun14 : GoFun Tryd.prog 14 := ⟨_, Tryd.func14, by kernel_rfl, by kernel_rfl⟩
instance Tryd.gofun15 : GoFun Tryd.prog 15 := ⟨_, Tryd.func15, by kernel_rfl, by kernel_rfl⟩
instance Tryd.gofun16 : GoFun Tryd.prog 16 := ⟨_, Tryd.func16, by kernel_rfl, by kernel_rfl⟩
instance Tryd.gofun17 : GoFun Tryd.prog 17 := ⟨_, Tryd.func17, by kernel_rfl, by kernel_rfl⟩
instance Tryd.gofun18 : GoFun Tryd.prog 18 := ⟨_, Tryd.func18, by kernel_rfl, by kernel_rfl⟩
instance Tryd.gofun19 : GoFun Tryd.prog 19 := ⟨_, Tryd.func19, by kernel_rfl, by kernel_rfl⟩
instance Tryd.gofun20 : GoFun Tryd.prog 20 := ⟨_, Tryd.func20, by kernel_rfl, by kernel_rfl⟩
instance Tryd.gofun21 : GoFun Tryd.prog 21 := ⟨_, Tryd.func21, by kernel_rfl, by kernel_rfl⟩
instance Tryd.gofun22 : GoFun Tryd.prog 22 := ⟨_, Tryd.func22, by kernel_rfl, by kernel_rfl⟩
instance Tryd.gofun23 : GoFun Tryd.prog 23 := ⟨_, Tryd.func23, by kernel_rfl, by kernel_rfl⟩
instance Tryd.gofun24 : GoFun Tryd.prog 24 := ⟨_, Tryd.func24, by kernel_rfl, by kernel_rfl⟩
instance Tryd.gofun25 : GoFun Tryd.prog 25 := ⟨_, Tryd.func25, by kernel_rfl, by kernel_rfl⟩
instance Tryd.gofun26 : GoFun Tryd.prog 26 := ⟨_, Tryd.func26, by kernel_rfl, by kernel_rfl⟩
instance Tryd.gofun27 : GoFun Tryd.prog 27 := ⟨_, Tryd.func27, by kernel_rfl, by kernel_rfl⟩
instance Tryd.gofun28 : GoFun Tryd.prog 28 := ⟨_, Tryd.func28, by kernel_rfl, by kernel_rfl⟩
instance Tryd.gofun29 : GoFun Tryd.prog 29 := ⟨_, Tryd.func29, by kernel_rfl, by kernel_rfl⟩
instance Tryd.gofun30 : GoFun Tryd.prog 30 := ⟨_, Tryd.func30, by kernel_rfl, by kernel_rfl⟩
instance Tryd.gofun31 : GoFun Tryd.prog 31 := ⟨_, Tryd.func31, by kernel_rfl, by kernel_rfl⟩
instance Tryd.gofun32 : GoFun Tryd.prog 32 := ⟨_, Tryd.func32, by kernel_rfl, by kernel_rfl⟩
instance Tryd.gofun33 : GoFun Tryd.prog 33 := ⟨_, Tryd.func33, by kernel_rfl, by kernel_rfl⟩
instance Tryd.gofun34 : GoFun Tryd.prog 34 := ⟨_, Tryd.func34, by kernel_rfl, by kernel_rfl⟩
instance Tryd.gofun35 : GoFun Tryd.prog 35 := ⟨_, Tryd.func35, by kernel_rfl, by kernel_rfl⟩
instance Tryd.gofun36 : GoFun Tryd.prog 36 := ⟨_, Tryd.func36, by kernel_rfl, by kernel_rfl⟩
instance Tryd.gofun37 : GoFun Tryd.prog 37 := ⟨_, Tryd.func37, by kernel_rfl, by kernel_rfl⟩
instance Tryd.gofun38 : GoFun Tryd.prog 38 := ⟨_, Tryd.func38, by kernel_rfl, by kernel_rfl⟩
instance Tryd.gofun39 : GoFun Tryd.prog 39 := ⟨_, Tryd.func39, by kernel_rfl, by kernel_rfl⟩
instance Tryd.gofun40 : GoFun Tryd.prog 40 := ⟨_, Tryd.func40, by kernel_rfl, by kernel_rfl⟩
instance Tryd.gofun41 : GoFun Tryd.prog 41 := ⟨_, Tryd.func41, by kernel_rfl, by kernel_rfl⟩
instance Tryd.gofun42 : GoFun Tryd.prog 42 := ⟨_, Tryd.func42, by kernel_rfl, by kernel_rfl⟩
instance Tryd.gofun43 : GoFun Tryd.prog 43 := ⟨_, Tryd.func43, by kernel_rfl, by kernel_rfl⟩
instance Tryd.gofun44 : GoFun Tryd.prog 44 := ⟨_, Tryd.func44, by kernel_rfl, by kernel_rfl⟩
instance Tryd.gofun45 : GoFun Tryd.prog 45 := ⟨_, Tryd.func45, by kernel_rfl, by kernel_rfl⟩
instance Tryd.gofun46 : GoFun Tryd.prog 46 := ⟨_, Tryd.func46, by kernel_rfl, by kernel_rfl⟩
instance Tryd.gofun47 : GoFun Tryd.prog 47 := ⟨_, Tryd.func47, by kernel_rfl, by kernel_rfl⟩
instance Tryd.gofun48 : GoFun Tryd.prog 48 := ⟨_, Tryd.func48, by kernel_rfl, by kernel_rfl⟩
instance Tryd.gofun49 : GoFun Tryd.prog 49 := ⟨_, Tryd.func49, by kernel_rfl, by kernel_rfl⟩
instance Tryd.gofun50 : GoFun Tryd.prog 50 := ⟨_, Tryd.func50, by kernel_rfl, by kernel_rfl⟩
instance Tryd.gofun51 : GoFun Tryd.prog 51 := ⟨_, Tryd.func51, by kernel_rfl, by kernel_rfl⟩
instance Tryd.gofun52 : GoFun Tryd.prog 52 := ⟨_, Tryd.func52, by kernel_rfl, by kernel_rfl⟩
instance Tryd.gofun53 : GoFun Tryd.prog 53 := ⟨_, Tryd.func53, by kernel_rfl, by kernel_rfl⟩
instance Tryd.gofun54 : GoFun Tryd.prog 54 := ⟨_, Tryd.func54, by kernel_rfl, by kernel_rfl⟩
end Go.Proofs
/- Instructions and processors, in plain numbers. No conditions: definitions and lemmas only. -/
namespace Go.Proofs
open Go.AM

structure Ins where
  op : Int
  a : Int
  b : Int
  c : Int
  imm : Int
def insRow (i : Ins) : List AV := [.int .i64 i.op, .int .i64 i.a, .int .i64 i.b, .int .i64 i.c, .int .i64 i.imm]
def zIns : Ins := ⟨0, 0, 0, 0, 0⟩
def reg (n : Int) : Bool := decide (0 ≤ n) && decide (n < 16)
def opr (n : Int) : Bool := decide (1 ≤ n) && decide (n < 26)
def w64 (n : Int) : Prop := -9223372036854775808 ≤ n ∧ n < 9223372036854775808
def immOk (n : Int) : Bool := decide (-2147483648 ≤ n) && decide (n < 2147483648)
def rngOk (i : Ins) : Bool := immOk i.imm && reg i.a && reg i.b && reg i.c
def word (i : Ins) : Int := i.op + i.a * 256 + i.b * 65536 + i.c * 16777216 + i.imm * 4294967296
/-- The word of an instruction, and the error. -/
def enc (i : Ins) : Int × Int := if rngOk i = false then (0, 2) else if opr i.op = false then (0, 4) else (word i, 0)
def split (w : Int) : Ins := ⟨w % 256, w / 256 % 256, w / 65536 % 256, w / 16777216 % 256, w / 4294967296⟩
def decOk (i : Ins) : Bool := opr i.op && reg i.a && reg i.b && reg i.c
def dec (w : Int) : Ins × Int := if decOk (split w) = true then (split w, 0) else (zIns, 4)
def encV (i : Ins) : AV := .tuple [.int .i64 (enc i).1, .int .i64 (enc i).2]
def decV (w : Int) : AV := .tuple [.agg (insRow (dec w).1), .int .i64 (dec w).2]

theorem reg_iff {n : Int} : reg n = true ↔ 0 ≤ n ∧ n < 16 := by simp [reg]
theorem opr_iff {n : Int} : opr n = true ↔ 1 ≤ n ∧ n < 26 := by simp [opr]
theorem imm_iff {n : Int} : immOk n = true ↔ -2147483648 ≤ n ∧ n < 2147483648 := by simp [immOk]
theorem rng_iff {i : Ins} : rngOk i = true ↔ (-2147483648 ≤ i.imm ∧ i.imm < 2147483648) ∧ (0 ≤ i.a ∧ i.a < 16) ∧ (0 ≤ i.b ∧ i.b < 16) ∧ (0 ≤ i.c ∧ i.c < 16) := by
  simp [rngOk, immOk, reg, and_assoc]
theorem decOk_iff {i : Ins} : decOk i = true ↔ (1 ≤ i.op ∧ i.op < 26) ∧ (0 ≤ i.a ∧ i.a < 16) ∧ (0 ≤ i.b ∧ i.b < 16) ∧ (0 ≤ i.c ∧ i.c < 16) := by
  simp [decOk, opr, reg, and_assoc]

theorem enc_ok {i : Ins} (h1 : rngOk i = true) (h2 : opr i.op = true) : enc i = (word i, 0) := by simp [enc, h1, h2]
theorem word_range {i : Ins} (h1 : rngOk i = true) (h2 : opr i.op = true) : w64 (word i) := by
  rw [rng_iff] at h1
  rw [opr_iff] at h2
  unfold w64 word
  omega
theorem split_word {i : Ins} (h1 : rngOk i = true) (h2 : opr i.op = true) : split (word i) = i := by
  rw [rng_iff] at h1
  rw [opr_iff] at h2
  obtain ⟨op, a, b, c, imm⟩ := i
  simp only [split, word] at *
  congr 1 <;> omega
theorem dec_word {i : Ins} (h1 : rngOk i = true) (h2 : opr i.op = true) : dec (word i) = (i, 0) := by
  have h : decOk i = true := by
    have := rng_iff.1 h1
    have := opr_iff.1 h2
    rw [decOk_iff]
    omega
  simp [dec, split_word h1 h2, h]
theorem word_split {w : Int} : word (split w) = w := by
  simp only [word, split]
  omega
theorem rng_of_dec {w : Int} (hw : w64 w) (h : decOk (split w) = true) : rngOk (split w) = true ∧ opr (split w).op = true := by
  rw [decOk_iff] at h
  rw [rng_iff, opr_iff]
  unfold w64 at hw
  have : (split w).imm = w / 4294967296 := rfl
  omega

/-! bits -/
theorem and255 (a : Int) : bits .and .i64 a 255 = a % 256 := by
  have h1 : (BitVec.ofInt 64 a &&& BitVec.ofInt 64 255).toNat = (a % 256).toNat := by
    rw [BitVec.toNat_and, BitVec.toNat_ofInt, BitVec.toNat_ofInt]
    rw [show ((255 : Int) % ((2 ^ 64 : Nat) : Int)).toNat = 2 ^ 8 - 1 by decide, Nat.and_two_pow_sub_one_eq_mod]
    omega
  show IntKind.i64.wrap ((BitVec.ofInt 64 a &&& BitVec.ofInt 64 255).toNat : Int) = a % 256
  rw [h1, wrap64 (by omega)]
  omega
/-- Low bits and high bits. -/
theorem or_lo_hi (k : Nat) (hk : k < 64) (lo hi : Int) (h0 : 0 ≤ lo ∧ lo < 2 ^ k) (hr : w64 (lo + hi * 2 ^ k)) : bits .or .i64 lo (hi * 2 ^ k) = lo + hi * 2 ^ k ∧ bits .or .i64 (hi * 2 ^ k) lo = lo + hi * 2 ^ k := by
  have e64 : (2 : Int) ^ 64 = 2 ^ (64 - k) * 2 ^ k := by rw [← Int.pow_add, Nat.sub_add_cancel (by omega)]
  have hpk : (0 : Int) < 2 ^ k := Int.pow_pos (by decide)
  have hhi : (hi * 2 ^ k) % (2 : Int) ^ 64 = (hi % 2 ^ (64 - k)) * 2 ^ k := by rw [e64, Int.mul_comm hi, Int.mul_comm (2 ^ (64 - k)), Int.mul_emod_mul_of_pos _ _ hpk, Int.mul_comm]
  have hm0 : 0 ≤ hi % 2 ^ (64 - k) := Int.emod_nonneg _ (Int.ne_of_gt (Int.pow_pos (by decide)))
  obtain ⟨q, hq⟩ : ∃ q : Nat, hi % 2 ^ (64 - k) = (q : Int) := ⟨_, (Int.toNat_of_nonneg hm0).symm⟩
  obtain ⟨l, rfl⟩ : ∃ l : Nat, lo = (l : Int) := ⟨_, (Int.toNat_of_nonneg h0.1).symm⟩
  have hl : l < 2 ^ k := by have := h0.2; exact_mod_cast this
  have hl64 : l < 2 ^ 64 := Nat.lt_trans hl (Nat.pow_lt_pow_right (by decide) hk)
  have n1 : (BitVec.ofInt 64 (l : Int)).toNat = l := by
    rw [BitVec.toNat_ofInt]
    have : ((2 ^ 64 : Nat) : Int) = 18446744073709551616 := by decide
    rw [this]
    have : (2 : Nat) ^ 64 = 18446744073709551616 := by decide
    omega
  have n2 : (BitVec.ofInt 64 (hi * 2 ^ k)).toNat = 2 ^ k * q := by
    rw [BitVec.toNat_ofInt, show ((2 ^ 64 : Nat) : Int) = 2 ^ 64 by decide, hhi, hq]
    have : ((q : Int) * 2 ^ k) = ((2 ^ k * q : Nat) : Int) := by rw [Nat.mul_comm]; push_cast; rfl
    rw [this, Int.toNat_natCast]
  have hsum : IntKind.i64.wrap ((2 ^ k * q + l : Nat) : Int) = (l : Int) + hi * 2 ^ k := by
    rw [← wrap64 (a := (l : Int) + hi * 2 ^ k) hr]
    have : (((2 ^ k * q + l : Nat) : Int)) % 18446744073709551616 = ((l : Int) + hi * 2 ^ k) % 18446744073709551616 := by
      have e : ((2 ^ k * q + l : Nat) : Int) = (l : Int) + (hi * 2 ^ k) % (2 : Int) ^ 64 := by rw [hhi, hq]; push_cast; rw [Int.mul_comm]; omega
      rw [e, show (2 : Int) ^ 64 = 18446744073709551616 by decide, Int.add_emod_emod]
    unfold IntKind.wrap
    simp only [show (2 : Int) ^ IntKind.i64.bits = 18446744073709551616 by decide]
    rw [this]
  constructor
  · show IntKind.i64.wrap ((BitVec.ofInt 64 (l : Int) ||| BitVec.ofInt 64 (hi * 2 ^ k)).toNat : Int) = _
    rw [BitVec.toNat_or, n1, n2, Nat.or_comm, ← Nat.two_pow_add_eq_or_of_lt hl]
    exact hsum
  · show IntKind.i64.wrap ((BitVec.ofInt 64 (hi * 2 ^ k) ||| BitVec.ofInt 64 (l : Int)).toNat : Int) = _
    rw [BitVec.toNat_or, n1, n2, ← Nat.two_pow_add_eq_or_of_lt hl]
    exact hsum
/-! processors -/
structure Cp where
  r : List Int
  pc : Int
def iv (n : Int) : AV := .int .i64 n
def cpRow (c : Cp) : List AV := c.r.map iv ++ [.int .i64 c.pc]
def Cp.ok (c : Cp) : Prop := c.r.length = 16 ∧ (∀ x ∈ c.r, w64 x) ∧ w64 c.pc
structure Ef where
  cpu : Cp
  stores : Bool
  addr : Int
  word : Int
  prints : Bool
  print : Int
def efRow (e : Ef) : List AV := e.cpu.r.map iv ++ [.int .i64 e.cpu.pc, .bool e.stores, .int .i64 e.addr, .int .i64 e.word, .bool e.prints, .int .i64 e.print]
def zCp : Cp := ⟨List.replicate 16 0, 0⟩
def zEf : Ef := ⟨zCp, false, 0, 0, false, 0⟩
def Cp.get (c : Cp) (n : Int) : Int := c.r.getD n.toNat 0
def Cp.put (c : Cp) (n v : Int) : Cp := { c with r := c.r.set n.toNat v }
def add64 (a b : Int) : Int := IntKind.i64.wrap (a + b)
def sub64 (a b : Int) : Int := IntKind.i64.wrap (a - b)
def mul64 (a b : Int) : Int := IntKind.i64.wrap (a * b)
def b01 (b : Bool) : Int := bif b then 1 else 0
/-- The twelve operations. -/
def bin (k a b : Int) : Int :=
  if k = 0 then add64 a b else if k = 1 then sub64 a b else if k = 2 then mul64 a b else if k = 3 then (if b = 0 then 0 else IntKind.i64.wrap (a.tdiv b)) else if k = 4 then (if b = 0 then a else a.tmod b)
  else if k = 5 then bits .and .i64 a b else if k = 6 then bits .or .i64 a b else if k = 7 then bits .xor .i64 a b
  else if k = 8 then b01 (decide (a < b)) else if k = 9 then b01 (decide (a ≤ b)) else if k = 10 then b01 (decide (a = b)) else b01 (decide (a ≠ b))
def reads (c : Cp) (i : Ins) : Int × Bool :=
  if i.op = 4 then (i.imm, true) else if i.op = 19 then (add64 (if reg i.b = true then c.get i.b else 0) i.imm, true) else if i.op = 24 then (c.get 14, true) else (0, false)
def exec (c : Cp) (i : Ins) (l : Int) : Ef × Int :=
  if (enc i).2 ≠ 0 ∨ i.op = 2 then (zEf, 14) else
  let nx : Cp := { c with pc := add64 c.pc 1 }
  let q (c : Cp) : Ef × Int := ({ zEf with cpu := c }, 0)
  if i.op = 1 then q nx
  else if i.op = 3 then q (nx.put i.a i.imm)
  else if i.op = 4 ∨ i.op = 19 then q (nx.put i.a l)
  else if i.op = 5 then q (nx.put i.a (c.get i.b))
  else if i.op = 18 then q (nx.put i.a (add64 (c.get i.b) i.imm))
  else if i.op = 20 then (⟨nx, true, add64 (c.get i.b) i.imm, c.get i.a, false, 0⟩, 0)
  else if i.op = 21 then q { c with pc := i.imm }
  else if i.op = 22 then (if c.get i.a = 0 then q { c with pc := i.imm } else q nx)
  else if i.op = 23 then (⟨{ c.put 14 (sub64 (c.get 14) 1) with pc := i.imm }, true, sub64 (c.get 14) 1, add64 c.pc 1, false, 0⟩, 0)
  else if i.op = 24 then q { c.put 14 (add64 (c.get 14) 1) with pc := l }
  else if i.op = 25 then (⟨nx, false, 0, 0, true, c.get i.a⟩, 0)
  else q (nx.put i.a (bin (i.op - 6) (c.get i.b) (c.get i.c)))
def readsV (c : Cp) (i : Ins) : AV := .tuple [.int .i64 (reads c i).1, .bool (reads c i).2]
def execV (c : Cp) (i : Ins) (l : Int) : AV := .tuple [.agg (efRow (exec c i l).1), .int .i64 (exec c i l).2]
end Go.Proofs
