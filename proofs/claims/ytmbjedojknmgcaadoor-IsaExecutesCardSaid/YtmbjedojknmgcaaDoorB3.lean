/- Regions that draw their order, some operations changing the state, one behind the other. No conditions: definitions and lemmas only. -/
import Derived.Lib.LaidTab
import Derived.Sort.Grow
import Derived.Test.YtmbjedojknmgcaaDoorProg
import Derived.KernelRfl
import Derived.Test.YtmbjedojknmgcaaDoorB2
namespace Go.AM
open Go.RowKit (Below)
/-- The form that is asked of a region: k operations in whatever order, those of E one behind the other, the rest behind them in the text's order. -/
def drawOkS (l : List Oper) (k : Nat) (E : List Nat) : Bool :=
  let S := predSets l []
  Nat.ble k l.length && ((List.range l.length).all fun i =>
    match l[i]? with
    | none => false
    | some o => (edgesOf o).all (fun x => Nat.blt x i) &&
      (bif Nat.blt i k then
        (o.dst.isSome || E.contains i) && (List.range k).all (fun j => match l[j]? with
          | none => false
          | some p => (bif Nat.beq i j then true else (match o.dst, p.dst with | some a, some b => !(Nat.beq a b) | _, _ => true)) &&
            (match p.dst with
              | some t => bif (o.looksAt l.toArray).contains t then (S.getD i 0).testBit j else true
              | none => true))
      else (List.range i).all fun j => (S.getD i 0).testBit j)) &&
  (List.range E.length).all fun b => Nat.blt (E.getD b 0) k && (List.range b).all fun a => Nat.blt (E.getD a 0) (E.getD b 0) && (S.getD (E.getD b 0) 0).testBit (E.getD a 0)
section
variable {P : Program} {n : Nat} {K : Post} {E : EPost} {T : Tmps} {st : St}
theorem drawOkS_spec {l : List Oper} {k : Nat} {Es : List Nat} (h : drawOkS l k Es = true) : k ≤ l.length ∧ (∀ i o, l[i]? = some o → ∀ x ∈ edgesOf o, x < i) ∧
    (∀ i o, l[i]? = some o → i < k → (o.dst = none → Es.contains i = true) ∧ ∀ j p, j < k → l[j]? = some p → (i ≠ j → ∀ a b, o.dst = some a → p.dst = some b → a ≠ b) ∧
      (∀ t, p.dst = some t → (o.looksAt l.toArray).contains t = true → ∀ listed : Array Bool, Closed l listed → (∀ x ∈ edgesOf o, listed.getD x false = true) → listed.getD j false = true)) ∧
    (∀ i o, k ≤ i → l[i]? = some o → ∀ listed : Array Bool, Closed l listed → (∀ x ∈ edgesOf o, listed.getD x false = true) → ∀ j, j < i → listed.getD j false = true) ∧
    (∀ b i : Nat, Es[b]? = some i → i < k ∧ ∀ a j : Nat, a < b → Es[a]? = some j → j < i ∧ ∀ o, l[i]? = some o → ∀ listed : Array Bool, Closed l listed → (∀ x ∈ edgesOf o, listed.getD x false = true) → listed.getD j false = true) := by
  simp only [drawOkS, Bool.and_eq_true] at h
  obtain ⟨⟨h0, hall⟩, hE⟩ := h
  have hS : ∀ listed, Closed l listed → ∀ i o, l[i]? = some o → (∀ x ∈ edgesOf o, listed.getD x false = true) → ∀ j, ((predSets l []).getD i 0).testBit j = true → listed.getD j false = true := by
    intro listed hc i o ho he j hj
    exact predSets_spec l listed hc l [] (fun j => by simp) (fun i o hi => by simp at hi) i o (by rw [predSets_length]; simpa using (List.getElem?_eq_some_iff.1 ho).1) ho he j hj
  have hat : ∀ i o, l[i]? = some o → ((edgesOf o).all (fun x => Nat.blt x i) = true ∧
      (bif Nat.blt i k then
        (o.dst.isSome || Es.contains i) && (List.range k).all (fun j => match l[j]? with
          | none => false
          | some p => (bif Nat.beq i j then true else (match o.dst, p.dst with | some a, some b => !(Nat.beq a b) | _, _ => true)) &&
            (match p.dst with
              | some t => bif (o.looksAt l.toArray).contains t then ((predSets l []).getD i 0).testBit j else true
              | none => true))
      else (List.range i).all fun j => ((predSets l []).getD i 0).testBit j) = true) := by
    intro i o ho
    have hi := (List.getElem?_eq_some_iff.1 ho).1
    have := List.all_eq_true.1 hall i (List.mem_range.2 hi)
    simp only [ho, Bool.and_eq_true] at this
    exact this
  refine ⟨Nat.ble_le h0, fun i o ho x hx => ?_, fun i o ho hik => ?_, fun i o hik ho listed hc he j hj => ?_, fun b i hb => ?_⟩
  · have := List.all_eq_true.1 (hat i o ho).1 x hx
    simpa [Nat.blt_eq] using this
  · have h2 := (hat i o ho).2
    rw [show Nat.blt i k = true by simpa [Nat.blt_eq] using hik, cond_true, Bool.and_eq_true] at h2
    refine ⟨fun hd => ?_, fun j p hj hp => ?_⟩
    · rw [hd] at h2
      simpa using h2.1
    · have h3 := List.all_eq_true.1 h2.2 j (List.mem_range.2 hj)
      simp only [hp, Bool.and_eq_true] at h3
      refine ⟨fun hij a b ha hb => ?_, fun t ht hlook listed hc he => ?_⟩
      · have h4 := h3.1
        rw [nbeq_ne hij, cond_false, ha, hb] at h4
        intro e
        rw [e] at h4
        simp at h4
      · have h4 := h3.2
        rw [ht] at h4
        simp only [hlook, cond_true] at h4
        exact hS listed hc i o ho he j h4
  · have h2 := (hat i o ho).2
    rw [show Nat.blt i k = false by rw [Bool.eq_false_iff, Ne, Nat.blt_eq]; omega, cond_false] at h2
    exact hS listed hc i o ho he j (List.all_eq_true.1 h2 j (List.mem_range.2 hj))
  · have hbl := (List.getElem?_eq_some_iff.1 hb).1
    have h2 := List.all_eq_true.1 hE b (List.mem_range.2 hbl)
    have eb : Es.getD b 0 = i := by rw [List.getD_eq_getElem?_getD, hb]; rfl
    simp only [eb, Bool.and_eq_true] at h2
    refine ⟨by simpa [Nat.blt_eq] using h2.1, fun a j hab ha => ?_⟩
    have ea : Es.getD a 0 = j := by rw [List.getD_eq_getElem?_getD, ha]; rfl
    have h3 := List.all_eq_true.1 h2.2 a (List.mem_range.2 hab)
    simp only [ea, Bool.and_eq_true] at h3
    exact ⟨by simpa [Nat.blt_eq] using h3.1, fun o ho listed hc he => hS listed hc i o ho he j h3.2⟩
/-- From every state of I to one of I', the outcome as told. -/
def EffJ (P : Program) (n : Nat) (I I' : St → Prop) (T : Tmps) (o : Oper) (Q : AV → Prop) : Prop :=
  ∀ st g w a (K' : Act → World → Prop) (Q' : Exit → Act → World → Prop), I st → Sim g w st → Known g w T a → a.tmps.size = n →
    (∀ rv g' w' v st1, Ext g w g' w' → Sim g' w' st1 → R g' w' v rv → Q v → I' st1 → K' (a.put o.dst rv) w') → o.wp P a w K' Q'
def StepS (P : Program) (n : Nat) (I : Nat → St → Prop) (Es : List Nat) (i : Nat) (ops : Array Oper) (T : Tmps) (o : Oper) (Q : AV → Prop) : Prop :=
  (wantedA ops T o = some true ∧ (Es.contains i = false → ∀ j, EffJ P n (I j) (I j) T o Q) ∧ ∀ j, Es[j]? = some i → EffJ P n (I j) (I (j + 1)) T o Q) ∨ (wantedA ops T o = some false ∧ Q (.lit undef) ∧ Es.contains i = false)
/-- The walk in the text's order; behind it k. -/
def DRunS (P : Program) (n : Nat) (I : Nat → St → Prop) (Es : List Nat) (ops : Array Oper) : Nat → List Oper → List (AV → Prop) → Tmps → (Tmps → St → Prop) → Prop
  | _, [], [], T, k => ∀ st, I Es.length st → k T st
  | i, o :: r, Q :: Qs, T, k => (∃ u, Q u) ∧ dstOk o.dst n = true ∧ StepS P n I Es i ops (see ops o T) o Q ∧ ∀ u, Q u → DRunS P n I Es ops (i + 1) r Qs (T.put o.dst u) k
  | _, _, _, _, _ => False
theorem DRunS.out {I : Nat → St → Prop} {Es : List Nat} {ops : Array Oper} {k : Tmps → St → Prop} (us : Nat → AV) (l : List Oper) : ∀ (r : List Oper) (Qs : List (AV → Prop)) (i0 : Nat), (∀ (i : Nat) (o : Oper), r[i]? = some o → l[i0 + i]? = some o) → (∀ (i : Nat) (Q : AV → Prop), Qs[i]? = some Q → Q (us (i0 + i))) →
    DRunS P n I Es ops i0 r Qs (ents l us i0 ++ T) k → Qs.length = r.length ∧ (∀ st, I Es.length st → k (ents l us (i0 + r.length) ++ T) st) ∧
      ∀ i o, r[i]? = some o → ∃ Q, dstOk o.dst n = true ∧ Qs[i]? = some Q ∧ StepS P n I Es (i0 + i) ops (see ops o (ents l us (i0 + i) ++ T)) o Q
  | [], [], i0, _, _, h => ⟨rfl, h, fun i o ho => by simp at ho⟩
  | [], _ :: _, _, _, _, h => h.elim
  | _ :: _, [], _, _, _, h => h.elim
  | o :: r, Q :: Qs, i0, hl, hq, h => by
    obtain ⟨_, h2, h4, h5⟩ := h
    have h6 := h5 (us i0) (hq 0 Q rfl)
    have hl0 : l[i0]? = some o := by simpa using hl 0 o rfl
    have he : (ents l us i0 ++ T).put o.dst (us i0) = ents l us (i0 + 1) ++ T := by
      rw [ents, hl0]
      simp only [Option.bind_some]
      cases o.dst <;> rfl
    rw [he] at h6
    obtain ⟨a1, a2, a3⟩ := DRunS.out us l r Qs (i0 + 1) (fun i o' ho' => by have := hl (i + 1) o' (by simpa using ho'); rwa [show i0 + (i + 1) = i0 + 1 + i by omega] at this) (fun i Q' hQ' => by have := hq (i + 1) Q' (by simpa using hQ'); rwa [show i0 + (i + 1) = i0 + 1 + i by omega] at this) h6
    refine ⟨by simp [a1], by rw [List.length_cons, show i0 + (r.length + 1) = i0 + 1 + r.length by omega]; exact a2, fun i o' ho' => ?_⟩
    cases i with
    | zero =>
      simp only [List.getElem?_cons_zero, Option.some.injEq] at ho'
      subst ho'
      exact ⟨Q, h2, rfl, h4⟩
    | succ i =>
      obtain ⟨Q', b1, b2, b3⟩ := a3 i o' (by simpa using ho')
      exact ⟨Q', b1, by simpa using b2, by rwa [show i0 + 1 + i = i0 + (i + 1) by omega] at b3⟩
theorem DRunS.fits {I : Nat → St → Prop} {Es : List Nat} {ops : Array Oper} {k : Tmps → St → Prop} : ∀ (r : List Oper) (Qs : List (AV → Prop)) (i0 : Nat) (T : Tmps), DRunS P n I Es ops i0 r Qs T k → ∀ (i : Nat) (Q : AV → Prop), Qs[i]? = some Q → ∃ u, Q u
  | [], [], _, _, _, i, Q, h => by simp at h
  | [], _ :: _, _, _, h, _, _, _ => h.elim
  | _ :: _, [], _, _, h, _, _, _ => h.elim
  | o :: r, Q0 :: Qs, i0, T, h, i, Q, hq => by
    obtain ⟨⟨u, hu⟩, h2, h4, h5⟩ := h
    cases i with
    | zero => simp at hq; subst hq; exact ⟨u, hu⟩
    | succ i => exact DRunS.fits r Qs _ _ (h5 u hu) i Q (by simpa using hq)
/-- How many of a list are done, where the first ones are. -/
theorem countP_first (p : Nat → Bool) : ∀ (Es : List Nat) (j : Nat), j ≤ Es.length → (∀ a x, a < j → Es[a]? = some x → p x = true) → (∀ a x, j ≤ a → Es[a]? = some x → p x = false) → Es.countP p = j
  | [], j, hj, _, _ => by simp at hj; simp [hj]
  | x :: Es, 0, _, _, h2 => by
    rw [List.countP_cons, h2 0 x (Nat.le_refl _) rfl]
    have := countP_first p Es 0 (Nat.zero_le _) (fun a y h => by omega) (fun a y _ hy => h2 (a + 1) y (Nat.zero_le _) (by simpa using hy))
    simp [this]
  | x :: Es, j + 1, hj, h1, h2 => by
    rw [List.countP_cons, h1 0 x (by omega) rfl]
    have := countP_first p Es j (by simpa using hj) (fun a y h hy => h1 (a + 1) y (by omega) (by simpa using hy)) (fun a y h hy => h2 (a + 1) y (by omega) (by simpa using hy))
    simp [this]

theorem AWP.drawS {l : List Oper} {id : Nat} (hm : P.follows .mixedOrders = true) (k : Nat) (Es : List Nat) (I : Nat → St → Prop) (Qs : List (AV → Prop)) (hok : drawOkS l k Es = true) (hI : I 0 st)
    (h : DRunS P n I Es l.toArray 0 (l.take k) Qs T fun T' st' => AOps P n l.toArray (l.drop k) K E T' st') : AWP P n (.region id l.toArray true) K E T st := by
  obtain ⟨hkl, hedge, hbody, htail, hchain⟩ := drawOkS_spec hok
  have hfits := DRunS.fits _ _ _ _ h
  have hout := fun (us : Nat → AV) (hus : ∀ (i : Nat) (Q : AV → Prop), Qs[i]? = some Q → Q (us (0 + i))) => DRunS.out (T := T) us l (l.take k) Qs 0 (fun i o ho => by
    have hi : i < k := by have := (List.getElem?_eq_some_iff.1 ho).1; simp at this; omega
    rw [List.getElem?_take_of_lt hi] at ho
    rwa [Nat.zero_add]) hus h
  have hlk0 : (l.take k).length = k := by simp; omega
  -- some values that fit
  obtain ⟨wit, hwit⟩ : ∃ wit : Nat → AV, ∀ (i : Nat) (Q : AV → Prop), Qs[i]? = some Q → Q (wit i) := by
    have : ∀ i : Nat, ∃ u : AV, ∀ Q : AV → Prop, Qs[i]? = some Q → Q u := fun i => by
      cases hq : Qs[i]? with
      | none => exact ⟨.bool true, fun Q h => by cases h⟩
      | some Q =>
        obtain ⟨u, hu⟩ := hfits i Q hq
        exact ⟨u, fun Q' h => by cases h; exact hu⟩
    exact ⟨fun i => Classical.choose (this i), fun i Q hQ => Classical.choose_spec (this i) Q hQ⟩
  have hQl : Qs.length = k := by rw [(hout wit (fun i Q hQ => by rw [Nat.zero_add]; exact hwit i Q hQ)).1, hlk0]
  intro g0 w0 a0 hs0 hk0 hn0
  refine wp_region_any hm ?_
  obtain ⟨hed, hsd⟩ := hs0.draw
  let Inv : Array Bool → Act → World → Prop := fun listed a w => listed.size = l.length ∧ Closed l listed ∧ (∀ j, k ≤ j → j < l.length → listed.getD j true = false) ∧ a.tmps.size = n ∧ a.defers = a0.defers ∧
    ∃ g st1, Ext g0 w0 g w ∧ Sim g w st1 ∧ I (Es.countP fun e => listed.getD e false) st1 ∧
      (∀ t v, Tmps.get T t = some v → (∀ i, i < k → (l[i]?).bind (·.dst) = some t → listed.getD i false = false) → ∃ rv, a.tmps[t]? = some rv ∧ R g w v rv) ∧
      (∀ i d Q, i < k → (l[i]?).bind (·.dst) = some d → Qs[i]? = some Q → listed.getD i false = true → ∃ u rv, Q u ∧ a.tmps[d]? = some rv ∧ R g w u rv)
  let μ : Array Bool → Nat := fun listed => (List.range l.length).countP fun j => !listed.getD j true
  have hμ : ∀ (listed : Array Bool) i, i < l.length → listed.size = l.length → listed.getD i true = false → μ (listed.setIfInBounds i true) + 1 ≤ μ listed := by
    intro listed i hil hsz hi
    have gen : ∀ (A : List Nat), i ∈ A → A.countP (fun j => !(listed.setIfInBounds i true).getD j true) + 1 ≤ A.countP (fun j => !listed.getD j true) := by
      have le : ∀ (A : List Nat), A.countP (fun j => !(listed.setIfInBounds i true).getD j true) ≤ A.countP (fun j => !listed.getD j true) := fun A => List.countP_mono_left fun j _ hj => by
        by_cases hij : i = j
        · subst hij
          rw [Array.getD_eq_getD_getElem?, Array.getElem?_setIfInBounds_self_of_lt (by omega)] at hj
          simp at hj
        · rw [getD_set_ne true hij] at hj; exact hj
      intro A
      induction A with
      | nil => intro h; simp at h
      | cons x A ih =>
        intro h
        rw [List.countP_cons, List.countP_cons]
        by_cases hx : x = i
        · subst hx
          have h1 : (!(listed.setIfInBounds x true).getD x true) = false := by
            rw [Array.getD_eq_getD_getElem?, Array.getElem?_setIfInBounds_self_of_lt (by omega)]; rfl
          have h2 : (!listed.getD x true) = true := by rw [hi]; rfl
          rw [h1, h2, if_neg (by decide), if_pos rfl]
          have := le A
          omega
        · have hm' : i ∈ A := by rcases List.mem_cons.1 h with h | h; exact absurd h.symm hx; exact h
          have := ih hm'
          have h3 : (listed.setIfInBounds i true).getD x true = listed.getD x true := getD_set_ne true (Ne.symm hx)
          rw [h3]
          omega
    exact gen _ (List.mem_range.2 hil)
  -- values that are there
  have choose : ∀ (listed : Array Bool) (a : Act) (g : G) (w : World), (∀ i d Q, i < k → (l[i]?).bind (·.dst) = some d → Qs[i]? = some Q → listed.getD i false = true → ∃ u rv, Q u ∧ a.tmps[d]? = some rv ∧ R g w u rv) →
      ∃ us : Nat → AV, (∀ (i : Nat) (Q : AV → Prop), Qs[i]? = some Q → Q (us i)) ∧ ∀ i d, i < k → (l[i]?).bind (·.dst) = some d → listed.getD i false = true → ∃ rv, a.tmps[d]? = some rv ∧ R g w (us i) rv := by
    intro listed a g w hB
    have : ∀ i : Nat, ∃ u : AV, (∀ Q : AV → Prop, Qs[i]? = some Q → Q u) ∧ ∀ d, i < k → (l[i]?).bind (·.dst) = some d → listed.getD i false = true → ∃ rv, a.tmps[d]? = some rv ∧ R g w u rv := fun i => by
      by_cases hc : i < k ∧ listed.getD i false = true
      · obtain ⟨hik, hli⟩ := hc
        cases hd' : (l[i]?).bind (·.dst) with
        | none => exact ⟨wit i, hwit i, fun d _ hd2 _ => by cases hd2⟩
        | some d =>
          have hq : Qs[i]? = some (Qs[i]'(by omega)) := List.getElem?_eq_getElem _
          obtain ⟨u, rv, h1, h2, h3⟩ := hB i d _ hik hd' hq hli
          refine ⟨u, fun Q h => by rw [hq] at h; cases h; exact h1, fun d' _ hd2 _ => ?_⟩
          cases hd2
          exact ⟨rv, h2, h3⟩
      · exact ⟨wit i, hwit i, fun d h1 _ h2 => absurd ⟨h1, h2⟩ hc⟩
    exact ⟨fun i => Classical.choose (this i), fun i => (Classical.choose_spec (this i)).1, fun i => (Classical.choose_spec (this i)).2⟩
  -- what is seen of a walk's entries is known
  have done : ∀ (m : Nat) (listed : Array Bool) (a : Act) (w : World), Inv listed a w → (∀ j, j < k → listed.getD j true = true) → l.length ≤ k + m → wpAny P .any l.toArray (QOf n a0.defers g0 w0 K E) m listed a w := by
    intro m listed a w ⟨hsz, hcl, htl, hn, hd, g, st1, he, hs, hI1, hA, hB⟩ hall hm'
    have hlist : ∀ j, j < k → listed.getD j false = true := fun j hj => by
      have h1 := hall j hj
      rw [Array.getD_eq_getD_getElem?, Array.getElem?_eq_getElem (by omega)] at h1 ⊢
      simpa using h1
    refine wpAny_tail hedge k htail m k listed a w (Nat.le_refl _) hkl hm' hsz (fun j hj => ?_) hcl ?_
    · by_cases hjk : j < k
      · rw [hall j hjk, decide_eq_true hjk]
      · rw [htl j (by omega) hj, decide_eq_false hjk]
    · obtain ⟨us, hus, hus2⟩ := choose listed a g w hB
      obtain ⟨_, hfin, _⟩ := hout us (fun i Q hQ => by rw [Nat.zero_add]; exact hus i Q hQ)
      rw [hlk0, Nat.zero_add] at hfin
      rw [countP_first _ Es Es.length (Nat.le_refl _) (fun b x _ hx => hlist x (hchain b x hx).1) (fun b x hb hx => by have := (List.getElem?_eq_some_iff.1 hx).1; omega)] at hI1
      have h5 := hfin st1 hI1 g w a hs (fun t u hu => by
        rw [get_append] at hu
        cases hg : Tmps.get (ents l us k) t with
        | some u' =>
          rw [hg] at hu
          cases hu
          obtain ⟨j, hj, hdj, rfl⟩ := ents_get k t _ hg
          exact hus2 j t hj hdj (hlist j hj)
        | none =>
          rw [hg] at hu
          exact hA t u hu fun i hi hit => absurd hit (ents_none k t hg i hi)) hn
      rw [hd] at h5
      exact wpList_mono (fun _ _ _ q => QOf.ext he q) _ _ _ h5
  -- a step of the body
  have step : ∀ (K' : Act → World → Prop) (listed : Array Bool) (a : Act) (w : World) (i : Nat), Inv listed a w → i < k → i ∈ Region.ready .any l.toArray listed → (∀ a' w', Inv (listed.setIfInBounds i true) a' w' → K' a' w') →
      wpOp P l.toArray (QOf n a0.defers g0 w0 K E) i K' a w := by
    intro K' listed a w i ⟨hsz, hcl, htl, hn, hd, g, st1, he, hs, hI1, hA, hB⟩ hik hri hK
    obtain ⟨hun, o, ho, hed'⟩ := ready_edges hri
    have hil := (List.getElem?_eq_some_iff.1 ho).1
    have hunf : listed.getD i false = false := by
      rw [Array.getD_eq_getD_getElem?, Array.getElem?_eq_getElem (by omega)] at hun ⊢
      simpa using hun
    have hcl' := hcl.set ho hed'
    have hsz' : (listed.setIfInBounds i true).size = l.length := by simpa using hsz
    have htl' : ∀ j, k ≤ j → j < l.length → (listed.setIfInBounds i true).getD j true = false := fun j h1 h2 => by
      rw [getD_set_ne true (by omega)]; exact htl j h1 h2
    obtain ⟨us, hus, hus2⟩ := choose listed a g w hB
    obtain ⟨_, _, hops⟩ := hout us (fun i Q hQ => by rw [Nat.zero_add]; exact hus i Q hQ)
    obtain ⟨Q, hdn, hQi, hstep⟩ := hops i o (by rw [List.getElem?_take_of_lt hik]; exact ho)
    rw [Nat.zero_add] at hstep
    -- the entries of others that are seen are there
    have hlooked : ∀ j, j < k → ∀ t, (l[j]?).bind (·.dst) = some t → (o.looksAt l.toArray).contains t = true → listed.getD j false = true ∧ j < i := by
      intro j hj t hjt hlook
      have hp : l[j]? = some l[j] := List.getElem?_eq_getElem (by omega)
      rw [hp] at hjt
      have h2 := ((hbody i o ho hik).2 j _ hj hp).2 t hjt hlook
      refine ⟨h2 listed hcl hed', ?_⟩
      have hcl2 : Closed l (Array.ofFn fun q : Fin l.length => decide (q.val < i)) := by
        intro q oq hq hq' x hx'
        have hql := (List.getElem?_eq_some_iff.1 hq).1
        rw [Array.getD_eq_getD_getElem?, Array.getElem?_ofFn] at hq' ⊢
        simp only [hql, dif_pos, Option.getD_some, decide_eq_true_eq] at hq'
        have hxq := hedge q oq hq x hx'
        simp only [show x < l.length by omega, dif_pos, Option.getD_some, decide_eq_true_eq]
        omega
      have h3 := h2 _ hcl2 (fun x hx' => by
        have hxi := hedge i o ho x hx'
        rw [Array.getD_eq_getD_getElem?, Array.getElem?_ofFn]
        simp only [show x < l.length by omega, dif_pos, Option.getD_some, decide_eq_true_eq]
        exact hxi)
      rw [Array.getD_eq_getD_getElem?, Array.getElem?_ofFn] at h3
      simp only [show j < l.length by omega, dif_pos, Option.getD_some, decide_eq_true_eq] at h3
      exact h3
    have hknown : Known g w (see l.toArray o (ents l us i ++ T)) a := fun t v ht => by
      obtain ⟨hlook, hget⟩ := get_filter _ _ _ _ ht
      rw [get_append] at hget
      cases hg : Tmps.get (ents l us i) t with
      | some u' =>
        rw [hg] at hget
        cases hget
        obtain ⟨j, hj, hdj, rfl⟩ := ents_get i t _ hg
        exact hus2 j t (by omega) hdj (hlooked j (by omega) t hdj hlook).1
      | none =>
        rw [hg] at hget
        refine hA t v hget fun j hj hjt => ?_
        have h1 := hlooked j hj t hjt hlook
        exact absurd hjt (ents_none i t hg j h1.2)
    have hother : ∀ t, o.dst ≠ some t → ∀ rv', (a.put o.dst rv').tmps[t]? = a.tmps[t]? := fun t ht rv' => by
      cases hod : o.dst with
      | none => rfl
      | some d =>
        simp only [Act.put, Array.getElem?_setIfInBounds]
        rw [if_neg (fun h => ht (by rw [hod, h]))]
    have hself : ∀ d, o.dst = some d → ∀ rv', (a.put o.dst rv').tmps[d]? = some rv' := fun d hod rv' => by
      have hdn' := dstOk_lt hdn d hod
      rw [hod]
      simp only [Act.put, Array.getElem?_setIfInBounds]
      simp [hn, hdn']
    have hdi : ∀ d, (l[i]?).bind (·.dst) = some d → o.dst = some d := fun d h => by rw [ho] at h; exact h
    have after : ∀ v rv g' w' st2, Ext g w g' w' → Sim g' w' st2 → R g' w' v rv → Q v → I (Es.countP fun e => (listed.setIfInBounds i true).getD e false) st2 → Inv (listed.setIfInBounds i true) (a.put o.dst rv) w' := by
      intro v rv g' w' st2 he' hs' hR hQv hI2
      refine ⟨hsz', hcl', htl', by rw [Act.size_put]; exact hn, by rw [Act.defers_put]; exact hd, g', st2, he.trans he', hs', hI2, fun t u ht hwr => ?_, fun j d' Q' hj hjd hjQ hjl => ?_⟩
      · have htd : o.dst ≠ some t := fun htd => by
          have := hwr i hik (by rw [ho]; exact htd)
          rw [Array.getD_eq_getD_getElem?, Array.getElem?_setIfInBounds_self_of_lt (by omega)] at this
          simp at this
        obtain ⟨ru, h1, h2⟩ := hA t u ht fun j hj hjt => by
          have h3 := hwr j hj hjt
          by_cases hij : i = j
          · subst hij; exact hunf
          · rwa [getD_set_ne false hij] at h3
        exact ⟨ru, by rw [hother t htd]; exact h1, h2.ext he'⟩
      · by_cases hij : i = j
        · subst hij
          rw [hQi] at hjQ
          cases hjQ
          exact ⟨v, rv, hQv, hself d' (hdi d' hjd) rv, hR⟩
        · rw [getD_set_ne false hij] at hjl
          obtain ⟨u, ru, h1, h2, h3⟩ := hB j d' Q' hj hjd hjQ hjl
          refine ⟨u, ru, h1, ?_, h3.ext he'⟩
          rw [hother d' ?_]
          · exact h2
          · have hp : l[j]? = some l[j] := List.getElem?_eq_getElem (by omega)
            rw [hp] at hjd
            exact fun hdd => ((hbody i o ho hik).2 j _ hj hp).1 hij d' d' hdd hjd rfl
    have hcount : Es.contains i = false → (Es.countP fun e => (listed.setIfInBounds i true).getD e false) = Es.countP fun e => listed.getD e false := fun hni => by
      refine List.countP_congr fun e he => ?_
      have hne : i ≠ e := fun h => by
        subst h
        rw [List.contains_iff_mem.2 he] at hni
        cases hni
      rw [getD_set_ne false hne]
    have hpos : ∀ j, Es[j]? = some i → (Es.countP fun e => listed.getD e false) = j ∧ (Es.countP fun e => (listed.setIfInBounds i true).getD e false) = j + 1 := fun j hj => by
      have hjl := (List.getElem?_eq_some_iff.1 hj).1
      have before : ∀ b x, b < j → Es[b]? = some x → listed.getD x false = true := fun b x hb hx => ((hchain j i hj).2 b x hb hx).2 o ho listed hcl hed'
      have behind : ∀ b x, j < b → Es[b]? = some x → listed.getD x false = false := fun b x hb hx => by
        obtain ⟨h1, h2⟩ := hchain b x hx
        cases hv : listed.getD x false with
        | false => rfl
        | true =>
          have hxl : x < l.length := by omega
          have := (h2 j i hb hj).2 l[x] (List.getElem?_eq_getElem hxl) listed hcl (fun y hy => hcl x _ (List.getElem?_eq_getElem hxl) hv y hy)
          rw [hunf] at this
          cases this
      refine ⟨countP_first _ Es j (by omega) before (fun b x hb hx => ?_), countP_first _ Es (j + 1) (by omega) (fun b x hb hx => ?_) (fun b x hb hx => ?_)⟩
      · rcases Nat.eq_or_lt_of_le hb with h | h
        · subst h
          rw [hj] at hx
          cases hx
          exact hunf
        · exact behind b x h hx
      · by_cases hbj : b = j
        · subst hbj
          rw [hj] at hx
          cases hx
          rw [Array.getD_eq_getD_getElem?, Array.getElem?_setIfInBounds_self_of_lt (by omega)]
          rfl
        · have hb' : b < j := by omega
          rw [getD_set_ne false (by have := ((hchain j i hj).2 b x hb' hx).1; omega)]
          exact before b x hb' hx
      · rw [getD_set_ne false (by have := ((hchain b x hx).2 j i hb hj).1; omega)]
        exact behind b x hb hx
    unfold wpOp
    simp only [List.getElem?_toArray, ho]
    rcases hstep with ⟨hw, hq1, hq2⟩ | ⟨hw, hq, hni⟩
    · rw [wanted_of hknown hw, if_pos rfl]
      left
      cases hc : Es.contains i with
      | false => exact hq1 hc _ st1 g w a K' _ hI1 hs hknown hn fun rv g' w' v st2 he' hs' hR hQv hI2 => hK _ _ (after v rv g' w' st2 he' hs' hR hQv (by rw [hcount hc]; exact hI2))
      | true =>
        obtain ⟨j, hj⟩ := List.getElem?_of_mem (List.contains_iff_mem.1 hc)
        obtain ⟨p1, p2⟩ := hpos j hj
        rw [p1] at hI1
        exact hq2 j hj st1 g w a K' _ hI1 hs hknown hn fun rv g' w' v st2 he' hs' hR hQv hI2 => hK _ _ (after v rv g' w' st2 he' hs' hR hQv (by rw [p2]; exact hI2))
    · rw [wanted_of hknown hw, if_neg (by simp)]
      exact hK _ _ (after _ undef g w st1 (.refl _ _) hs (.lit _) hq (by rw [hcount hni]; exact hI1))
  have key : ∀ (m : Nat) (listed : Array Bool) (a : Act) (w : World), Inv listed a w → μ listed ≤ m → wpAny P .any l.toArray (QOf n a0.defers g0 w0 K E) m listed a w := by
    intro m
    induction m with
    | zero =>
      intro listed a w hi hm0
      -- nothing is left
      have hall : ∀ j, j < l.length → listed.getD j true = true := fun j hj => by
        cases hv : listed.getD j true with
        | true => rfl
        | false => have := hμ listed j hj hi.1 hv; omega
      have hlk : l.length = k := by
        rcases Nat.eq_or_lt_of_le hkl with h' | h'
        · exact h'.symm
        · have h1 := hall k h'
          have h2 := hi.2.2.1 k (Nat.le_refl _) h'
          rw [h1] at h2
          cases h2
      exact done 0 listed a w hi (fun j hj => hall j (by omega)) (by omega)
    | succ m ih =>
      intro listed a w hi hm1
      by_cases hall : ∀ j, j < k → listed.getD j true = true
      · refine done (m + 1) listed a w hi hall ?_
        -- the tail is unlisted: it is counted
        have : l.length - k ≤ μ listed := by
          exact countP_range_ge k _ l.length fun j h1 h2 => by rw [hi.2.2.1 j h1 h2]; rfl
        omega
      · have hex : ∃ j, j < k ∧ listed.getD j true = false ∧ ∀ q, q < j → listed.getD q true = true := by
          have : ∃ j, j < k ∧ listed.getD j true = false := by
            apply Classical.byContradiction
            intro hno
            apply hall
            intro j hj
            cases hv : listed.getD j true with
            | true => rfl
            | false => exact absurd ⟨j, hj, hv⟩ hno
          obtain ⟨j, hj⟩ := this
          induction j using Nat.strongRecOn with
          | _ j ihj =>
            by_cases hq : ∀ q, q < j → listed.getD q true = true
            · exact ⟨j, hj.1, hj.2, hq⟩
            · simp only [Classical.not_forall] at hq
              obtain ⟨q, hqj, hq⟩ := hq
              exact ihj q hqj ⟨by omega, by simpa using hq⟩
        obtain ⟨j0, hj0, hv0, hmin⟩ := hex
        have hsz := hi.1
        have hjl : j0 < l.length := by omega
        have hready : j0 ∈ Region.ready .any l.toArray listed := ready_of_edges hv0 (List.getElem?_eq_getElem hjl) (fun x hx => by
          have hxj := hedge j0 _ (List.getElem?_eq_getElem hjl) x hx
          have h1 := hmin x hxj
          rw [Array.getD_eq_getD_getElem?, Array.getElem?_eq_getElem (by omega)] at h1 ⊢
          simpa using h1)
        refine ⟨fun h0 => (by rw [h0] at hready; cases hready), fun i hri => ?_⟩
        obtain ⟨hun, o, ho, hed'⟩ := ready_edges hri
        have hil := (List.getElem?_eq_some_iff.1 ho).1
        have hik : i < k := by
          rcases Nat.lt_or_ge i k with h' | h'
          · exact h'
          · have h1 := htail i o h' ho listed hi.2.1 hed' j0 (by omega)
            rw [Array.getD_eq_getD_getElem?, Array.getElem?_eq_getElem (by omega)] at h1 hv0
            simp at h1 hv0
            rw [h1] at hv0
            cases hv0
        exact step _ listed a w i hi hik hri fun a' w' hi' => ih _ a' w' hi' (by have := hμ listed i hil hsz hun; omega)
  refine key _ _ a0 _ ?_ ?_
  · have hnone : ∀ j, (Array.replicate l.toArray.size false).getD j false = false := fun j => by
      rw [Array.getD_eq_getD_getElem?, Array.getElem?_replicate]
      split <;> rfl
    refine ⟨by simp, fun i o ho hi' => ?_, fun j _ hj => by simp [hj], hn0, rfl, g0, st, hed, hsd, by rw [countP_first _ Es 0 (Nat.zero_le _) (fun b x hb => by omega) (fun b x _ _ => hnone x)]; exact hI, fun t v ht _ => (hk0.ext hed) t v ht, fun i d Q _ _ _ hl => ?_⟩
    · rw [hnone] at hi'; cases hi'
    · rw [hnone] at hl; cases hl
  · have := List.countP_le_length (p := fun j => !(Array.replicate l.length false).getD j true) (l := List.range l.length)
    exact Nat.le_trans this (by simp)

end
end Go.AM
/- The steps of a region that draws its order and writes, out of the rules for a region that does not. No conditions: definitions and lemmas only. -/
namespace Go.AM
open Go.RowKit (Below)
section
variable {P : Program} {n : Nat} {K : Post} {E : EPost} {T : Tmps} {st base : St} {ops : Array Oper} {sts : List St} {Es : List Nat}
/-- The state behind the first j operations that write. -/
def IX (sts : List St) (base : St) (j : Nat) (s : St) : Prop := sts[j]? = some s ∧ StLe s base
def DRunX (P : Program) (n : Nat) (I : Nat → St → Prop) (Es : List Nat) (ops : Array Oper) (i : Nat) (l : List Oper) (T : Tmps) (k : Tmps → St → Prop) : Prop := ∃ Qs, DRunS P n I Es ops i l Qs T k
theorem AWP.drawX {l : List Oper} {id : Nat} (hm : P.follows .mixedOrders = true) (k : Nat) (Es : List Nat) (sts : List St) (base : St) (hok : drawOkS l k Es = true) (h0 : sts[0]? = some st) (hb : StLe st base)
    (h : DRunX P n (IX sts base) Es l.toArray 0 (l.take k) T fun T' st' => AOps P n l.toArray (l.drop k) K E T' st') : AWP P n (.region id l.toArray true) K E T st :=
  h.elim fun Qs h => AWP.drawS hm k Es (IX sts base) Qs hok ⟨h0, hb⟩ h
/-- An operation without a temporary. -/
theorem AOps.singleN {o : Oper} {v : St → Prop} (h : AOps P n ops [o] (fun T' st' => T' = T ∧ v st') (fun _ _ _ => False) T st) (hw : wantedA ops T o = some true)
    {g : G} {w : World} {a : Act} (hs : Sim g w st) (hk : Known g w T a) (K' : Act → World → Prop) (Q' : Exit → Act → World → Prop)
    (hK : ∀ rv g' w' st', Ext g w g' w' → Sim g' w' st' → v st' → K' (a.put o.dst rv) w') (hn : a.tmps.size = n) : o.wp P a w K' Q' := by
  have h1 := h g w a hs hk hn
  unfold wpList at h1
  rw [wanted_of hk hw, if_pos rfl] at h1
  rcases h1 with h1 | ⟨_, h1⟩
  · refine wp_put h1 (fun a' w' hda hq ⟨rv, hrv⟩ => ?_) (fun a' w' hq => hq.2.1) (fun e a' w' hne hq => ?_)
    · obtain ⟨h2, h3, g', T', st', h4, h5, h6, hT, hv⟩ := hq
      subst hrv
      exact hK rv g' w' st' h4 h5 hv
    · obtain ⟨_, _, g', T', st', _, _, _, h6⟩ := hq
      cases e with
      | normal => exact absurd rfl hne
      | exit id => exact h6.elim
      | ret => exact h6.elim
      | panic ch => obtain ⟨_, _, _, _, h7⟩ := h6; exact h7.elim
      | goto l => exact h6.elim
      | outgrown => exact h6.elim
  · exact absurd h1 LetsOut.not_QOf
theorem ev_glob {s s' : St} (h : s.glob = s'.glob) (T : Tmps) (x : Operand) : ev s T x = ev s' T x := by
  cases x <;> simp [ev, St.row, h]
theorem valA_glob {s s' : St} (h : s.glob = s'.glob) (T : Tmps) (o : Op) : valA s T o = valA s' T o := by
  unfold valA
  simp only [ev_glob h]
theorem step1_glob {s s' : St} (h : s.glob = s'.glob) (T : Tmps) (o : Oper) : step1 ops n s T o = step1 ops n s' T o := by
  unfold step1
  rw [valA_glob h]
theorem posS_spec {i j : Nat} (h : (List.range Es.length).filter (fun q => Nat.beq (Es.getD q 0) i) = [j]) : Es[j]? = some i ∧ ∀ q, Es[q]? = some i → q = j := by
  have hm : ∀ q, q ∈ (List.range Es.length).filter (fun q => Nat.beq (Es.getD q 0) i) ↔ q = j := fun q => by rw [h]; simp
  constructor
  · have := (hm j).2 rfl
    rw [List.mem_filter, List.mem_range] at this
    have e := Nat.eq_of_beq_eq_true this.2
    rw [List.getD_eq_getElem?_getD, List.getElem?_eq_getElem this.1] at e
    rw [List.getElem?_eq_getElem this.1]
    exact congrArg some e
  · intro q hq
    refine (hm q).1 ?_
    rw [List.mem_filter, List.mem_range]
    refine ⟨(List.getElem?_eq_some_iff.1 hq).1, ?_⟩
    rw [List.getD_eq_getElem?_getD, hq]
    exact nbeq_self i
/-- A quiet step. -/
theorem dqS {i : Nat} {o : Oper} {r : List Oper} {d : Tmp} {v : AV} {k : Tmps → St → Prop} (hi : Es.contains i = false) (hd : dstA n o.dst = some d) (hw : wantedA ops (see ops o T) o = some true)
    (h : ∀ st', StLe st' base → AOps P n ops [o] (fun T' st'' => ∃ u, T' = (d, u) :: see ops o T ∧ (u = v ∧ st'' = st')) (fun _ _ _ => False) (see ops o T) st')
    (hr : DRunX P n (IX sts base) Es ops (i + 1) r ((d, v) :: T) k) : DRunX P n (IX sts base) Es ops i (o :: r) T k := by
  obtain ⟨Qs, hr⟩ := hr
  obtain ⟨hd', hdn⟩ := dstA_some hd
  refine ⟨(fun u => u = v) :: Qs, ⟨v, rfl⟩, hdn, .inl ⟨hw, fun _ j => ?_, fun j hj => ?_⟩, fun u hu => ?_⟩
  · intro s g w a K' Q' ⟨hI, hle⟩ hs hk hn hK
    refine AOps.single hd' (dstOk_lt hdn d hd') (h s hle) hw hs hk K' Q' (fun rv g' w' u st' he hs' hR ⟨hu, hst⟩ => ?_) hn
    subst hu hst
    exact hK rv g' w' u st' he hs' hR rfl ⟨hI, hle⟩
  · rw [List.contains_iff_mem.2 (List.mem_of_getElem? hj)] at hi
    cases hi
  · subst hu
    rw [hd']
    exact hr
/-- A quiet step that asks nothing. -/
theorem dsS {i : Nat} {o : Oper} {r : List Oper} {d : Tmp} {v : AV} {k : Tmps → St → Prop} (hi : Es.contains i = false) (hs : step1 ops n base (see ops o T) o = some (d, v))
    (hr : DRunX P n (IX sts base) Es ops (i + 1) r ((d, v) :: T) k) : DRunX P n (IX sts base) Es ops i (o :: r) T k := by
  have hg : goes ops n (see ops o T) o = some d := by
    unfold step1 at hs
    split at hs
    · rename_i h1 h2
      cases hs
      exact h1
    · cases hs
  obtain ⟨hw, hd, hok⟩ := goes_some hg
  have hda : dstA n o.dst = some d := by
    unfold goes at hg
    rw [hw] at hg
    exact hg
  exact dqS hi hda hw (fun st' hle => sm ((step1_glob (n := n) (ops := ops) hle.glob (see ops o T) o).symm.trans hs) (nl ⟨v, rfl, rfl, rfl⟩)) hr
/-- A step that writes. -/
theorem deS {i j : Nat} {o : Oper} {r : List Oper} {s1 s2 : St} {k : Tmps → St → Prop} (hj : (List.range Es.length).filter (fun q => Nat.beq (Es.getD q 0) i) = [j]) (h1 : sts[j]? = some s1) (h2 : sts[j + 1]? = some s2) (hle : StLe s2 base)
    (hd : o.dst = none) (hw : wantedA ops (see ops o T) o = some true) (h : AOps P n ops [o] (fun T' st'' => T' = see ops o T ∧ st'' = s2) (fun _ _ _ => False) (see ops o T) s1)
    (hr : DRunX P n (IX sts base) Es ops (i + 1) r T k) : DRunX P n (IX sts base) Es ops i (o :: r) T k := by
  obtain ⟨Qs, hr⟩ := hr
  obtain ⟨p1, p2⟩ := posS_spec hj
  refine ⟨(fun _ => True) :: Qs, ⟨.bool true, trivial⟩, by rw [hd]; rfl, .inl ⟨hw, fun hc => ?_, fun q hq => ?_⟩, fun u _ => ?_⟩
  · rw [List.contains_iff_mem.2 (List.mem_of_getElem? p1)] at hc
    cases hc
  · obtain rfl := p2 q hq
    intro s g w a K' Q' ⟨hI, _⟩ hs hk hn hK
    rw [h1] at hI
    cases hI
    refine AOps.singleN h hw hs hk K' Q' (fun rv g' w' st' he hs' hst => ?_) hn
    rw [hst] at hs'
    exact hK rv g' w' (.lit rv) s2 he hs' (.lit rv) trivial ⟨h2, hle⟩
  · rw [hd]
    exact hr
theorem dnS {i : Nat} {sN : St} {k : Tmps → St → Prop} (hN : sts[Es.length]? = some sN) (h : k T sN) : DRunX P n (IX sts base) Es ops i [] T k := by
  refine ⟨[], ?_⟩
  intro s ⟨hs, _⟩
  rw [hN] at hs
  cases hs
  exact h
end
end Go.AM
/- Functions of the library that a contract of the kit tells. No conditions: lemmas only. -/
namespace Go.AM
open Go.RowKit (Below)
/-- New blocks that nobody knows. -/
theorem Sim.grown {g : G} {w w' : World} {st : St} (hs : Sim g w st) (os : Array Obj) (hh : w'.heap = w.heap ++ os) (h1 : w'.os = w.os) (h2 : w'.tape = w.tape) (h3 : w'.output = w.output) : Ext g w g w' ∧ Sim g w' st := by
  have hb : ∀ k, k < w.heap.size → w'.heap[k]? = w.heap[k]? := fun k hk => by rw [hh, Array.getElem?_append, if_pos hk]
  have hsz : w.heap.size ≤ w'.heap.size := by rw [hh, Array.size_append]; omega
  have he : Ext g w g w' := ⟨rfl, Nat.le_refl _, fun _ _ h => h, fun b i h => by simp only [World.cell?, hb b (hs.immlt b i h)], fun _ _ h => h, fun _ _ h => h, ⟨h1, h2, h3, hsz, fun k hk => hb k (Nat.lt_of_lt_of_le hk hs.base)⟩⟩
  refine ⟨he, Nat.le_trans hs.base hsz, fun o c hc => ?_, hs.inj, fun t ht => ?_, hs.tobj, hs.tinj, fun b i h => Nat.lt_of_lt_of_le (hs.immlt b i h) hsz, fun o b m h => Nat.lt_of_lt_of_le (hs.objlt o b m h) hsz, fun t b r h => Nat.lt_of_lt_of_le (hs.toklt t b r h) hsz, hs.fresh, fun gi row h => (hs.globs gi row h).ext he⟩
  · obtain ⟨b, m, h1, h2, h3, h4⟩ := hs.objs o c hc
    exact ⟨b, m, h1, h2, h3.mono he (hb b (hs.objlt o b m h1)), h4⟩
  · obtain ⟨⟨b', len, cap, e, size⟩, h1, h2⟩ := hs.toks t ht
    refine ⟨_, h1, ?_⟩
    cases b' with
    | none => exact h2
    | some b' =>
      obtain ⟨a1, a2, a3, a4, ⟨cur, a5, a6⟩, a7⟩ := h2
      exact ⟨a1, a2, a3, a4, ⟨cur, (hb b' (hs.toklt t b' _ h1)).trans a5, a6⟩, a7⟩
/-- A contract of the kit whose world only grows, as a contract here. -/
theorem ACalls.grown {P : Program} {f : FuncId} {args : List AV} {st : St} {X : AV}
    (h : ∀ g w (rargs : Array Value), Sim g w st → args.length = rargs.size → (∀ (i : Nat) c v, args[i]? = some c → rargs[i]? = some v → R g w c v) →
      Calls P f rargs w fun e w' => ∃ rv, e = .returned rv ∧ (∀ g w, R g w X rv) ∧ ∃ os, w'.heap = w.heap ++ os ∧ w'.os = w.os ∧ w'.tape = w.tape ∧ w'.output = w.output) :
    ACalls P f args st (fun v st' => v = X ∧ st' = st) (fun _ _ => False) := by
  intro g w rargs hs hl hr
  refine (h g w rargs hs hl hr).mono fun e w' ⟨rv, he, hR, os, a1, a2, a3, a4⟩ => ?_
  obtain ⟨hx, hs'⟩ := hs.grown os a1 a2 a3 a4
  refine ⟨g, st, hx, hs', ?_⟩
  subst he
  exact ⟨X, hR g w', rfl, rfl⟩
/-- A table of numbers, as the kit tells it. -/
theorem globs_cells {g : G} {w : World} {st : St} (hs : Sim g w st) {gi : Nat} {row : List AV} (h : (gi, row) ∈ st.glob) : ∀ (j : Nat) c, row[j]? = some c → ∃ v, w.cell? ⟨gi, j, none⟩ = some v ∧ R g w c v := by
  have hR := (hs.globs gi row h).rel
  generalize hp : Value.pointer (some ⟨gi, 0, none⟩) = pv at hR
  cases hR with
  | eptr _ _ _ _ b off f hsz h1 himm hh =>
    intro j c hj
    have hjl := (List.getElem?_eq_some_iff.1 hj).1
    simp only [Value.pointer.injEq, Option.some.injEq, Addr.mk.injEq] at hp
    obtain ⟨rfl, hoff, _⟩ := hp
    have h2 := (himm 0 j (by simp) hjl).2
    refine ⟨f 0 j, ?_, hh 0 j row c rfl hj⟩
    rw [← h2]
    congr 2
    omega
/-- A table of numbers of the library's. -/
theorem tabIs {P : Program} {g : G} {w : World} {st : St} (hs : Sim g w st) {name : String} {gi : Nat} {k : IntKind} {zs : List Int} (hg : P.globalNamed name = some gi) (h : (gi, zs.map fun z => AV.int k z) ∈ st.glob) : Lib.TabIs P w name k zs := by
  obtain ⟨cs, ty, fr, h1, h2⟩ := (hs.globs gi _ h).arr
  have hc := globs_cells hs h
  unfold Lib.TabIs World.var?
  rw [hg]
  simp only [Option.bind_some, h1, Option.some.injEq]
  apply Array.ext_getElem?
  intro j
  rcases Nat.lt_or_ge j zs.length with hj | hj
  · obtain ⟨v, hv, hR⟩ := hc j (.int k zs[j]) (by simp [hj])
    cases hR
    have hv' : cs[j]? = some (.int k zs[j]) := by
      have : w.cell? ⟨gi, j, none⟩ = cs[j]? := by simp [World.cell?, h1]
      rw [← this]; exact hv
    rw [hv']
    simp [hj]
  · rw [Array.getElem?_eq_none (by rw [h2]; simpa using hj)]
    simp [hj]
end Go.AM
/- A nil slice in a variable gets a token. No conditions: lemmas only. -/
namespace Go.AM
open Go.RowKit (Below)
variable {P : Program} {n : Nat} {K : Post} {E : EPost} {T : Tmps} {st : St}
theorem Sim.nilTokIn {g : G} {w : World} (hs : Sim g w st) {o s i j : Nat} {oty : TypeId} {rows : List (List AV)} {row : List AV} (ho : st.obj o = some (.cells oty s rows)) (hr : rows[i]? = some row) (hj : row[j]? = some (.view 0 [] .nil)) (e : TypeId) (sz : Nat) :
    ∃ g' tk, Ext g w g' w ∧ st.tok tk = false ∧ Sim g' w ((st.addTok tk).set o (.cells oty s (rows.set i (row.set j (.view sz [] (.own tk e)))))) := by
  obtain ⟨g', he, hs', htk, hf⟩ := hs.nilTok e
  obtain ⟨b, m, hb, _, _, _⟩ := hs'.objs o _ ho
  obtain ⟨_, ⟨arr, ha, hasz, hml, hl, h1, hc⟩, _⟩ := hs'.objOf ho hb
  have hil : i < rows.length := (List.getElem?_eq_some_iff.1 hr).1
  have hjl : j < row.length := (List.getElem?_eq_some_iff.1 hj).1
  obtain ⟨_, hs2⟩ := hs'.write (c' := .cells oty s (rows.set i (row.set j (.view sz [] (.own g.next e))))) ho hb w rfl rfl rfl rfl (fun _ _ => rfl) (fun _ => by
    refine ⟨arr, ha, hasz, by simpa using hml, fun r hm => ?_, fun r hm => ?_, fun i' j' r c hr' hc' => ?_⟩
    · rcases List.mem_or_eq_of_mem_set hm with h | h
      · exact hl r h
      · rw [h, List.length_set]; exact hl row (List.mem_of_getElem? hr)
    · rcases List.mem_or_eq_of_mem_set hm with h | h
      · exact h1 r h
      · subst h
        intro c hcm
        rcases List.mem_or_eq_of_mem_set hcm with h2 | h2
        · exact h1 row (List.mem_of_getElem? hr) c h2
        · subst h2; rfl
    · by_cases hi : i' = i
      · subst hi
        rw [List.getElem?_set_self hil] at hr'
        cases hr'
        by_cases hjj : j' = j
        · subst hjj
          rw [List.getElem?_set_self hjl] at hc'
          cases hc'
          obtain ⟨v, hv, hR⟩ := hc i' j' row _ hr hj
          refine ⟨v, hv, ?_⟩
          have hv0 : v = .slice none 0 0 := by
            cases hR with
            | vnil => rfl
            | view _ _ _ _ _ _ _ _ _ _ _ ht' => simp [TokAt] at ht'
          subst hv0
          exact .vnil _ _ (TokAt.mkOwn rfl htk (fun h => absurd rfl h))
        · rw [List.getElem?_set_ne (Ne.symm hjj)] at hc'
          exact hc i' j' row c hr hc'
      · rw [List.getElem?_set_ne (Ne.symm hi)] at hr'
        exact hc i' j' r c hr' hc')
  exact ⟨g', g.next, he, hf, hs2⟩
theorem AWP.nilIn {c : Code} {o s i j : Nat} {oty : TypeId} {rows : List (List AV)} {row : List AV} (e : TypeId) (sz : Nat) (ho : st.obj o = some (.cells oty s rows)) (hr : rows[i]? = some row) (hj : row[j]? = some (.view 0 [] .nil))
    (h : ∀ tk, st.tok tk = false → AWP P n c K E T ((st.addTok tk).set o (.cells oty s (rows.set i (row.set j (.view sz [] (.own tk e))))))) : AWP P n c K E T st :=
  AWP.ghost fun g w a hs hk => by
    obtain ⟨g', tk, he, hf, hs'⟩ := hs.nilTokIn ho hr hj e sz
    exact ⟨g', T, _, he, hs', hk.ext he, h tk hf⟩
end Go.AM
/- Arguments that are structs and arrays of plain cells, opened. No conditions: definitions and lemmas only. -/
namespace Go.AM
def FitW1 : Sh → AV → Prop
  | .kI k, c => ∃ x, c = .int k x ∧ (Lit.int k x).wf = true
  | .kB, c => ∃ b, c = .bool b
  | .kS, c => ∃ l : List UInt8, c = .str l ∧ l.length ≤ maxLen
def FitsW : List Sh → List AV → Prop
  | [], [] => True
  | s :: ss, c :: cs => FitW1 s c ∧ FitsW ss cs
  | _, _ => False
theorem FitsW.append : ∀ {s1 s2 : List Sh} {c1 c2 : List AV}, FitsW s1 c1 → FitsW s2 c2 → FitsW (s1 ++ s2) (c1 ++ c2)
  | [], _, [], _, _, h2 => h2
  | _ :: _, _, _ :: _, _, h1, h2 => ⟨h1.1, h1.2.append h2⟩
  | [], _, _ :: _, _, h1, _ => h1.elim
  | _ :: _, _, [], _, h1, _ => h1.elim
theorem flatFields_fits {P : Program} {fuel : Nat} {F : TypeId → Option (List Sh)} (hF : ∀ t sh cs, F t = some sh → P.cellsOf t = sh.length → HasTy P fuel t cs → cs.length = sh.length → FitsW sh cs) {cs : List AV} :
    ∀ (fs : List Field) (off : Nat) (sh : List Sh), flatFields P F off fs = some sh → (∀ f ∈ fs, HasTy P fuel f.type ((cs.drop f.offset).take (P.cellsOf f.type))) → cs.length = off + sh.length → FitsW sh (cs.drop off)
  | [], off, sh, h, _, hl => by
    simp only [flatFields, Option.some.injEq] at h
    subst h
    rw [List.drop_eq_nil_of_le (by simp at hl; omega)]
    trivial
  | f :: fs, off, sh, h, hf, hl => by
    unfold flatFields at h
    cases h1 : F f.type with
    | none => simp [h1] at h
    | some s1 =>
      cases h2 : (P.info? f.type).map (·.size) with
      | none => simp [h1, h2] at h
      | some sz =>
        simp only [h1, h2] at h
        cases hc : Nat.beq f.offset off && Nat.beq sz s1.length && f.name != "_" with
        | false => rw [hc] at h; cases h
        | true =>
          rw [hc, cond_true] at h
          simp only [Bool.and_eq_true] at hc
          have e1 := Nat.eq_of_beq_eq_true hc.1.1
          have e2 := Nat.eq_of_beq_eq_true hc.1.2
          have hcell : P.cellsOf f.type = s1.length := by simp [Program.cellsOf, h2, e2]
          cases h3 : flatFields P F (off + s1.length) fs with
          | none => rw [h3] at h; cases h
          | some s2 =>
            rw [h3] at h
            simp only [Option.map_some, Option.some.injEq] at h
            subst h
            have a1 := hf f (List.mem_cons_self ..)
            rw [e1, hcell] at a1
            simp only [List.length_append] at hl
            have a2 := hF _ _ _ h1 hcell a1 (by simp; omega)
            have a3 := flatFields_fits hF fs (off + s1.length) s2 h3 (fun f hm => hf f (List.mem_cons_of_mem _ hm)) (by omega)
            have := a2.append a3
            rwa [← List.drop_drop, List.take_append_drop] at this
theorem hasTy_flat {P : Program} : ∀ (d fuel : Nat) (t : TypeId) (sh : List Sh) (cs : List AV), flatTy P d t = some sh → P.cellsOf t = sh.length → HasTy P fuel t cs → cs.length = sh.length → FitsW sh cs
  | 0, _, _, _, _, h, _, _, _ => by cases h
  | d + 1, 0, _, _, _, _, _, h, _ => h.elim
  | d + 1, fuel + 1, t, sh, cs, h, hc, hty, hl => by
    unfold flatTy at h
    unfold HasTy at hty
    cases hu : P.underlying t with
    | none => simp [hu] at h
    | some td =>
      cases td with
      | int k => simp only [hu, Option.some.injEq] at h hty; obtain ⟨x, rfl, hx⟩ := hty; subst h; exact ⟨⟨x, rfl, hx⟩, trivial⟩
      | bool => simp only [hu, Option.some.injEq] at h hty; obtain ⟨b, rfl⟩ := hty; subst h; exact ⟨⟨b, rfl⟩, trivial⟩
      | string => simp only [hu, Option.some.injEq] at h hty; obtain ⟨l, rfl, hx⟩ := hty; subst h; exact ⟨⟨l, rfl, hx⟩, trivial⟩
      | struct fs =>
        simp only [hu] at h hty
        cases hs : P.stoodInHeld t with
        | true => rw [hs] at h; cases h
        | false =>
          rw [hs, cond_false] at h
          have := flatFields_fits (P := P) (fuel := fuel) (fun t sh cs h1 h2 h3 h4 => hasTy_flat d fuel t sh cs h1 h2 h3 h4) fs.toList 0 sh h hty.2 (by omega)
          simpa using this
      | array m e =>
        simp only [hu] at h hty
        cases h1 : flatTy P d e with
        | none => simp [h1] at h
        | some s1 =>
          cases h2 : (P.info? e).map (·.size) with
          | none => simp [h1, h2] at h
          | some sz =>
            simp only [h1, h2] at h
            cases hb : Nat.beq sz s1.length with
            | false => rw [hb] at h; cases h
            | true =>
              rw [hb, cond_true, Option.some.injEq] at h
              subst h
              have e2 := Nat.eq_of_beq_eq_true hb
              have hcell : P.cellsOf e = s1.length := by simp [Program.cellsOf, h2, e2]
              rw [hcell] at hty
              have key : ∀ (j : Nat) (cs : List AV), cs.length = j * s1.length → (∀ i, i < j → HasTy P fuel e ((cs.drop (i * s1.length)).take s1.length)) → FitsW (List.replicate j s1).flatten cs := by
                intro j
                induction j with
                | zero => intro cs hl _; simp at hl; subst hl; trivial
                | succ j ih =>
                  intro cs hl hi
                  rw [List.replicate_succ, List.flatten_cons]
                  rw [Nat.add_mul, Nat.one_mul] at hl
                  have a1 := hasTy_flat d fuel e s1 _ h1 hcell (by simpa using hi 0 (by omega)) (by simp; omega)
                  have a2 := ih (cs.drop s1.length) (by simp; omega) (fun i hij => by
                    have := hi (i + 1) (by omega)
                    rw [List.drop_drop]
                    rwa [show s1.length + i * s1.length = (i + 1) * s1.length by rw [Nat.add_mul, Nat.one_mul, Nat.add_comm]])
                  have := a1.append a2
                  rwa [List.take_append_drop] at this
              refine key m cs ?_ hty.2
              rw [hl, List.length_flatten]
              simp
      | _ => simp [hu] at h
section
variable {P : Program} {n : Nat} {K : Post} {E : EPost} {T : Tmps} {st : St} {ops : Array Oper} {rest : List Oper}
variable {ty ty2 : TypeId} {pos pos2 : String} {es es2 : Array Edge} {gd : Option (Nat × Bool)} {d : Tmp} {y : Operand} {dd : Option Tmp}
/-- A new variable gets its only value. -/
theorem alN {t : TypeId} {sz by_ : Nat} {z : Value} [hi : Inf P t sz by_ z] {v : AV} (hg : goes ops n T ⟨dd, .alloc t, ty, pos, es, gd⟩ = some d) (hz : zok sz z = true) (hy : ∀ o, ev (st.set o (.cells t sz [zrow z])) ((d, .cptr o sz 0 0) :: T) y = some v)
    (hv : storable v = true) (hsz : Nat.beq v.cells.length sz = true)
    (k : AOps P n ops rest K E ((d, .eptr sz [v.cells] 0 0) :: T) st) :
    AOps P n ops (⟨dd, .alloc t, ty, pos, es, gd⟩ :: ⟨none, .store t (.tmp d) y, ty2, pos2, es2, none⟩ :: rest) K E T st := by
  refine al hg hz fun o ho => ?_
  have hzl := (zok_spec hz).2.2.1
  refine soN d rfl ?_ (hy o) hv hsz ?_ ho ?_
  · simp [Tmps.get_cons]
  · rw [Nat.eq_of_beq_eq_true hsz, hzl]; exact nbeq_self sz
  · refine AOps.weaken ?_ (.refl _) k
    intro i v' h
    rw [Tmps.get_cons] at h
    by_cases e : d = i
    · subst e
      rw [if_pos rfl] at h
      cases h
      exact ⟨_, by rw [Tmps.get_cons, if_pos rfl], .refl _⟩
    · rw [if_neg e] at h
      exact ⟨v', by rw [Tmps.get_cons, if_neg e, Tmps.get_cons, if_neg e]; exact h, .refl _⟩
end
/-- Cells that are all numbers. -/
theorem fits_ints : ∀ (n : Nat) {cs : List AV}, FitsW (List.replicate n (.kI .i64)) cs → ∃ l : List Int, cs = l.map (AV.int .i64) ∧ l.length = n ∧ ∀ x ∈ l, (Lit.int .i64 x).wf = true
  | 0, [], _ => ⟨[], rfl, rfl, fun x h => by cases h⟩
  | 0, _ :: _, h => h.elim
  | n + 1, [], h => h.elim
  | n + 1, c :: cs, h => by
    obtain ⟨⟨x, rfl, hx⟩, h2⟩ := h
    obtain ⟨l, rfl, hl, hw⟩ := fits_ints n h2
    exact ⟨x :: l, rfl, by simp [hl], fun y hy => by rcases List.mem_cons.1 hy with h | h; exact h ▸ hx; exact hw y h⟩
/-- A struct or array argument of plain cells. -/
theorem arg_flat {P : Program} {t : TypeId} {a : AV} {td : TypeDesc} {d : Nat} {sh : List Sh} (hu : P.underlying t = some td) (ha : aggD td = true) (hc : P.cellsOf t = sh.length) (hf : flatTy P d t = some sh) (h : ArgTy P t a) : ∃ cs, a = .agg cs ∧ FitsW sh cs := by
  obtain ⟨fuel, cs, hty, h⟩ := h
  have hlen : cs.length = P.cellsOf t := by
    cases fuel with
    | zero => exact hty.elim
    | succ fuel =>
      unfold HasTy at hty
      rw [hu] at hty
      cases td <;> simp only [aggD] at ha <;> first | exact hty.1 | cases ha
  rcases h with ⟨td', h1, _, rfl⟩ | ⟨td', h1, h2, _⟩
  · exact ⟨cs, rfl, hasTy_flat d fuel t sh cs hf hc hty (by rw [hlen, hc])⟩
  · rw [hu] at h1
    cases h1
    rw [ha] at h2
    cases h2
end Go.AM
/- The same rules, their premises paid by themselves. No conditions: lemmas only. -/
namespace Go.AM
section
variable {P : Program} {n : Nat} {K : Post} {E : EPost} {T : Tmps} {st : St} {ops : Array Oper} {rest : List Oper}
variable {ty ty2 : TypeId} {pos pos2 : String} {es es2 : Array Edge} {gd : Option (Nat × Bool)} {d : Tmp} {x y : Operand} {dd : Option Tmp}
theorem ZA {o : Oper} {d : Tmp} {v : AV} (h : step1 ops n st T o = some (d, v) := by exact rfl) (z : AOps P n ops rest K E ((d, v) :: T) st) : AOps P n ops (o :: rest) K E T st := sm h z
theorem ZB {o : Oper} {d : Tmp} (h : step0 ops n T o = some d := by exact rfl) (z : AOps P n ops rest K E ((d, .lit undef) :: T) st) : AOps P n ops (o :: rest) K E T st := uw h z
theorem ZC {t ft : TypeId} {f off : Nat} [hf : Fld P t f off ft] {sz by_ : Nat} {zz : Value} [hi : Inf P ft (sz + 1) by_ zz] {q : AV} (hg : goes ops n T ⟨dd, .fieldAddr t x f, ty, pos, es, gd⟩ = some d := by exact rfl)
    (hx : ptrA off (ev st T x) = some q := by exact rfl)
    (z : AOps P n ops rest K E ((d, q) :: T) st) : AOps P n ops (⟨dd, .fieldAddr t x f, ty, pos, es, gd⟩ :: rest) K E T st := fa hg hx z
theorem ZD {t : TypeId} {td : TypeDesc} [hu : Und P t td] {sz by_ : Nat} {zz : Value} [hi : Inf P t sz by_ zz] {s : Nat} {rows : List (List AV)} {i : Nat} {row : List AV}
    (hg : goes ops n T ⟨dd, .load t x, ty, pos, es, gd⟩ = some d := by exact rfl) (ha : aggD td = true := by exact rfl) (hx : ev st T x = some (.eptr s rows i 0) := by exact rfl) (hr : rows[i]? = some row := by first | exact rfl | assumption) (hl : Nat.beq sz row.length = true := by exact rfl)
    (z : AOps P n ops rest K E ((d, .agg row) :: T) st) : AOps P n ops (⟨dd, .load t x, ty, pos, es, gd⟩ :: rest) K E T st := leW hg ha hx hr hl z
theorem ZE {t : TypeId} {td : TypeDesc} [hu : Und P t td] {sz by_ : Nat} {zz : Value} [hi : Inf P t sz by_ zz] {o s : Nat} {rows : List (List AV)} {i : Nat} {row : List AV} {oty : TypeId}
    (hg : goes ops n T ⟨dd, .load t x, ty, pos, es, gd⟩ = some d := by exact rfl) (ha : aggD td = true := by exact rfl) (hx : ev st T x = some (.cptr o s i 0) := by exact rfl) (ho : st.obj o = some (.cells oty s rows) := by first | exact St.obj_set _ _ _ | (rename_i hle; exact hle.obj _ _ (St.obj_set _ _ _)) | (rename_i hle; exact hle.obj _ _ (by assumption))) (hr : rows[i]? = some row := by exact rfl) (hl : Nat.beq sz row.length = true := by exact rfl)
    (z : AOps P n ops rest K E ((d, .agg row) :: T) st) : AOps P n ops (⟨dd, .load t x, ty, pos, es, gd⟩ :: rest) K E T st := lcW hg ha hx ho hr hl z
theorem ZF {t : TypeId} {td : TypeDesc} [hu : Und P t td] {sz by_ : Nat} {zz : Value} [hi : Inf P t sz by_ zz] {s : Nat} {rows : List (List AV)} {i off : Nat} {row : List AV} {v : AV}
    (hg : goes ops n T ⟨dd, .load t x, ty, pos, es, gd⟩ = some d := by exact rfl) (hx : ev st T x = some (.eptr s rows i off) := by exact rfl) (hr : rows[i]? = some row := by first | exact rfl | assumption) (hv : sel (aggD td) sz row off = some v := by exact rfl)
    (z : AOps P n ops rest K E ((d, v) :: T) st) : AOps P n ops (⟨dd, .load t x, ty, pos, es, gd⟩ :: rest) K E T st := le hg hx hr hv z
theorem ZG {t : TypeId} {td : TypeDesc} [hu : Und P t td] {sz by_ : Nat} {zz : Value} [hi : Inf P t sz by_ zz] {s : Nat} {rows : List (List AV)} {i off : Nat} {row : List AV} {v : AV}
    (hg : goes ops n T ⟨dd, .load t x, ty, pos, es, gd⟩ = some d := by exact rfl) (ha : aggD td = false := by exact rfl) (hx : ev st T x = some (.eptr s rows i off) := by exact rfl) (hr : rows[i]? = some row := by exact rfl) (hv : row[off]? = some v := by assumption)
    (z : AOps P n ops rest K E ((d, v) :: T) st) : AOps P n ops (⟨dd, .load t x, ty, pos, es, gd⟩ :: rest) K E T st := leS hg ha hx hr hv z
theorem ZH {t : TypeId} {td : TypeDesc} [hu : Und P t td] {sz by_ : Nat} {zz : Value} [hi : Inf P t sz by_ zz] {o s : Nat} {rows : List (List AV)} {i off : Nat} {row : List AV} {v : AV} {oty : TypeId}
    (hg : goes ops n T ⟨dd, .load t x, ty, pos, es, gd⟩ = some d := by exact rfl) (hx : ev st T x = some (.cptr o s i off) := by exact rfl) (ho : st.obj o = some (.cells oty s rows) := by first | exact St.obj_set _ _ _ | assumption | (rename_i hle; exact hle.obj _ _ (St.obj_set _ _ _)) | (rename_i hle; exact hle.obj _ _ (by assumption))) (hr : rows[i]? = some row := by first | exact rfl | assumption) (hv : sel (aggD td) sz row off = some v := by exact rfl)
    (z : AOps P n ops rest K E ((d, v) :: T) st) : AOps P n ops (⟨dd, .load t x, ty, pos, es, gd⟩ :: rest) K E T st := lc hg hx ho hr hv z
theorem ZI {t : TypeId} {td : TypeDesc} [hu : Und P t td] {sz by_ : Nat} {zz : Value} [hi : Inf P t sz by_ zz] {o s : Nat} {rows : List (List AV)} {i off : Nat} {row : List AV} {v : AV} {oty : TypeId}
    (hg : goes ops n T ⟨dd, .load t x, ty, pos, es, gd⟩ = some d := by exact rfl) (ha : aggD td = false := by exact rfl) (hx : ev st T x = some (.cptr o s i off) := by exact rfl) (ho : st.obj o = some (.cells oty s rows) := by first | exact St.obj_set _ _ _ | (rename_i hle; exact hle.obj _ _ (St.obj_set _ _ _)) | (rename_i hle; exact hle.obj _ _ (by assumption))) (hr : rows[i]? = some row := by exact rfl) (hv : row[off]? = some v := by assumption)
    (z : AOps P n ops rest K E ((d, v) :: T) st) : AOps P n ops (⟨dd, .load t x, ty, pos, es, gd⟩ :: rest) K E T st := lcS hg ha hx ho hr hv z
theorem ZJ {t u : TypeId} {e : TypeId} [hu : Und P t (.slice e)] {sz : Nat} {rows : List (List AV)} {tk : Tok}
    (hg : goes ops n T ⟨dd, .call ⟨.builtin .len, #[x], #[t]⟩, u, pos, es, gd⟩ = some d := by exact rfl) (hx : ev st T x = some (.view sz rows tk) := by exact rfl)
    (z : AOps P n ops rest K E ((d, .int .i64 rows.length) :: T) st) : AOps P n ops (⟨dd, .call ⟨.builtin .len, #[x], #[t]⟩, u, pos, es, gd⟩ :: rest) K E T st := lnv hg hx z
theorem ZK {t u : TypeId} {e : TypeId} [hu : Und P t (.slice e)] {o sz lo len : Nat}
    (hg : goes ops n T ⟨dd, .call ⟨.builtin .len, #[x], #[t]⟩, u, pos, es, gd⟩ = some d := by exact rfl) (hx : ev st T x = some (.msl o sz lo len) := by exact rfl)
    (z : AOps P n ops rest K E ((d, .int .i64 len) :: T) st) : AOps P n ops (⟨dd, .call ⟨.builtin .len, #[x], #[t]⟩, u, pos, es, gd⟩ :: rest) K E T st := lnm hg hx z
theorem ZM {t e : TypeId} [hu : Und P t (.slice e)] {sz by_ : Nat} {zz : Value} [hi : Inf P e sz by_ zz] {rows : List (List AV)} {tk : Tok} {k : IntKind} {i : Int} {m : Nat}
    (hg : goes ops n T ⟨dd, .indexAddr t x y, ty, pos, es, gd⟩ = some d := by exact rfl) (hx : ev st T x = some (.view sz rows tk) := by exact rfl) (hy : ev st T y = some (.int k i) := by exact rfl)
    (hm : i = m := by first | exact rfl | exact (rfl : (0 : Int) = ((0 : Nat) : Int)) | exact (rfl : (1 : Int) = ((1 : Nat) : Int)) | exact (rfl : (2 : Int) = ((2 : Nat) : Int)) | exact (rfl : (3 : Int) = ((3 : Nat) : Int)) | exact (rfl : (4 : Int) = ((4 : Nat) : Int)) | exact (rfl : (5 : Int) = ((5 : Nat) : Int)) | exact (rfl : (6 : Int) = ((6 : Nat) : Int)))
    (hlt : m < rows.length := by first | assumption | exact of_decide_eq_true rfl)
    (z : AOps P n ops rest K E ((d, .eptr sz rows m 0) :: T) st) : AOps P n ops (⟨dd, .indexAddr t x y, ty, pos, es, gd⟩ :: rest) K E T st := ix hg hx hy hm hlt z
theorem ZO {t u : TypeId} {a : Nat} (hg : goes ops n T ⟨dd, .binOp .add t x y u, ty, pos, es, gd⟩ = some d := by exact rfl)
    (hx : ev st T x = some (.int .i64 (a : Int)) := by exact rfl) (hy : ev st T y = some (.int .i64 1) := by exact rfl) (hc : a < 9223372036854775807 := by omega)
    (z : AOps P n ops rest K E ((d, .int .i64 ((a + 1 : Nat) : Int)) :: T) st) : AOps P n ops (⟨dd, .binOp .add t x y u, ty, pos, es, gd⟩ :: rest) K E T st := inc hg hx hy hc z
theorem ZQ {t e : TypeId} {esz eby : Nat} {ez : Value} {v : AV} [hu : Und P t (.slice e)] [hie : Inf P e (esz + 1) eby ez] (hg : goes ops n T ⟨dd, .buildSlice t 1 #[(0, x)], ty, pos, es, gd⟩ = some d := by exact rfl)
    (hz : zok (esz + 1) ez = true := by exact rfl) (hsm : Nat.ble (1 * (esz + 1)) 16777216 = true := by exact rfl) (hx : ev st T x = some v := by exact rfl) (hl : Nat.beq v.cells.length (esz + 1) = true := by exact rfl) (hv : storable v = true := by exact rfl)
    (z : AOps P n ops rest K E ((d, .view (esz + 1) [v.cells] .shared) :: T) st) : AOps P n ops (⟨dd, .buildSlice t 1 #[(0, x)], ty, pos, es, gd⟩ :: rest) K E T st := bs1 hg hz hsm hx hl hv z
theorem ZR {t : TypeId} {v : AV} {sz : Nat} (hg : goes ops n T ⟨dd, .box t x, ty, pos, es, gd⟩ = some d := by exact rfl) (hx : ev st T x = some v := by exact rfl) (hv : storable v = true := by exact rfl) (hsz : v.cells.length = sz := by exact rfl)
    (z : AOps P n ops rest K E ((d, .eptr sz [v.cells] 0 0) :: T) st) : AOps P n ops (⟨dd, .box t x, ty, pos, es, gd⟩ :: rest) K E T st := bxe hg hx hv hsz z
theorem ZT {t u : TypeId} [hu : Und P t .bool] {p q : Bool}
    (hg : goes ops n T ⟨dd, .binOp .eql t x y u, ty, pos, es, gd⟩ = some d := by exact rfl) (hx : ev st T x = some (.bool p) := by exact rfl) (hy : ev st T y = some (.bool q) := by exact rfl)
    (z : AOps P n ops rest K E ((d, .bool (p == q)) :: T) st) : AOps P n ops (⟨dd, .binOp .eql t x y u, ty, pos, es, gd⟩ :: rest) K E T st := eqb hg hx hy z
theorem ZU {t u : TypeId} [hu : Und P t .bool] {p q : Bool}
    (hg : goes ops n T ⟨dd, .binOp .neq t x y u, ty, pos, es, gd⟩ = some d := by exact rfl) (hx : ev st T x = some (.bool p) := by exact rfl) (hy : ev st T y = some (.bool q) := by exact rfl)
    (z : AOps P n ops rest K E ((d, .bool (!(p == q))) :: T) st) : AOps P n ops (⟨dd, .binOp .neq t x y u, ty, pos, es, gd⟩ :: rest) K E T st := neb hg hx hy z
theorem YA {t : TypeId} {sz by_ : Nat} {zz : Value} [hi : Inf P t sz by_ zz] {v : AV} (hg : goes ops n T ⟨dd, .alloc t, ty, pos, es, gd⟩ = some d := by exact rfl) (hz : zok sz zz = true := by exact rfl) (hy : ∀ o, ev (st.set o (.cells t sz [zrow zz])) ((d, .cptr o sz 0 0) :: T) y = some v := by exact fun _ => rfl)
    (hv : storable v = true := by exact rfl) (hsz : Nat.beq v.cells.length sz = true := by exact rfl)
    (z : AOps P n ops rest K E ((d, .eptr sz [v.cells] 0 0) :: T) st) :
    AOps P n ops (⟨dd, .alloc t, ty, pos, es, gd⟩ :: ⟨none, .store t (.tmp d) y, ty2, pos2, es2, none⟩ :: rest) K E T st := alN hg hz hy hv hsz z
theorem YC {f : FuncId} [hf : GoFun P f] {args : Array Operand} {tys : Array TypeId} {avs : List AV} {X : AV}
    (hg : goes ops n T ⟨dd, .call ⟨.value (.func f), args, tys⟩, ty, pos, es, gd⟩ = some d := by exact rfl) (ha : evs st T args.toList = some avs := by exact rfl)
    (hc : PureFn P f avs X := by exact inferInstance) (z : AOps P n ops rest K E ((d, X) :: T) st) :
    AOps P n ops (⟨dd, .call ⟨.value (.func f), args, tys⟩, ty, pos, es, gd⟩ :: rest) K E T st := clp hg ha hc z
theorem YD {o : Oper} {t : Nat} {b : Bool} (h : gtmp ops T o = some (t, b) := by exact rfl) (hb : b = true := by (fail_if_success rfl); first | assumption | exact decide_eq_true (by assumption) | exact decide_eq_true rfl | exact decide_eq_true (by omega)) (z : AOps P n ops (o :: rest) K E ((t, .bool true) :: T) st) : AOps P n ops (o :: rest) K E T st := gB true h hb z
theorem YE {o : Oper} {t : Nat} {b : Bool} (h : gtmp ops T o = some (t, b) := by exact rfl) (hb : b = false := by (fail_if_success rfl); first | assumption | exact decide_eq_false (by assumption) | exact decide_eq_false (by omega)) (z : AOps P n ops (o :: rest) K E ((t, .bool false) :: T) st) : AOps P n ops (o :: rest) K E T st := gB false h hb z
theorem YH {c : Operand} {x y : Code} {b : Bool} (hc : ev st T c = some (.bool b) := by exact rfl) (hb : b = true := by first | exact rfl | assumption | exact decide_eq_true (by assumption) | exact decide_eq_true rfl | exact decide_eq_true (by omega)) (z : AWP P n x K E T st) : AWP P n (.cond c x y) K E T st := cT hc hb z
theorem YI {c : Operand} {x y : Code} {b : Bool} (hc : ev st T c = some (.bool b) := by exact rfl) (hb : b = false := by first | exact rfl | assumption | exact decide_eq_false (by assumption) | exact decide_eq_false (by omega)) (z : AWP P n y K E T st) : AWP P n (.cond c x y) K E T st := cF hc hb z
theorem YJ {t u : TypeId} {a b : Int} (hg : goes ops n T ⟨dd, .binOp .add t x y u, ty, pos, es, gd⟩ = some d := by exact rfl)
    (hx : ev st T x = some (.int .i64 a) := by exact rfl) (hy : ev st T y = some (.int .i64 b) := by exact rfl) (hc : -9223372036854775808 ≤ a + b ∧ a + b < 9223372036854775808 := by omega)
    (z : AOps P n ops rest K E ((d, .int .i64 (a + b)) :: T) st) : AOps P n ops (⟨dd, .binOp .add t x y u, ty, pos, es, gd⟩ :: rest) K E T st := Go.AM.ad hg hx hy hc z
theorem YK {t u : TypeId} {a b : Int} (hg : goes ops n T ⟨dd, .binOp .sub t x y u, ty, pos, es, gd⟩ = some d := by exact rfl)
    (hx : ev st T x = some (.int .i64 a) := by exact rfl) (hy : ev st T y = some (.int .i64 b) := by exact rfl) (hc : -9223372036854775808 ≤ a - b ∧ a - b < 9223372036854775808 := by omega)
    (z : AOps P n ops rest K E ((d, .int .i64 (a - b)) :: T) st) : AOps P n ops (⟨dd, .binOp .sub t x y u, ty, pos, es, gd⟩ :: rest) K E T st := Go.AM.sb hg hx hy hc z
theorem YL {t u : TypeId} {k : IntKind} {a b c : Int} (hg : goes ops n T ⟨dd, .binOp .add t x y u, ty, pos, es, gd⟩ = some d := by exact rfl)
    (hx : ev st T x = some (.int k a) := by exact rfl) (hy : ev st T y = some (.int k b) := by exact rfl) (hc : k.wrap (a + b) = c := by exact rfl)
    (z : AOps P n ops rest K E ((d, .int k c) :: T) st) : AOps P n ops (⟨dd, .binOp .add t x y u, ty, pos, es, gd⟩ :: rest) K E T st := adk hg hx hy hc z
theorem YM {t u : TypeId} {k : IntKind} {a b c : Int} (hg : goes ops n T ⟨dd, .binOp .sub t x y u, ty, pos, es, gd⟩ = some d := by exact rfl)
    (hx : ev st T x = some (.int k a) := by exact rfl) (hy : ev st T y = some (.int k b) := by exact rfl) (hc : k.wrap (a - b) = c := by exact rfl)
    (z : AOps P n ops rest K E ((d, .int k c) :: T) st) : AOps P n ops (⟨dd, .binOp .sub t x y u, ty, pos, es, gd⟩ :: rest) K E T st := sbk hg hx hy hc z
theorem nz {v : AV} : AOps P n ops [] (fun T' st'' => ∃ u, T' = (d, u) :: T ∧ (u = v ∧ st'' = st)) E ((d, v) :: T) st := nl ⟨_, rfl, rfl, rfl⟩
theorem dp {e : Nat} {Φ : AV → St → Prop} {i : Nat} {o : Oper} {r : List Oper} {d : Tmp} {v : AV} {k : Tmps → Prop} (hi : Nat.beq i e = false := by exact rfl) (hd : dstA n o.dst = some d := by exact rfl) (hw : wantedA ops (see ops o T) o = some true := by exact rfl)
    (h : ∀ st', StLe st' st.notok → AOps P n ops [o] (fun T' st'' => ∃ u, T' = (d, u) :: see ops o T ∧ (u = v ∧ st'' = st')) (fun _ _ _ => False) (see ops o T) st')
    (z : DRun P n st ops e Φ (i + 1) r ((d, v) :: T) k) : DRun P n st ops e Φ i (o :: r) T k := dq hi hd hw h z
theorem dpS {base : St} {sts : List St} {Es : List Nat} {i : Nat} {o : Oper} {r : List Oper} {d : Tmp} {v : AV} {k : Tmps → St → Prop} (hi : Es.contains i = false := by exact rfl) (hd : dstA n o.dst = some d := by exact rfl) (hw : wantedA ops (see ops o T) o = some true := by exact rfl)
    (h : ∀ st', StLe st' base → AOps P n ops [o] (fun T' st'' => ∃ u, T' = (d, u) :: see ops o T ∧ (u = v ∧ st'' = st')) (fun _ _ _ => False) (see ops o T) st')
    (z : DRunX P n (IX sts base) Es ops (i + 1) r ((d, v) :: T) k) : DRunX P n (IX sts base) Es ops i (o :: r) T k := dqS hi hd hw h z
end
end Go.AM
/- The types and functions of the translated program, as instances; by program (gen_types.py). No conditions. -/
namespace Go.Proofs
open Go.AM

instance Tryd.tinf2 : Inf Tryd.prog 2 1 8 (.int .i64 0) := ⟨by kernel_rfl⟩
instance Tryd.tinf3 : Inf Tryd.prog 3 1 8 (.int .i64 0) := ⟨by kernel_rfl⟩
instance Tryd.tinf4 : Inf Tryd.prog 4 1 1 (.bool false) := ⟨by kernel_rfl⟩
instance Tryd.tinf5 : Inf Tryd.prog 5 1 1 (.int .u8 0) := ⟨by kernel_rfl⟩
instance Tryd.tinf6 : Inf Tryd.prog 6 1 1 (.int .u8 0) := ⟨by kernel_rfl⟩
instance Tryd.tinf7 : Inf Tryd.prog 7 4 24 (.agg #[.int .i64 0, .int .i64 0, .bool false, .int .u8 0]) := ⟨by kernel_rfl⟩
instance Tryd.tinf8 : Inf Tryd.prog 8 4 24 (.agg #[.int .i64 0, .int .i64 0, .bool false, .int .u8 0]) := ⟨by kernel_rfl⟩
instance Tryd.tinf9 : Inf Tryd.prog 9 1 16 (.string ⟨#[]⟩) := ⟨by kernel_rfl⟩
instance Tryd.tinf10 : Inf Tryd.prog 10 1 16 (.string ⟨#[]⟩) := ⟨by kernel_rfl⟩
instance Tryd.tinf11 : Inf Tryd.prog 11 1 16 (.string ⟨#[]⟩) := ⟨by kernel_rfl⟩
instance Tryd.tinf12 : Inf Tryd.prog 12 1 8 (.int .u64 0) := ⟨by kernel_rfl⟩
instance Tryd.tinf13 : Inf Tryd.prog 13 2 24 (.agg #[.string ⟨#[]⟩, .int .u64 0]) := ⟨by kernel_rfl⟩
instance Tryd.tinf14 : Inf Tryd.prog 14 2 24 (.agg #[.string ⟨#[]⟩, .int .u64 0]) := ⟨by kernel_rfl⟩
instance Tryd.tinf15 : Inf Tryd.prog 15 1 8 (.pointer none) := ⟨by kernel_rfl⟩
instance Tryd.tinf16 : Inf Tryd.prog 16 1 8 (.pointer none) := ⟨by kernel_rfl⟩
instance Tryd.tinf17 : Inf Tryd.prog 17 1 8 (.pointer none) := ⟨by kernel_rfl⟩
instance Tryd.tinf18 : Inf Tryd.prog 18 1 8 (.agg #[.pointer none]) := ⟨by kernel_rfl⟩
instance Tryd.tinf19 : Inf Tryd.prog 19 1 8 (.agg #[.pointer none]) := ⟨by kernel_rfl⟩
instance Tryd.tinf21 : Inf Tryd.prog 21 1 4 (.int .i32 0) := ⟨by kernel_rfl⟩
instance Tryd.tinf22 : Inf Tryd.prog 22 5 40 (.agg #[.int .i64 0, .int .i64 0, .int .i64 0, .int .i64 0, .int .i64 0]) := ⟨by kernel_rfl⟩
instance Tryd.tinf23 : Inf Tryd.prog 23 5 40 (.agg #[.int .i64 0, .int .i64 0, .int .i64 0, .int .i64 0, .int .i64 0]) := ⟨by kernel_rfl⟩
instance Tryd.tinf24 : Inf Tryd.prog 24 1 8 (.int .i64 0) := ⟨by kernel_rfl⟩
instance Tryd.tinf33 : Inf Tryd.prog 33 16 128 (.agg #[.int .i64 0, .int .i64 0, .int .i64 0, .int .i64 0, .int .i64 0, .int .i64 0, .int .i64 0, .int .i64 0, .int .i64 0, .int .i64 0, .int .i64 0, .int .i64 0, .int .i64 0, .int .i64 0, .int .i64 0, .int .i64 0]) := ⟨by kernel_rfl⟩
instance Tryd.tinf34 : Inf Tryd.prog 34 17 136 (.agg #[.int .i64 0, .int .i64 0, .int .i64 0, .int .i64 0, .int .i64 0, .int .i64 0, .int .i64 0, .int .i64 0, .int .i64 0, .int .i64 0, .int .i64 0, .int .i64 0, .int .i64 0, .int .i64 0, .int .i64 0, .int .i64 0, .int .i64 0]) := ⟨by kernel_rfl⟩
instance Tryd.tinf35 : Inf Tryd.prog 35 17 136 (.agg #[.int .i64 0, .int .i64 0, .int .i64 0, .int .i64 0, .int .i64 0, .int .i64 0, .int .i64 0, .int .i64 0, .int .i64 0, .int .i64 0, .int .i64 0, .int .i64 0, .int .i64 0, .int .i64 0, .int .i64 0, .int .i64 0, .int .i64 0]) := ⟨by kernel_rfl⟩
instance Tryd.tinf36 : Inf Tryd.prog 36 1 24 (.slice none 0 0) := ⟨by kernel_rfl⟩
instance Tryd.tinf39 : Inf Tryd.prog 39 22 176 (.agg #[.int .i64 0, .int .i64 0, .int .i64 0, .int .i64 0, .int .i64 0, .int .i64 0, .int .i64 0, .int .i64 0, .int .i64 0, .int .i64 0, .int .i64 0, .int .i64 0, .int .i64 0, .int .i64 0, .int .i64 0, .int .i64 0, .int .i64 0, .bool false, .int .i64 0, .int .i64 0, .bool false, .int .i64 0]) := ⟨by kernel_rfl⟩
instance Tryd.tinf40 : Inf Tryd.prog 40 22 176 (.agg #[.int .i64 0, .int .i64 0, .int .i64 0, .int .i64 0, .int .i64 0, .int .i64 0, .int .i64 0, .int .i64 0, .int .i64 0, .int .i64 0, .int .i64 0, .int .i64 0, .int .i64 0, .int .i64 0, .int .i64 0, .int .i64 0, .int .i64 0, .bool false, .int .i64 0, .int .i64 0, .bool false, .int .i64 0]) := ⟨by kernel_rfl⟩
instance Tryd.tinf44 : Inf Tryd.prog 44 1 24 (.slice none 0 0) := ⟨by kernel_rfl⟩
instance Tryd.tinf47 : Inf Tryd.prog 47 4 48 (.agg #[.int .i64 0, .bool false, .int .i64 0, .slice none 0 0]) := ⟨by kernel_rfl⟩
instance Tryd.tinf48 : Inf Tryd.prog 48 4 48 (.agg #[.int .i64 0, .bool false, .int .i64 0, .slice none 0 0]) := ⟨by kernel_rfl⟩
instance Tryd.tinf57 : Inf Tryd.prog 57 1 8 (.int .u64 0) := ⟨by kernel_rfl⟩
instance Tryd.tinf59 : Inf Tryd.prog 59 25 400 (.agg #[.string ⟨#[]⟩, .string ⟨#[]⟩, .string ⟨#[]⟩, .string ⟨#[]⟩, .string ⟨#[]⟩, .string ⟨#[]⟩, .string ⟨#[]⟩, .string ⟨#[]⟩, .string ⟨#[]⟩, .string ⟨#[]⟩, .string ⟨#[]⟩, .string ⟨#[]⟩, .string ⟨#[]⟩, .string ⟨#[]⟩, .string ⟨#[]⟩, .string ⟨#[]⟩, .string ⟨#[]⟩, .string ⟨#[]⟩, .string ⟨#[]⟩, .string ⟨#[]⟩, .string ⟨#[]⟩, .string ⟨#[]⟩, .string ⟨#[]⟩, .string ⟨#[]⟩, .string ⟨#[]⟩]) := ⟨by kernel_rfl⟩
instance Tryd.tinf60 : Inf Tryd.prog 60 1 24 (.slice none 0 0) := ⟨by kernel_rfl⟩
instance Tryd.tinf64 : Inf Tryd.prog 64 1 8 (.pointer none) := ⟨by kernel_rfl⟩
instance Tryd.tinf71 : Inf Tryd.prog 71 1 24 (.slice none 0 0) := ⟨by kernel_rfl⟩
instance Tryd.tinf74 : Inf Tryd.prog 74 24 24 (.agg #[.int .u8 0, .int .u8 0, .int .u8 0, .int .u8 0, .int .u8 0, .int .u8 0, .int .u8 0, .int .u8 0, .int .u8 0, .int .u8 0, .int .u8 0, .int .u8 0, .int .u8 0, .int .u8 0, .int .u8 0, .int .u8 0, .int .u8 0, .int .u8 0, .int .u8 0, .int .u8 0, .int .u8 0, .int .u8 0, .int .u8 0, .int .u8 0]) := ⟨by kernel_rfl⟩
instance Tryd.tinf75 : Inf Tryd.prog 75 1 8 (.int .u64 0) := ⟨by kernel_rfl⟩
instance Tryd.tinf81 : Inf Tryd.prog 81 20 160 (.agg #[.int .u64 0, .int .u64 0, .int .u64 0, .int .u64 0, .int .u64 0, .int .u64 0, .int .u64 0, .int .u64 0, .int .u64 0, .int .u64 0, .int .u64 0, .int .u64 0, .int .u64 0, .int .u64 0, .int .u64 0, .int .u64 0, .int .u64 0, .int .u64 0, .int .u64 0, .int .u64 0]) := ⟨by kernel_rfl⟩
instance Tryd.tinf82 : Inf Tryd.prog 82 1 4 (.int .u32 0) := ⟨by kernel_rfl⟩
instance Tryd.tinf83 : Inf Tryd.prog 83 65 65 (.agg #[.int .u8 0, .int .u8 0, .int .u8 0, .int .u8 0, .int .u8 0, .int .u8 0, .int .u8 0, .int .u8 0, .int .u8 0, .int .u8 0, .int .u8 0, .int .u8 0, .int .u8 0, .int .u8 0, .int .u8 0, .int .u8 0, .int .u8 0, .int .u8 0, .int .u8 0, .int .u8 0, .int .u8 0, .int .u8 0, .int .u8 0, .int .u8 0, .int .u8 0, .int .u8 0, .int .u8 0, .int .u8 0, .int .u8 0, .int .u8 0, .int .u8 0, .int .u8 0, .int .u8 0, .int .u8 0, .int .u8 0, .int .u8 0, .int .u8 0, .int .u8 0, .int .u8 0, .int .u8 0, .int .u8 0, .int .u8 0, .int .u8 0, .int .u8 0, .int .u8 0, .int .u8 0, .int .u8 0, .int .u8 0, .int .u8 0, .int .u8 0, .int .u8 0, .int .u8 0, .int .u8 0, .int .u8 0, .int .u8 0, .int .u8 0, .int .u8 0, .int .u8 0, .int .u8 0, .int .u8 0, .int .u8 0, .int .u8 0, .int .u8 0, .int .u8 0, .int .u8 0]) := ⟨by kernel_rfl⟩
instance Tryd.tinf86 : Inf Tryd.prog 86 32 32 (.agg #[.int .u8 0, .int .u8 0, .int .u8 0, .int .u8 0, .int .u8 0, .int .u8 0, .int .u8 0, .int .u8 0, .int .u8 0, .int .u8 0, .int .u8 0, .int .u8 0, .int .u8 0, .int .u8 0, .int .u8 0, .int .u8 0, .int .u8 0, .int .u8 0, .int .u8 0, .int .u8 0, .int .u8 0, .int .u8 0, .int .u8 0, .int .u8 0, .int .u8 0, .int .u8 0, .int .u8 0, .int .u8 0, .int .u8 0, .int .u8 0, .int .u8 0, .int .u8 0]) := ⟨by kernel_rfl⟩
instance Tryd.tinf87 : Inf Tryd.prog 87 64 64 (.agg #[.int .u8 0, .int .u8 0, .int .u8 0, .int .u8 0, .int .u8 0, .int .u8 0, .int .u8 0, .int .u8 0, .int .u8 0, .int .u8 0, .int .u8 0, .int .u8 0, .int .u8 0, .int .u8 0, .int .u8 0, .int .u8 0, .int .u8 0, .int .u8 0, .int .u8 0, .int .u8 0, .int .u8 0, .int .u8 0, .int .u8 0, .int .u8 0, .int .u8 0, .int .u8 0, .int .u8 0, .int .u8 0, .int .u8 0, .int .u8 0, .int .u8 0, .int .u8 0, .int .u8 0, .int .u8 0, .int .u8 0, .int .u8 0, .int .u8 0, .int .u8 0, .int .u8 0, .int .u8 0, .int .u8 0, .int .u8 0, .int .u8 0, .int .u8 0, .int .u8 0, .int .u8 0, .int .u8 0, .int .u8 0, .int .u8 0, .int .u8 0, .int .u8 0, .int .u8 0, .int .u8 0, .int .u8 0, .int .u8 0, .int .u8 0, .int .u8 0, .int .u8 0, .int .u8 0, .int .u8 0, .int .u8 0, .int .u8 0, .int .u8 0, .int .u8 0]) := ⟨by kernel_rfl⟩
instance Tryd.tinf89 : Inf Tryd.prog 89 4 40 (.agg #[.pointer none, .pointer none, .pointer none, .string ⟨#[]⟩]) := ⟨by kernel_rfl⟩
instance Tryd.tinf90 : Inf Tryd.prog 90 4 40 (.agg #[.pointer none, .pointer none, .pointer none, .string ⟨#[]⟩]) := ⟨by kernel_rfl⟩
instance Tryd.tinf91 : Inf Tryd.prog 91 0 0 (.agg #[]) := ⟨by kernel_rfl⟩
instance Tryd.tinf92 : Inf Tryd.prog 92 0 0 (.agg #[]) := ⟨by kernel_rfl⟩
instance Tryd.tinf93 : Inf Tryd.prog 93 0 0 (.agg #[]) := ⟨by kernel_rfl⟩
instance Tryd.tinf95 : Inf Tryd.prog 95 1 1 (.int .u8 0) := ⟨by kernel_rfl⟩
instance Tryd.tinf96 : Inf Tryd.prog 96 1 1 (.int .u8 0) := ⟨by kernel_rfl⟩
instance Tryd.tinf98 : Inf Tryd.prog 98 1 8 (.pointer none) := ⟨by kernel_rfl⟩
instance Tryd.tinf99 : Inf Tryd.prog 99 1 4 (.int .i32 0) := ⟨by kernel_rfl⟩
instance Tryd.tinf100 : Inf Tryd.prog 100 1 4 (.int .i32 0) := ⟨by kernel_rfl⟩
instance Tryd.tinf101 : Inf Tryd.prog 101 11 48 (.agg #[.int .u64 0, .int .u64 0, .int .u32 0, .int .u8 0, .int .u8 0, .int .u8 0, .int .u8 0, .nilFunc, .pointer none, .int .i32 0, .int .i32 0]) := ⟨by kernel_rfl⟩
instance Tryd.tinf102 : Inf Tryd.prog 102 11 48 (.agg #[.int .u64 0, .int .u64 0, .int .u32 0, .int .u8 0, .int .u8 0, .int .u8 0, .int .u8 0, .nilFunc, .pointer none, .int .i32 0, .int .i32 0]) := ⟨by kernel_rfl⟩
instance Tryd.tund2 : Und Tryd.prog 2 (.int .i64) := ⟨Tryd.underlying2⟩
instance Tryd.tund3 : Und Tryd.prog 3 (.int .i64) := ⟨Tryd.underlying3⟩
instance Tryd.tund4 : Und Tryd.prog 4 .bool := ⟨Tryd.underlying4⟩
instance Tryd.tund5 : Und Tryd.prog 5 (.int .u8) := ⟨Tryd.underlying5⟩
instance Tryd.tund6 : Und Tryd.prog 6 (.int .u8) := ⟨Tryd.underlying6⟩
instance Tryd.tund7 : Und Tryd.prog 7 (.struct (fOf Tryd.underlying7)) := ⟨Tryd.underlying7⟩
instance Tryd.tund8 : Und Tryd.prog 8 (.struct (fOf Tryd.underlying8)) := ⟨Tryd.underlying8⟩
instance Tryd.tund9 : Und Tryd.prog 9 .string := ⟨Tryd.underlying9⟩
instance Tryd.tund10 : Und Tryd.prog 10 .string := ⟨Tryd.underlying10⟩
instance Tryd.tund11 : Und Tryd.prog 11 .string := ⟨Tryd.underlying11⟩
instance Tryd.tund12 : Und Tryd.prog 12 (.int .u64) := ⟨Tryd.underlying12⟩
instance Tryd.tund13 : Und Tryd.prog 13 (.struct (fOf Tryd.underlying13)) := ⟨Tryd.underlying13⟩
instance Tryd.tund14 : Und Tryd.prog 14 (.struct (fOf Tryd.underlying14)) := ⟨Tryd.underlying14⟩
instance Tryd.tund15 : Und Tryd.prog 15 (.pointer 90) := ⟨Tryd.underlying15⟩
instance Tryd.tund16 : Und Tryd.prog 16 (.pointer 93) := ⟨Tryd.underlying16⟩
instance Tryd.tund17 : Und Tryd.prog 17 (.pointer 102) := ⟨Tryd.underlying17⟩
instance Tryd.tund18 : Und Tryd.prog 18 (.struct (fOf Tryd.underlying18)) := ⟨Tryd.underlying18⟩
instance Tryd.tund19 : Und Tryd.prog 19 (.struct (fOf Tryd.underlying19)) := ⟨Tryd.underlying19⟩
instance Tryd.tund21 : Und Tryd.prog 21 (.int .i32) := ⟨Tryd.underlying21⟩
instance Tryd.tund22 : Und Tryd.prog 22 (.struct (fOf Tryd.underlying22)) := ⟨Tryd.underlying22⟩
instance Tryd.tund23 : Und Tryd.prog 23 (.struct (fOf Tryd.underlying23)) := ⟨Tryd.underlying23⟩
instance Tryd.tund24 : Und Tryd.prog 24 (.int .i64) := ⟨Tryd.underlying24⟩
instance Tryd.tund33 : Und Tryd.prog 33 (.array 16 3) := ⟨Tryd.underlying33⟩
instance Tryd.tund34 : Und Tryd.prog 34 (.struct (fOf Tryd.underlying34)) := ⟨Tryd.underlying34⟩
instance Tryd.tund35 : Und Tryd.prog 35 (.struct (fOf Tryd.underlying35)) := ⟨Tryd.underlying35⟩
instance Tryd.tund36 : Und Tryd.prog 36 (.slice 23) := ⟨Tryd.underlying36⟩
instance Tryd.tund39 : Und Tryd.prog 39 (.struct (fOf Tryd.underlying39)) := ⟨Tryd.underlying39⟩
instance Tryd.tund40 : Und Tryd.prog 40 (.struct (fOf Tryd.underlying40)) := ⟨Tryd.underlying40⟩
instance Tryd.tund44 : Und Tryd.prog 44 (.slice 3) := ⟨Tryd.underlying44⟩
instance Tryd.tund47 : Und Tryd.prog 47 (.struct (fOf Tryd.underlying47)) := ⟨Tryd.underlying47⟩
instance Tryd.tund48 : Und Tryd.prog 48 (.struct (fOf Tryd.underlying48)) := ⟨Tryd.underlying48⟩
instance Tryd.tund57 : Und Tryd.prog 57 (.int .u64) := ⟨Tryd.underlying57⟩
instance Tryd.tund59 : Und Tryd.prog 59 (.array 25 9) := ⟨Tryd.underlying59⟩
instance Tryd.tund60 : Und Tryd.prog 60 (.slice 9) := ⟨Tryd.underlying60⟩
instance Tryd.tund64 : Und Tryd.prog 64 (.pointer 33) := ⟨Tryd.underlying64⟩
instance Tryd.tund71 : Und Tryd.prog 71 (.slice 5) := ⟨Tryd.underlying71⟩
instance Tryd.tund74 : Und Tryd.prog 74 (.array 24 5) := ⟨Tryd.underlying74⟩
instance Tryd.tund75 : Und Tryd.prog 75 (.int .u64) := ⟨Tryd.underlying75⟩
instance Tryd.tund81 : Und Tryd.prog 81 (.array 20 75) := ⟨Tryd.underlying81⟩
instance Tryd.tund82 : Und Tryd.prog 82 (.int .u32) := ⟨Tryd.underlying82⟩
instance Tryd.tund83 : Und Tryd.prog 83 (.array 65 5) := ⟨Tryd.underlying83⟩
instance Tryd.tund86 : Und Tryd.prog 86 (.array 32 5) := ⟨Tryd.underlying86⟩
instance Tryd.tund87 : Und Tryd.prog 87 (.array 64 5) := ⟨Tryd.underlying87⟩
instance Tryd.tund89 : Und Tryd.prog 89 (.struct (fOf Tryd.underlying89)) := ⟨Tryd.underlying89⟩
instance Tryd.tund90 : Und Tryd.prog 90 (.struct (fOf Tryd.underlying90)) := ⟨Tryd.underlying90⟩
instance Tryd.tund91 : Und Tryd.prog 91 (.array 0 16) := ⟨Tryd.underlying91⟩
instance Tryd.tund92 : Und Tryd.prog 92 (.struct (fOf Tryd.underlying92)) := ⟨Tryd.underlying92⟩
instance Tryd.tund93 : Und Tryd.prog 93 (.struct (fOf Tryd.underlying93)) := ⟨Tryd.underlying93⟩
instance Tryd.tund95 : Und Tryd.prog 95 (.int .u8) := ⟨Tryd.underlying95⟩
instance Tryd.tund96 : Und Tryd.prog 96 (.int .u8) := ⟨Tryd.underlying96⟩
instance Tryd.tund98 : Und Tryd.prog 98 (.pointer 5) := ⟨Tryd.underlying98⟩
instance Tryd.tund99 : Und Tryd.prog 99 (.int .i32) := ⟨Tryd.underlying99⟩
instance Tryd.tund100 : Und Tryd.prog 100 (.int .i32) := ⟨Tryd.underlying100⟩
instance Tryd.tund101 : Und Tryd.prog 101 (.struct (fOf Tryd.underlying101)) := ⟨Tryd.underlying101⟩
instance Tryd.tund102 : Und Tryd.prog 102 (.struct (fOf Tryd.underlying102)) := ⟨Tryd.underlying102⟩
instance Tryd.tfld7_0 : Fld Tryd.prog 7 0 0 2 := ⟨_, _, Tryd.underlying7, rfl, rfl, rfl⟩
instance Tryd.tfld7_1 : Fld Tryd.prog 7 1 1 3 := ⟨_, _, Tryd.underlying7, rfl, rfl, rfl⟩
instance Tryd.tfld7_2 : Fld Tryd.prog 7 2 2 4 := ⟨_, _, Tryd.underlying7, rfl, rfl, rfl⟩
instance Tryd.tfld7_3 : Fld Tryd.prog 7 3 3 6 := ⟨_, _, Tryd.underlying7, rfl, rfl, rfl⟩
instance Tryd.tpl7 : Places Tryd.prog  (fOf Tryd.underlying7) [(0, 1), (1, 1), (2, 1), (3, 1)] := ⟨by kernel_rfl⟩
instance Tryd.tfld8_0 : Fld Tryd.prog 8 0 0 2 := ⟨_, _, Tryd.underlying8, rfl, rfl, rfl⟩
instance Tryd.tfld8_1 : Fld Tryd.prog 8 1 1 3 := ⟨_, _, Tryd.underlying8, rfl, rfl, rfl⟩
instance Tryd.tfld8_2 : Fld Tryd.prog 8 2 2 4 := ⟨_, _, Tryd.underlying8, rfl, rfl, rfl⟩
instance Tryd.tfld8_3 : Fld Tryd.prog 8 3 3 6 := ⟨_, _, Tryd.underlying8, rfl, rfl, rfl⟩
instance Tryd.tpl8 : Places Tryd.prog  (fOf Tryd.underlying8) [(0, 1), (1, 1), (2, 1), (3, 1)] := ⟨by kernel_rfl⟩
instance Tryd.tfld13_0 : Fld Tryd.prog 13 0 0 9 := ⟨_, _, Tryd.underlying13, rfl, rfl, rfl⟩
instance Tryd.tfld13_1 : Fld Tryd.prog 13 1 1 12 := ⟨_, _, Tryd.underlying13, rfl, rfl, rfl⟩
instance Tryd.tpl13 : Places Tryd.prog  (fOf Tryd.underlying13) [(0, 1), (1, 1)] := ⟨by kernel_rfl⟩
instance Tryd.tfld14_0 : Fld Tryd.prog 14 0 0 9 := ⟨_, _, Tryd.underlying14, rfl, rfl, rfl⟩
instance Tryd.tfld14_1 : Fld Tryd.prog 14 1 1 12 := ⟨_, _, Tryd.underlying14, rfl, rfl, rfl⟩
instance Tryd.tpl14 : Places Tryd.prog  (fOf Tryd.underlying14) [(0, 1), (1, 1)] := ⟨by kernel_rfl⟩
instance Tryd.tfld18_0 : Fld Tryd.prog 18 0 0 17 := ⟨_, _, Tryd.underlying18, rfl, rfl, rfl⟩
instance Tryd.tpl18 : Places Tryd.prog  (fOf Tryd.underlying18) [(0, 1)] := ⟨by kernel_rfl⟩
instance Tryd.tfld19_0 : Fld Tryd.prog 19 0 0 17 := ⟨_, _, Tryd.underlying19, rfl, rfl, rfl⟩
instance Tryd.tpl19 : Places Tryd.prog  (fOf Tryd.underlying19) [(0, 1)] := ⟨by kernel_rfl⟩
instance Tryd.tfld22_0 : Fld Tryd.prog 22 0 0 3 := ⟨_, _, Tryd.underlying22, rfl, rfl, rfl⟩
instance Tryd.tfld22_1 : Fld Tryd.prog 22 1 1 3 := ⟨_, _, Tryd.underlying22, rfl, rfl, rfl⟩
instance Tryd.tfld22_2 : Fld Tryd.prog 22 2 2 3 := ⟨_, _, Tryd.underlying22, rfl, rfl, rfl⟩
instance Tryd.tfld22_3 : Fld Tryd.prog 22 3 3 3 := ⟨_, _, Tryd.underlying22, rfl, rfl, rfl⟩
instance Tryd.tfld22_4 : Fld Tryd.prog 22 4 4 3 := ⟨_, _, Tryd.underlying22, rfl, rfl, rfl⟩
instance Tryd.tpl22 : Places Tryd.prog  (fOf Tryd.underlying22) [(0, 1), (1, 1), (2, 1), (3, 1), (4, 1)] := ⟨by kernel_rfl⟩
instance Tryd.tfld23_0 : Fld Tryd.prog 23 0 0 3 := ⟨_, _, Tryd.underlying23, rfl, rfl, rfl⟩
instance Tryd.tfld23_1 : Fld Tryd.prog 23 1 1 3 := ⟨_, _, Tryd.underlying23, rfl, rfl, rfl⟩
instance Tryd.tfld23_2 : Fld Tryd.prog 23 2 2 3 := ⟨_, _, Tryd.underlying23, rfl, rfl, rfl⟩
instance Tryd.tfld23_3 : Fld Tryd.prog 23 3 3 3 := ⟨_, _, Tryd.underlying23, rfl, rfl, rfl⟩
instance Tryd.tfld23_4 : Fld Tryd.prog 23 4 4 3 := ⟨_, _, Tryd.underlying23, rfl, rfl, rfl⟩
instance Tryd.tpl23 : Places Tryd.prog  (fOf Tryd.underlying23) [(0, 1), (1, 1), (2, 1), (3, 1), (4, 1)] := ⟨by kernel_rfl⟩
instance Tryd.tfld34_0 : Fld Tryd.prog 34 0 0 33 := ⟨_, _, Tryd.underlying34, rfl, rfl, rfl⟩
instance Tryd.tfld34_1 : Fld Tryd.prog 34 1 16 3 := ⟨_, _, Tryd.underlying34, rfl, rfl, rfl⟩
instance Tryd.tpl34 : Places Tryd.prog  (fOf Tryd.underlying34) [(0, 16), (16, 1)] := ⟨by kernel_rfl⟩
instance Tryd.tfld35_0 : Fld Tryd.prog 35 0 0 33 := ⟨_, _, Tryd.underlying35, rfl, rfl, rfl⟩
instance Tryd.tfld35_1 : Fld Tryd.prog 35 1 16 3 := ⟨_, _, Tryd.underlying35, rfl, rfl, rfl⟩
instance Tryd.tpl35 : Places Tryd.prog  (fOf Tryd.underlying35) [(0, 16), (16, 1)] := ⟨by kernel_rfl⟩
instance Tryd.tfld39_0 : Fld Tryd.prog 39 0 0 35 := ⟨_, _, Tryd.underlying39, rfl, rfl, rfl⟩
instance Tryd.tfld39_1 : Fld Tryd.prog 39 1 17 4 := ⟨_, _, Tryd.underlying39, rfl, rfl, rfl⟩
instance Tryd.tfld39_2 : Fld Tryd.prog 39 2 18 3 := ⟨_, _, Tryd.underlying39, rfl, rfl, rfl⟩
instance Tryd.tfld39_3 : Fld Tryd.prog 39 3 19 3 := ⟨_, _, Tryd.underlying39, rfl, rfl, rfl⟩
instance Tryd.tfld39_4 : Fld Tryd.prog 39 4 20 4 := ⟨_, _, Tryd.underlying39, rfl, rfl, rfl⟩
instance Tryd.tfld39_5 : Fld Tryd.prog 39 5 21 3 := ⟨_, _, Tryd.underlying39, rfl, rfl, rfl⟩
instance Tryd.tpl39 : Places Tryd.prog  (fOf Tryd.underlying39) [(0, 17), (17, 1), (18, 1), (19, 1), (20, 1), (21, 1)] := ⟨by kernel_rfl⟩
instance Tryd.tfld40_0 : Fld Tryd.prog 40 0 0 35 := ⟨_, _, Tryd.underlying40, rfl, rfl, rfl⟩
instance Tryd.tfld40_1 : Fld Tryd.prog 40 1 17 4 := ⟨_, _, Tryd.underlying40, rfl, rfl, rfl⟩
instance Tryd.tfld40_2 : Fld Tryd.prog 40 2 18 3 := ⟨_, _, Tryd.underlying40, rfl, rfl, rfl⟩
instance Tryd.tfld40_3 : Fld Tryd.prog 40 3 19 3 := ⟨_, _, Tryd.underlying40, rfl, rfl, rfl⟩
instance Tryd.tfld40_4 : Fld Tryd.prog 40 4 20 4 := ⟨_, _, Tryd.underlying40, rfl, rfl, rfl⟩
instance Tryd.tfld40_5 : Fld Tryd.prog 40 5 21 3 := ⟨_, _, Tryd.underlying40, rfl, rfl, rfl⟩
instance Tryd.tpl40 : Places Tryd.prog  (fOf Tryd.underlying40) [(0, 17), (17, 1), (18, 1), (19, 1), (20, 1), (21, 1)] := ⟨by kernel_rfl⟩
instance Tryd.tfld47_0 : Fld Tryd.prog 47 0 0 24 := ⟨_, _, Tryd.underlying47, rfl, rfl, rfl⟩
instance Tryd.tfld47_1 : Fld Tryd.prog 47 1 1 4 := ⟨_, _, Tryd.underlying47, rfl, rfl, rfl⟩
instance Tryd.tfld47_2 : Fld Tryd.prog 47 2 2 3 := ⟨_, _, Tryd.underlying47, rfl, rfl, rfl⟩
instance Tryd.tfld47_3 : Fld Tryd.prog 47 3 3 44 := ⟨_, _, Tryd.underlying47, rfl, rfl, rfl⟩
instance Tryd.tpl47 : Places Tryd.prog  (fOf Tryd.underlying47) [(0, 1), (1, 1), (2, 1), (3, 1)] := ⟨by kernel_rfl⟩
instance Tryd.tfld48_0 : Fld Tryd.prog 48 0 0 24 := ⟨_, _, Tryd.underlying48, rfl, rfl, rfl⟩
instance Tryd.tfld48_1 : Fld Tryd.prog 48 1 1 4 := ⟨_, _, Tryd.underlying48, rfl, rfl, rfl⟩
instance Tryd.tfld48_2 : Fld Tryd.prog 48 2 2 3 := ⟨_, _, Tryd.underlying48, rfl, rfl, rfl⟩
instance Tryd.tfld48_3 : Fld Tryd.prog 48 3 3 44 := ⟨_, _, Tryd.underlying48, rfl, rfl, rfl⟩
instance Tryd.tpl48 : Places Tryd.prog  (fOf Tryd.underlying48) [(0, 1), (1, 1), (2, 1), (3, 1)] := ⟨by kernel_rfl⟩
instance Tryd.tfld89_0 : Fld Tryd.prog 89 0 0 17 := ⟨_, _, Tryd.underlying89, rfl, rfl, rfl⟩
instance Tryd.tfld89_1 : Fld Tryd.prog 89 1 1 17 := ⟨_, _, Tryd.underlying89, rfl, rfl, rfl⟩
instance Tryd.tfld89_2 : Fld Tryd.prog 89 2 2 17 := ⟨_, _, Tryd.underlying89, rfl, rfl, rfl⟩
instance Tryd.tfld89_3 : Fld Tryd.prog 89 3 3 9 := ⟨_, _, Tryd.underlying89, rfl, rfl, rfl⟩
instance Tryd.tpl89 : Places Tryd.prog  (fOf Tryd.underlying89) [(0, 1), (1, 1), (2, 1), (3, 1)] := ⟨by kernel_rfl⟩
instance Tryd.tfld90_0 : Fld Tryd.prog 90 0 0 17 := ⟨_, _, Tryd.underlying90, rfl, rfl, rfl⟩
instance Tryd.tfld90_1 : Fld Tryd.prog 90 1 1 17 := ⟨_, _, Tryd.underlying90, rfl, rfl, rfl⟩
instance Tryd.tfld90_2 : Fld Tryd.prog 90 2 2 17 := ⟨_, _, Tryd.underlying90, rfl, rfl, rfl⟩
instance Tryd.tfld90_3 : Fld Tryd.prog 90 3 3 9 := ⟨_, _, Tryd.underlying90, rfl, rfl, rfl⟩
instance Tryd.tpl90 : Places Tryd.prog  (fOf Tryd.underlying90) [(0, 1), (1, 1), (2, 1), (3, 1)] := ⟨by kernel_rfl⟩
instance Tryd.tfld92_0 : Fld Tryd.prog 92 0 0 91 := ⟨_, _, Tryd.underlying92, rfl, rfl, rfl⟩
instance Tryd.tpl92 : Places Tryd.prog  (fOf Tryd.underlying92) [(0, 0)] := ⟨by kernel_rfl⟩
instance Tryd.tfld93_0 : Fld Tryd.prog 93 0 0 91 := ⟨_, _, Tryd.underlying93, rfl, rfl, rfl⟩
instance Tryd.tpl93 : Places Tryd.prog  (fOf Tryd.underlying93) [(0, 0)] := ⟨by kernel_rfl⟩
instance Tryd.tfld101_0 : Fld Tryd.prog 101 0 0 12 := ⟨_, _, Tryd.underlying101, rfl, rfl, rfl⟩
instance Tryd.tfld101_1 : Fld Tryd.prog 101 1 1 12 := ⟨_, _, Tryd.underlying101, rfl, rfl, rfl⟩
instance Tryd.tfld101_2 : Fld Tryd.prog 101 2 2 82 := ⟨_, _, Tryd.underlying101, rfl, rfl, rfl⟩
instance Tryd.tfld101_3 : Fld Tryd.prog 101 3 3 95 := ⟨_, _, Tryd.underlying101, rfl, rfl, rfl⟩
instance Tryd.tfld101_4 : Fld Tryd.prog 101 4 4 5 := ⟨_, _, Tryd.underlying101, rfl, rfl, rfl⟩
instance Tryd.tfld101_5 : Fld Tryd.prog 101 5 5 5 := ⟨_, _, Tryd.underlying101, rfl, rfl, rfl⟩
instance Tryd.tfld101_6 : Fld Tryd.prog 101 6 6 96 := ⟨_, _, Tryd.underlying101, rfl, rfl, rfl⟩
instance Tryd.tfld101_7 : Fld Tryd.prog 101 7 7 97 := ⟨_, _, Tryd.underlying101, rfl, rfl, rfl⟩
instance Tryd.tfld101_8 : Fld Tryd.prog 101 8 8 98 := ⟨_, _, Tryd.underlying101, rfl, rfl, rfl⟩
instance Tryd.tfld101_9 : Fld Tryd.prog 101 9 9 99 := ⟨_, _, Tryd.underlying101, rfl, rfl, rfl⟩
instance Tryd.tfld101_10 : Fld Tryd.prog 101 10 10 100 := ⟨_, _, Tryd.underlying101, rfl, rfl, rfl⟩
instance Tryd.tpl101 : Places Tryd.prog  (fOf Tryd.underlying101) [(0, 1), (1, 1), (2, 1), (3, 1), (4, 1), (5, 1), (6, 1), (7, 1), (8, 1), (9, 1), (10, 1)] := ⟨by kernel_rfl⟩
instance Tryd.tfld102_0 : Fld Tryd.prog 102 0 0 12 := ⟨_, _, Tryd.underlying102, rfl, rfl, rfl⟩
instance Tryd.tfld102_1 : Fld Tryd.prog 102 1 1 12 := ⟨_, _, Tryd.underlying102, rfl, rfl, rfl⟩
instance Tryd.tfld102_2 : Fld Tryd.prog 102 2 2 82 := ⟨_, _, Tryd.underlying102, rfl, rfl, rfl⟩
instance Tryd.tfld102_3 : Fld Tryd.prog 102 3 3 95 := ⟨_, _, Tryd.underlying102, rfl, rfl, rfl⟩
instance Tryd.tfld102_4 : Fld Tryd.prog 102 4 4 5 := ⟨_, _, Tryd.underlying102, rfl, rfl, rfl⟩
instance Tryd.tfld102_5 : Fld Tryd.prog 102 5 5 5 := ⟨_, _, Tryd.underlying102, rfl, rfl, rfl⟩
instance Tryd.tfld102_6 : Fld Tryd.prog 102 6 6 96 := ⟨_, _, Tryd.underlying102, rfl, rfl, rfl⟩
instance Tryd.tfld102_7 : Fld Tryd.prog 102 7 7 97 := ⟨_, _, Tryd.underlying102, rfl, rfl, rfl⟩
instance Tryd.tfld102_8 : Fld Tryd.prog 102 8 8 98 := ⟨_, _, Tryd.underlying102, rfl, rfl, rfl⟩
instance Tryd.tfld102_9 : Fld Tryd.prog 102 9 9 99 := ⟨_, _, Tryd.underlying102, rfl, rfl, rfl⟩
instance Tryd.tfld102_10 : Fld Tryd.prog 102 10 10 100 := ⟨_, _, Tryd.underlying102, rfl, rfl, rfl⟩
instance Tryd.tpl102 : Places Tryd.prog  (fOf Tryd.underlying102) [(0, 1), (1, 1), (2, 1), (3, 1), (4, 1), (5, 1), (6, 1), (7, 1), (8, 1), (9, 1), (10, 1)] := ⟨by kernel_rfl⟩
instance Tryd.gofun3 : GoFun Tryd.prog 3 := ⟨_, Tryd.func3, by kernel_rfl, by kernel_rfl⟩
instance Tryd.gofun4 : GoFun Tryd.prog 4 := ⟨_, Tryd.func4, by kernel_rfl, by kernel_rfl⟩
instance Tryd.gofun5 : GoFun Tryd.prog 5 := ⟨_, Tryd.func5, by kernel_rfl, by kernel_rfl⟩
instance Tryd.gofun6 : GoFun Tryd.prog 6 := ⟨_, Tryd.func6, by kernel_rfl, by kernel_rfl⟩
instance Tryd.gofun7 : GoFun Tryd.prog 7 := ⟨_, Tryd.func7, by kernel_rfl, by kernel_rfl⟩
instance Tryd.gofun8 : GoFun Tryd.prog 8 := ⟨_, Tryd.func8, by kernel_rfl, by kernel_rfl⟩
instance Tryd.gofun9 : GoFun Tryd.prog 9 := ⟨_, Tryd.func9, by kernel_rfl, by kernel_rfl⟩
instance Tryd.gofun10 : GoFun Tryd.prog 10 := ⟨_, Tryd.func10, by kernel_rfl, by kernel_rfl⟩
instance Tryd.gofun11 : GoFun Tryd.prog 11 := ⟨_, Tryd.func11, by kernel_rfl, by kernel_rfl⟩
instance Tryd.gofun12 : GoFun Tryd.prog 12 := ⟨_, Tryd.func12, by kernel_rfl, by kernel_rfl⟩
instance Tryd.gofun13 : GoFun Tryd.prog 13 := ⟨_, Tryd.func13, by kernel_rfl, by kernel_rfl⟩
instance Tryd.gofun14 : GoFun Tryd.prog 14 := ⟨_, Tryd.func14, by kernel_rfl, by kernel_rfl⟩
instance Tryd.gofun15 : GoFun Tryd.prog 15 := ⟨_, Tryd.func15, by kernel_rfl, by kernel_rfl⟩
instance Tryd.gofun16 : GoFun Tryd.prog 16 := ⟨_, Tryd.func16, by kernel_rfl, by kernel_rfl⟩
instance Tryd.gofun17 : GoFun Tryd.prog 17 := ⟨_, Tryd.func17, by kernel_rfl, by kernel_rfl⟩
instance Tryd.gofun18 : GoFun Tryd.prog 18 := ⟨_, Tryd.func18, by kernel_rfl, by kernel_rfl⟩
instance Tryd.gofun19 : GoFun Tryd.prog 19 := ⟨_, Tryd.func19, by kernel_rfl, by kernel_rfl⟩
instance Tryd.gofun20 : GoFun Tryd.prog 20 := ⟨_, Tryd.func20, by kernel_rfl, by kernel_rfl⟩
instance Tryd.gofun21 : GoFun Tryd.prog 21 := ⟨_, Tryd.func21, by kernel_rfl, by kernel_rfl⟩
instance Tryd.gofun22 : GoFun Tryd.prog 22 := ⟨_, Tryd.func22, by kernel_rfl, by kernel_rfl⟩
instance Tryd.gofun23 : GoFun Tryd.prog 23 := ⟨_, Tryd.func23, by kernel_rfl, by kernel_rfl⟩
instance Tryd.gofun24 : GoFun Tryd.prog 24 := ⟨_, Tryd.func24, by kernel_rfl, by kernel_rfl⟩
instance Tryd.gofun25 : GoFun Tryd.prog 25 := ⟨_, Tryd.func25, by kernel_rfl, by kernel_rfl⟩
instance Tryd.gofun26 : GoFun Tryd.prog 26 := ⟨_, Tryd.func26, by kernel_rfl, by kernel_rfl⟩
instance Tryd.gofun27 : GoFun Tryd.prog 27 := ⟨_, Tryd.func27, by kernel_rfl, by kernel_rfl⟩
instance Tryd.gofun28 : GoFun Tryd.prog 28 := ⟨_, Tryd.func28, by kernel_rfl, by kernel_rfl⟩
instance Tryd.gofun29 : GoFun Tryd.prog 29 := ⟨_, Tryd.func29, by kernel_rfl, by kernel_rfl⟩
instance Tryd.gofun30 : GoFun Tryd.prog 30 := ⟨_, Tryd.func30, by kernel_rfl, by kernel_rfl⟩
instance Tryd.gofun31 : GoFun Tryd.prog 31 := ⟨_, Tryd.func31, by kernel_rfl, by kernel_rfl⟩
instance Tryd.gofun32 : GoFun Tryd.prog 32 := ⟨_, Tryd.func32, by kernel_rfl, by kernel_rfl⟩
instance Tryd.gofun33 : GoFun Tryd.prog 33 := ⟨_, Tryd.func33, by kernel_rfl, by kernel_rfl⟩
instance Tryd.gofun34 : GoFun Tryd.prog 34 := ⟨_, Tryd.func34, by kernel_rfl, by kernel_rfl⟩
instance Tryd.gofun35 : GoFun Tryd.prog 35 := ⟨_, Tryd.func35, by kernel_rfl, by kernel_rfl⟩
instance Tryd.gofun36 : GoFun Tryd.prog 36 := ⟨_, Tryd.func36, by kernel_rfl, by kernel_rfl⟩
instance Tryd.gofun37 : GoFun Tryd.prog 37 := ⟨_, Tryd.func37, by kernel_rfl, by kernel_rfl⟩
instance Tryd.gofun38 : GoFun Tryd.prog 38 := ⟨_, Tryd.func38, by kernel_rfl, by kernel_rfl⟩
instance Tryd.gofun39 : GoFun Tryd.prog 39 := ⟨_, Tryd.func39, by kernel_rfl, by kernel_rfl⟩
instance Tryd.gofun40 : GoFun Tryd.prog 40 := ⟨_, Tryd.func40, by kernel_rfl, by kernel_rfl⟩
instance Tryd.gofun41 : GoFun Tryd.prog 41 := ⟨_, Tryd.func41, by kernel_rfl, by kernel_rfl⟩
instance Tryd.gofun42 : GoFun Tryd.prog 42 := ⟨_, Tryd.func42, by kernel_rfl, by kernel_rfl⟩
instance Tryd.gofun43 : GoFun Tryd.prog 43 := ⟨_, Tryd.func43, by kernel_rfl, by kernel_rfl⟩
instance Tryd.gofun44 : GoFun Tryd.prog 44 := ⟨_, Tryd.func44, by kernel_rfl, by kernel_rfl⟩
instance Tryd.gofun45 : GoFun Tryd.prog 45 := ⟨_, Tryd.func45, by kernel_rfl, by kernel_rfl⟩
instance Tryd.gofun46 : GoFun Tryd.prog 46 := ⟨_, Tryd.func46, by kernel_rfl, by kernel_rfl⟩
instance Tryd.gofun47 : GoFun Tryd.prog 47 := ⟨_, Tryd.func47, by kernel_rfl, by kernel_rfl⟩
instance Tryd.gofun48 : GoFun Tryd.prog 48 := ⟨_, Tryd.func48, by kernel_rfl, by kernel_rfl⟩
instance Tryd.gofun49 : GoFun Tryd.prog 49 := ⟨_, Tryd.func49, by kernel_rfl, by kernel_rfl⟩
instance Tryd.gofun50 : GoFun Tryd.prog 50 := ⟨_, Tryd.func50, by kernel_rfl, by kernel_rfl⟩
instance Tryd.gofun51 : GoFun Tryd.prog 51 := ⟨_, Tryd.func51, by kernel_rfl, by kernel_rfl⟩
instance Tryd.gofun52 : GoFun Tryd.prog 52 := ⟨_, Tryd.func52, by kernel_rfl, by kernel_rfl⟩
instance Tryd.gofun53 : GoFun Tryd.prog 53 := ⟨_, Tryd.func53, by kernel_rfl, by kernel_rfl⟩
instance Tryd.gofun54 : GoFun Tryd.prog 54 := ⟨_, Tryd.func54, by kernel_rfl, by kernel_rfl⟩
end Go.Proofs
/- Instructions and processors, in plain numbers. No conditions: definitions and lemmas only. -/
namespace Go.Proofs
open Go.AM

structure Ins where
  op : Int
  a : Int
  b : Int
  c : Int
  imm : Int
def insRow (i : Ins) : List AV := [.int .i64 i.op, .int .i64 i.a, .int .i64 i.b, .int .i64 i.c, .int .i64 i.imm]
def zIns : Ins := ⟨0, 0, 0, 0, 0⟩
def reg (n : Int) : Bool := decide (0 ≤ n) && decide (n < 16)
def opr (n : Int) : Bool := decide (1 ≤ n) && decide (n < 26)
def w64 (n : Int) : Prop := -9223372036854775808 ≤ n ∧ n < 9223372036854775808
def immOk (n : Int) : Bool := decide (-2147483648 ≤ n) && decide (n < 2147483648)
def rngOk (i : Ins) : Bool := immOk i.imm && reg i.a && reg i.b && reg i.c
def word (i : Ins) : Int := i.op + i.a * 256 + i.b * 65536 + i.c * 16777216 + i.imm * 4294967296
/-- The word of an instruction, and the error. -/
def enc (i : Ins) : Int × Int := if rngOk i = false then (0, 2) else if opr i.op = false then (0, 4) else (word i, 0)
def split (w : Int) : Ins := ⟨w % 256, w / 256 % 256, w / 65536 % 256, w / 16777216 % 256, w / 4294967296⟩
def decOk (i : Ins) : Bool := opr i.op && reg i.a && reg i.b && reg i.c
def dec (w : Int) : Ins × Int := if decOk (split w) = true then (split w, 0) else (zIns, 4)
def encV (i : Ins) : AV := .tuple [.int .i64 (enc i).1, .int .i64 (enc i).2]
def decV (w : Int) : AV := .tuple [.agg (insRow (dec w).1), .int .i64 (dec w).2]

theorem reg_iff {n : Int} : reg n = true ↔ 0 ≤ n ∧ n < 16 := by simp [reg]
theorem opr_iff {n : Int} : opr n = true ↔ 1 ≤ n ∧ n < 26 := by simp [opr]
theorem rng_iff {i : Ins} : rngOk i = true ↔ (-2147483648 ≤ i.imm ∧ i.imm < 2147483648) ∧ (0 ≤ i.a ∧ i.a < 16) ∧ (0 ≤ i.b ∧ i.b < 16) ∧ (0 ≤ i.c ∧ i.c < 16) := by
  simp [rngOk, immOk, reg, and_assoc]
theorem decOk_iff {i : Ins} : decOk i = true ↔ (1 ≤ i.op ∧ i.op < 26) ∧ (0 ≤ i.a ∧ i.a < 16) ∧ (0 ≤ i.b ∧ i.b < 16) ∧ (0 ≤ i.c ∧ i.c < 16) := by
  simp [decOk, opr, reg, and_assoc]

theorem enc_ok {i : Ins} (h1 : rngOk i = true) (h2 : opr i.op = true) : enc i = (word i, 0) := by simp [enc, h1, h2]
theorem word_range {i : Ins} (h1 : rngOk i = true) (h2 : opr i.op = true) : w64 (word i) := by
  rw [rng_iff] at h1
  rw [opr_iff] at h2
  unfold w64 word
  omega
theorem rng_of_dec {w : Int} (hw : w64 w) (h : decOk (split w) = true) : rngOk (split w) = true ∧ opr (split w).op = true := by
  rw [decOk_iff] at h
  rw [rng_iff, opr_iff]
  unfold w64 at hw
  have : (split w).imm = w / 4294967296 := rfl
  omega

/-! bits -/
theorem and255 (a : Int) : bits .and .i64 a 255 = a % 256 := by
  have h1 : (BitVec.ofInt 64 a &&& BitVec.ofInt 64 255).toNat = (a % 256).toNat := by
    rw [BitVec.toNat_and, BitVec.toNat_ofInt, BitVec.toNat_ofInt]
    rw [show ((255 : Int) % ((2 ^ 64 : Nat) : Int)).toNat = 2 ^ 8 - 1 by decide, Nat.and_two_pow_sub_one_eq_mod]
    omega
  show IntKind.i64.wrap ((BitVec.ofInt 64 a &&& BitVec.ofInt 64 255).toNat : Int) = a % 256
  rw [h1, wrap64 (by omega)]
  omega
/-- Low bits and high bits. -/
theorem or_lo_hi (k : Nat) (hk : k < 64) (lo hi : Int) (h0 : 0 ≤ lo ∧ lo < 2 ^ k) (hr : w64 (lo + hi * 2 ^ k)) : bits .or .i64 lo (hi * 2 ^ k) = lo + hi * 2 ^ k ∧ bits .or .i64 (hi * 2 ^ k) lo = lo + hi * 2 ^ k := by
  have e64 : (2 : Int) ^ 64 = 2 ^ (64 - k) * 2 ^ k := by rw [← Int.pow_add, Nat.sub_add_cancel (by omega)]
  have hpk : (0 : Int) < 2 ^ k := Int.pow_pos (by decide)
  have hhi : (hi * 2 ^ k) % (2 : Int) ^ 64 = (hi % 2 ^ (64 - k)) * 2 ^ k := by rw [e64, Int.mul_comm hi, Int.mul_comm (2 ^ (64 - k)), Int.mul_emod_mul_of_pos _ _ hpk, Int.mul_comm]
  have hm0 : 0 ≤ hi % 2 ^ (64 - k) := Int.emod_nonneg _ (Int.ne_of_gt (Int.pow_pos (by decide)))
  obtain ⟨q, hq⟩ : ∃ q : Nat, hi % 2 ^ (64 - k) = (q : Int) := ⟨_, (Int.toNat_of_nonneg hm0).symm⟩
  obtain ⟨l, rfl⟩ : ∃ l : Nat, lo = (l : Int) := ⟨_, (Int.toNat_of_nonneg h0.1).symm⟩
  have hl : l < 2 ^ k := by have := h0.2; exact_mod_cast this
  have hl64 : l < 2 ^ 64 := Nat.lt_trans hl (Nat.pow_lt_pow_right (by decide) hk)
  have n1 : (BitVec.ofInt 64 (l : Int)).toNat = l := by
    rw [BitVec.toNat_ofInt]
    have : ((2 ^ 64 : Nat) : Int) = 18446744073709551616 := by decide
    rw [this]
    have : (2 : Nat) ^ 64 = 18446744073709551616 := by decide
    omega
  have n2 : (BitVec.ofInt 64 (hi * 2 ^ k)).toNat = 2 ^ k * q := by
    rw [BitVec.toNat_ofInt, show ((2 ^ 64 : Nat) : Int) = 2 ^ 64 by decide, hhi, hq]
    have : ((q : Int) * 2 ^ k) = ((2 ^ k * q : Nat) : Int) := by rw [Nat.mul_comm]; push_cast; rfl
    rw [this, Int.toNat_natCast]
  have hsum : IntKind.i64.wrap ((2 ^ k * q + l : Nat) : Int) = (l : Int) + hi * 2 ^ k := by
    rw [← wrap64 (a := (l : Int) + hi * 2 ^ k) hr]
    have : (((2 ^ k * q + l : Nat) : Int)) % 18446744073709551616 = ((l : Int) + hi * 2 ^ k) % 18446744073709551616 := by
      have e : ((2 ^ k * q + l : Nat) : Int) = (l : Int) + (hi * 2 ^ k) % (2 : Int) ^ 64 := by rw [hhi, hq]; push_cast; rw [Int.mul_comm]; omega
      rw [e, show (2 : Int) ^ 64 = 18446744073709551616 by decide, Int.add_emod_emod]
    unfold IntKind.wrap
    simp only [show (2 : Int) ^ IntKind.i64.bits = 18446744073709551616 by decide]
    rw [this]
  constructor
  · show IntKind.i64.wrap ((BitVec.ofInt 64 (l : Int) ||| BitVec.ofInt 64 (hi * 2 ^ k)).toNat : Int) = _
    rw [BitVec.toNat_or, n1, n2, Nat.or_comm, ← Nat.two_pow_add_eq_or_of_lt hl]
    exact hsum
  · show IntKind.i64.wrap ((BitVec.ofInt 64 (hi * 2 ^ k) ||| BitVec.ofInt 64 (l : Int)).toNat : Int) = _
    rw [BitVec.toNat_or, n1, n2, ← Nat.two_pow_add_eq_or_of_lt hl]
    exact hsum
/-! processors -/
structure Cp where
  r : List Int
  pc : Int
def iv (n : Int) : AV := .int .i64 n
def cpRow (c : Cp) : List AV := c.r.map iv ++ [.int .i64 c.pc]
def Cp.ok (c : Cp) : Prop := c.r.length = 16 ∧ (∀ x ∈ c.r, w64 x) ∧ w64 c.pc
structure Ef where
  cpu : Cp
  stores : Bool
  addr : Int
  word : Int
  prints : Bool
  print : Int
def efRow (e : Ef) : List AV := e.cpu.r.map iv ++ [.int .i64 e.cpu.pc, .bool e.stores, .int .i64 e.addr, .int .i64 e.word, .bool e.prints, .int .i64 e.print]
def zCp : Cp := ⟨List.replicate 16 0, 0⟩
def zEf : Ef := ⟨zCp, false, 0, 0, false, 0⟩
def Cp.get (c : Cp) (n : Int) : Int := c.r.getD n.toNat 0
def Cp.put (c : Cp) (n v : Int) : Cp := { c with r := c.r.set n.toNat v }
def add64 (a b : Int) : Int := IntKind.i64.wrap (a + b)
def sub64 (a b : Int) : Int := IntKind.i64.wrap (a - b)
def mul64 (a b : Int) : Int := IntKind.i64.wrap (a * b)
def b01 (b : Bool) : Int := bif b then 1 else 0
/-- The twelve operations. -/
def bin (k a b : Int) : Int :=
  if k = 0 then add64 a b else if k = 1 then sub64 a b else if k = 2 then mul64 a b else if k = 3 then (if b = 0 then 0 else IntKind.i64.wrap (a.tdiv b)) else if k = 4 then (if b = 0 then a else a.tmod b)
  else if k = 5 then bits .and .i64 a b else if k = 6 then bits .or .i64 a b else if k = 7 then bits .xor .i64 a b
  else if k = 8 then b01 (decide (a < b)) else if k = 9 then b01 (decide (a ≤ b)) else if k = 10 then b01 (decide (a = b)) else b01 (decide (a ≠ b))
def reads (c : Cp) (i : Ins) : Int × Bool :=
  if i.op = 4 then (i.imm, true) else if i.op = 19 then (add64 (if reg i.b = true then c.get i.b else 0) i.imm, true) else if i.op = 24 then (c.get 14, true) else (0, false)
def exec (c : Cp) (i : Ins) (l : Int) : Ef × Int :=
  if (enc i).2 ≠ 0 ∨ i.op = 2 then (zEf, 14) else
  let nx : Cp := { c with pc := add64 c.pc 1 }
  let q (c : Cp) : Ef × Int := ({ zEf with cpu := c }, 0)
  if i.op = 1 then q nx
  else if i.op = 3 then q (nx.put i.a i.imm)
  else if i.op = 4 ∨ i.op = 19 then q (nx.put i.a l)
  else if i.op = 5 then q (nx.put i.a (c.get i.b))
  else if i.op = 18 then q (nx.put i.a (add64 (c.get i.b) i.imm))
  else if i.op = 20 then (⟨nx, true, add64 (c.get i.b) i.imm, c.get i.a, false, 0⟩, 0)
  else if i.op = 21 then q { c with pc := i.imm }
  else if i.op = 22 then (if c.get i.a = 0 then q { c with pc := i.imm } else q nx)
  else if i.op = 23 then (⟨{ c.put 14 (sub64 (c.get 14) 1) with pc := i.imm }, true, sub64 (c.get 14) 1, add64 c.pc 1, false, 0⟩, 0)
  else if i.op = 24 then q { c.put 14 (add64 (c.get 14) 1) with pc := l }
  else if i.op = 25 then (⟨nx, false, 0, 0, true, c.get i.a⟩, 0)
  else q (nx.put i.a (bin (i.op - 6) (c.get i.b) (c.get i.c)))
def readsV (c : Cp) (i : Ins) : AV := .tuple [.int .i64 (reads c i).1, .bool (reads c i).2]
def execV (c : Cp) (i : Ins) (l : Int) : AV := .tuple [.agg (efRow (exec c i l).1), .int .i64 (exec c i l).2]
end Go.Proofs
/- The walks of Mod and of the small functions of isa. No conditions: lemmas only. -/
namespace Go.Proofs
open Go.AM
attribute [local irreducible] AWP AOps ACalls

theorem tmod_gt (n k : Int) (hk : 0 < k) : -k < n.tmod k := by
  have := Int.tmod_lt_of_pos (-n) hk
  rw [Int.neg_tmod] at this
  omega

theorem mod_rem (n k : Int) (hk : 0 < k) : n % k = if n.tmod k < 0 then n.tmod k + k else n.tmod k := by
  have h1 : n % k = n.tmod k % k := by
    conv => lhs; rw [← Int.tmod_add_mul_tdiv n k]
    rw [Int.add_mul_emod_self_left]
  have h2 := Int.tmod_lt_of_pos n hk
  have h3 := tmod_gt n k hk
  rw [h1]
  split
  · rw [← Int.add_emod_right, Int.emod_eq_of_lt (by omega) (by omega)]
  · exact Int.emod_eq_of_lt (by omega) (by omega)

theorem mod_ok (n k : Int) (hk : 0 < k) (hk2 : k ≤ 4611686018427387904) (st : St) : ACalls Tryd.prog 22 [.int .i64 n, .int .i64 k] st (fun v st' => v = .int .i64 (n % k) ∧ st' = st) (fun _ _ => False) := by
  refine ACalls.ofBody Tryd.func22 rfl Tryd.ntmps22 rfl ?_
  have hm := mod_rem n k hk
  repeat (first | refine nl ?_ | refine AWP.seq ?_ | refine rg ?_ | refine AWP.skip ?_ | refine AWP.block ?_ | refine sm rfl ?_ | refine uw rfl ?_ | refine fa rfl rfl ?_ | refine leW rfl rfl rfl rfl rfl ?_ | refine leW rfl rfl rfl (by assumption) rfl ?_ | refine lcW rfl rfl rfl (St.obj_set _ _ _) rfl rfl ?_ | refine le rfl rfl rfl rfl ?_ | refine le rfl rfl (by assumption) rfl ?_ | refine lnv rfl rfl ?_ | refine lnm rfl rfl ?_ | refine ix rfl rfl rfl rfl (by assumption) ?_ | refine ixm rfl rfl rfl rfl (by assumption) ?_ | refine ix (m := 0) rfl rfl rfl rfl (of_decide_eq_true rfl) ?_ | refine ix (m := 1) rfl rfl rfl rfl (of_decide_eq_true rfl) ?_ | refine ix (m := 2) rfl rfl rfl rfl (of_decide_eq_true rfl) ?_ | refine ix (m := 3) rfl rfl rfl rfl (of_decide_eq_true rfl) ?_ | refine ix (m := 4) rfl rfl rfl rfl (of_decide_eq_true rfl) ?_ | refine ix (m := 5) rfl rfl rfl rfl (of_decide_eq_true rfl) ?_ | refine ix (m := 6) rfl rfl rfl rfl (of_decide_eq_true rfl) ?_ | refine lc rfl rfl (St.obj_set _ _ _) rfl rfl ?_ | refine lc rfl rfl (St.obj_set _ _ _) (by assumption) rfl ?_ | refine lc rfl rfl (by assumption) rfl rfl ?_ | refine lc rfl rfl (by assumption) (by assumption) rfl ?_ | refine inc rfl rfl rfl (by omega) ?_ | refine adn rfl rfl rfl (by omega) ?_ | refine bs1 rfl rfl rfl rfl rfl rfl ?_ | refine bxe rfl rfl rfl rfl ?_ | refine eqb rfl rfl rfl ?_ | refine neb rfl rfl rfl ?_ | refine eqA rfl rfl rfl rfl rfl ?_ | refine neA rfl rfl rfl rfl rfl ?_)
  refine rm rfl rfl rfl (by omega) ?_
  repeat (first | refine nl ?_ | refine AWP.seq ?_ | refine rg ?_ | refine AWP.skip ?_ | refine AWP.block ?_ | refine sm rfl ?_ | refine uw rfl ?_ | refine fa rfl rfl ?_ | refine leW rfl rfl rfl rfl rfl ?_ | refine leW rfl rfl rfl (by assumption) rfl ?_ | refine lcW rfl rfl rfl (St.obj_set _ _ _) rfl rfl ?_ | refine le rfl rfl rfl rfl ?_ | refine le rfl rfl (by assumption) rfl ?_ | refine lnv rfl rfl ?_ | refine lnm rfl rfl ?_ | refine ix rfl rfl rfl rfl (by assumption) ?_ | refine ixm rfl rfl rfl rfl (by assumption) ?_ | refine ix (m := 0) rfl rfl rfl rfl (of_decide_eq_true rfl) ?_ | refine ix (m := 1) rfl rfl rfl rfl (of_decide_eq_true rfl) ?_ | refine ix (m := 2) rfl rfl rfl rfl (of_decide_eq_true rfl) ?_ | refine ix (m := 3) rfl rfl rfl rfl (of_decide_eq_true rfl) ?_ | refine ix (m := 4) rfl rfl rfl rfl (of_decide_eq_true rfl) ?_ | refine ix (m := 5) rfl rfl rfl rfl (of_decide_eq_true rfl) ?_ | refine ix (m := 6) rfl rfl rfl rfl (of_decide_eq_true rfl) ?_ | refine lc rfl rfl (St.obj_set _ _ _) rfl rfl ?_ | refine lc rfl rfl (St.obj_set _ _ _) (by assumption) rfl ?_ | refine lc rfl rfl (by assumption) rfl rfl ?_ | refine lc rfl rfl (by assumption) (by assumption) rfl ?_ | refine inc rfl rfl rfl (by omega) ?_ | refine adn rfl rfl rfl (by omega) ?_ | refine bs1 rfl rfl rfl rfl rfl rfl ?_ | refine bxe rfl rfl rfl rfl ?_ | refine eqb rfl rfl rfl ?_ | refine neb rfl rfl rfl ?_ | refine eqA rfl rfl rfl rfl rfl ?_ | refine neA rfl rfl rfl rfl rfl ?_)
  refine AWP.cond_dec rfl (fun h => ?_) (fun h => AWP.skip ?_)
  · rw [if_pos h] at hm
    have h3 := tmod_gt n k hk
    have h4 := Int.tmod_lt_of_pos n hk
    repeat (first | refine nl ?_ | refine AWP.seq ?_ | refine rg ?_ | refine AWP.skip ?_ | refine AWP.block ?_ | refine sm rfl ?_ | refine uw rfl ?_ | refine fa rfl rfl ?_ | refine leW rfl rfl rfl rfl rfl ?_ | refine leW rfl rfl rfl (by assumption) rfl ?_ | refine lcW rfl rfl rfl (St.obj_set _ _ _) rfl rfl ?_ | refine le rfl rfl rfl rfl ?_ | refine le rfl rfl (by assumption) rfl ?_ | refine lnv rfl rfl ?_ | refine lnm rfl rfl ?_ | refine ix rfl rfl rfl rfl (by assumption) ?_ | refine ixm rfl rfl rfl rfl (by assumption) ?_ | refine ix (m := 0) rfl rfl rfl rfl (of_decide_eq_true rfl) ?_ | refine ix (m := 1) rfl rfl rfl rfl (of_decide_eq_true rfl) ?_ | refine ix (m := 2) rfl rfl rfl rfl (of_decide_eq_true rfl) ?_ | refine ix (m := 3) rfl rfl rfl rfl (of_decide_eq_true rfl) ?_ | refine ix (m := 4) rfl rfl rfl rfl (of_decide_eq_true rfl) ?_ | refine ix (m := 5) rfl rfl rfl rfl (of_decide_eq_true rfl) ?_ | refine ix (m := 6) rfl rfl rfl rfl (of_decide_eq_true rfl) ?_ | refine lc rfl rfl (St.obj_set _ _ _) rfl rfl ?_ | refine lc rfl rfl (St.obj_set _ _ _) (by assumption) rfl ?_ | refine lc rfl rfl (by assumption) rfl rfl ?_ | refine lc rfl rfl (by assumption) (by assumption) rfl ?_ | refine inc rfl rfl rfl (by omega) ?_ | refine adn rfl rfl rfl (by omega) ?_ | refine bs1 rfl rfl rfl rfl rfl rfl ?_ | refine bxe rfl rfl rfl rfl ?_ | refine eqb rfl rfl rfl ?_ | refine neb rfl rfl rfl ?_ | refine eqA rfl rfl rfl rfl rfl ?_ | refine neA rfl rfl rfl rfl rfl ?_)
    refine ad rfl rfl rfl (by omega) ?_
    repeat (first | refine nl ?_ | refine AWP.seq ?_ | refine rg ?_ | refine AWP.skip ?_ | refine AWP.block ?_ | refine sm rfl ?_ | refine uw rfl ?_ | refine fa rfl rfl ?_ | refine leW rfl rfl rfl rfl rfl ?_ | refine leW rfl rfl rfl (by assumption) rfl ?_ | refine lcW rfl rfl rfl (St.obj_set _ _ _) rfl rfl ?_ | refine le rfl rfl rfl rfl ?_ | refine le rfl rfl (by assumption) rfl ?_ | refine lnv rfl rfl ?_ | refine lnm rfl rfl ?_ | refine ix rfl rfl rfl rfl (by assumption) ?_ | refine ixm rfl rfl rfl rfl (by assumption) ?_ | refine ix (m := 0) rfl rfl rfl rfl (of_decide_eq_true rfl) ?_ | refine ix (m := 1) rfl rfl rfl rfl (of_decide_eq_true rfl) ?_ | refine ix (m := 2) rfl rfl rfl rfl (of_decide_eq_true rfl) ?_ | refine ix (m := 3) rfl rfl rfl rfl (of_decide_eq_true rfl) ?_ | refine ix (m := 4) rfl rfl rfl rfl (of_decide_eq_true rfl) ?_ | refine ix (m := 5) rfl rfl rfl rfl (of_decide_eq_true rfl) ?_ | refine ix (m := 6) rfl rfl rfl rfl (of_decide_eq_true rfl) ?_ | refine lc rfl rfl (St.obj_set _ _ _) rfl rfl ?_ | refine lc rfl rfl (St.obj_set _ _ _) (by assumption) rfl ?_ | refine lc rfl rfl (by assumption) rfl rfl ?_ | refine lc rfl rfl (by assumption) (by assumption) rfl ?_ | refine inc rfl rfl rfl (by omega) ?_ | refine adn rfl rfl rfl (by omega) ?_ | refine bs1 rfl rfl rfl rfl rfl rfl ?_ | refine bxe rfl rfl rfl rfl ?_ | refine eqb rfl rfl rfl ?_ | refine neb rfl rfl rfl ?_ | refine eqA rfl rfl rfl rfl rfl ?_ | refine neA rfl rfl rfl rfl rfl ?_)
    refine AWP.ret (rets rfl (.refl _) (.refl _) ⟨?_, rfl⟩)
    rw [hm]
    rfl
  · rw [if_neg h] at hm
    repeat (first | refine nl ?_ | refine AWP.seq ?_ | refine rg ?_ | refine AWP.skip ?_ | refine AWP.block ?_ | refine sm rfl ?_ | refine uw rfl ?_ | refine fa rfl rfl ?_ | refine leW rfl rfl rfl rfl rfl ?_ | refine leW rfl rfl rfl (by assumption) rfl ?_ | refine lcW rfl rfl rfl (St.obj_set _ _ _) rfl rfl ?_ | refine le rfl rfl rfl rfl ?_ | refine le rfl rfl (by assumption) rfl ?_ | refine lnv rfl rfl ?_ | refine lnm rfl rfl ?_ | refine ix rfl rfl rfl rfl (by assumption) ?_ | refine ixm rfl rfl rfl rfl (by assumption) ?_ | refine ix (m := 0) rfl rfl rfl rfl (of_decide_eq_true rfl) ?_ | refine ix (m := 1) rfl rfl rfl rfl (of_decide_eq_true rfl) ?_ | refine ix (m := 2) rfl rfl rfl rfl (of_decide_eq_true rfl) ?_ | refine ix (m := 3) rfl rfl rfl rfl (of_decide_eq_true rfl) ?_ | refine ix (m := 4) rfl rfl rfl rfl (of_decide_eq_true rfl) ?_ | refine ix (m := 5) rfl rfl rfl rfl (of_decide_eq_true rfl) ?_ | refine ix (m := 6) rfl rfl rfl rfl (of_decide_eq_true rfl) ?_ | refine lc rfl rfl (St.obj_set _ _ _) rfl rfl ?_ | refine lc rfl rfl (St.obj_set _ _ _) (by assumption) rfl ?_ | refine lc rfl rfl (by assumption) rfl rfl ?_ | refine lc rfl rfl (by assumption) (by assumption) rfl ?_ | refine inc rfl rfl rfl (by omega) ?_ | refine adn rfl rfl rfl (by omega) ?_ | refine bs1 rfl rfl rfl rfl rfl rfl ?_ | refine bxe rfl rfl rfl rfl ?_ | refine eqb rfl rfl rfl ?_ | refine neb rfl rfl rfl ?_ | refine eqA rfl rfl rfl rfl rfl ?_ | refine neA rfl rfl rfl rfl rfl ?_)
    refine AWP.ret (rets rfl (.refl _) (.refl _) ⟨?_, rfl⟩)
    rw [hm]
    rfl

instance (n : Int) : PureFn Tryd.prog 29 [.int .i64 n] (.bool (reg n)) where
  out st := by
    refine ACalls.ofBody Tryd.func29 rfl Tryd.ntmps29 rfl ?_
    repeat (first | refine nl ?_ | refine AWP.seq ?_ | refine rg ?_ | refine AWP.skip ?_ | refine AWP.block ?_ | refine sm rfl ?_ | refine uw rfl ?_ | refine fa rfl rfl ?_ | refine leW rfl rfl rfl rfl rfl ?_ | refine leW rfl rfl rfl (by assumption) rfl ?_ | refine lcW rfl rfl rfl (St.obj_set _ _ _) rfl rfl ?_ | refine le rfl rfl rfl rfl ?_ | refine le rfl rfl (by assumption) rfl ?_ | refine lnv rfl rfl ?_ | refine lnm rfl rfl ?_ | refine ix rfl rfl rfl rfl (by assumption) ?_ | refine ixm rfl rfl rfl rfl (by assumption) ?_ | refine ix (m := 0) rfl rfl rfl rfl (of_decide_eq_true rfl) ?_ | refine ix (m := 1) rfl rfl rfl rfl (of_decide_eq_true rfl) ?_ | refine ix (m := 2) rfl rfl rfl rfl (of_decide_eq_true rfl) ?_ | refine ix (m := 3) rfl rfl rfl rfl (of_decide_eq_true rfl) ?_ | refine ix (m := 4) rfl rfl rfl rfl (of_decide_eq_true rfl) ?_ | refine ix (m := 5) rfl rfl rfl rfl (of_decide_eq_true rfl) ?_ | refine ix (m := 6) rfl rfl rfl rfl (of_decide_eq_true rfl) ?_ | refine lc rfl rfl (St.obj_set _ _ _) rfl rfl ?_ | refine lc rfl rfl (St.obj_set _ _ _) (by assumption) rfl ?_ | refine lc rfl rfl (by assumption) rfl rfl ?_ | refine lc rfl rfl (by assumption) (by assumption) rfl ?_ | refine inc rfl rfl rfl (by omega) ?_ | refine adn rfl rfl rfl (by omega) ?_ | refine bs1 rfl rfl rfl rfl rfl rfl ?_ | refine bxe rfl rfl rfl rfl ?_ | refine eqb rfl rfl rfl ?_ | refine neb rfl rfl rfl ?_ | refine eqA rfl rfl rfl rfl rfl ?_ | refine neA rfl rfl rfl rfl rfl ?_)
    refine gS rfl (fun h => ?_) (fun h => ?_)
    · repeat (first | refine nl ?_ | refine AWP.seq ?_ | refine rg ?_ | refine AWP.skip ?_ | refine AWP.block ?_ | refine sm rfl ?_ | refine uw rfl ?_ | refine fa rfl rfl ?_ | refine leW rfl rfl rfl rfl rfl ?_ | refine leW rfl rfl rfl (by assumption) rfl ?_ | refine lcW rfl rfl rfl (St.obj_set _ _ _) rfl rfl ?_ | refine le rfl rfl rfl rfl ?_ | refine le rfl rfl (by assumption) rfl ?_ | refine lnv rfl rfl ?_ | refine lnm rfl rfl ?_ | refine ix rfl rfl rfl rfl (by assumption) ?_ | refine ixm rfl rfl rfl rfl (by assumption) ?_ | refine ix (m := 0) rfl rfl rfl rfl (of_decide_eq_true rfl) ?_ | refine ix (m := 1) rfl rfl rfl rfl (of_decide_eq_true rfl) ?_ | refine ix (m := 2) rfl rfl rfl rfl (of_decide_eq_true rfl) ?_ | refine ix (m := 3) rfl rfl rfl rfl (of_decide_eq_true rfl) ?_ | refine ix (m := 4) rfl rfl rfl rfl (of_decide_eq_true rfl) ?_ | refine ix (m := 5) rfl rfl rfl rfl (of_decide_eq_true rfl) ?_ | refine ix (m := 6) rfl rfl rfl rfl (of_decide_eq_true rfl) ?_ | refine lc rfl rfl (St.obj_set _ _ _) rfl rfl ?_ | refine lc rfl rfl (St.obj_set _ _ _) (by assumption) rfl ?_ | refine lc rfl rfl (by assumption) rfl rfl ?_ | refine lc rfl rfl (by assumption) (by assumption) rfl ?_ | refine inc rfl rfl rfl (by omega) ?_ | refine adn rfl rfl rfl (by omega) ?_ | refine bs1 rfl rfl rfl rfl rfl rfl ?_ | refine bxe rfl rfl rfl rfl ?_ | refine eqb rfl rfl rfl ?_ | refine neb rfl rfl rfl ?_ | refine eqA rfl rfl rfl rfl rfl ?_ | refine neA rfl rfl rfl rfl rfl ?_)
      exact AWP.ret (rets rfl (.refl _) (.refl _) ⟨by simp [packA, reg, show 0 ≤ n from h], rfl⟩)
    · repeat (first | refine nl ?_ | refine AWP.seq ?_ | refine rg ?_ | refine AWP.skip ?_ | refine AWP.block ?_ | refine sm rfl ?_ | refine uw rfl ?_ | refine fa rfl rfl ?_ | refine leW rfl rfl rfl rfl rfl ?_ | refine leW rfl rfl rfl (by assumption) rfl ?_ | refine lcW rfl rfl rfl (St.obj_set _ _ _) rfl rfl ?_ | refine le rfl rfl rfl rfl ?_ | refine le rfl rfl (by assumption) rfl ?_ | refine lnv rfl rfl ?_ | refine lnm rfl rfl ?_ | refine ix rfl rfl rfl rfl (by assumption) ?_ | refine ixm rfl rfl rfl rfl (by assumption) ?_ | refine ix (m := 0) rfl rfl rfl rfl (of_decide_eq_true rfl) ?_ | refine ix (m := 1) rfl rfl rfl rfl (of_decide_eq_true rfl) ?_ | refine ix (m := 2) rfl rfl rfl rfl (of_decide_eq_true rfl) ?_ | refine ix (m := 3) rfl rfl rfl rfl (of_decide_eq_true rfl) ?_ | refine ix (m := 4) rfl rfl rfl rfl (of_decide_eq_true rfl) ?_ | refine ix (m := 5) rfl rfl rfl rfl (of_decide_eq_true rfl) ?_ | refine ix (m := 6) rfl rfl rfl rfl (of_decide_eq_true rfl) ?_ | refine lc rfl rfl (St.obj_set _ _ _) rfl rfl ?_ | refine lc rfl rfl (St.obj_set _ _ _) (by assumption) rfl ?_ | refine lc rfl rfl (by assumption) rfl rfl ?_ | refine lc rfl rfl (by assumption) (by assumption) rfl ?_ | refine inc rfl rfl rfl (by omega) ?_ | refine adn rfl rfl rfl (by omega) ?_ | refine bs1 rfl rfl rfl rfl rfl rfl ?_ | refine bxe rfl rfl rfl rfl ?_ | refine eqb rfl rfl rfl ?_ | refine neb rfl rfl rfl ?_ | refine eqA rfl rfl rfl rfl rfl ?_ | refine neA rfl rfl rfl rfl rfl ?_)
      exact AWP.ret (rets rfl (.refl _) (.refl _) ⟨by simp [packA, reg, absV, abs1, show ¬ 0 ≤ n from h], rfl⟩)
instance (n : Int) : PureFn Tryd.prog 31 [.int .i64 n] (.bool (reg n)) where
  out st := by
    refine ACalls.ofBody Tryd.func31 rfl Tryd.ntmps31 rfl ?_
    repeat (first | refine nl ?_ | refine AWP.seq ?_ | refine rg ?_ | refine AWP.skip ?_ | refine AWP.block ?_ | refine sm rfl ?_ | refine uw rfl ?_ | refine fa rfl rfl ?_ | refine leW rfl rfl rfl rfl rfl ?_ | refine leW rfl rfl rfl (by assumption) rfl ?_ | refine lcW rfl rfl rfl (St.obj_set _ _ _) rfl rfl ?_ | refine le rfl rfl rfl rfl ?_ | refine le rfl rfl (by assumption) rfl ?_ | refine lnv rfl rfl ?_ | refine lnm rfl rfl ?_ | refine ix rfl rfl rfl rfl (by assumption) ?_ | refine ixm rfl rfl rfl rfl (by assumption) ?_ | refine ix (m := 0) rfl rfl rfl rfl (of_decide_eq_true rfl) ?_ | refine ix (m := 1) rfl rfl rfl rfl (of_decide_eq_true rfl) ?_ | refine ix (m := 2) rfl rfl rfl rfl (of_decide_eq_true rfl) ?_ | refine ix (m := 3) rfl rfl rfl rfl (of_decide_eq_true rfl) ?_ | refine ix (m := 4) rfl rfl rfl rfl (of_decide_eq_true rfl) ?_ | refine ix (m := 5) rfl rfl rfl rfl (of_decide_eq_true rfl) ?_ | refine ix (m := 6) rfl rfl rfl rfl (of_decide_eq_true rfl) ?_ | refine lc rfl rfl (St.obj_set _ _ _) rfl rfl ?_ | refine lc rfl rfl (St.obj_set _ _ _) (by assumption) rfl ?_ | refine lc rfl rfl (by assumption) rfl rfl ?_ | refine lc rfl rfl (by assumption) (by assumption) rfl ?_ | refine inc rfl rfl rfl (by omega) ?_ | refine adn rfl rfl rfl (by omega) ?_ | refine bs1 rfl rfl rfl rfl rfl rfl ?_ | refine bxe rfl rfl rfl rfl ?_ | refine eqb rfl rfl rfl ?_ | refine neb rfl rfl rfl ?_ | refine eqA rfl rfl rfl rfl rfl ?_ | refine neA rfl rfl rfl rfl rfl ?_)
    refine gS rfl (fun h => ?_) (fun h => ?_)
    · repeat (first | refine nl ?_ | refine AWP.seq ?_ | refine rg ?_ | refine AWP.skip ?_ | refine AWP.block ?_ | refine sm rfl ?_ | refine uw rfl ?_ | refine fa rfl rfl ?_ | refine leW rfl rfl rfl rfl rfl ?_ | refine leW rfl rfl rfl (by assumption) rfl ?_ | refine lcW rfl rfl rfl (St.obj_set _ _ _) rfl rfl ?_ | refine le rfl rfl rfl rfl ?_ | refine le rfl rfl (by assumption) rfl ?_ | refine lnv rfl rfl ?_ | refine lnm rfl rfl ?_ | refine ix rfl rfl rfl rfl (by assumption) ?_ | refine ixm rfl rfl rfl rfl (by assumption) ?_ | refine ix (m := 0) rfl rfl rfl rfl (of_decide_eq_true rfl) ?_ | refine ix (m := 1) rfl rfl rfl rfl (of_decide_eq_true rfl) ?_ | refine ix (m := 2) rfl rfl rfl rfl (of_decide_eq_true rfl) ?_ | refine ix (m := 3) rfl rfl rfl rfl (of_decide_eq_true rfl) ?_ | refine ix (m := 4) rfl rfl rfl rfl (of_decide_eq_true rfl) ?_ | refine ix (m := 5) rfl rfl rfl rfl (of_decide_eq_true rfl) ?_ | refine ix (m := 6) rfl rfl rfl rfl (of_decide_eq_true rfl) ?_ | refine lc rfl rfl (St.obj_set _ _ _) rfl rfl ?_ | refine lc rfl rfl (St.obj_set _ _ _) (by assumption) rfl ?_ | refine lc rfl rfl (by assumption) rfl rfl ?_ | refine lc rfl rfl (by assumption) (by assumption) rfl ?_ | refine inc rfl rfl rfl (by omega) ?_ | refine adn rfl rfl rfl (by omega) ?_ | refine bs1 rfl rfl rfl rfl rfl rfl ?_ | refine bxe rfl rfl rfl rfl ?_ | refine eqb rfl rfl rfl ?_ | refine neb rfl rfl rfl ?_ | refine eqA rfl rfl rfl rfl rfl ?_ | refine neA rfl rfl rfl rfl rfl ?_)
      exact AWP.ret (rets rfl (.refl _) (.refl _) ⟨by simp [packA, reg, show 0 ≤ n from h], rfl⟩)
    · repeat (first | refine nl ?_ | refine AWP.seq ?_ | refine rg ?_ | refine AWP.skip ?_ | refine AWP.block ?_ | refine sm rfl ?_ | refine uw rfl ?_ | refine fa rfl rfl ?_ | refine leW rfl rfl rfl rfl rfl ?_ | refine leW rfl rfl rfl (by assumption) rfl ?_ | refine lcW rfl rfl rfl (St.obj_set _ _ _) rfl rfl ?_ | refine le rfl rfl rfl rfl ?_ | refine le rfl rfl (by assumption) rfl ?_ | refine lnv rfl rfl ?_ | refine lnm rfl rfl ?_ | refine ix rfl rfl rfl rfl (by assumption) ?_ | refine ixm rfl rfl rfl rfl (by assumption) ?_ | refine ix (m := 0) rfl rfl rfl rfl (of_decide_eq_true rfl) ?_ | refine ix (m := 1) rfl rfl rfl rfl (of_decide_eq_true rfl) ?_ | refine ix (m := 2) rfl rfl rfl rfl (of_decide_eq_true rfl) ?_ | refine ix (m := 3) rfl rfl rfl rfl (of_decide_eq_true rfl) ?_ | refine ix (m := 4) rfl rfl rfl rfl (of_decide_eq_true rfl) ?_ | refine ix (m := 5) rfl rfl rfl rfl (of_decide_eq_true rfl) ?_ | refine ix (m := 6) rfl rfl rfl rfl (of_decide_eq_true rfl) ?_ | refine lc rfl rfl (St.obj_set _ _ _) rfl rfl ?_ | refine lc rfl rfl (St.obj_set _ _ _) (by assumption) rfl ?_ | refine lc rfl rfl (by assumption) rfl rfl ?_ | refine lc rfl rfl (by assumption) (by assumption) rfl ?_ | refine inc rfl rfl rfl (by omega) ?_ | refine adn rfl rfl rfl (by omega) ?_ | refine bs1 rfl rfl rfl rfl rfl rfl ?_ | refine bxe rfl rfl rfl rfl ?_ | refine eqb rfl rfl rfl ?_ | refine neb rfl rfl rfl ?_ | refine eqA rfl rfl rfl rfl rfl ?_ | refine neA rfl rfl rfl rfl rfl ?_)
      exact AWP.ret (rets rfl (.refl _) (.refl _) ⟨by simp [packA, reg, absV, abs1, show ¬ 0 ≤ n from h], rfl⟩)
instance (n : Int) : PureFn Tryd.prog 30 [.int .i64 n] (.bool (opr n)) where
  out st := by
    refine ACalls.ofBody Tryd.func30 rfl Tryd.ntmps30 rfl ?_
    repeat (first | refine nl ?_ | refine AWP.seq ?_ | refine rg ?_ | refine AWP.skip ?_ | refine AWP.block ?_ | refine sm rfl ?_ | refine uw rfl ?_ | refine fa rfl rfl ?_ | refine leW rfl rfl rfl rfl rfl ?_ | refine leW rfl rfl rfl (by assumption) rfl ?_ | refine lcW rfl rfl rfl (St.obj_set _ _ _) rfl rfl ?_ | refine le rfl rfl rfl rfl ?_ | refine le rfl rfl (by assumption) rfl ?_ | refine lnv rfl rfl ?_ | refine lnm rfl rfl ?_ | refine ix rfl rfl rfl rfl (by assumption) ?_ | refine ixm rfl rfl rfl rfl (by assumption) ?_ | refine ix (m := 0) rfl rfl rfl rfl (of_decide_eq_true rfl) ?_ | refine ix (m := 1) rfl rfl rfl rfl (of_decide_eq_true rfl) ?_ | refine ix (m := 2) rfl rfl rfl rfl (of_decide_eq_true rfl) ?_ | refine ix (m := 3) rfl rfl rfl rfl (of_decide_eq_true rfl) ?_ | refine ix (m := 4) rfl rfl rfl rfl (of_decide_eq_true rfl) ?_ | refine ix (m := 5) rfl rfl rfl rfl (of_decide_eq_true rfl) ?_ | refine ix (m := 6) rfl rfl rfl rfl (of_decide_eq_true rfl) ?_ | refine lc rfl rfl (St.obj_set _ _ _) rfl rfl ?_ | refine lc rfl rfl (St.obj_set _ _ _) (by assumption) rfl ?_ | refine lc rfl rfl (by assumption) rfl rfl ?_ | refine lc rfl rfl (by assumption) (by assumption) rfl ?_ | refine inc rfl rfl rfl (by omega) ?_ | refine adn rfl rfl rfl (by omega) ?_ | refine bs1 rfl rfl rfl rfl rfl rfl ?_ | refine bxe rfl rfl rfl rfl ?_ | refine eqb rfl rfl rfl ?_ | refine neb rfl rfl rfl ?_ | refine eqA rfl rfl rfl rfl rfl ?_ | refine neA rfl rfl rfl rfl rfl ?_)
    refine gS rfl (fun h => ?_) (fun h => ?_)
    · repeat (first | refine nl ?_ | refine AWP.seq ?_ | refine rg ?_ | refine AWP.skip ?_ | refine AWP.block ?_ | refine sm rfl ?_ | refine uw rfl ?_ | refine fa rfl rfl ?_ | refine leW rfl rfl rfl rfl rfl ?_ | refine leW rfl rfl rfl (by assumption) rfl ?_ | refine lcW rfl rfl rfl (St.obj_set _ _ _) rfl rfl ?_ | refine le rfl rfl rfl rfl ?_ | refine le rfl rfl (by assumption) rfl ?_ | refine lnv rfl rfl ?_ | refine lnm rfl rfl ?_ | refine ix rfl rfl rfl rfl (by assumption) ?_ | refine ixm rfl rfl rfl rfl (by assumption) ?_ | refine ix (m := 0) rfl rfl rfl rfl (of_decide_eq_true rfl) ?_ | refine ix (m := 1) rfl rfl rfl rfl (of_decide_eq_true rfl) ?_ | refine ix (m := 2) rfl rfl rfl rfl (of_decide_eq_true rfl) ?_ | refine ix (m := 3) rfl rfl rfl rfl (of_decide_eq_true rfl) ?_ | refine ix (m := 4) rfl rfl rfl rfl (of_decide_eq_true rfl) ?_ | refine ix (m := 5) rfl rfl rfl rfl (of_decide_eq_true rfl) ?_ | refine ix (m := 6) rfl rfl rfl rfl (of_decide_eq_true rfl) ?_ | refine lc rfl rfl (St.obj_set _ _ _) rfl rfl ?_ | refine lc rfl rfl (St.obj_set _ _ _) (by assumption) rfl ?_ | refine lc rfl rfl (by assumption) rfl rfl ?_ | refine lc rfl rfl (by assumption) (by assumption) rfl ?_ | refine inc rfl rfl rfl (by omega) ?_ | refine adn rfl rfl rfl (by omega) ?_ | refine bs1 rfl rfl rfl rfl rfl rfl ?_ | refine bxe rfl rfl rfl rfl ?_ | refine eqb rfl rfl rfl ?_ | refine neb rfl rfl rfl ?_ | refine eqA rfl rfl rfl rfl rfl ?_ | refine neA rfl rfl rfl rfl rfl ?_)
      exact AWP.ret (rets rfl (.refl _) (.refl _) ⟨by simp [packA, opr, show 1 ≤ n from h], rfl⟩)
    · repeat (first | refine nl ?_ | refine AWP.seq ?_ | refine rg ?_ | refine AWP.skip ?_ | refine AWP.block ?_ | refine sm rfl ?_ | refine uw rfl ?_ | refine fa rfl rfl ?_ | refine leW rfl rfl rfl rfl rfl ?_ | refine leW rfl rfl rfl (by assumption) rfl ?_ | refine lcW rfl rfl rfl (St.obj_set _ _ _) rfl rfl ?_ | refine le rfl rfl rfl rfl ?_ | refine le rfl rfl (by assumption) rfl ?_ | refine lnv rfl rfl ?_ | refine lnm rfl rfl ?_ | refine ix rfl rfl rfl rfl (by assumption) ?_ | refine ixm rfl rfl rfl rfl (by assumption) ?_ | refine ix (m := 0) rfl rfl rfl rfl (of_decide_eq_true rfl) ?_ | refine ix (m := 1) rfl rfl rfl rfl (of_decide_eq_true rfl) ?_ | refine ix (m := 2) rfl rfl rfl rfl (of_decide_eq_true rfl) ?_ | refine ix (m := 3) rfl rfl rfl rfl (of_decide_eq_true rfl) ?_ | refine ix (m := 4) rfl rfl rfl rfl (of_decide_eq_true rfl) ?_ | refine ix (m := 5) rfl rfl rfl rfl (of_decide_eq_true rfl) ?_ | refine ix (m := 6) rfl rfl rfl rfl (of_decide_eq_true rfl) ?_ | refine lc rfl rfl (St.obj_set _ _ _) rfl rfl ?_ | refine lc rfl rfl (St.obj_set _ _ _) (by assumption) rfl ?_ | refine lc rfl rfl (by assumption) rfl rfl ?_ | refine lc rfl rfl (by assumption) (by assumption) rfl ?_ | refine inc rfl rfl rfl (by omega) ?_ | refine adn rfl rfl rfl (by omega) ?_ | refine bs1 rfl rfl rfl rfl rfl rfl ?_ | refine bxe rfl rfl rfl rfl ?_ | refine eqb rfl rfl rfl ?_ | refine neb rfl rfl rfl ?_ | refine eqA rfl rfl rfl rfl rfl ?_ | refine neA rfl rfl rfl rfl rfl ?_)
      exact AWP.ret (rets rfl (.refl _) (.refl _) ⟨by simp [packA, opr, absV, abs1, show ¬ 1 ≤ n from h], rfl⟩)
theorem shl_w {a : Int} {k : Nat} (h : w64 (a * 2 ^ k)) (hk : k ≤ 64) : IntKind.i64.wrap (a * 2 ^ (min k IntKind.i64.bits)) = a * 2 ^ k := by
  rw [show min k IntKind.i64.bits = k from Nat.min_eq_left hk]
  exact wrap64 h
theorem shl8 {a : Int} (h : w64 (a * 256)) : IntKind.i64.wrap (a * 2 ^ (min 8 IntKind.i64.bits)) = a * 256 := shl_w (k := 8) h (by decide)
theorem shl16 {a : Int} (h : w64 (a * 65536)) : IntKind.i64.wrap (a * 2 ^ (min 16 IntKind.i64.bits)) = a * 65536 := shl_w (k := 16) h (by decide)
theorem shl24 {a : Int} (h : w64 (a * 16777216)) : IntKind.i64.wrap (a * 2 ^ (min 24 IntKind.i64.bits)) = a * 16777216 := shl_w (k := 24) h (by decide)
theorem shl32 {a : Int} (h : w64 (a * 4294967296)) : IntKind.i64.wrap (a * 2 ^ (min 32 IntKind.i64.bits)) = a * 4294967296 := shl_w (k := 32) h (by decide)
theorem or8 {lo hi : Int} (h0 : 0 ≤ lo ∧ lo < 256) (hr : w64 (lo + hi * 256)) : bits .or .i64 lo (hi * 256) = lo + hi * 256 ∧ bits .or .i64 (hi * 256) lo = lo + hi * 256 := or_lo_hi 8 (by decide) lo hi h0 hr
theorem or16 {lo hi : Int} (h0 : 0 ≤ lo ∧ lo < 65536) (hr : w64 (lo + hi * 65536)) : bits .or .i64 lo (hi * 65536) = lo + hi * 65536 ∧ bits .or .i64 (hi * 65536) lo = lo + hi * 65536 := or_lo_hi 16 (by decide) lo hi h0 hr
theorem or24 {lo hi : Int} (h0 : 0 ≤ lo ∧ lo < 16777216) (hr : w64 (lo + hi * 16777216)) : bits .or .i64 lo (hi * 16777216) = lo + hi * 16777216 ∧ bits .or .i64 (hi * 16777216) lo = lo + hi * 16777216 := or_lo_hi 24 (by decide) lo hi h0 hr
theorem or32 {lo hi : Int} (h0 : 0 ≤ lo ∧ lo < 4294967296) (hr : w64 (lo + hi * 4294967296)) : bits .or .i64 lo (hi * 4294967296) = lo + hi * 4294967296 ∧ bits .or .i64 (hi * 4294967296) lo = lo + hi * 4294967296 := or_lo_hi 32 (by decide) lo hi h0 hr
theorem insRow_mk (op a b c imm : Int) : insRow ⟨op, a, b, c, imm⟩ = [.int .i64 op, .int .i64 a, .int .i64 b, .int .i64 c, .int .i64 imm] := rfl
theorem encF {i : Ins} (h : rngOk i = false) : encV i = .tuple [.int .i64 0, .int .i64 2] := by simp [encV, enc, h]
theorem encG {i : Ins} (h : rngOk i = true) (h2 : opr i.op = false) : encV i = .tuple [.int .i64 0, .int .i64 4] := by simp [encV, enc, h, h2]
theorem encH {i : Ins} (h : rngOk i = true) (h2 : opr i.op = true) : encV i = .tuple [.int .i64 (word i), .int .i64 0] := by simp [encV, enc, h, h2]
theorem rng_false {i : Ins} (h : ¬ ((-2147483648 ≤ i.imm ∧ i.imm < 2147483648) ∧ reg i.a = true ∧ reg i.b = true ∧ reg i.c = true)) : rngOk i = false := by
  cases h2 : rngOk i with
  | false => rfl
  | true =>
    rw [rng_iff] at h2
    exact absurd ⟨h2.1, reg_iff.2 h2.2.1, reg_iff.2 h2.2.2.1, reg_iff.2 h2.2.2.2⟩ h
theorem rng_true {i : Ins} (h : (-2147483648 ≤ i.imm ∧ i.imm < 2147483648) ∧ reg i.a = true ∧ reg i.b = true ∧ reg i.c = true) : rngOk i = true := by
  rw [rng_iff]
  exact ⟨h.1, reg_iff.1 h.2.1, reg_iff.1 h.2.2.1, reg_iff.1 h.2.2.2⟩
set_option maxHeartbeats 2000000 in
instance encode_ok (i : Ins) : PureFn Tryd.prog 10 [.agg (insRow i)] (encV i) where
  out st := by
    refine ACalls.ofBody Tryd.func10 rfl Tryd.ntmps10 rfl ?_
    obtain ⟨op, a, b, c, imm⟩ := i
    rw [insRow_mk]
    repeat (first | refine nl ?_ | refine AWP.seq ?_ | refine rg ?_ | refine AWP.skip ?_ | refine AWP.block ?_ | refine YH (z := ?_) | refine YI (z := ?_) | refine ZA (z := ?_) | refine ZB (z := ?_) | refine ZC (z := ?_) | refine ZD (z := ?_) | refine ZE (z := ?_) | refine ZF (z := ?_) | refine ZJ (z := ?_) | refine ZK (z := ?_) | refine ZM (z := ?_) | refine ZH (z := ?_) | refine ZO (z := ?_) | refine ZQ (z := ?_) | refine ZR (z := ?_) | refine ZT (z := ?_) | refine ZU (z := ?_) | refine YA (z := ?_) | refine ZG (z := ?_) | refine ZI (z := ?_) | refine YC (z := ?_) | refine YD (z := ?_) | refine YE (z := ?_))
    refine gS rfl (fun h1 => ?_) (fun h1 => ?_)
    · have hr : rngOk ⟨op, a, b, c, imm⟩ = false := rng_false (fun h => by have := h.1; have h1' : imm < -2147483648 := h1; simp only at this; omega)
      repeat (first | refine nl ?_ | refine AWP.seq ?_ | refine rg ?_ | refine AWP.skip ?_ | refine AWP.block ?_ | refine YH (z := ?_) | refine YI (z := ?_) | refine ZA (z := ?_) | refine ZB (z := ?_) | refine ZC (z := ?_) | refine ZD (z := ?_) | refine ZE (z := ?_) | refine ZF (z := ?_) | refine ZJ (z := ?_) | refine ZK (z := ?_) | refine ZM (z := ?_) | refine ZH (z := ?_) | refine ZO (z := ?_) | refine ZQ (z := ?_) | refine ZR (z := ?_) | refine ZT (z := ?_) | refine ZU (z := ?_) | refine YA (z := ?_) | refine ZG (z := ?_) | refine ZI (z := ?_) | refine YC (z := ?_) | refine YD (z := ?_) | refine YE (z := ?_))
      exact AWP.ret (rets rfl (.refl _) (.refl _) ⟨by rw [encF hr]; rfl, rfl⟩)
    repeat (first | refine nl ?_ | refine AWP.seq ?_ | refine rg ?_ | refine AWP.skip ?_ | refine AWP.block ?_ | refine YH (z := ?_) | refine YI (z := ?_) | refine ZA (z := ?_) | refine ZB (z := ?_) | refine ZC (z := ?_) | refine ZD (z := ?_) | refine ZE (z := ?_) | refine ZF (z := ?_) | refine ZJ (z := ?_) | refine ZK (z := ?_) | refine ZM (z := ?_) | refine ZH (z := ?_) | refine ZO (z := ?_) | refine ZQ (z := ?_) | refine ZR (z := ?_) | refine ZT (z := ?_) | refine ZU (z := ?_) | refine YA (z := ?_) | refine ZG (z := ?_) | refine ZI (z := ?_) | refine YC (z := ?_) | refine YD (z := ?_) | refine YE (z := ?_))
    refine gS rfl (fun h2 => ?_) (fun h2 => ?_)
    · have hr : rngOk ⟨op, a, b, c, imm⟩ = false := rng_false (fun h => by have := h.1; have h2' : 2147483647 < imm := h2; simp only at this; omega)
      repeat (first | refine nl ?_ | refine AWP.seq ?_ | refine rg ?_ | refine AWP.skip ?_ | refine AWP.block ?_ | refine YH (z := ?_) | refine YI (z := ?_) | refine ZA (z := ?_) | refine ZB (z := ?_) | refine ZC (z := ?_) | refine ZD (z := ?_) | refine ZE (z := ?_) | refine ZF (z := ?_) | refine ZJ (z := ?_) | refine ZK (z := ?_) | refine ZM (z := ?_) | refine ZH (z := ?_) | refine ZO (z := ?_) | refine ZQ (z := ?_) | refine ZR (z := ?_) | refine ZT (z := ?_) | refine ZU (z := ?_) | refine YA (z := ?_) | refine ZG (z := ?_) | refine ZI (z := ?_) | refine YC (z := ?_) | refine YD (z := ?_) | refine YE (z := ?_))
      exact AWP.ret (rets rfl (.refl _) (.refl _) ⟨by rw [encF hr]; rfl, rfl⟩)
    repeat (first | refine nl ?_ | refine AWP.seq ?_ | refine rg ?_ | refine AWP.skip ?_ | refine AWP.block ?_ | refine YH (z := ?_) | refine YI (z := ?_) | refine ZA (z := ?_) | refine ZB (z := ?_) | refine ZC (z := ?_) | refine ZD (z := ?_) | refine ZE (z := ?_) | refine ZF (z := ?_) | refine ZJ (z := ?_) | refine ZK (z := ?_) | refine ZM (z := ?_) | refine ZH (z := ?_) | refine ZO (z := ?_) | refine ZQ (z := ?_) | refine ZR (z := ?_) | refine ZT (z := ?_) | refine ZU (z := ?_) | refine YA (z := ?_) | refine ZG (z := ?_) | refine ZI (z := ?_) | refine YC (z := ?_) | refine YD (z := ?_) | refine YE (z := ?_))
    refine gSB rfl (fun ha => ?_) (fun ha => ?_)
    · have h' : reg a = false := by simpa using ha
      have hr : rngOk ⟨op, a, b, c, imm⟩ = false := rng_false (fun h => by have := h.2; simp only at this; simp_all)
      repeat (first | refine nl ?_ | refine AWP.seq ?_ | refine rg ?_ | refine AWP.skip ?_ | refine AWP.block ?_ | refine YH (z := ?_) | refine YI (z := ?_) | refine ZA (z := ?_) | refine ZB (z := ?_) | refine ZC (z := ?_) | refine ZD (z := ?_) | refine ZE (z := ?_) | refine ZF (z := ?_) | refine ZJ (z := ?_) | refine ZK (z := ?_) | refine ZM (z := ?_) | refine ZH (z := ?_) | refine ZO (z := ?_) | refine ZQ (z := ?_) | refine ZR (z := ?_) | refine ZT (z := ?_) | refine ZU (z := ?_) | refine YA (z := ?_) | refine ZG (z := ?_) | refine ZI (z := ?_) | refine YC (z := ?_) | refine YD (z := ?_) | refine YE (z := ?_))
      exact AWP.ret (rets rfl (.refl _) (.refl _) ⟨by rw [encF hr]; rfl, rfl⟩)
    repeat (first | refine nl ?_ | refine AWP.seq ?_ | refine rg ?_ | refine AWP.skip ?_ | refine AWP.block ?_ | refine YH (z := ?_) | refine YI (z := ?_) | refine ZA (z := ?_) | refine ZB (z := ?_) | refine ZC (z := ?_) | refine ZD (z := ?_) | refine ZE (z := ?_) | refine ZF (z := ?_) | refine ZJ (z := ?_) | refine ZK (z := ?_) | refine ZM (z := ?_) | refine ZH (z := ?_) | refine ZO (z := ?_) | refine ZQ (z := ?_) | refine ZR (z := ?_) | refine ZT (z := ?_) | refine ZU (z := ?_) | refine YA (z := ?_) | refine ZG (z := ?_) | refine ZI (z := ?_) | refine YC (z := ?_) | refine YD (z := ?_) | refine YE (z := ?_))
    refine gSB rfl (fun hb => ?_) (fun hb => ?_)
    · have h' : reg b = false := by simpa using hb
      have hr : rngOk ⟨op, a, b, c, imm⟩ = false := rng_false (fun h => by have := h.2; simp only at this; simp_all)
      repeat (first | refine nl ?_ | refine AWP.seq ?_ | refine rg ?_ | refine AWP.skip ?_ | refine AWP.block ?_ | refine YH (z := ?_) | refine YI (z := ?_) | refine ZA (z := ?_) | refine ZB (z := ?_) | refine ZC (z := ?_) | refine ZD (z := ?_) | refine ZE (z := ?_) | refine ZF (z := ?_) | refine ZJ (z := ?_) | refine ZK (z := ?_) | refine ZM (z := ?_) | refine ZH (z := ?_) | refine ZO (z := ?_) | refine ZQ (z := ?_) | refine ZR (z := ?_) | refine ZT (z := ?_) | refine ZU (z := ?_) | refine YA (z := ?_) | refine ZG (z := ?_) | refine ZI (z := ?_) | refine YC (z := ?_) | refine YD (z := ?_) | refine YE (z := ?_))
      exact AWP.ret (rets rfl (.refl _) (.refl _) ⟨by rw [encF hr]; rfl, rfl⟩)
    repeat (first | refine nl ?_ | refine AWP.seq ?_ | refine rg ?_ | refine AWP.skip ?_ | refine AWP.block ?_ | refine YH (z := ?_) | refine YI (z := ?_) | refine ZA (z := ?_) | refine ZB (z := ?_) | refine ZC (z := ?_) | refine ZD (z := ?_) | refine ZE (z := ?_) | refine ZF (z := ?_) | refine ZJ (z := ?_) | refine ZK (z := ?_) | refine ZM (z := ?_) | refine ZH (z := ?_) | refine ZO (z := ?_) | refine ZQ (z := ?_) | refine ZR (z := ?_) | refine ZT (z := ?_) | refine ZU (z := ?_) | refine YA (z := ?_) | refine ZG (z := ?_) | refine ZI (z := ?_) | refine YC (z := ?_) | refine YD (z := ?_) | refine YE (z := ?_))
    refine AWP.cond_bool rfl (fun hc => ?_) (fun hc => AWP.skip ?_)
    · have h' : reg c = false := by simpa using hc
      have hr : rngOk ⟨op, a, b, c, imm⟩ = false := rng_false (fun h => by have := h.2; simp only at this; simp_all)
      repeat (first | refine nl ?_ | refine AWP.seq ?_ | refine rg ?_ | refine AWP.skip ?_ | refine AWP.block ?_ | refine YH (z := ?_) | refine YI (z := ?_) | refine ZA (z := ?_) | refine ZB (z := ?_) | refine ZC (z := ?_) | refine ZD (z := ?_) | refine ZE (z := ?_) | refine ZF (z := ?_) | refine ZJ (z := ?_) | refine ZK (z := ?_) | refine ZM (z := ?_) | refine ZH (z := ?_) | refine ZO (z := ?_) | refine ZQ (z := ?_) | refine ZR (z := ?_) | refine ZT (z := ?_) | refine ZU (z := ?_) | refine YA (z := ?_) | refine ZG (z := ?_) | refine ZI (z := ?_) | refine YC (z := ?_) | refine YD (z := ?_) | refine YE (z := ?_))
      exact AWP.ret (rets rfl (.refl _) (.refl _) ⟨by rw [encF hr]; rfl, rfl⟩)
    have hr : rngOk ⟨op, a, b, c, imm⟩ = true := rng_true ⟨⟨by have h1' : ¬ imm < -2147483648 := h1; simp only; omega, by have h2' : ¬ 2147483647 < imm := h2; simp only; omega⟩, by simpa using ha, by simpa using hb, by simpa using hc⟩
    have hq := rng_iff.1 hr
    simp only at hq
    repeat (first | refine nl ?_ | refine AWP.seq ?_ | refine rg ?_ | refine AWP.skip ?_ | refine AWP.block ?_ | refine YH (z := ?_) | refine YI (z := ?_) | refine ZA (z := ?_) | refine ZB (z := ?_) | refine ZC (z := ?_) | refine ZD (z := ?_) | refine ZE (z := ?_) | refine ZF (z := ?_) | refine ZJ (z := ?_) | refine ZK (z := ?_) | refine ZM (z := ?_) | refine ZH (z := ?_) | refine ZO (z := ?_) | refine ZQ (z := ?_) | refine ZR (z := ?_) | refine ZT (z := ?_) | refine ZU (z := ?_) | refine YA (z := ?_) | refine ZG (z := ?_) | refine ZI (z := ?_) | refine YC (z := ?_) | refine YD (z := ?_) | refine YE (z := ?_))
    refine AWP.cond_bool rfl (fun ho => ?_) (fun ho => AWP.skip ?_)
    · have ho' : opr op = false := by simpa using ho
      repeat (first | refine nl ?_ | refine AWP.seq ?_ | refine rg ?_ | refine AWP.skip ?_ | refine AWP.block ?_ | refine YH (z := ?_) | refine YI (z := ?_) | refine ZA (z := ?_) | refine ZB (z := ?_) | refine ZC (z := ?_) | refine ZD (z := ?_) | refine ZE (z := ?_) | refine ZF (z := ?_) | refine ZJ (z := ?_) | refine ZK (z := ?_) | refine ZM (z := ?_) | refine ZH (z := ?_) | refine ZO (z := ?_) | refine ZQ (z := ?_) | refine ZR (z := ?_) | refine ZT (z := ?_) | refine ZU (z := ?_) | refine YA (z := ?_) | refine ZG (z := ?_) | refine ZI (z := ?_) | refine YC (z := ?_) | refine YD (z := ?_) | refine YE (z := ?_))
      exact AWP.ret (rets rfl (.refl _) (.refl _) ⟨by rw [encG hr ho']; rfl, rfl⟩)
    have hop : opr op = true := by simpa using ho
    repeat (first | refine nl ?_ | refine AWP.seq ?_ | refine rg ?_ | refine AWP.skip ?_ | refine AWP.block ?_ | refine YH (z := ?_) | refine YI (z := ?_) | refine ZA (z := ?_) | refine ZB (z := ?_) | refine ZC (z := ?_) | refine ZD (z := ?_) | refine ZE (z := ?_) | refine ZF (z := ?_) | refine ZJ (z := ?_) | refine ZK (z := ?_) | refine ZM (z := ?_) | refine ZH (z := ?_) | refine ZO (z := ?_) | refine ZQ (z := ?_) | refine ZR (z := ?_) | refine ZT (z := ?_) | refine ZU (z := ?_) | refine YA (z := ?_) | refine ZG (z := ?_) | refine ZI (z := ?_) | refine YC (z := ?_) | refine YD (z := ?_) | refine YE (z := ?_))
    have hw : w64 (word ⟨op, a, b, c, imm⟩) := word_range hr hop
    have hq2 := opr_iff.1 hop
    simp only [word] at hw
    unfold w64 at hw
    refine shl_ (c := a * 256) (b := 8) rfl rfl rfl (shl8 (by unfold w64; omega)) ?_
    repeat (first | refine ZA (z := ?_) | refine ZB (z := ?_) | refine ZC (z := ?_) | refine ZD (z := ?_) | refine ZE (z := ?_) | refine ZF (z := ?_) | refine ZJ (z := ?_) | refine ZK (z := ?_) | refine ZM (z := ?_) | refine ZH (z := ?_) | refine ZO (z := ?_) | refine ZQ (z := ?_) | refine ZR (z := ?_) | refine ZT (z := ?_) | refine ZU (z := ?_) | refine YA (z := ?_) | refine ZG (z := ?_) | refine ZI (z := ?_) | refine YC (z := ?_) | refine YD (z := ?_) | refine YE (z := ?_))
    refine btk (c := op + a * 256) (.inr (.inl rfl)) rfl rfl rfl ((or8 (lo := op) (hi := a) (by omega) (by unfold w64; omega)).1) ?_
    repeat (first | refine ZA (z := ?_) | refine ZB (z := ?_) | refine ZC (z := ?_) | refine ZD (z := ?_) | refine ZE (z := ?_) | refine ZF (z := ?_) | refine ZJ (z := ?_) | refine ZK (z := ?_) | refine ZM (z := ?_) | refine ZH (z := ?_) | refine ZO (z := ?_) | refine ZQ (z := ?_) | refine ZR (z := ?_) | refine ZT (z := ?_) | refine ZU (z := ?_) | refine YA (z := ?_) | refine ZG (z := ?_) | refine ZI (z := ?_) | refine YC (z := ?_) | refine YD (z := ?_) | refine YE (z := ?_))
    refine shl_ (c := b * 65536) (b := 16) rfl rfl rfl (shl16 (by unfold w64; omega)) ?_
    repeat (first | refine ZA (z := ?_) | refine ZB (z := ?_) | refine ZC (z := ?_) | refine ZD (z := ?_) | refine ZE (z := ?_) | refine ZF (z := ?_) | refine ZJ (z := ?_) | refine ZK (z := ?_) | refine ZM (z := ?_) | refine ZH (z := ?_) | refine ZO (z := ?_) | refine ZQ (z := ?_) | refine ZR (z := ?_) | refine ZT (z := ?_) | refine ZU (z := ?_) | refine YA (z := ?_) | refine ZG (z := ?_) | refine ZI (z := ?_) | refine YC (z := ?_) | refine YD (z := ?_) | refine YE (z := ?_))
    refine btk (c := op + a * 256 + b * 65536) (.inr (.inl rfl)) rfl rfl rfl ((or16 (lo := (op + a * 256)) (hi := b) (by omega) (by unfold w64; omega)).1) ?_
    repeat (first | refine ZA (z := ?_) | refine ZB (z := ?_) | refine ZC (z := ?_) | refine ZD (z := ?_) | refine ZE (z := ?_) | refine ZF (z := ?_) | refine ZJ (z := ?_) | refine ZK (z := ?_) | refine ZM (z := ?_) | refine ZH (z := ?_) | refine ZO (z := ?_) | refine ZQ (z := ?_) | refine ZR (z := ?_) | refine ZT (z := ?_) | refine ZU (z := ?_) | refine YA (z := ?_) | refine ZG (z := ?_) | refine ZI (z := ?_) | refine YC (z := ?_) | refine YD (z := ?_) | refine YE (z := ?_))
    refine shl_ (c := c * 16777216) (b := 24) rfl rfl rfl (shl24 (by unfold w64; omega)) ?_
    repeat (first | refine ZA (z := ?_) | refine ZB (z := ?_) | refine ZC (z := ?_) | refine ZD (z := ?_) | refine ZE (z := ?_) | refine ZF (z := ?_) | refine ZJ (z := ?_) | refine ZK (z := ?_) | refine ZM (z := ?_) | refine ZH (z := ?_) | refine ZO (z := ?_) | refine ZQ (z := ?_) | refine ZR (z := ?_) | refine ZT (z := ?_) | refine ZU (z := ?_) | refine YA (z := ?_) | refine ZG (z := ?_) | refine ZI (z := ?_) | refine YC (z := ?_) | refine YD (z := ?_) | refine YE (z := ?_))
    refine btk (c := op + a * 256 + b * 65536 + c * 16777216) (.inr (.inl rfl)) rfl rfl rfl ((or24 (lo := (op + a * 256 + b * 65536)) (hi := c) (by omega) (by unfold w64; omega)).1) ?_
    repeat (first | refine ZA (z := ?_) | refine ZB (z := ?_) | refine ZC (z := ?_) | refine ZD (z := ?_) | refine ZE (z := ?_) | refine ZF (z := ?_) | refine ZJ (z := ?_) | refine ZK (z := ?_) | refine ZM (z := ?_) | refine ZH (z := ?_) | refine ZO (z := ?_) | refine ZQ (z := ?_) | refine ZR (z := ?_) | refine ZT (z := ?_) | refine ZU (z := ?_) | refine YA (z := ?_) | refine ZG (z := ?_) | refine ZI (z := ?_) | refine YC (z := ?_) | refine YD (z := ?_) | refine YE (z := ?_))
    refine shl_ (c := imm * 4294967296) (b := 32) rfl rfl rfl (shl32 (by unfold w64; omega)) ?_
    repeat (first | refine ZA (z := ?_) | refine ZB (z := ?_) | refine ZC (z := ?_) | refine ZD (z := ?_) | refine ZE (z := ?_) | refine ZF (z := ?_) | refine ZJ (z := ?_) | refine ZK (z := ?_) | refine ZM (z := ?_) | refine ZH (z := ?_) | refine ZO (z := ?_) | refine ZQ (z := ?_) | refine ZR (z := ?_) | refine ZT (z := ?_) | refine ZU (z := ?_) | refine YA (z := ?_) | refine ZG (z := ?_) | refine ZI (z := ?_) | refine YC (z := ?_) | refine YD (z := ?_) | refine YE (z := ?_))
    refine btk (c := op + a * 256 + b * 65536 + c * 16777216 + imm * 4294967296) (.inr (.inl rfl)) rfl rfl rfl ((or32 (lo := (op + a * 256 + b * 65536 + c * 16777216)) (hi := imm) (by omega) (by unfold w64; omega)).1) ?_
    repeat (first | refine ZA (z := ?_) | refine ZB (z := ?_) | refine ZC (z := ?_) | refine ZD (z := ?_) | refine ZE (z := ?_) | refine ZF (z := ?_) | refine ZJ (z := ?_) | refine ZK (z := ?_) | refine ZM (z := ?_) | refine ZH (z := ?_) | refine ZO (z := ?_) | refine ZQ (z := ?_) | refine ZR (z := ?_) | refine ZT (z := ?_) | refine ZU (z := ?_) | refine YA (z := ?_) | refine ZG (z := ?_) | refine ZI (z := ?_) | refine YC (z := ?_) | refine YD (z := ?_) | refine YE (z := ?_))
    repeat (first | refine nl ?_ | refine AWP.seq ?_ | refine rg ?_ | refine AWP.skip ?_ | refine AWP.block ?_ | refine YH (z := ?_) | refine YI (z := ?_) | refine ZA (z := ?_) | refine ZB (z := ?_) | refine ZC (z := ?_) | refine ZD (z := ?_) | refine ZE (z := ?_) | refine ZF (z := ?_) | refine ZJ (z := ?_) | refine ZK (z := ?_) | refine ZM (z := ?_) | refine ZH (z := ?_) | refine ZO (z := ?_) | refine ZQ (z := ?_) | refine ZR (z := ?_) | refine ZT (z := ?_) | refine ZU (z := ?_) | refine YA (z := ?_) | refine ZG (z := ?_) | refine ZI (z := ?_) | refine YC (z := ?_) | refine YD (z := ?_) | refine YE (z := ?_))
    exact AWP.ret (rets rfl (.refl _) (.refl _) ⟨by rw [encH hr hop]; rfl, rfl⟩)
set_option maxHeartbeats 2000000 in
instance rencode_ok (i : Ins) : PureFn Tryd.prog 11 [.agg (insRow i)] (encV i) where
  out st := by
    refine ACalls.ofBody Tryd.func11 rfl Tryd.ntmps11 rfl ?_
    obtain ⟨op, a, b, c, imm⟩ := i
    rw [insRow_mk]
    repeat (first | refine nl ?_ | refine AWP.seq ?_ | refine rg ?_ | refine AWP.skip ?_ | refine AWP.block ?_ | refine YH (z := ?_) | refine YI (z := ?_) | refine ZA (z := ?_) | refine ZB (z := ?_) | refine ZC (z := ?_) | refine ZD (z := ?_) | refine ZE (z := ?_) | refine ZF (z := ?_) | refine ZJ (z := ?_) | refine ZK (z := ?_) | refine ZM (z := ?_) | refine ZH (z := ?_) | refine ZO (z := ?_) | refine ZQ (z := ?_) | refine ZR (z := ?_) | refine ZT (z := ?_) | refine ZU (z := ?_) | refine YA (z := ?_) | refine ZG (z := ?_) | refine ZI (z := ?_) | refine YC (z := ?_) | refine YD (z := ?_) | refine YE (z := ?_))
    refine gS rfl (fun h1 => ?_) (fun h1 => ?_)
    · have hr : rngOk ⟨op, a, b, c, imm⟩ = false := rng_false (fun h => by have := h.1; have h1' : imm < -2147483648 := h1; simp only at this; omega)
      repeat (first | refine nl ?_ | refine AWP.seq ?_ | refine rg ?_ | refine AWP.skip ?_ | refine AWP.block ?_ | refine YH (z := ?_) | refine YI (z := ?_) | refine ZA (z := ?_) | refine ZB (z := ?_) | refine ZC (z := ?_) | refine ZD (z := ?_) | refine ZE (z := ?_) | refine ZF (z := ?_) | refine ZJ (z := ?_) | refine ZK (z := ?_) | refine ZM (z := ?_) | refine ZH (z := ?_) | refine ZO (z := ?_) | refine ZQ (z := ?_) | refine ZR (z := ?_) | refine ZT (z := ?_) | refine ZU (z := ?_) | refine YA (z := ?_) | refine ZG (z := ?_) | refine ZI (z := ?_) | refine YC (z := ?_) | refine YD (z := ?_) | refine YE (z := ?_))
      exact AWP.ret (rets rfl (.refl _) (.refl _) ⟨by rw [encF hr]; rfl, rfl⟩)
    repeat (first | refine nl ?_ | refine AWP.seq ?_ | refine rg ?_ | refine AWP.skip ?_ | refine AWP.block ?_ | refine YH (z := ?_) | refine YI (z := ?_) | refine ZA (z := ?_) | refine ZB (z := ?_) | refine ZC (z := ?_) | refine ZD (z := ?_) | refine ZE (z := ?_) | refine ZF (z := ?_) | refine ZJ (z := ?_) | refine ZK (z := ?_) | refine ZM (z := ?_) | refine ZH (z := ?_) | refine ZO (z := ?_) | refine ZQ (z := ?_) | refine ZR (z := ?_) | refine ZT (z := ?_) | refine ZU (z := ?_) | refine YA (z := ?_) | refine ZG (z := ?_) | refine ZI (z := ?_) | refine YC (z := ?_) | refine YD (z := ?_) | refine YE (z := ?_))
    refine gS rfl (fun h2 => ?_) (fun h2 => ?_)
    · have hr : rngOk ⟨op, a, b, c, imm⟩ = false := rng_false (fun h => by have := h.1; have h2' : 2147483648 ≤ imm := h2; simp only at this; omega)
      repeat (first | refine nl ?_ | refine AWP.seq ?_ | refine rg ?_ | refine AWP.skip ?_ | refine AWP.block ?_ | refine YH (z := ?_) | refine YI (z := ?_) | refine ZA (z := ?_) | refine ZB (z := ?_) | refine ZC (z := ?_) | refine ZD (z := ?_) | refine ZE (z := ?_) | refine ZF (z := ?_) | refine ZJ (z := ?_) | refine ZK (z := ?_) | refine ZM (z := ?_) | refine ZH (z := ?_) | refine ZO (z := ?_) | refine ZQ (z := ?_) | refine ZR (z := ?_) | refine ZT (z := ?_) | refine ZU (z := ?_) | refine YA (z := ?_) | refine ZG (z := ?_) | refine ZI (z := ?_) | refine YC (z := ?_) | refine YD (z := ?_) | refine YE (z := ?_))
      exact AWP.ret (rets rfl (.refl _) (.refl _) ⟨by rw [encF hr]; rfl, rfl⟩)
    repeat (first | refine nl ?_ | refine AWP.seq ?_ | refine rg ?_ | refine AWP.skip ?_ | refine AWP.block ?_ | refine YH (z := ?_) | refine YI (z := ?_) | refine ZA (z := ?_) | refine ZB (z := ?_) | refine ZC (z := ?_) | refine ZD (z := ?_) | refine ZE (z := ?_) | refine ZF (z := ?_) | refine ZJ (z := ?_) | refine ZK (z := ?_) | refine ZM (z := ?_) | refine ZH (z := ?_) | refine ZO (z := ?_) | refine ZQ (z := ?_) | refine ZR (z := ?_) | refine ZT (z := ?_) | refine ZU (z := ?_) | refine YA (z := ?_) | refine ZG (z := ?_) | refine ZI (z := ?_) | refine YC (z := ?_) | refine YD (z := ?_) | refine YE (z := ?_))
    refine gSB rfl (fun ha => ?_) (fun ha => ?_)
    · have h' : reg a = false := by simpa using ha
      have hr : rngOk ⟨op, a, b, c, imm⟩ = false := rng_false (fun h => by have := h.2; simp only at this; simp_all)
      repeat (first | refine nl ?_ | refine AWP.seq ?_ | refine rg ?_ | refine AWP.skip ?_ | refine AWP.block ?_ | refine YH (z := ?_) | refine YI (z := ?_) | refine ZA (z := ?_) | refine ZB (z := ?_) | refine ZC (z := ?_) | refine ZD (z := ?_) | refine ZE (z := ?_) | refine ZF (z := ?_) | refine ZJ (z := ?_) | refine ZK (z := ?_) | refine ZM (z := ?_) | refine ZH (z := ?_) | refine ZO (z := ?_) | refine ZQ (z := ?_) | refine ZR (z := ?_) | refine ZT (z := ?_) | refine ZU (z := ?_) | refine YA (z := ?_) | refine ZG (z := ?_) | refine ZI (z := ?_) | refine YC (z := ?_) | refine YD (z := ?_) | refine YE (z := ?_))
      exact AWP.ret (rets rfl (.refl _) (.refl _) ⟨by rw [encF hr]; rfl, rfl⟩)
    repeat (first | refine nl ?_ | refine AWP.seq ?_ | refine rg ?_ | refine AWP.skip ?_ | refine AWP.block ?_ | refine YH (z := ?_) | refine YI (z := ?_) | refine ZA (z := ?_) | refine ZB (z := ?_) | refine ZC (z := ?_) | refine ZD (z := ?_) | refine ZE (z := ?_) | refine ZF (z := ?_) | refine ZJ (z := ?_) | refine ZK (z := ?_) | refine ZM (z := ?_) | refine ZH (z := ?_) | refine ZO (z := ?_) | refine ZQ (z := ?_) | refine ZR (z := ?_) | refine ZT (z := ?_) | refine ZU (z := ?_) | refine YA (z := ?_) | refine ZG (z := ?_) | refine ZI (z := ?_) | refine YC (z := ?_) | refine YD (z := ?_) | refine YE (z := ?_))
    refine gSB rfl (fun hb => ?_) (fun hb => ?_)
    · have h' : reg b = false := by simpa using hb
      have hr : rngOk ⟨op, a, b, c, imm⟩ = false := rng_false (fun h => by have := h.2; simp only at this; simp_all)
      repeat (first | refine nl ?_ | refine AWP.seq ?_ | refine rg ?_ | refine AWP.skip ?_ | refine AWP.block ?_ | refine YH (z := ?_) | refine YI (z := ?_) | refine ZA (z := ?_) | refine ZB (z := ?_) | refine ZC (z := ?_) | refine ZD (z := ?_) | refine ZE (z := ?_) | refine ZF (z := ?_) | refine ZJ (z := ?_) | refine ZK (z := ?_) | refine ZM (z := ?_) | refine ZH (z := ?_) | refine ZO (z := ?_) | refine ZQ (z := ?_) | refine ZR (z := ?_) | refine ZT (z := ?_) | refine ZU (z := ?_) | refine YA (z := ?_) | refine ZG (z := ?_) | refine ZI (z := ?_) | refine YC (z := ?_) | refine YD (z := ?_) | refine YE (z := ?_))
      exact AWP.ret (rets rfl (.refl _) (.refl _) ⟨by rw [encF hr]; rfl, rfl⟩)
    repeat (first | refine nl ?_ | refine AWP.seq ?_ | refine rg ?_ | refine AWP.skip ?_ | refine AWP.block ?_ | refine YH (z := ?_) | refine YI (z := ?_) | refine ZA (z := ?_) | refine ZB (z := ?_) | refine ZC (z := ?_) | refine ZD (z := ?_) | refine ZE (z := ?_) | refine ZF (z := ?_) | refine ZJ (z := ?_) | refine ZK (z := ?_) | refine ZM (z := ?_) | refine ZH (z := ?_) | refine ZO (z := ?_) | refine ZQ (z := ?_) | refine ZR (z := ?_) | refine ZT (z := ?_) | refine ZU (z := ?_) | refine YA (z := ?_) | refine ZG (z := ?_) | refine ZI (z := ?_) | refine YC (z := ?_) | refine YD (z := ?_) | refine YE (z := ?_))
    refine AWP.cond_bool rfl (fun hc => ?_) (fun hc => AWP.skip ?_)
    · have h' : reg c = false := by simpa using hc
      have hr : rngOk ⟨op, a, b, c, imm⟩ = false := rng_false (fun h => by have := h.2; simp only at this; simp_all)
      repeat (first | refine nl ?_ | refine AWP.seq ?_ | refine rg ?_ | refine AWP.skip ?_ | refine AWP.block ?_ | refine YH (z := ?_) | refine YI (z := ?_) | refine ZA (z := ?_) | refine ZB (z := ?_) | refine ZC (z := ?_) | refine ZD (z := ?_) | refine ZE (z := ?_) | refine ZF (z := ?_) | refine ZJ (z := ?_) | refine ZK (z := ?_) | refine ZM (z := ?_) | refine ZH (z := ?_) | refine ZO (z := ?_) | refine ZQ (z := ?_) | refine ZR (z := ?_) | refine ZT (z := ?_) | refine ZU (z := ?_) | refine YA (z := ?_) | refine ZG (z := ?_) | refine ZI (z := ?_) | refine YC (z := ?_) | refine YD (z := ?_) | refine YE (z := ?_))
      exact AWP.ret (rets rfl (.refl _) (.refl _) ⟨by rw [encF hr]; rfl, rfl⟩)
    have hr : rngOk ⟨op, a, b, c, imm⟩ = true := rng_true ⟨⟨by have h1' : ¬ imm < -2147483648 := h1; simp only; omega, by have h2' : ¬ 2147483648 ≤ imm := h2; simp only; omega⟩, by simpa using ha, by simpa using hb, by simpa using hc⟩
    have hq := rng_iff.1 hr
    simp only at hq
    repeat (first | refine nl ?_ | refine AWP.seq ?_ | refine rg ?_ | refine AWP.skip ?_ | refine AWP.block ?_ | refine YH (z := ?_) | refine YI (z := ?_) | refine ZA (z := ?_) | refine ZB (z := ?_) | refine ZC (z := ?_) | refine ZD (z := ?_) | refine ZE (z := ?_) | refine ZF (z := ?_) | refine ZJ (z := ?_) | refine ZK (z := ?_) | refine ZM (z := ?_) | refine ZH (z := ?_) | refine ZO (z := ?_) | refine ZQ (z := ?_) | refine ZR (z := ?_) | refine ZT (z := ?_) | refine ZU (z := ?_) | refine YA (z := ?_) | refine ZG (z := ?_) | refine ZI (z := ?_) | refine YC (z := ?_) | refine YD (z := ?_) | refine YE (z := ?_))
    refine gS rfl (fun ho => ?_) (fun ho => ?_)
    · have ho' : opr op = false := by have ho1 : op < 1 := ho; simp [opr]; omega
      repeat (first | refine nl ?_ | refine AWP.seq ?_ | refine rg ?_ | refine AWP.skip ?_ | refine AWP.block ?_ | refine YH (z := ?_) | refine YI (z := ?_) | refine ZA (z := ?_) | refine ZB (z := ?_) | refine ZC (z := ?_) | refine ZD (z := ?_) | refine ZE (z := ?_) | refine ZF (z := ?_) | refine ZJ (z := ?_) | refine ZK (z := ?_) | refine ZM (z := ?_) | refine ZH (z := ?_) | refine ZO (z := ?_) | refine ZQ (z := ?_) | refine ZR (z := ?_) | refine ZT (z := ?_) | refine ZU (z := ?_) | refine YA (z := ?_) | refine ZG (z := ?_) | refine ZI (z := ?_) | refine YC (z := ?_) | refine YD (z := ?_) | refine YE (z := ?_))
      exact AWP.ret (rets rfl (.refl _) (.refl _) ⟨by rw [encG hr ho']; rfl, rfl⟩)
    repeat (first | refine nl ?_ | refine AWP.seq ?_ | refine rg ?_ | refine AWP.skip ?_ | refine AWP.block ?_ | refine YH (z := ?_) | refine YI (z := ?_) | refine ZA (z := ?_) | refine ZB (z := ?_) | refine ZC (z := ?_) | refine ZD (z := ?_) | refine ZE (z := ?_) | refine ZF (z := ?_) | refine ZJ (z := ?_) | refine ZK (z := ?_) | refine ZM (z := ?_) | refine ZH (z := ?_) | refine ZO (z := ?_) | refine ZQ (z := ?_) | refine ZR (z := ?_) | refine ZT (z := ?_) | refine ZU (z := ?_) | refine YA (z := ?_) | refine ZG (z := ?_) | refine ZI (z := ?_) | refine YC (z := ?_) | refine YD (z := ?_) | refine YE (z := ?_))
    refine AWP.cond_dec rfl (fun ho2 => ?_) (fun ho2 => AWP.skip ?_)
    · have ho' : opr op = false := by have ho1 : 26 ≤ op := ho2; simp [opr]; omega
      repeat (first | refine nl ?_ | refine AWP.seq ?_ | refine rg ?_ | refine AWP.skip ?_ | refine AWP.block ?_ | refine YH (z := ?_) | refine YI (z := ?_) | refine ZA (z := ?_) | refine ZB (z := ?_) | refine ZC (z := ?_) | refine ZD (z := ?_) | refine ZE (z := ?_) | refine ZF (z := ?_) | refine ZJ (z := ?_) | refine ZK (z := ?_) | refine ZM (z := ?_) | refine ZH (z := ?_) | refine ZO (z := ?_) | refine ZQ (z := ?_) | refine ZR (z := ?_) | refine ZT (z := ?_) | refine ZU (z := ?_) | refine YA (z := ?_) | refine ZG (z := ?_) | refine ZI (z := ?_) | refine YC (z := ?_) | refine YD (z := ?_) | refine YE (z := ?_))
      exact AWP.ret (rets rfl (.refl _) (.refl _) ⟨by rw [encG hr ho']; rfl, rfl⟩)
    have hop : opr op = true := opr_iff.2 ⟨by have ho1 : ¬ op < 1 := ho; omega, by have ho1 : ¬ 26 ≤ op := ho2; omega⟩
    repeat (first | refine nl ?_ | refine AWP.seq ?_ | refine rg ?_ | refine AWP.skip ?_ | refine AWP.block ?_ | refine YH (z := ?_) | refine YI (z := ?_) | refine ZA (z := ?_) | refine ZB (z := ?_) | refine ZC (z := ?_) | refine ZD (z := ?_) | refine ZE (z := ?_) | refine ZF (z := ?_) | refine ZJ (z := ?_) | refine ZK (z := ?_) | refine ZM (z := ?_) | refine ZH (z := ?_) | refine ZO (z := ?_) | refine ZQ (z := ?_) | refine ZR (z := ?_) | refine ZT (z := ?_) | refine ZU (z := ?_) | refine YA (z := ?_) | refine ZG (z := ?_) | refine ZI (z := ?_) | refine YC (z := ?_) | refine YD (z := ?_) | refine YE (z := ?_))
    have hw : w64 (word ⟨op, a, b, c, imm⟩) := word_range hr hop
    have hq2 := opr_iff.1 hop
    simp only [word] at hw
    unfold w64 at hw
    refine shl_ (c := imm * 4294967296) (b := 32) rfl rfl rfl (shl32 (by unfold w64; omega)) ?_
    repeat (first | refine ZA (z := ?_) | refine ZB (z := ?_) | refine ZC (z := ?_) | refine ZD (z := ?_) | refine ZE (z := ?_) | refine ZF (z := ?_) | refine ZJ (z := ?_) | refine ZK (z := ?_) | refine ZM (z := ?_) | refine ZH (z := ?_) | refine ZO (z := ?_) | refine ZQ (z := ?_) | refine ZR (z := ?_) | refine ZT (z := ?_) | refine ZU (z := ?_) | refine YA (z := ?_) | refine ZG (z := ?_) | refine ZI (z := ?_) | refine YC (z := ?_) | refine YD (z := ?_) | refine YE (z := ?_))
    refine shl_ (c := c * 16777216) (b := 24) rfl rfl rfl (shl24 (by unfold w64; omega)) ?_
    repeat (first | refine ZA (z := ?_) | refine ZB (z := ?_) | refine ZC (z := ?_) | refine ZD (z := ?_) | refine ZE (z := ?_) | refine ZF (z := ?_) | refine ZJ (z := ?_) | refine ZK (z := ?_) | refine ZM (z := ?_) | refine ZH (z := ?_) | refine ZO (z := ?_) | refine ZQ (z := ?_) | refine ZR (z := ?_) | refine ZT (z := ?_) | refine ZU (z := ?_) | refine YA (z := ?_) | refine ZG (z := ?_) | refine ZI (z := ?_) | refine YC (z := ?_) | refine YD (z := ?_) | refine YE (z := ?_))
    refine btk (c := c * 16777216 + imm * 4294967296) (.inr (.inl rfl)) rfl rfl rfl ((or32 (lo := (c * 16777216)) (hi := imm) (by omega) (by unfold w64; omega)).2) ?_
    repeat (first | refine ZA (z := ?_) | refine ZB (z := ?_) | refine ZC (z := ?_) | refine ZD (z := ?_) | refine ZE (z := ?_) | refine ZF (z := ?_) | refine ZJ (z := ?_) | refine ZK (z := ?_) | refine ZM (z := ?_) | refine ZH (z := ?_) | refine ZO (z := ?_) | refine ZQ (z := ?_) | refine ZR (z := ?_) | refine ZT (z := ?_) | refine ZU (z := ?_) | refine YA (z := ?_) | refine ZG (z := ?_) | refine ZI (z := ?_) | refine YC (z := ?_) | refine YD (z := ?_) | refine YE (z := ?_))
    refine shl_ (c := b * 65536) (b := 16) rfl rfl rfl (shl16 (by unfold w64; omega)) ?_
    repeat (first | refine ZA (z := ?_) | refine ZB (z := ?_) | refine ZC (z := ?_) | refine ZD (z := ?_) | refine ZE (z := ?_) | refine ZF (z := ?_) | refine ZJ (z := ?_) | refine ZK (z := ?_) | refine ZM (z := ?_) | refine ZH (z := ?_) | refine ZO (z := ?_) | refine ZQ (z := ?_) | refine ZR (z := ?_) | refine ZT (z := ?_) | refine ZU (z := ?_) | refine YA (z := ?_) | refine ZG (z := ?_) | refine ZI (z := ?_) | refine YC (z := ?_) | refine YD (z := ?_) | refine YE (z := ?_))
    have e1 : c * 16777216 + imm * 4294967296 = (c + imm * 256) * 16777216 := by omega
    rw [e1]
    refine btk (c := b * 65536 + (c + imm * 256) * 16777216) (.inr (.inl rfl)) rfl rfl rfl ((or24 (lo := (b * 65536)) (hi := (c + imm * 256)) (by omega) (by unfold w64; omega)).2) ?_
    repeat (first | refine ZA (z := ?_) | refine ZB (z := ?_) | refine ZC (z := ?_) | refine ZD (z := ?_) | refine ZE (z := ?_) | refine ZF (z := ?_) | refine ZJ (z := ?_) | refine ZK (z := ?_) | refine ZM (z := ?_) | refine ZH (z := ?_) | refine ZO (z := ?_) | refine ZQ (z := ?_) | refine ZR (z := ?_) | refine ZT (z := ?_) | refine ZU (z := ?_) | refine YA (z := ?_) | refine ZG (z := ?_) | refine ZI (z := ?_) | refine YC (z := ?_) | refine YD (z := ?_) | refine YE (z := ?_))
    refine shl_ (c := a * 256) (b := 8) rfl rfl rfl (shl8 (by unfold w64; omega)) ?_
    repeat (first | refine ZA (z := ?_) | refine ZB (z := ?_) | refine ZC (z := ?_) | refine ZD (z := ?_) | refine ZE (z := ?_) | refine ZF (z := ?_) | refine ZJ (z := ?_) | refine ZK (z := ?_) | refine ZM (z := ?_) | refine ZH (z := ?_) | refine ZO (z := ?_) | refine ZQ (z := ?_) | refine ZR (z := ?_) | refine ZT (z := ?_) | refine ZU (z := ?_) | refine YA (z := ?_) | refine ZG (z := ?_) | refine ZI (z := ?_) | refine YC (z := ?_) | refine YD (z := ?_) | refine YE (z := ?_))
    have e2 : b * 65536 + (c + imm * 256) * 16777216 = (b + (c + imm * 256) * 256) * 65536 := by omega
    rw [e2]
    refine btk (c := a * 256 + (b + (c + imm * 256) * 256) * 65536) (.inr (.inl rfl)) rfl rfl rfl ((or16 (lo := (a * 256)) (hi := (b + (c + imm * 256) * 256)) (by omega) (by unfold w64; omega)).2) ?_
    repeat (first | refine ZA (z := ?_) | refine ZB (z := ?_) | refine ZC (z := ?_) | refine ZD (z := ?_) | refine ZE (z := ?_) | refine ZF (z := ?_) | refine ZJ (z := ?_) | refine ZK (z := ?_) | refine ZM (z := ?_) | refine ZH (z := ?_) | refine ZO (z := ?_) | refine ZQ (z := ?_) | refine ZR (z := ?_) | refine ZT (z := ?_) | refine ZU (z := ?_) | refine YA (z := ?_) | refine ZG (z := ?_) | refine ZI (z := ?_) | refine YC (z := ?_) | refine YD (z := ?_) | refine YE (z := ?_))
    have e3 : a * 256 + (b + (c + imm * 256) * 256) * 65536 = (a + (b + (c + imm * 256) * 256) * 256) * 256 := by omega
    rw [e3]
    refine btk (c := op + a * 256 + b * 65536 + c * 16777216 + imm * 4294967296) (.inr (.inl rfl)) rfl rfl rfl ((or8 (lo := op) (hi := (a + (b + (c + imm * 256) * 256) * 256)) (by omega) (by unfold w64; omega)).2.trans (by omega)) ?_
    repeat (first | refine ZA (z := ?_) | refine ZB (z := ?_) | refine ZC (z := ?_) | refine ZD (z := ?_) | refine ZE (z := ?_) | refine ZF (z := ?_) | refine ZJ (z := ?_) | refine ZK (z := ?_) | refine ZM (z := ?_) | refine ZH (z := ?_) | refine ZO (z := ?_) | refine ZQ (z := ?_) | refine ZR (z := ?_) | refine ZT (z := ?_) | refine ZU (z := ?_) | refine YA (z := ?_) | refine ZG (z := ?_) | refine ZI (z := ?_) | refine YC (z := ?_) | refine YD (z := ?_) | refine YE (z := ?_))
    repeat (first | refine nl ?_ | refine AWP.seq ?_ | refine rg ?_ | refine AWP.skip ?_ | refine AWP.block ?_ | refine YH (z := ?_) | refine YI (z := ?_) | refine ZA (z := ?_) | refine ZB (z := ?_) | refine ZC (z := ?_) | refine ZD (z := ?_) | refine ZE (z := ?_) | refine ZF (z := ?_) | refine ZJ (z := ?_) | refine ZK (z := ?_) | refine ZM (z := ?_) | refine ZH (z := ?_) | refine ZO (z := ?_) | refine ZQ (z := ?_) | refine ZR (z := ?_) | refine ZT (z := ?_) | refine ZU (z := ?_) | refine YA (z := ?_) | refine ZG (z := ?_) | refine ZI (z := ?_) | refine YC (z := ?_) | refine YD (z := ?_) | refine YE (z := ?_))
    exact AWP.ret (rets rfl (.refl _) (.refl _) ⟨by rw [encH hr hop]; rfl, rfl⟩)
end Go.Proofs
/- The walks of Decode, near and Reads. No conditions: lemmas only. -/
namespace Go.Proofs
open Go.AM
attribute [local irreducible] AWP AOps ACalls

theorem shr_w {a : Int} {k : Nat} (hk : k ≤ 64) : a.fdiv (2 ^ (min k IntKind.i64.bits)) = a / 2 ^ k := by
  rw [show min k IntKind.i64.bits = k from Nat.min_eq_left hk, Int.fdiv_eq_ediv_of_nonneg]
  exact Int.le_of_lt (Int.pow_pos (by decide))
theorem shr8 {a : Int} : a.fdiv (2 ^ (min 8 IntKind.i64.bits)) = a / 256 := shr_w (k := 8) (by decide)
theorem shr16 {a : Int} : a.fdiv (2 ^ (min 16 IntKind.i64.bits)) = a / 65536 := shr_w (k := 16) (by decide)
theorem shr24 {a : Int} : a.fdiv (2 ^ (min 24 IntKind.i64.bits)) = a / 16777216 := shr_w (k := 24) (by decide)
theorem shr32 {a : Int} : a.fdiv (2 ^ (min 32 IntKind.i64.bits)) = a / 4294967296 := shr_w (k := 32) (by decide)
theorem decF {w : Int} (h : decOk (split w) = false) : decV w = .tuple [.agg (insRow zIns), .int .i64 4] := by simp [decV, dec, h]
theorem decT {w : Int} (h : decOk (split w) = true) : decV w = .tuple [.agg (insRow (split w)), .int .i64 0] := by simp [decV, dec, h]
theorem decOk_false {i : Ins} (h : ¬ (opr i.op = true ∧ reg i.a = true ∧ reg i.b = true ∧ reg i.c = true)) : decOk i = false := by
  cases h2 : decOk i with
  | false => rfl
  | true => simp only [decOk, Bool.and_eq_true] at h2; exact absurd ⟨h2.1.1.1, h2.1.1.2, h2.1.2, h2.2⟩ h

set_option maxHeartbeats 2000000 in
instance decode_ok (w : Int) : PureFn Tryd.prog 12 [.int .i64 w] (decV w) where
  out st := by
    refine ACalls.ofBody Tryd.func12 rfl Tryd.ntmps12 rfl ?_
    repeat (first | refine nl ?_ | refine AWP.seq ?_ | refine AWP.skip ?_ | refine AWP.block ?_)
    refine rg ?_
    refine al rfl rfl fun o2 h2 => ?_
    repeat (first | refine nl ?_ | refine AWP.seq ?_ | refine rg ?_ | refine AWP.skip ?_ | refine AWP.block ?_ | refine YH (z := ?_) | refine YI (z := ?_) | refine ZA (z := ?_) | refine ZB (z := ?_) | refine ZC (z := ?_) | refine ZD (z := ?_) | refine ZE (z := ?_) | refine ZF (z := ?_) | refine ZJ (z := ?_) | refine ZK (z := ?_) | refine ZM (z := ?_) | refine ZH (z := ?_) | refine ZO (z := ?_) | refine ZQ (z := ?_) | refine ZR (z := ?_) | refine ZT (z := ?_) | refine ZU (z := ?_) | refine YA (z := ?_) | refine ZG (z := ?_) | refine ZI (z := ?_) | refine YC (z := ?_) | refine YD (z := ?_) | refine YE (z := ?_))
    refine btk (.inl rfl) rfl rfl rfl (and255 _) ?_
    repeat (first | refine ZA (z := ?_) | refine ZB (z := ?_) | refine ZC (z := ?_) | refine ZD (z := ?_) | refine ZE (z := ?_) | refine ZF (z := ?_) | refine ZJ (z := ?_) | refine ZK (z := ?_) | refine ZM (z := ?_) | refine ZH (z := ?_) | refine ZO (z := ?_) | refine ZQ (z := ?_) | refine ZR (z := ?_) | refine ZT (z := ?_) | refine ZU (z := ?_) | refine YA (z := ?_) | refine ZG (z := ?_) | refine ZI (z := ?_) | refine YC (z := ?_) | refine YD (z := ?_) | refine YE (z := ?_))
    refine shr_ (b := 8) rfl rfl rfl shr8 ?_
    refine btk (.inl rfl) rfl rfl rfl (and255 _) ?_
    repeat (first | refine ZA (z := ?_) | refine ZB (z := ?_) | refine ZC (z := ?_) | refine ZD (z := ?_) | refine ZE (z := ?_) | refine ZF (z := ?_) | refine ZJ (z := ?_) | refine ZK (z := ?_) | refine ZM (z := ?_) | refine ZH (z := ?_) | refine ZO (z := ?_) | refine ZQ (z := ?_) | refine ZR (z := ?_) | refine ZT (z := ?_) | refine ZU (z := ?_) | refine YA (z := ?_) | refine ZG (z := ?_) | refine ZI (z := ?_) | refine YC (z := ?_) | refine YD (z := ?_) | refine YE (z := ?_))
    refine shr_ (b := 16) rfl rfl rfl shr16 ?_
    refine btk (.inl rfl) rfl rfl rfl (and255 _) ?_
    repeat (first | refine ZA (z := ?_) | refine ZB (z := ?_) | refine ZC (z := ?_) | refine ZD (z := ?_) | refine ZE (z := ?_) | refine ZF (z := ?_) | refine ZJ (z := ?_) | refine ZK (z := ?_) | refine ZM (z := ?_) | refine ZH (z := ?_) | refine ZO (z := ?_) | refine ZQ (z := ?_) | refine ZR (z := ?_) | refine ZT (z := ?_) | refine ZU (z := ?_) | refine YA (z := ?_) | refine ZG (z := ?_) | refine ZI (z := ?_) | refine YC (z := ?_) | refine YD (z := ?_) | refine YE (z := ?_))
    refine shr_ (b := 24) rfl rfl rfl shr24 ?_
    refine btk (.inl rfl) rfl rfl rfl (and255 _) ?_
    repeat (first | refine ZA (z := ?_) | refine ZB (z := ?_) | refine ZC (z := ?_) | refine ZD (z := ?_) | refine ZE (z := ?_) | refine ZF (z := ?_) | refine ZJ (z := ?_) | refine ZK (z := ?_) | refine ZM (z := ?_) | refine ZH (z := ?_) | refine ZO (z := ?_) | refine ZQ (z := ?_) | refine ZR (z := ?_) | refine ZT (z := ?_) | refine ZU (z := ?_) | refine YA (z := ?_) | refine ZG (z := ?_) | refine ZI (z := ?_) | refine YC (z := ?_) | refine YD (z := ?_) | refine YE (z := ?_))
    refine shr_ (b := 32) rfl rfl rfl shr32 ?_
    refine bds (cs := insRow (split w)) rfl rfl rfl rfl ?_
    refine al rfl rfl fun o4 h4 => ?_
    refine soN 4 rfl rfl rfl rfl rfl rfl h4 ?_
    have fin : ∀ h : decOk (split w) = false, decV w = .tuple [.agg (insRow zIns), .int .i64 4] := decF
    repeat (first | refine nl ?_ | refine AWP.seq ?_ | refine rg ?_ | refine AWP.skip ?_ | refine AWP.block ?_ | refine YH (z := ?_) | refine YI (z := ?_) | refine ZA (z := ?_) | refine ZB (z := ?_) | refine ZC (z := ?_) | refine ZD (z := ?_) | refine ZE (z := ?_) | refine ZF (z := ?_) | refine ZJ (z := ?_) | refine ZK (z := ?_) | refine ZM (z := ?_) | refine ZH (z := ?_) | refine ZO (z := ?_) | refine ZQ (z := ?_) | refine ZR (z := ?_) | refine ZT (z := ?_) | refine ZU (z := ?_) | refine YA (z := ?_) | refine ZG (z := ?_) | refine ZI (z := ?_) | refine YC (z := ?_) | refine YD (z := ?_) | refine YE (z := ?_))
    refine gSB rfl (fun ho => ?_) (fun ho => ?_)
    · have hr : decOk (split w) = false := decOk_false (fun h => by have h1 : opr (split w).op = false := (by simpa using ho); simp_all)
      repeat (first | refine nl ?_ | refine AWP.seq ?_ | refine rg ?_ | refine AWP.skip ?_ | refine AWP.block ?_ | refine YH (z := ?_) | refine YI (z := ?_) | refine ZA (z := ?_) | refine ZB (z := ?_) | refine ZC (z := ?_) | refine ZD (z := ?_) | refine ZE (z := ?_) | refine ZF (z := ?_) | refine ZJ (z := ?_) | refine ZK (z := ?_) | refine ZM (z := ?_) | refine ZH (z := ?_) | refine ZO (z := ?_) | refine ZQ (z := ?_) | refine ZR (z := ?_) | refine ZT (z := ?_) | refine ZU (z := ?_) | refine YA (z := ?_) | refine ZG (z := ?_) | refine ZI (z := ?_) | refine YC (z := ?_) | refine YD (z := ?_) | refine YE (z := ?_))
      refine bds (cs := insRow zIns) rfl rfl rfl rfl ?_
      refine soV rfl rfl rfl rfl rfl rfl ?_
      repeat (first | refine nl ?_ | refine AWP.seq ?_ | refine rg ?_ | refine AWP.skip ?_ | refine AWP.block ?_ | refine YH (z := ?_) | refine YI (z := ?_) | refine ZA (z := ?_) | refine ZB (z := ?_) | refine ZC (z := ?_) | refine ZD (z := ?_) | refine ZE (z := ?_) | refine ZF (z := ?_) | refine ZJ (z := ?_) | refine ZK (z := ?_) | refine ZM (z := ?_) | refine ZH (z := ?_) | refine ZO (z := ?_) | refine ZQ (z := ?_) | refine ZR (z := ?_) | refine ZT (z := ?_) | refine ZU (z := ?_) | refine YA (z := ?_) | refine ZG (z := ?_) | refine ZI (z := ?_) | refine YC (z := ?_) | refine YD (z := ?_) | refine YE (z := ?_))
      exact AWP.ret (rets (resCW rfl (St.obj_set _ _ _) rfl rfl rfl rfl) (.refl _) (StLe.new h2 (.refl _)) ⟨by rw [decF hr]; rfl, rfl⟩)
    repeat (first | refine nl ?_ | refine AWP.seq ?_ | refine rg ?_ | refine AWP.skip ?_ | refine AWP.block ?_ | refine YH (z := ?_) | refine YI (z := ?_) | refine ZA (z := ?_) | refine ZB (z := ?_) | refine ZC (z := ?_) | refine ZD (z := ?_) | refine ZE (z := ?_) | refine ZF (z := ?_) | refine ZJ (z := ?_) | refine ZK (z := ?_) | refine ZM (z := ?_) | refine ZH (z := ?_) | refine ZO (z := ?_) | refine ZQ (z := ?_) | refine ZR (z := ?_) | refine ZT (z := ?_) | refine ZU (z := ?_) | refine YA (z := ?_) | refine ZG (z := ?_) | refine ZI (z := ?_) | refine YC (z := ?_) | refine YD (z := ?_) | refine YE (z := ?_))
    refine gSB rfl (fun ha => ?_) (fun ha => ?_)
    · have hr : decOk (split w) = false := decOk_false (fun h => by have h1 : reg (split w).a = false := (by simpa using ha); simp_all)
      repeat (first | refine nl ?_ | refine AWP.seq ?_ | refine rg ?_ | refine AWP.skip ?_ | refine AWP.block ?_ | refine YH (z := ?_) | refine YI (z := ?_) | refine ZA (z := ?_) | refine ZB (z := ?_) | refine ZC (z := ?_) | refine ZD (z := ?_) | refine ZE (z := ?_) | refine ZF (z := ?_) | refine ZJ (z := ?_) | refine ZK (z := ?_) | refine ZM (z := ?_) | refine ZH (z := ?_) | refine ZO (z := ?_) | refine ZQ (z := ?_) | refine ZR (z := ?_) | refine ZT (z := ?_) | refine ZU (z := ?_) | refine YA (z := ?_) | refine ZG (z := ?_) | refine ZI (z := ?_) | refine YC (z := ?_) | refine YD (z := ?_) | refine YE (z := ?_))
      refine bds (cs := insRow zIns) rfl rfl rfl rfl ?_
      refine soV rfl rfl rfl rfl rfl rfl ?_
      repeat (first | refine nl ?_ | refine AWP.seq ?_ | refine rg ?_ | refine AWP.skip ?_ | refine AWP.block ?_ | refine YH (z := ?_) | refine YI (z := ?_) | refine ZA (z := ?_) | refine ZB (z := ?_) | refine ZC (z := ?_) | refine ZD (z := ?_) | refine ZE (z := ?_) | refine ZF (z := ?_) | refine ZJ (z := ?_) | refine ZK (z := ?_) | refine ZM (z := ?_) | refine ZH (z := ?_) | refine ZO (z := ?_) | refine ZQ (z := ?_) | refine ZR (z := ?_) | refine ZT (z := ?_) | refine ZU (z := ?_) | refine YA (z := ?_) | refine ZG (z := ?_) | refine ZI (z := ?_) | refine YC (z := ?_) | refine YD (z := ?_) | refine YE (z := ?_))
      exact AWP.ret (rets (resCW rfl (St.obj_set _ _ _) rfl rfl rfl rfl) (.refl _) (StLe.new h2 (.refl _)) ⟨by rw [decF hr]; rfl, rfl⟩)
    repeat (first | refine nl ?_ | refine AWP.seq ?_ | refine rg ?_ | refine AWP.skip ?_ | refine AWP.block ?_ | refine YH (z := ?_) | refine YI (z := ?_) | refine ZA (z := ?_) | refine ZB (z := ?_) | refine ZC (z := ?_) | refine ZD (z := ?_) | refine ZE (z := ?_) | refine ZF (z := ?_) | refine ZJ (z := ?_) | refine ZK (z := ?_) | refine ZM (z := ?_) | refine ZH (z := ?_) | refine ZO (z := ?_) | refine ZQ (z := ?_) | refine ZR (z := ?_) | refine ZT (z := ?_) | refine ZU (z := ?_) | refine YA (z := ?_) | refine ZG (z := ?_) | refine ZI (z := ?_) | refine YC (z := ?_) | refine YD (z := ?_) | refine YE (z := ?_))
    refine gSB rfl (fun hb => ?_) (fun hb => ?_)
    · have hr : decOk (split w) = false := decOk_false (fun h => by have h1 : reg (split w).b = false := (by simpa using hb); simp_all)
      repeat (first | refine nl ?_ | refine AWP.seq ?_ | refine rg ?_ | refine AWP.skip ?_ | refine AWP.block ?_ | refine YH (z := ?_) | refine YI (z := ?_) | refine ZA (z := ?_) | refine ZB (z := ?_) | refine ZC (z := ?_) | refine ZD (z := ?_) | refine ZE (z := ?_) | refine ZF (z := ?_) | refine ZJ (z := ?_) | refine ZK (z := ?_) | refine ZM (z := ?_) | refine ZH (z := ?_) | refine ZO (z := ?_) | refine ZQ (z := ?_) | refine ZR (z := ?_) | refine ZT (z := ?_) | refine ZU (z := ?_) | refine YA (z := ?_) | refine ZG (z := ?_) | refine ZI (z := ?_) | refine YC (z := ?_) | refine YD (z := ?_) | refine YE (z := ?_))
      refine bds (cs := insRow zIns) rfl rfl rfl rfl ?_
      refine soV rfl rfl rfl rfl rfl rfl ?_
      repeat (first | refine nl ?_ | refine AWP.seq ?_ | refine rg ?_ | refine AWP.skip ?_ | refine AWP.block ?_ | refine YH (z := ?_) | refine YI (z := ?_) | refine ZA (z := ?_) | refine ZB (z := ?_) | refine ZC (z := ?_) | refine ZD (z := ?_) | refine ZE (z := ?_) | refine ZF (z := ?_) | refine ZJ (z := ?_) | refine ZK (z := ?_) | refine ZM (z := ?_) | refine ZH (z := ?_) | refine ZO (z := ?_) | refine ZQ (z := ?_) | refine ZR (z := ?_) | refine ZT (z := ?_) | refine ZU (z := ?_) | refine YA (z := ?_) | refine ZG (z := ?_) | refine ZI (z := ?_) | refine YC (z := ?_) | refine YD (z := ?_) | refine YE (z := ?_))
      exact AWP.ret (rets (resCW rfl (St.obj_set _ _ _) rfl rfl rfl rfl) (.refl _) (StLe.new h2 (.refl _)) ⟨by rw [decF hr]; rfl, rfl⟩)
    repeat (first | refine nl ?_ | refine AWP.seq ?_ | refine rg ?_ | refine AWP.skip ?_ | refine AWP.block ?_ | refine YH (z := ?_) | refine YI (z := ?_) | refine ZA (z := ?_) | refine ZB (z := ?_) | refine ZC (z := ?_) | refine ZD (z := ?_) | refine ZE (z := ?_) | refine ZF (z := ?_) | refine ZJ (z := ?_) | refine ZK (z := ?_) | refine ZM (z := ?_) | refine ZH (z := ?_) | refine ZO (z := ?_) | refine ZQ (z := ?_) | refine ZR (z := ?_) | refine ZT (z := ?_) | refine ZU (z := ?_) | refine YA (z := ?_) | refine ZG (z := ?_) | refine ZI (z := ?_) | refine YC (z := ?_) | refine YD (z := ?_) | refine YE (z := ?_))
    refine AWP.cond_bool rfl (fun hc => ?_) (fun hc => AWP.skip ?_)
    · have hr : decOk (split w) = false := decOk_false (fun h => by have h1 : reg (split w).c = false := (by simpa using hc); simp_all)
      repeat (first | refine nl ?_ | refine AWP.seq ?_ | refine rg ?_ | refine AWP.skip ?_ | refine AWP.block ?_ | refine YH (z := ?_) | refine YI (z := ?_) | refine ZA (z := ?_) | refine ZB (z := ?_) | refine ZC (z := ?_) | refine ZD (z := ?_) | refine ZE (z := ?_) | refine ZF (z := ?_) | refine ZJ (z := ?_) | refine ZK (z := ?_) | refine ZM (z := ?_) | refine ZH (z := ?_) | refine ZO (z := ?_) | refine ZQ (z := ?_) | refine ZR (z := ?_) | refine ZT (z := ?_) | refine ZU (z := ?_) | refine YA (z := ?_) | refine ZG (z := ?_) | refine ZI (z := ?_) | refine YC (z := ?_) | refine YD (z := ?_) | refine YE (z := ?_))
      refine bds (cs := insRow zIns) rfl rfl rfl rfl ?_
      refine soV rfl rfl rfl rfl rfl rfl ?_
      repeat (first | refine nl ?_ | refine AWP.seq ?_ | refine rg ?_ | refine AWP.skip ?_ | refine AWP.block ?_ | refine YH (z := ?_) | refine YI (z := ?_) | refine ZA (z := ?_) | refine ZB (z := ?_) | refine ZC (z := ?_) | refine ZD (z := ?_) | refine ZE (z := ?_) | refine ZF (z := ?_) | refine ZJ (z := ?_) | refine ZK (z := ?_) | refine ZM (z := ?_) | refine ZH (z := ?_) | refine ZO (z := ?_) | refine ZQ (z := ?_) | refine ZR (z := ?_) | refine ZT (z := ?_) | refine ZU (z := ?_) | refine YA (z := ?_) | refine ZG (z := ?_) | refine ZI (z := ?_) | refine YC (z := ?_) | refine YD (z := ?_) | refine YE (z := ?_))
      exact AWP.ret (rets (resCW rfl (St.obj_set _ _ _) rfl rfl rfl rfl) (.refl _) (StLe.new h2 (.refl _)) ⟨by rw [decF hr]; rfl, rfl⟩)
    have hr : decOk (split w) = true := by
      have h1 : opr (split w).op = true := by simpa using ho
      have h3 : reg (split w).a = true := by simpa using ha
      have h5 : reg (split w).b = true := by simpa using hb
      have h6 : reg (split w).c = true := by simpa using hc
      simp [decOk, h1, h3, h5, h6]
    repeat (first | refine nl ?_ | refine AWP.seq ?_ | refine rg ?_ | refine AWP.skip ?_ | refine AWP.block ?_ | refine YH (z := ?_) | refine YI (z := ?_) | refine ZA (z := ?_) | refine ZB (z := ?_) | refine ZC (z := ?_) | refine ZD (z := ?_) | refine ZE (z := ?_) | refine ZF (z := ?_) | refine ZJ (z := ?_) | refine ZK (z := ?_) | refine ZM (z := ?_) | refine ZH (z := ?_) | refine ZO (z := ?_) | refine ZQ (z := ?_) | refine ZR (z := ?_) | refine ZT (z := ?_) | refine ZU (z := ?_) | refine YA (z := ?_) | refine ZG (z := ?_) | refine ZI (z := ?_) | refine YC (z := ?_) | refine YD (z := ?_) | refine YE (z := ?_))
    refine soV rfl rfl rfl rfl rfl rfl ?_
    repeat (first | refine nl ?_ | refine AWP.seq ?_ | refine rg ?_ | refine AWP.skip ?_ | refine AWP.block ?_ | refine YH (z := ?_) | refine YI (z := ?_) | refine ZA (z := ?_) | refine ZB (z := ?_) | refine ZC (z := ?_) | refine ZD (z := ?_) | refine ZE (z := ?_) | refine ZF (z := ?_) | refine ZJ (z := ?_) | refine ZK (z := ?_) | refine ZM (z := ?_) | refine ZH (z := ?_) | refine ZO (z := ?_) | refine ZQ (z := ?_) | refine ZR (z := ?_) | refine ZT (z := ?_) | refine ZU (z := ?_) | refine YA (z := ?_) | refine ZG (z := ?_) | refine ZI (z := ?_) | refine YC (z := ?_) | refine YD (z := ?_) | refine YE (z := ?_))
    exact AWP.ret (rets (resCW rfl (St.obj_set _ _ _) rfl rfl rfl rfl) (.refl _) (StLe.new h2 (.refl _)) ⟨by rw [decT hr]; rfl, rfl⟩)

set_option maxHeartbeats 2000000 in
theorem rdecode_ok (w : Int) (hw : w64 w) (st : St) : ACalls Tryd.prog 13 [.int .i64 w] st (fun v st' => v = decV w ∧ st' = st) (fun _ _ => False) := by
    refine ACalls.ofBody Tryd.func13 rfl Tryd.ntmps13 rfl ?_
    repeat (first | refine nl ?_ | refine AWP.seq ?_ | refine AWP.skip ?_ | refine AWP.block ?_)
    refine rg ?_
    refine al rfl rfl fun o2 h2 => ?_
    repeat (first | refine nl ?_ | refine AWP.seq ?_ | refine rg ?_ | refine AWP.skip ?_ | refine AWP.block ?_ | refine YH (z := ?_) | refine YI (z := ?_) | refine ZA (z := ?_) | refine ZB (z := ?_) | refine ZC (z := ?_) | refine ZD (z := ?_) | refine ZE (z := ?_) | refine ZF (z := ?_) | refine ZJ (z := ?_) | refine ZK (z := ?_) | refine ZM (z := ?_) | refine ZH (z := ?_) | refine ZO (z := ?_) | refine ZQ (z := ?_) | refine ZR (z := ?_) | refine ZT (z := ?_) | refine ZU (z := ?_) | refine YA (z := ?_) | refine ZG (z := ?_) | refine ZI (z := ?_) | refine YC (z := ?_) | refine YD (z := ?_) | refine YE (z := ?_))
    refine btk (.inl rfl) rfl rfl rfl (and255 _) ?_
    repeat (first | refine ZA (z := ?_) | refine ZB (z := ?_) | refine ZC (z := ?_) | refine ZD (z := ?_) | refine ZE (z := ?_) | refine ZF (z := ?_) | refine ZJ (z := ?_) | refine ZK (z := ?_) | refine ZM (z := ?_) | refine ZH (z := ?_) | refine ZO (z := ?_) | refine ZQ (z := ?_) | refine ZR (z := ?_) | refine ZT (z := ?_) | refine ZU (z := ?_) | refine YA (z := ?_) | refine ZG (z := ?_) | refine ZI (z := ?_) | refine YC (z := ?_) | refine YD (z := ?_) | refine YE (z := ?_))
    refine shr_ (b := 8) rfl rfl rfl shr8 ?_
    refine btk (.inl rfl) rfl rfl rfl (and255 _) ?_
    repeat (first | refine ZA (z := ?_) | refine ZB (z := ?_) | refine ZC (z := ?_) | refine ZD (z := ?_) | refine ZE (z := ?_) | refine ZF (z := ?_) | refine ZJ (z := ?_) | refine ZK (z := ?_) | refine ZM (z := ?_) | refine ZH (z := ?_) | refine ZO (z := ?_) | refine ZQ (z := ?_) | refine ZR (z := ?_) | refine ZT (z := ?_) | refine ZU (z := ?_) | refine YA (z := ?_) | refine ZG (z := ?_) | refine ZI (z := ?_) | refine YC (z := ?_) | refine YD (z := ?_) | refine YE (z := ?_))
    refine shr_ (b := 16) rfl rfl rfl shr16 ?_
    refine btk (.inl rfl) rfl rfl rfl (and255 _) ?_
    repeat (first | refine ZA (z := ?_) | refine ZB (z := ?_) | refine ZC (z := ?_) | refine ZD (z := ?_) | refine ZE (z := ?_) | refine ZF (z := ?_) | refine ZJ (z := ?_) | refine ZK (z := ?_) | refine ZM (z := ?_) | refine ZH (z := ?_) | refine ZO (z := ?_) | refine ZQ (z := ?_) | refine ZR (z := ?_) | refine ZT (z := ?_) | refine ZU (z := ?_) | refine YA (z := ?_) | refine ZG (z := ?_) | refine ZI (z := ?_) | refine YC (z := ?_) | refine YD (z := ?_) | refine YE (z := ?_))
    refine shr_ (b := 24) rfl rfl rfl shr24 ?_
    refine btk (.inl rfl) rfl rfl rfl (and255 _) ?_
    repeat (first | refine ZA (z := ?_) | refine ZB (z := ?_) | refine ZC (z := ?_) | refine ZD (z := ?_) | refine ZE (z := ?_) | refine ZF (z := ?_) | refine ZJ (z := ?_) | refine ZK (z := ?_) | refine ZM (z := ?_) | refine ZH (z := ?_) | refine ZO (z := ?_) | refine ZQ (z := ?_) | refine ZR (z := ?_) | refine ZT (z := ?_) | refine ZU (z := ?_) | refine YA (z := ?_) | refine ZG (z := ?_) | refine ZI (z := ?_) | refine YC (z := ?_) | refine YD (z := ?_) | refine YE (z := ?_))
    refine shr_ (b := 32) rfl rfl rfl shr32 ?_
    refine bds (cs := insRow (split w)) rfl rfl rfl rfl ?_
    refine al rfl rfl fun o4 h4 => ?_
    refine soN 4 rfl rfl rfl rfl rfl rfl h4 ?_
    repeat (first | refine nl ?_ | refine AWP.seq ?_ | refine rg ?_ | refine AWP.skip ?_ | refine AWP.block ?_ | refine YH (z := ?_) | refine YI (z := ?_) | refine ZA (z := ?_) | refine ZB (z := ?_) | refine ZC (z := ?_) | refine ZD (z := ?_) | refine ZE (z := ?_) | refine ZF (z := ?_) | refine ZJ (z := ?_) | refine ZK (z := ?_) | refine ZM (z := ?_) | refine ZH (z := ?_) | refine ZO (z := ?_) | refine ZQ (z := ?_) | refine ZR (z := ?_) | refine ZT (z := ?_) | refine ZU (z := ?_) | refine YA (z := ?_) | refine ZG (z := ?_) | refine ZI (z := ?_) | refine YC (z := ?_) | refine YD (z := ?_) | refine YE (z := ?_))
    cases hr : decOk (split w) with
    | false =>
      have he : (enc (split w)).2 ≠ 0 := by
        unfold enc
        split
        · simp
        · split
          · simp
          · rename_i h1 h3
            simp only [Bool.not_eq_false] at h1 h3
            have := rng_iff.1 h1
            have := opr_iff.1 h3
            have : decOk (split w) = true := decOk_iff.2 ⟨opr_iff.1 h3, (rng_iff.1 h1).2⟩
            rw [hr] at this
            cases this
      refine cT rfl (decide_eq_true he) ?_
      repeat (first | refine nl ?_ | refine AWP.seq ?_ | refine rg ?_ | refine AWP.skip ?_ | refine AWP.block ?_ | refine YH (z := ?_) | refine YI (z := ?_) | refine ZA (z := ?_) | refine ZB (z := ?_) | refine ZC (z := ?_) | refine ZD (z := ?_) | refine ZE (z := ?_) | refine ZF (z := ?_) | refine ZJ (z := ?_) | refine ZK (z := ?_) | refine ZM (z := ?_) | refine ZH (z := ?_) | refine ZO (z := ?_) | refine ZQ (z := ?_) | refine ZR (z := ?_) | refine ZT (z := ?_) | refine ZU (z := ?_) | refine YA (z := ?_) | refine ZG (z := ?_) | refine ZI (z := ?_) | refine YC (z := ?_) | refine YD (z := ?_) | refine YE (z := ?_))
      refine bds (cs := insRow zIns) rfl rfl rfl rfl ?_
      refine soV rfl rfl rfl rfl rfl rfl ?_
      repeat (first | refine nl ?_ | refine AWP.seq ?_ | refine rg ?_ | refine AWP.skip ?_ | refine AWP.block ?_ | refine YH (z := ?_) | refine YI (z := ?_) | refine ZA (z := ?_) | refine ZB (z := ?_) | refine ZC (z := ?_) | refine ZD (z := ?_) | refine ZE (z := ?_) | refine ZF (z := ?_) | refine ZJ (z := ?_) | refine ZK (z := ?_) | refine ZM (z := ?_) | refine ZH (z := ?_) | refine ZO (z := ?_) | refine ZQ (z := ?_) | refine ZR (z := ?_) | refine ZT (z := ?_) | refine ZU (z := ?_) | refine YA (z := ?_) | refine ZG (z := ?_) | refine ZI (z := ?_) | refine YC (z := ?_) | refine YD (z := ?_) | refine YE (z := ?_))
      exact AWP.ret (rets (resCW rfl (St.obj_set _ _ _) rfl rfl rfl rfl) (.refl _) (StLe.new h2 (.refl _)) ⟨by rw [decF hr]; rfl, rfl⟩)
    | true =>
      have he : ¬ (enc (split w)).2 ≠ 0 := by
        obtain ⟨h1, h3⟩ := rng_of_dec hw hr
        rw [enc_ok h1 h3]
        simp
      refine cF rfl (decide_eq_false he) ?_
      repeat (first | refine nl ?_ | refine AWP.seq ?_ | refine rg ?_ | refine AWP.skip ?_ | refine AWP.block ?_ | refine YH (z := ?_) | refine YI (z := ?_) | refine ZA (z := ?_) | refine ZB (z := ?_) | refine ZC (z := ?_) | refine ZD (z := ?_) | refine ZE (z := ?_) | refine ZF (z := ?_) | refine ZJ (z := ?_) | refine ZK (z := ?_) | refine ZM (z := ?_) | refine ZH (z := ?_) | refine ZO (z := ?_) | refine ZQ (z := ?_) | refine ZR (z := ?_) | refine ZT (z := ?_) | refine ZU (z := ?_) | refine YA (z := ?_) | refine ZG (z := ?_) | refine ZI (z := ?_) | refine YC (z := ?_) | refine YD (z := ?_) | refine YE (z := ?_))
      refine soV rfl rfl rfl rfl rfl rfl ?_
      repeat (first | refine nl ?_ | refine AWP.seq ?_ | refine rg ?_ | refine AWP.skip ?_ | refine AWP.block ?_ | refine YH (z := ?_) | refine YI (z := ?_) | refine ZA (z := ?_) | refine ZB (z := ?_) | refine ZC (z := ?_) | refine ZD (z := ?_) | refine ZE (z := ?_) | refine ZF (z := ?_) | refine ZJ (z := ?_) | refine ZK (z := ?_) | refine ZM (z := ?_) | refine ZH (z := ?_) | refine ZO (z := ?_) | refine ZQ (z := ?_) | refine ZR (z := ?_) | refine ZT (z := ?_) | refine ZU (z := ?_) | refine YA (z := ?_) | refine ZG (z := ?_) | refine ZI (z := ?_) | refine YC (z := ?_) | refine YD (z := ?_) | refine YE (z := ?_))
      exact AWP.ret (rets (resCW rfl (St.obj_set _ _ _) rfl rfl rfl rfl) (.refl _) (StLe.new h2 (.refl _)) ⟨by rw [decT hr]; rfl, rfl⟩)

instance (n : Int) : PureFn Tryd.prog 22 [.int .i64 n, .int .i64 25] (.int .i64 (n % 25)) := ⟨mod_ok n 25 (by decide) (by decide)⟩
instance (n : Int) : PureFn Tryd.prog 22 [.int .i64 n, .int .i64 16] (.int .i64 (n % 16)) := ⟨mod_ok n 16 (by decide) (by decide)⟩
instance (n : Int) : PureFn Tryd.prog 22 [.int .i64 n, .int .i64 4294967296] (.int .i64 (n % 4294967296)) := ⟨mod_ok n 4294967296 (by decide) (by decide)⟩
def near (i : Ins) : Ins := ⟨1 + i.op % 25, i.a % 16, i.b % 16, i.c % 16, i.imm % 4294967296 - 2147483648⟩
set_option maxHeartbeats 2000000 in
instance near_walk (i : Ins) : PureFn Tryd.prog 17 [.agg (insRow i)] (.agg (insRow (near i))) where
  out st := by
    refine ACalls.ofBody Tryd.func17 rfl Tryd.ntmps17 rfl ?_
    obtain ⟨op, a, b, c, imm⟩ := i
    rw [insRow_mk]
    repeat (first | refine nl ?_ | refine AWP.seq ?_ | refine AWP.skip ?_ | refine AWP.block ?_)
    refine rg ?_
    repeat (first | refine ZA (z := ?_) | refine ZB (z := ?_) | refine ZC (z := ?_) | refine ZD (z := ?_) | refine ZE (z := ?_) | refine ZF (z := ?_) | refine ZJ (z := ?_) | refine ZK (z := ?_) | refine ZM (z := ?_) | refine ZH (z := ?_) | refine ZO (z := ?_) | refine ZQ (z := ?_) | refine ZR (z := ?_) | refine ZT (z := ?_) | refine ZU (z := ?_) | refine YA (z := ?_) | refine ZG (z := ?_) | refine ZI (z := ?_) | refine YC (z := ?_) | refine YD (z := ?_) | refine YE (z := ?_))
    refine al rfl rfl fun o2 h2 => ?_
    repeat (first | refine nl ?_ | refine AWP.seq ?_ | refine AWP.skip ?_ | refine AWP.block ?_)
    refine AWP.draw rfl 17 17 (fun _ _ => False) rfl ?_
    repeat (first | refine ds rfl rfl ?_ | refine dp (h := fun _ _ => ZD (z := nz)) (z := ?_) | refine dp (h := fun _ _ => ZE (z := nz)) (z := ?_) | refine dp (h := fun _ _ => ZF (z := nz)) (z := ?_) | refine dp (h := fun _ _ => ZC (z := nz)) (z := ?_) | refine dp (h := fun _ _ => ZJ (z := nz)) (z := ?_) | refine dp (h := fun _ _ => ZK (z := nz)) (z := ?_) | refine dp (h := fun _ _ => ZM (z := nz)) (z := ?_) | refine dp (h := fun _ _ => ZH (z := nz)) (z := ?_) | refine dp (h := fun _ _ => ZQ (z := nz)) (z := ?_) | refine dp (h := fun _ _ => ZO (z := nz)) (z := ?_) | refine dp (h := fun _ _ => ZG (z := nz)) (z := ?_) | refine dp (h := fun _ _ => ZI (z := nz)) (z := ?_) | refine dp (h := fun _ _ => YC (z := nz)) (z := ?_) | refine dp (h := fun _ _ => YJ (z := nz)) (z := ?_) | refine dp (h := fun _ _ => YK (z := nz)) (z := ?_) | refine dp (h := fun _ _ => YL (z := nz)) (z := ?_) | refine dp (h := fun _ _ => YM (z := nz)) (z := ?_))
    refine dn ⟨fun _ => ?_, fun h => absurd h (by decide)⟩
    refine bds (cs := insRow (near ⟨op, a, b, c, imm⟩)) rfl rfl rfl rfl ?_
    refine soV rfl rfl rfl rfl rfl rfl ?_
    repeat (first | refine nl ?_ | refine AWP.seq ?_ | refine rg ?_ | refine AWP.skip ?_ | refine AWP.block ?_ | refine YH (z := ?_) | refine YI (z := ?_) | refine ZA (z := ?_) | refine ZB (z := ?_) | refine ZC (z := ?_) | refine ZD (z := ?_) | refine ZE (z := ?_) | refine ZF (z := ?_) | refine ZJ (z := ?_) | refine ZK (z := ?_) | refine ZM (z := ?_) | refine ZH (z := ?_) | refine ZO (z := ?_) | refine ZQ (z := ?_) | refine ZR (z := ?_) | refine ZT (z := ?_) | refine ZU (z := ?_) | refine YA (z := ?_) | refine ZG (z := ?_) | refine ZI (z := ?_) | refine YC (z := ?_) | refine YD (z := ?_) | refine YE (z := ?_))
    exact AWP.ret (rets (resCW rfl (St.obj_set _ _ _) rfl rfl rfl rfl) (.refl _) (StLe.new h2 (.refl _)) ⟨rfl, rfl⟩)
end Go.Proofs
/- The walks of the operations and of Reads. No conditions: lemmas only. -/
namespace Go.Proofs
open Go.AM
attribute [local irreducible] AWP AOps ACalls
set_option linter.unusedSimpArgs false

instance (b : Bool) : PureFn Tryd.prog 41 [.bool b] (.int .i64 (b01 b)) where
  out st := by
    refine ACalls.ofBody Tryd.func41 rfl Tryd.ntmps41 rfl ?_
    cases b
    · repeat (first | refine nl ?_ | refine AWP.seq ?_ | refine rg ?_ | refine AWP.skip ?_ | refine AWP.block ?_ | refine YH (z := ?_) | refine YI (z := ?_) | refine ZA (z := ?_) | refine ZB (z := ?_) | refine ZC (z := ?_) | refine ZD (z := ?_) | refine ZE (z := ?_) | refine ZF (z := ?_) | refine ZJ (z := ?_) | refine ZK (z := ?_) | refine ZM (z := ?_) | refine ZH (z := ?_) | refine ZO (z := ?_) | refine ZQ (z := ?_) | refine ZR (z := ?_) | refine ZT (z := ?_) | refine ZU (z := ?_) | refine YA (z := ?_) | refine ZG (z := ?_) | refine ZI (z := ?_) | refine YC (z := ?_) | refine YD (z := ?_) | refine YE (z := ?_))
      exact AWP.ret (rets rfl (.refl _) (.refl _) ⟨rfl, rfl⟩)
    · repeat (first | refine nl ?_ | refine AWP.seq ?_ | refine rg ?_ | refine AWP.skip ?_ | refine AWP.block ?_ | refine YH (z := ?_) | refine YI (z := ?_) | refine ZA (z := ?_) | refine ZB (z := ?_) | refine ZC (z := ?_) | refine ZD (z := ?_) | refine ZE (z := ?_) | refine ZF (z := ?_) | refine ZJ (z := ?_) | refine ZK (z := ?_) | refine ZM (z := ?_) | refine ZH (z := ?_) | refine ZO (z := ?_) | refine ZQ (z := ?_) | refine ZR (z := ?_) | refine ZT (z := ?_) | refine ZU (z := ?_) | refine YA (z := ?_) | refine ZG (z := ?_) | refine ZI (z := ?_) | refine YC (z := ?_) | refine YD (z := ?_) | refine YE (z := ?_))
      exact AWP.ret (rets rfl (.refl _) (.refl _) ⟨rfl, rfl⟩)
set_option maxHeartbeats 2000000 in
instance compute_ok (op x y : Int) : PureFn Tryd.prog 36 [.int .i64 op, .int .i64 x, .int .i64 y] (.int .i64 (bin (op - 6) x y)) where
  out st := by
    refine ACalls.ofBody Tryd.func36 rfl Tryd.ntmps36 rfl ?_
    have fin : ∀ {v : Int}, v = bin (op - 6) x y → AV.int .i64 v = .int .i64 (bin (op - 6) x y) := fun h => by rw [h]
    repeat (first | refine nl ?_ | refine AWP.seq ?_ | refine rg ?_ | refine AWP.skip ?_ | refine AWP.block ?_ | refine YH (z := ?_) | refine YI (z := ?_) | refine ZA (z := ?_) | refine ZB (z := ?_) | refine ZC (z := ?_) | refine ZD (z := ?_) | refine ZE (z := ?_) | refine ZF (z := ?_) | refine ZJ (z := ?_) | refine ZK (z := ?_) | refine ZM (z := ?_) | refine ZH (z := ?_) | refine ZO (z := ?_) | refine ZQ (z := ?_) | refine ZR (z := ?_) | refine ZT (z := ?_) | refine ZU (z := ?_) | refine YA (z := ?_) | refine ZG (z := ?_) | refine ZI (z := ?_) | refine YC (z := ?_) | refine YD (z := ?_) | refine YE (z := ?_))
    refine AWP.cond_dec rfl (fun h6 => ?_) (fun h6 => ?_)
    · have e6 : op - 6 = 0 := by have h0 : op = 6 := h6; omega
      repeat (first | refine nl ?_ | refine AWP.seq ?_ | refine rg ?_ | refine AWP.skip ?_ | refine AWP.block ?_ | refine YH (z := ?_) | refine YI (z := ?_) | refine ZA (z := ?_) | refine ZB (z := ?_) | refine ZC (z := ?_) | refine ZD (z := ?_) | refine ZE (z := ?_) | refine ZF (z := ?_) | refine ZJ (z := ?_) | refine ZK (z := ?_) | refine ZM (z := ?_) | refine ZH (z := ?_) | refine ZO (z := ?_) | refine ZQ (z := ?_) | refine ZR (z := ?_) | refine ZT (z := ?_) | refine ZU (z := ?_) | refine YA (z := ?_) | refine ZG (z := ?_) | refine ZI (z := ?_) | refine YC (z := ?_) | refine YD (z := ?_) | refine YE (z := ?_))
      refine adk rfl rfl rfl rfl ?_
      repeat (first | refine nl ?_ | refine AWP.seq ?_ | refine rg ?_ | refine AWP.skip ?_ | refine AWP.block ?_ | refine YH (z := ?_) | refine YI (z := ?_) | refine ZA (z := ?_) | refine ZB (z := ?_) | refine ZC (z := ?_) | refine ZD (z := ?_) | refine ZE (z := ?_) | refine ZF (z := ?_) | refine ZJ (z := ?_) | refine ZK (z := ?_) | refine ZM (z := ?_) | refine ZH (z := ?_) | refine ZO (z := ?_) | refine ZQ (z := ?_) | refine ZR (z := ?_) | refine ZT (z := ?_) | refine ZU (z := ?_) | refine YA (z := ?_) | refine ZG (z := ?_) | refine ZI (z := ?_) | refine YC (z := ?_) | refine YD (z := ?_) | refine YE (z := ?_))
      exact AWP.ret (rets rfl (.refl _) (.refl _) ⟨fin (by simp [bin, add64, sub64, mul64, e6]), rfl⟩)
    have h6' : ¬ op - 6 = 0 := by have h0 : ¬ op = 6 := h6; omega
    repeat (first | refine nl ?_ | refine AWP.seq ?_ | refine rg ?_ | refine AWP.skip ?_ | refine AWP.block ?_ | refine YH (z := ?_) | refine YI (z := ?_) | refine ZA (z := ?_) | refine ZB (z := ?_) | refine ZC (z := ?_) | refine ZD (z := ?_) | refine ZE (z := ?_) | refine ZF (z := ?_) | refine ZJ (z := ?_) | refine ZK (z := ?_) | refine ZM (z := ?_) | refine ZH (z := ?_) | refine ZO (z := ?_) | refine ZQ (z := ?_) | refine ZR (z := ?_) | refine ZT (z := ?_) | refine ZU (z := ?_) | refine YA (z := ?_) | refine ZG (z := ?_) | refine ZI (z := ?_) | refine YC (z := ?_) | refine YD (z := ?_) | refine YE (z := ?_))
    refine AWP.cond_dec rfl (fun h7 => ?_) (fun h7 => ?_)
    · have e7 : op - 6 = 1 := by have h0 : op = 7 := h7; omega
      repeat (first | refine nl ?_ | refine AWP.seq ?_ | refine rg ?_ | refine AWP.skip ?_ | refine AWP.block ?_ | refine YH (z := ?_) | refine YI (z := ?_) | refine ZA (z := ?_) | refine ZB (z := ?_) | refine ZC (z := ?_) | refine ZD (z := ?_) | refine ZE (z := ?_) | refine ZF (z := ?_) | refine ZJ (z := ?_) | refine ZK (z := ?_) | refine ZM (z := ?_) | refine ZH (z := ?_) | refine ZO (z := ?_) | refine ZQ (z := ?_) | refine ZR (z := ?_) | refine ZT (z := ?_) | refine ZU (z := ?_) | refine YA (z := ?_) | refine ZG (z := ?_) | refine ZI (z := ?_) | refine YC (z := ?_) | refine YD (z := ?_) | refine YE (z := ?_))
      refine sbk rfl rfl rfl rfl ?_
      repeat (first | refine nl ?_ | refine AWP.seq ?_ | refine rg ?_ | refine AWP.skip ?_ | refine AWP.block ?_ | refine YH (z := ?_) | refine YI (z := ?_) | refine ZA (z := ?_) | refine ZB (z := ?_) | refine ZC (z := ?_) | refine ZD (z := ?_) | refine ZE (z := ?_) | refine ZF (z := ?_) | refine ZJ (z := ?_) | refine ZK (z := ?_) | refine ZM (z := ?_) | refine ZH (z := ?_) | refine ZO (z := ?_) | refine ZQ (z := ?_) | refine ZR (z := ?_) | refine ZT (z := ?_) | refine ZU (z := ?_) | refine YA (z := ?_) | refine ZG (z := ?_) | refine ZI (z := ?_) | refine YC (z := ?_) | refine YD (z := ?_) | refine YE (z := ?_))
      exact AWP.ret (rets rfl (.refl _) (.refl _) ⟨fin (by simp [bin, add64, sub64, mul64, h6', e7]), rfl⟩)
    have h7' : ¬ op - 6 = 1 := by have h0 : ¬ op = 7 := h7; omega
    repeat (first | refine nl ?_ | refine AWP.seq ?_ | refine rg ?_ | refine AWP.skip ?_ | refine AWP.block ?_ | refine YH (z := ?_) | refine YI (z := ?_) | refine ZA (z := ?_) | refine ZB (z := ?_) | refine ZC (z := ?_) | refine ZD (z := ?_) | refine ZE (z := ?_) | refine ZF (z := ?_) | refine ZJ (z := ?_) | refine ZK (z := ?_) | refine ZM (z := ?_) | refine ZH (z := ?_) | refine ZO (z := ?_) | refine ZQ (z := ?_) | refine ZR (z := ?_) | refine ZT (z := ?_) | refine ZU (z := ?_) | refine YA (z := ?_) | refine ZG (z := ?_) | refine ZI (z := ?_) | refine YC (z := ?_) | refine YD (z := ?_) | refine YE (z := ?_))
    refine AWP.cond_dec rfl (fun h8 => ?_) (fun h8 => ?_)
    · have e8 : op - 6 = 2 := by have h0 : op = 8 := h8; omega
      repeat (first | refine nl ?_ | refine AWP.seq ?_ | refine rg ?_ | refine AWP.skip ?_ | refine AWP.block ?_ | refine YH (z := ?_) | refine YI (z := ?_) | refine ZA (z := ?_) | refine ZB (z := ?_) | refine ZC (z := ?_) | refine ZD (z := ?_) | refine ZE (z := ?_) | refine ZF (z := ?_) | refine ZJ (z := ?_) | refine ZK (z := ?_) | refine ZM (z := ?_) | refine ZH (z := ?_) | refine ZO (z := ?_) | refine ZQ (z := ?_) | refine ZR (z := ?_) | refine ZT (z := ?_) | refine ZU (z := ?_) | refine YA (z := ?_) | refine ZG (z := ?_) | refine ZI (z := ?_) | refine YC (z := ?_) | refine YD (z := ?_) | refine YE (z := ?_))
      refine mlk rfl rfl rfl rfl ?_
      repeat (first | refine nl ?_ | refine AWP.seq ?_ | refine rg ?_ | refine AWP.skip ?_ | refine AWP.block ?_ | refine YH (z := ?_) | refine YI (z := ?_) | refine ZA (z := ?_) | refine ZB (z := ?_) | refine ZC (z := ?_) | refine ZD (z := ?_) | refine ZE (z := ?_) | refine ZF (z := ?_) | refine ZJ (z := ?_) | refine ZK (z := ?_) | refine ZM (z := ?_) | refine ZH (z := ?_) | refine ZO (z := ?_) | refine ZQ (z := ?_) | refine ZR (z := ?_) | refine ZT (z := ?_) | refine ZU (z := ?_) | refine YA (z := ?_) | refine ZG (z := ?_) | refine ZI (z := ?_) | refine YC (z := ?_) | refine YD (z := ?_) | refine YE (z := ?_))
      exact AWP.ret (rets rfl (.refl _) (.refl _) ⟨fin (by simp [bin, add64, sub64, mul64, h6', h7', e8]), rfl⟩)
    have h8' : ¬ op - 6 = 2 := by have h0 : ¬ op = 8 := h8; omega
    repeat (first | refine nl ?_ | refine AWP.seq ?_ | refine rg ?_ | refine AWP.skip ?_ | refine AWP.block ?_ | refine YH (z := ?_) | refine YI (z := ?_) | refine ZA (z := ?_) | refine ZB (z := ?_) | refine ZC (z := ?_) | refine ZD (z := ?_) | refine ZE (z := ?_) | refine ZF (z := ?_) | refine ZJ (z := ?_) | refine ZK (z := ?_) | refine ZM (z := ?_) | refine ZH (z := ?_) | refine ZO (z := ?_) | refine ZQ (z := ?_) | refine ZR (z := ?_) | refine ZT (z := ?_) | refine ZU (z := ?_) | refine YA (z := ?_) | refine ZG (z := ?_) | refine ZI (z := ?_) | refine YC (z := ?_) | refine YD (z := ?_) | refine YE (z := ?_))
    refine AWP.cond_dec rfl (fun h9 => ?_) (fun h9 => ?_)
    · have e9 : op - 6 = 3 := by have h0 : op = 9 := h9; omega
      repeat (first | refine nl ?_ | refine AWP.seq ?_ | refine rg ?_ | refine AWP.skip ?_ | refine AWP.block ?_ | refine YH (z := ?_) | refine YI (z := ?_) | refine ZA (z := ?_) | refine ZB (z := ?_) | refine ZC (z := ?_) | refine ZD (z := ?_) | refine ZE (z := ?_) | refine ZF (z := ?_) | refine ZJ (z := ?_) | refine ZK (z := ?_) | refine ZM (z := ?_) | refine ZH (z := ?_) | refine ZO (z := ?_) | refine ZQ (z := ?_) | refine ZR (z := ?_) | refine ZT (z := ?_) | refine ZU (z := ?_) | refine YA (z := ?_) | refine ZG (z := ?_) | refine ZI (z := ?_) | refine YC (z := ?_) | refine YD (z := ?_) | refine YE (z := ?_))
      refine AWP.cond_dec rfl (fun hy => ?_) (fun hy => AWP.skip ?_)
      · have hy' : y = 0 := hy
        repeat (first | refine nl ?_ | refine AWP.seq ?_ | refine rg ?_ | refine AWP.skip ?_ | refine AWP.block ?_ | refine YH (z := ?_) | refine YI (z := ?_) | refine ZA (z := ?_) | refine ZB (z := ?_) | refine ZC (z := ?_) | refine ZD (z := ?_) | refine ZE (z := ?_) | refine ZF (z := ?_) | refine ZJ (z := ?_) | refine ZK (z := ?_) | refine ZM (z := ?_) | refine ZH (z := ?_) | refine ZO (z := ?_) | refine ZQ (z := ?_) | refine ZR (z := ?_) | refine ZT (z := ?_) | refine ZU (z := ?_) | refine YA (z := ?_) | refine ZG (z := ?_) | refine ZI (z := ?_) | refine YC (z := ?_) | refine YD (z := ?_) | refine YE (z := ?_))
        exact AWP.ret (rets rfl (.refl _) (.refl _) ⟨fin (by simp [bin, add64, sub64, mul64, h6', h7', h8', e9, hy']), rfl⟩)
      · have hy' : ¬ y = 0 := hy
        repeat (first | refine nl ?_ | refine AWP.seq ?_ | refine rg ?_ | refine AWP.skip ?_ | refine AWP.block ?_ | refine YH (z := ?_) | refine YI (z := ?_) | refine ZA (z := ?_) | refine ZB (z := ?_) | refine ZC (z := ?_) | refine ZD (z := ?_) | refine ZE (z := ?_) | refine ZF (z := ?_) | refine ZJ (z := ?_) | refine ZK (z := ?_) | refine ZM (z := ?_) | refine ZH (z := ?_) | refine ZO (z := ?_) | refine ZQ (z := ?_) | refine ZR (z := ?_) | refine ZT (z := ?_) | refine ZU (z := ?_) | refine YA (z := ?_) | refine ZG (z := ?_) | refine ZI (z := ?_) | refine YC (z := ?_) | refine YD (z := ?_) | refine YE (z := ?_))
        refine quk rfl rfl rfl hy' rfl ?_
        repeat (first | refine nl ?_ | refine AWP.seq ?_ | refine rg ?_ | refine AWP.skip ?_ | refine AWP.block ?_ | refine YH (z := ?_) | refine YI (z := ?_) | refine ZA (z := ?_) | refine ZB (z := ?_) | refine ZC (z := ?_) | refine ZD (z := ?_) | refine ZE (z := ?_) | refine ZF (z := ?_) | refine ZJ (z := ?_) | refine ZK (z := ?_) | refine ZM (z := ?_) | refine ZH (z := ?_) | refine ZO (z := ?_) | refine ZQ (z := ?_) | refine ZR (z := ?_) | refine ZT (z := ?_) | refine ZU (z := ?_) | refine YA (z := ?_) | refine ZG (z := ?_) | refine ZI (z := ?_) | refine YC (z := ?_) | refine YD (z := ?_) | refine YE (z := ?_))
        exact AWP.ret (rets rfl (.refl _) (.refl _) ⟨fin (by simp [bin, add64, sub64, mul64, h6', h7', h8', e9, hy']), rfl⟩)
    have h9' : ¬ op - 6 = 3 := by have h0 : ¬ op = 9 := h9; omega
    repeat (first | refine nl ?_ | refine AWP.seq ?_ | refine rg ?_ | refine AWP.skip ?_ | refine AWP.block ?_ | refine YH (z := ?_) | refine YI (z := ?_) | refine ZA (z := ?_) | refine ZB (z := ?_) | refine ZC (z := ?_) | refine ZD (z := ?_) | refine ZE (z := ?_) | refine ZF (z := ?_) | refine ZJ (z := ?_) | refine ZK (z := ?_) | refine ZM (z := ?_) | refine ZH (z := ?_) | refine ZO (z := ?_) | refine ZQ (z := ?_) | refine ZR (z := ?_) | refine ZT (z := ?_) | refine ZU (z := ?_) | refine YA (z := ?_) | refine ZG (z := ?_) | refine ZI (z := ?_) | refine YC (z := ?_) | refine YD (z := ?_) | refine YE (z := ?_))
    refine AWP.cond_dec rfl (fun h10 => ?_) (fun h10 => ?_)
    · have e10 : op - 6 = 4 := by have h0 : op = 10 := h10; omega
      repeat (first | refine nl ?_ | refine AWP.seq ?_ | refine rg ?_ | refine AWP.skip ?_ | refine AWP.block ?_ | refine YH (z := ?_) | refine YI (z := ?_) | refine ZA (z := ?_) | refine ZB (z := ?_) | refine ZC (z := ?_) | refine ZD (z := ?_) | refine ZE (z := ?_) | refine ZF (z := ?_) | refine ZJ (z := ?_) | refine ZK (z := ?_) | refine ZM (z := ?_) | refine ZH (z := ?_) | refine ZO (z := ?_) | refine ZQ (z := ?_) | refine ZR (z := ?_) | refine ZT (z := ?_) | refine ZU (z := ?_) | refine YA (z := ?_) | refine ZG (z := ?_) | refine ZI (z := ?_) | refine YC (z := ?_) | refine YD (z := ?_) | refine YE (z := ?_))
      refine AWP.cond_dec rfl (fun hy => ?_) (fun hy => AWP.skip ?_)
      · have hy' : y = 0 := hy
        repeat (first | refine nl ?_ | refine AWP.seq ?_ | refine rg ?_ | refine AWP.skip ?_ | refine AWP.block ?_ | refine YH (z := ?_) | refine YI (z := ?_) | refine ZA (z := ?_) | refine ZB (z := ?_) | refine ZC (z := ?_) | refine ZD (z := ?_) | refine ZE (z := ?_) | refine ZF (z := ?_) | refine ZJ (z := ?_) | refine ZK (z := ?_) | refine ZM (z := ?_) | refine ZH (z := ?_) | refine ZO (z := ?_) | refine ZQ (z := ?_) | refine ZR (z := ?_) | refine ZT (z := ?_) | refine ZU (z := ?_) | refine YA (z := ?_) | refine ZG (z := ?_) | refine ZI (z := ?_) | refine YC (z := ?_) | refine YD (z := ?_) | refine YE (z := ?_))
        exact AWP.ret (rets rfl (.refl _) (.refl _) ⟨fin (by simp [bin, add64, sub64, mul64, h6', h7', h8', h9', e10, hy']), rfl⟩)
      · have hy' : ¬ y = 0 := hy
        repeat (first | refine nl ?_ | refine AWP.seq ?_ | refine rg ?_ | refine AWP.skip ?_ | refine AWP.block ?_ | refine YH (z := ?_) | refine YI (z := ?_) | refine ZA (z := ?_) | refine ZB (z := ?_) | refine ZC (z := ?_) | refine ZD (z := ?_) | refine ZE (z := ?_) | refine ZF (z := ?_) | refine ZJ (z := ?_) | refine ZK (z := ?_) | refine ZM (z := ?_) | refine ZH (z := ?_) | refine ZO (z := ?_) | refine ZQ (z := ?_) | refine ZR (z := ?_) | refine ZT (z := ?_) | refine ZU (z := ?_) | refine YA (z := ?_) | refine ZG (z := ?_) | refine ZI (z := ?_) | refine YC (z := ?_) | refine YD (z := ?_) | refine YE (z := ?_))
        refine rm rfl rfl rfl hy' ?_
        repeat (first | refine nl ?_ | refine AWP.seq ?_ | refine rg ?_ | refine AWP.skip ?_ | refine AWP.block ?_ | refine YH (z := ?_) | refine YI (z := ?_) | refine ZA (z := ?_) | refine ZB (z := ?_) | refine ZC (z := ?_) | refine ZD (z := ?_) | refine ZE (z := ?_) | refine ZF (z := ?_) | refine ZJ (z := ?_) | refine ZK (z := ?_) | refine ZM (z := ?_) | refine ZH (z := ?_) | refine ZO (z := ?_) | refine ZQ (z := ?_) | refine ZR (z := ?_) | refine ZT (z := ?_) | refine ZU (z := ?_) | refine YA (z := ?_) | refine ZG (z := ?_) | refine ZI (z := ?_) | refine YC (z := ?_) | refine YD (z := ?_) | refine YE (z := ?_))
        exact AWP.ret (rets rfl (.refl _) (.refl _) ⟨fin (by simp [bin, add64, sub64, mul64, h6', h7', h8', h9', e10, hy']), rfl⟩)
    have h10' : ¬ op - 6 = 4 := by have h0 : ¬ op = 10 := h10; omega
    repeat (first | refine nl ?_ | refine AWP.seq ?_ | refine rg ?_ | refine AWP.skip ?_ | refine AWP.block ?_ | refine YH (z := ?_) | refine YI (z := ?_) | refine ZA (z := ?_) | refine ZB (z := ?_) | refine ZC (z := ?_) | refine ZD (z := ?_) | refine ZE (z := ?_) | refine ZF (z := ?_) | refine ZJ (z := ?_) | refine ZK (z := ?_) | refine ZM (z := ?_) | refine ZH (z := ?_) | refine ZO (z := ?_) | refine ZQ (z := ?_) | refine ZR (z := ?_) | refine ZT (z := ?_) | refine ZU (z := ?_) | refine YA (z := ?_) | refine ZG (z := ?_) | refine ZI (z := ?_) | refine YC (z := ?_) | refine YD (z := ?_) | refine YE (z := ?_))
    refine AWP.cond_dec rfl (fun h11 => ?_) (fun h11 => ?_)
    · have e11 : op - 6 = 5 := by have h0 : op = 11 := h11; omega
      repeat (first | refine nl ?_ | refine AWP.seq ?_ | refine rg ?_ | refine AWP.skip ?_ | refine AWP.block ?_ | refine YH (z := ?_) | refine YI (z := ?_) | refine ZA (z := ?_) | refine ZB (z := ?_) | refine ZC (z := ?_) | refine ZD (z := ?_) | refine ZE (z := ?_) | refine ZF (z := ?_) | refine ZJ (z := ?_) | refine ZK (z := ?_) | refine ZM (z := ?_) | refine ZH (z := ?_) | refine ZO (z := ?_) | refine ZQ (z := ?_) | refine ZR (z := ?_) | refine ZT (z := ?_) | refine ZU (z := ?_) | refine YA (z := ?_) | refine ZG (z := ?_) | refine ZI (z := ?_) | refine YC (z := ?_) | refine YD (z := ?_) | refine YE (z := ?_))
      refine btk (.inl rfl) rfl rfl rfl rfl ?_
      repeat (first | refine nl ?_ | refine AWP.seq ?_ | refine rg ?_ | refine AWP.skip ?_ | refine AWP.block ?_ | refine YH (z := ?_) | refine YI (z := ?_) | refine ZA (z := ?_) | refine ZB (z := ?_) | refine ZC (z := ?_) | refine ZD (z := ?_) | refine ZE (z := ?_) | refine ZF (z := ?_) | refine ZJ (z := ?_) | refine ZK (z := ?_) | refine ZM (z := ?_) | refine ZH (z := ?_) | refine ZO (z := ?_) | refine ZQ (z := ?_) | refine ZR (z := ?_) | refine ZT (z := ?_) | refine ZU (z := ?_) | refine YA (z := ?_) | refine ZG (z := ?_) | refine ZI (z := ?_) | refine YC (z := ?_) | refine YD (z := ?_) | refine YE (z := ?_))
      exact AWP.ret (rets rfl (.refl _) (.refl _) ⟨fin (by simp [bin, add64, sub64, mul64, h6', h7', h8', h9', h10', e11]), rfl⟩)
    have h11' : ¬ op - 6 = 5 := by have h0 : ¬ op = 11 := h11; omega
    repeat (first | refine nl ?_ | refine AWP.seq ?_ | refine rg ?_ | refine AWP.skip ?_ | refine AWP.block ?_ | refine YH (z := ?_) | refine YI (z := ?_) | refine ZA (z := ?_) | refine ZB (z := ?_) | refine ZC (z := ?_) | refine ZD (z := ?_) | refine ZE (z := ?_) | refine ZF (z := ?_) | refine ZJ (z := ?_) | refine ZK (z := ?_) | refine ZM (z := ?_) | refine ZH (z := ?_) | refine ZO (z := ?_) | refine ZQ (z := ?_) | refine ZR (z := ?_) | refine ZT (z := ?_) | refine ZU (z := ?_) | refine YA (z := ?_) | refine ZG (z := ?_) | refine ZI (z := ?_) | refine YC (z := ?_) | refine YD (z := ?_) | refine YE (z := ?_))
    refine AWP.cond_dec rfl (fun h12 => ?_) (fun h12 => ?_)
    · have e12 : op - 6 = 6 := by have h0 : op = 12 := h12; omega
      repeat (first | refine nl ?_ | refine AWP.seq ?_ | refine rg ?_ | refine AWP.skip ?_ | refine AWP.block ?_ | refine YH (z := ?_) | refine YI (z := ?_) | refine ZA (z := ?_) | refine ZB (z := ?_) | refine ZC (z := ?_) | refine ZD (z := ?_) | refine ZE (z := ?_) | refine ZF (z := ?_) | refine ZJ (z := ?_) | refine ZK (z := ?_) | refine ZM (z := ?_) | refine ZH (z := ?_) | refine ZO (z := ?_) | refine ZQ (z := ?_) | refine ZR (z := ?_) | refine ZT (z := ?_) | refine ZU (z := ?_) | refine YA (z := ?_) | refine ZG (z := ?_) | refine ZI (z := ?_) | refine YC (z := ?_) | refine YD (z := ?_) | refine YE (z := ?_))
      refine btk (.inr (.inl rfl)) rfl rfl rfl rfl ?_
      repeat (first | refine nl ?_ | refine AWP.seq ?_ | refine rg ?_ | refine AWP.skip ?_ | refine AWP.block ?_ | refine YH (z := ?_) | refine YI (z := ?_) | refine ZA (z := ?_) | refine ZB (z := ?_) | refine ZC (z := ?_) | refine ZD (z := ?_) | refine ZE (z := ?_) | refine ZF (z := ?_) | refine ZJ (z := ?_) | refine ZK (z := ?_) | refine ZM (z := ?_) | refine ZH (z := ?_) | refine ZO (z := ?_) | refine ZQ (z := ?_) | refine ZR (z := ?_) | refine ZT (z := ?_) | refine ZU (z := ?_) | refine YA (z := ?_) | refine ZG (z := ?_) | refine ZI (z := ?_) | refine YC (z := ?_) | refine YD (z := ?_) | refine YE (z := ?_))
      exact AWP.ret (rets rfl (.refl _) (.refl _) ⟨fin (by simp [bin, add64, sub64, mul64, h6', h7', h8', h9', h10', h11', e12]), rfl⟩)
    have h12' : ¬ op - 6 = 6 := by have h0 : ¬ op = 12 := h12; omega
    repeat (first | refine nl ?_ | refine AWP.seq ?_ | refine rg ?_ | refine AWP.skip ?_ | refine AWP.block ?_ | refine YH (z := ?_) | refine YI (z := ?_) | refine ZA (z := ?_) | refine ZB (z := ?_) | refine ZC (z := ?_) | refine ZD (z := ?_) | refine ZE (z := ?_) | refine ZF (z := ?_) | refine ZJ (z := ?_) | refine ZK (z := ?_) | refine ZM (z := ?_) | refine ZH (z := ?_) | refine ZO (z := ?_) | refine ZQ (z := ?_) | refine ZR (z := ?_) | refine ZT (z := ?_) | refine ZU (z := ?_) | refine YA (z := ?_) | refine ZG (z := ?_) | refine ZI (z := ?_) | refine YC (z := ?_) | refine YD (z := ?_) | refine YE (z := ?_))
    refine AWP.cond_dec rfl (fun h13 => ?_) (fun h13 => ?_)
    · have e13 : op - 6 = 7 := by have h0 : op = 13 := h13; omega
      repeat (first | refine nl ?_ | refine AWP.seq ?_ | refine rg ?_ | refine AWP.skip ?_ | refine AWP.block ?_ | refine YH (z := ?_) | refine YI (z := ?_) | refine ZA (z := ?_) | refine ZB (z := ?_) | refine ZC (z := ?_) | refine ZD (z := ?_) | refine ZE (z := ?_) | refine ZF (z := ?_) | refine ZJ (z := ?_) | refine ZK (z := ?_) | refine ZM (z := ?_) | refine ZH (z := ?_) | refine ZO (z := ?_) | refine ZQ (z := ?_) | refine ZR (z := ?_) | refine ZT (z := ?_) | refine ZU (z := ?_) | refine YA (z := ?_) | refine ZG (z := ?_) | refine ZI (z := ?_) | refine YC (z := ?_) | refine YD (z := ?_) | refine YE (z := ?_))
      refine btk (.inr (.inr rfl)) rfl rfl rfl rfl ?_
      repeat (first | refine nl ?_ | refine AWP.seq ?_ | refine rg ?_ | refine AWP.skip ?_ | refine AWP.block ?_ | refine YH (z := ?_) | refine YI (z := ?_) | refine ZA (z := ?_) | refine ZB (z := ?_) | refine ZC (z := ?_) | refine ZD (z := ?_) | refine ZE (z := ?_) | refine ZF (z := ?_) | refine ZJ (z := ?_) | refine ZK (z := ?_) | refine ZM (z := ?_) | refine ZH (z := ?_) | refine ZO (z := ?_) | refine ZQ (z := ?_) | refine ZR (z := ?_) | refine ZT (z := ?_) | refine ZU (z := ?_) | refine YA (z := ?_) | refine ZG (z := ?_) | refine ZI (z := ?_) | refine YC (z := ?_) | refine YD (z := ?_) | refine YE (z := ?_))
      exact AWP.ret (rets rfl (.refl _) (.refl _) ⟨fin (by simp [bin, add64, sub64, mul64, h6', h7', h8', h9', h10', h11', h12', e13]), rfl⟩)
    have h13' : ¬ op - 6 = 7 := by have h0 : ¬ op = 13 := h13; omega
    repeat (first | refine nl ?_ | refine AWP.seq ?_ | refine rg ?_ | refine AWP.skip ?_ | refine AWP.block ?_ | refine YH (z := ?_) | refine YI (z := ?_) | refine ZA (z := ?_) | refine ZB (z := ?_) | refine ZC (z := ?_) | refine ZD (z := ?_) | refine ZE (z := ?_) | refine ZF (z := ?_) | refine ZJ (z := ?_) | refine ZK (z := ?_) | refine ZM (z := ?_) | refine ZH (z := ?_) | refine ZO (z := ?_) | refine ZQ (z := ?_) | refine ZR (z := ?_) | refine ZT (z := ?_) | refine ZU (z := ?_) | refine YA (z := ?_) | refine ZG (z := ?_) | refine ZI (z := ?_) | refine YC (z := ?_) | refine YD (z := ?_) | refine YE (z := ?_))
    refine AWP.cond_dec rfl (fun h14 => ?_) (fun h14 => ?_)
    · have e14 : op - 6 = 8 := by have h0 : op = 14 := h14; omega
      repeat (first | refine nl ?_ | refine AWP.seq ?_ | refine rg ?_ | refine AWP.skip ?_ | refine AWP.block ?_ | refine YH (z := ?_) | refine YI (z := ?_) | refine ZA (z := ?_) | refine ZB (z := ?_) | refine ZC (z := ?_) | refine ZD (z := ?_) | refine ZE (z := ?_) | refine ZF (z := ?_) | refine ZJ (z := ?_) | refine ZK (z := ?_) | refine ZM (z := ?_) | refine ZH (z := ?_) | refine ZO (z := ?_) | refine ZQ (z := ?_) | refine ZR (z := ?_) | refine ZT (z := ?_) | refine ZU (z := ?_) | refine YA (z := ?_) | refine ZG (z := ?_) | refine ZI (z := ?_) | refine YC (z := ?_) | refine YD (z := ?_) | refine YE (z := ?_))
      exact AWP.ret (rets rfl (.refl _) (.refl _) ⟨fin (by simp [bin, add64, sub64, mul64, h6', h7', h8', h9', h10', h11', h12', h13', e14]), rfl⟩)
    have h14' : ¬ op - 6 = 8 := by have h0 : ¬ op = 14 := h14; omega
    repeat (first | refine nl ?_ | refine AWP.seq ?_ | refine rg ?_ | refine AWP.skip ?_ | refine AWP.block ?_ | refine YH (z := ?_) | refine YI (z := ?_) | refine ZA (z := ?_) | refine ZB (z := ?_) | refine ZC (z := ?_) | refine ZD (z := ?_) | refine ZE (z := ?_) | refine ZF (z := ?_) | refine ZJ (z := ?_) | refine ZK (z := ?_) | refine ZM (z := ?_) | refine ZH (z := ?_) | refine ZO (z := ?_) | refine ZQ (z := ?_) | refine ZR (z := ?_) | refine ZT (z := ?_) | refine ZU (z := ?_) | refine YA (z := ?_) | refine ZG (z := ?_) | refine ZI (z := ?_) | refine YC (z := ?_) | refine YD (z := ?_) | refine YE (z := ?_))
    refine AWP.cond_dec rfl (fun h15 => ?_) (fun h15 => ?_)
    · have e15 : op - 6 = 9 := by have h0 : op = 15 := h15; omega
      repeat (first | refine nl ?_ | refine AWP.seq ?_ | refine rg ?_ | refine AWP.skip ?_ | refine AWP.block ?_ | refine YH (z := ?_) | refine YI (z := ?_) | refine ZA (z := ?_) | refine ZB (z := ?_) | refine ZC (z := ?_) | refine ZD (z := ?_) | refine ZE (z := ?_) | refine ZF (z := ?_) | refine ZJ (z := ?_) | refine ZK (z := ?_) | refine ZM (z := ?_) | refine ZH (z := ?_) | refine ZO (z := ?_) | refine ZQ (z := ?_) | refine ZR (z := ?_) | refine ZT (z := ?_) | refine ZU (z := ?_) | refine YA (z := ?_) | refine ZG (z := ?_) | refine ZI (z := ?_) | refine YC (z := ?_) | refine YD (z := ?_) | refine YE (z := ?_))
      exact AWP.ret (rets rfl (.refl _) (.refl _) ⟨fin (by simp [bin, add64, sub64, mul64, h6', h7', h8', h9', h10', h11', h12', h13', h14', e15]), rfl⟩)
    have h15' : ¬ op - 6 = 9 := by have h0 : ¬ op = 15 := h15; omega
    repeat (first | refine nl ?_ | refine AWP.seq ?_ | refine rg ?_ | refine AWP.skip ?_ | refine AWP.block ?_ | refine YH (z := ?_) | refine YI (z := ?_) | refine ZA (z := ?_) | refine ZB (z := ?_) | refine ZC (z := ?_) | refine ZD (z := ?_) | refine ZE (z := ?_) | refine ZF (z := ?_) | refine ZJ (z := ?_) | refine ZK (z := ?_) | refine ZM (z := ?_) | refine ZH (z := ?_) | refine ZO (z := ?_) | refine ZQ (z := ?_) | refine ZR (z := ?_) | refine ZT (z := ?_) | refine ZU (z := ?_) | refine YA (z := ?_) | refine ZG (z := ?_) | refine ZI (z := ?_) | refine YC (z := ?_) | refine YD (z := ?_) | refine YE (z := ?_))
    refine AWP.cond_dec rfl (fun h16 => ?_) (fun h16 => ?_)
    · have e16 : op - 6 = 10 := by have h0 : op = 16 := h16; omega
      repeat (first | refine nl ?_ | refine AWP.seq ?_ | refine rg ?_ | refine AWP.skip ?_ | refine AWP.block ?_ | refine YH (z := ?_) | refine YI (z := ?_) | refine ZA (z := ?_) | refine ZB (z := ?_) | refine ZC (z := ?_) | refine ZD (z := ?_) | refine ZE (z := ?_) | refine ZF (z := ?_) | refine ZJ (z := ?_) | refine ZK (z := ?_) | refine ZM (z := ?_) | refine ZH (z := ?_) | refine ZO (z := ?_) | refine ZQ (z := ?_) | refine ZR (z := ?_) | refine ZT (z := ?_) | refine ZU (z := ?_) | refine YA (z := ?_) | refine ZG (z := ?_) | refine ZI (z := ?_) | refine YC (z := ?_) | refine YD (z := ?_) | refine YE (z := ?_))
      exact AWP.ret (rets rfl (.refl _) (.refl _) ⟨fin (by simp [bin, add64, sub64, mul64, h6', h7', h8', h9', h10', h11', h12', h13', h14', h15', e16]), rfl⟩)
    have h16' : ¬ op - 6 = 10 := by have h0 : ¬ op = 16 := h16; omega
    repeat (first | refine nl ?_ | refine AWP.seq ?_ | refine rg ?_ | refine AWP.skip ?_ | refine AWP.block ?_ | refine YH (z := ?_) | refine YI (z := ?_) | refine ZA (z := ?_) | refine ZB (z := ?_) | refine ZC (z := ?_) | refine ZD (z := ?_) | refine ZE (z := ?_) | refine ZF (z := ?_) | refine ZJ (z := ?_) | refine ZK (z := ?_) | refine ZM (z := ?_) | refine ZH (z := ?_) | refine ZO (z := ?_) | refine ZQ (z := ?_) | refine ZR (z := ?_) | refine ZT (z := ?_) | refine ZU (z := ?_) | refine YA (z := ?_) | refine ZG (z := ?_) | refine ZI (z := ?_) | refine YC (z := ?_) | refine YD (z := ?_) | refine YE (z := ?_))
    exact AWP.ret (rets rfl (.refl _) (.refl _) ⟨fin (by simp [bin, add64, sub64, mul64, h6', h7', h8', h9', h10', h11', h12', h13', h14', h15', h16']), rfl⟩)
end Go.Proofs
