/- Regions that draw their order, some operations changing the state, one behind the other. No conditions: definitions and lemmas only. -/
import Derived.Lib.LaidTab
import Derived.Sort.Grow
import Derived.Recover
import Derived.Laws.Panics
import Derived.Lib.Builder
import Derived.Lib.UnsafeStr
import Derived.Test.YthjcphjabiajbaaDoorB2
namespace Go.AM
open Go.RowKit (Below)
/-- The form that is asked of a region: k operations in whatever order, those of E one behind the other, the rest behind them in the text's order. -/
def drawOkS (l : List Oper) (k : Nat) (E : List Nat) : Bool :=
  let S := predSets l []
  Nat.ble k l.length && ((List.range l.length).all fun i =>
    match l[i]? with
    | none => false
    | some o => (edgesOf o).all (fun x => Nat.blt x i) &&
      (bif Nat.blt i k then
        (o.dst.isSome || E.contains i) && (List.range k).all (fun j => match l[j]? with
          | none => false
          | some p => (bif Nat.beq i j then true else (match o.dst, p.dst with | some a, some b => !(Nat.beq a b) | _, _ => true)) &&
            (match p.dst with
              | some t => bif (o.looksAt l.toArray).contains t then (S.getD i 0).testBit j else true
              | none => true))
      else (List.range i).all fun j => (S.getD i 0).testBit j)) &&
  (List.range E.length).all fun b => Nat.blt (E.getD b 0) k && (List.range b).all fun a => Nat.blt (E.getD a 0) (E.getD b 0) && (S.getD (E.getD b 0) 0).testBit (E.getD a 0)
section
variable {P : Program} {n : Nat} {K : Post} {E : EPost} {T : Tmps} {st : St}
theorem drawOkS_spec {l : List Oper} {k : Nat} {Es : List Nat} (h : drawOkS l k Es = true) : k ≤ l.length ∧ (∀ i o, l[i]? = some o → ∀ x ∈ edgesOf o, x < i) ∧
    (∀ i o, l[i]? = some o → i < k → (o.dst = none → Es.contains i = true) ∧ ∀ j p, j < k → l[j]? = some p → (i ≠ j → ∀ a b, o.dst = some a → p.dst = some b → a ≠ b) ∧
      (∀ t, p.dst = some t → (o.looksAt l.toArray).contains t = true → ∀ listed : Array Bool, Closed l listed → (∀ x ∈ edgesOf o, listed.getD x false = true) → listed.getD j false = true)) ∧
    (∀ i o, k ≤ i → l[i]? = some o → ∀ listed : Array Bool, Closed l listed → (∀ x ∈ edgesOf o, listed.getD x false = true) → ∀ j, j < i → listed.getD j false = true) ∧
    (∀ b i : Nat, Es[b]? = some i → i < k ∧ ∀ a j : Nat, a < b → Es[a]? = some j → j < i ∧ ∀ o, l[i]? = some o → ∀ listed : Array Bool, Closed l listed → (∀ x ∈ edgesOf o, listed.getD x false = true) → listed.getD j false = true) := by
  simp only [drawOkS, Bool.and_eq_true] at h
  obtain ⟨⟨h0, hall⟩, hE⟩ := h
  have hS : ∀ listed, Closed l listed → ∀ i o, l[i]? = some o → (∀ x ∈ edgesOf o, listed.getD x false = true) → ∀ j, ((predSets l []).getD i 0).testBit j = true → listed.getD j false = true := by
    intro listed hc i o ho he j hj
    exact predSets_spec l listed hc l [] (fun j => by simp) (fun i o hi => by simp at hi) i o (by rw [predSets_length]; simpa using (List.getElem?_eq_some_iff.1 ho).1) ho he j hj
  have hat : ∀ i o, l[i]? = some o → ((edgesOf o).all (fun x => Nat.blt x i) = true ∧
      (bif Nat.blt i k then
        (o.dst.isSome || Es.contains i) && (List.range k).all (fun j => match l[j]? with
          | none => false
          | some p => (bif Nat.beq i j then true else (match o.dst, p.dst with | some a, some b => !(Nat.beq a b) | _, _ => true)) &&
            (match p.dst with
              | some t => bif (o.looksAt l.toArray).contains t then ((predSets l []).getD i 0).testBit j else true
              | none => true))
      else (List.range i).all fun j => ((predSets l []).getD i 0).testBit j) = true) := by
    intro i o ho
    have hi := (List.getElem?_eq_some_iff.1 ho).1
    have := List.all_eq_true.1 hall i (List.mem_range.2 hi)
    simp only [ho, Bool.and_eq_true] at this
    exact this
  refine ⟨Nat.ble_le h0, fun i o ho x hx => ?_, fun i o ho hik => ?_, fun i o hik ho listed hc he j hj => ?_, fun b i hb => ?_⟩
  · have := List.all_eq_true.1 (hat i o ho).1 x hx
    simpa [Nat.blt_eq] using this
  · have h2 := (hat i o ho).2
    rw [show Nat.blt i k = true by simpa [Nat.blt_eq] using hik, cond_true, Bool.and_eq_true] at h2
    refine ⟨fun hd => ?_, fun j p hj hp => ?_⟩
    · rw [hd] at h2
      simpa using h2.1
    · have h3 := List.all_eq_true.1 h2.2 j (List.mem_range.2 hj)
      simp only [hp, Bool.and_eq_true] at h3
      refine ⟨fun hij a b ha hb => ?_, fun t ht hlook listed hc he => ?_⟩
      · have h4 := h3.1
        rw [nbeq_ne hij, cond_false, ha, hb] at h4
        intro e
        rw [e] at h4
        simp at h4
      · have h4 := h3.2
        rw [ht] at h4
        simp only [hlook, cond_true] at h4
        exact hS listed hc i o ho he j h4
  · have h2 := (hat i o ho).2
    rw [show Nat.blt i k = false by rw [Bool.eq_false_iff, Ne, Nat.blt_eq]; omega, cond_false] at h2
    exact hS listed hc i o ho he j (List.all_eq_true.1 h2 j (List.mem_range.2 hj))
  · have hbl := (List.getElem?_eq_some_iff.1 hb).1
    have h2 := List.all_eq_true.1 hE b (List.mem_range.2 hbl)
    have eb : Es.getD b 0 = i := by rw [List.getD_eq_getElem?_getD, hb]; rfl
    simp only [eb, Bool.and_eq_true] at h2
    refine ⟨by simpa [Nat.blt_eq] using h2.1, fun a j hab ha => ?_⟩
    have ea : Es.getD a 0 = j := by rw [List.getD_eq_getElem?_getD, ha]; rfl
    have h3 := List.all_eq_true.1 h2.2 a (List.mem_range.2 hab)
    simp only [ea, Bool.and_eq_true] at h3
    exact ⟨by simpa [Nat.blt_eq] using h3.1, fun o ho listed hc he => hS listed hc i o ho he j h3.2⟩
/-- From every state of I to one of I', the outcome as told. -/
def EffJ (P : Program) (n : Nat) (I I' : St → Prop) (T : Tmps) (o : Oper) (Q : AV → Prop) : Prop :=
  ∀ st g w a (K' : Act → World → Prop) (Q' : Exit → Act → World → Prop), I st → Sim g w st → Known g w T a → a.tmps.size = n →
    (∀ rv g' w' v st1, Ext g w g' w' → Sim g' w' st1 → R g' w' v rv → Q v → I' st1 → K' (a.put o.dst rv) w') → o.wp P a w K' Q'
def StepS (P : Program) (n : Nat) (I : Nat → St → Prop) (Es : List Nat) (i : Nat) (ops : Array Oper) (T : Tmps) (o : Oper) (Q : AV → Prop) : Prop :=
  (wantedA ops T o = some true ∧ (Es.contains i = false → ∀ j, EffJ P n (I j) (I j) T o Q) ∧ ∀ j, Es[j]? = some i → EffJ P n (I j) (I (j + 1)) T o Q) ∨ (wantedA ops T o = some false ∧ Q (.lit undef) ∧ Es.contains i = false)
/-- The walk in the text's order; behind it k. -/
def DRunS (P : Program) (n : Nat) (I : Nat → St → Prop) (Es : List Nat) (ops : Array Oper) : Nat → List Oper → List (AV → Prop) → Tmps → (Tmps → St → Prop) → Prop
  | _, [], [], T, k => ∀ st, I Es.length st → k T st
  | i, o :: r, Q :: Qs, T, k => (∃ u, Q u) ∧ dstOk o.dst n = true ∧ StepS P n I Es i ops (see ops o T) o Q ∧ ∀ u, Q u → DRunS P n I Es ops (i + 1) r Qs (T.put o.dst u) k
  | _, _, _, _, _ => False
theorem DRunS.out {I : Nat → St → Prop} {Es : List Nat} {ops : Array Oper} {k : Tmps → St → Prop} (us : Nat → AV) (l : List Oper) : ∀ (r : List Oper) (Qs : List (AV → Prop)) (i0 : Nat), (∀ (i : Nat) (o : Oper), r[i]? = some o → l[i0 + i]? = some o) → (∀ (i : Nat) (Q : AV → Prop), Qs[i]? = some Q → Q (us (i0 + i))) →
    DRunS P n I Es ops i0 r Qs (ents l us i0 ++ T) k → Qs.length = r.length ∧ (∀ st, I Es.length st → k (ents l us (i0 + r.length) ++ T) st) ∧
      ∀ i o, r[i]? = some o → ∃ Q, dstOk o.dst n = true ∧ Qs[i]? = some Q ∧ StepS P n I Es (i0 + i) ops (see ops o (ents l us (i0 + i) ++ T)) o Q
  | [], [], i0, _, _, h => ⟨rfl, h, fun i o ho => by simp at ho⟩
  | [], _ :: _, _, _, _, h => h.elim
  | _ :: _, [], _, _, _, h => h.elim
  | o :: r, Q :: Qs, i0, hl, hq, h => by
    obtain ⟨_, h2, h4, h5⟩ := h
    have h6 := h5 (us i0) (hq 0 Q rfl)
    have hl0 : l[i0]? = some o := by simpa using hl 0 o rfl
    have he : (ents l us i0 ++ T).put o.dst (us i0) = ents l us (i0 + 1) ++ T := by
      rw [ents, hl0]
      simp only [Option.bind_some]
      cases o.dst <;> rfl
    rw [he] at h6
    obtain ⟨a1, a2, a3⟩ := DRunS.out us l r Qs (i0 + 1) (fun i o' ho' => by have := hl (i + 1) o' (by simpa using ho'); rwa [show i0 + (i + 1) = i0 + 1 + i by omega] at this) (fun i Q' hQ' => by have := hq (i + 1) Q' (by simpa using hQ'); rwa [show i0 + (i + 1) = i0 + 1 + i by omega] at this) h6
    refine ⟨by simp [a1], by rw [List.length_cons, show i0 + (r.length + 1) = i0 + 1 + r.length by omega]; exact a2, fun i o' ho' => ?_⟩
    cases i with
    | zero =>
      simp only [List.getElem?_cons_zero, Option.some.injEq] at ho'
      subst ho'
      exact ⟨Q, h2, rfl, h4⟩
    | succ i =>
      obtain ⟨Q', b1, b2, b3⟩ := a3 i o' (by simpa using ho')
      exact ⟨Q', b1, by simpa using b2, by rwa [show i0 + 1 + i = i0 + (i + 1) by omega] at b3⟩
theorem DRunS.fits {I : Nat → St → Prop} {Es : List Nat} {ops : Array Oper} {k : Tmps → St → Prop} : ∀ (r : List Oper) (Qs : List (AV → Prop)) (i0 : Nat) (T : Tmps), DRunS P n I Es ops i0 r Qs T k → ∀ (i : Nat) (Q : AV → Prop), Qs[i]? = some Q → ∃ u, Q u
  | [], [], _, _, _, i, Q, h => by simp at h
  | [], _ :: _, _, _, h, _, _, _ => h.elim
  | _ :: _, [], _, _, h, _, _, _ => h.elim
  | o :: r, Q0 :: Qs, i0, T, h, i, Q, hq => by
    obtain ⟨⟨u, hu⟩, h2, h4, h5⟩ := h
    cases i with
    | zero => simp at hq; subst hq; exact ⟨u, hu⟩
    | succ i => exact DRunS.fits r Qs _ _ (h5 u hu) i Q (by simpa using hq)
/-- How many of a list are done, where the first ones are. -/
theorem countP_first (p : Nat → Bool) : ∀ (Es : List Nat) (j : Nat), j ≤ Es.length → (∀ a x, a < j → Es[a]? = some x → p x = true) → (∀ a x, j ≤ a → Es[a]? = some x → p x = false) → Es.countP p = j
  | [], j, hj, _, _ => by simp at hj; simp [hj]
  | x :: Es, 0, _, _, h2 => by
    rw [List.countP_cons, h2 0 x (Nat.le_refl _) rfl]
    have := countP_first p Es 0 (Nat.zero_le _) (fun a y h => by omega) (fun a y _ hy => h2 (a + 1) y (Nat.zero_le _) (by simpa using hy))
    simp [this]
  | x :: Es, j + 1, hj, h1, h2 => by
    rw [List.countP_cons, h1 0 x (by omega) rfl]
    have := countP_first p Es j (by simpa using hj) (fun a y h hy => h1 (a + 1) y (by omega) (by simpa using hy)) (fun a y h hy => h2 (a + 1) y (by omega) (by simpa using hy))
    simp [this]

theorem AWP.drawS {l : List Oper} {id : Nat} (hm : P.follows .mixedOrders = true) (k : Nat) (Es : List Nat) (I : Nat → St → Prop) (Qs : List (AV → Prop)) (hok : drawOkS l k Es = true) (hI : I 0 st)
    (h : DRunS P n I Es l.toArray 0 (l.take k) Qs T fun T' st' => AOps P n l.toArray (l.drop k) K E T' st') : AWP P n (.region id l.toArray true) K E T st := by
  obtain ⟨hkl, hedge, hbody, htail, hchain⟩ := drawOkS_spec hok
  have hfits := DRunS.fits _ _ _ _ h
  have hout := fun (us : Nat → AV) (hus : ∀ (i : Nat) (Q : AV → Prop), Qs[i]? = some Q → Q (us (0 + i))) => DRunS.out (T := T) us l (l.take k) Qs 0 (fun i o ho => by
    have hi : i < k := by have := (List.getElem?_eq_some_iff.1 ho).1; simp at this; omega
    rw [List.getElem?_take_of_lt hi] at ho
    rwa [Nat.zero_add]) hus h
  have hlk0 : (l.take k).length = k := by simp; omega
  -- some values that fit
  obtain ⟨wit, hwit⟩ : ∃ wit : Nat → AV, ∀ (i : Nat) (Q : AV → Prop), Qs[i]? = some Q → Q (wit i) := by
    have : ∀ i : Nat, ∃ u : AV, ∀ Q : AV → Prop, Qs[i]? = some Q → Q u := fun i => by
      cases hq : Qs[i]? with
      | none => exact ⟨.bool true, fun Q h => by cases h⟩
      | some Q =>
        obtain ⟨u, hu⟩ := hfits i Q hq
        exact ⟨u, fun Q' h => by cases h; exact hu⟩
    exact ⟨fun i => Classical.choose (this i), fun i Q hQ => Classical.choose_spec (this i) Q hQ⟩
  have hQl : Qs.length = k := by rw [(hout wit (fun i Q hQ => by rw [Nat.zero_add]; exact hwit i Q hQ)).1, hlk0]
  intro g0 w0 a0 hs0 hk0 hn0
  refine wp_region_any hm ?_
  obtain ⟨hed, hsd⟩ := hs0.draw
  let Inv : Array Bool → Act → World → Prop := fun listed a w => listed.size = l.length ∧ Closed l listed ∧ (∀ j, k ≤ j → j < l.length → listed.getD j true = false) ∧ a.tmps.size = n ∧ a.defers = a0.defers ∧
    ∃ g st1, Ext g0 w0 g w ∧ Sim g w st1 ∧ I (Es.countP fun e => listed.getD e false) st1 ∧
      (∀ t v, Tmps.get T t = some v → (∀ i, i < k → (l[i]?).bind (·.dst) = some t → listed.getD i false = false) → ∃ rv, a.tmps[t]? = some rv ∧ R g w v rv) ∧
      (∀ i d Q, i < k → (l[i]?).bind (·.dst) = some d → Qs[i]? = some Q → listed.getD i false = true → ∃ u rv, Q u ∧ a.tmps[d]? = some rv ∧ R g w u rv)
  let μ : Array Bool → Nat := fun listed => (List.range l.length).countP fun j => !listed.getD j true
  have hμ : ∀ (listed : Array Bool) i, i < l.length → listed.size = l.length → listed.getD i true = false → μ (listed.setIfInBounds i true) + 1 ≤ μ listed := by
    intro listed i hil hsz hi
    have gen : ∀ (A : List Nat), i ∈ A → A.countP (fun j => !(listed.setIfInBounds i true).getD j true) + 1 ≤ A.countP (fun j => !listed.getD j true) := by
      have le : ∀ (A : List Nat), A.countP (fun j => !(listed.setIfInBounds i true).getD j true) ≤ A.countP (fun j => !listed.getD j true) := fun A => List.countP_mono_left fun j _ hj => by
        by_cases hij : i = j
        · subst hij
          rw [Array.getD_eq_getD_getElem?, Array.getElem?_setIfInBounds_self_of_lt (by omega)] at hj
          simp at hj
        · rw [getD_set_ne true hij] at hj; exact hj
      intro A
      induction A with
      | nil => intro h; simp at h
      | cons x A ih =>
        intro h
        rw [List.countP_cons, List.countP_cons]
        by_cases hx : x = i
        · subst hx
          have h1 : (!(listed.setIfInBounds x true).getD x true) = false := by
            rw [Array.getD_eq_getD_getElem?, Array.getElem?_setIfInBounds_self_of_lt (by omega)]; rfl
          have h2 : (!listed.getD x true) = true := by rw [hi]; rfl
          rw [h1, h2, if_neg (by decide), if_pos rfl]
          have := le A
          omega
        · have hm' : i ∈ A := by rcases List.mem_cons.1 h with h | h; exact absurd h.symm hx; exact h
          have := ih hm'
          have h3 : (listed.setIfInBounds i true).getD x true = listed.getD x true := getD_set_ne true (Ne.symm hx)
          rw [h3]
          omega
    exact gen _ (List.mem_range.2 hil)
  -- values that are there
  have choose : ∀ (listed : Array Bool) (a : Act) (g : G) (w : World), (∀ i d Q, i < k → (l[i]?).bind (·.dst) = some d → Qs[i]? = some Q → listed.getD i false = true → ∃ u rv, Q u ∧ a.tmps[d]? = some rv ∧ R g w u rv) →
      ∃ us : Nat → AV, (∀ (i : Nat) (Q : AV → Prop), Qs[i]? = some Q → Q (us i)) ∧ ∀ i d, i < k → (l[i]?).bind (·.dst) = some d → listed.getD i false = true → ∃ rv, a.tmps[d]? = some rv ∧ R g w (us i) rv := by
    intro listed a g w hB
    have : ∀ i : Nat, ∃ u : AV, (∀ Q : AV → Prop, Qs[i]? = some Q → Q u) ∧ ∀ d, i < k → (l[i]?).bind (·.dst) = some d → listed.getD i false = true → ∃ rv, a.tmps[d]? = some rv ∧ R g w u rv := fun i => by
      by_cases hc : i < k ∧ listed.getD i false = true
      · obtain ⟨hik, hli⟩ := hc
        cases hd' : (l[i]?).bind (·.dst) with
        | none => exact ⟨wit i, hwit i, fun d _ hd2 _ => by cases hd2⟩
        | some d =>
          have hq : Qs[i]? = some (Qs[i]'(by omega)) := List.getElem?_eq_getElem _
          obtain ⟨u, rv, h1, h2, h3⟩ := hB i d _ hik hd' hq hli
          refine ⟨u, fun Q h => by rw [hq] at h; cases h; exact h1, fun d' _ hd2 _ => ?_⟩
          cases hd2
          exact ⟨rv, h2, h3⟩
      · exact ⟨wit i, hwit i, fun d h1 _ h2 => absurd ⟨h1, h2⟩ hc⟩
    exact ⟨fun i => Classical.choose (this i), fun i => (Classical.choose_spec (this i)).1, fun i => (Classical.choose_spec (this i)).2⟩
  -- what is seen of a walk's entries is known
  have done : ∀ (m : Nat) (listed : Array Bool) (a : Act) (w : World), Inv listed a w → (∀ j, j < k → listed.getD j true = true) → l.length ≤ k + m → wpAny P .any l.toArray (QOf n a0.defers g0 w0 K E) m listed a w := by
    intro m listed a w ⟨hsz, hcl, htl, hn, hd, g, st1, he, hs, hI1, hA, hB⟩ hall hm'
    have hlist : ∀ j, j < k → listed.getD j false = true := fun j hj => by
      have h1 := hall j hj
      rw [Array.getD_eq_getD_getElem?, Array.getElem?_eq_getElem (by omega)] at h1 ⊢
      simpa using h1
    refine wpAny_tail hedge k htail m k listed a w (Nat.le_refl _) hkl hm' hsz (fun j hj => ?_) hcl ?_
    · by_cases hjk : j < k
      · rw [hall j hjk, decide_eq_true hjk]
      · rw [htl j (by omega) hj, decide_eq_false hjk]
    · obtain ⟨us, hus, hus2⟩ := choose listed a g w hB
      obtain ⟨_, hfin, _⟩ := hout us (fun i Q hQ => by rw [Nat.zero_add]; exact hus i Q hQ)
      rw [hlk0, Nat.zero_add] at hfin
      rw [countP_first _ Es Es.length (Nat.le_refl _) (fun b x _ hx => hlist x (hchain b x hx).1) (fun b x hb hx => by have := (List.getElem?_eq_some_iff.1 hx).1; omega)] at hI1
      have h5 := hfin st1 hI1 g w a hs (fun t u hu => by
        rw [get_append] at hu
        cases hg : Tmps.get (ents l us k) t with
        | some u' =>
          rw [hg] at hu
          cases hu
          obtain ⟨j, hj, hdj, rfl⟩ := ents_get k t _ hg
          exact hus2 j t hj hdj (hlist j hj)
        | none =>
          rw [hg] at hu
          exact hA t u hu fun i hi hit => absurd hit (ents_none k t hg i hi)) hn
      rw [hd] at h5
      exact wpList_mono (fun _ _ _ q => QOf.ext he q) _ _ _ h5
  -- a step of the body
  have step : ∀ (K' : Act → World → Prop) (listed : Array Bool) (a : Act) (w : World) (i : Nat), Inv listed a w → i < k → i ∈ Region.ready .any l.toArray listed → (∀ a' w', Inv (listed.setIfInBounds i true) a' w' → K' a' w') →
      wpOp P l.toArray (QOf n a0.defers g0 w0 K E) i K' a w := by
    intro K' listed a w i ⟨hsz, hcl, htl, hn, hd, g, st1, he, hs, hI1, hA, hB⟩ hik hri hK
    obtain ⟨hun, o, ho, hed'⟩ := ready_edges hri
    have hil := (List.getElem?_eq_some_iff.1 ho).1
    have hunf : listed.getD i false = false := by
      rw [Array.getD_eq_getD_getElem?, Array.getElem?_eq_getElem (by omega)] at hun ⊢
      simpa using hun
    have hcl' := hcl.set ho hed'
    have hsz' : (listed.setIfInBounds i true).size = l.length := by simpa using hsz
    have htl' : ∀ j, k ≤ j → j < l.length → (listed.setIfInBounds i true).getD j true = false := fun j h1 h2 => by
      rw [getD_set_ne true (by omega)]; exact htl j h1 h2
    obtain ⟨us, hus, hus2⟩ := choose listed a g w hB
    obtain ⟨_, _, hops⟩ := hout us (fun i Q hQ => by rw [Nat.zero_add]; exact hus i Q hQ)
    obtain ⟨Q, hdn, hQi, hstep⟩ := hops i o (by rw [List.getElem?_take_of_lt hik]; exact ho)
    rw [Nat.zero_add] at hstep
    -- the entries of others that are seen are there
    have hlooked : ∀ j, j < k → ∀ t, (l[j]?).bind (·.dst) = some t → (o.looksAt l.toArray).contains t = true → listed.getD j false = true ∧ j < i := by
      intro j hj t hjt hlook
      have hp : l[j]? = some l[j] := List.getElem?_eq_getElem (by omega)
      rw [hp] at hjt
      have h2 := ((hbody i o ho hik).2 j _ hj hp).2 t hjt hlook
      refine ⟨h2 listed hcl hed', ?_⟩
      have hcl2 : Closed l (Array.ofFn fun q : Fin l.length => decide (q.val < i)) := by
        intro q oq hq hq' x hx'
        have hql := (List.getElem?_eq_some_iff.1 hq).1
        rw [Array.getD_eq_getD_getElem?, Array.getElem?_ofFn] at hq' ⊢
        simp only [hql, dif_pos, Option.getD_some, decide_eq_true_eq] at hq'
        have hxq := hedge q oq hq x hx'
        simp only [show x < l.length by omega, dif_pos, Option.getD_some, decide_eq_true_eq]
        omega
      have h3 := h2 _ hcl2 (fun x hx' => by
        have hxi := hedge i o ho x hx'
        rw [Array.getD_eq_getD_getElem?, Array.getElem?_ofFn]
        simp only [show x < l.length by omega, dif_pos, Option.getD_some, decide_eq_true_eq]
        exact hxi)
      rw [Array.getD_eq_getD_getElem?, Array.getElem?_ofFn] at h3
      simp only [show j < l.length by omega, dif_pos, Option.getD_some, decide_eq_true_eq] at h3
      exact h3
    have hknown : Known g w (see l.toArray o (ents l us i ++ T)) a := fun t v ht => by
      obtain ⟨hlook, hget⟩ := get_filter _ _ _ _ ht
      rw [get_append] at hget
      cases hg : Tmps.get (ents l us i) t with
      | some u' =>
        rw [hg] at hget
        cases hget
        obtain ⟨j, hj, hdj, rfl⟩ := ents_get i t _ hg
        exact hus2 j t (by omega) hdj (hlooked j (by omega) t hdj hlook).1
      | none =>
        rw [hg] at hget
        refine hA t v hget fun j hj hjt => ?_
        have h1 := hlooked j hj t hjt hlook
        exact absurd hjt (ents_none i t hg j h1.2)
    have hother : ∀ t, o.dst ≠ some t → ∀ rv', (a.put o.dst rv').tmps[t]? = a.tmps[t]? := fun t ht rv' => by
      cases hod : o.dst with
      | none => rfl
      | some d =>
        simp only [Act.put, Array.getElem?_setIfInBounds]
        rw [if_neg (fun h => ht (by rw [hod, h]))]
    have hself : ∀ d, o.dst = some d → ∀ rv', (a.put o.dst rv').tmps[d]? = some rv' := fun d hod rv' => by
      have hdn' := dstOk_lt hdn d hod
      rw [hod]
      simp only [Act.put, Array.getElem?_setIfInBounds]
      simp [hn, hdn']
    have hdi : ∀ d, (l[i]?).bind (·.dst) = some d → o.dst = some d := fun d h => by rw [ho] at h; exact h
    have after : ∀ v rv g' w' st2, Ext g w g' w' → Sim g' w' st2 → R g' w' v rv → Q v → I (Es.countP fun e => (listed.setIfInBounds i true).getD e false) st2 → Inv (listed.setIfInBounds i true) (a.put o.dst rv) w' := by
      intro v rv g' w' st2 he' hs' hR hQv hI2
      refine ⟨hsz', hcl', htl', by rw [Act.size_put]; exact hn, by rw [Act.defers_put]; exact hd, g', st2, he.trans he', hs', hI2, fun t u ht hwr => ?_, fun j d' Q' hj hjd hjQ hjl => ?_⟩
      · have htd : o.dst ≠ some t := fun htd => by
          have := hwr i hik (by rw [ho]; exact htd)
          rw [Array.getD_eq_getD_getElem?, Array.getElem?_setIfInBounds_self_of_lt (by omega)] at this
          simp at this
        obtain ⟨ru, h1, h2⟩ := hA t u ht fun j hj hjt => by
          have h3 := hwr j hj hjt
          by_cases hij : i = j
          · subst hij; exact hunf
          · rwa [getD_set_ne false hij] at h3
        exact ⟨ru, by rw [hother t htd]; exact h1, h2.ext he'⟩
      · by_cases hij : i = j
        · subst hij
          rw [hQi] at hjQ
          cases hjQ
          exact ⟨v, rv, hQv, hself d' (hdi d' hjd) rv, hR⟩
        · rw [getD_set_ne false hij] at hjl
          obtain ⟨u, ru, h1, h2, h3⟩ := hB j d' Q' hj hjd hjQ hjl
          refine ⟨u, ru, h1, ?_, h3.ext he'⟩
          rw [hother d' ?_]
          · exact h2
          · have hp : l[j]? = some l[j] := List.getElem?_eq_getElem (by omega)
            rw [hp] at hjd
            exact fun hdd => ((hbody i o ho hik).2 j _ hj hp).1 hij d' d' hdd hjd rfl
    have hcount : Es.contains i = false → (Es.countP fun e => (listed.setIfInBounds i true).getD e false) = Es.countP fun e => listed.getD e false := fun hni => by
      refine List.countP_congr fun e he => ?_
      have hne : i ≠ e := fun h => by
        subst h
        rw [List.contains_iff_mem.2 he] at hni
        cases hni
      rw [getD_set_ne false hne]
    have hpos : ∀ j, Es[j]? = some i → (Es.countP fun e => listed.getD e false) = j ∧ (Es.countP fun e => (listed.setIfInBounds i true).getD e false) = j + 1 := fun j hj => by
      have hjl := (List.getElem?_eq_some_iff.1 hj).1
      have before : ∀ b x, b < j → Es[b]? = some x → listed.getD x false = true := fun b x hb hx => ((hchain j i hj).2 b x hb hx).2 o ho listed hcl hed'
      have behind : ∀ b x, j < b → Es[b]? = some x → listed.getD x false = false := fun b x hb hx => by
        obtain ⟨h1, h2⟩ := hchain b x hx
        cases hv : listed.getD x false with
        | false => rfl
        | true =>
          have hxl : x < l.length := by omega
          have := (h2 j i hb hj).2 l[x] (List.getElem?_eq_getElem hxl) listed hcl (fun y hy => hcl x _ (List.getElem?_eq_getElem hxl) hv y hy)
          rw [hunf] at this
          cases this
      refine ⟨countP_first _ Es j (by omega) before (fun b x hb hx => ?_), countP_first _ Es (j + 1) (by omega) (fun b x hb hx => ?_) (fun b x hb hx => ?_)⟩
      · rcases Nat.eq_or_lt_of_le hb with h | h
        · subst h
          rw [hj] at hx
          cases hx
          exact hunf
        · exact behind b x h hx
      · by_cases hbj : b = j
        · subst hbj
          rw [hj] at hx
          cases hx
          rw [Array.getD_eq_getD_getElem?, Array.getElem?_setIfInBounds_self_of_lt (by omega)]
          rfl
        · have hb' : b < j := by omega
          rw [getD_set_ne false (by have := ((hchain j i hj).2 b x hb' hx).1; omega)]
          exact before b x hb' hx
      · rw [getD_set_ne false (by have := ((hchain b x hx).2 j i hb hj).1; omega)]
        exact behind b x hb hx
    unfold wpOp
    simp only [List.getElem?_toArray, ho]
    rcases hstep with ⟨hw, hq1, hq2⟩ | ⟨hw, hq, hni⟩
    · rw [wanted_of hknown hw, if_pos rfl]
      left
      cases hc : Es.contains i with
      | false => exact hq1 hc _ st1 g w a K' _ hI1 hs hknown hn fun rv g' w' v st2 he' hs' hR hQv hI2 => hK _ _ (after v rv g' w' st2 he' hs' hR hQv (by rw [hcount hc]; exact hI2))
      | true =>
        obtain ⟨j, hj⟩ := List.getElem?_of_mem (List.contains_iff_mem.1 hc)
        obtain ⟨p1, p2⟩ := hpos j hj
        rw [p1] at hI1
        exact hq2 j hj st1 g w a K' _ hI1 hs hknown hn fun rv g' w' v st2 he' hs' hR hQv hI2 => hK _ _ (after v rv g' w' st2 he' hs' hR hQv (by rw [p2]; exact hI2))
    · rw [wanted_of hknown hw, if_neg (by simp)]
      exact hK _ _ (after _ undef g w st1 (.refl _ _) hs (.lit _) hq (by rw [hcount hni]; exact hI1))
  have key : ∀ (m : Nat) (listed : Array Bool) (a : Act) (w : World), Inv listed a w → μ listed ≤ m → wpAny P .any l.toArray (QOf n a0.defers g0 w0 K E) m listed a w := by
    intro m
    induction m with
    | zero =>
      intro listed a w hi hm0
      -- nothing is left
      have hall : ∀ j, j < l.length → listed.getD j true = true := fun j hj => by
        cases hv : listed.getD j true with
        | true => rfl
        | false => have := hμ listed j hj hi.1 hv; omega
      have hlk : l.length = k := by
        rcases Nat.eq_or_lt_of_le hkl with h' | h'
        · exact h'.symm
        · have h1 := hall k h'
          have h2 := hi.2.2.1 k (Nat.le_refl _) h'
          rw [h1] at h2
          cases h2
      exact done 0 listed a w hi (fun j hj => hall j (by omega)) (by omega)
    | succ m ih =>
      intro listed a w hi hm1
      by_cases hall : ∀ j, j < k → listed.getD j true = true
      · refine done (m + 1) listed a w hi hall ?_
        -- the tail is unlisted: it is counted
        have : l.length - k ≤ μ listed := by
          exact countP_range_ge k _ l.length fun j h1 h2 => by rw [hi.2.2.1 j h1 h2]; rfl
        omega
      · have hex : ∃ j, j < k ∧ listed.getD j true = false ∧ ∀ q, q < j → listed.getD q true = true := by
          have : ∃ j, j < k ∧ listed.getD j true = false := by
            apply Classical.byContradiction
            intro hno
            apply hall
            intro j hj
            cases hv : listed.getD j true with
            | true => rfl
            | false => exact absurd ⟨j, hj, hv⟩ hno
          obtain ⟨j, hj⟩ := this
          induction j using Nat.strongRecOn with
          | _ j ihj =>
            by_cases hq : ∀ q, q < j → listed.getD q true = true
            · exact ⟨j, hj.1, hj.2, hq⟩
            · simp only [Classical.not_forall] at hq
              obtain ⟨q, hqj, hq⟩ := hq
              exact ihj q hqj ⟨by omega, by simpa using hq⟩
        obtain ⟨j0, hj0, hv0, hmin⟩ := hex
        have hsz := hi.1
        have hjl : j0 < l.length := by omega
        have hready : j0 ∈ Region.ready .any l.toArray listed := ready_of_edges hv0 (List.getElem?_eq_getElem hjl) (fun x hx => by
          have hxj := hedge j0 _ (List.getElem?_eq_getElem hjl) x hx
          have h1 := hmin x hxj
          rw [Array.getD_eq_getD_getElem?, Array.getElem?_eq_getElem (by omega)] at h1 ⊢
          simpa using h1)
        refine ⟨fun h0 => (by rw [h0] at hready; cases hready), fun i hri => ?_⟩
        obtain ⟨hun, o, ho, hed'⟩ := ready_edges hri
        have hil := (List.getElem?_eq_some_iff.1 ho).1
        have hik : i < k := by
          rcases Nat.lt_or_ge i k with h' | h'
          · exact h'
          · have h1 := htail i o h' ho listed hi.2.1 hed' j0 (by omega)
            rw [Array.getD_eq_getD_getElem?, Array.getElem?_eq_getElem (by omega)] at h1 hv0
            simp at h1 hv0
            rw [h1] at hv0
            cases hv0
        exact step _ listed a w i hi hik hri fun a' w' hi' => ih _ a' w' hi' (by have := hμ listed i hil hsz hun; omega)
  refine key _ _ a0 _ ?_ ?_
  · have hnone : ∀ j, (Array.replicate l.toArray.size false).getD j false = false := fun j => by
      rw [Array.getD_eq_getD_getElem?, Array.getElem?_replicate]
      split <;> rfl
    refine ⟨by simp, fun i o ho hi' => ?_, fun j _ hj => by simp [hj], hn0, rfl, g0, st, hed, hsd, by rw [countP_first _ Es 0 (Nat.zero_le _) (fun b x hb => by omega) (fun b x _ _ => hnone x)]; exact hI, fun t v ht _ => (hk0.ext hed) t v ht, fun i d Q _ _ _ hl => ?_⟩
    · rw [hnone] at hi'; cases hi'
    · rw [hnone] at hl; cases hl
  · have := List.countP_le_length (p := fun j => !(Array.replicate l.length false).getD j true) (l := List.range l.length)
    exact Nat.le_trans this (by simp)

end
end Go.AM
/- The steps of a region that draws its order and writes, out of the rules for a region that does not. No conditions: definitions and lemmas only. -/
namespace Go.AM
open Go.RowKit (Below)
section
variable {P : Program} {n : Nat} {K : Post} {E : EPost} {T : Tmps} {st base : St} {ops : Array Oper} {sts : List St} {Es : List Nat}
/-- The state behind the first j operations that write. -/
def IX (sts : List St) (base : St) (j : Nat) (s : St) : Prop := sts[j]? = some s ∧ StLe s base
def DRunX (P : Program) (n : Nat) (I : Nat → St → Prop) (Es : List Nat) (ops : Array Oper) (i : Nat) (l : List Oper) (T : Tmps) (k : Tmps → St → Prop) : Prop := ∃ Qs, DRunS P n I Es ops i l Qs T k
theorem AWP.drawX {l : List Oper} {id : Nat} (hm : P.follows .mixedOrders = true) (k : Nat) (Es : List Nat) (sts : List St) (base : St) (hok : drawOkS l k Es = true) (h0 : sts[0]? = some st) (hb : StLe st base)
    (h : DRunX P n (IX sts base) Es l.toArray 0 (l.take k) T fun T' st' => AOps P n l.toArray (l.drop k) K E T' st') : AWP P n (.region id l.toArray true) K E T st :=
  h.elim fun Qs h => AWP.drawS hm k Es (IX sts base) Qs hok ⟨h0, hb⟩ h
/-- An operation without a temporary. -/
theorem AOps.singleN {o : Oper} {v : St → Prop} (h : AOps P n ops [o] (fun T' st' => T' = T ∧ v st') (fun _ _ _ => False) T st) (hw : wantedA ops T o = some true)
    {g : G} {w : World} {a : Act} (hs : Sim g w st) (hk : Known g w T a) (K' : Act → World → Prop) (Q' : Exit → Act → World → Prop)
    (hK : ∀ rv g' w' st', Ext g w g' w' → Sim g' w' st' → v st' → K' (a.put o.dst rv) w') (hn : a.tmps.size = n) : o.wp P a w K' Q' := by
  have h1 := h g w a hs hk hn
  unfold wpList at h1
  rw [wanted_of hk hw, if_pos rfl] at h1
  rcases h1 with h1 | ⟨_, h1⟩
  · refine wp_put h1 (fun a' w' hda hq ⟨rv, hrv⟩ => ?_) (fun a' w' hq => hq.2.1) (fun e a' w' hne hq => ?_)
    · obtain ⟨h2, h3, g', T', st', h4, h5, h6, hT, hv⟩ := hq
      subst hrv
      exact hK rv g' w' st' h4 h5 hv
    · obtain ⟨_, _, g', T', st', _, _, _, h6⟩ := hq
      cases e with
      | normal => exact absurd rfl hne
      | exit id => exact h6.elim
      | ret => exact h6.elim
      | panic ch => obtain ⟨_, _, _, _, h7⟩ := h6; exact h7.elim
      | goto l => exact h6.elim
      | outgrown => exact h6.elim
  · exact absurd h1 LetsOut.not_QOf
theorem ev_glob {s s' : St} (h : s.glob = s'.glob) (T : Tmps) (x : Operand) : ev s T x = ev s' T x := by
  cases x <;> simp [ev, St.row, h]
theorem valA_glob {s s' : St} (h : s.glob = s'.glob) (T : Tmps) (o : Op) : valA s T o = valA s' T o := by
  unfold valA
  simp only [ev_glob h]
theorem step1_glob {s s' : St} (h : s.glob = s'.glob) (T : Tmps) (o : Oper) : step1 ops n s T o = step1 ops n s' T o := by
  unfold step1
  rw [valA_glob h]
theorem posS_spec {i j : Nat} (h : (List.range Es.length).filter (fun q => Nat.beq (Es.getD q 0) i) = [j]) : Es[j]? = some i ∧ ∀ q, Es[q]? = some i → q = j := by
  have hm : ∀ q, q ∈ (List.range Es.length).filter (fun q => Nat.beq (Es.getD q 0) i) ↔ q = j := fun q => by rw [h]; simp
  constructor
  · have := (hm j).2 rfl
    rw [List.mem_filter, List.mem_range] at this
    have e := Nat.eq_of_beq_eq_true this.2
    rw [List.getD_eq_getElem?_getD, List.getElem?_eq_getElem this.1] at e
    rw [List.getElem?_eq_getElem this.1]
    exact congrArg some e
  · intro q hq
    refine (hm q).1 ?_
    rw [List.mem_filter, List.mem_range]
    refine ⟨(List.getElem?_eq_some_iff.1 hq).1, ?_⟩
    rw [List.getD_eq_getElem?_getD, hq]
    exact nbeq_self i
/-- A quiet step. -/
theorem dqS {i : Nat} {o : Oper} {r : List Oper} {d : Tmp} {v : AV} {k : Tmps → St → Prop} (hi : Es.contains i = false) (hd : dstA n o.dst = some d) (hw : wantedA ops (see ops o T) o = some true)
    (h : ∀ st', StLe st' base → AOps P n ops [o] (fun T' st'' => ∃ u, T' = (d, u) :: see ops o T ∧ (u = v ∧ st'' = st')) (fun _ _ _ => False) (see ops o T) st')
    (hr : DRunX P n (IX sts base) Es ops (i + 1) r ((d, v) :: T) k) : DRunX P n (IX sts base) Es ops i (o :: r) T k := by
  obtain ⟨Qs, hr⟩ := hr
  obtain ⟨hd', hdn⟩ := dstA_some hd
  refine ⟨(fun u => u = v) :: Qs, ⟨v, rfl⟩, hdn, .inl ⟨hw, fun _ j => ?_, fun j hj => ?_⟩, fun u hu => ?_⟩
  · intro s g w a K' Q' ⟨hI, hle⟩ hs hk hn hK
    refine AOps.single hd' (dstOk_lt hdn d hd') (h s hle) hw hs hk K' Q' (fun rv g' w' u st' he hs' hR ⟨hu, hst⟩ => ?_) hn
    subst hu hst
    exact hK rv g' w' u st' he hs' hR rfl ⟨hI, hle⟩
  · rw [List.contains_iff_mem.2 (List.mem_of_getElem? hj)] at hi
    cases hi
  · subst hu
    rw [hd']
    exact hr
/-- A step that writes. -/
theorem deS {i j : Nat} {o : Oper} {r : List Oper} {s1 s2 : St} {k : Tmps → St → Prop} (hj : (List.range Es.length).filter (fun q => Nat.beq (Es.getD q 0) i) = [j]) (h1 : sts[j]? = some s1) (h2 : sts[j + 1]? = some s2) (hle : StLe s2 base)
    (hd : o.dst = none) (hw : wantedA ops (see ops o T) o = some true) (h : AOps P n ops [o] (fun T' st'' => T' = see ops o T ∧ st'' = s2) (fun _ _ _ => False) (see ops o T) s1)
    (hr : DRunX P n (IX sts base) Es ops (i + 1) r T k) : DRunX P n (IX sts base) Es ops i (o :: r) T k := by
  obtain ⟨Qs, hr⟩ := hr
  obtain ⟨p1, p2⟩ := posS_spec hj
  refine ⟨(fun _ => True) :: Qs, ⟨.bool true, trivial⟩, by rw [hd]; rfl, .inl ⟨hw, fun hc => ?_, fun q hq => ?_⟩, fun u _ => ?_⟩
  · rw [List.contains_iff_mem.2 (List.mem_of_getElem? p1)] at hc
    cases hc
  · obtain rfl := p2 q hq
    intro s g w a K' Q' ⟨hI, _⟩ hs hk hn hK
    rw [h1] at hI
    cases hI
    refine AOps.singleN h hw hs hk K' Q' (fun rv g' w' st' he hs' hst => ?_) hn
    rw [hst] at hs'
    exact hK rv g' w' (.lit rv) s2 he hs' (.lit rv) trivial ⟨h2, hle⟩
  · rw [hd]
    exact hr
theorem dnS {i : Nat} {sN : St} {k : Tmps → St → Prop} (hN : sts[Es.length]? = some sN) (h : k T sN) : DRunX P n (IX sts base) Es ops i [] T k := by
  refine ⟨[], ?_⟩
  intro s ⟨hs, _⟩
  rw [hN] at hs
  cases hs
  exact h
end
end Go.AM
/- Functions of the library that a contract of the kit tells. No conditions: lemmas only. -/
namespace Go.AM
open Go.RowKit (Below)
/-- New blocks that nobody knows. -/
theorem Sim.grown {g : G} {w w' : World} {st : St} (hs : Sim g w st) (os : Array Obj) (hh : w'.heap = w.heap ++ os) (h1 : w'.os = w.os) (h2 : w'.tape = w.tape) (h3 : w'.output = w.output) : Ext g w g w' ∧ Sim g w' st := by
  have hb : ∀ k, k < w.heap.size → w'.heap[k]? = w.heap[k]? := fun k hk => by rw [hh, Array.getElem?_append, if_pos hk]
  have hsz : w.heap.size ≤ w'.heap.size := by rw [hh, Array.size_append]; omega
  have he : Ext g w g w' := ⟨rfl, Nat.le_refl _, fun _ _ h => h, fun b i h => by simp only [World.cell?, hb b (hs.immlt b i h)], fun _ _ h => h, fun _ _ h => h, ⟨h1, h2, h3, hsz, fun k hk => hb k (Nat.lt_of_lt_of_le hk hs.base)⟩⟩
  refine ⟨he, Nat.le_trans hs.base hsz, fun o c hc => ?_, hs.inj, fun t ht => ?_, hs.tobj, hs.tinj, fun b i h => Nat.lt_of_lt_of_le (hs.immlt b i h) hsz, fun o b m h => Nat.lt_of_lt_of_le (hs.objlt o b m h) hsz, fun t b r h => Nat.lt_of_lt_of_le (hs.toklt t b r h) hsz, hs.fresh, fun gi row h => (hs.globs gi row h).ext he⟩
  · obtain ⟨b, m, h1, h2, h3, h4⟩ := hs.objs o c hc
    exact ⟨b, m, h1, h2, h3.mono he (hb b (hs.objlt o b m h1)), h4⟩
  · obtain ⟨⟨b', len, cap, e, size⟩, h1, h2⟩ := hs.toks t ht
    refine ⟨_, h1, ?_⟩
    cases b' with
    | none => exact h2
    | some b' =>
      obtain ⟨a1, a2, a3, a4, ⟨cur, a5, a6⟩, a7⟩ := h2
      exact ⟨a1, a2, a3, a4, ⟨cur, (hb b' (hs.toklt t b' _ h1)).trans a5, a6⟩, a7⟩
/-- A contract of the kit whose world only grows, as a contract here. -/
theorem ACalls.grown {P : Program} {f : FuncId} {args : List AV} {st : St} {X : AV}
    (h : ∀ g w (rargs : Array Value), Sim g w st → args.length = rargs.size → (∀ (i : Nat) c v, args[i]? = some c → rargs[i]? = some v → R g w c v) →
      Calls P f rargs w fun e w' => ∃ rv, e = .returned rv ∧ (∀ g w, R g w X rv) ∧ ∃ os, w'.heap = w.heap ++ os ∧ w'.os = w.os ∧ w'.tape = w.tape ∧ w'.output = w.output) :
    ACalls P f args st (fun v st' => v = X ∧ st' = st) (fun _ _ => False) := by
  intro g w rargs hs hl hr
  refine (h g w rargs hs hl hr).mono fun e w' ⟨rv, he, hR, os, a1, a2, a3, a4⟩ => ?_
  obtain ⟨hx, hs'⟩ := hs.grown os a1 a2 a3 a4
  refine ⟨g, st, hx, hs', ?_⟩
  subst he
  exact ⟨X, hR g w', rfl, rfl⟩
/-- A table of numbers, as the kit tells it. -/
theorem globs_cells {g : G} {w : World} {st : St} (hs : Sim g w st) {gi : Nat} {row : List AV} (h : (gi, row) ∈ st.glob) : ∀ (j : Nat) c, row[j]? = some c → ∃ v, w.cell? ⟨gi, j, none⟩ = some v ∧ R g w c v := by
  have hR := (hs.globs gi row h).rel
  generalize hp : Value.pointer (some ⟨gi, 0, none⟩) = pv at hR
  cases hR with
  | eptr _ _ _ _ b off f hsz h1 himm hh =>
    intro j c hj
    have hjl := (List.getElem?_eq_some_iff.1 hj).1
    simp only [Value.pointer.injEq, Option.some.injEq, Addr.mk.injEq] at hp
    obtain ⟨rfl, hoff, _⟩ := hp
    have h2 := (himm 0 j (by simp) hjl).2
    refine ⟨f 0 j, ?_, hh 0 j row c rfl hj⟩
    rw [← h2]
    congr 2
    omega
/-- A table of numbers of the library's. -/
theorem tabIs {P : Program} {g : G} {w : World} {st : St} (hs : Sim g w st) {name : String} {gi : Nat} {k : IntKind} {zs : List Int} (hg : P.globalNamed name = some gi) (h : (gi, zs.map fun z => AV.int k z) ∈ st.glob) : Lib.TabIs P w name k zs := by
  obtain ⟨cs, ty, fr, h1, h2⟩ := (hs.globs gi _ h).arr
  have hc := globs_cells hs h
  unfold Lib.TabIs World.var?
  rw [hg]
  simp only [Option.bind_some, h1, Option.some.injEq]
  apply Array.ext_getElem?
  intro j
  rcases Nat.lt_or_ge j zs.length with hj | hj
  · obtain ⟨v, hv, hR⟩ := hc j (.int k zs[j]) (by simp [hj])
    cases hR
    have hv' : cs[j]? = some (.int k zs[j]) := by
      have : w.cell? ⟨gi, j, none⟩ = cs[j]? := by simp [World.cell?, h1]
      rw [← this]; exact hv
    rw [hv']
    simp [hj]
  · rw [Array.getElem?_eq_none (by rw [h2]; simpa using hj)]
    simp [hj]
end Go.AM
/- A nil slice in a variable gets a token. No conditions: lemmas only. -/
namespace Go.AM
open Go.RowKit (Below)
variable {P : Program} {n : Nat} {K : Post} {E : EPost} {T : Tmps} {st : St}
theorem Sim.nilTokIn {g : G} {w : World} (hs : Sim g w st) {o s i j : Nat} {oty : TypeId} {rows : List (List AV)} {row : List AV} (ho : st.obj o = some (.cells oty s rows)) (hr : rows[i]? = some row) (hj : row[j]? = some (.view 0 [] .nil)) (e : TypeId) (sz : Nat) :
    ∃ g' tk, Ext g w g' w ∧ st.tok tk = false ∧ Sim g' w ((st.addTok tk).set o (.cells oty s (rows.set i (row.set j (.view sz [] (.own tk e)))))) := by
  obtain ⟨g', he, hs', htk, hf⟩ := hs.nilTok e
  obtain ⟨b, m, hb, _, _, _⟩ := hs'.objs o _ ho
  obtain ⟨_, ⟨arr, ha, hasz, hml, hl, h1, hc⟩, _⟩ := hs'.objOf ho hb
  have hil : i < rows.length := (List.getElem?_eq_some_iff.1 hr).1
  have hjl : j < row.length := (List.getElem?_eq_some_iff.1 hj).1
  obtain ⟨_, hs2⟩ := hs'.write (c' := .cells oty s (rows.set i (row.set j (.view sz [] (.own g.next e))))) ho hb w rfl rfl rfl rfl (fun _ _ => rfl) (fun _ => by
    refine ⟨arr, ha, hasz, by simpa using hml, fun r hm => ?_, fun r hm => ?_, fun i' j' r c hr' hc' => ?_⟩
    · rcases List.mem_or_eq_of_mem_set hm with h | h
      · exact hl r h
      · rw [h, List.length_set]; exact hl row (List.mem_of_getElem? hr)
    · rcases List.mem_or_eq_of_mem_set hm with h | h
      · exact h1 r h
      · subst h
        intro c hcm
        rcases List.mem_or_eq_of_mem_set hcm with h2 | h2
        · exact h1 row (List.mem_of_getElem? hr) c h2
        · subst h2; rfl
    · by_cases hi : i' = i
      · subst hi
        rw [List.getElem?_set_self hil] at hr'
        cases hr'
        by_cases hjj : j' = j
        · subst hjj
          rw [List.getElem?_set_self hjl] at hc'
          cases hc'
          obtain ⟨v, hv, hR⟩ := hc i' j' row _ hr hj
          refine ⟨v, hv, ?_⟩
          have hv0 : v = .slice none 0 0 := by
            cases hR with
            | vnil => rfl
            | vemp _ _ _ hn _ => exact absurd rfl hn
            | view _ _ _ _ _ _ _ _ _ _ _ ht' => simp [TokAt] at ht'
          subst hv0
          exact .vnil _ _ (TokAt.mkOwn rfl htk (fun h => absurd rfl h))
        · rw [List.getElem?_set_ne (Ne.symm hjj)] at hc'
          exact hc i' j' row c hr hc'
      · rw [List.getElem?_set_ne (Ne.symm hi)] at hr'
        exact hc i' j' r c hr' hc')
  exact ⟨g', g.next, he, hf, hs2⟩
theorem AWP.nilIn {c : Code} {o s i j : Nat} {oty : TypeId} {rows : List (List AV)} {row : List AV} (e : TypeId) (sz : Nat) (ho : st.obj o = some (.cells oty s rows)) (hr : rows[i]? = some row) (hj : row[j]? = some (.view 0 [] .nil))
    (h : ∀ tk, st.tok tk = false → AWP P n c K E T ((st.addTok tk).set o (.cells oty s (rows.set i (row.set j (.view sz [] (.own tk e))))))) : AWP P n c K E T st :=
  AWP.ghost fun g w a hs hk => by
    obtain ⟨g', tk, he, hf, hs'⟩ := hs.nilTokIn ho hr hj e sz
    exact ⟨g', T, _, he, hs', hk.ext he, h tk hf⟩
end Go.AM
/- Arguments that are structs and arrays of plain cells, opened. No conditions: definitions and lemmas only. -/
namespace Go.AM
def FitW1 : Sh → AV → Prop
  | .kI k, c => ∃ x, c = .int k x ∧ (Lit.int k x).wf = true
  | .kB, c => ∃ b, c = .bool b
  | .kS, c => ∃ l : List UInt8, c = .str l ∧ l.length ≤ maxLen
def FitsW : List Sh → List AV → Prop
  | [], [] => True
  | s :: ss, c :: cs => FitW1 s c ∧ FitsW ss cs
  | _, _ => False
theorem FitsW.append : ∀ {s1 s2 : List Sh} {c1 c2 : List AV}, FitsW s1 c1 → FitsW s2 c2 → FitsW (s1 ++ s2) (c1 ++ c2)
  | [], _, [], _, _, h2 => h2
  | _ :: _, _, _ :: _, _, h1, h2 => ⟨h1.1, h1.2.append h2⟩
  | [], _, _ :: _, _, h1, _ => h1.elim
  | _ :: _, _, [], _, h1, _ => h1.elim
section
variable {P : Program} {n : Nat} {K : Post} {E : EPost} {T : Tmps} {st : St} {ops : Array Oper} {rest : List Oper}
variable {ty ty2 : TypeId} {pos pos2 : String} {es es2 : Array Edge} {gd : Option (Nat × Bool)} {d : Tmp} {y : Operand} {dd : Option Tmp}
/-- A new variable gets its only value. -/
theorem alN {t : TypeId} {sz by_ : Nat} {z : Value} [hi : Inf P t sz by_ z] {v : AV} (hg : goes ops n T ⟨dd, .alloc t, ty, pos, es, gd⟩ = some d) (hz : zok sz z = true) (hy : ∀ o, ev (st.set o (.cells t sz [zrow z])) ((d, .cptr o sz 0 0) :: T) y = some v)
    (hv : storable v = true) (hsz : Nat.beq v.cells.length sz = true)
    (k : AOps P n ops rest K E ((d, .eptr sz [v.cells] 0 0) :: T) st) :
    AOps P n ops (⟨dd, .alloc t, ty, pos, es, gd⟩ :: ⟨none, .store t (.tmp d) y, ty2, pos2, es2, none⟩ :: rest) K E T st := by
  refine al hg hz fun o ho => ?_
  have hzl := (zok_spec hz).2.2.1
  refine soN d rfl ?_ (hy o) hv hsz ?_ ho ?_
  · simp [Tmps.get_cons]
  · rw [Nat.eq_of_beq_eq_true hsz, hzl]; exact nbeq_self sz
  · refine AOps.weaken ?_ (.refl _) k
    intro i v' h
    rw [Tmps.get_cons] at h
    by_cases e : d = i
    · subst e
      rw [if_pos rfl] at h
      cases h
      exact ⟨_, by rw [Tmps.get_cons, if_pos rfl], .refl _⟩
    · rw [if_neg e] at h
      exact ⟨v', by rw [Tmps.get_cons, if_neg e, Tmps.get_cons, if_neg e]; exact h, .refl _⟩
end
end Go.AM
/- The same rules, their premises paid by themselves. No conditions: lemmas only. -/
namespace Go.AM
section
variable {P : Program} {n : Nat} {K : Post} {E : EPost} {T : Tmps} {st : St} {ops : Array Oper} {rest : List Oper}
variable {ty ty2 : TypeId} {pos pos2 : String} {es es2 : Array Edge} {gd : Option (Nat × Bool)} {d : Tmp} {x y : Operand} {dd : Option Tmp}
theorem ZA {o : Oper} {d : Tmp} {v : AV} (h : step1 ops n st T o = some (d, v) := by exact rfl) (z : AOps P n ops rest K E ((d, v) :: T) st) : AOps P n ops (o :: rest) K E T st := sm h z
theorem ZB {o : Oper} {d : Tmp} (h : step0 ops n T o = some d := by exact rfl) (z : AOps P n ops rest K E ((d, .lit undef) :: T) st) : AOps P n ops (o :: rest) K E T st := uw h z
theorem ZC {t ft : TypeId} {f off : Nat} [hf : Fld P t f off ft] {sz by_ : Nat} {zz : Value} [hi : Inf P ft (sz + 1) by_ zz] {q : AV} (hg : goes ops n T ⟨dd, .fieldAddr t x f, ty, pos, es, gd⟩ = some d := by exact rfl)
    (hx : ptrA off (ev st T x) = some q := by exact rfl)
    (z : AOps P n ops rest K E ((d, q) :: T) st) : AOps P n ops (⟨dd, .fieldAddr t x f, ty, pos, es, gd⟩ :: rest) K E T st := fa hg hx z
theorem ZD {t : TypeId} {td : TypeDesc} [hu : Und P t td] {sz by_ : Nat} {zz : Value} [hi : Inf P t sz by_ zz] {s : Nat} {rows : List (List AV)} {i : Nat} {row : List AV}
    (hg : goes ops n T ⟨dd, .load t x, ty, pos, es, gd⟩ = some d := by exact rfl) (ha : aggD td = true := by exact rfl) (hx : ev st T x = some (.eptr s rows i 0) := by exact rfl) (hr : rows[i]? = some row := by first | exact rfl | assumption) (hl : Nat.beq sz row.length = true := by exact rfl)
    (z : AOps P n ops rest K E ((d, .agg row) :: T) st) : AOps P n ops (⟨dd, .load t x, ty, pos, es, gd⟩ :: rest) K E T st := leW hg ha hx hr hl z
theorem ZE {t : TypeId} {td : TypeDesc} [hu : Und P t td] {sz by_ : Nat} {zz : Value} [hi : Inf P t sz by_ zz] {o s : Nat} {rows : List (List AV)} {i : Nat} {row : List AV} {oty : TypeId}
    (hg : goes ops n T ⟨dd, .load t x, ty, pos, es, gd⟩ = some d := by exact rfl) (ha : aggD td = true := by exact rfl) (hx : ev st T x = some (.cptr o s i 0) := by exact rfl) (ho : st.obj o = some (.cells oty s rows) := by first | exact St.obj_set _ _ _ | (rename_i hle; exact hle.obj _ _ (St.obj_set _ _ _)) | (rename_i hle; exact hle.obj _ _ (by assumption))) (hr : rows[i]? = some row := by exact rfl) (hl : Nat.beq sz row.length = true := by exact rfl)
    (z : AOps P n ops rest K E ((d, .agg row) :: T) st) : AOps P n ops (⟨dd, .load t x, ty, pos, es, gd⟩ :: rest) K E T st := lcW hg ha hx ho hr hl z
theorem ZF {t : TypeId} {td : TypeDesc} [hu : Und P t td] {sz by_ : Nat} {zz : Value} [hi : Inf P t sz by_ zz] {s : Nat} {rows : List (List AV)} {i off : Nat} {row : List AV} {v : AV}
    (hg : goes ops n T ⟨dd, .load t x, ty, pos, es, gd⟩ = some d := by exact rfl) (hx : ev st T x = some (.eptr s rows i off) := by exact rfl) (hr : rows[i]? = some row := by first | exact rfl | assumption) (hv : sel (aggD td) sz row off = some v := by exact rfl)
    (z : AOps P n ops rest K E ((d, v) :: T) st) : AOps P n ops (⟨dd, .load t x, ty, pos, es, gd⟩ :: rest) K E T st := le hg hx hr hv z
theorem ZH {t : TypeId} {td : TypeDesc} [hu : Und P t td] {sz by_ : Nat} {zz : Value} [hi : Inf P t sz by_ zz] {o s : Nat} {rows : List (List AV)} {i off : Nat} {row : List AV} {v : AV} {oty : TypeId}
    (hg : goes ops n T ⟨dd, .load t x, ty, pos, es, gd⟩ = some d := by exact rfl) (hx : ev st T x = some (.cptr o s i off) := by exact rfl) (ho : st.obj o = some (.cells oty s rows) := by first | exact St.obj_set _ _ _ | assumption | (rename_i hle; exact hle.obj _ _ (St.obj_set _ _ _)) | (rename_i hle; exact hle.obj _ _ (by assumption))) (hr : rows[i]? = some row := by first | exact rfl | assumption) (hv : sel (aggD td) sz row off = some v := by exact rfl)
    (z : AOps P n ops rest K E ((d, v) :: T) st) : AOps P n ops (⟨dd, .load t x, ty, pos, es, gd⟩ :: rest) K E T st := lc hg hx ho hr hv z
theorem ZJ {t u : TypeId} {e : TypeId} [hu : Und P t (.slice e)] {sz : Nat} {rows : List (List AV)} {tk : Tok}
    (hg : goes ops n T ⟨dd, .call ⟨.builtin .len, #[x], #[t]⟩, u, pos, es, gd⟩ = some d := by exact rfl) (hx : ev st T x = some (.view sz rows tk) := by exact rfl)
    (z : AOps P n ops rest K E ((d, .int .i64 rows.length) :: T) st) : AOps P n ops (⟨dd, .call ⟨.builtin .len, #[x], #[t]⟩, u, pos, es, gd⟩ :: rest) K E T st := lnv hg hx z
theorem ZL {t u : TypeId} [hu : Und P t .string] {l : List UInt8}
    (hg : goes ops n T ⟨dd, .call ⟨.builtin .len, #[x], #[t]⟩, u, pos, es, gd⟩ = some d := by exact rfl) (hx : ev st T x = some (.str l) := by exact rfl)
    (z : AOps P n ops rest K E ((d, .int .i64 l.length) :: T) st) : AOps P n ops (⟨dd, .call ⟨.builtin .len, #[x], #[t]⟩, u, pos, es, gd⟩ :: rest) K E T st := lns hg hx z
theorem ZM {t e : TypeId} [hu : Und P t (.slice e)] {sz by_ : Nat} {zz : Value} [hi : Inf P e sz by_ zz] {rows : List (List AV)} {tk : Tok} {k : IntKind} {i : Int} {m : Nat}
    (hg : goes ops n T ⟨dd, .indexAddr t x y, ty, pos, es, gd⟩ = some d := by exact rfl) (hx : ev st T x = some (.view sz rows tk) := by exact rfl) (hy : ev st T y = some (.int k i) := by exact rfl)
    (hm : i = m := by first | exact rfl | exact (rfl : (0 : Int) = ((0 : Nat) : Int)) | exact (rfl : (1 : Int) = ((1 : Nat) : Int)) | exact (rfl : (2 : Int) = ((2 : Nat) : Int)) | exact (rfl : (3 : Int) = ((3 : Nat) : Int)) | exact (rfl : (4 : Int) = ((4 : Nat) : Int)) | exact (rfl : (5 : Int) = ((5 : Nat) : Int)) | exact (rfl : (6 : Int) = ((6 : Nat) : Int)))
    (hlt : m < rows.length := by first | assumption | exact of_decide_eq_true rfl)
    (z : AOps P n ops rest K E ((d, .eptr sz rows m 0) :: T) st) : AOps P n ops (⟨dd, .indexAddr t x y, ty, pos, es, gd⟩ :: rest) K E T st := ix hg hx hy hm hlt z
theorem ZO {t u : TypeId} {a : Nat} (hg : goes ops n T ⟨dd, .binOp .add t x y u, ty, pos, es, gd⟩ = some d := by exact rfl)
    (hx : ev st T x = some (.int .i64 (a : Int)) := by exact rfl) (hy : ev st T y = some (.int .i64 1) := by exact rfl) (hc : a < 9223372036854775807 := by omega)
    (z : AOps P n ops rest K E ((d, .int .i64 ((a + 1 : Nat) : Int)) :: T) st) : AOps P n ops (⟨dd, .binOp .add t x y u, ty, pos, es, gd⟩ :: rest) K E T st := inc hg hx hy hc z
theorem ZQ {t e : TypeId} {esz eby : Nat} {ez : Value} {v : AV} [hu : Und P t (.slice e)] [hie : Inf P e (esz + 1) eby ez] (hg : goes ops n T ⟨dd, .buildSlice t 1 #[(0, x)], ty, pos, es, gd⟩ = some d := by exact rfl)
    (hz : zok (esz + 1) ez = true := by exact rfl) (hsm : Nat.ble (1 * (esz + 1)) 16777216 = true := by exact rfl) (hx : ev st T x = some v := by exact rfl) (hl : Nat.beq v.cells.length (esz + 1) = true := by exact rfl) (hv : storable v = true := by exact rfl)
    (z : AOps P n ops rest K E ((d, .view (esz + 1) [v.cells] .shared) :: T) st) : AOps P n ops (⟨dd, .buildSlice t 1 #[(0, x)], ty, pos, es, gd⟩ :: rest) K E T st := bs1 hg hz hsm hx hl hv z
theorem ZR {t : TypeId} {v : AV} {sz : Nat} (hg : goes ops n T ⟨dd, .box t x, ty, pos, es, gd⟩ = some d := by exact rfl) (hx : ev st T x = some v := by exact rfl) (hv : storable v = true := by exact rfl) (hsz : v.cells.length = sz := by exact rfl)
    (z : AOps P n ops rest K E ((d, .eptr sz [v.cells] 0 0) :: T) st) : AOps P n ops (⟨dd, .box t x, ty, pos, es, gd⟩ :: rest) K E T st := bxe hg hx hv hsz z
theorem YA {t : TypeId} {sz by_ : Nat} {zz : Value} [hi : Inf P t sz by_ zz] {v : AV} (hg : goes ops n T ⟨dd, .alloc t, ty, pos, es, gd⟩ = some d := by exact rfl) (hz : zok sz zz = true := by exact rfl) (hy : ∀ o, ev (st.set o (.cells t sz [zrow zz])) ((d, .cptr o sz 0 0) :: T) y = some v := by exact fun _ => rfl)
    (hv : storable v = true := by exact rfl) (hsz : Nat.beq v.cells.length sz = true := by exact rfl)
    (z : AOps P n ops rest K E ((d, .eptr sz [v.cells] 0 0) :: T) st) :
    AOps P n ops (⟨dd, .alloc t, ty, pos, es, gd⟩ :: ⟨none, .store t (.tmp d) y, ty2, pos2, es2, none⟩ :: rest) K E T st := alN hg hz hy hv hsz z
theorem YC {f : FuncId} [hf : GoFun P f] {args : Array Operand} {tys : Array TypeId} {avs : List AV} {X : AV}
    (hg : goes ops n T ⟨dd, .call ⟨.value (.func f), args, tys⟩, ty, pos, es, gd⟩ = some d := by exact rfl) (ha : evs st T args.toList = some avs := by exact rfl)
    (hc : PureFn P f avs X := by exact inferInstance) (z : AOps P n ops rest K E ((d, X) :: T) st) :
    AOps P n ops (⟨dd, .call ⟨.value (.func f), args, tys⟩, ty, pos, es, gd⟩ :: rest) K E T st := clp hg ha hc z
theorem YD {o : Oper} {t : Nat} {b : Bool} (h : gtmp ops T o = some (t, b) := by exact rfl) (hb : b = true := by (fail_if_success rfl); first | assumption | exact decide_eq_true (by assumption) | exact decide_eq_true rfl | exact decide_eq_true (by omega)) (z : AOps P n ops (o :: rest) K E ((t, .bool true) :: T) st) : AOps P n ops (o :: rest) K E T st := gB true h hb z
theorem YE {o : Oper} {t : Nat} {b : Bool} (h : gtmp ops T o = some (t, b) := by exact rfl) (hb : b = false := by (fail_if_success rfl); first | assumption | exact decide_eq_false (by assumption) | exact decide_eq_false (by omega)) (z : AOps P n ops (o :: rest) K E ((t, .bool false) :: T) st) : AOps P n ops (o :: rest) K E T st := gB false h hb z
theorem YH {c : Operand} {x y : Code} {b : Bool} (hc : ev st T c = some (.bool b) := by exact rfl) (hb : b = true := by first | exact rfl | assumption | exact decide_eq_true (by assumption) | exact decide_eq_true rfl | exact decide_eq_true (by omega)) (z : AWP P n x K E T st) : AWP P n (.cond c x y) K E T st := cT hc hb z
theorem YI {c : Operand} {x y : Code} {b : Bool} (hc : ev st T c = some (.bool b) := by exact rfl) (hb : b = false := by first | exact rfl | assumption | exact decide_eq_false (by assumption) | exact decide_eq_false (by omega)) (z : AWP P n y K E T st) : AWP P n (.cond c x y) K E T st := cF hc hb z
theorem YK {t u : TypeId} {a b : Int} (hg : goes ops n T ⟨dd, .binOp .sub t x y u, ty, pos, es, gd⟩ = some d := by exact rfl)
    (hx : ev st T x = some (.int .i64 a) := by exact rfl) (hy : ev st T y = some (.int .i64 b) := by exact rfl) (hc : -9223372036854775808 ≤ a - b ∧ a - b < 9223372036854775808 := by omega)
    (z : AOps P n ops rest K E ((d, .int .i64 (a - b)) :: T) st) : AOps P n ops (⟨dd, .binOp .sub t x y u, ty, pos, es, gd⟩ :: rest) K E T st := Go.AM.sb hg hx hy hc z
theorem nz {v : AV} : AOps P n ops [] (fun T' st'' => ∃ u, T' = (d, u) :: T ∧ (u = v ∧ st'' = st)) E ((d, v) :: T) st := nl ⟨_, rfl, rfl, rfl⟩
theorem dp {e : Nat} {Φ : AV → St → Prop} {i : Nat} {o : Oper} {r : List Oper} {d : Tmp} {v : AV} {k : Tmps → Prop} (hi : Nat.beq i e = false := by exact rfl) (hd : dstA n o.dst = some d := by exact rfl) (hw : wantedA ops (see ops o T) o = some true := by exact rfl)
    (h : ∀ st', StLe st' st.notok → AOps P n ops [o] (fun T' st'' => ∃ u, T' = (d, u) :: see ops o T ∧ (u = v ∧ st'' = st')) (fun _ _ _ => False) (see ops o T) st')
    (z : DRun P n st ops e Φ (i + 1) r ((d, v) :: T) k) : DRun P n st ops e Φ i (o :: r) T k := dq hi hd hw h z
theorem dpS {base : St} {sts : List St} {Es : List Nat} {i : Nat} {o : Oper} {r : List Oper} {d : Tmp} {v : AV} {k : Tmps → St → Prop} (hi : Es.contains i = false := by exact rfl) (hd : dstA n o.dst = some d := by exact rfl) (hw : wantedA ops (see ops o T) o = some true := by exact rfl)
    (h : ∀ st', StLe st' base → AOps P n ops [o] (fun T' st'' => ∃ u, T' = (d, u) :: see ops o T ∧ (u = v ∧ st'' = st')) (fun _ _ _ => False) (see ops o T) st')
    (z : DRunX P n (IX sts base) Es ops (i + 1) r ((d, v) :: T) k) : DRunX P n (IX sts base) Es ops i (o :: r) T k := dqS hi hd hw h z
end
end Go.AM
/- Steps of a region that draws its order, every operation keeping an invariant. No conditions: lemmas only. -/
namespace Go.AM
section
variable {P : Program} {n : Nat} {T : Tmps} {I : St → Prop} {ops : Array Oper} {Qs : List (AV → Prop)}
end
end Go.AM
/- Regions that draw their order, cut into parts: a part drawn, a single operation, the rest in the text's order. No conditions: definitions and lemmas only. -/
namespace Go.AM
open Go.RowKit (Below)
/-- May the operations of E be done so far as bs says, when operation i is next? -/
def mayBe (S : List Nat) (Es : List Nat) (i : Nat) (bs : List Bool) : Bool :=
  (Es.zip bs).all fun p => bif p.2 then !(Nat.beq p.1 i) && !((S.getD p.1 0).testBit i) else !((S.getD i 0).testBit p.1)
def setBit (Es : List Nat) (i : Nat) (bs : List Bool) : List Bool := (Es.zip bs).map fun p => p.2 || Nat.beq p.1 i
/-- The form that is asked of a part: operations k .. k' in whatever order, those behind them wait for all of them; those of E change the state. -/
def segOk (l : List Oper) (k k' : Nat) (Es : List Nat) : Bool :=
  let S := predSets l []
  Nat.ble k k' && Nat.ble k' l.length && ((List.range l.length).all fun i =>
    match l[i]? with
    | none => false
    | some o => (edgesOf o).all (fun x => Nat.blt x i) &&
      (bif Nat.blt i k then true
      else bif Nat.blt i k' then
        (o.dst.isSome || Es.contains i) && (List.range' k (k' - k)).all (fun j => match l[j]? with
          | none => false
          | some p => (bif Nat.beq i j then true else (match o.dst, p.dst with | some a, some b => !(Nat.beq a b) | _, _ => true)) &&
            (match p.dst with
              | some t => bif (o.looksAt l.toArray).contains t then (S.getD i 0).testBit j else true
              | none => true))
      else (List.range' k (k' - k)).all fun j => (S.getD i 0).testBit j)) &&
  Es.all fun e => Nat.ble k e && Nat.blt e k'
section
variable {P : Program} {n : Nat} {K : Post} {E : EPost} {T : Tmps} {st : St}
theorem preds_listed {l : List Oper} {listed : Array Bool} (hc : Closed l listed) {i : Nat} {o : Oper} (ho : l[i]? = some o) (he : ∀ x ∈ edgesOf o, listed.getD x false = true) {j : Nat} (hj : ((predSets l []).getD i 0).testBit j = true) : listed.getD j false = true :=
  predSets_spec l listed hc l [] (fun j => by simp) (fun i o hi => by simp at hi) i o (by rw [predSets_length]; simpa using (List.getElem?_eq_some_iff.1 ho).1) ho he j hj
theorem segOk_spec {l : List Oper} {k k' : Nat} {Es : List Nat} (h : segOk l k k' Es = true) : k ≤ k' ∧ k' ≤ l.length ∧ (∀ i o, l[i]? = some o → ∀ x ∈ edgesOf o, x < i) ∧
    (∀ i o, l[i]? = some o → k ≤ i → i < k' → (o.dst = none → Es.contains i = true) ∧ ∀ j p, k ≤ j → j < k' → l[j]? = some p → (i ≠ j → ∀ a b, o.dst = some a → p.dst = some b → a ≠ b) ∧
      (∀ t, p.dst = some t → (o.looksAt l.toArray).contains t = true → ((predSets l []).getD i 0).testBit j = true)) ∧
    (∀ i o, k' ≤ i → l[i]? = some o → ∀ j, k ≤ j → j < k' → ((predSets l []).getD i 0).testBit j = true) ∧ ∀ e ∈ Es, k ≤ e ∧ e < k' := by
  simp only [segOk, Bool.and_eq_true] at h
  obtain ⟨⟨⟨h0, h00⟩, hall⟩, hE⟩ := h
  have hat : ∀ i o, l[i]? = some o → ((edgesOf o).all (fun x => Nat.blt x i) = true ∧
      (bif Nat.blt i k then true
      else bif Nat.blt i k' then
        (o.dst.isSome || Es.contains i) && (List.range' k (k' - k)).all (fun j => match l[j]? with
          | none => false
          | some p => (bif Nat.beq i j then true else (match o.dst, p.dst with | some a, some b => !(Nat.beq a b) | _, _ => true)) &&
            (match p.dst with
              | some t => bif (o.looksAt l.toArray).contains t then ((predSets l []).getD i 0).testBit j else true
              | none => true))
      else (List.range' k (k' - k)).all fun j => ((predSets l []).getD i 0).testBit j) = true) := by
    intro i o ho
    have hi := (List.getElem?_eq_some_iff.1 ho).1
    have := List.all_eq_true.1 hall i (List.mem_range.2 hi)
    simp only [ho, Bool.and_eq_true] at this
    exact this
  have hkk := Nat.ble_le h0
  have hr : ∀ j, k ≤ j → j < k' → j ∈ List.range' k (k' - k) := fun j h1 h2 => List.mem_range'_1.2 ⟨h1, by omega⟩
  refine ⟨hkk, Nat.ble_le h00, fun i o ho x hx => ?_, fun i o ho hik hik' => ?_, fun i o hik ho j hj1 hj2 => ?_, fun e he => ?_⟩
  · have := List.all_eq_true.1 (hat i o ho).1 x hx
    simpa [Nat.blt_eq] using this
  · have h2 := (hat i o ho).2
    rw [show Nat.blt i k = false by rw [Bool.eq_false_iff, Ne, Nat.blt_eq]; omega, cond_false, show Nat.blt i k' = true by simpa [Nat.blt_eq] using hik', cond_true, Bool.and_eq_true] at h2
    refine ⟨fun hd => ?_, fun j p hj1 hj2 hp => ?_⟩
    · rw [hd] at h2
      simpa using h2.1
    · have h3 := List.all_eq_true.1 h2.2 j (hr j hj1 hj2)
      simp only [hp, Bool.and_eq_true] at h3
      refine ⟨fun hij a b ha hb => ?_, fun t ht hlook => ?_⟩
      · have h4 := h3.1
        rw [nbeq_ne hij, cond_false, ha, hb] at h4
        intro e
        rw [e] at h4
        simp at h4
      · have h4 := h3.2
        rw [ht] at h4
        simpa only [hlook, cond_true] using h4
  · have h2 := (hat i o ho).2
    rw [show Nat.blt i k = false by rw [Bool.eq_false_iff, Ne, Nat.blt_eq]; omega, cond_false, show Nat.blt i k' = false by rw [Bool.eq_false_iff, Ne, Nat.blt_eq]; omega, cond_false] at h2
    exact List.all_eq_true.1 h2 j (hr j hj1 hj2)
  · have h2 := List.all_eq_true.1 hE e he
    simp only [Bool.and_eq_true] at h2
    exact ⟨Nat.ble_le h2.1, by simpa [Nat.blt_eq] using h2.2⟩
/-- The first i operations are done, no other; the rest is drawn. -/
def AAny (P : Program) (n : Nat) (l : List Oper) (i : Nat) (K : Post) (E : EPost) (T : Tmps) (st : St) : Prop :=
  ∀ g0 w0 ds g w a (m : Nat) (listed : Array Bool), Ext g0 w0 g w → Sim g w st → Known g w T a → a.tmps.size = n → a.defers = ds → l.length ≤ i + m → listed.size = l.length → (∀ j, j < l.length → listed.getD j true = decide (j < i)) → Closed l listed →
    wpAny P .any l.toArray (QOf n ds g0 w0 K E) m listed a w
theorem AWP.any {l : List Oper} {id : Nat} (hm : P.follows .mixedOrders = true) (h : AAny P n l 0 K E T st) : AWP P n (.region id l.toArray true) K E T st := by
  intro g0 w0 a0 hs0 hk0 hn0
  refine wp_region_any hm ?_
  obtain ⟨hed, hsd⟩ := hs0.draw
  refine h g0 w0 _ g0 _ a0 _ _ hed hsd (hk0.ext hed) hn0 rfl (by simp) (by simp) (fun j hj => ?_) (fun i o ho hi => ?_)
  · rw [Array.getD_eq_getD_getElem?, Array.getElem?_replicate, if_pos (by simpa using hj)]
    simp
  · rw [Array.getD_eq_getD_getElem?, Array.getElem?_replicate] at hi
    split at hi <;> cases hi
/-- The rest in the text's order. -/
def textOk (l : List Oper) (i : Nat) : Bool :=
  let S := predSets l []
  Nat.ble i l.length && (List.range l.length).all fun j =>
    match l[j]? with
    | none => false
    | some o => (edgesOf o).all (fun x => Nat.blt x j) && (bif Nat.blt j i then true else (List.range j).all fun q => (S.getD j 0).testBit q)
theorem AAny.text {l : List Oper} {i : Nat} (hok : textOk l i = true) (h : AOps P n l.toArray (l.drop i) K E T st) : AAny P n l i K E T st := by
  simp only [textOk, Bool.and_eq_true] at hok
  obtain ⟨h0, hall⟩ := hok
  have hat : ∀ j o, l[j]? = some o → ((edgesOf o).all (fun x => Nat.blt x j) = true ∧ (bif Nat.blt j i then true else (List.range j).all fun q => ((predSets l []).getD j 0).testBit q) = true) := by
    intro j o ho
    have := List.all_eq_true.1 hall j (List.mem_range.2 (List.getElem?_eq_some_iff.1 ho).1)
    simp only [ho, Bool.and_eq_true] at this
    exact this
  intro g0 w0 ds g w a m listed he hs hk hn hd hm hsz hli hc
  refine wpAny_tail (fun j o ho x hx => ?_) i (fun j o hij ho listed' hc' he' q hq => ?_) m i listed a w (Nat.le_refl _) (Nat.ble_le h0) hm hsz hli hc ?_
  · have := List.all_eq_true.1 (hat j o ho).1 x hx
    simpa [Nat.blt_eq] using this
  · have h2 := (hat j o ho).2
    rw [show Nat.blt j i = false by rw [Bool.eq_false_iff, Ne, Nat.blt_eq]; omega, cond_false] at h2
    exact preds_listed hc' ho he' (List.all_eq_true.1 h2 q (List.mem_range.2 hq))
  · subst hd
    exact wpList_mono (fun _ _ _ q => QOf.ext he q) _ _ _ (h g w a hs hk hn)
theorem getD_ft {listed : Array Bool} {j : Nat} (h : j < listed.size) : listed.getD j false = listed.getD j true := by
  rw [Array.getD_eq_getD_getElem?, Array.getD_eq_getD_getElem?, Array.getElem?_eq_getElem h]
  rfl
/-- A single operation, all that comes behind waits for it. -/
theorem AAny.one {l : List Oper} {i : Nat} {o : Oper} {d : Tmp} (hok : segOk l i (i + 1) [] = true) (ho : l[i]? = some o) (hd : dstA n o.dst = some d) (hw : wantedA l.toArray T o = some true)
    (h : AOps P n l.toArray [o] (fun T' st' => ∃ u, T' = (d, u) :: T ∧ AAny P n l (i + 1) K E ((d, u) :: T) st') (fun _ _ _ => False) T st) : AAny P n l i K E T st := by
  obtain ⟨_, hile, hedge, _, htail, _⟩ := segOk_spec hok
  obtain ⟨hd1, hd2⟩ := dstA_some hd
  have hdn : d < n := dstOk_lt hd2 d hd1
  intro g0 w0 ds g w a m listed he hs hk hn hds hm hsz hli hc
  have hil : i < l.length := by omega
  obtain ⟨m, rfl⟩ : ∃ m', m = m' + 1 := ⟨m - 1, by omega⟩
  have hready : i ∈ Region.ready .any l.toArray listed := ready_of_edges (by rw [hli i hil]; simp) ho (fun e he => by
    have hlt := hedge i _ ho e he
    rw [getD_ft (by omega), hli e (by omega), decide_eq_true hlt])
  refine ⟨fun h0 => (by rw [h0] at hready; cases hready), fun j hj => ?_⟩
  obtain ⟨h1, o', h2, h3⟩ := ready_edges hj
  have hjl := (List.getElem?_eq_some_iff.1 h2).1
  have hji : j = i := by
    rw [hli j hjl] at h1
    have hge : i ≤ j := by simpa using h1
    rcases Nat.eq_or_lt_of_le hge with h' | h'
    · exact h'.symm
    · have h4 := preds_listed hc h2 h3 (htail j o' h' h2 i (Nat.le_refl _) (by omega))
      rw [getD_ft (by omega), hli i hil] at h4
      simp at h4
  subst hji
  rw [ho] at h2
  cases h2
  unfold wpOp
  simp only [List.getElem?_toArray, ho]
  rw [wanted_of hk hw, if_pos rfl]
  left
  have hlist' : ∀ q, q < l.length → (listed.setIfInBounds j true).getD q true = decide (q < j + 1) := fun q hq => by
    by_cases hqj : j = q
    · subst hqj
      rw [Array.getD_eq_getD_getElem?, Array.getElem?_setIfInBounds_self_of_lt (by omega)]
      simp
    · rw [getD_set_ne true hqj, hli q hq]
      congr 1
      rw [eq_iff_iff]
      omega
  refine AOps.single hd1 hdn (v := fun u st' => AAny P n l (j + 1) K E ((d, u) :: T) st') h hw hs hk _ _ (fun rv g' w' u st' he' hs' hR hv => ?_) hn
  refine hv g0 w0 ds g' w' _ m _ (he.trans he') hs' ?_ (by rw [Act.size_put]; exact hn) (by rw [Act.defers_put]; exact hds) (by omega) (by simpa using hsz) hlist' (hc.set ho h3)
  have := (hk.ext he').put (d := o.dst) (fun t ht => by rw [hd1] at ht; cases ht; rw [hn]; exact hdn) hR
  rwa [hd1] at this ⊢
def StepG (P : Program) (n : Nat) (I : List Bool → St → Prop) (S Es : List Nat) (i : Nat) (ops : Array Oper) (T : Tmps) (o : Oper) (Q : AV → Prop) : Prop :=
  (wantedA ops T o = some true ∧ ∀ bs, bs.length = Es.length → mayBe S Es i bs = true → EffJ P n (I bs) (I (setBit Es i bs)) T o Q) ∨ (wantedA ops T o = some false ∧ Q (.lit undef) ∧ Es.contains i = false)
/-- The walk of a part in the text's order; behind it k. -/
def DRunG (P : Program) (n : Nat) (I : List Bool → St → Prop) (S Es : List Nat) (ops : Array Oper) : Nat → List Oper → List (AV → Prop) → Tmps → (Tmps → St → Prop) → Prop
  | _, [], [], T, k => ∀ st, I (Es.map fun _ => true) st → k T st
  | i, o :: r, Q :: Qs, T, k => (∃ u, Q u) ∧ dstOk o.dst n = true ∧ StepG P n I S Es i ops (see ops o T) o Q ∧ ∀ u, Q u → DRunG P n I S Es ops (i + 1) r Qs (T.put o.dst u) k
  | _, _, _, _, _ => False
theorem DRunG.out {I : List Bool → St → Prop} {S Es : List Nat} {ops : Array Oper} {k : Tmps → St → Prop} (b : Nat) (us : Nat → AV) (l : List Oper) : ∀ (r : List Oper) (Qs : List (AV → Prop)) (i0 : Nat), (∀ (i : Nat) (o : Oper), r[i]? = some o → l[i0 + i]? = some o) → (∀ (i : Nat) (Q : AV → Prop), Qs[i]? = some Q → Q (us (i0 + i))) →
    DRunG P n I S Es ops (b + i0) r Qs (ents l us i0 ++ T) k → Qs.length = r.length ∧ (∀ st, I (Es.map fun _ => true) st → k (ents l us (i0 + r.length) ++ T) st) ∧
      ∀ i o, r[i]? = some o → ∃ Q, dstOk o.dst n = true ∧ Qs[i]? = some Q ∧ StepG P n I S Es (b + (i0 + i)) ops (see ops o (ents l us (i0 + i) ++ T)) o Q
  | [], [], i0, _, _, h => ⟨rfl, h, fun i o ho => by simp at ho⟩
  | [], _ :: _, _, _, _, h => h.elim
  | _ :: _, [], _, _, _, h => h.elim
  | o :: r, Q :: Qs, i0, hl, hq, h => by
    obtain ⟨_, h2, h4, h5⟩ := h
    have h6 := h5 (us i0) (hq 0 Q rfl)
    have hl0 : l[i0]? = some o := by simpa using hl 0 o rfl
    have he : (ents l us i0 ++ T).put o.dst (us i0) = ents l us (i0 + 1) ++ T := by
      rw [ents, hl0]
      simp only [Option.bind_some]
      cases o.dst <;> rfl
    rw [he, Nat.add_assoc] at h6
    obtain ⟨a1, a2, a3⟩ := DRunG.out b us l r Qs (i0 + 1) (fun i o' ho' => by have := hl (i + 1) o' (by simpa using ho'); rwa [show i0 + (i + 1) = i0 + 1 + i by omega] at this) (fun i Q' hQ' => by have := hq (i + 1) Q' (by simpa using hQ'); rwa [show i0 + (i + 1) = i0 + 1 + i by omega] at this) h6
    refine ⟨by simp [a1], by rw [List.length_cons, show i0 + (r.length + 1) = i0 + 1 + r.length by omega]; exact a2, fun i o' ho' => ?_⟩
    cases i with
    | zero =>
      simp only [List.getElem?_cons_zero, Option.some.injEq] at ho'
      subst ho'
      exact ⟨Q, h2, rfl, h4⟩
    | succ i =>
      obtain ⟨Q', b1, b2, b3⟩ := a3 i o' (by simpa using ho')
      exact ⟨Q', b1, by simpa using b2, by rwa [show i0 + 1 + i = i0 + (i + 1) by omega] at b3⟩
theorem DRunG.fits {I : List Bool → St → Prop} {S Es : List Nat} {ops : Array Oper} {k : Tmps → St → Prop} : ∀ (r : List Oper) (Qs : List (AV → Prop)) (i0 : Nat) (T : Tmps), DRunG P n I S Es ops i0 r Qs T k → ∀ (i : Nat) (Q : AV → Prop), Qs[i]? = some Q → ∃ u, Q u
  | [], [], _, _, _, i, Q, h => by simp at h
  | [], _ :: _, _, _, h, _, _, _ => h.elim
  | _ :: _, [], _, _, h, _, _, _ => h.elim
  | o :: r, Q0 :: Qs, i0, T, h, i, Q, hq => by
    obtain ⟨⟨u, hu⟩, h2, h4, h5⟩ := h
    cases i with
    | zero => simp at hq; subst hq; exact ⟨u, hu⟩
    | succ i => exact DRunG.fits r Qs _ _ (h5 u hu) i Q (by simpa using hq)
theorem may_of {l : List Oper} {listed : Array Bool} (hc : Closed l listed) (hsz : listed.size = l.length) {i : Nat} {o : Oper} (ho : l[i]? = some o) (he : ∀ x ∈ edgesOf o, listed.getD x false = true) (hun : listed.getD i false = false) (Es : List Nat) :
    mayBe (predSets l []) Es i (Es.map fun e => listed.getD e false) = true := by
  unfold mayBe
  rw [List.all_eq_true]
  intro p hp
  have hp2 : p.1 ∈ Es ∧ p.2 = listed.getD p.1 false := by
    obtain ⟨q, hq⟩ := List.getElem?_of_mem hp
    rw [List.getElem?_zip_eq_some] at hq
    obtain ⟨h1, h2⟩ := hq
    rw [List.getElem?_map, h1, Option.map_some, Option.some.injEq] at h2
    exact ⟨List.mem_of_getElem? h1, h2.symm⟩
  obtain ⟨e, b⟩ := p
  simp only at hp2 ⊢
  obtain ⟨h1, h2⟩ := hp2
  cases hb : b with
  | true =>
    rw [hb] at h2
    have hel : e < l.length := by
      rcases Nat.lt_or_ge e l.length with h | h
      · exact h
      · rw [Array.getD_eq_getD_getElem?, Array.getElem?_eq_none (by omega)] at h2; cases h2
    rw [cond_true, Bool.and_eq_true]
    refine ⟨?_, ?_⟩
    · cases hei : Nat.beq e i with
      | false => rfl
      | true => rw [Nat.eq_of_beq_eq_true hei, hun] at h2; cases h2
    · cases ht : ((predSets l []).getD e 0).testBit i with
      | false => rfl
      | true =>
        have := preds_listed hc (List.getElem?_eq_getElem hel) (fun x hx => hc e _ (List.getElem?_eq_getElem hel) h2.symm x hx) ht
        rw [hun] at this
        cases this
  | false =>
    rw [hb] at h2
    rw [cond_false]
    cases ht : ((predSets l []).getD i 0).testBit e with
    | false => rfl
    | true => rw [preds_listed hc ho he ht] at h2; cases h2
theorem setBit_of {listed : Array Bool} {i : Nat} (hi : i < listed.size) : ∀ (Es : List Nat), (Es.map fun e => (listed.setIfInBounds i true).getD e false) = setBit Es i (Es.map fun e => listed.getD e false)
  | [] => rfl
  | e :: Es => by
    have := setBit_of hi Es
    unfold setBit at this ⊢
    rw [List.map_cons, List.map_cons, List.zip_cons_cons, List.map_cons, this]
    congr 1
    by_cases h : i = e
    · subst h
      rw [Array.getD_eq_getD_getElem?, Array.getElem?_setIfInBounds_self_of_lt hi, nbeq_self]
      simp
    · rw [getD_set_ne false h, nbeq_ne (Ne.symm h)]
      simp
theorem setBit_none {i : Nat} : ∀ (Es : List Nat) (bs : List Bool), bs.length = Es.length → Es.contains i = false → setBit Es i bs = bs
  | [], [], _, _ => rfl
  | [], _ :: _, h, _ => by simp at h
  | _ :: _, [], h, _ => by simp at h
  | e :: Es, b :: bs, h, hc => by
    rw [List.contains_cons, Bool.or_eq_false_iff] at hc
    have := setBit_none Es bs (by simpa using h) hc.2
    unfold setBit at this ⊢
    rw [List.zip_cons_cons, List.map_cons, this, nbeq_ne (fun h => by subst h; simp at hc), Bool.or_false]
theorem AAny.seg {l : List Oper} {k : Nat} (k' : Nat) (S Es : List Nat) (I : List Bool → St → Prop) (Qs : List (AV → Prop)) (hok : segOk l k k' Es = true) (hS : predSets l [] = S) (hI : I (Es.map fun _ => false) st)
    (h : DRunG P n I S Es l.toArray k ((l.drop k).take (k' - k)) Qs T fun T' st' => AAny P n l k' K E T' st') : AAny P n l k K E T st := by
  subst hS
  obtain ⟨hkk, hkl, hedge, hbody, htail, hEs⟩ := segOk_spec hok
  have hfits := DRunG.fits _ _ _ _ h
  have hget : ∀ i, i < k' - k → (l.drop k)[i]? = l[k + i]? := fun i _ => List.getElem?_drop
  have hout := fun (us : Nat → AV) (hus : ∀ (i : Nat) (Q : AV → Prop), Qs[i]? = some Q → Q (us (0 + i))) => DRunG.out (T := T) k us (l.drop k) ((l.drop k).take (k' - k)) Qs 0 (fun i o ho => by
    have hi : i < k' - k := by have := (List.getElem?_eq_some_iff.1 ho).1; simp at this; omega
    rw [List.getElem?_take_of_lt hi] at ho
    rwa [Nat.zero_add]) hus h
  have hlk0 : ((l.drop k).take (k' - k)).length = k' - k := by simp; omega
  obtain ⟨wit, hwit⟩ : ∃ wit : Nat → AV, ∀ (i : Nat) (Q : AV → Prop), Qs[i]? = some Q → Q (wit i) := by
    have : ∀ i : Nat, ∃ u : AV, ∀ Q : AV → Prop, Qs[i]? = some Q → Q u := fun i => by
      cases hq : Qs[i]? with
      | none => exact ⟨.bool true, fun Q h => by cases h⟩
      | some Q =>
        obtain ⟨u, hu⟩ := hfits i Q hq
        exact ⟨u, fun Q' h => by cases h; exact hu⟩
    exact ⟨fun i => Classical.choose (this i), fun i Q hQ => Classical.choose_spec (this i) Q hQ⟩
  have hQl : Qs.length = k' - k := by rw [(hout wit (fun i Q hQ => by rw [Nat.zero_add]; exact hwit i Q hQ)).1, hlk0]
  intro g0 w0 ds g1 w1 a1 m1 listed1 he1 hs1 hk1 hn1 hd1 hm1 hsz1 hli1 hc1
  let Inv : Array Bool → Act → World → Prop := fun listed a w => listed.size = l.length ∧ Closed l listed ∧ (∀ j, j < k → listed.getD j true = true) ∧ (∀ j, k' ≤ j → j < l.length → listed.getD j true = false) ∧ a.tmps.size = n ∧ a.defers = ds ∧
    ∃ g st1, Ext g0 w0 g w ∧ Sim g w st1 ∧ I (Es.map fun e => listed.getD e false) st1 ∧
      (∀ t v, Tmps.get T t = some v → (∀ i, i < k' - k → (l[k + i]?).bind (·.dst) = some t → listed.getD (k + i) false = false) → ∃ rv, a.tmps[t]? = some rv ∧ R g w v rv) ∧
      (∀ i d Q, i < k' - k → (l[k + i]?).bind (·.dst) = some d → Qs[i]? = some Q → listed.getD (k + i) false = true → ∃ u rv, Q u ∧ a.tmps[d]? = some rv ∧ R g w u rv)
  let μ : Array Bool → Nat := fun listed => (List.range l.length).countP fun j => !listed.getD j true
  have hμ : ∀ (listed : Array Bool) i, i < l.length → listed.size = l.length → listed.getD i true = false → μ (listed.setIfInBounds i true) + 1 ≤ μ listed := by
    intro listed i hil hsz hi
    have gen : ∀ (A : List Nat), i ∈ A → A.countP (fun j => !(listed.setIfInBounds i true).getD j true) + 1 ≤ A.countP (fun j => !listed.getD j true) := by
      have le : ∀ (A : List Nat), A.countP (fun j => !(listed.setIfInBounds i true).getD j true) ≤ A.countP (fun j => !listed.getD j true) := fun A => List.countP_mono_left fun j _ hj => by
        by_cases hij : i = j
        · subst hij
          rw [Array.getD_eq_getD_getElem?, Array.getElem?_setIfInBounds_self_of_lt (by omega)] at hj
          simp at hj
        · rw [getD_set_ne true hij] at hj; exact hj
      intro A
      induction A with
      | nil => intro h; simp at h
      | cons x A ih =>
        intro h
        rw [List.countP_cons, List.countP_cons]
        by_cases hx : x = i
        · subst hx
          have h1 : (!(listed.setIfInBounds x true).getD x true) = false := by
            rw [Array.getD_eq_getD_getElem?, Array.getElem?_setIfInBounds_self_of_lt (by omega)]; rfl
          have h2 : (!listed.getD x true) = true := by rw [hi]; rfl
          rw [h1, h2, if_neg (by decide), if_pos rfl]
          have := le A
          omega
        · have hm' : i ∈ A := by rcases List.mem_cons.1 h with h | h; exact absurd h.symm hx; exact h
          have := ih hm'
          have h3 : (listed.setIfInBounds i true).getD x true = listed.getD x true := getD_set_ne true (Ne.symm hx)
          rw [h3]
          omega
    exact gen _ (List.mem_range.2 hil)
  have choose : ∀ (listed : Array Bool) (a : Act) (g : G) (w : World), (∀ i d Q, i < k' - k → (l[k + i]?).bind (·.dst) = some d → Qs[i]? = some Q → listed.getD (k + i) false = true → ∃ u rv, Q u ∧ a.tmps[d]? = some rv ∧ R g w u rv) →
      ∃ us : Nat → AV, (∀ (i : Nat) (Q : AV → Prop), Qs[i]? = some Q → Q (us i)) ∧ ∀ i d, i < k' - k → (l[k + i]?).bind (·.dst) = some d → listed.getD (k + i) false = true → ∃ rv, a.tmps[d]? = some rv ∧ R g w (us i) rv := by
    intro listed a g w hB
    have : ∀ i : Nat, ∃ u : AV, (∀ Q : AV → Prop, Qs[i]? = some Q → Q u) ∧ ∀ d, i < k' - k → (l[k + i]?).bind (·.dst) = some d → listed.getD (k + i) false = true → ∃ rv, a.tmps[d]? = some rv ∧ R g w u rv := fun i => by
      by_cases hc : i < k' - k ∧ listed.getD (k + i) false = true
      · obtain ⟨hik, hli⟩ := hc
        cases hd' : (l[k + i]?).bind (·.dst) with
        | none => exact ⟨wit i, hwit i, fun d _ hd2 _ => by cases hd2⟩
        | some d =>
          have hq : Qs[i]? = some (Qs[i]'(by omega)) := List.getElem?_eq_getElem _
          obtain ⟨u, rv, h1, h2, h3⟩ := hB i d _ hik hd' hq hli
          refine ⟨u, fun Q h => by rw [hq] at h; cases h; exact h1, fun d' _ hd2 _ => ?_⟩
          cases hd2
          exact ⟨rv, h2, h3⟩
      · exact ⟨wit i, hwit i, fun d h1 _ h2 => absurd ⟨h1, h2⟩ hc⟩
    exact ⟨fun i => Classical.choose (this i), fun i => (Classical.choose_spec (this i)).1, fun i => (Classical.choose_spec (this i)).2⟩
  have hentsget : ∀ (us : Nat → AV) (i t : Nat) v, i ≤ k' - k → Tmps.get (ents (l.drop k) us i) t = some v → ∃ j, j < i ∧ (l[k + j]?).bind (·.dst) = some t ∧ v = us j := fun us i t v hi hg => by
    obtain ⟨j, hj, hdj, rfl⟩ := ents_get i t _ hg
    exact ⟨j, hj, by rw [← hget j (by omega)]; exact hdj, rfl⟩
  have hentsnone : ∀ (us : Nat → AV) (i t : Nat), i ≤ k' - k → Tmps.get (ents (l.drop k) us i) t = none → ∀ j, j < i → (l[k + j]?).bind (·.dst) ≠ some t := fun us i t hi hg j hj => by
    rw [← hget j (by omega)]
    exact ents_none i t hg j hj
  have done : ∀ (m : Nat) (listed : Array Bool) (a : Act) (w : World), Inv listed a w → (∀ j, j < k' → listed.getD j true = true) → l.length ≤ k' + m → wpAny P .any l.toArray (QOf n ds g0 w0 K E) m listed a w := by
    intro m listed a w ⟨hsz, hcl, hfst, htl, hn, hd, g, st1, he, hs, hI1, hA, hB⟩ hall hm'
    have hlist : ∀ j, j < k' → listed.getD j false = true := fun j hj => by
      rw [getD_ft (by omega)]; exact hall j hj
    obtain ⟨us, hus, hus2⟩ := choose listed a g w hB
    obtain ⟨_, hfin, _⟩ := hout us (fun i Q hQ => by rw [Nat.zero_add]; exact hus i Q hQ)
    rw [hlk0, Nat.zero_add] at hfin
    have hIt : (Es.map fun e => listed.getD e false) = Es.map fun _ => true := List.map_congr_left fun e he => hlist e (hEs e he).2
    rw [hIt] at hI1
    refine hfin st1 hI1 g0 w0 ds g w a m listed he hs (fun t u hu => ?_) hn hd hm' hsz (fun j hj => ?_) hcl
    · rw [get_append] at hu
      cases hg : Tmps.get (ents (l.drop k) us (k' - k)) t with
      | some u' =>
        rw [hg] at hu
        cases hu
        obtain ⟨j, hj, hdj, rfl⟩ := hentsget us _ t _ (Nat.le_refl _) hg
        exact hus2 j t hj hdj (hlist (k + j) (by omega))
      | none =>
        rw [hg] at hu
        exact hA t u hu fun i hi hit => absurd hit (hentsnone us _ t (Nat.le_refl _) hg i hi)
    · by_cases hjk : j < k'
      · rw [hall j hjk, decide_eq_true hjk]
      · rw [htl j (by omega) hj, decide_eq_false hjk]
  have step : ∀ (K' : Act → World → Prop) (listed : Array Bool) (a : Act) (w : World) (q : Nat), Inv listed a w → q < k' - k → k + q ∈ Region.ready .any l.toArray listed → (∀ a' w', Inv (listed.setIfInBounds (k + q) true) a' w' → K' a' w') →
      wpOp P l.toArray (QOf n ds g0 w0 K E) (k + q) K' a w := by
    intro K' listed a w q ⟨hsz, hcl, hfst, htl, hn, hd, g, st1, he, hs, hI1, hA, hB⟩ hqk hri hK
    obtain ⟨hun, o, ho, hed'⟩ := ready_edges hri
    have hil := (List.getElem?_eq_some_iff.1 ho).1
    have hunf : listed.getD (k + q) false = false := by
      rw [getD_ft (by omega)]; exact hun
    have hcl' := hcl.set ho hed'
    have hsz' : (listed.setIfInBounds (k + q) true).size = l.length := by simpa using hsz
    have hfst' : ∀ j, j < k → (listed.setIfInBounds (k + q) true).getD j true = true := fun j h1 => by
      rw [getD_set_ne true (by omega)]; exact hfst j h1
    have htl' : ∀ j, k' ≤ j → j < l.length → (listed.setIfInBounds (k + q) true).getD j true = false := fun j h1 h2 => by
      rw [getD_set_ne true (by omega)]; exact htl j h1 h2
    obtain ⟨us, hus, hus2⟩ := choose listed a g w hB
    obtain ⟨_, _, hops⟩ := hout us (fun i Q hQ => by rw [Nat.zero_add]; exact hus i Q hQ)
    obtain ⟨Q, hdn, hQi, hstep⟩ := hops q o (by rw [List.getElem?_take_of_lt hqk, hget q hqk]; exact ho)
    rw [Nat.zero_add] at hstep
    have hlooked : ∀ j, j < k' - k → ∀ t, (l[k + j]?).bind (·.dst) = some t → (o.looksAt l.toArray).contains t = true → listed.getD (k + j) false = true ∧ j < q := by
      intro j hj t hjt hlook
      have hp : l[k + j]? = some l[k + j] := List.getElem?_eq_getElem (by omega)
      rw [hp] at hjt
      have h2 := ((hbody (k + q) o ho (by omega) (by omega)).2 (k + j) _ (by omega) (by omega) hp).2 t hjt hlook
      refine ⟨preds_listed hcl ho hed' h2, ?_⟩
      have hcl2 : Closed l (Array.ofFn fun x : Fin l.length => decide (x.val < k + q)) := by
        intro x ox hx hx' y hy
        have hql := (List.getElem?_eq_some_iff.1 hx).1
        rw [Array.getD_eq_getD_getElem?, Array.getElem?_ofFn] at hx' ⊢
        simp only [hql, dif_pos, Option.getD_some, decide_eq_true_eq] at hx'
        have hxq := hedge x ox hx y hy
        simp only [show y < l.length by omega, dif_pos, Option.getD_some, decide_eq_true_eq]
        omega
      have h3 := preds_listed hcl2 ho (fun x hx' => by
        have hxi := hedge (k + q) o ho x hx'
        rw [Array.getD_eq_getD_getElem?, Array.getElem?_ofFn]
        simp only [show x < l.length by omega, dif_pos, Option.getD_some, decide_eq_true_eq]
        exact hxi) h2
      rw [Array.getD_eq_getD_getElem?, Array.getElem?_ofFn] at h3
      simp only [show k + j < l.length by omega, dif_pos, Option.getD_some, decide_eq_true_eq] at h3
      omega
    have hknown : Known g w (see l.toArray o (ents (l.drop k) us q ++ T)) a := fun t v ht => by
      obtain ⟨hlook, hgt⟩ := get_filter _ _ _ _ ht
      rw [get_append] at hgt
      cases hg : Tmps.get (ents (l.drop k) us q) t with
      | some u' =>
        rw [hg] at hgt
        cases hgt
        obtain ⟨j, hj, hdj, rfl⟩ := hentsget us q t _ (by omega) hg
        exact hus2 j t (by omega) hdj (hlooked j (by omega) t hdj hlook).1
      | none =>
        rw [hg] at hgt
        refine hA t v hgt fun j hj hjt => ?_
        have h1 := hlooked j hj t hjt hlook
        exact absurd hjt (hentsnone us q t (by omega) hg j h1.2)
    have hother : ∀ t, o.dst ≠ some t → ∀ rv', (a.put o.dst rv').tmps[t]? = a.tmps[t]? := fun t ht rv' => by
      cases hod : o.dst with
      | none => rfl
      | some d =>
        simp only [Act.put, Array.getElem?_setIfInBounds]
        rw [if_neg (fun h => ht (by rw [hod, h]))]
    have hself : ∀ d, o.dst = some d → ∀ rv', (a.put o.dst rv').tmps[d]? = some rv' := fun d hod rv' => by
      have hdn' := dstOk_lt hdn d hod
      rw [hod]
      simp only [Act.put, Array.getElem?_setIfInBounds]
      simp [hn, hdn']
    have hdi : ∀ d, (l[k + q]?).bind (·.dst) = some d → o.dst = some d := fun d h => by rw [ho] at h; exact h
    have after : ∀ v rv g' w' st2, Ext g w g' w' → Sim g' w' st2 → R g' w' v rv → Q v → I (setBit Es (k + q) (Es.map fun e => listed.getD e false)) st2 → Inv (listed.setIfInBounds (k + q) true) (a.put o.dst rv) w' := by
      intro v rv g' w' st2 he' hs' hR hQv hI2
      refine ⟨hsz', hcl', hfst', htl', by rw [Act.size_put]; exact hn, by rw [Act.defers_put]; exact hd, g', st2, he.trans he', hs', by rw [setBit_of (by omega)]; exact hI2, fun t u ht hwr => ?_, fun j d' Q' hj hjd hjQ hjl => ?_⟩
      · have htd : o.dst ≠ some t := fun htd => by
          have := hwr q hqk (by rw [ho]; exact htd)
          rw [Array.getD_eq_getD_getElem?, Array.getElem?_setIfInBounds_self_of_lt (by omega)] at this
          simp at this
        obtain ⟨ru, h1, h2⟩ := hA t u ht fun j hj hjt => by
          have h3 := hwr j hj hjt
          by_cases hij : q = j
          · subst hij; exact hunf
          · rwa [getD_set_ne false (by omega)] at h3
        exact ⟨ru, by rw [hother t htd]; exact h1, h2.ext he'⟩
      · by_cases hij : q = j
        · subst hij
          rw [hQi] at hjQ
          cases hjQ
          exact ⟨v, rv, hQv, hself d' (hdi d' hjd) rv, hR⟩
        · rw [getD_set_ne false (by omega)] at hjl
          obtain ⟨u, ru, h1, h2, h3⟩ := hB j d' Q' hj hjd hjQ hjl
          refine ⟨u, ru, h1, ?_, h3.ext he'⟩
          rw [hother d' ?_]
          · exact h2
          · have hp : l[k + j]? = some l[k + j] := List.getElem?_eq_getElem (by omega)
            rw [hp] at hjd
            exact fun hdd => ((hbody (k + q) o ho (by omega) (by omega)).2 (k + j) _ (by omega) (by omega) hp).1 (by omega) d' d' hdd hjd rfl
    unfold wpOp
    simp only [List.getElem?_toArray, ho]
    rcases hstep with ⟨hw, hq1⟩ | ⟨hw, hq, hni⟩
    · rw [wanted_of hknown hw, if_pos rfl]
      left
      exact hq1 _ (by simp) (may_of hcl hsz ho hed' hunf Es) st1 g w a K' _ hI1 hs hknown hn fun rv g' w' v st2 he' hs' hR hQv hI2 => hK _ _ (after v rv g' w' st2 he' hs' hR hQv hI2)
    · rw [wanted_of hknown hw, if_neg (by simp)]
      exact hK _ _ (after _ undef g w st1 (.refl _ _) hs (.lit _) hq (by rw [setBit_none Es _ (by simp) hni]; exact hI1))
  have key : ∀ (m : Nat) (listed : Array Bool) (a : Act) (w : World), Inv listed a w → μ listed ≤ m → wpAny P .any l.toArray (QOf n ds g0 w0 K E) m listed a w := by
    intro m
    induction m with
    | zero =>
      intro listed a w hi hm0
      have hall : ∀ j, j < l.length → listed.getD j true = true := fun j hj => by
        cases hv : listed.getD j true with
        | true => rfl
        | false => have := hμ listed j hj hi.1 hv; omega
      have hlk : l.length = k' := by
        rcases Nat.eq_or_lt_of_le hkl with h' | h'
        · exact h'.symm
        · have h1 := hall k' h'
          have h2 := hi.2.2.2.1 k' (Nat.le_refl _) h'
          rw [h1] at h2
          cases h2
      exact done 0 listed a w hi (fun j hj => hall j (by omega)) (by omega)
    | succ m ih =>
      intro listed a w hi hm1
      by_cases hall : ∀ j, j < k' → listed.getD j true = true
      · refine done (m + 1) listed a w hi hall ?_
        have : l.length - k' ≤ μ listed := by
          exact countP_range_ge k' _ l.length fun j h1 h2 => by rw [hi.2.2.2.1 j h1 h2]; rfl
        omega
      · have hex : ∃ j, j < k' ∧ listed.getD j true = false ∧ ∀ q, q < j → listed.getD q true = true := by
          have : ∃ j, j < k' ∧ listed.getD j true = false := by
            apply Classical.byContradiction
            intro hno
            apply hall
            intro j hj
            cases hv : listed.getD j true with
            | true => rfl
            | false => exact absurd ⟨j, hj, hv⟩ hno
          obtain ⟨j, hj⟩ := this
          induction j using Nat.strongRecOn with
          | _ j ihj =>
            by_cases hq : ∀ q, q < j → listed.getD q true = true
            · exact ⟨j, hj.1, hj.2, hq⟩
            · simp only [Classical.not_forall] at hq
              obtain ⟨q, hqj, hq⟩ := hq
              exact ihj q hqj ⟨by omega, by simpa using hq⟩
        obtain ⟨j0, hj0, hv0, hmin⟩ := hex
        have hsz := hi.1
        have hjl : j0 < l.length := by omega
        have hkj : k ≤ j0 := by
          rcases Nat.lt_or_ge j0 k with h' | h'
          · rw [hi.2.2.1 j0 h'] at hv0; cases hv0
          · exact h'
        have hready : j0 ∈ Region.ready .any l.toArray listed := ready_of_edges hv0 (List.getElem?_eq_getElem hjl) (fun x hx => by
          have hxj := hedge j0 _ (List.getElem?_eq_getElem hjl) x hx
          rw [getD_ft (by omega)]
          exact hmin x hxj)
        refine ⟨fun h0 => (by rw [h0] at hready; cases hready), fun i hri => ?_⟩
        obtain ⟨hun, o, ho, hed'⟩ := ready_edges hri
        have hil := (List.getElem?_eq_some_iff.1 ho).1
        have hik : i < k' := by
          rcases Nat.lt_or_ge i k' with h' | h'
          · exact h'
          · have h1 := preds_listed hi.2.1 ho hed' (htail i o h' ho j0 hkj hj0)
            rw [getD_ft (by omega), hv0] at h1
            cases h1
        have hki : k ≤ i := by
          rcases Nat.lt_or_ge i k with h' | h'
          · rw [hi.2.2.1 i h'] at hun; cases hun
          · exact h'
        obtain ⟨q, rfl⟩ : ∃ q, i = k + q := ⟨i - k, by omega⟩
        exact step _ listed a w q hi (by omega) hri fun a' w' hi' => ih _ a' w' hi' (by have := hμ listed (k + q) hil hsz hun; omega)
  refine key m1 listed1 a1 w1 ⟨hsz1, hc1, fun j hj => by rw [hli1 j (by omega), decide_eq_true hj], fun j h1 h2 => by rw [hli1 j h2, decide_eq_false (by omega)], hn1, hd1, g1, st, he1, hs1, ?_, fun t v ht _ => hk1 t v ht, fun i d Q hi hdi _ hl => ?_⟩ ?_
  · have : (Es.map fun e => listed1.getD e false) = Es.map fun _ => false := List.map_congr_left fun e he => by
      obtain ⟨h1, h2⟩ := hEs e he
      rw [getD_ft (by omega), hli1 e (by omega), decide_eq_false (by omega)]
    rw [this]
    exact hI
  · rw [getD_ft (by omega), hli1 (k + i) (by omega), decide_eq_false (by omega)] at hl
    cases hl
  · have h2 : μ listed1 = (List.range l.length).countP fun j => !decide (j < k) := List.countP_congr fun j hj => by rw [hli1 j (List.mem_range.1 hj)]
    rw [h2]
    have h3 : ∀ N, (List.range N).countP (fun j => !decide (j < k)) ≤ N - k := by
      intro N
      induction N with
      | zero => simp
      | succ N ih =>
        rw [List.range_succ, List.countP_append, List.countP_singleton]
        by_cases hN : N < k
        · simp only [hN, decide_true, Bool.not_true, Bool.false_eq_true, if_false]; omega
        · simp only [hN, decide_false, Bool.not_false, if_true]; omega
    have := h3 l.length
    omega
/-- The state so far as bs says, but for what F lets change. -/
def IG (sts : List Bool → Option St) (F : St → St → Prop) (base : St) (bs : List Bool) (s : St) : Prop := ∃ s0, sts bs = some s0 ∧ F s0 s ∧ StLe s base
variable {sts : List Bool → Option St} {F : St → St → Prop} {base : St} {S Es : List Nat} {ops : Array Oper} {Qs : List (AV → Prop)}
theorem AAny.segY {l : List Oper} {k : Nat} (k' : Nat) (S Es : List Nat) (sts : List Bool → Option St) (F : St → St → Prop) (base : St) {Qs : List (AV → Prop)} {st0 : St} (hok : segOk l k k' Es = true) (hS : predSets l [] = S) (h0 : sts (Es.map fun _ => false) = some st0) (hF : F st0 st) (hb : StLe st base)
    (h : DRunG P n (IG sts F base) S Es l.toArray k ((l.drop k).take (k' - k)) Qs T fun T' st' => AAny P n l k' K E T' st') : AAny P n l k K E T st :=
  AAny.seg k' S Es (IG sts F base) Qs hok hS ⟨st0, h0, hF, hb⟩ h
/-- A quiet step. -/
theorem dqY {i : Nat} {o : Oper} {r : List Oper} {d : Tmp} {v : AV} {k : Tmps → St → Prop} (hi : Es.contains i = false := by exact rfl) (hd : dstA n o.dst = some d := by exact rfl) (hw : wantedA ops (see ops o T) o = some true := by exact rfl)
    (h : ∀ st', StLe st' base → AOps P n ops [o] (fun T' st'' => ∃ u, T' = (d, u) :: see ops o T ∧ (u = v ∧ st'' = st')) (fun _ _ _ => False) (see ops o T) st')
    (z : DRunG P n (IG sts F base) S Es ops (i + 1) r Qs ((d, v) :: T) k) : DRunG P n (IG sts F base) S Es ops i (o :: r) ((fun u => u = v) :: Qs) T k := by
  obtain ⟨hd', hdn⟩ := dstA_some hd
  refine ⟨⟨v, rfl⟩, hdn, .inl ⟨hw, fun bs hl _ => ?_⟩, fun u hu => ?_⟩
  · rw [setBit_none Es bs hl hi]
    intro s g w a K' Q' ⟨s0, h1, h2, hle⟩ hs hk hn hK
    refine AOps.single hd' (dstOk_lt hdn d hd') (h s hle) hw hs hk K' Q' (fun rv g' w' u st' he hs' hR ⟨hu, hst⟩ => ?_) hn
    subst hu hst
    exact hK rv g' w' u st' he hs' hR rfl ⟨s0, h1, h2, hle⟩
  · subst hu
    rw [hd']
    exact z
/-- A quiet step that asks nothing. -/
theorem dsY {i : Nat} {o : Oper} {r : List Oper} {d : Tmp} {v : AV} {k : Tmps → St → Prop} (hi : Es.contains i = false := by exact rfl) (hs : step1 ops n base (see ops o T) o = some (d, v) := by exact rfl)
    (z : DRunG P n (IG sts F base) S Es ops (i + 1) r Qs ((d, v) :: T) k) : DRunG P n (IG sts F base) S Es ops i (o :: r) ((fun u => u = v) :: Qs) T k := by
  have hg : goes ops n (see ops o T) o = some d := by
    unfold step1 at hs
    split at hs
    · rename_i h1 h2
      cases hs
      exact h1
    · cases hs
  obtain ⟨hw, hd, hok⟩ := goes_some hg
  have hda : dstA n o.dst = some d := by
    unfold goes at hg
    rw [hw] at hg
    exact hg
  exact dqY hi hda hw (fun st' hle => sm ((step1_glob (n := n) (ops := ops) hle.glob (see ops o T) o).symm.trans hs) (nl ⟨v, rfl, rfl, rfl⟩)) z
def allBits : Nat → List (List Bool)
  | 0 => [[]]
  | k + 1 => (allBits k).flatMap fun bs => [false :: bs, true :: bs]
theorem mem_allBits : ∀ (bs : List Bool), bs ∈ allBits bs.length
  | [] => by simp [allBits]
  | b :: bs => by
    rw [List.length_cons, allBits, List.mem_flatMap]
    exact ⟨bs, mem_allBits bs, by cases b <;> simp⟩
def BAll : List (List Bool) → (List Bool → Prop) → Prop
  | [], _ => True
  | b :: r, p => p b ∧ BAll r p
theorem BAll.get {p : List Bool → Prop} : ∀ {L : List (List Bool)}, BAll L p → ∀ bs ∈ L, p bs
  | b :: r, h, bs, hb => by
    rcases List.mem_cons.1 hb with hb | hb
    · subst hb; exact h.1
    · exact BAll.get h.2 bs hb
/-- A step that writes: out of every state in which it may be next. -/
theorem deY (L : List (List Bool)) {i : Nat} {o : Oper} {r : List Oper} {k : Tmps → St → Prop} (hL : (allBits Es.length).filter (mayBe S Es i) = L) (hd : o.dst = none := by exact rfl) (hw : wantedA ops (see ops o T) o = some true := by exact rfl)
    (h : BAll L fun bs => ∀ s0, sts bs = some s0 → ∃ s1, sts (setBit Es i bs) = some s1 ∧ ∀ s, F s0 s → StLe s base → AOps P n ops [o] (fun T' st'' => T' = see ops o T ∧ F s1 st'' ∧ StLe st'' base) (fun _ _ _ => False) (see ops o T) s)
    (z : DRunG P n (IG sts F base) S Es ops (i + 1) r Qs T k) : DRunG P n (IG sts F base) S Es ops i (o :: r) ((fun _ => True) :: Qs) T k := by
  refine ⟨⟨.bool true, trivial⟩, by rw [hd]; rfl, .inl ⟨hw, fun bs hl hm => ?_⟩, fun u _ => ?_⟩
  · intro s g w a K' Q' ⟨s0, h1, h2, hle⟩ hs hk hn hK
    obtain ⟨s1, h3, h4⟩ := h.get bs (by rw [← hL, List.mem_filter]; exact ⟨by rw [← hl]; exact mem_allBits bs, hm⟩) s0 h1
    refine AOps.singleN (h4 s h2 hle) hw hs hk K' Q' (fun rv g' w' st' he hs' hst => ?_) hn
    exact hK rv g' w' (.lit rv) st' he hs' (.lit rv) trivial ⟨s1, h3, hst⟩
  · rw [hd]
    exact z
theorem dnY {i : Nat} {sN : St} {k : Tmps → St → Prop} (hN : sts (Es.map fun _ => true) = some sN) (h : ∀ s, F sN s → StLe s base → k T s) : DRunG P n (IG sts F base) S Es ops i [] [] T k := by
  intro s ⟨s0, h1, h2, h3⟩
  rw [hN] at h1
  cases h1
  exact h s h2 h3
/-- A part in which nothing is written. -/
theorem AAny.segQ {l : List Oper} {k : Nat} (k' : Nat) {Qs : List (AV → Prop)} (hok : segOk l k k' [] = true)
    (h : DRunG P n (IG (fun _ => some st) (fun a b => b = a) st) (predSets l []) [] l.toArray k ((l.drop k).take (k' - k)) Qs T fun T' st' => AAny P n l k' K E T' st') : AAny P n l k K E T st :=
  AAny.seg k' _ [] _ Qs hok rfl ⟨st, rfl, rfl, .refl _⟩ h
theorem dnQ {i : Nat} {k : Tmps → St → Prop} (h : k T st) : DRunG P n (IG (fun _ => some st) (fun a b => b = a) st) S [] ops i [] [] T k := by
  intro s ⟨s0, h1, h2, _⟩
  cases h1
  cases h2
  exact h
end
end Go.AM
/- Slices that are appended to in place: out of nil, and frozen where they lie. No conditions: definitions and lemmas only. -/
namespace Go.AM
open Go.RowKit (Below)
section
variable {P : Program} {n : Nat} {K : Post} {E : EPost} {T : Tmps} {st : St} {ops : Array Oper} {rest : List Oper}
variable {ty : TypeId} {pos : String} {es : Array Edge} {gd : Option (Nat × Bool)} {d : Tmp} {x y : Operand} {dd : Option Tmp}
theorem append_nil_msl {g : G} {w : World} (hs : Sim g w st) {t e : TypeId} {sz by_ : Nat} {ez : Value} [hu : Und P t (.slice e)] [hie : Inf P e sz by_ ez] (hz : zok sz ez = true) {ty : TypeId} {rows2 : List (List AV)} {tk2 : Tok} {uy : Value}
    (h2 : R g w (.view sz rows2 tk2) uy) (h0 : rows2 ≠ []) (hb : rows2.length * by_ ≤ 140737488355328) (hm : rows2.length ≤ maxLen) :
    ∃ v w' g' o', (Builtin.append_ #[t, t] ty #[.slice none 0 0, uy]).run P w = .ok v w' ∧ Ext g w g' w' ∧ Sim g' w' (st.set o' (.cells e sz rows2)) ∧ R g' w' (.msl o' sz 0 rows2.length) v ∧ st.obj o' = none := by
  obtain ⟨z1, z2, z3, z4⟩ := zok_spec hz
  obtain ⟨inf, i1, i2, i3, i4⟩ := hie.out
  obtain ⟨base2, cap2, f2, rfl, hnil2, hR2, hl2, h12, hcell2, hone2⟩ := src_of h2
  have hpos : 0 < rows2.length := List.length_pos_iff.2 h0
  have hm64 : rows2.length ≤ 9223372036854775807 := by simp only [maxLen] at hm; omega
  obtain ⟨ad, rfl⟩ : ∃ ad, base2 = some ad := by
    cases base2 with
    | none => exact absurd (hnil2 rfl).1 h0
    | some ad => exact ⟨ad, rfl⟩
  subst i2
  have hr := run_append_nil (P := P) w t ty e inf ez hu.out i1 i4 ad rows2.length cap2 (flatV f2 rows2.length inf.size) (flatV_length _ _ _) (hcell2 ad rfl) hpos (by omega)
    (by rw [i3]; omega)
  have hge := grownCap_ge w rows2.length 0 e
  have hgm := grownCap_le_maxLen w rows2.length 0 e hm
  obtain ⟨hed, hsd⟩ := hs.draw
  generalize hcp : grownCap w rows2.length 0 e = cp at hr hge hgm
  generalize harr : (flatV f2 rows2.length inf.size).toArray ++ Builtin.zeroCells ez.cells (cp - rows2.length) = arr' at hr
  have hsize' : arr'.size = cp * inf.size := by
    rw [← harr]
    simp only [Array.size_append, List.size_toArray, flatV_length, size_zeroCells, z1, ← Nat.add_mul]
    congr 1
    omega
  obtain ⟨g', he, hs', hob', hnone⟩ := hsd.newObj (.cells arr' e) (.cells e inf.size rows2) (cp * inf.size) (fun g' he => by
    refine ⟨arr', heap_alloc_new _ _, hsize', Nat.mul_le_mul_right _ hge, hl2, h12, fun i j row c hr hcj => ?_⟩
    have hi : i < rows2.length := (List.getElem?_eq_some_iff.1 hr).1
    have hj : j < inf.size := by rw [← hl2 row (List.mem_of_getElem? hr)]; exact (List.getElem?_eq_some_iff.1 hcj).1
    have hlt := mul_add_lt hi hj
    refine ⟨f2 i j, ?_, ((hR2 i j row c hr hcj).ext hed).ext he⟩
    rw [← harr, ← Array.getElem?_toList]
    simp only [Array.toList_append]
    rw [List.getElem?_append_left (by rw [flatV_length]; exact hlt), flatV_at f2 hi hj])
  refine ⟨_, _, g', g.next, hr, hed.trans he, hs', ?_, hnone⟩
  have := R.msl (g := g') (w := w.drew.alloc (.cells arr' e)) g.next inf.size 0 rows2.length cp w.drew.heap.size (cp * inf.size) hob' hge hgm (by simp)
  simpa using this
/-- A slice that is appended to in place, or nil. -/
def mslot (sz : Nat) (len : Nat) : Option Nat → AV
  | none => .view 0 [] .nil
  | some o => .msl o sz 0 len
def mst (st : St) (e : TypeId) (sz : Nat) (rows : List (List AV)) : Option Nat → St
  | none => st
  | some o => st.set o (.cells e sz rows)
def mfit (st : St) (len : Nat) : Option Nat → Prop
  | none => len = 0
  | some o => st.obj o = none
/-- append in place. -/
theorem apq {t e : TypeId} {sz by_ : Nat} {ez : Value} [hu : Und P t (.slice e)] [hie : Inf P e (sz + 1) by_ ez] {oo : Option Nat} {rows rows2 : List (List AV)} {tk2 : Tok}
    (hg : goes ops n T ⟨dd, .call ⟨.builtin .append, #[x, y], #[t, t]⟩, ty, pos, es, gd⟩ = some d) (hx : ev st T x = some (mslot (sz + 1) rows.length oo)) (hy : ev st T y = some (.view (sz + 1) rows2 tk2)) (hf : mfit st rows.length oo)
    (h0 : rows2 ≠ []) (hz : zok (sz + 1) ez = true) (hb : (rows.length + rows2.length) * by_ ≤ 140737488355328) (hm : rows.length + rows2.length ≤ maxLen)
    (k : ∀ o', st.obj o' = none → AOps P n ops rest K E ((d, .msl o' (sz + 1) 0 (rows.length + rows2.length)) :: T) (st.set o' (.cells e (sz + 1) (rows ++ rows2)))) :
    AOps P n ops (⟨dd, .call ⟨.builtin .append, #[x, y], #[t, t]⟩, ty, pos, es, gd⟩ :: rest) K E T (mst st e (sz + 1) rows oo) := by
  cases oo with
  | none =>
    have hrows : rows = [] := List.eq_nil_of_length_eq_zero hf
    subst hrows
    refine AOps.stepAny hg fun g w a hs hk => ?_
    have h1 := ev_R hs hk hx
    have h2 := ev_R hs hk hy
    generalize hux : a.eval x = ux at h1
    generalize huy : a.eval y = uy at h2
    have hrv : ux = .slice none 0 0 := by
      cases h1 with
      | vnil => rfl
      | vemp _ _ _ hn _ => exact absurd rfl hn
      | view _ _ _ _ _ _ _ _ _ _ _ ht' => simp [TokAt] at ht'
    subst hrv
    obtain ⟨v, w', g', o', hr, he, hs', hR, hn⟩ := append_nil_msl (P := P) hs (t := t) (ty := ty) hz h2 h0 (by simpa using hb) (by simpa using hm)
    exact ⟨v, g', w', _, _, by simp [execOp, resolve, invoke, builtin, hux, huy, hr], he, hs', by simpa using hR, k o' hn⟩
  | some o =>
    have hfo : st.obj o = none := hf
    have hx' : ev (mst st e (sz + 1) rows (some o)) T x = some (.msl o (sz + 1) 0 rows.length) := (ev_glob (s := mst st e (sz + 1) rows (some o)) (s' := st) rfl T x).trans hx
    have hy' : ev (mst st e (sz + 1) rows (some o)) T y = some (.view (sz + 1) rows2 tk2) := (ev_glob (s := mst st e (sz + 1) rows (some o)) (s' := st) rfl T y).trans hy
    refine apm hg hx' hy' (St.obj_set _ _ _) (Nat.le_refl _) h0 hz hb hm fun o' ho' => ?_
    have hn : st.obj o' = none := by
      rcases ho' with h | h
      · rw [h]; exact hfo
      · by_cases e : o' = o
        · rw [e]; exact hfo
        · have h' : (st.set o (.cells _ (sz + 1) rows)).obj o' = none := h
          rwa [St.obj_set_ne e] at h'
    rw [List.take_of_length_le (Nat.le_refl _)]
    exact AOps.weaken (TLe.refl _) (StLe.regrow hfo) (k o' hn)
/-- A slice of a mutable object is frozen where it lies. -/
theorem Sim.frzIn {g : G} {w : World} (hs : Sim g w st) {o o' s i j sz lo len : Nat} {oty oty' : TypeId} {rows rows' : List (List AV)} {row : List AV} (hne : o ≠ o') (ho : st.obj o = some (.cells oty s rows)) (hr : rows[i]? = some row) (hj : row[j]? = some (.msl o' sz lo len))
    (ho' : st.obj o' = some (.cells oty' sz rows')) (hl : lo + len ≤ rows'.length) :
    ∃ g', Ext g w g' w ∧ Sim g' w ((st.drop o').set o (.cells oty s (rows.set i (row.set j (.view sz ((rows'.drop lo).take len) .shared))))) := by
  obtain ⟨b, m, hb, _, _, _⟩ := hs.objs o _ ho
  obtain ⟨_, ⟨arr, ha, hasz, hml, hlr, h1, hc⟩, _⟩ := hs.objOf ho hb
  obtain ⟨v0, hv0, hR0⟩ := hc i j row _ hr hj
  obtain ⟨g', he, hs', hRv⟩ := hR0.frozen hs ho' hl
  have hoo : (st.drop o').obj o = some (.cells oty s rows) := by rw [St.obj_drop_ne hne]; exact ho
  have hb' := he.obj o _ hb
  have hil : i < rows.length := (List.getElem?_eq_some_iff.1 hr).1
  have hjl : j < row.length := (List.getElem?_eq_some_iff.1 hj).1
  obtain ⟨_, ⟨arr2, ha2, hasz2, hml2, hlr2, h12, hc2⟩, _⟩ := hs'.objOf hoo hb'
  rw [ha] at ha2
  cases ha2
  obtain ⟨he2, hs2⟩ := hs'.write (c' := .cells oty s (rows.set i (row.set j (.view sz ((rows'.drop lo).take len) .shared)))) hoo hb' w rfl rfl rfl rfl (fun _ _ => rfl) (fun _ => by
    refine ⟨arr, ha, hasz, by simpa using hml, fun r hm => ?_, fun r hm => ?_, fun i' j' r c hr' hc' => ?_⟩
    · rcases List.mem_or_eq_of_mem_set hm with h | h
      · exact hlr r h
      · rw [h, List.length_set]; exact hlr row (List.mem_of_getElem? hr)
    · rcases List.mem_or_eq_of_mem_set hm with h | h
      · exact h1 r h
      · subst h
        intro c hcm
        rcases List.mem_or_eq_of_mem_set hcm with h2 | h2
        · exact h1 row (List.mem_of_getElem? hr) c h2
        · subst h2; rfl
    · by_cases hi : i' = i
      · subst hi
        rw [List.getElem?_set_self hil] at hr'
        cases hr'
        by_cases hjj : j' = j
        · subst hjj
          rw [List.getElem?_set_self hjl] at hc'
          cases hc'
          exact ⟨v0, hv0, hRv⟩
        · rw [List.getElem?_set_ne (Ne.symm hjj)] at hc'
          exact hc2 i' j' row c hr hc'
      · rw [List.getElem?_set_ne (Ne.symm hi)] at hr'
        exact hc2 i' j' r c hr' hc')
  exact ⟨g', he, hs2⟩
theorem AWP.frzIn {c : Code} {o o' s i j sz lo len : Nat} {oty oty' : TypeId} {rows rows' : List (List AV)} {row : List AV} (hne : o ≠ o') (ho : st.obj o = some (.cells oty s rows)) (hr : rows[i]? = some row) (hj : row[j]? = some (.msl o' sz lo len))
    (ho' : st.obj o' = some (.cells oty' sz rows')) (hl : lo + len ≤ rows'.length)
    (h : AWP P n c K E T ((st.drop o').set o (.cells oty s (rows.set i (row.set j (.view sz ((rows'.drop lo).take len) .shared)))))) : AWP P n c K E T st :=
  AWP.ghost fun g w a hs hk => by
    obtain ⟨g', he, hs'⟩ := hs.frzIn hne ho hr hj ho' hl
    exact ⟨g', T, _, he, hs', hk.ext he, h⟩
/-- The length of a slice that is appended to in place, or nil. -/
theorem lnq {t u : TypeId} {e : TypeId} [hu : Und P t (.slice e)] {sz len : Nat} {oo : Option Nat}
    (hg : goes ops n T ⟨dd, .call ⟨.builtin .len, #[x], #[t]⟩, u, pos, es, gd⟩ = some d) (hx : ev st T x = some (mslot sz len oo)) (h0 : oo = none → len = 0)
    (k : AOps P n ops rest K E ((d, .int .i64 len) :: T) st) : AOps P n ops (⟨dd, .call ⟨.builtin .len, #[x], #[t]⟩, u, pos, es, gd⟩ :: rest) K E T st := by
  cases oo with
  | none =>
    have h := h0 rfl
    subst h
    exact lnv hg hx k
  | some o => exact lnm hg hx k
/-- Nothing but the package-level variables. -/
def St.bareOf (s : St) : St := { obj := fun _ => none, tok := fun _ => false, glob := s.glob }
theorem StLe.bare {s s' : St} (h : s'.glob = s.glob) : StLe s' s.bareOf := ⟨fun _ _ h => (by cases h), fun _ h => (by cases h), h.symm⟩
theorem absV_agg {cs : Array Value} (h : cs.toList.all Value.oneCell' = true) : absV (.agg cs) = .agg (cs.toList.map abs1) := by
  have h' : cs.all Value.oneCell' = true := by rw [← Array.all_toList]; exact h
  simp only [absV, h', cond_true]
/-- A literal of a slice with one constant element, not appended to. -/
theorem bz1 {t e : TypeId} {esz eby : Nat} {ez : Value} {cs : Array Value} {row : List AV} [hu : Und P t (.slice e)] [hie : Inf P e (esz + 1) eby ez] (hg : goes ops n T ⟨dd, .buildSlice t 1 #[(0, .const (.agg cs))], ty, pos, es, gd⟩ = some d := by exact rfl)
    (hz : zok (esz + 1) ez = true := by exact rfl) (hsm : Nat.ble (1 * (esz + 1)) 16777216 = true := by exact rfl) (hc : cs.toList.all Value.oneCell' = true := by exact rfl) (hr : cs.toList.map abs1 = row := by exact rfl) (hl : Nat.beq row.length (esz + 1) = true := by exact rfl)
    (z : AOps P n ops rest K E ((d, .view (esz + 1) [row] .shared) :: T) st) : AOps P n ops (⟨dd, .buildSlice t 1 #[(0, .const (.agg cs))], ty, pos, es, gd⟩ :: rest) K E T st := by
  refine bs1 (v := .agg row) hg hz hsm ?_ hl rfl z
  rw [← hr]
  exact congrArg some (absV_agg hc)
end
end Go.AM
/- Parts of a region that are drawn, what is done told with the values it gave. Empty literals. No conditions: definitions and lemmas only. -/
namespace Go.AM
open Go.RowKit (Below)
section
variable {P : Program} {n : Nat} {K : Post} {E : EPost} {T : Tmps} {st : St}
def setV (Es : List Nat) (i : Nat) (v : AV) (vs : List (Option AV)) : List (Option AV) := (Es.zip vs).map fun p => bif Nat.beq p.1 i then some v else p.2
/-- What is done ahead of operation i gave the values told. -/
def LinkV (Es : List Nat) (i : Nat) (vals : Nat → AV) (vs : List (Option AV)) : Prop := ∀ p ∈ Es.zip vs, p.1 < i → ∀ u, p.2 = some u → u = vals p.1
def StepV (P : Program) (n : Nat) (I : List (Option AV) → St → Prop) (S Es : List Nat) (i : Nat) (ops : Array Oper) (T : Tmps) (vals : Nat → AV) (o : Oper) (Q : AV → Prop) : Prop :=
  (wantedA ops T o = some true ∧ ∀ vs : List (Option AV), vs.length = Es.length → mayBe S Es i (vs.map Option.isSome) = true → LinkV Es i vals vs →
    ∀ st g w a (K' : Act → World → Prop) (Q' : Exit → Act → World → Prop), I vs st → Sim g w st → Known g w T a → a.tmps.size = n →
      (∀ rv g' w' v st1, Ext g w g' w' → Sim g' w' st1 → R g' w' v rv → Q v → I (setV Es i v vs) st1 → K' (a.put o.dst rv) w') → o.wp P a w K' Q') ∨ (wantedA ops T o = some false ∧ Q (.lit undef) ∧ Es.contains i = false)
/-- The walk of a part in the text's order; behind it k. -/
def DRunV (P : Program) (n : Nat) (I : List (Option AV) → St → Prop) (S Es : List Nat) (ops : Array Oper) : Nat → List Oper → List (AV → Prop) → Tmps → (Nat → AV) → (Tmps → St → Prop) → Prop
  | _, [], [], T, vals, k => ∀ st, I (Es.map fun e => some (vals e)) st → k T st
  | i, o :: r, Q :: Qs, T, vals, k => (∃ u, Q u) ∧ dstOk o.dst n = true ∧ StepV P n I S Es i ops (see ops o T) vals o Q ∧ ∀ u, Q u → DRunV P n I S Es ops (i + 1) r Qs (T.put o.dst u) (fun j => bif Nat.beq j i then u else vals j) k
  | _, _, _, _, _, _ => False
theorem DRunV.out {I : List (Option AV) → St → Prop} {S Es : List Nat} {ops : Array Oper} {k : Tmps → St → Prop} (b : Nat) (us : Nat → AV) (l : List Oper) : ∀ (r : List Oper) (Qs : List (AV → Prop)) (i0 : Nat) (vals : Nat → AV), (∀ (i : Nat) (o : Oper), r[i]? = some o → l[i0 + i]? = some o) → (∀ (i : Nat) (Q : AV → Prop), Qs[i]? = some Q → Q (us (b + (i0 + i)))) →
    (∀ j, b ≤ j → j < b + i0 → vals j = us j) → (∀ e ∈ Es, b ≤ e ∧ e < b + i0 + r.length) →
    DRunV P n I S Es ops (b + i0) r Qs (ents l (fun i => us (b + i)) i0 ++ T) vals k → Qs.length = r.length ∧ (∀ st, I (Es.map fun e => some (us e)) st → k (ents l (fun i => us (b + i)) (i0 + r.length) ++ T) st) ∧
      ∀ i o, r[i]? = some o → ∃ Q, dstOk o.dst n = true ∧ Qs[i]? = some Q ∧ StepV P n I S Es (b + (i0 + i)) ops (see ops o (ents l (fun i => us (b + i)) (i0 + i) ++ T)) us o Q
  | [], [], i0, vals, _, _, hv, hE, h => ⟨rfl, fun st hI => by
      have e : (Es.map fun e => some (vals e)) = Es.map fun e => some (us e) := List.map_congr_left fun e he => by
        obtain ⟨h1, h2⟩ := hE e he
        rw [hv e h1 (by simpa using h2)]
      have h' : ∀ st, I (Es.map fun e => some (vals e)) st → k (ents l (fun i => us (b + i)) i0 ++ T) st := h
      rw [e] at h'
      exact h' st hI, fun i o ho => by simp at ho⟩
  | [], _ :: _, _, _, _, _, _, _, h => h.elim
  | _ :: _, [], _, _, _, _, _, _, h => h.elim
  | o :: r, Q :: Qs, i0, vals, hl, hq, hv, hE, h => by
    obtain ⟨_, h2, h4, h5⟩ := h
    have h6 := h5 (us (b + i0)) (hq 0 Q rfl)
    have hl0 : l[i0]? = some o := by simpa using hl 0 o rfl
    have he : (ents l (fun i => us (b + i)) i0 ++ T).put o.dst (us (b + i0)) = ents l (fun i => us (b + i)) (i0 + 1) ++ T := by
      rw [ents, hl0]
      simp only [Option.bind_some]
      cases o.dst <;> rfl
    rw [he, Nat.add_assoc] at h6
    obtain ⟨a1, a2, a3⟩ := DRunV.out b us l r Qs (i0 + 1) _ (fun i o' ho' => by have := hl (i + 1) o' (by simpa using ho'); rwa [show i0 + (i + 1) = i0 + 1 + i by omega] at this) (fun i Q' hQ' => by have := hq (i + 1) Q' (by simpa using hQ'); rwa [show i0 + (i + 1) = i0 + 1 + i by omega] at this)
      (fun j h1 h2 => by
        by_cases hj : j = b + i0
        · subst hj; rw [nbeq_self]; rfl
        · rw [nbeq_ne hj]; exact hv j h1 (by omega)) (fun e he => by have := hE e he; simp only [List.length_cons] at this; omega) h6
    refine ⟨by simp [a1], by rw [List.length_cons, show i0 + (r.length + 1) = i0 + 1 + r.length by omega]; exact a2, fun i o' ho' => ?_⟩
    cases i with
    | zero =>
      simp only [List.getElem?_cons_zero, Option.some.injEq] at ho'
      subst ho'
      refine ⟨Q, h2, rfl, ?_⟩
      rcases h4 with ⟨hw, h4⟩ | h4
      · exact .inl ⟨hw, fun vs hl hm hlk => h4 vs hl hm fun p hp hlt u hu => by
          have hpe : p.1 ∈ Es := (List.of_mem_zip hp).1
          rw [hv p.1 (hE p.1 hpe).1 hlt]
          exact hlk p hp hlt u hu⟩
      · exact .inr h4
    | succ i =>
      obtain ⟨Q', b1, b2, b3⟩ := a3 i o' (by simpa using ho')
      exact ⟨Q', b1, by simpa using b2, by rwa [show i0 + 1 + i = i0 + (i + 1) by omega] at b3⟩
theorem DRunV.fits {I : List (Option AV) → St → Prop} {S Es : List Nat} {ops : Array Oper} {k : Tmps → St → Prop} : ∀ (r : List Oper) (Qs : List (AV → Prop)) (i0 : Nat) (T : Tmps) (vals : Nat → AV), DRunV P n I S Es ops i0 r Qs T vals k → ∀ (i : Nat) (Q : AV → Prop), Qs[i]? = some Q → ∃ u, Q u
  | [], [], _, _, _, _, i, Q, h => by simp at h
  | [], _ :: _, _, _, _, h, _, _, _ => h.elim
  | _ :: _, [], _, _, _, h, _, _, _ => h.elim
  | o :: r, Q0 :: Qs, i0, T, vals, h, i, Q, hq => by
    obtain ⟨⟨u, hu⟩, h2, h4, h5⟩ := h
    cases i with
    | zero => simp at hq; subst hq; exact ⟨u, hu⟩
    | succ i => exact DRunV.fits r Qs _ _ _ (h5 u hu) i Q (by simpa using hq)
def valsOf (Es : List Nat) (listed : Array Bool) (us : Nat → AV) : List (Option AV) := Es.map fun e => bif listed.getD e false then some (us e) else none
theorem valsOf_some (Es : List Nat) (listed : Array Bool) (us : Nat → AV) : (valsOf Es listed us).map Option.isSome = Es.map fun e => listed.getD e false := by
  unfold valsOf
  rw [List.map_map]
  refine List.map_congr_left fun e _ => ?_
  show Option.isSome (bif listed.getD e false then some (us e) else none) = _
  cases listed.getD e false <;> rfl
theorem setV_of {listed : Array Bool} {i : Nat} (hi : i < listed.size) (us : Nat → AV) (v : AV) : ∀ (Es : List Nat), valsOf Es (listed.setIfInBounds i true) (fun j => bif Nat.beq j i then v else us j) = setV Es i v (valsOf Es listed us)
  | [] => rfl
  | e :: Es => by
    have := setV_of hi us v Es
    unfold setV valsOf at this ⊢
    rw [List.map_cons, List.map_cons, List.zip_cons_cons, List.map_cons, this]
    congr 1
    by_cases h : i = e
    · subst h
      rw [Array.getD_eq_getD_getElem?, Array.getElem?_setIfInBounds_self_of_lt hi]
      simp only [nbeq_self, Option.getD_some, cond_true]
    · rw [getD_set_ne false h]
      simp only [nbeq_ne (Ne.symm h), cond_false]
theorem setV_none {i : Nat} {v : AV} : ∀ (Es : List Nat) (vs : List (Option AV)), vs.length = Es.length → Es.contains i = false → setV Es i v vs = vs
  | [], [], _, _ => rfl
  | [], _ :: _, h, _ => by simp at h
  | _ :: _, [], h, _ => by simp at h
  | e :: Es, b :: bs, h, hc => by
    rw [List.contains_cons, Bool.or_eq_false_iff] at hc
    have := setV_none (v := v) Es bs (by simpa using h) hc.2
    unfold setV at this ⊢
    rw [List.zip_cons_cons, List.map_cons, this, nbeq_ne (fun h => by subst h; simp at hc), cond_false]
variable {J : List (Option AV) → St → Prop} {base : St} {S Es : List Nat} {ops : Array Oper} {Qs : List (AV → Prop)} {vals : Nat → AV}
variable {rest : List Oper} {ty : TypeId} {pos : String} {es : Array Edge} {gd : Option (Nat × Bool)} {d : Tmp} {x y : Operand} {dd : Option Tmp}
end
end Go.AM
/- An element of an array value, the elements structs; branches that end normally joined. No conditions: lemmas only. -/
namespace Go.AM
section
variable {P : Program} {n : Nat} {K : Post} {E : EPost} {T : Tmps} {st : St} {ops : Array Oper} {rest : List Oper} {d : Tmp} {dd : Option Tmp} {x y : Operand} {ty : TypeId} {pos : String} {es : Array Edge} {gd : Option (Nat × Bool)}
end
/-- What holds in between, of the shape of some y; behind a step of a sequence. -/
theorem AWP.cutK {P : Program} {n : Nat} {K : Post} {E E1 : EPost} {T : Tmps} {st : St} {c c' : Code} {α : Type} (sh : α → Tmps) (ss : α → St) (inv : α → Prop) (h : AWP P n c (fun T' st' => ∃ y, inv y ∧ TLe T' (sh y) ∧ StLe st' (ss y)) E1 T st)
    (k : ∀ y, inv y → AWP P n c' K E (sh y) (ss y)) : AWP P n c (AWP P n c' K E) E1 T st :=
  h.mono (fun _ _ ⟨y, h1, h2, h3⟩ => AWP.weaken h2 h3 (k y h1)) (fun _ _ _ h => h)
section
variable {P : Program} {n : Nat} {T : Tmps} {base : St} {ops : Array Oper} {sts : List St} {Es : List Nat}
end
end Go.AM
/- Arguments whose every part is no larger than memory; a law's contract over them. No conditions: definitions and lemmas only. -/
namespace Go.AM
open Go.RowKit (Below shut_bool)
open Go.ChangeShapes Go.WideShapes Go.ChangeAt

/-- Cells of a type, avs abstract values; no string and no slice larger than memory. -/
def HasTyW (P : Program) : Nat → TypeId → List AV → Prop
  | 0, _, _ => False
  | n + 1, t, cs => match P.underlying t with
    | some .bool => ∃ b, cs = [.bool b]
    | some (.int k) => ∃ x, cs = [.int k x] ∧ (Lit.int k x).wf = true
    | some .string => ∃ l : List UInt8, cs = [.str l] ∧ l.length ≤ reachBytes
    | some (.slice e) => ∃ rows : List (List AV), cs = [.view (P.cellsOf e) rows .shared] ∧ rows.length * P.bytesOf e ≤ reachBytes ∧ ∀ row ∈ rows, HasTyW P n e row
    | some (.struct fs) => cs.length = P.cellsOf t ∧ ∀ f ∈ fs.toList, HasTyW P n f.type ((cs.drop f.offset).take (P.cellsOf f.type))
    | some (.array m e) => cs.length = P.cellsOf t ∧ ∀ i, i < m → HasTyW P n e ((cs.drop (i * P.cellsOf e)).take (P.cellsOf e))
    | _ => False
section
variable {H : Type} {enc : TypeId × Value → H} {P : Program}
/-- An argument of a type, its parts no larger than memory. -/
def ArgTyW (P : Program) (t : TypeId) (a : AV) : Prop := ∃ fuel cs, HasTyW P fuel t cs ∧ ((∃ td, P.underlying t = some td ∧ aggD td = true ∧ a = .agg cs) ∨ (∃ td, P.underlying t = some td ∧ aggD td = false ∧ cs = [a]))
theorem HasTyW.one {fuel : Nat} {t : TypeId} {cs : List AV} (h : HasTyW P fuel t cs) {td : TypeDesc} (hu : P.underlying t = some td) (ha : aggD td = false) : ∃ a, cs = [a] ∧ a.cells = [a] := by
  cases fuel with
  | zero => cases h
  | succ n =>
    unfold HasTyW at h
    rw [hu] at h
    cases td <;> simp only [aggD, reduceCtorEq] at ha h
    · obtain ⟨b, rfl⟩ := h; exact ⟨_, rfl, rfl⟩
    · obtain ⟨x, rfl, _⟩ := h; exact ⟨_, rfl, rfl⟩
    · obtain ⟨l, rfl, _⟩ := h; exact ⟨_, rfl, rfl⟩
    · obtain ⟨rows, rfl, _⟩ := h; exact ⟨_, rfl, rfl⟩
end
end Go.AM
/- A law's arguments whose parts are no larger than memory, opened by their types. No conditions: lemmas only. -/
namespace Go.AM
section
variable {P : Program} {t : TypeId} {a : AV} {n : Nat} {cs : List AV}
theorem HasTyW.field (h : HasTyW P (n + 1) t cs) (f : Nat) {off : Nat} {ft : TypeId} [hf : Fld P t f off ft] : HasTyW P n ft ((cs.drop off).take (P.cellsOf ft)) := by
  obtain ⟨fs, fld, h1, h2, h3, h4⟩ := hf.out
  unfold HasTyW at h
  rw [h1] at h
  have hm : fld ∈ fs.toList := by
    rw [← Array.getElem?_toList] at h2
    exact List.mem_of_getElem? h2
  have := h.2 fld hm
  rw [h3, h4] at this
  exact this
theorem HasTyW.len {fs : Array Field} (h : HasTyW P (n + 1) t cs) (hu : P.underlying t = some (.struct fs)) : cs.length = P.cellsOf t := by
  unfold HasTyW at h
  rw [hu] at h
  exact h.1
theorem HasTyW.int {k : IntKind} (h : HasTyW P n t cs) (hu : P.underlying t = some (.int k)) : ∃ x, cs = [.int k x] ∧ (Lit.int k x).wf = true := by
  cases n with
  | zero => cases h
  | succ n =>
    unfold HasTyW at h
    rw [hu] at h
    exact h
theorem HasTyW.str (h : HasTyW P n t cs) (hu : P.underlying t = some .string) : ∃ l : List UInt8, cs = [.str l] ∧ l.length ≤ 140737488351232 := by
  cases n with
  | zero => cases h
  | succ n =>
    unfold HasTyW at h
    rw [hu] at h
    exact h
theorem HasTyW.slice {e : TypeId} (h : HasTyW P n t cs) (hu : P.underlying t = some (.slice e)) : ∃ m rows, n = m + 1 ∧ cs = [.view (P.cellsOf e) rows .shared] ∧ rows.length * P.bytesOf e ≤ 140737488351232 ∧ ∀ row ∈ rows, HasTyW P m e row := by
  cases n with
  | zero => cases h
  | succ n =>
    unfold HasTyW at h
    rw [hu] at h
    obtain ⟨rows, h1, h2, h3⟩ := h
    exact ⟨n, rows, rfl, h1, h2, h3⟩
theorem ArgTyW.one {td : TypeDesc} (h : ArgTyW P t a) (hu : P.underlying t = some td) (ha : aggD td = false) : ∃ fuel, HasTyW P fuel t [a] := by
  obtain ⟨fuel, cs, h1, h2⟩ := h
  rcases h2 with ⟨td', hu', ha', _⟩ | ⟨_, _, _, rfl⟩
  · rw [hu] at hu'
    cases hu'
    rw [ha] at ha'
    cases ha'
  · exact ⟨fuel, h1⟩
theorem ArgTyW.agg {td : TypeDesc} (h : ArgTyW P t a) (hu : P.underlying t = some td) (ha : aggD td = true) : ∃ fuel cs, a = .agg cs ∧ HasTyW P fuel t cs := by
  obtain ⟨fuel, cs, h1, h2⟩ := h
  rcases h2 with ⟨td', hu', ha', e⟩ | ⟨td', hu', ha', _⟩
  · exact ⟨fuel, cs, e, h1⟩
  · rw [hu] at hu'
    cases hu'
    rw [ha] at ha'
    cases ha'
end
end Go.AM
/- Panics, a deferred function that recovers, values of interface types. No conditions: lemmas only. -/
namespace Go.AM
open Go.RowKit (Below)
section
variable {P : Program} {n : Nat} {K : Post} {E : EPost} {T : Tmps} {st : St} {ops : Array Oper} {rest : List Oper}
variable {ty : TypeId} {pos : String} {es : Array Edge} {gd : Option (Nat × Bool)} {d : Tmp} {x y : Operand} {dd : Option Tmp}

/-- A panic. -/
theorem pnk {t : TypeId} {v : AV} (hw : wantedA ops T ⟨none, .panic x, ty, pos, es, gd⟩ = some true) (hx : ev st T x = some (.iface t v))
    (h : E (.panic (.iface t v)) T st) : AOps P n ops (⟨none, .panic x, ty, pos, es, gd⟩ :: rest) K E T st := by
  intro g w a hs hk hn
  have h1 := ev_R hs hk hx
  unfold wpList
  rw [wanted_of hk hw, if_pos rfl]
  left
  generalize hu : a.eval x = u at h1
  cases h1 with
  | iface _ _ rv hr =>
    have hrun : (execOp a.eval ⟨none, .panic x, ty, pos, es, gd⟩).run P w = .halt (.panic (.iface t rv)) w := by
      show Sem.run P (Instr.panic (a.eval x) >>= fun z => pure (Next.value z)) w = _
      rw [hu]
      rfl
    unfold Oper.wp
    rw [hrun]
    exact ⟨hn, rfl, g, T, st, .refl _ _, hs, hk, _, _, rfl, .iface t v rv hr, h⟩

def noIf : TypeDesc → Bool
  | .interface _ => false
  | _ => true
theorem conc {t : TypeId} {td : TypeDesc} [hq : Und P t td] (h : noIf td = true) : P.concrete t = true := by
  unfold Program.concrete
  rw [hq.out]
  cases td <;> first | rfl | cases h
/-- A value of an interface type. -/
theorem mif {t : TypeId} {v : AV} {td : TypeDesc} [hq : Und P t td] (hg : goes ops n T ⟨dd, .makeInterface t x, ty, pos, es, gd⟩ = some d) (hc : noIf td = true) (hx : ev st T x = some v)
    (h : AOps P n ops rest K E ((d, .iface t v) :: T) st) : AOps P n ops (⟨dd, .makeInterface t x, ty, pos, es, gd⟩ :: rest) K E T st := by
  obtain ⟨hw, hd, hok⟩ := goes_some hg
  simp only at hd
  subst hd
  refine AOps.pure hw hok _ (fun g w a' hs hk => ?_) h
  have h1 := ev_R hs hk hx
  exact ⟨.iface t (a'.eval x), by simp [execOp, run_makeInterface w t _ (conc hc)], .iface t v _ h1⟩

theorem eqI_nil {w : World} {t : TypeId} {ms} (hu : P.underlying t = some (.interface ms)) (k : Nat) : (Op.equalIn (k + 1) t .nilIface .nilIface).run P w = .ok true w := by
  simp [Op.equalIn, run_underlying hu]
theorem eqI_some {w : World} {t t' : TypeId} {v : Value} {ms} (hu : P.underlying t = some (.interface ms)) (k : Nat) : (Op.equalIn (k + 1) t (.iface t' v) .nilIface).run P w = .ok false w := by
  simp [Op.equalIn, run_underlying hu]
/-- Is it nil? -/
theorem neI {t u : TypeId} {ms} {v : AV} {b : Bool} [hq : Und P t (.interface ms)] (hg : goes ops n T ⟨dd, .binOp .neq t x (.const .nilIface) u, ty, pos, es, gd⟩ = some d)
    (hx : ev st T x = some v) (hv : (v = .lit .nilIface ∧ b = false) ∨ (∃ t' v', v = .iface t' v' ∧ b = true))
    (h : AOps P n ops rest K E ((d, .bool b) :: T) st) : AOps P n ops (⟨dd, .binOp .neq t x (.const .nilIface) u, ty, pos, es, gd⟩ :: rest) K E T st := by
  have hu := hq.out
  obtain ⟨hw, hd, hok⟩ := goes_some hg
  simp only at hd
  subst hd
  refine AOps.pure hw hok _ (fun g w a' hs hk => ?_) h
  have h1 := ev_R hs hk hx
  generalize hu' : a'.eval x = u1 at h1
  have hrun : ∀ u1 b, (Op.equalIn (9999 + 1) t u1 .nilIface).run P w = .ok b w → (eqGuard .neq t x (.const .nilIface) u1 .nilIface).run P w = .ok () w → (∀ z, binOp .neq t u1 .nilIface = z → z = (do pure (.bool (!(← Op.equal t u1 .nilIface))))) →
      a'.eval x = u1 → (execOp a'.eval ⟨some d, .binOp .neq t x (.const .nilIface) u, ty, pos, es, gd⟩).run P w = .ok (.value (.bool (!b))) w := by
    intro u1 b e1 e2 e3 e4
    show Sem.run P ((do eqGuard .neq t x (.const .nilIface) (a'.eval x) .nilIface; binOp .neq t (a'.eval x) .nilIface) >>= fun z => pure (Next.value z)) w = _
    rw [e4, e3 _ rfl]
    simp only [Sem.run_bind, e2, Result.andThen_ok]
    show ((Sem.run P (Op.equalIn (9999 + 1) t u1 .nilIface) w).andThen _).andThen _ = _
    rw [e1]
    rfl
  rcases hv with ⟨rfl, rfl⟩ | ⟨t', v', rfl, rfl⟩
  · cases h1
    exact ⟨.bool false, hrun .nilIface true (eqI_nil hu 9999) (by unfold eqGuard; cases x <;> rfl) (fun z h => h ▸ rfl) hu', .bool _⟩
  · cases h1 with
    | iface _ _ rv hr =>
      exact ⟨.bool true, hrun (.iface t' rv) false (eqI_some hu 9999) (by unfold eqGuard; cases x <;> rfl) (fun z h => h ▸ rfl) hu', .bool _⟩

/-- A type assertion that holds. -/
theorem tas {t u : TypeId} {v : AV} {td : TypeDesc} [hq : Und P t td] (hg : goes ops n T ⟨dd, .typeAssert x u t true, ty, pos, es, gd⟩ = some d) (hc : noIf td = true) (hx : ev st T x = some (.iface t v))
    (h : AOps P n ops rest K E ((d, .tuple [v, .bool true]) :: T) st) : AOps P n ops (⟨dd, .typeAssert x u t true, ty, pos, es, gd⟩ :: rest) K E T st := by
  obtain ⟨hw, hd, hok⟩ := goes_some hg
  simp only at hd
  subst hd
  refine AOps.pure hw hok _ (fun g w a' hs hk => ?_) h
  have h1 := ev_R hs hk hx
  generalize hu' : a'.eval x = u1 at h1
  cases h1 with
  | iface _ _ rv hr =>
    refine ⟨.tuple #[rv, .bool true], ?_, .tuple _ _ rfl (fun i c v hc hv => ?_)⟩
    · have hc := conc (P := P) (t := t) hc
      unfold Program.concrete at hc
      cases hd : P.underlying t with
      | none => simp [hd] at hc
      | some d => cases d <;> first | (simp [hd] at hc; done) | simp [execOp, hu', Instr.typeAssert, run_underlying hd]
    · match i with
      | 0 => simp at hc hv; subst hc; subst hv; exact hr
      | 1 => simp at hc hv; subst hc; subst hv; exact .bool _
      | i + 2 => simp at hc
/-- A call that may panic. -/
theorem clq {f : FuncId} [hf : GoFun P f] {args : Array Operand} {tys : Array TypeId} {avs : List AV} {Rt RP : AV → St → Prop}
    (hg : goes ops n T ⟨dd, .call ⟨.value (.func f), args, tys⟩, ty, pos, es, gd⟩ = some d) (ha : evs st T args.toList = some avs)
    (hc : ACalls P f avs st Rt RP) (hp : ∀ v st', RP v st' → E (.panic v) T st') (h : ∀ v st', Rt v st' → AOps P n ops rest K E ((d, v) :: T) st') :
    AOps P n ops (⟨dd, .call ⟨.value (.func f), args, tys⟩, ty, pos, es, gd⟩ :: rest) K E T st := by
  obtain ⟨hw, hd, hok⟩ := goes_some hg
  simp only at hd
  subst hd
  exact AOps.callFn hw hok ha hc h hp
/-- A call of a function value that may panic. -/
theorem clcq {f : FuncId} [hf : GoFun P f] {args : Array Operand} {tys : Array TypeId} {avs ds : List AV} {Rt RP : AV → St → Prop}
    (hg : goes ops n T ⟨dd, .call ⟨.value x, args, tys⟩, ty, pos, es, gd⟩ = some d) (hx : ev st T x = some (.func (.func f) [] ds)) (ha : evs st T args.toList = some avs)
    (hc : ACalls P f (avs ++ ds) st Rt RP) (hp : ∀ v st', RP v st' → E (.panic v) T st') (h : ∀ v st', Rt v st' → AOps P n ops rest K E ((d, v) :: T) st') :
    AOps P n ops (⟨dd, .call ⟨.value x, args, tys⟩, ty, pos, es, gd⟩ :: rest) K E T st := by
  obtain ⟨hw, hd, hok⟩ := goes_some hg
  simp only at hd
  subst hd
  exact AOps.callC hx hw hok ha hc h hp
end

/-! ### A deferred function -/

/-- What a deferred function does, entered as its caller returns (none) or panics (some). -/
def ADef (P : Program) (f : FuncId) (caps : List AV) (st : St) (pv : Option AV) (Q : St → Prop) : Prop :=
  ∀ g w (rcaps : Array Value), Sim g w st → caps.length = rcaps.size → (∀ (i : Nat) c v, caps[i]? = some c → rcaps[i]? = some v → R g w c v) →
    ∀ u, (match pv with | none => u = .returning | some pv => ∃ v, u = .panicking [{ v := v, recovered := false }] ∧ R g w pv v) →
    CallsD P f rcaps u w fun e u' w' => (∃ rv, e = .returned rv) ∧ settle u' = .returning ∧ ∃ g' st', Ext g w g' w' ∧ Sim g' w' st' ∧ Q st'

section
variable {P : Program} {n : Nat}

theorem ADef.of_body {f : FuncId} {fn : Func} {id : Nat} {d1 d2 : Tmp} {tys : Array TypeId} {t1 t2 : TypeId} {p1 p2 : String} {e1 e2 : Array Edge} {c : Code} {caps : List AV} {st : St} {pv : Option AV} {Q : St → Prop}
    (hf : P.funcs[f]? = some fn)
    (hb : fn.body = some (.seq (.region id #[⟨some d1, .call ⟨.builtin .recover, #[], tys⟩, t1, p1, e1, none⟩, ⟨some d2, .assign (.tmp d1), t2, p2, e2, none⟩] false) c))
    (hn : fn.ntmps = n) (hr : fn.results = #[]) (hl : Nat.ble caps.length n = true) (hd : Nat.blt d1 n = true ∧ Nat.blt d2 n = true)
    (h : AWP P n c (fun _ st' => ∃ st2, StLe st' st2 ∧ Q st2) (fun e _ st' => match e with | .ret => ∃ st2, StLe st' st2 ∧ Q st2 | _ => False)
      ((d2, pv.getD (.lit .nilIface)) :: (d1, pv.getD (.lit .nilIface)) :: zipFrom 0 caps) st) : ADef P f caps st pv Q := by
  intro g w rcaps hs hlen hcap u hu
  have hl' := Nat.ble_le hl
  have hd1 : d1 < n := Nat.lt_of_lt_of_le (Nat.lt_of_succ_le (Nat.ble_le hd.1)) (Nat.le_refl _)
  have hd2 : d2 < n := Nat.lt_of_lt_of_le (Nat.lt_of_succ_le (Nat.ble_le hd.2)) (Nat.le_refl _)
  refine callsD_of_wpS hf hb fun c₀ cs hc₀ => wpS_seq (wpS_region ?_)
  obtain ⟨rv, u', hrec, hset, hRv⟩ : ∃ rv u', ((recoverD (c₀ :: cs) = some (rv, { c₀ with mode := u' } :: cs)) ∨ (recoverD (c₀ :: cs) = none ∧ rv = .nilIface ∧ { c₀ with mode := u' } = c₀)) ∧ settle u' = .returning ∧
      R g w (pv.getD (.lit .nilIface)) rv := by
    cases pv with
    | none =>
      simp only at hu
      subst hu
      refine ⟨.nilIface, .returning, .inr ⟨?_, rfl, ?_⟩, rfl, .lit _⟩
      · simp [recoverD, hc₀]
      · rw [← hc₀]
    | some pv =>
      obtain ⟨v, rfl, hv⟩ := hu
      refine ⟨v, .panicking [{ v := v, recovered := true }], .inl ?_, rfl, hv⟩
      simp [recoverD, hc₀]
  have fin : ∀ a' : Act, a'.tmps.size = n → a'.defers = [] → Known g w ((d2, pv.getD (.lit .nilIface)) :: (d1, pv.getD (.lit .nilIface)) :: zipFrom 0 caps) a' →
      c.wpS P (bodyPostS P fn c₀ cs fun e u' w' => (∃ rv, e = .returned rv) ∧ settle u' = .returning ∧ ∃ g' st', Ext g w g' w' ∧ Sim g' w' st' ∧ Q st') a' ({ c₀ with mode := u' } :: cs) w := by
    intro a' ha hde hka
    refine wpS_of_wp (Code.wp_mono (fun e a2 w2 hq => ?_) (h g w a' hs hka ha))
    obtain ⟨h1, h2, g', T', st', h3, h4, h5, h6⟩ := hq
    have fin2 : (∃ st2, StLe st' st2 ∧ Q st2) → a2.defers = [] ∧ ∃ u'', ({ c₀ with mode := u' } :: cs : List Frame) = { c₀ with mode := u'' } :: cs ∧ ∃ v, (results fn a2.tmps).run P w2 = .ok v w2 ∧
        ((∃ rv, Ending.returned v = .returned rv) ∧ settle u'' = .returning ∧ ∃ g' st', Ext g w g' w2 ∧ Sim g' w2 st' ∧ Q st') := by
      rintro ⟨st2, hle, hQ⟩
      have hres : resA P st' T' fn.results.toList = some [] := by rw [hr]; rfl
      obtain ⟨rv', hrun, _⟩ := results_R (fn := fn) h4 h5 hres
      exact ⟨h2.trans hde, u', rfl, rv', hrun, ⟨_, rfl⟩, hset, g', st2, h3, h4.le hle, hQ⟩
    cases e with
    | normal => exact fin2 h6
    | ret => exact fin2 h6
    | panic ch => obtain ⟨_, _, _, _, hf'⟩ := h6; exact hf'.elim
    | exit id => exact h6.elim
    | goto l => exact h6.elim
    | outgrown => exact h6.elim
  have hk0 : Known g w (zipFrom 0 caps) { tmps := rcaps ++ Array.replicate (fn.ntmps - rcaps.size) undef, defers := [] } := by
    intro i v hv
    obtain ⟨_, h2⟩ := get_zipFrom caps 0 i v hv
    have hi : i < rcaps.size := by rw [← hlen]; exact (List.getElem?_eq_some_iff.1 h2).1
    refine ⟨rcaps[i], ?_, hcap i v _ h2 (by simp [hi])⟩
    rw [Array.getElem?_append_left hi]
    simp [hi]
  have hsz : (rcaps ++ Array.replicate (fn.ntmps - rcaps.size) undef).size = n := by simp; omega
  generalize ha0 : ({ tmps := rcaps ++ Array.replicate (fn.ntmps - rcaps.size) undef, defers := [] } : Act) = a0 at hk0
  have hsz0 : a0.tmps.size = n := by rw [← ha0]; exact hsz
  have hde0 : a0.defers = [] := by rw [← ha0]
  have k1 : Known g w ((d1, pv.getD (.lit .nilIface)) :: zipFrom 0 caps) (a0.put (some d1) rv) := hk0.put (d := some d1) (fun t ht => by cases ht; rw [hsz0]; exact hd1) hRv
  have k2 : Known g w ((d2, pv.getD (.lit .nilIface)) :: (d1, pv.getD (.lit .nilIface)) :: zipFrom 0 caps) ((a0.put (some d1) rv).put (some d2) rv) :=
    k1.put (d := some d2) (fun t ht => by cases ht; rw [Act.size_put, hsz0]; exact hd2) hRv
  have last := fin ((a0.put (some d1) rv).put (some d2) rv) (by rw [Act.size_put, Act.size_put]; exact hsz0) (by rw [Act.defers_put, Act.defers_put]; exact hde0) k2
  have hev : (a0.put (some d1) rv).eval (.tmp d1) = rv := by
    simp [Act.eval, Act.put, Array.setIfInBounds, hsz0, hd1]
  have hst : ∀ cs1, ({ c₀ with mode := u' } :: cs : List Frame) = cs1 → wpOpsS P #[⟨some d1, .call ⟨.builtin .recover, #[], tys⟩, t1, p1, e1, none⟩, ⟨some d2, .assign (.tmp d1), t2, p2, e2, none⟩]
      (Exit.thenS (c.wpS P (bodyPostS P fn c₀ cs fun e u' w' => (∃ rv, e = .returned rv) ∧ settle u' = .returning ∧ ∃ g' st', Ext g w g' w' ∧ Sim g' w' st' ∧ Q st')) (bodyPostS P fn c₀ cs fun e u' w' => (∃ rv, e = .returned rv) ∧ settle u' = .returning ∧ ∃ g' st', Ext g w g' w' ∧ Sim g' w' st' ∧ Q st'))
      [1] (a0.put (some d1) rv) cs1 w := by
    rintro cs1 rfl
    unfold wpOpsS
    have hrun : (execOp (a0.put (some d1) rv).eval ⟨some d2, .assign (.tmp d1), t2, p2, e2, none⟩).run P w = .ok (.value rv) w := by
      show Result.ok (Next.value ((a0.put (some d1) rv).eval (.tmp d1))) w = _
      rw [hev]
    simp only [List.getElem?_toArray, List.getElem?_cons_succ, List.getElem?_cons_zero, Region.wanted, if_true, hrun, Oper.upon]
    exact last
  show wpOpsS P _ _ [0, 1] a0 (c₀ :: cs) w
  unfold wpOpsS
  have hrun : (execOp a0.eval ⟨some d1, .call ⟨.builtin .recover, #[], tys⟩, t1, p1, e1, none⟩).run P w = .ok .recover w := by
    simp [execOp, resolve, invoke, builtin]
  simp only [List.getElem?_toArray, List.getElem?_cons_zero, Region.wanted, if_true, hrun]
  rcases hrec with hrec | ⟨hrec, rfl, hc0⟩
  · rw [hrec]
    exact hst _ rfl
  · rw [hrec]
    exact hst _ (by rw [hc0])


/-- What follows a point at which nothing is deferred yet: it ends with nothing deferred (K, E), or with the one function f (Kd, Ed). -/
def AD (P : Program) (n : Nat) (f : FuncId) (c : Code) (K : Post) (E : EPost) (Kd : List AV → Post) (Ed : List AV → EPost) (T : Tmps) (st : St) : Prop :=
  ∀ g w a, Sim g w st → Known g w T a → a.tmps.size = n → a.defers = [] →
    c.wp P (fun e a' w' => a'.tmps.size = n ∧ ∃ g' T' st', Ext g w g' w' ∧ Sim g' w' st' ∧ Known g' w' T' a' ∧
      ((a'.defers = [] ∧ Leaves K E g' w' T' st' e) ∨
        ∃ caps rcaps, a'.defers = [{ target := .fn (.func f) rcaps, args := #[] }] ∧ caps.length = rcaps.size ∧ (∀ (i : Nat) c v, caps[i]? = some c → rcaps[i]? = some v → R g' w' c v) ∧
          Leaves (Kd caps) (Ed caps) g' w' T' st' e)) a w

section
variable {f : FuncId} {K : Post} {E : EPost} {Kd : List AV → Post} {Ed : List AV → EPost} {T : Tmps} {st : St}

theorem AD.seq {x y : Code} (h : AWP P n x (AD P n f y K E Kd Ed) E T st) : AD P n f (.seq x y) K E Kd Ed T st := by
  intro g w a hs hk hn hd
  refine wp_seq (Code.wp_mono (fun e a' w' hq => ?_) (h g w a hs hk hn))
  obtain ⟨h1, h2, g', T', st', h3, h4, h5, h6⟩ := hq
  cases e with
  | normal => exact Code.wp_mono (fun _ _ _ ⟨q1, g2, T2, st2, q2, q3⟩ => ⟨q1, g2, T2, st2, h3.trans q2, q3⟩) (h6 g' w' a' h4 h5 h1 (h2.trans hd))
  | exit id => exact ⟨h1, g', T', st', h3, h4, h5, .inl ⟨h2.trans hd, h6⟩⟩
  | ret => exact ⟨h1, g', T', st', h3, h4, h5, .inl ⟨h2.trans hd, h6⟩⟩
  | panic ch => exact ⟨h1, g', T', st', h3, h4, h5, .inl ⟨h2.trans hd, h6⟩⟩
  | goto l => exact h6.elim
  | outgrown => exact h6.elim

/-- The function is deferred; what follows defers nothing. -/
theorem AD.dfr {c : Code} {id : Nat} {d1 : Tmp} {ca : Array Operand} {t1 t2 : TypeId} {p1 p2 : String} {e1 e2 : Array Edge} {caps : List AV} (hd : Nat.blt d1 n = true) (h1 : evs st T ca.toList = some caps)
    (h : AWP P n c (Kd caps) (Ed caps) ((d1, .func (.func f) [] caps) :: T) st) :
    AD P n f (.seq (.region id #[⟨some d1, .makeFunc (.func f) #[] ca, t1, p1, e1, none⟩, ⟨none, .defer ⟨.value (.tmp d1), #[], #[]⟩, t2, p2, e2, none⟩] false) c) K E Kd Ed T st := by
  intro g w a hs hk hn hde
  have hd1 : d1 < n := Nat.lt_of_succ_le (Nat.ble_le hd)
  obtain ⟨hl, hr⟩ := evs_R hs hk _ _ h1
  let rv : Value := .func (.func f) #[] (ca.map a.eval)
  have hR : R g w (.func (.func f) [] caps) rv := .func (.func f) [] caps _ _ rfl (by simpa using hl) (fun i c v hc => by simp at hc) (fun i c v hc hv => hr i c v hc (by simpa using hv))
  have k1 : Known g w ((d1, .func (.func f) [] caps) :: T) (a.put (some d1) rv) := hk.put (d := some d1) (fun t ht => by cases ht; rw [hn]; exact hd1) hR
  have hev : (a.put (some d1) rv).eval (.tmp d1) = rv := by simp [Act.eval, Act.put, Array.setIfInBounds, hn, hd1]
  refine wp_seq (wp_region_list ?_)
  show wpList P _ _ [_, _] a w
  unfold wpList
  have r1 : (execOp a.eval ⟨some d1, .makeFunc (.func f) #[] ca, t1, p1, e1, none⟩).run P w = .ok (.value rv) w := by simp [execOp, Instr.makeFunc, rv]
  rw [if_pos (by rfl)]
  left
  unfold Oper.wp
  rw [r1]
  simp only [Oper.upon]
  unfold wpList
  have r2 : (execOp (a.put (some d1) rv).eval ⟨none, .defer ⟨.value (.tmp d1), #[], #[]⟩, t2, p2, e2, none⟩).run P w = .ok (.defer { target := .fn (.func f) (ca.map a.eval), args := #[] }) w := by
    simp only [execOp, resolve, hev]
    simp [Deferred.ofValue, rv]
  rw [if_pos (by rfl)]
  left
  unfold Oper.wp
  rw [r2]
  simp only [Oper.upon, wpList]
  generalize ha2 : ({ tmps := (a.put (some d1) rv).tmps, defers := { target := Target.fn (Fn.func f) (Array.map a.eval ca), args := #[] } :: (a.put (some d1) rv).defers } : Act).put none undef = a2
  have hn2 : a2.tmps.size = n := by rw [← ha2, Act.size_put]; show (a.put (some d1) rv).tmps.size = n; rw [Act.size_put]; exact hn
  have hde2 : a2.defers = [{ target := .fn (.func f) (ca.map a.eval), args := #[] }] := by
    rw [← ha2, Act.defers_put]; show _ :: (a.put (some d1) rv).defers = _; rw [Act.defers_put, hde]
  have hk2 : Known g w ((d1, .func (.func f) [] caps) :: T) a2 := by
    rw [← ha2]; exact fun i v hv => k1 i v hv
  refine Code.wp_mono (fun e a' w' hq => ?_) (h g w a2 hs hk2 hn2)
  obtain ⟨h1', h2, g', T', st', h3, h4, h5, h6⟩ := hq
  exact ⟨h1', g', T', st', h3, h4, h5, .inr ⟨caps, ca.map a.eval, h2.trans hde2, by simpa using hl, fun i c v hc hv => (hr i c v hc (by simpa using hv)).ext h3, h6⟩⟩
end

/-- The contract of a function that defers one function. -/
theorem ACalls.ofBodyD {f fd : FuncId} [hfd : GoFun P fd] {fn : Func} {c : Code} {args : List AV} {st : St} {Rt RP : AV → St → Prop} (hf : P.funcs[f]? = some fn) (hb : fn.body = some c) (hn : fn.ntmps = n) (hl : Nat.ble args.length n = true)
    (h : AD P n fd c (fun _ _ => False)
      (fun e T' st' => match e with
        | .ret => ∃ vs v st1, resA P st' T' fn.results.toList = some vs ∧ Le (packA vs) v ∧ StLe st' st1 ∧ Rt v st1
        | .panic pv => ∃ st1, StLe st' st1 ∧ RP pv st1
        | .exit _ => False)
      (fun caps T' st' => ADef P fd caps st' none (fun st2 => ∃ vs v st1, resA P st2 T' fn.results.toList = some vs ∧ Le (packA vs) v ∧ StLe st2 st1 ∧ Rt v st1))
      (fun caps e T' st' => match e with
        | .ret => ADef P fd caps st' none (fun st2 => ∃ vs v st1, resA P st2 T' fn.results.toList = some vs ∧ Le (packA vs) v ∧ StLe st2 st1 ∧ Rt v st1)
        | .panic pv => ADef P fd caps st' (some pv) (fun st2 => ∃ vs v st1, resA P st2 T' fn.results.toList = some vs ∧ Le (packA vs) v ∧ StLe st2 st1 ∧ Rt v st1)
        | .exit _ => False) (zipFrom 0 args) st) : ACalls P f args st Rt RP := by
  intro g w rargs hs hlen ha
  have hl' := Nat.ble_le hl
  refine calls_of_wp_defers hf hb (Code.wp_mono (fun e a' w' hq => ?_) (h g w { tmps := rargs ++ Array.replicate (fn.ntmps - rargs.size) undef, defers := [] } hs ?_ ?_ rfl))
  · obtain ⟨h1, g', T', st', h3, h4, h5, h6⟩ := hq
    have ret : ∀ g2 w2 st2, Ext g' w' g2 w2 → Sim g2 w2 st2 → (∃ vs v st1, resA P st2 T' fn.results.toList = some vs ∧ Le (packA vs) v ∧ StLe st2 st1 ∧ Rt v st1) → ∃ v, (results fn a'.tmps).run P w2 = .ok v w2 ∧
        ∃ g' st', Ext g w g' w2 ∧ Sim g' w2 st' ∧ ∃ u, R g' w2 u v ∧ Rt u st' := by
      rintro g2 w2 st2 he hs2 ⟨vs, v, st1, hr, hle, hle2, hRt⟩
      obtain ⟨rv, hrun, hR⟩ := results_R (fn := fn) hs2 (h5.ext he) hr
      exact ⟨rv, hrun, g2, st1, h3.trans he, hs2.le hle2, v, hR.le hle, hRt⟩
    obtain ⟨fd', hd1, hd2, hd3⟩ := hfd.out
    have hinv : ∀ rcaps : Array Value, (invoke (.fn (.func fd) rcaps) #[]).run P w' = .ok (.enter fd rcaps) w' := by
      intro rcaps
      have h2' : ¬ fd'.body = none := by intro e; simp [e] at hd2
      have h3' : ¬ fd'.name = "runtime.NumGoroutine" := by simpa using hd3
      simp [invoke, callFunc, hd1, h2', h3']
    have deferred : ∀ (rcaps : Array Value) (caps : List AV) (u : FrameMode) (pv : Option AV), u ≠ .run → caps.length = rcaps.size → (∀ (i : Nat) c v, caps[i]? = some c → rcaps[i]? = some v → R g' w' c v) →
        (match pv with | none => u = .returning | some pv => ∃ v, u = .panicking [{ v := v, recovered := false }] ∧ R g' w' pv v) →
        ADef P fd caps st' pv (fun st2 => ∃ vs v st1, resA P st2 T' fn.results.toList = some vs ∧ Le (packA vs) v ∧ StLe st2 st1 ∧ Rt v st1) →
        Go.Leaves P fn a'.tmps (fun e w' => ∃ g' st', Ext g w g' w' ∧ Sim g' w' st' ∧ match e with
          | .returned rv => ∃ v, R g' w' v rv ∧ Rt v st'
          | .panicked ch => ∃ pv v, ch = [{ v := v, recovered := false }] ∧ R g' w' pv v ∧ RP pv st'
          | .outgrown => False) [{ target := .fn (.func fd) rcaps, args := #[] }] u w' := by
      intro rcaps caps u pv hu hlc hrc hm hA
      refine leaves_cons hu (hinv rcaps) ((hA g' w' rcaps h4 hlc hrc u hm).mono ?_)
      rintro e u' w2 ⟨⟨rv, rfl⟩, hset, g2, st2, he2, hs2, hQ⟩
      show Go.Leaves P fn a'.tmps _ [] (settle u') w2
      rw [hset]
      obtain ⟨v, hrun, g3, st3, x1, x2, u3, x3, x4⟩ := ret g2 w2 st2 he2 hs2 hQ
      exact ⟨v, hrun, g3, st3, x1, x2, u3, x3, x4⟩
    rcases h6 with ⟨hde, h6⟩ | ⟨caps, rcaps, hde, hlc, hrc, h6⟩
    · cases e with
      | normal => exact h6.elim
      | ret =>
        show Go.Leaves P fn a'.tmps _ a'.defers .returning w'
        rw [hde]
        obtain ⟨v, hrun, g3, st3, x1, x2, u3, x3, x4⟩ := ret g' w' st' (.refl _ _) h4 h6
        exact ⟨v, hrun, g3, st3, x1, x2, u3, x3, x4⟩
      | panic ch =>
        show Go.Leaves P fn a'.tmps _ a'.defers (.panicking ch) w'
        rw [hde]
        obtain ⟨pv, v, x1, x2, st1, x3, x4⟩ := h6
        exact ⟨g', st1, h3, h4.le x3, pv, v, x1, x2, x4⟩
      | exit id => exact h6.elim
      | goto l => exact h6.elim
      | outgrown => exact h6.elim
    · cases e with
      | normal =>
        show Go.Leaves P fn a'.tmps _ a'.defers .returning w'
        rw [hde]
        exact deferred rcaps caps .returning none (by simp) hlc hrc rfl h6
      | ret =>
        show Go.Leaves P fn a'.tmps _ a'.defers .returning w'
        rw [hde]
        exact deferred rcaps caps .returning none (by simp) hlc hrc rfl h6
      | panic ch =>
        show Go.Leaves P fn a'.tmps _ a'.defers (.panicking ch) w'
        rw [hde]
        obtain ⟨pv, v, x1, x2, x3⟩ := h6
        exact deferred rcaps caps (.panicking ch) (some pv) (by simp) hlc hrc ⟨v, by rw [x1], x2⟩ x3
      | exit id => exact h6.elim
      | goto l => exact h6.elim
      | outgrown => exact h6.elim
  · intro i v hv
    obtain ⟨_, h2⟩ := get_zipFrom args 0 i v hv
    have hi : i < rargs.size := by rw [← hlen]; exact (List.getElem?_eq_some_iff.1 h2).1
    refine ⟨rargs[i], ?_, ha i v _ h2 (by simp [hi])⟩
    rw [Array.getElem?_append_left hi]
    simp [hi]
  · simp; omega
end
end Go.AM
/- Drawn regions with operations that may panic. No conditions: definitions and lemmas only. -/
namespace Go.AM
open Go.RowKit (Below)
section
variable {P : Program} {n : Nat} {K : Post} {E : EPost} {T : Tmps} {st : St}
theorem wp_putA {o : Oper} {a : Act} {w : World} {K1 K2 : Act → World → Prop} {Q1 Q2 : Exit → Act → World → Prop} (h : o.wp P a w K1 Q1)
    (hk : ∀ a' w', a'.defers = a.defers → K1 a' w' → (∃ rv, a' = a.put o.dst rv) → K2 a' w') (hd : ∀ a' w', K1 a' w' → a'.defers = a.defers) (hq : ∀ e w, Q1 (.panic e) a w → Q2 (.panic e) a w) (ho : ∀ a w, Q1 .outgrown a w → Q2 .outgrown a w) : o.wp P a w K2 Q2 := by
  unfold Oper.wp at h ⊢
  generalize (execOp a.eval o).run P w = r at h
  cases r with
  | ok x w' =>
    cases x <;> simp only [Oper.upon] at h ⊢
    case value v => exact hk _ _ (Act.defers_put _ _ _) h ⟨v, rfl⟩
    case skip => exact hk _ _ (Act.defers_put _ _ _) h ⟨undef, rfl⟩
    case defer d =>
      have := hd _ _ h
      rw [Act.defers_put] at this
      simp at this
    case enter f args =>
      refine h.mono fun e w'' he => ?_
      cases e with
      | returned v => exact hk _ _ (Act.defers_put _ _ _) he ⟨v, rfl⟩
      | panicked ch => exact hq _ _ he
      | outgrown => obtain ⟨a, w, h2⟩ := he; exact ⟨a, w, ho _ _ h2⟩
    case row => exact h.mono fun v w'' hv => hk _ _ (Act.defers_put _ _ _) hv ⟨v, rfl⟩
  | halt x w' => cases x <;> simp only [Oper.upon] at h ⊢ <;> exact hq _ _ h
/-- Temporaries that a part of a region does not write. -/
def keepsT (l : List Oper) (k k' : Nat) (T0 : Tmps) : Bool := ((l.drop k).take (k' - k)).all fun o => match o.dst with | some d => T0.all fun p => !(Nat.beq p.1 d) | none => true
theorem keepsT_spec {l : List Oper} {k k' : Nat} {T0 : Tmps} (h : keepsT l k k' T0 = true) {t : Nat} {v : AV} (ht : Tmps.get T0 t = some v) {i : Nat} (hi : i < k' - k) : (l[k + i]?).bind (·.dst) ≠ some t := by
  intro e
  cases ho : l[k + i]? with
  | none => rw [ho] at e; cases e
  | some o =>
    rw [ho] at e
    have hm : o ∈ (l.drop k).take (k' - k) := List.mem_of_getElem? (i := i) (by rw [List.getElem?_take_of_lt hi, List.getElem?_drop]; exact ho)
    have h1 := List.all_eq_true.1 h o hm
    have e' : o.dst = some t := e
    rw [e'] at h1
    simp only at h1
    have h2 : ∃ p ∈ T0, p.1 = t := by
      clear h h1 e e' hm ho
      induction T0 with
      | nil => cases ht
      | cons p r ih =>
        rw [Tmps.get_cons] at ht
        split at ht
        · rename_i hp; exact ⟨p, List.mem_cons_self .., hp⟩
        · obtain ⟨q, q1, q2⟩ := ih ht; exact ⟨q, List.mem_cons_of_mem _ q1, q2⟩
    obtain ⟨p, hp, rfl⟩ := h2
    have h3 := List.all_eq_true.1 h1 p hp
    rw [nbeq_self] at h3
    cases h3
def StepP (P : Program) (n : Nat) (X : AV → St → Prop) (I : List (Option AV) → St → Prop) (S Es : List Nat) (i : Nat) (ops : Array Oper) (T : Tmps) (vals : Nat → AV) (o : Oper) (Q : AV → Prop) : Prop :=
  (wantedA ops T o = some true ∧ ∀ vs : List (Option AV), vs.length = Es.length → mayBe S Es i (vs.map Option.isSome) = true → LinkV Es i vals vs →
    ∀ st g w a (K' : Act → World → Prop) (Q' : Exit → Act → World → Prop), I vs st → Sim g w st → Known g w T a → a.tmps.size = n →
      (∀ rv g' w' v st1, Ext g w g' w' → Sim g' w' st1 → R g' w' v rv → Q v → I (setV Es i v vs) st1 → K' (a.put o.dst rv) w') →
      (∀ pv rv g' w' st1, Ext g w g' w' → Sim g' w' st1 → R g' w' pv rv → X pv st1 → Q' (.panic [{ v := rv, recovered := false }]) a w') → o.wp P a w K' Q') ∨ (wantedA ops T o = some false ∧ Q (.lit undef) ∧ Es.contains i = false)
/-- The walk of a part in the text's order; behind it k. -/
def DRunP (P : Program) (n : Nat) (X : AV → St → Prop) (I : List (Option AV) → St → Prop) (S Es : List Nat) (ops : Array Oper) : Nat → List Oper → List (AV → Prop) → Tmps → (Nat → AV) → (Tmps → St → Prop) → Prop
  | _, [], [], T, vals, k => ∀ st, I (Es.map fun e => some (vals e)) st → k T st
  | i, o :: r, Q :: Qs, T, vals, k => (∃ u, Q u) ∧ dstOk o.dst n = true ∧ StepP P n X I S Es i ops (see ops o T) vals o Q ∧ ∀ u, Q u → DRunP P n X I S Es ops (i + 1) r Qs (T.put o.dst u) (fun j => bif Nat.beq j i then u else vals j) k
  | _, _, _, _, _, _ => False
theorem DRunP.out {X : AV → St → Prop} {I : List (Option AV) → St → Prop} {S Es : List Nat} {ops : Array Oper} {k : Tmps → St → Prop} (b : Nat) (us : Nat → AV) (l : List Oper) : ∀ (r : List Oper) (Qs : List (AV → Prop)) (i0 : Nat) (vals : Nat → AV), (∀ (i : Nat) (o : Oper), r[i]? = some o → l[i0 + i]? = some o) → (∀ (i : Nat) (Q : AV → Prop), Qs[i]? = some Q → Q (us (b + (i0 + i)))) →
    (∀ j, b ≤ j → j < b + i0 → vals j = us j) → (∀ e ∈ Es, b ≤ e ∧ e < b + i0 + r.length) →
    DRunP P n X I S Es ops (b + i0) r Qs (ents l (fun i => us (b + i)) i0 ++ T) vals k → Qs.length = r.length ∧ (∀ st, I (Es.map fun e => some (us e)) st → k (ents l (fun i => us (b + i)) (i0 + r.length) ++ T) st) ∧
      ∀ i o, r[i]? = some o → ∃ Q, dstOk o.dst n = true ∧ Qs[i]? = some Q ∧ StepP P n X I S Es (b + (i0 + i)) ops (see ops o (ents l (fun i => us (b + i)) (i0 + i) ++ T)) us o Q
  | [], [], i0, vals, _, _, hv, hE, h => ⟨rfl, fun st hI => by
      have e : (Es.map fun e => some (vals e)) = Es.map fun e => some (us e) := List.map_congr_left fun e he => by
        obtain ⟨h1, h2⟩ := hE e he
        rw [hv e h1 (by simpa using h2)]
      have h' : ∀ st, I (Es.map fun e => some (vals e)) st → k (ents l (fun i => us (b + i)) i0 ++ T) st := h
      rw [e] at h'
      exact h' st hI, fun i o ho => by simp at ho⟩
  | [], _ :: _, _, _, _, _, _, _, h => h.elim
  | _ :: _, [], _, _, _, _, _, _, h => h.elim
  | o :: r, Q :: Qs, i0, vals, hl, hq, hv, hE, h => by
    obtain ⟨_, h2, h4, h5⟩ := h
    have h6 := h5 (us (b + i0)) (hq 0 Q rfl)
    have hl0 : l[i0]? = some o := by simpa using hl 0 o rfl
    have he : (ents l (fun i => us (b + i)) i0 ++ T).put o.dst (us (b + i0)) = ents l (fun i => us (b + i)) (i0 + 1) ++ T := by
      rw [ents, hl0]
      simp only [Option.bind_some]
      cases o.dst <;> rfl
    rw [he, Nat.add_assoc] at h6
    obtain ⟨a1, a2, a3⟩ := DRunP.out b us l r Qs (i0 + 1) _ (fun i o' ho' => by have := hl (i + 1) o' (by simpa using ho'); rwa [show i0 + (i + 1) = i0 + 1 + i by omega] at this) (fun i Q' hQ' => by have := hq (i + 1) Q' (by simpa using hQ'); rwa [show i0 + (i + 1) = i0 + 1 + i by omega] at this)
      (fun j h1 h2 => by
        by_cases hj : j = b + i0
        · subst hj; rw [nbeq_self]; rfl
        · rw [nbeq_ne hj]; exact hv j h1 (by omega)) (fun e he => by have := hE e he; simp only [List.length_cons] at this; omega) h6
    refine ⟨by simp [a1], by rw [List.length_cons, show i0 + (r.length + 1) = i0 + 1 + r.length by omega]; exact a2, fun i o' ho' => ?_⟩
    cases i with
    | zero =>
      simp only [List.getElem?_cons_zero, Option.some.injEq] at ho'
      subst ho'
      refine ⟨Q, h2, rfl, ?_⟩
      rcases h4 with ⟨hw, h4⟩ | h4
      · exact .inl ⟨hw, fun vs hl hm hlk => h4 vs hl hm fun p hp hlt u hu => by
          have hpe : p.1 ∈ Es := (List.of_mem_zip hp).1
          rw [hv p.1 (hE p.1 hpe).1 hlt]
          exact hlk p hp hlt u hu⟩
      · exact .inr h4
    | succ i =>
      obtain ⟨Q', b1, b2, b3⟩ := a3 i o' (by simpa using ho')
      exact ⟨Q', b1, by simpa using b2, by rwa [show i0 + 1 + i = i0 + (i + 1) by omega] at b3⟩
theorem DRunP.fits {X : AV → St → Prop} {I : List (Option AV) → St → Prop} {S Es : List Nat} {ops : Array Oper} {k : Tmps → St → Prop} : ∀ (r : List Oper) (Qs : List (AV → Prop)) (i0 : Nat) (T : Tmps) (vals : Nat → AV), DRunP P n X I S Es ops i0 r Qs T vals k → ∀ (i : Nat) (Q : AV → Prop), Qs[i]? = some Q → ∃ u, Q u
  | [], [], _, _, _, _, i, Q, h => by simp at h
  | [], _ :: _, _, _, _, h, _, _, _ => h.elim
  | _ :: _, [], _, _, _, h, _, _, _ => h.elim
  | o :: r, Q0 :: Qs, i0, T, vals, h, i, Q, hq => by
    obtain ⟨⟨u, hu⟩, h2, h4, h5⟩ := h
    cases i with
    | zero => simp at hq; subst hq; exact ⟨u, hu⟩
    | succ i => exact DRunP.fits r Qs _ _ _ (h5 u hu) i Q (by simpa using hq)
theorem AAny.segPT {X : AV → St → Prop} (T0 : Tmps) (hX : ∀ pv st', X pv st' → E (.panic pv) T0 st') (hT0 : TLe T T0) {l : List Oper} {k : Nat} (k' : Nat) (hkp : keepsT l k k' T0 = true) (S Es : List Nat) (I : List (Option AV) → St → Prop) (Qs : List (AV → Prop)) (hok : segOk l k k' Es = true) (hS : predSets l [] = S) (hI : I (Es.map fun _ => none) st)
    (vals : Nat → AV) (h : DRunP P n X I S Es l.toArray k ((l.drop k).take (k' - k)) Qs T vals fun T' st' => AAny P n l k' K E T' st') : AAny P n l k K E T st := by
  subst hS
  obtain ⟨hkk, hkl, hedge, hbody, htail, hEs⟩ := segOk_spec hok
  have hfits := DRunP.fits _ _ _ _ _ h
  have hget : ∀ i, i < k' - k → (l.drop k)[i]? = l[k + i]? := fun i _ => List.getElem?_drop
  have hlk0 : ((l.drop k).take (k' - k)).length = k' - k := by simp; omega
  have hout := fun (us : Nat → AV) (hus : ∀ (i : Nat) (Q : AV → Prop), Qs[i]? = some Q → Q (us (k + (0 + i)))) => DRunP.out (T := T) k us (l.drop k) ((l.drop k).take (k' - k)) Qs 0 vals (fun i o ho => by
    have hi : i < k' - k := by have := (List.getElem?_eq_some_iff.1 ho).1; simp at this; omega
    rw [List.getElem?_take_of_lt hi] at ho
    rwa [Nat.zero_add]) hus (fun j h1 h2 => by omega) (fun e he => by rw [hlk0]; have := hEs e he; omega) h
  obtain ⟨wit, hwit⟩ : ∃ wit : Nat → AV, ∀ (i : Nat) (Q : AV → Prop), Qs[i]? = some Q → Q (wit i) := by
    have : ∀ i : Nat, ∃ u : AV, ∀ Q : AV → Prop, Qs[i]? = some Q → Q u := fun i => by
      cases hq : Qs[i]? with
      | none => exact ⟨.bool true, fun Q h => by cases h⟩
      | some Q =>
        obtain ⟨u, hu⟩ := hfits i Q hq
        exact ⟨u, fun Q' h => by cases h; exact hu⟩
    exact ⟨fun i => Classical.choose (this i), fun i Q hQ => Classical.choose_spec (this i) Q hQ⟩
  have hQl : Qs.length = k' - k := by rw [(hout (fun j => wit (j - k)) (fun i Q hQ => by rw [Nat.zero_add, Nat.add_sub_cancel_left]; exact hwit i Q hQ)).1, hlk0]
  intro g0 w0 ds g1 w1 a1 m1 listed1 he1 hs1 hk1 hn1 hd1 hm1 hsz1 hli1 hc1
  let Inv : Array Bool → Act → World → Prop := fun listed a w => listed.size = l.length ∧ Closed l listed ∧ (∀ j, j < k → listed.getD j true = true) ∧ (∀ j, k' ≤ j → j < l.length → listed.getD j true = false) ∧ a.tmps.size = n ∧ a.defers = ds ∧
    ∃ g st1 us, Ext g0 w0 g w ∧ Sim g w st1 ∧ I (valsOf Es listed us) st1 ∧
      (∀ t v, Tmps.get T t = some v → (∀ i, i < k' - k → (l[k + i]?).bind (·.dst) = some t → listed.getD (k + i) false = false) → ∃ rv, a.tmps[t]? = some rv ∧ R g w v rv) ∧
      (∀ i Q, i < k' - k → Qs[i]? = some Q → listed.getD (k + i) false = true → Q (us (k + i))) ∧
      (∀ i d, i < k' - k → (l[k + i]?).bind (·.dst) = some d → listed.getD (k + i) false = true → ∃ rv, a.tmps[d]? = some rv ∧ R g w (us (k + i)) rv)
  let μ : Array Bool → Nat := fun listed => (List.range l.length).countP fun j => !listed.getD j true
  have hμ : ∀ (listed : Array Bool) i, i < l.length → listed.size = l.length → listed.getD i true = false → μ (listed.setIfInBounds i true) + 1 ≤ μ listed := by
    intro listed i hil hsz hi
    have gen : ∀ (A : List Nat), i ∈ A → A.countP (fun j => !(listed.setIfInBounds i true).getD j true) + 1 ≤ A.countP (fun j => !listed.getD j true) := by
      have le : ∀ (A : List Nat), A.countP (fun j => !(listed.setIfInBounds i true).getD j true) ≤ A.countP (fun j => !listed.getD j true) := fun A => List.countP_mono_left fun j _ hj => by
        by_cases hij : i = j
        · subst hij
          rw [Array.getD_eq_getD_getElem?, Array.getElem?_setIfInBounds_self_of_lt (by omega)] at hj
          simp at hj
        · rw [getD_set_ne true hij] at hj; exact hj
      intro A
      induction A with
      | nil => intro h; simp at h
      | cons x A ih =>
        intro h
        rw [List.countP_cons, List.countP_cons]
        by_cases hx : x = i
        · subst hx
          have h1 : (!(listed.setIfInBounds x true).getD x true) = false := by
            rw [Array.getD_eq_getD_getElem?, Array.getElem?_setIfInBounds_self_of_lt (by omega)]; rfl
          have h2 : (!listed.getD x true) = true := by rw [hi]; rfl
          rw [h1, h2, if_neg (by decide), if_pos rfl]
          have := le A
          omega
        · have hm' : i ∈ A := by rcases List.mem_cons.1 h with h | h; exact absurd h.symm hx; exact h
          have := ih hm'
          have h3 : (listed.setIfInBounds i true).getD x true = listed.getD x true := getD_set_ne true (Ne.symm hx)
          rw [h3]
          omega
    exact gen _ (List.mem_range.2 hil)
  have fill : ∀ (listed : Array Bool) (us : Nat → AV), (∀ i Q, i < k' - k → Qs[i]? = some Q → listed.getD (k + i) false = true → Q (us (k + i))) →
      ∀ (i : Nat) (Q : AV → Prop), Qs[i]? = some Q → Q ((fun j => bif listed.getD j false then us j else wit (j - k)) (k + (0 + i))) := by
    intro listed us hB i Q hQ
    rw [Nat.zero_add]
    simp only
    have hik : i < k' - k := by rw [← hQl]; exact (List.getElem?_eq_some_iff.1 hQ).1
    cases hc : listed.getD (k + i) false with
    | true => exact hB i Q hik hQ hc
    | false => rw [cond_false, Nat.add_sub_cancel_left]; exact hwit i Q hQ
  have hentsget : ∀ (us : Nat → AV) (i t : Nat) v, i ≤ k' - k → Tmps.get (ents (l.drop k) us i) t = some v → ∃ j, j < i ∧ (l[k + j]?).bind (·.dst) = some t ∧ v = us j := fun us i t v hi hg => by
    obtain ⟨j, hj, hdj, rfl⟩ := ents_get i t _ hg
    exact ⟨j, hj, by rw [← hget j (by omega)]; exact hdj, rfl⟩
  have hentsnone : ∀ (us : Nat → AV) (i t : Nat), i ≤ k' - k → Tmps.get (ents (l.drop k) us i) t = none → ∀ j, j < i → (l[k + j]?).bind (·.dst) ≠ some t := fun us i t hi hg j hj => by
    rw [← hget j (by omega)]
    exact ents_none i t hg j hj
  have done : ∀ (m : Nat) (listed : Array Bool) (a : Act) (w : World), Inv listed a w → (∀ j, j < k' → listed.getD j true = true) → l.length ≤ k' + m → wpAny P .any l.toArray (QOf n ds g0 w0 K E) m listed a w := by
    intro m listed a w ⟨hsz, hcl, hfst, htl, hn, hd, g, st1, us0, he, hs, hI1, hA, hB1, hB2⟩ hall hm'
    have hlist : ∀ j, j < k' → listed.getD j false = true := fun j hj => by
      rw [getD_ft (by omega)]; exact hall j hj
    have hus := fill listed us0 hB1
    obtain ⟨uf, huf⟩ : ∃ uf : Nat → AV, uf = fun j => bif listed.getD j false then us0 j else wit (j - k) := ⟨_, rfl⟩
    rw [← huf] at hus
    have hus2 : ∀ i d, i < k' - k → (l[k + i]?).bind (·.dst) = some d → listed.getD (k + i) false = true → ∃ rv, a.tmps[d]? = some rv ∧ R g w (uf (k + i)) rv := fun i d h1 h2 h3 => by
      rw [huf]
      simp only [h3, cond_true]
      exact hB2 i d h1 h2 h3
    obtain ⟨_, hfin, _⟩ := hout uf hus
    rw [hlk0, Nat.zero_add] at hfin
    have hIt : valsOf Es listed us0 = Es.map fun e => some (uf e) := List.map_congr_left fun e he => by
      rw [huf]
      simp only [hlist e (hEs e he).2, cond_true]
    rw [hIt] at hI1
    refine hfin st1 hI1 g0 w0 ds g w a m listed he hs (fun t u hu => ?_) hn hd hm' hsz (fun j hj => ?_) hcl
    · rw [get_append] at hu
      cases hg : Tmps.get (ents (l.drop k) (fun i => uf (k + i)) (k' - k)) t with
      | some u' =>
        rw [hg] at hu
        cases hu
        obtain ⟨j, hj, hdj, rfl⟩ := hentsget (fun i => uf (k + i)) _ t _ (Nat.le_refl _) hg
        exact hus2 j t hj hdj (hlist (k + j) (by omega))
      | none =>
        rw [hg] at hu
        exact hA t u hu fun i hi hit => absurd hit (hentsnone (fun i => uf (k + i)) _ t (Nat.le_refl _) hg i hi)
    · by_cases hjk : j < k'
      · rw [hall j hjk, decide_eq_true hjk]
      · rw [htl j (by omega) hj, decide_eq_false hjk]
  have step : ∀ (K' : Act → World → Prop) (listed : Array Bool) (a : Act) (w : World) (q : Nat), Inv listed a w → q < k' - k → k + q ∈ Region.ready .any l.toArray listed → (∀ a' w', Inv (listed.setIfInBounds (k + q) true) a' w' → K' a' w') →
      wpOp P l.toArray (QOf n ds g0 w0 K E) (k + q) K' a w := by
    intro K' listed a w q ⟨hsz, hcl, hfst, htl, hn, hd, g, st1, us0, he, hs, hI1, hA, hB1, hB2⟩ hqk hri hK
    obtain ⟨hun, o, ho, hed'⟩ := ready_edges hri
    have hil := (List.getElem?_eq_some_iff.1 ho).1
    have hunf : listed.getD (k + q) false = false := by
      rw [getD_ft (by omega)]; exact hun
    have hcl' := hcl.set ho hed'
    have hsz' : (listed.setIfInBounds (k + q) true).size = l.length := by simpa using hsz
    have hfst' : ∀ j, j < k → (listed.setIfInBounds (k + q) true).getD j true = true := fun j h1 => by
      rw [getD_set_ne true (by omega)]; exact hfst j h1
    have htl' : ∀ j, k' ≤ j → j < l.length → (listed.setIfInBounds (k + q) true).getD j true = false := fun j h1 h2 => by
      rw [getD_set_ne true (by omega)]; exact htl j h1 h2
    have hus := fill listed us0 hB1
    obtain ⟨uf, huf⟩ : ∃ uf : Nat → AV, uf = fun j => bif listed.getD j false then us0 j else wit (j - k) := ⟨_, rfl⟩
    rw [← huf] at hus
    have hus2 : ∀ i d, i < k' - k → (l[k + i]?).bind (·.dst) = some d → listed.getD (k + i) false = true → ∃ rv, a.tmps[d]? = some rv ∧ R g w (uf (k + i)) rv := fun i d h1 h2 h3 => by
      rw [huf]
      simp only [h3, cond_true]
      exact hB2 i d h1 h2 h3
    obtain ⟨_, _, hops⟩ := hout uf hus
    obtain ⟨Q, hdn, hQi, hstep⟩ := hops q o (by rw [List.getElem?_take_of_lt hqk, hget q hqk]; exact ho)
    rw [Nat.zero_add] at hstep
    have hlooked : ∀ j, j < k' - k → ∀ t, (l[k + j]?).bind (·.dst) = some t → (o.looksAt l.toArray).contains t = true → listed.getD (k + j) false = true ∧ j < q := by
      intro j hj t hjt hlook
      have hp : l[k + j]? = some l[k + j] := List.getElem?_eq_getElem (by omega)
      rw [hp] at hjt
      have h2 := ((hbody (k + q) o ho (by omega) (by omega)).2 (k + j) _ (by omega) (by omega) hp).2 t hjt hlook
      refine ⟨preds_listed hcl ho hed' h2, ?_⟩
      have hcl2 : Closed l (Array.ofFn fun x : Fin l.length => decide (x.val < k + q)) := by
        intro x ox hx hx' y hy
        have hql := (List.getElem?_eq_some_iff.1 hx).1
        rw [Array.getD_eq_getD_getElem?, Array.getElem?_ofFn] at hx' ⊢
        simp only [hql, dif_pos, Option.getD_some, decide_eq_true_eq] at hx'
        have hxq := hedge x ox hx y hy
        simp only [show y < l.length by omega, dif_pos, Option.getD_some, decide_eq_true_eq]
        omega
      have h3 := preds_listed hcl2 ho (fun x hx' => by
        have hxi := hedge (k + q) o ho x hx'
        rw [Array.getD_eq_getD_getElem?, Array.getElem?_ofFn]
        simp only [show x < l.length by omega, dif_pos, Option.getD_some, decide_eq_true_eq]
        exact hxi) h2
      rw [Array.getD_eq_getD_getElem?, Array.getElem?_ofFn] at h3
      simp only [show k + j < l.length by omega, dif_pos, Option.getD_some, decide_eq_true_eq] at h3
      omega
    have hknown : Known g w (see l.toArray o (ents (l.drop k) (fun i => uf (k + i)) q ++ T)) a := fun t v ht => by
      obtain ⟨hlook, hgt⟩ := get_filter _ _ _ _ ht
      rw [get_append] at hgt
      cases hg : Tmps.get (ents (l.drop k) (fun i => uf (k + i)) q) t with
      | some u' =>
        rw [hg] at hgt
        cases hgt
        obtain ⟨j, hj, hdj, rfl⟩ := hentsget (fun i => uf (k + i)) q t _ (by omega) hg
        exact hus2 j t (by omega) hdj (hlooked j (by omega) t hdj hlook).1
      | none =>
        rw [hg] at hgt
        refine hA t v hgt fun j hj hjt => ?_
        have h1 := hlooked j hj t hjt hlook
        exact absurd hjt (hentsnone (fun i => uf (k + i)) q t (by omega) hg j h1.2)
    have hother : ∀ t, o.dst ≠ some t → ∀ rv', (a.put o.dst rv').tmps[t]? = a.tmps[t]? := fun t ht rv' => by
      cases hod : o.dst with
      | none => rfl
      | some d =>
        simp only [Act.put, Array.getElem?_setIfInBounds]
        rw [if_neg (fun h => ht (by rw [hod, h]))]
    have hself : ∀ d, o.dst = some d → ∀ rv', (a.put o.dst rv').tmps[d]? = some rv' := fun d hod rv' => by
      have hdn' := dstOk_lt hdn d hod
      rw [hod]
      simp only [Act.put, Array.getElem?_setIfInBounds]
      simp [hn, hdn']
    have hdi : ∀ d, (l[k + q]?).bind (·.dst) = some d → o.dst = some d := fun d h => by rw [ho] at h; exact h
    have after : ∀ v rv g' w' st2, Ext g w g' w' → Sim g' w' st2 → R g' w' v rv → Q v → I (setV Es (k + q) v (valsOf Es listed us0)) st2 → Inv (listed.setIfInBounds (k + q) true) (a.put o.dst rv) w' := by
      intro v rv g' w' st2 he' hs' hR hQv hI2
      refine ⟨hsz', hcl', hfst', htl', by rw [Act.size_put]; exact hn, by rw [Act.defers_put]; exact hd, g', st2, fun j => bif Nat.beq j (k + q) then v else us0 j, he.trans he', hs', by rw [setV_of (by omega)]; exact hI2, fun t u ht hwr => ?_, fun j Q' hj hjQ hjl => ?_, fun j d' hj hjd hjl => ?_⟩
      · have htd : o.dst ≠ some t := fun htd => by
          have := hwr q hqk (by rw [ho]; exact htd)
          rw [Array.getD_eq_getD_getElem?, Array.getElem?_setIfInBounds_self_of_lt (by omega)] at this
          simp at this
        obtain ⟨ru, h1, h2⟩ := hA t u ht fun j hj hjt => by
          have h3 := hwr j hj hjt
          by_cases hij : q = j
          · subst hij; exact hunf
          · rwa [getD_set_ne false (by omega)] at h3
        exact ⟨ru, by rw [hother t htd]; exact h1, h2.ext he'⟩
      · by_cases hij : q = j
        · subst hij
          rw [hQi] at hjQ
          cases hjQ
          simp only [nbeq_self, cond_true]
          exact hQv
        · rw [getD_set_ne false (by omega)] at hjl
          simp only [nbeq_ne (show k + j ≠ k + q by omega), cond_false]
          exact hB1 j Q' hj hjQ hjl
      · by_cases hij : q = j
        · subst hij
          simp only [nbeq_self, cond_true]
          exact ⟨rv, hself d' (hdi d' hjd) rv, hR⟩
        · rw [getD_set_ne false (by omega)] at hjl
          simp only [nbeq_ne (show k + j ≠ k + q by omega), cond_false]
          obtain ⟨ru, h2, h3⟩ := hB2 j d' hj hjd hjl
          refine ⟨ru, ?_, h3.ext he'⟩
          rw [hother d' ?_]
          · exact h2
          · have hp : l[k + j]? = some l[k + j] := List.getElem?_eq_getElem (by omega)
            rw [hp] at hjd
            exact fun hdd => ((hbody (k + q) o ho (by omega) (by omega)).2 (k + j) _ (by omega) (by omega) hp).1 (by omega) d' d' hdd hjd rfl
    unfold wpOp
    simp only [List.getElem?_toArray, ho]
    rcases hstep with ⟨hw, hq1⟩ | ⟨hw, hq, hni⟩
    · rw [wanted_of hknown hw, if_pos rfl]
      left
      exact hq1 _ (by simp [valsOf]) (by rw [valsOf_some]; exact may_of hcl hsz ho hed' hunf Es) (fun p hp _ u hu => by
        obtain ⟨q', hq'⟩ := List.getElem?_of_mem hp
        rw [List.getElem?_zip_eq_some] at hq'
        obtain ⟨z1, z2⟩ := hq'
        rw [valsOf, List.getElem?_map, z1, Option.map_some, Option.some.injEq, hu] at z2
        rw [huf]
        cases hli : listed.getD p.1 false with
        | true => rw [hli, cond_true] at z2; simp only [hli, cond_true]; exact (Option.some.inj z2).symm
        | false => rw [hli, cond_false] at z2; cases z2) st1 g w a K' _ hI1 hs hknown hn (fun rv g' w' v st2 he' hs' hR hQv hI2 => hK _ _ (after v rv g' w' st2 he' hs' hR hQv hI2))
        (fun pv rv g' w' st2 he' hs' hR hx => ⟨hn, hd, g', T0, st2, he.trans he', hs', (fun t v ht => by
          obtain ⟨v0, h0, hle⟩ := hT0 t v ht
          obtain ⟨rv, q1, q2⟩ := hA t v0 h0 (fun i hi hdi => absurd hdi (keepsT_spec hkp ht hi))
          exact ⟨rv, q1, R.le hle (q2.ext he')⟩), pv, rv, rfl, hR, hX pv st2 hx⟩)
    · rw [wanted_of hknown hw, if_neg (by simp)]
      exact hK _ _ (after _ undef g w st1 (.refl _ _) hs (.lit _) hq (by rw [setV_none Es _ (by simp [valsOf]) hni]; exact hI1))
  have key : ∀ (m : Nat) (listed : Array Bool) (a : Act) (w : World), Inv listed a w → μ listed ≤ m → wpAny P .any l.toArray (QOf n ds g0 w0 K E) m listed a w := by
    intro m
    induction m with
    | zero =>
      intro listed a w hi hm0
      have hall : ∀ j, j < l.length → listed.getD j true = true := fun j hj => by
        cases hv : listed.getD j true with
        | true => rfl
        | false => have := hμ listed j hj hi.1 hv; omega
      have hlk : l.length = k' := by
        rcases Nat.eq_or_lt_of_le hkl with h' | h'
        · exact h'.symm
        · have h1 := hall k' h'
          have h2 := hi.2.2.2.1 k' (Nat.le_refl _) h'
          rw [h1] at h2
          cases h2
      exact done 0 listed a w hi (fun j hj => hall j (by omega)) (by omega)
    | succ m ih =>
      intro listed a w hi hm1
      by_cases hall : ∀ j, j < k' → listed.getD j true = true
      · refine done (m + 1) listed a w hi hall ?_
        have : l.length - k' ≤ μ listed := by
          exact countP_range_ge k' _ l.length fun j h1 h2 => by rw [hi.2.2.2.1 j h1 h2]; rfl
        omega
      · have hex : ∃ j, j < k' ∧ listed.getD j true = false ∧ ∀ q, q < j → listed.getD q true = true := by
          have : ∃ j, j < k' ∧ listed.getD j true = false := by
            apply Classical.byContradiction
            intro hno
            apply hall
            intro j hj
            cases hv : listed.getD j true with
            | true => rfl
            | false => exact absurd ⟨j, hj, hv⟩ hno
          obtain ⟨j, hj⟩ := this
          induction j using Nat.strongRecOn with
          | _ j ihj =>
            by_cases hq : ∀ q, q < j → listed.getD q true = true
            · exact ⟨j, hj.1, hj.2, hq⟩
            · simp only [Classical.not_forall] at hq
              obtain ⟨q, hqj, hq⟩ := hq
              exact ihj q hqj ⟨by omega, by simpa using hq⟩
        obtain ⟨j0, hj0, hv0, hmin⟩ := hex
        have hsz := hi.1
        have hjl : j0 < l.length := by omega
        have hkj : k ≤ j0 := by
          rcases Nat.lt_or_ge j0 k with h' | h'
          · rw [hi.2.2.1 j0 h'] at hv0; cases hv0
          · exact h'
        have hready : j0 ∈ Region.ready .any l.toArray listed := ready_of_edges hv0 (List.getElem?_eq_getElem hjl) (fun x hx => by
          have hxj := hedge j0 _ (List.getElem?_eq_getElem hjl) x hx
          rw [getD_ft (by omega)]
          exact hmin x hxj)
        refine ⟨fun h0 => (by rw [h0] at hready; cases hready), fun i hri => ?_⟩
        obtain ⟨hun, o, ho, hed'⟩ := ready_edges hri
        have hil := (List.getElem?_eq_some_iff.1 ho).1
        have hik : i < k' := by
          rcases Nat.lt_or_ge i k' with h' | h'
          · exact h'
          · have h1 := preds_listed hi.2.1 ho hed' (htail i o h' ho j0 hkj hj0)
            rw [getD_ft (by omega), hv0] at h1
            cases h1
        have hki : k ≤ i := by
          rcases Nat.lt_or_ge i k with h' | h'
          · rw [hi.2.2.1 i h'] at hun; cases hun
          · exact h'
        obtain ⟨q, rfl⟩ : ∃ q, i = k + q := ⟨i - k, by omega⟩
        exact step _ listed a w q hi (by omega) hri fun a' w' hi' => ih _ a' w' hi' (by have := hμ listed (k + q) hil hsz hun; omega)
  refine key m1 listed1 a1 w1 ⟨hsz1, hc1, fun j hj => by rw [hli1 j (by omega), decide_eq_true hj], fun j h1 h2 => by rw [hli1 j h2, decide_eq_false (by omega)], hn1, hd1, g1, st, fun _ => .bool true, he1, hs1, ?_, fun t v ht _ => hk1 t v ht, fun i Q hi _ hl => ?_, fun i d hi hdi hl => ?_⟩ ?_
  · have : valsOf Es listed1 (fun _ => .bool true) = Es.map fun _ => none := List.map_congr_left fun e he => by
      obtain ⟨h1, h2⟩ := hEs e he
      rw [getD_ft (by omega), hli1 e (by omega), decide_eq_false (by omega)]
      rfl
    rw [this]
    exact hI
  · rw [getD_ft (by omega), hli1 (k + i) (by omega), decide_eq_false (by omega)] at hl
    cases hl
  · rw [getD_ft (by omega), hli1 (k + i) (by omega), decide_eq_false (by omega)] at hl
    cases hl
  · have h2 : μ listed1 = (List.range l.length).countP fun j => !decide (j < k) := List.countP_congr fun j hj => by rw [hli1 j (List.mem_range.1 hj)]
    rw [h2]
    have h3 : ∀ N, (List.range N).countP (fun j => !decide (j < k)) ≤ N - k := by
      intro N
      induction N with
      | zero => simp
      | succ N ih =>
        rw [List.range_succ, List.countP_append, List.countP_singleton]
        by_cases hN : N < k
        · simp only [hN, decide_true, Bool.not_true, Bool.false_eq_true, if_false]; omega
        · simp only [hN, decide_false, Bool.not_false, if_true]; omega
    have := h3 l.length
    omega
def IP (J : List (Option AV) → St → Prop) (base : St) (vs : List (Option AV)) (s : St) : Prop := J vs s ∧ StLe s base
variable {X : AV → St → Prop} {J : List (Option AV) → St → Prop} {base : St} {S Es : List Nat} {ops : Array Oper} {Qs : List (AV → Prop)} {vals : Nat → AV}
/-- A quiet step. -/
theorem dqP {i : Nat} {o : Oper} {r : List Oper} {d : Tmp} {v : AV} {k : Tmps → St → Prop} (hi : Es.contains i = false := by exact rfl) (hd : dstA n o.dst = some d := by exact rfl) (hw : wantedA ops (see ops o T) o = some true := by exact rfl)
    (h : ∀ st', StLe st' base → AOps P n ops [o] (fun T' st'' => ∃ u, T' = (d, u) :: see ops o T ∧ (u = v ∧ st'' = st')) (fun _ _ _ => False) (see ops o T) st')
    (z : DRunP P n X (IP J base) S Es ops (i + 1) r Qs ((d, v) :: T) (fun j => bif Nat.beq j i then v else vals j) k) : DRunP P n X (IP J base) S Es ops i (o :: r) ((fun u => u = v) :: Qs) T vals k := by
  obtain ⟨hd', hdn⟩ := dstA_some hd
  refine ⟨⟨v, rfl⟩, hdn, .inl ⟨hw, fun vs hl _ _ => ?_⟩, fun u hu => ?_⟩
  · intro s g w a K' Q' ⟨hJ, hle⟩ hs hk hn hK _
    refine AOps.single hd' (dstOk_lt hdn d hd') (h s hle) hw hs hk K' Q' (fun rv g' w' u st' he hs' hR ⟨hu, hst⟩ => ?_) hn
    subst hu hst
    exact hK rv g' w' u st' he hs' hR rfl (by rw [setV_none Es vs hl hi]; exact ⟨hJ, hle⟩)
  · subst hu
    rw [hd']
    exact z
theorem dsP {i : Nat} {o : Oper} {r : List Oper} {d : Tmp} {v : AV} {k : Tmps → St → Prop} (hi : Es.contains i = false := by exact rfl) (hs : step1 ops n base (see ops o T) o = some (d, v) := by exact rfl)
    (z : DRunP P n X (IP J base) S Es ops (i + 1) r Qs ((d, v) :: T) (fun j => bif Nat.beq j i then v else vals j) k) : DRunP P n X (IP J base) S Es ops i (o :: r) ((fun u => u = v) :: Qs) T vals k := by
  have hg : goes ops n (see ops o T) o = some d := by
    unfold step1 at hs
    split at hs
    · rename_i h1 h2
      cases hs
      exact h1
    · cases hs
  obtain ⟨hw, hd, hok⟩ := goes_some hg
  have hda : dstA n o.dst = some d := by
    unfold goes at hg
    rw [hw] at hg
    exact hg
  exact dqP hi hda hw (fun st' hle => sm ((step1_glob (n := n) (ops := ops) hle.glob (see ops o T) o).symm.trans hs) (nl ⟨v, rfl, rfl, rfl⟩)) z
/-- A step whose outcome and state belong together. -/
theorem deP0 (Q : AV → Prop) (L : List (List Bool)) {i : Nat} {o : Oper} {r : List Oper} {d : Tmp} {k : Tmps → St → Prop} (hL : (allBits Es.length).filter (mayBe S Es i) = L) (hd : dstA n o.dst = some d) (hw : wantedA ops (see ops o T) o = some true) (hex : ∃ u, Q u)
    (h : BAll L fun bs => ∀ vs, vs.map Option.isSome = bs → LinkV Es i vals vs → ∀ s, J vs s → StLe s base → AOps P n ops [o] (fun T' st'' => ∃ u, T' = (d, u) :: see ops o T ∧ (Q u ∧ J (setV Es i u vs) st'' ∧ StLe st'' base)) (fun _ _ _ => False) (see ops o T) s)
    (z : ∀ u, Q u → DRunP P n X (IP J base) S Es ops (i + 1) r Qs ((d, u) :: T) (fun j => bif Nat.beq j i then u else vals j) k) : DRunP P n X (IP J base) S Es ops i (o :: r) (Q :: Qs) T vals k := by
  obtain ⟨hd', hdn⟩ := dstA_some hd
  refine ⟨hex, hdn, .inl ⟨hw, fun vs hl hm hlk => ?_⟩, fun u hu => ?_⟩
  · intro s g w a K' Q' ⟨hJ, hle⟩ hs hk hn hK _
    have h' := h.get (vs.map Option.isSome) (by rw [← hL, List.mem_filter]; exact ⟨by rw [← hl, ← List.length_map (f := Option.isSome)]; exact mem_allBits _, hm⟩) vs rfl hlk s hJ hle
    exact AOps.single hd' (dstOk_lt hdn d hd') h' hw hs hk K' Q' (fun rv g' w' u st' he hs' hR hu => hK rv g' w' u st' he hs' hR hu.1 hu.2) hn
  · rw [hd']
    exact z u hu
/-- A step that writes. -/
theorem dnWP (L : List (List Bool)) {i : Nat} {o : Oper} {r : List Oper} {k : Tmps → St → Prop} (hL : (allBits Es.length).filter (mayBe S Es i) = L) (hd : o.dst = none) (hw : wantedA ops (see ops o T) o = some true)
    (h : BAll L fun bs => ∀ vs, vs.map Option.isSome = bs → LinkV Es i vals vs → ∀ s, J vs s → StLe s base → AOps P n ops [o] (fun T' st'' => T' = see ops o T ∧ (∀ u, J (setV Es i u vs) st'') ∧ StLe st'' base) (fun _ _ _ => False) (see ops o T) s)
    (z : ∀ u, DRunP P n X (IP J base) S Es ops (i + 1) r Qs T (fun j => bif Nat.beq j i then u else vals j) k) : DRunP P n X (IP J base) S Es ops i (o :: r) ((fun _ => True) :: Qs) T vals k := by
  refine ⟨⟨.bool true, trivial⟩, by rw [hd]; rfl, .inl ⟨hw, fun vs hl hm hlk => ?_⟩, fun u _ => ?_⟩
  · intro s g w a K' Q' ⟨hJ, hle⟩ hs hk hn hK _
    have h' := h.get (vs.map Option.isSome) (by rw [← hL, List.mem_filter]; exact ⟨by rw [← hl, ← List.length_map (f := Option.isSome)]; exact mem_allBits _, hm⟩) vs rfl hlk s hJ hle
    exact AOps.singleN h' hw hs hk K' Q' (fun rv g' w' st' he hs' hst => hK rv g' w' (.lit rv) st' he hs' (.lit rv) trivial ⟨hst.1 _, hst.2⟩) hn
  · rw [hd]
    exact z u
theorem dnP {i : Nat} {k : Tmps → St → Prop} (h : ∀ s, J (Es.map fun e => some (vals e)) s → k T s) : DRunP P n X (IP J base) S Es ops i [] [] T vals k := fun s hs => h s hs.1
theorem AAny.segXT (T0 : Tmps) (hX : ∀ pv st', X pv st' → E (.panic pv) T0 st') (hT0 : TLe T T0) {l : List Oper} {k : Nat} (k' : Nat) (Es : List Nat) (J : List (Option AV) → St → Prop) (base : St) {Qs : List (AV → Prop)} (hok : segOk l k k' Es = true) (hkp : keepsT l k k' T0 = true) (hJ : J (Es.map fun _ => none) st) (hb : StLe st base)
    (h : DRunP P n X (IP J base) (predSets l []) Es l.toArray k ((l.drop k).take (k' - k)) Qs T (fun _ => .bool true) fun T' st' => AAny P n l k' K E T' st') : AAny P n l k K E T st :=
  AAny.segPT T0 hX hT0 k' hkp _ Es (IP J base) Qs hok rfl ⟨hJ, hb⟩ _ h
theorem AAny.segX (hX : ∀ pv st', X pv st' → E (.panic pv) [] st') {l : List Oper} {k : Nat} (k' : Nat) (Es : List Nat) (J : List (Option AV) → St → Prop) (base : St) {Qs : List (AV → Prop)} (hok : segOk l k k' Es = true) (hJ : J (Es.map fun _ => none) st) (hb : StLe st base)
    (h : DRunP P n X (IP J base) (predSets l []) Es l.toArray k ((l.drop k).take (k' - k)) Qs T (fun _ => .bool true) fun T' st' => AAny P n l k' K E T' st') : AAny P n l k K E T st :=
  AAny.segXT [] hX (fun _ _ h => by cases h) k' Es J base hok (by unfold keepsT; rw [List.all_eq_true]; intro o _; cases o.dst <;> rfl) hJ hb h
/-- A step that may panic. -/
theorem AOps.singleP {X : AV → St → Prop} {ops : Array Oper} {o : Oper} {d : Tmp} (hd : o.dst = some d) (hdn : d < n) {v : AV → St → Prop}
    (h : AOps P n ops [o] (fun T' st' => ∃ u, T' = (d, u) :: T ∧ v u st') (fun e _ st' => match e with | .panic pv => X pv st' | _ => False) T st) (hw : wantedA ops T o = some true)
    {g : G} {w : World} {a : Act} (hs : Sim g w st) (hk : Known g w T a) (K' : Act → World → Prop) (Q' : Exit → Act → World → Prop)
    (hK : ∀ rv g' w' u st', Ext g w g' w' → Sim g' w' st' → R g' w' u rv → v u st' → K' (a.put o.dst rv) w') (hn : a.tmps.size = n)
    (hP : ∀ pv rv g' w' st1, Ext g w g' w' → Sim g' w' st1 → R g' w' pv rv → X pv st1 → Q' (.panic [{ v := rv, recovered := false }]) a w') : o.wp P a w K' Q' := by
  have h1 := h g w a hs hk hn
  unfold wpList at h1
  rw [wanted_of hk hw, if_pos rfl] at h1
  rcases h1 with h1 | ⟨_, h1⟩
  · refine wp_putA h1 (fun a' w' hda hq ⟨rv, hrv⟩ => ?_) (fun a' w' hq => hq.2.1) (fun e w' hq => ?_) (fun a' w' hq => ?_)
    · obtain ⟨h2, h3, g', T', st', h4, h5, h6, u, hT, hv⟩ := hq
      subst hT
      subst hrv
      obtain ⟨ru, h7, h8⟩ := h6 d u (by rw [Tmps.get_cons, if_pos rfl])
      rw [hd] at h7
      simp only [Act.put, Array.getElem?_setIfInBounds] at h7
      simp [hn, hdn] at h7
      subst h7
      exact hK rv g' w' u st' h4 h5 h8 hv
    · obtain ⟨z1, z2, g', T', st', z3, z4, _, h6⟩ := hq
      obtain ⟨pv, rv, rfl, h8, h7⟩ := h6
      exact hP pv rv g' w' st' z3 z4 h8 h7
    · obtain ⟨_, _, _, _, _, _, _, _, h6⟩ := hq
      exact h6.elim
  · exact absurd h1 LetsOut.not_QOf
/-- A step whose outcome and state belong together, or that panics. -/
theorem deP (Q : AV → Prop) (L : List (List Bool)) {i : Nat} {o : Oper} {r : List Oper} {d : Tmp} {k : Tmps → St → Prop} (hL : (allBits Es.length).filter (mayBe S Es i) = L) (hd : dstA n o.dst = some d) (hw : wantedA ops (see ops o T) o = some true) (hex : ∃ u, Q u)
    (h : BAll L fun bs => ∀ vs, vs.map Option.isSome = bs → LinkV Es i vals vs → ∀ s, J vs s → StLe s base → AOps P n ops [o] (fun T' st'' => ∃ u, T' = (d, u) :: see ops o T ∧ (Q u ∧ J (setV Es i u vs) st'' ∧ StLe st'' base)) (fun e _ st' => match e with | .panic pv => X pv st' | _ => False) (see ops o T) s)
    (z : ∀ u, Q u → DRunP P n X (IP J base) S Es ops (i + 1) r Qs ((d, u) :: T) (fun j => bif Nat.beq j i then u else vals j) k) : DRunP P n X (IP J base) S Es ops i (o :: r) (Q :: Qs) T vals k := by
  obtain ⟨hd', hdn⟩ := dstA_some hd
  refine ⟨hex, hdn, .inl ⟨hw, fun vs hl hm hlk => ?_⟩, fun u hu => ?_⟩
  · intro s g w a K' Q' ⟨hJ, hle⟩ hs hk hn hK hP
    have h' := h.get (vs.map Option.isSome) (by rw [← hL, List.mem_filter]; exact ⟨by rw [← hl, ← List.length_map (f := Option.isSome)]; exact mem_allBits _, hm⟩) vs rfl hlk s hJ hle
    exact AOps.singleP hd' (dstOk_lt hdn d hd') h' hw hs hk K' Q' (fun rv g' w' u st' he hs' hR hu => hK rv g' w' u st' he hs' hR hu.1 hu.2) hn hP
  · rw [hd']
    exact z u hu
end
end Go.AM
/- Bytes that are appended out of strings; unsafe.String over them; pointers that are compared or converted. No conditions: definitions and lemmas only. -/
namespace Go.AM
open Go.RowKit (Below)
def brows (l : List UInt8) : List (List AV) := l.map fun c => [.int .u8 (c.toNat : Int)]
theorem brows_len (l : List UInt8) : (brows l).length = l.length := List.length_map ..
theorem brows_append (l s : List UInt8) : brows (l ++ s) = brows l ++ brows s := List.map_append ..
theorem brows_get {l : List UInt8} {i : Nat} {row : List AV} (h : (brows l)[i]? = some row) : ∃ c, l[i]? = some c ∧ row = [.int .u8 (c.toNat : Int)] := by
  unfold brows at h
  rw [List.getElem?_map] at h
  cases hc : l[i]? with
  | none => rw [hc] at h; cases h
  | some c => rw [hc] at h; cases h; exact ⟨c, rfl, rfl⟩
theorem brows_row {l : List UInt8} : ∀ row ∈ brows l, row.length = 1 ∧ ∀ c ∈ row, c.one = true := by
  intro row h
  simp only [brows, List.mem_map] at h
  obtain ⟨c, _, rfl⟩ := h
  exact ⟨rfl, fun x hx => by rw [List.mem_singleton.1 hx]; rfl⟩
section
variable {P : Program} {n : Nat} {K : Post} {E : EPost} {T : Tmps} {st : St} {ops : Array Oper} {rest : List Oper}
variable {ty : TypeId} {pos : String} {es : Array Edge} {gd : Option (Nat × Bool)} {d : Tmp} {x y : Operand} {dd : Option Tmp}
open Go.Lib (strCells strCells_length)
theorem strCells_mk (s : List UInt8) : strCells ⟨⟨s⟩⟩ = s.map fun b => Value.int .u8 b.toNat := rfl
theorem size_mk (s : List UInt8) : (⟨⟨s⟩⟩ : ByteArray).size = s.length := rfl
/-- A string behind nil. -/
theorem append_nil_str {g : G} {w : World} (hs : Sim g w st) {t u e : TypeId} [hu : Und P t (.slice e)] [hus : Und P u .string] [hie : Inf P e 1 1 (.int .u8 0)] {ty : TypeId} {s : List UInt8} (h0 : s ≠ []) (hb : s.length ≤ 140737488355328) :
    ∃ v w' g' o', (Builtin.append_ #[t, u] ty #[.slice none 0 0, .string ⟨⟨s⟩⟩]).run P w = .ok v w' ∧ Ext g w g' w' ∧ Sim g' w' (st.set o' (.cells e 1 (brows s))) ∧ R g' w' (.msl o' 1 0 s.length) v ∧ st.obj o' = none := by
  obtain ⟨inf, i1, i2, i3, i4⟩ := hie.out
  have hpos : 0 < s.length := List.length_pos_iff.2 h0
  have hm : s.length ≤ maxLen := by simp only [maxLen]; omega
  have hr := run_append_nil_string (P := P) w t u ty e inf (.int .u8 0) hu.out hus.out i1 i4 ⟨⟨s⟩⟩ hpos (by rw [size_mk]; omega) (by rw [i3, size_mk]; omega)
  rw [size_mk] at hr
  have hge := grownCap_ge w s.length 0 e
  have hgm := grownCap_le_maxLen w s.length 0 e hm
  obtain ⟨hed, hsd⟩ := hs.draw
  generalize hcp : grownCap w s.length 0 e = cp at hr hge hgm
  generalize harr : (Array.map (fun b : UInt8 => Value.int .u8 b.toNat) (⟨s⟩ : Array UInt8)) ++ Builtin.zeroCells (Value.int IntKind.u8 0).cells (cp - s.length) = arr' at hr
  have hz1 : (Value.int IntKind.u8 0).cells.size = 1 := rfl
  have hsize' : arr'.size = cp * 1 := by
    rw [← harr]
    simp only [Array.size_append, Array.size_map, size_zeroCells, hz1, List.size_toArray]
    omega
  obtain ⟨g', he, hs', hob', hnone⟩ := hsd.newObj (.cells arr' e) (.cells e 1 (brows s)) (cp * 1) (fun g' he => by
    refine ⟨arr', heap_alloc_new _ _, hsize', by rw [brows_len]; exact Nat.mul_le_mul_right _ hge, fun r hr => (brows_row r hr).1, fun r hr => (brows_row r hr).2, fun i j row c hr hcj => ?_⟩
    obtain ⟨ch, hch, rfl⟩ := brows_get hr
    have hi : i < s.length := (List.getElem?_eq_some_iff.1 hch).1
    match j, hcj with
    | 0, hcj =>
      cases hcj
      refine ⟨.int .u8 ch.toNat, ?_, .int _ _⟩
      rw [← harr, Array.getElem?_append_left (by simpa using hi)]
      simp [hch]
    | j + 1, hcj => simp at hcj)
  refine ⟨_, _, g', g.next, hr, hed.trans he, hs', ?_, hnone⟩
  have := R.msl (g := g') (w := w.drew.alloc (.cells arr' e)) g.next 1 0 s.length cp w.drew.heap.size (cp * 1) hob' hge hgm (by simp)
  simpa using this
/-- A string behind bytes that are there. -/
theorem append_msl_str {g : G} {w : World} (hs : Sim g w st) {t u e : TypeId} [hu : Und P t (.slice e)] [hus : Und P u .string] [hie : Inf P e 1 1 (.int .u8 0)] {ty : TypeId} {o : Nat} {l s : List UInt8} {ux : Value}
    (h1 : R g w (.msl o 1 0 l.length) ux) (ho : st.obj o = some (.cells e 1 (brows l))) (hb : l.length + s.length ≤ 140737488355328) :
    ∃ v w' g' o', (Builtin.append_ #[t, u] ty #[ux, .string ⟨⟨s⟩⟩]).run P w = .ok v w' ∧ Ext g w g' w' ∧ Sim g' w' ((st.drop o).set o' (.cells e 1 (brows (l ++ s)))) ∧ R g' w' (.msl o' 1 0 (l ++ s).length) v ∧ (o' = o ∨ st.obj o' = none) := by
  obtain ⟨inf, i1, i2, i3, i4⟩ := hie.out
  have hm : l.length + s.length ≤ maxLen := by simp only [maxLen]; omega
  have hll : (brows (l ++ s)).length = l.length + s.length := by rw [brows_len, List.length_append]
  have hrow := fun r hr => (brows_row (l := l ++ s) r hr).1
  have h1row := fun r hr => (brows_row (l := l ++ s) r hr).2
  cases h1 with
  | msl _ _ _ _ cap b m hob hc hmx hfit0 =>
    obtain ⟨hbase, ⟨arr, ha, hasz, hml, hl, h1', hcell⟩, hnimm⟩ := hs.objOf ho hob
    simp only [Nat.zero_add, Nat.mul_one] at hfit0 ⊢
    have hold : ∀ (i : Nat) c, l[i]? = some c → arr[i]? = some (.int .u8 (c.toNat : Int)) := by
      intro i c hi
      obtain ⟨v, hv1, hv2⟩ := hcell i 0 [.int .u8 (c.toNat : Int)] (.int .u8 (c.toNat : Int)) (by unfold brows; rw [List.getElem?_map, hi]; rfl) rfl
      cases hv2
      simpa using hv1
    by_cases hroom : l.length + s.length ≤ cap
    · have hr := Lib.run_append_room_string (P := P) w t u ty e inf hu.out hus.out i1 i2 b l.length cap arr ha ⟨⟨s⟩⟩ hroom (by rw [size_mk]; omega)
      rw [size_mk] at hr
      generalize harr : (arr.toList.take l.length ++ strCells ⟨⟨s⟩⟩ ++ arr.toList.drop (l.length + s.length)).toArray = arr' at hr
      have hmin : min l.length arr.size = l.length := by omega
      have hlow : ∀ i, i < l.length → arr'[i]? = arr[i]? := by
        intro i hi
        rw [← harr, List.getElem?_toArray, List.append_assoc, List.getElem?_append_left (by simp; omega), List.getElem?_take_of_lt hi, Array.getElem?_toList]
      have hmid : ∀ q c, s[q]? = some c → arr'[l.length + q]? = some (.int .u8 (c.toNat : Int)) := by
        intro q c hq
        have hql := (List.getElem?_eq_some_iff.1 hq).1
        rw [← harr, List.getElem?_toArray, List.append_assoc, List.getElem?_append_right (by simp; omega)]
        simp only [List.length_take, Array.length_toList, hmin]
        rw [Nat.add_sub_cancel_left, List.getElem?_append_left (by rw [strCells_length]; exact hql), strCells_mk, List.getElem?_map, hq]
        rfl
      have hsize' : arr'.size = m := by
        rw [← harr, ← hasz]
        simp only [List.size_toArray, List.length_append, List.length_take, List.length_drop, Array.length_toList, strCells_length, size_mk]
        omega
      obtain ⟨he, hs'⟩ := hs.write (c' := .cells e 1 (brows (l ++ s))) ho hob (w.setRow b arr') (by simp) rfl rfl rfl (fun k hk => setRow_other w b k arr' hk) (fun he => by
        refine ⟨arr', setRow_heap w b arr arr' e (0, 0) ha, hsize', by rw [hll]; omega, hrow, h1row, fun i j row c hr hcj => ?_⟩
        obtain ⟨ch, hch, rfl⟩ := brows_get hr
        match j, hcj with
        | 0, hcj =>
          cases hcj
          refine ⟨.int .u8 ch.toNat, ?_, .int _ _⟩
          simp only [Nat.mul_one, Nat.add_zero]
          by_cases hi : i < l.length
          · rw [List.getElem?_append_left hi] at hch
            rw [hlow _ hi]
            exact hold _ _ hch
          · rw [List.getElem?_append_right (by omega)] at hch
            have := hmid _ _ hch
            rwa [show l.length + (i - l.length) = i by omega] at this
        | j + 1, hcj => simp at hcj)
      refine ⟨_, _, g, o, hr, he, by rw [St.drop_set_self]; exact hs', ?_, .inl rfl⟩
      have := R.msl (g := g) (w := w.setRow b arr') o 1 0 (l.length + s.length) cap b m hob hroom hmx (by simpa using hfit0)
      rw [List.length_append]
      simpa using this
    · have holds : ∀ (q : Nat) v, (strCells ⟨⟨l⟩⟩)[q]? = some v → w.cell? ((⟨b, 0, none⟩ : Addr).add q) = some v := by
        intro q v hq
        rw [strCells_mk, List.getElem?_map] at hq
        cases hc' : l[q]? with
        | none => rw [hc'] at hq; cases hq
        | some c =>
          rw [hc'] at hq
          cases hq
          rw [addr_add, Nat.zero_add, cell_of_row w b _ arr e (0, 0) ha]
          exact hold _ _ hc'
      have hr := Lib.run_append_grow_string (P := P) w t u ty e inf (.int .u8 0) hu.out hus.out i1 i4 ⟨b, 0, none⟩ l.length cap (strCells ⟨⟨l⟩⟩) (by rw [strCells_length, i2, size_mk, Nat.mul_one]) holds ⟨⟨s⟩⟩ (by rw [size_mk]; omega) (by rw [size_mk]; omega)
        (growslice_fits (by rw [size_mk]; omega) (by rw [i3, size_mk]; omega))
      rw [size_mk] at hr
      have hge := grownCap_ge w (l.length + s.length) cap e
      have hgm := grownCap_le_maxLen w (l.length + s.length) cap e hm
      obtain ⟨hed, hsd⟩ := hs.draw
      generalize hcp : grownCap w (l.length + s.length) cap e = cp at hr hge hgm
      generalize harr : (strCells ⟨⟨l⟩⟩).toArray ++ (strCells ⟨⟨s⟩⟩).toArray ++ Builtin.zeroCells (Value.int IntKind.u8 0).cells (cp - (l.length + s.length)) = arr' at hr
      have hz1 : (Value.int IntKind.u8 0).cells.size = 1 := rfl
      have hsize' : arr'.size = cp * 1 := by
        rw [← harr]
        simp only [Array.size_append, List.size_toArray, strCells_length, size_mk, size_zeroCells, hz1]
        omega
      obtain ⟨g', he, hs', hob', hnone⟩ := hsd.newObj (.cells arr' e) (.cells e 1 (brows (l ++ s))) (cp * 1) (fun g' he => by
        refine ⟨arr', heap_alloc_new _ _, hsize', by rw [hll]; exact Nat.mul_le_mul_right _ hge, hrow, h1row, fun i j row c hr hcj => ?_⟩
        obtain ⟨ch, hch, rfl⟩ := brows_get hr
        match j, hcj with
        | 0, hcj =>
          cases hcj
          refine ⟨.int .u8 ch.toNat, ?_, .int _ _⟩
          simp only [Nat.mul_one, Nat.add_zero]
          have hi : i < (l ++ s).length := (List.getElem?_eq_some_iff.1 hch).1
          rw [List.length_append] at hi
          have hap : (strCells ⟨⟨l⟩⟩).toArray ++ (strCells ⟨⟨s⟩⟩).toArray = (strCells ⟨⟨l⟩⟩ ++ strCells ⟨⟨s⟩⟩).toArray := by simp
          rw [← harr, hap, Array.getElem?_append_left (by simp only [List.size_toArray, List.length_append, strCells_length, size_mk]; exact hi), List.getElem?_toArray, strCells_mk, strCells_mk, ← List.map_append, List.getElem?_map, hch]
          rfl
        | j + 1, hcj => simp at hcj)
      have hne : g.next ≠ o := fun e => by rw [← e] at ho; rw [ho] at hnone; cases hnone
      refine ⟨_, _, g', g.next, hr, hed.trans he, ?_, ?_, .inr hnone⟩
      · rw [St.set_drop hne]
        exact hs'.le (StLe.drop o)
      · have := R.msl (g := g') (w := w.drew.alloc (.cells arr' e)) g.next 1 0 (l.length + s.length) cp w.drew.heap.size (cp * 1) hob' hge hgm (by simp)
        rw [List.length_append]
        simpa using this
/-- append of a string, in place, or to nil. -/
theorem aps {t u e : TypeId} [hu : Und P t (.slice e)] [hus : Und P u .string] [hie : Inf P e 1 1 (.int .u8 0)] {oo : Option Nat} {l s : List UInt8}
    (hg : goes ops n T ⟨dd, .call ⟨.builtin .append, #[x, y], #[t, u]⟩, ty, pos, es, gd⟩ = some d) (hx : ev st T x = some (mslot 1 l.length oo)) (hy : ev st T y = some (.str s)) (hf : mfit st l.length oo) (hb : l.length + s.length ≤ 140737488355328) (hne : ∀ o', oo = some o' → l ≠ [])
    (k : ∀ oo', mfit st (l ++ s).length oo' → (∀ o', oo' = some o' → l ++ s ≠ []) → AOps P n ops rest K E ((d, mslot 1 (l ++ s).length oo') :: T) (mst st e 1 (brows (l ++ s)) oo')) :
    AOps P n ops (⟨dd, .call ⟨.builtin .append, #[x, y], #[t, u]⟩, ty, pos, es, gd⟩ :: rest) K E T (mst st e 1 (brows l) oo) := by
  cases oo with
  | none =>
    have hl : l = [] := List.eq_nil_of_length_eq_zero hf
    subst hl
    refine AOps.stepAny hg fun g w a hs hk => ?_
    have h1 := ev_R hs hk hx
    have h2 := ev_R hs hk hy
    generalize hux : a.eval x = ux at h1
    generalize huy : a.eval y = uy at h2
    have hrv : ux = .slice none 0 0 := by
      cases h1 with
      | vnil => rfl
      | vemp _ _ _ hn _ => exact absurd rfl hn
      | view _ _ _ _ _ _ _ _ _ _ _ ht' => simp [TokAt] at ht'
    subst hrv
    cases h2
    by_cases h0 : s = []
    · subst h0
      have hr : (Builtin.append_ #[t, u] ty #[.slice none 0 0, .string ⟨⟨[]⟩⟩]).run P w = .ok (.slice none 0 0) w := by
        obtain ⟨inf, i1, i2, i3, i4⟩ := hie.out
        have hf := Lib.run_firstCells_string (P := P) w 1 ⟨⟨[]⟩⟩
        have hsz : (⟨⟨[]⟩⟩ : ByteArray).size = 0 := rfl
        rw [hsz] at hf
        simp [Builtin.append_, run_underlying hu.out, run_underlying hus.out, sizeOf, typeInfo, i1, i2, Builtin.lenOf, hsz, hf]
      exact ⟨.slice none 0 0, g, w, _, _, by simp [execOp, resolve, invoke, builtin, hux, huy, hr], .refl _ _, hs, .vnil _ .nil rfl, k none rfl (fun _ e => by cases e)⟩
    · obtain ⟨v, w', g', o', hr, he, hs', hR, hn⟩ := append_nil_str (P := P) hs (t := t) (u := u) (e := e) (ty := ty) h0 (by simpa using hb)
      exact ⟨v, g', w', _, _, by simp [execOp, resolve, invoke, builtin, hux, huy, hr], he, hs', hR, k (some o') hn (fun _ _ => h0)⟩
  | some o =>
    have hfo : st.obj o = none := hf
    have hx' : ev (mst st e 1 (brows l) (some o)) T x = some (.msl o 1 0 l.length) := (ev_glob (s := mst st e 1 (brows l) (some o)) (s' := st) rfl T x).trans hx
    have hy' : ev (mst st e 1 (brows l) (some o)) T y = some (.str s) := (ev_glob (s := mst st e 1 (brows l) (some o)) (s' := st) rfl T y).trans hy
    refine AOps.stepAny hg fun g w a hs hk => ?_
    have h1 := ev_R hs hk hx'
    have h2 := ev_R hs hk hy'
    generalize hux : a.eval x = ux at h1
    generalize huy : a.eval y = uy at h2
    cases h2
    obtain ⟨v, w', g', o', hr, he, hs', hR, ho'⟩ := append_msl_str (P := P) hs (t := t) (u := u) (e := e) (ty := ty) (s := s) h1 (St.obj_set _ _ _) hb
    have hn : st.obj o' = none := by
      rcases ho' with h | h
      · rw [h]; exact hfo
      · by_cases e : o' = o
        · rw [e]; exact hfo
        · have h' : (st.set o (.cells _ 1 (brows l))).obj o' = none := h
          rwa [St.obj_set_ne e] at h'
    exact ⟨v, g', w', _, _, by simp [execOp, resolve, invoke, builtin, hux, huy, hr], he, hs'.le (StLe.regrow hfo), hR, k (some o') hn (fun _ _ e => hne o rfl (List.append_eq_nil_iff.1 e).1)⟩

theorem eqQ_nil {w : World} {t pt : TypeId} (hu : P.underlying t = some (.pointer pt)) (k : Nat) : (Op.equalIn (k + 1) t (.pointer none) (.pointer none)).run P w = .ok true w := by
  simp [Op.equalIn, run_underlying hu]
theorem eqQ_some {w : World} {t pt : TypeId} (hu : P.underlying t = some (.pointer pt)) (k : Nat) (a : Addr) : (Op.equalIn (k + 1) t (.pointer (some a)) (.pointer none)).run P w = .ok false w := by
  simp [Op.equalIn, run_underlying hu]
/-- Is a pointer nil? -/
theorem eqP {t u pt : TypeId} {v : AV} {b : Bool} [hq : Und P t (.pointer pt)] (hg : goes ops n T ⟨dd, .binOp .eql t x (.const (.pointer none)) u, ty, pos, es, gd⟩ = some d)
    (hx : ev st T x = some v) (hv : (v = .lit (.pointer none) ∧ b = true) ∨ (∃ o s i j, v = .cptr o s i j ∧ b = false))
    (h : AOps P n ops rest K E ((d, .bool b) :: T) st) : AOps P n ops (⟨dd, .binOp .eql t x (.const (.pointer none)) u, ty, pos, es, gd⟩ :: rest) K E T st := by
  have hu := hq.out
  obtain ⟨hw, hd, hok⟩ := goes_some hg
  simp only at hd
  subst hd
  refine AOps.pure hw hok _ (fun g w a' hs hk => ?_) h
  have h1 := ev_R hs hk hx
  generalize hu' : a'.eval x = u1 at h1
  have hrun : ∀ p b, (Op.equalIn (9999 + 1) t (.pointer p) (.pointer none)).run P w = .ok b w → a'.eval x = .pointer p →
      (execOp a'.eval ⟨some d, .binOp .eql t x (.const (.pointer none)) u, ty, pos, es, gd⟩).run P w = .ok (.value (.bool b)) w := by
    intro p b e1 e4
    show Sem.run P ((do eqGuard .eql t x (.const (.pointer none)) (a'.eval x) (.pointer none); binOp .eql t (a'.eval x) (.pointer none)) >>= fun z => pure (Next.value z)) w = _
    rw [e4]
    have e2 : (eqGuard .eql t x (.const (.pointer none)) (.pointer p) (.pointer none)).run P w = .ok () w := by unfold eqGuard; rfl
    simp only [Sem.run_bind, e2, Result.andThen_ok]
    have e3 : binOp .eql t (.pointer p) (.pointer none) = (do pure (.bool (← Op.equal t (.pointer p) (.pointer none)))) := by cases p <;> rfl
    have e1' : (Op.equal t (.pointer p) (.pointer none)).run P w = .ok b w := e1
    rw [e3]
    simp only [Sem.run_bind, e1', Result.andThen_ok]
    rfl
  rcases hv with ⟨rfl, rfl⟩ | ⟨o, s, i, j, rfl, rfl⟩
  · cases h1
    exact ⟨.bool true, hrun none true (eqQ_nil hu 9999) hu', .bool _⟩
  · cases h1
    exact ⟨.bool false, hrun _ false (eqQ_some hu 9999 _) hu', .bool _⟩
/-- Two pointers that are the same. -/
theorem neQ {t u pt : TypeId} {o s i j : Nat} [hq : Und P t (.pointer pt)] {sz by_ : Nat} {zz : Value} [hi : Inf P pt sz by_ zz] (hg : goes ops n T ⟨dd, .binOp .neq t x y u, ty, pos, es, gd⟩ = some d)
    (hx : ev st T x = some (.cptr o s i j)) (hy : ev st T y = some (.cptr o s i j))
    (h : AOps P n ops rest K E ((d, .bool false) :: T) st) : AOps P n ops (⟨dd, .binOp .neq t x y u, ty, pos, es, gd⟩ :: rest) K E T st := by
  obtain ⟨inf, i1, _⟩ := hi.out
  obtain ⟨hw, hd, hok⟩ := goes_some hg
  simp only at hd
  subst hd
  refine AOps.pure hw hok _ (fun g w a' hs hk => ?_) h
  have h1 := ev_R hs hk hx
  have h2 := ev_R hs hk hy
  generalize hu' : a'.eval x = u1 at h1
  generalize hv' : a'.eval y = u2 at h2
  cases h1 with
  | cptr _ _ _ _ b m hb =>
    cases h2 with
    | cptr _ _ _ _ b' m' hb' =>
      rw [hb] at hb'
      cases hb'
      refine ⟨.bool false, ?_, .bool _⟩
      show Sem.run P ((do eqGuard .neq t x y (a'.eval x) (a'.eval y); binOp .neq t (a'.eval x) (a'.eval y)) >>= fun z => pure (Next.value z)) w = _
      rw [hu', hv']
      have e2 : (eqGuard .neq t x y (.pointer (some ⟨b, i * s + j, none⟩)) (.pointer (some ⟨b, i * s + j, none⟩))).run P w = .ok () w := by unfold eqGuard; rfl
      simp only [Sem.run_bind, e2, Result.andThen_ok]
      rw [Lib.run_neq_ptr_same w ⟨b, i * s + j, none⟩ hq.out i1]
      rfl
/-- What of a row's memory does not hang on how long it is. -/
theorem lies_of {e u : TypeId} {c : Nat} (hc : 1 ≤ c) (h : liesAt P P.depth e 1 0 u 1 = true) (hu : ∀ m u', P.underlying u ≠ some (.array m u')) : liesAt P P.depth e c 0 u 1 = true := by
  have hd : P.depth = (2 * (P.types.size + Made.depth) + 1) + 1 := rfl
  rw [hd] at h ⊢
  unfold liesAt at h ⊢
  have key : rowAt P (sameLayout P P.depth · u) P.depth e 1 0 1 = true → rowAt P (sameLayout P P.depth · u) P.depth e c 0 1 = true := by
    intro h
    rw [hd] at h ⊢
    unfold rowAt at h ⊢
    simp only [Nat.zero_div, Nat.zero_mod, Nat.zero_add, Nat.le_refl, decide_true, Nat.zero_lt_one, hc, show 0 < c by omega] at h ⊢
    exact h
  cases hou : P.underlying u with
  | none =>
    simp only [hou, Bool.or_false] at h ⊢
    exact key h
  | some td =>
    cases td <;> first | exact absurd hou (hu _ _) | (simp only [hou, Bool.or_false] at h ⊢; exact key h)
def plain2 (P : Program) (u : TypeId) : Bool := match P.underlying u with | some (.array _ _) => false | _ => true
/-- A pointer to an object's first cell, as unsafe.Pointer. -/
theorem cvU {src dst t : TypeId} {o s : Nat} [hs : Und P src (.pointer t)] [hd : Und P dst .unsafePointer] {sz by_ : Nat} {zz : Value} [hi : Inf P t (sz + 1) by_ zz] {oty : TypeId} {row : List AV} {rows : List (List AV)}
    (hg : goes ops n T ⟨dd, .convert src dst x, ty, pos, es, gd⟩ = some d) (hx : ev st T x = some (.cptr o (s + 1) 0 0)) (ho : st.obj o = some (.cells oty (s + 1) (row :: rows)))
    (h : AOps P n ops rest K E ((d, .cptr o (s + 1) 0 0) :: T) st) : AOps P n ops (⟨dd, .convert src dst x, ty, pos, es, gd⟩ :: rest) K E T st := by
  obtain ⟨inf, i1, i2, _⟩ := hi.out
  obtain ⟨hw, hdd, hok⟩ := goes_some hg
  simp only at hdd
  subst hdd
  refine AOps.pure hw hok _ (fun g w a' hs' hk => ?_) h
  have h1 := ev_R hs' hk hx
  generalize hu' : a'.eval x = u1 at h1
  cases h1 with
  | cptr _ _ _ _ b m hb =>
    obtain ⟨_, ⟨arr, ha, hasz, hml, _⟩, _⟩ := hs'.objOf ho hb
    refine ⟨.pointer (some ⟨b, 0 * (s + 1) + 0, none⟩), ?_, .cptr _ _ _ _ _ _ hb⟩
    show Sem.run P (convert src dst (a'.eval x) >>= fun z => pure (Next.value z)) w = _
    rw [hu']
    simp only [List.length_cons] at hml
    have h2 : (s + 1) ≤ m := Nat.le_trans (by rw [Nat.add_mul, Nat.one_mul]; exact Nat.le_add_left _ _) hml
    have hr := Lib.run_to_unsafe (P := P) w (e := oty) (cells := arr.size) ⟨b, 0 * (s + 1) + 0, none⟩ hs.out hd.out i1 (by rw [i2]; exact Nat.succ_ne_zero _) (by simp [World.shape?, ha]) (by rw [hasz]; simp only [Nat.zero_mul, Nat.add_zero]; omega)
    simp only [Sem.run_bind, hr, Result.andThen_ok]
    rfl
/-- And back. -/
theorem cvP {src dst t : TypeId} {o s : Nat} [hs : Und P src .unsafePointer] [hd : Und P dst (.pointer t)] {sz by_ : Nat} {zz : Value} [hi : Inf P t (sz + 1) by_ zz] {oty : TypeId} {row : List AV} {rows : List (List AV)}
    (hg : goes ops n T ⟨dd, .convert src dst x, ty, pos, es, gd⟩ = some d) (hx : ev st T x = some (.cptr o (s + 1) 0 0)) (ho : st.obj o = some (.cells oty (s + 1) (row :: rows))) (hp : plain2 P t = true) (hl : liesAt P P.depth oty 1 0 t 1 = true) (hc : Nat.beq (P.cellsOf oty) (s + 1) = true)
    (h : AOps P n ops rest K E ((d, .cptr o (s + 1) 0 0) :: T) st) : AOps P n ops (⟨dd, .convert src dst x, ty, pos, es, gd⟩ :: rest) K E T st := by
  obtain ⟨inf, i1, i2, _⟩ := hi.out
  obtain ⟨hw, hdd, hok⟩ := goes_some hg
  simp only at hdd
  subst hdd
  refine AOps.pure hw hok _ (fun g w a' hs' hk => ?_) h
  have h1 := ev_R hs' hk hx
  generalize hu' : a'.eval x = u1 at h1
  cases h1 with
  | cptr _ _ _ _ b m hb =>
    obtain ⟨_, ⟨arr, ha, hasz, hml, _⟩, _⟩ := hs'.objOf ho hb
    refine ⟨.pointer (some ⟨b, 0 * (s + 1) + 0, none⟩), ?_, .cptr _ _ _ _ _ _ hb⟩
    show Sem.run P (convert src dst (a'.eval x) >>= fun z => pure (Next.value z)) w = _
    rw [hu']
    simp only [List.length_cons] at hml
    have h2 : (s + 1) ≤ m := Nat.le_trans (by rw [Nat.add_mul, Nat.one_mul]; exact Nat.le_add_left _ _) hml
    have hc' := Nat.eq_of_beq_eq_true hc
    have hle : 1 ≤ arr.size / P.cellsOf oty := by rw [hc', hasz]; exact (Nat.le_div_iff_mul_le (Nat.succ_pos s)).2 (by rw [Nat.one_mul]; exact h2)
    have hlies := lies_of (P := P) hle hl (fun m u' e => by unfold plain2 at hp; rw [e] at hp; cases hp)
    have hr := Lib.run_from_unsafe (P := P) w (e := oty) (cells := arr.size) ⟨b, 0 * (s + 1) + 0, none⟩ hs.out hd.out i1 (by simp [World.shape?, ha]) (by simpa using hlies)
    simp only [Sem.run_bind, hr, Result.andThen_ok]
    rfl
/-- A function without a body that hands back its argument. -/
class SameFun (P : Program) (f : FuncId) : Prop where
  out : ∃ fn, P.funcs[f]? = some fn ∧ (fn.name == "runtime.NumGoroutine") = false ∧ fn.body.isNone = true ∧ Extern.findNext fn = none ∧ Extern.find fn = some Extern.AbiNoEscape.same
theorem clE {f : FuncId} [hf : SameFun P f] {tys : Array TypeId} {v : AV}
    (hg : goes ops n T ⟨dd, .call ⟨.value (.func f), #[x], tys⟩, ty, pos, es, gd⟩ = some d) (hx : ev st T x = some v)
    (h : AOps P n ops rest K E ((d, v) :: T) st) : AOps P n ops (⟨dd, .call ⟨.value (.func f), #[x], tys⟩, ty, pos, es, gd⟩ :: rest) K E T st := by
  obtain ⟨fn, f1, f2, f3, f4, f5⟩ := hf.out
  obtain ⟨hw, hd, hok⟩ := goes_some hg
  simp only at hd
  subst hd
  refine AOps.pure hw hok _ (fun g w a' hs hk => ⟨a'.eval x, ?_, ev_R hs hk hx⟩) h
  have hr := run_callFunc_extern (P := P) f1 f2 f3 f4 f5 #[a'.eval x] w
  rw [Lib.run_noEscape] at hr
  have f2' : ¬ fn.name = "runtime.NumGoroutine" := by simpa using f2
  have f3' : fn.body = none := by simpa using f3
  rw [callFunc] at hr
  simp [f1, f2', f3', f4, f5] at hr
  simp [execOp, resolve, Act.eval, Deferred.ofValue, invoke, callFunc, f1, f2', f3', f4, f5] at hr ⊢
  exact hr
/-- The address of bytes. -/
def sdv (oo : Option Nat) : AV := match oo with | none => .lit (.pointer none) | some o => .cptr o 1 0 0
/-- unsafe.SliceData of bytes. -/
theorem sdt {t : TypeId} {oo : Option Nat} {l : List UInt8} (hg : goes ops n T ⟨dd, .call ⟨.builtin .unsafeSliceData, #[x], #[t]⟩, ty, pos, es, gd⟩ = some d) (hx : ev st T x = some (mslot 1 l.length oo)) (h0 : ∀ o, oo = some o → l ≠ [])
    (h : AOps P n ops rest K E ((d, sdv oo) :: T) st) : AOps P n ops (⟨dd, .call ⟨.builtin .unsafeSliceData, #[x], #[t]⟩, ty, pos, es, gd⟩ :: rest) K E T st := by
  obtain ⟨hw, hd, hok⟩ := goes_some hg
  simp only at hd
  subst hd
  refine AOps.pure hw hok _ (fun g w a' hs hk => ?_) h
  have h1 := ev_R hs hk hx
  generalize hu' : a'.eval x = u1 at h1
  cases oo with
  | none =>
    have hrv : u1 = .slice none 0 0 := by
      cases h1 with
      | vnil => rfl
      | vemp _ _ _ hn _ => exact absurd rfl hn
      | view _ _ _ _ _ _ _ _ _ _ _ ht' => simp [TokAt] at ht'
    subst hrv
    exact ⟨.pointer none, by simp [execOp, resolve, invoke, builtin, hu', Lib.run_unsafeSliceData_nil], .lit _⟩
  | some o =>
    cases h1 with
    | msl _ _ _ _ cap b m hb hc hm hs =>
      have : l.length ≠ 0 := fun e => h0 o rfl (List.eq_nil_of_length_eq_zero e)
      exact ⟨.pointer (some ⟨b, 0 * 1, none⟩), by simp [execOp, resolve, invoke, builtin, hu', Lib.run_unsafeSliceData_row _ _ _ _ _ cap (by omega)], .cptr o 1 0 0 b m hb⟩
end
end Go.AM
/- unsafe.String: the bytes of an object become a string; the object is given up. No conditions: lemmas only. -/
namespace Go.AM
open Go.RowKit (Below)
section
variable {P : Program} {n : Nat} {K : Post} {E : EPost} {T : Tmps} {st : St} {ops : Array Oper} {rest : List Oper}
variable {ty : TypeId} {pos : String} {es : Array Edge} {gd : Option (Nat × Bool)} {d : Tmp} {x y : Operand} {dd : Option Tmp}
theorem frz_heap (w : World) (b n k : Nat) (h : k ≠ b) : (w.freeze ⟨b, 0, none⟩ n).heap[k]? = w.heap[k]? := by
  unfold World.freeze
  split
  · rfl
  · simp only [Array.getElem?_modify]
    rw [if_neg (Ne.symm h)]
theorem frz_size (w : World) (b n : Nat) : (w.freeze ⟨b, 0, none⟩ n).heap.size = w.heap.size := by
  unfold World.freeze
  split
  · rfl
  · simp
theorem frz_cell (w : World) (b n : Nat) (a : Addr) : (w.freeze ⟨b, 0, none⟩ n).cell? a = w.cell? a := by
  unfold World.freeze
  split
  · rfl
  · unfold World.cell?
    simp only [Array.getElem?_modify]
    by_cases h : b = a.block
    · rw [if_pos h]
      cases w.heap[a.block]? with
      | none => rfl
      | some o =>
        cases o <;> rfl
    · rw [if_neg h]
theorem Sim.frozenObj {g : G} {w : World} (hs : Sim g w st) {o b m : Nat} {c : AObj} (ho : st.obj o = some c) (hb : g.obj o = some (b, m)) (n : Nat) :
    Ext g w g (w.freeze ⟨b, 0, none⟩ n) ∧ Sim g (w.freeze ⟨b, 0, none⟩ n) (st.drop o) := by
  obtain ⟨hbase, _, _⟩ := hs.objOf ho hb
  have he : Ext g w g (w.freeze ⟨b, 0, none⟩ n) := ⟨rfl, Nat.le_refl _, fun _ _ h => h, fun b' i _ => frz_cell w b n _, fun _ _ h => h, fun _ _ h => h, Lib.below_freeze (Below.refl _ _) hbase n⟩
  have hdrop : ∀ o2 c2, (st.drop o).obj o2 = some c2 → o2 ≠ o ∧ st.obj o2 = some c2 := fun o2 c2 h => by
    by_cases e : o2 = o
    · subst e
      simp [St.drop] at h
    · exact ⟨e, by rwa [St.obj_drop_ne e] at h⟩
  refine ⟨he, ?_⟩
  refine ⟨by rw [frz_size]; exact hs.base, fun o2 c2 h => ?_, fun o1 o2 c1 c2 b1 m1 m2 h1 h2 => hs.inj o1 o2 c1 c2 b1 m1 m2 (hdrop _ _ h1).2 (hdrop _ _ h2).2, fun t ht => ?_, fun t o2 c2 b2 r m2 ht h => hs.tobj t o2 c2 b2 r m2 ht (hdrop _ _ h).2, hs.tinj, fun b i h => by rw [frz_size]; exact hs.immlt b i h, fun o b m h => by rw [frz_size]; exact hs.objlt o b m h,
    fun t b r h => by rw [frz_size]; exact hs.toklt t b r h, hs.fresh, fun gi row h => (hs.globs gi row h).ext he⟩
  · obtain ⟨hne, h2⟩ := hdrop o2 c2 h
    obtain ⟨b2, m2, k1, k2, k3, k4⟩ := hs.objs o2 c2 h2
    refine ⟨b2, m2, k1, k2, k3.mono he (frz_heap w b n b2 fun e => hne ?_), k4⟩
    subst e
    exact hs.inj o2 o c2 c b2 m2 m h2 ho k1 hb
  · obtain ⟨⟨b', len, cap, e, size⟩, k1, k2⟩ := hs.toks t ht
    refine ⟨_, k1, ?_⟩
    cases b' with
    | none => exact k2
    | some b' =>
      obtain ⟨a1, a2, a3, a4, ⟨cur, a5, a6⟩, a7⟩ := k2
      have hne : b' ≠ b := fun e => by
        subst e
        exact hs.tobj t o c b' _ m ht ho k1 hb
      exact ⟨a1, a2, a3, a4, ⟨cur, (frz_heap w b n b' hne).trans a5, a6⟩, a7⟩
theorem ust {pt it e : TypeId} [hp : Und P pt (.pointer e)] {oo : Option Nat} {l : List UInt8} (hc : Nat.beq (P.cellsOf e) 1 = true)
    (hg : goes ops n T ⟨dd, .call ⟨.builtin .unsafeString, #[x, y], #[pt, it]⟩, ty, pos, es, gd⟩ = some d) (hx : ev st T x = some (sdv oo)) (hy : ev st T y = some (.int .i64 l.length)) (hf : mfit st l.length oo) (h0 : ∀ o, oo = some o → l ≠ [])
    (hm : l.length ≤ 140737488355328) (k : AOps P n ops rest K E ((d, .str l) :: T) st) :
    AOps P n ops (⟨dd, .call ⟨.builtin .unsafeString, #[x, y], #[pt, it]⟩, ty, pos, es, gd⟩ :: rest) K E T (mst st e 1 (brows l) oo) := by
  cases oo with
  | none =>
    have hl : l = [] := List.eq_nil_of_length_eq_zero hf
    subst hl
    refine AOps.stepAny hg fun g w a hs hk => ?_
    have h1 := ev_R hs hk hx
    have h2 := ev_R hs hk hy
    generalize hux : a.eval x = ux at h1
    generalize huy : a.eval y = uy at h2
    cases h1
    cases h2
    exact ⟨.string .empty, g, w, _, _, by
      have hr := Lib.run_unsafeString_none (P := P) w pt it ty none
      simp only [execOp, resolve, invoke, builtin, List.map_toArray, List.map_cons, List.map_nil, hux, huy, Sem.run_bind, Sem.run_pure, Result.andThen_ok]
      simp only [List.length_nil]
      rw [show ((0 : Nat) : Int) = 0 from rfl, hr]
      rfl, .refl _ _, hs, .str [], k⟩
  | some o =>
    have hfo : st.obj o = none := hf
    have hx' : ev (mst st e 1 (brows l) (some o)) T x = some (.cptr o 1 0 0) := (ev_glob (s := mst st e 1 (brows l) (some o)) (s' := st) rfl T x).trans hx
    have hy' : ev (mst st e 1 (brows l) (some o)) T y = some (.int .i64 l.length) := (ev_glob (s := mst st e 1 (brows l) (some o)) (s' := st) rfl T y).trans hy
    refine AOps.stepAny hg fun g w a hs hk => ?_
    have h1 := ev_R hs hk hx'
    have h2 := ev_R hs hk hy'
    generalize hux : a.eval x = ux at h1
    generalize huy : a.eval y = uy at h2
    cases h2
    cases h1 with
    | cptr _ _ _ _ b m hb =>
      have ho : (mst st e 1 (brows l) (some o)).obj o = some (.cells e 1 (brows l)) := St.obj_set _ _ _
      obtain ⟨_, ⟨arr, ha, hasz, hml, _, _, hcell⟩, _⟩ := hs.objOf ho hb
      obtain ⟨he, hs'⟩ := hs.frozenObj ho hb l.length
      have hle : StLe ((mst st e 1 (brows l) (some o)).drop o) st := ⟨fun p c hpc => by
        by_cases hpo : p = o
        · rw [hpo, hfo] at hpc; cases hpc
        · rw [St.obj_drop_ne hpo]
          exact (St.obj_set_ne hpo).trans hpc, fun _ h => h, rfl⟩
      rw [brows_len, Nat.mul_one] at hml
      have hr := Lib.run_unsafeString_row (P := P) w pt it ty e hp.out (Nat.eq_of_beq_eq_true hc) b arr.size (by simp [World.shape?, ha]) l (h0 o rfl) (by omega) (by omega) (fun j c hj => by
        obtain ⟨v, hv1, hv2⟩ := hcell j 0 [.int .u8 (c.toNat : Int)] (.int .u8 (c.toNat : Int)) (by unfold brows; rw [List.getElem?_map, hj]; rfl) rfl
        cases hv2
        rw [addr_add, Nat.zero_add, cell_of_row w b _ arr e (0, 0) ha]
        simpa using hv1)
      exact ⟨.string ⟨l.toArray⟩, g, _, _, _, by
        simp only [execOp, resolve, invoke, builtin, List.map_toArray, List.map_cons, List.map_nil, hux, huy, Sem.run_bind, Sem.run_pure, Result.andThen_ok]
        rw [show 0 * 1 + 0 = 0 from rfl, hr]
        rfl, he, hs'.le hle, .str l, k⟩
end
end Go.AM
/- A writer of the parser's printer: the builder in it. No conditions: definitions and lemmas only. -/
namespace Go.Proofs
open Go.AM
attribute [local irreducible] AWP AOps ACalls AAny

instance undUP : Und Tryd.prog 119 .unsafePointer := ⟨by kernel_rfl⟩
instance noEsc : SameFun Tryd.prog 66 := ⟨_, Tryd.func66, by kernel_rfl, by kernel_rfl, by kernel_rfl, by kernel_rfl⟩
/-- A writer: used or not, its bytes, their object. -/
def wS (st : St) (o : Nat) (used : Bool) (l : List UInt8) (oo : Option Nat) : St :=
  mst (st.set o (.cells 91 2 [[bif used then .cptr o 2 0 0 else .lit (.pointer none), mslot 1 l.length oo]])) 5 1 (brows l) oo
structure WOk (st : St) (o : Nat) (l : List UInt8) (oo : Option Nat) : Prop where
  ne : ∀ o', oo = some o' → o' ≠ o ∧ st.obj o' = none ∧ l ≠ []
  nil : oo = none → l = []
theorem mst_set {st : St} {o : Nat} {a b : AObj} {e : TypeId} {sz : Nat} {rows : List (List AV)} {oo : Option Nat} (h : ∀ o', oo = some o' → o' ≠ o) : (mst (st.set o a) e sz rows oo).set o b = mst (st.set o b) e sz rows oo := by
  cases oo with
  | none => exact St.set_set ..
  | some o' => exact St.set_inner (h o' rfl) ..
theorem mst_obj {st : St} {o : Nat} {a : AObj} {e : TypeId} {sz : Nat} {rows : List (List AV)} {oo : Option Nat} (h : ∀ o', oo = some o' → o' ≠ o) : (mst (st.set o a) e sz rows oo).obj o = some a := by
  cases oo with
  | none => exact St.obj_set ..
  | some o' => exact St.obj_under (h o' rfl) ..
theorem copyCheck_ok {st : St} {o : Nat} {used : Bool} {l : List UInt8} {oo : Option Nat} (h : WOk st o l oo) :
    ACalls Tryd.prog 56 [.cptr o 2 0 0] (wS st o used l oo) (fun _ st' => st' = wS st o true l oo) (fun _ _ => False) := by
  refine ACalls.ofBody Tryd.func56 rfl Tryd.ntmps56 rfl ?_
  have hO : (wS st o used l oo).obj o = some (.cells 91 2 [[bif used then .cptr o 2 0 0 else .lit (.pointer none), mslot 1 l.length oo]]) := mst_obj fun o' e => (h.ne o' e).1
  have hW : ∀ a, (wS st o used l oo).set o a = mst (st.set o a) 5 1 (brows l) oo := fun a => mst_set fun o' e => (h.ne o' e).1
  generalize hbf : mslot 1 l.length oo = bf at hO
  cases used with
  | false =>
    repeat (first | refine AWP.seq ?_ | refine rg ?_ | refine ZA (z := ?_) | refine ZC (z := ?_) | refine ZH (z := ?_))
    refine eqP (b := true) rfl rfl (.inl ⟨rfl, rfl⟩) ?_
    repeat (first | refine nl ?_ | refine rg ?_ | refine YH (z := ?_) | refine ZA (z := ?_))
    refine cvU rfl rfl hO ?_
    refine clE rfl rfl ?_
    refine cvP rfl rfl hO (by kernel_rfl) (by kernel_rfl) (by kernel_rfl) ?_
    repeat (first | refine ZA (z := ?_) | refine ZC (z := ?_))
    refine so (rows' := [[.cptr o 2 0 0, bf]]) rfl rfl rfl hO rfl rfl rfl rfl rfl ?_
    repeat (refine nl ?_)
    exact rets rfl (.refl _) (.refl _) (by rw [hW, ← hbf]; rfl)
  | true =>
    repeat (first | refine AWP.seq ?_ | refine rg ?_ | refine ZA (z := ?_) | refine ZC (z := ?_) | refine ZH (z := ?_))
    refine eqP (b := false) rfl rfl (.inr ⟨_, _, _, _, rfl, rfl⟩) ?_
    repeat (first | refine nl ?_ | refine AWP.seq ?_ | refine rg ?_ | refine YI (z := ?_) | refine ZA (z := ?_) | refine ZC (z := ?_) | refine ZH (z := ?_))
    refine neQ rfl rfl rfl ?_
    repeat (first | refine nl ?_ | refine AWP.skip ?_ | refine YI (z := ?_))
    exact rets rfl (.refl _) (.refl _) rfl

set_option maxHeartbeats 1000000 in
theorem writeString_ok {st : St} {o : Nat} {used : Bool} {l s : List UInt8} {oo : Option Nat} (h : WOk st o l oo) (hb : l.length + s.length ≤ 140737488355328) :
    ACalls Tryd.prog 48 [.cptr o 2 0 0, .str s] (wS st o used l oo) (fun _ st' => ∃ oo', WOk st o (l ++ s) oo' ∧ st' = wS st o true (l ++ s) oo') (fun _ _ => False) := by
  refine ACalls.ofBody Tryd.func48 rfl Tryd.ntmps48 rfl ?_
  repeat (first | refine nl ?_ | refine AWP.seq ?_ | refine rg ?_ | refine ZA (z := ?_))
  refine cl rfl rfl (copyCheck_ok h) fun v st' hst => ?_
  subst hst
  have hO0 : (wS st o true l oo).obj o = some (.cells 91 2 [[.cptr o 2 0 0, mslot 1 l.length oo]]) := mst_obj fun o' e => (h.ne o' e).1
  repeat (first | refine nl ?_ | refine AWP.seq ?_ | refine rg ?_ | refine ZA (z := ?_) | refine ZC (z := ?_) | refine ZH (z := ?_))
  refine aps (oo := oo) (l := l) (s := s) (e := 5) (st := st.set o (.cells 91 2 [[.cptr o 2 0 0, mslot 1 l.length oo]])) rfl rfl rfl (by
    cases oo with
    | none => rw [h.nil rfl]; rfl
    | some o' => exact (St.obj_set_ne (h.ne o' rfl).1).trans (h.ne o' rfl).2.1) hb (fun o' e => (h.ne o' e).2.2) fun oo' hf hn => ?_
  have hok : WOk st o (l ++ s) oo' := ⟨fun o' e => by
    subst e
    have hf : (st.set o _).obj o' = none := hf
    have hne : o' ≠ o := fun e => by subst e; rw [St.obj_set] at hf; cases hf
    exact ⟨hne, by rwa [St.obj_set_ne hne] at hf, hn o' rfl⟩, fun e => by subst e; exact List.eq_nil_of_length_eq_zero hf⟩
  have hO1 : (mst (st.set o (.cells 91 2 [[.cptr o 2 0 0, mslot 1 l.length oo]])) 5 1 (brows (l ++ s)) oo').obj o = some (.cells 91 2 [[.cptr o 2 0 0, mslot 1 l.length oo]]) := mst_obj fun o' e => (hok.ne o' e).1
  repeat (first | refine ZA (z := ?_) | refine ZC (z := ?_))
  refine so (rows' := [[.cptr o 2 0 0, mslot 1 (l ++ s).length oo']]) rfl rfl rfl hO1 rfl (by cases oo' <;> rfl) (by cases oo' <;> rfl) (by cases oo' <;> rfl) (by cases oo' <;> rfl) ?_
  rw [mst_set fun o' e => (hok.ne o' e).1]
  repeat (first | refine nl ?_ | refine AWP.seq ?_ | refine rg ?_ | refine ZA (z := ?_) | refine ZL (z := ?_))
  exact AWP.ret (rets rfl (.refl _) (.refl _) ⟨oo', hok, rfl⟩)
set_option maxHeartbeats 1000000 in
theorem writeByte_ok {st : St} {o : Nat} {used : Bool} {l : List UInt8} {c : UInt8} {oo : Option Nat} (h : WOk st o l oo) (hb : l.length + 1 ≤ 140737488355328) :
    ACalls Tryd.prog 55 [.cptr o 2 0 0, .int .u8 (c.toNat : Int)] (wS st o used l oo) (fun _ st' => ∃ oo', WOk st o (l ++ [c]) oo' ∧ st' = wS st o true (l ++ [c]) oo') (fun _ _ => False) := by
  refine ACalls.ofBody Tryd.func55 rfl Tryd.ntmps55 rfl ?_
  repeat (first | refine nl ?_ | refine AWP.seq ?_ | refine rg ?_ | refine ZA (z := ?_))
  refine cl rfl rfl (copyCheck_ok h) fun v st' hst => ?_
  subst hst
  have hO0 : (wS st o true l oo).obj o = some (.cells 91 2 [[.cptr o 2 0 0, mslot 1 l.length oo]]) := mst_obj fun o' e => (h.ne o' e).1
  repeat (first | refine nl ?_ | refine AWP.seq ?_ | refine rg ?_ | refine ZA (z := ?_) | refine ZC (z := ?_) | refine ZH (z := ?_) | refine ZQ (z := ?_))
  refine apq (rows := brows l) (oo := oo) (e := 5) (st := st.set o (.cells 91 2 [[.cptr o 2 0 0, mslot 1 l.length oo]])) rfl (by rw [brows_len]; rfl) rfl (by
    cases oo with
    | none => rw [h.nil rfl]; rfl
    | some o' => exact (St.obj_set_ne (h.ne o' rfl).1).trans (h.ne o' rfl).2.1) (by simp) rfl (by rw [brows_len]; simp only [List.length_cons, List.length_nil]; omega) (by rw [brows_len]; simp only [List.length_cons, List.length_nil, maxLen]; omega) fun o' hf => ?_
  have hne : o' ≠ o := fun e => by subst e; rw [St.obj_set] at hf; cases hf
  have hok : WOk st o (l ++ [c]) (some o') := ⟨fun o2 e => by
    cases e
    exact ⟨hne, by rwa [St.obj_set_ne hne] at hf, by simp⟩, fun e => by cases e⟩
  have hbr : brows l ++ [(AV.int .u8 (c.toNat : Int)).cells] = brows (l ++ [c]) := by rw [brows_append]; rfl
  have hbl : (brows l).length + [(AV.int .u8 (c.toNat : Int)).cells].length = (l ++ [c]).length := by rw [brows_len, List.length_append]; rfl
  rw [hbr, hbl]
  have hO1 : ((st.set o (.cells 91 2 [[.cptr o 2 0 0, mslot 1 l.length oo]])).set o' (.cells 5 1 (brows (l ++ [c])))).obj o = some (.cells 91 2 [[.cptr o 2 0 0, mslot 1 l.length oo]]) := St.obj_under hne _ _
  repeat (first | refine ZA (z := ?_) | refine ZC (z := ?_))
  refine so (rows' := [[.cptr o 2 0 0, mslot 1 (l ++ [c]).length (some o')]]) rfl rfl rfl hO1 rfl rfl rfl rfl rfl ?_
  rw [St.set_inner hne]
  repeat (first | refine nl ?_ | refine AWP.seq ?_ | refine rg ?_ | refine ZA (z := ?_))
  exact AWP.ret (rets rfl (.refl _) (.refl _) ⟨some o', hok, rfl⟩)
set_option maxHeartbeats 1000000 in
theorem builderString_ok {st : St} {o : Nat} {used : Bool} {l : List UInt8} {oo : Option Nat} (h : WOk st o l oo) (hb : l.length ≤ 140737488355328) :
    ACalls Tryd.prog 35 [.cptr o 2 0 0] (wS st o used l oo) (fun v st' => v = .str l ∧ ∃ c, st' = st.set o c) (fun _ _ => False) := by
  refine ACalls.ofBody Tryd.func35 rfl Tryd.ntmps35 rfl ?_
  have hO : (wS st o used l oo).obj o = some (.cells 91 2 [[bif used then .cptr o 2 0 0 else .lit (.pointer none), mslot 1 l.length oo]]) := mst_obj fun o' e => (h.ne o' e).1
  repeat (first | refine nl ?_ | refine AWP.seq ?_ | refine rg ?_ | refine ZA (z := ?_))
  refine AWP.any rfl ?_
  apply AAny.segQ (k' := 10) (hok := by decide +kernel)
  repeat (first | apply dsY (hi := rfl) (hs := rfl) | apply dqY (hi := rfl) (hd := rfl) (hw := rfl) (h := fun _ _ => ZC (z := nz)) | apply dqY (hi := rfl) (hd := rfl) (hw := rfl) (h := fun _ _ => ZH (z := nz)))
  apply dqY (hi := rfl) (hd := rfl) (hw := rfl) (h := fun _ _ => sdt rfl rfl (fun o' e => (h.ne o' e).2.2) nz)
  repeat (first | apply dsY (hi := rfl) (hs := rfl) | apply dqY (hi := rfl) (hd := rfl) (hw := rfl) (h := fun _ _ => ZC (z := nz)) | apply dqY (hi := rfl) (hd := rfl) (hw := rfl) (h := fun _ _ => ZH (z := nz)))
  apply dqY (hi := rfl) (hd := rfl) (hw := rfl) (h := fun _ _ => lnq rfl rfl (fun e => by rw [h.nil e]; rfl) nz)
  refine dnQ ?_
  refine AAny.one rfl rfl rfl rfl ?_
  refine ust (oo := oo) (l := l) (e := 5) (st := st.set o (.cells 91 2 [[bif used then .cptr o 2 0 0 else .lit (.pointer none), mslot 1 l.length oo]])) (by kernel_rfl) rfl rfl rfl (by
    cases oo with
    | none => rw [h.nil rfl]; rfl
    | some o' => exact (St.obj_set_ne (h.ne o' rfl).1).trans (h.ne o' rfl).2.1) (fun o' e => (h.ne o' e).2.2) hb (nl ⟨_, rfl, ?_⟩)
  refine AAny.text rfl ?_
  repeat (first | refine nl ?_ | refine ZA (z := ?_))
  exact AWP.ret (rets rfl (.refl _) (.refl _) ⟨rfl, _, rfl⟩)
end Go.Proofs
