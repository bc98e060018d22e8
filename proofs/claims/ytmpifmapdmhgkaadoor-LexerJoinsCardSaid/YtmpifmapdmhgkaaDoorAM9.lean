/- Regions that draw their order: quiet operations, at most one that changes the state, and a tail whose order is forced. No conditions: definitions and lemmas only. -/
import Derived.Test.YtmpifmapdmhgkaaDoorAM8
import Derived.Orders
namespace Go.AM
open Go.RowKit (Below)

def edgesOf (o : Oper) : List Nat := o.after.toList.filterMap fun e => bif Region.binds .any e then some e.on else none

def predStep (acc : List Nat) (o : Oper) : Nat := (edgesOf o).foldl (fun s e => s ||| (2 ^ e ||| acc.getD e 0)) 0

def predSets : List Oper → List Nat → List Nat
  | [], acc => acc
  | o :: r, acc => predSets r (acc ++ [predStep acc o])

/-- All that was listed waits for nothing that was not. -/
def Closed (l : List Oper) (listed : Array Bool) : Prop := ∀ i o, l[i]? = some o → listed.getD i false = true → ∀ e ∈ edgesOf o, listed.getD e false = true

theorem foldl_testBit (acc : List Nat) (j : Nat) : ∀ (es : List Nat) (s : Nat), (es.foldl (fun s e => s ||| (2 ^ e ||| acc.getD e 0)) s).testBit j = true → s.testBit j = true ∨ ∃ e ∈ es, j = e ∨ (acc.getD e 0).testBit j = true
  | [], s, h => .inl h
  | e :: es, s, h => by
    rcases foldl_testBit acc j es _ h with h | ⟨e', he', h⟩
    · rw [Nat.testBit_or, Nat.testBit_or] at h
      simp only [Bool.or_eq_true] at h
      rcases h with h | h | h
      · exact .inl h
      · rw [Nat.testBit_two_pow] at h
        exact .inr ⟨e, by simp, .inl (by simpa using (of_decide_eq_true h).symm)⟩
      · exact .inr ⟨e, by simp, .inr h⟩
    · exact .inr ⟨e', List.mem_cons_of_mem _ he', h⟩

theorem predSets_spec (all : List Oper) (listed : Array Bool) (hc : Closed all listed) : ∀ (r : List Oper) (acc : List Nat), (∀ j, r[j]? = all[acc.length + j]?) →
    (∀ i o, i < acc.length → all[i]? = some o → (∀ e ∈ edgesOf o, listed.getD e false = true) → ∀ j, (acc.getD i 0).testBit j = true → listed.getD j false = true) →
    ∀ i o, i < (predSets r acc).length → all[i]? = some o → (∀ e ∈ edgesOf o, listed.getD e false = true) → ∀ j, ((predSets r acc).getD i 0).testBit j = true → listed.getD j false = true
  | [], acc, _, h => h
  | o :: r, acc, hr, h => by
    have h0 : all[acc.length]? = some o := by simpa using (hr 0).symm
    refine predSets_spec all listed hc r (acc ++ [predStep acc o]) (fun j => by have := hr (j + 1); simpa [Nat.add_assoc, Nat.add_comm 1 j] using this) ?_
    intro i o' hi ho' he j hj
    by_cases hlt : i < acc.length
    · rw [List.getD_eq_getElem?_getD, List.getElem?_append_left hlt, ← List.getD_eq_getElem?_getD] at hj
      exact h i o' hlt ho' he j hj
    · have hie : i = acc.length := by simp at hi; omega
      subst hie
      rw [h0] at ho'
      cases ho'
      simp only [List.getD_eq_getElem?_getD, List.getElem?_concat_length, Option.getD_some] at hj
      rcases foldl_testBit acc j _ _ hj with hj | ⟨e, hee, hj⟩
      · simp at hj
      · have hel := he e hee
        rcases hj with rfl | hj
        · exact hel
        · have helt : e < acc.length := by
            rcases Nat.lt_or_ge e acc.length with h' | h'
            · exact h'
            · rw [List.getD_eq_getElem?_getD, List.getElem?_eq_none h'] at hj; simp at hj
          cases hoe : all[e]? with
          | none =>
            exact absurd hoe (by
              have := (List.getElem?_eq_some_iff.1 h0).1
              rw [List.getElem?_eq_getElem (by omega)]
              simp)
          | some oe => exact h e oe helt hoe (hc e oe hoe hel) j hj

theorem predSets_length : ∀ (r : List Oper) (acc : List Nat), (predSets r acc).length = acc.length + r.length
  | [], acc => rfl
  | o :: r, acc => by rw [predSets, predSets_length r]; simp; omega

/-- The form that is asked of a region: k operations in whatever order, the rest behind them in the text's; number e changes the state (e ≥ k: none does). -/
def drawOk (l : List Oper) (k e : Nat) : Bool :=
  let S := predSets l []
  Nat.ble k l.length && (List.range l.length).all fun i =>
    match l[i]? with
    | none => false
    | some o => (edgesOf o).all (fun x => Nat.blt x i) &&
      (bif Nat.blt i k then
        o.dst.isSome && (List.range k).all (fun j => match l[j]? with
          | none => false
          | some p => (bif Nat.beq i j then true else (match o.dst, p.dst with | some a, some b => !(Nat.beq a b) | _, _ => false)) &&
            (match p.dst with
              | some t => bif (o.looksAt l.toArray).contains t then ((S.getD i 0).testBit j && !(Nat.beq j e)) else true
              | none => false))
      else (List.range i).all fun j => (S.getD i 0).testBit j)

section
variable {P : Program} {n : Nat} {K : Post} {E : EPost} {T : Tmps} {st : St}

def St.notok (st : St) : St := { st with tok := fun _ => false }

/-- An operation that leaves the state alone, whatever tokens and new objects there are beside it. -/
def Quiet (P : Program) (n : Nat) (st : St) (T : Tmps) (o : Oper) (v : AV) : Prop :=
  ∀ st' g w a (K' : Act → World → Prop) (Q' : Exit → Act → World → Prop), StLe st' st.notok → Sim g w st' → Known g w T a → a.tmps.size = n →
    (∀ rv g' w', Ext g w g' w' → Sim g' w' st' → R g' w' v rv → K' (a.put o.dst rv) w') → o.wp P a w K' Q'

/-- One that changes the state, but no object that there was. -/
def Eff (P : Program) (n : Nat) (st : St) (T : Tmps) (o : Oper) (Φ : AV → St → Prop) : Prop :=
  ∀ g w a (K' : Act → World → Prop) (Q' : Exit → Act → World → Prop), Sim g w st → Known g w T a → a.tmps.size = n →
    (∀ rv g' w' v st1, Ext g w g' w' → Sim g' w' st1 → R g' w' v rv → Φ v st1 → StLe st1 st.notok → K' (a.put o.dst rv) w') → o.wp P a w K' Q'

def QStep (P : Program) (n : Nat) (st : St) (ops : Array Oper) (T : Tmps) (o : Oper) (v : AV) : Prop :=
  (wantedA ops T o = some true ∧ Quiet P n st T o v) ∨ (wantedA ops T o = some false ∧ v = .lit undef)

/-- What an operation looks at, of all that is known. -/
def see (ops : Array Oper) (o : Oper) (T : Tmps) : Tmps := T.filter fun p => (o.looksAt ops).contains p.1

/-- The walk, in the text's order, past number e. -/
def DRun (P : Program) (n : Nat) (st : St) (ops : Array Oper) (e : Nat) (Φ : AV → St → Prop) : Nat → List Oper → Tmps → (Tmps → Prop) → Prop
  | _, [], T, k => k T
  | i, o :: r, T, k => bif Nat.beq i e then (∃ d, o.dst = some d ∧ Nat.blt d n = true ∧ wantedA ops (see ops o T) o = some true ∧ Eff P n st (see ops o T) o Φ ∧ DRun P n st ops e Φ (i + 1) r T k)
    else ∃ d v, o.dst = some d ∧ Nat.blt d n = true ∧ QStep P n st ops (see ops o T) o v ∧ DRun P n st ops e Φ (i + 1) r ((d, v) :: T) k

/-- The entries that the walk has made: number, temporary, value. -/
theorem DRun.out {ops : Array Oper} {e : Nat} {Φ : AV → St → Prop} {k : Tmps → Prop} : ∀ (l : List Oper) (i0 : Nat) (T : Tmps), DRun P n st ops e Φ i0 l T k →
    ∃ vs : List (Nat × Tmp × AV), k ((vs.map (·.2)).reverse ++ T) ∧
      (∀ i o, l[i]? = some o → ∃ d, o.dst = some d ∧ d < n ∧ ∃ us : List (Nat × Tmp × AV), (∃ us', vs = us ++ us' ∧ (∀ x ∈ us, x.1 < i0 + i) ∧ (∀ x ∈ us', i0 + i ≤ x.1)) ∧
        ((i0 + i = e ∧ wantedA ops (see ops o ((us.map (·.2)).reverse ++ T)) o = some true ∧ Eff P n st (see ops o ((us.map (·.2)).reverse ++ T)) o Φ) ∨
         (i0 + i ≠ e ∧ ∃ v, (i0 + i, d, v) ∈ vs ∧ QStep P n st ops (see ops o ((us.map (·.2)).reverse ++ T)) o v))) ∧
      (∀ x ∈ vs, i0 ≤ x.1 ∧ x.1 ≠ e ∧ ∃ o, l[x.1 - i0]? = some o ∧ o.dst = some x.2.1) ∧ (∀ x ∈ vs, ∀ y ∈ vs, x.1 = y.1 → x = y)
  | [], i0, T, h => ⟨[], h, (fun i o ho => by simp at ho), (fun x hx => by simp at hx), fun x hx => by simp at hx⟩
  | o :: r, i0, T, h => by
    unfold DRun at h
    by_cases he : i0 = e
    · rw [he, nbeq_self, cond_true] at h
      obtain ⟨d, hd, hdn, hw, heff, hr⟩ := h
      obtain ⟨vs, h1, h2, h3, h4⟩ := DRun.out r (e + 1) T hr
      refine ⟨vs, h1, fun i o' ho' => ?_, fun x hx => ?_, h4⟩
      · cases i with
        | zero =>
          simp only [List.getElem?_cons_zero, Option.some.injEq] at ho'
          subst ho'
          exact ⟨d, hd, by simpa using hdn, [], ⟨vs, rfl, fun x hx => by simp at hx, fun x hx => by have := (h3 x hx).1; omega⟩, .inl ⟨by omega, hw, heff⟩⟩
        | succ i =>
          obtain ⟨d', hd', hdn', us, ⟨us', a1, a2, a3⟩, a4⟩ := h2 i o' (by simpa using ho')
          have e1 : e + 1 + i = i0 + (i + 1) := by omega
          rw [e1] at a2 a3 a4
          exact ⟨d', hd', hdn', us, ⟨us', a1, a2, a3⟩, a4⟩
      · obtain ⟨b1, b2, o', b3, b4⟩ := h3 x hx
        refine ⟨by omega, b2, o', ?_, b4⟩
        rw [show x.1 - i0 = (x.1 - (e + 1)) + 1 by omega]
        simpa using b3
    · rw [nbeq_ne he, cond_false] at h
      obtain ⟨d, v, hd, hdn, hq, hr⟩ := h
      obtain ⟨vs, h1, h2, h3, h4⟩ := DRun.out r (i0 + 1) ((d, v) :: T) hr
      refine ⟨(i0, d, v) :: vs, by simpa using h1, fun i o' ho' => ?_, fun x hx => ?_, fun x hx y hy hxy => ?_⟩
      · cases i with
        | zero =>
          simp only [List.getElem?_cons_zero, Option.some.injEq] at ho'
          subst ho'
          exact ⟨d, hd, by simpa using hdn, [], ⟨(i0, d, v) :: vs, rfl, fun x hx => by simp at hx, fun x hx => by
            rcases List.mem_cons.1 hx with rfl | hx
            · exact Nat.le_refl _
            · have := (h3 x hx).1; omega⟩, .inr ⟨by omega, v, by simp, hq⟩⟩
        | succ i =>
          obtain ⟨d', hd', hdn', us, ⟨us', a1, a2, a3⟩, a4⟩ := h2 i o' (by simpa using ho')
          have e1 : i0 + 1 + i = i0 + (i + 1) := by omega
          rw [e1] at a2 a3 a4
          refine ⟨d', hd', hdn', (i0, d, v) :: us, ⟨us', by rw [a1]; rfl, fun x hx => ?_, a3⟩, ?_⟩
          · rcases List.mem_cons.1 hx with rfl | hx
            · show i0 < _; omega
            · exact a2 x hx
          · have e2 : (((i0, d, v) :: us).map (·.2)).reverse ++ T = (us.map (·.2)).reverse ++ ((d, v) :: T) := by simp
            rw [e2]
            rcases a4 with ⟨b1, b2, b3⟩ | ⟨b1, v', b2, b3⟩
            · exact .inl ⟨b1, b2, b3⟩
            · exact .inr ⟨b1, v', List.mem_cons_of_mem _ b2, b3⟩
      · rcases List.mem_cons.1 hx with rfl | hx
        · exact ⟨Nat.le_refl _, he, o, by simp, hd⟩
        · obtain ⟨b1, b2, o', b3, b4⟩ := h3 x hx
          refine ⟨by omega, b2, o', ?_, b4⟩
          rw [show x.1 - i0 = (x.1 - (i0 + 1)) + 1 by omega]
          simpa using b3
      · rcases List.mem_cons.1 hx with rfl | hx <;> rcases List.mem_cons.1 hy with rfl | hy
        · rfl
        · have := (h3 y hy).1; simp only at hxy; omega
        · have := (h3 x hx).1; simp only at hxy; omega
        · exact h4 x hx y hy hxy

/-! ### The tail -/

theorem ready_edges {l : List Oper} {listed : Array Bool} {i : Nat} (h : i ∈ Region.ready .any l.toArray listed) : listed.getD i true = false ∧ ∃ o, l[i]? = some o ∧ ∀ e ∈ edgesOf o, listed.getD e false = true := by
  obtain ⟨h1, o, h2, h3⟩ := mem_ready.1 h
  refine ⟨h1, o, by simpa using h2, fun e he => ?_⟩
  simp only [edgesOf, List.mem_filterMap, Array.mem_toList_iff] at he
  obtain ⟨x, hx, hb⟩ := he
  cases hbb : Region.binds .any x with
  | false => rw [hbb] at hb; cases hb
  | true => rw [hbb] at hb; cases hb; exact h3 x hx hbb

theorem ready_of_edges {l : List Oper} {listed : Array Bool} {i : Nat} {o : Oper} (h1 : listed.getD i true = false) (ho : l[i]? = some o) (h : ∀ e ∈ edgesOf o, listed.getD e false = true) : i ∈ Region.ready .any l.toArray listed := by
  refine mem_ready.2 ⟨h1, o, by simpa using ho, fun e he hb => h e.on ?_⟩
  simp only [edgesOf, List.mem_filterMap, Array.mem_toList_iff]
  exact ⟨e, he, by rw [hb]; rfl⟩

theorem Closed.set {l : List Oper} {listed : Array Bool} (hc : Closed l listed) {i : Nat} {o : Oper} (ho : l[i]? = some o) (he : ∀ e ∈ edgesOf o, listed.getD e false = true) : Closed l (listed.setIfInBounds i true) := by
  intro j p hp hj e hee
  by_cases hij : i = j
  · subst hij
    rw [ho] at hp
    cases hp
    exact getD_set_true (he e hee)
  · rw [getD_set_ne false hij] at hj
    exact getD_set_true (hc j p hp hj e hee)

/-- Behind the first i, all of them listed and no other, the order is the text's. -/
theorem wpAny_tail {l : List Oper} {Q : Exit → Act → World → Prop} (hl : ∀ i o, l[i]? = some o → ∀ e ∈ edgesOf o, e < i) (k : Nat)
    (htail : ∀ i o, k ≤ i → l[i]? = some o → ∀ listed : Array Bool, Closed l listed → (∀ e ∈ edgesOf o, listed.getD e false = true) → ∀ j, j < i → listed.getD j false = true) :
    ∀ (m i : Nat) (listed : Array Bool) (a : Act) (w : World), k ≤ i → i ≤ l.length → l.length ≤ i + m → listed.size = l.length → (∀ j, j < l.length → listed.getD j true = decide (j < i)) → Closed l listed →
      wpList P l.toArray Q (l.drop i) a w → wpAny P .any l.toArray Q m listed a w
  | 0, i, listed, a, w, _, _, him, hsz, hli, _, h => by
    have hd : l.drop i = [] := List.drop_eq_nil_of_le (by omega)
    rw [hd] at h
    refine ⟨?_, h⟩
    apply List.eq_nil_iff_forall_not_mem.2
    intro j hj
    obtain ⟨h1, o, h2, _⟩ := ready_edges hj
    have hjl := (List.getElem?_eq_some_iff.1 h2).1
    rw [hli j hjl] at h1
    simp at h1
    omega
  | m + 1, i, listed, a, w, hki, hile, him, hsz, hli, hc, h => by
    rcases Nat.eq_or_lt_of_le hile with hil | hil
    · have hd : l.drop i = [] := List.drop_eq_nil_of_le (by omega)
      rw [hd] at h
      refine ⟨fun _ => h, fun j hj => ?_⟩
      exfalso
      obtain ⟨h1, o, h2, _⟩ := ready_edges hj
      have hjl := (List.getElem?_eq_some_iff.1 h2).1
      rw [hli j hjl] at h1
      simp at h1
      omega
    have hoi : l[i]? = some l[i] := List.getElem?_eq_getElem hil
    have hready : i ∈ Region.ready .any l.toArray listed := ready_of_edges (by rw [hli i hil]; simp) hoi (fun e he => by
      have hlt := hl i _ hoi e he
      have h1 := hli e (by omega)
      rw [decide_eq_true hlt] at h1
      rw [Array.getD_eq_getD_getElem?, Array.getElem?_eq_getElem (by omega)] at h1 ⊢
      simpa using h1)
    refine ⟨fun h0 => (by rw [h0] at hready; cases hready), fun j hj => ?_⟩
    obtain ⟨h1, o, h2, h3⟩ := ready_edges hj
    have hjl := (List.getElem?_eq_some_iff.1 h2).1
    have hji : j = i := by
      rw [hli j hjl] at h1
      have hge : i ≤ j := by simpa using h1
      rcases Nat.eq_or_lt_of_le hge with h' | h'
      · exact h'.symm
      · have := htail j o (by omega) h2 listed hc h3 i h'
        have h4 := hli i hil
        rw [Array.getD_eq_getD_getElem?, Array.getElem?_eq_getElem (by omega)] at this h4
        simp at this h4
        rw [this] at h4
        simp at h4
    subst hji
    rw [hoi] at h2
    cases h2
    rw [List.drop_eq_getElem_cons hil] at h
    have hstep : wpOp P l.toArray Q j (wpList P l.toArray Q (l.drop (j + 1))) a w := by
      unfold wpOp
      simp only [List.getElem?_toArray, hoi]
      exact h
    refine wpOp_mono (fun a' w' h' => wpAny_tail hl k htail m (j + 1) _ a' w' (by omega) (by omega) (by omega) (by simpa using hsz) (fun q hq => ?_) (hc.set hoi h3) h') hstep
    by_cases hqj : j = q
    · subst hqj
      rw [Array.getD_eq_getD_getElem?, Array.getElem?_setIfInBounds_self_of_lt (by omega)]
      simp
    · rw [getD_set_ne true hqj, hli q hq]
      congr 1
      rw [eq_iff_iff]
      omega


/-! ### The whole -/

theorem get_mem {T : Tmps} {t : Nat} {v : AV} (h : T.get t = some v) : (t, v) ∈ T := by
  induction T with
  | nil => cases h
  | cons p r ih =>
    obtain ⟨j, u⟩ := p
    rw [Tmps.get_cons] at h
    by_cases hj : j = t
    · subst hj; simp at h; subst h; simp
    · rw [if_neg hj] at h; exact List.mem_cons_of_mem _ (ih h)

theorem get_append (A B : Tmps) (t : Nat) : Tmps.get (A ++ B) t = match Tmps.get A t with | some v => some v | none => Tmps.get B t := by
  induction A with
  | nil => rfl
  | cons p r ih =>
    obtain ⟨j, u⟩ := p
    rw [List.cons_append, Tmps.get_cons, Tmps.get_cons]
    by_cases hj : j = t
    · simp [hj]
    · simp only [hj, if_false]; exact ih

theorem get_none_of {A : Tmps} {t : Nat} (h : ∀ p ∈ A, p.1 ≠ t) : Tmps.get A t = none := by
  induction A with
  | nil => rfl
  | cons p r ih =>
    obtain ⟨j, u⟩ := p
    rw [Tmps.get_cons, if_neg (h (j, u) (by simp))]
    exact ih fun p hp => h p (List.mem_cons_of_mem _ hp)

theorem get_filter (f : Nat → Bool) : ∀ (T : Tmps) (t : Nat) v, Tmps.get (T.filter fun p => f p.1) t = some v → f t = true ∧ Tmps.get T t = some v
  | [], t, v, h => by cases h
  | (j, u) :: r, t, v, h => by
    rw [List.filter_cons] at h
    by_cases hf : f j = true
    · rw [if_pos hf, Tmps.get_cons] at h
      rw [Tmps.get_cons]
      by_cases hj : j = t
      · subst hj; simp at h ⊢; exact ⟨hf, h⟩
      · rw [if_neg hj] at h ⊢; exact get_filter f r t v h
    · rw [if_neg hf] at h
      obtain ⟨h1, h2⟩ := get_filter f r t v h
      rw [Tmps.get_cons, if_neg (fun hjt => hf (by rw [hjt]; exact h1))]
      exact ⟨h1, h2⟩

theorem countP_range_ge (k : Nat) (p : Nat → Bool) : ∀ (N : Nat), (∀ j, k ≤ j → j < N → p j = true) → N - k ≤ (List.range N).countP p
  | 0, _ => by simp
  | N + 1, h => by
    have ih := countP_range_ge k p N fun j h1 h2 => h j h1 (by omega)
    rw [List.range_succ, List.countP_append, List.countP_singleton]
    by_cases hk : k ≤ N
    · rw [if_pos (h N hk (by omega))]; omega
    · omega

/-- What drawOk says, in words. -/
theorem drawOk_spec {l : List Oper} {k e : Nat} (h : drawOk l k e = true) : k ≤ l.length ∧ (∀ i o, l[i]? = some o → ∀ x ∈ edgesOf o, x < i) ∧
    (∀ i o, l[i]? = some o → i < k → o.dst.isSome = true ∧ ∀ j p, j < k → l[j]? = some p → (i ≠ j → ∀ a b, o.dst = some a → p.dst = some b → a ≠ b) ∧
      (∀ t, p.dst = some t → (o.looksAt l.toArray).contains t = true → j ≠ e ∧ ∀ listed : Array Bool, Closed l listed → (∀ x ∈ edgesOf o, listed.getD x false = true) → listed.getD j false = true)) ∧
    (∀ i o, k ≤ i → l[i]? = some o → ∀ listed : Array Bool, Closed l listed → (∀ x ∈ edgesOf o, listed.getD x false = true) → ∀ j, j < i → listed.getD j false = true) := by
  simp only [drawOk, Bool.and_eq_true] at h
  obtain ⟨h0, hall⟩ := h
  have hS : ∀ listed, Closed l listed → ∀ i o, l[i]? = some o → (∀ x ∈ edgesOf o, listed.getD x false = true) → ∀ j, ((predSets l []).getD i 0).testBit j = true → listed.getD j false = true := by
    intro listed hc i o ho he j hj
    exact predSets_spec l listed hc l [] (fun j => by simp) (fun i o hi => by simp at hi) i o (by rw [predSets_length]; simpa using (List.getElem?_eq_some_iff.1 ho).1) ho he j hj
  have hat : ∀ i o, l[i]? = some o → ((edgesOf o).all (fun x => Nat.blt x i) = true ∧
      (bif Nat.blt i k then
        o.dst.isSome && (List.range k).all (fun j => match l[j]? with
          | none => false
          | some p => (bif Nat.beq i j then true else (match o.dst, p.dst with | some a, some b => !(Nat.beq a b) | _, _ => false)) &&
            (match p.dst with
              | some t => bif (o.looksAt l.toArray).contains t then (((predSets l []).getD i 0).testBit j && !(Nat.beq j e)) else true
              | none => false))
      else (List.range i).all fun j => ((predSets l []).getD i 0).testBit j) = true) := by
    intro i o ho
    have hi := (List.getElem?_eq_some_iff.1 ho).1
    have := List.all_eq_true.1 hall i (List.mem_range.2 hi)
    simp only [ho, Bool.and_eq_true] at this
    exact this
  refine ⟨Nat.ble_le h0, fun i o ho x hx => ?_, fun i o ho hik => ?_, fun i o hki ho listed hc he j hj => ?_⟩
  · have := List.all_eq_true.1 (hat i o ho).1 x hx
    simpa using this
  · have h2 := (hat i o ho).2
    have hb : Nat.blt i k = true := by simpa using hik
    rw [hb, cond_true, Bool.and_eq_true] at h2
    refine ⟨h2.1, fun j p hj hp => ?_⟩
    have h3 := List.all_eq_true.1 h2.2 j (List.mem_range.2 hj)
    simp only [hp, Bool.and_eq_true] at h3
    refine ⟨fun hne a b ha hb' => ?_, fun t ht hlook => ?_⟩
    · have h4 := h3.1
      rw [nbeq_ne hne, cond_false, ha, hb'] at h4
      intro hab
      subst hab
      simp at h4
    · have h4 := h3.2
      rw [ht] at h4
      simp only [hlook, cond_true, Bool.and_eq_true] at h4
      refine ⟨fun hje => ?_, fun listed hc he => hS listed hc i o ho he j h4.1⟩
      rw [hje, nbeq_self] at h4
      simp at h4
  · have h2 := (hat i o ho).2
    have hb : Nat.blt i k = false := by
      cases hb : Nat.blt i k with
      | false => rfl
      | true => have : i < k := by simpa using hb
                omega
    rw [hb, cond_false] at h2
    have h3 := List.all_eq_true.1 h2 j (List.mem_range.2 hj)
    exact hS listed hc i o ho he j h3

/-- A region that draws its order. -/
theorem AWP.draw {l : List Oper} {id : Nat} (hm : P.follows .mixedOrders = true) (k e : Nat) (Φ : AV → St → Prop) (hok : drawOk l k e = true)
    (h : DRun P n st l.toArray e Φ 0 (l.take k) T fun T' =>
      (k ≤ e → AOps P n l.toArray (l.drop k) K E T' st) ∧ (e < k → ∀ v st1 d, (l[e]?).bind (·.dst) = some d → Φ v st1 → AOps P n l.toArray (l.drop k) K E ((d, v) :: T') st1)) :
    AWP P n (.region id l.toArray true) K E T st := by
  obtain ⟨hkl, hedge, hbody, htail⟩ := drawOk_spec hok
  obtain ⟨vs, hfin, hops, hvs, hvone⟩ := DRun.out _ _ _ h
  simp only [Nat.zero_add, Nat.sub_zero] at hops hvs
  intro g0 w0 a0 hs0 hk0 hn0
  refine wp_region_any hm ?_
  obtain ⟨hed, hsd⟩ := hs0.draw
  generalize hTF : (vs.map (·.2)).reverse ++ T = TF at hfin
  -- the entries of the walk
  have hentry : ∀ i d v, (i, d, v) ∈ vs → i < k ∧ i ≠ e ∧ ∃ o, l[i]? = some o ∧ o.dst = some d := by
    intro i d v hx
    obtain ⟨_, h2, o, h3, h4⟩ := hvs _ hx
    have hi : i < k := by
      have := (List.getElem?_eq_some_iff.1 h3).1
      simp at this; omega
    exact ⟨hi, h2, o, by rwa [List.getElem?_take_of_lt hi] at h3, h4⟩
  have huniq : ∀ i d v i' d' v', (i, d, v) ∈ vs → (i', d', v') ∈ vs → d = d' → i = i' := by
    intro i d v i' d' v' h1 h2 hd
    obtain ⟨a1, a2, o, a3, a4⟩ := hentry i d v h1
    obtain ⟨b1, b2, p, b3, b4⟩ := hentry i' d' v' h2
    by_cases hii : i = i'
    · exact hii
    · exact absurd hd (((hbody i o a3 a1).2 i' p b1 b3).1 hii d d' a4 b4)
  -- what an operation sees is known
  have hsee : ∀ i o (us : List (Nat × Tmp × AV)), l[i]? = some o → i < k → (∃ us', vs = us ++ us' ∧ (∀ x ∈ us, x.1 < i) ∧ (∀ x ∈ us', i ≤ x.1)) → ∀ t v, Tmps.get (see l.toArray o ((us.map (·.2)).reverse ++ T)) t = some v → Tmps.get TF t = some v ∧ (o.looksAt l.toArray).contains t = true := by
    intro i o us ho hik ⟨us', hus, hlt, hge⟩ t v ht
    obtain ⟨hlook, hget⟩ := get_filter _ _ _ _ ht
    refine ⟨?_, hlook⟩
    rw [← hTF, hus, List.map_append, List.reverse_append, List.append_assoc, get_append]
    have hnone : Tmps.get ((us'.map (·.2)).reverse) t = none := get_none_of fun p hp hpt => by
      simp only [List.mem_reverse, List.mem_map] at hp
      obtain ⟨⟨j, d, u⟩, hx, rfl⟩ := hp
      simp only at hpt
      subst hpt
      obtain ⟨b1, b2, p, b3, b4⟩ := hentry j d u (by rw [hus]; exact List.mem_append_right _ hx)
      have hij := hge _ hx
      simp only at hij
      -- it would wait for what stands behind it
      obtain ⟨_, hw⟩ := ((hbody i o ho hik).2 j p b1 b3).2 d b4 hlook
      have hcl : Closed l (Array.ofFn fun q : Fin l.length => decide (q.val < i)) := by
        intro q oq hq hq' x hx'
        have hql := (List.getElem?_eq_some_iff.1 hq).1
        rw [Array.getD_eq_getD_getElem?, Array.getElem?_ofFn] at hq' ⊢
        simp only [hql, dif_pos, Option.getD_some, decide_eq_true_eq] at hq'
        have hxq := hedge q oq hq x hx'
        simp only [show x < l.length by omega, dif_pos, Option.getD_some, decide_eq_true_eq]
        omega
      have := hw _ hcl (fun x hx' => by
        have hxi := hedge i o ho x hx'
        have hil := (List.getElem?_eq_some_iff.1 ho).1
        rw [Array.getD_eq_getD_getElem?, Array.getElem?_ofFn]
        simp only [show x < l.length by omega, dif_pos, Option.getD_some, decide_eq_true_eq]
        exact hxi)
      have hjl := (List.getElem?_eq_some_iff.1 b3).1
      rw [Array.getD_eq_getD_getElem?, Array.getElem?_ofFn] at this
      simp only [hjl, dif_pos, Option.getD_some, decide_eq_true_eq] at this
      omega
    rw [hnone]
    exact hget
  -- the value of an entry is what the end knows of its temporary
  have hval : ∀ i d v, (i, d, v) ∈ vs → Tmps.get TF d = some v := by
    intro i d v hx
    have hmem : (d, v) ∈ (vs.map (·.2)).reverse := by
      simp only [List.mem_reverse, List.mem_map]
      exact ⟨_, hx, rfl⟩
    rw [← hTF, get_append]
    cases hg : Tmps.get ((vs.map (·.2)).reverse) d with
    | none =>
      exfalso
      have : ∀ (A : Tmps), (d, v) ∈ A → Tmps.get A d = none → False := by
        intro A
        induction A with
        | nil => intro h; simp at h
        | cons p r ih =>
          intro h h0
          obtain ⟨j, u⟩ := p
          rw [Tmps.get_cons] at h0
          by_cases hj : j = d
          · rw [if_pos hj] at h0; cases h0
          · rw [if_neg hj] at h0
            rcases List.mem_cons.1 h with h | h
            · cases h; exact hj rfl
            · exact ih h h0
      exact this _ hmem hg
    | some u =>
      have h1 := get_mem hg
      simp only [List.mem_reverse, List.mem_map] at h1
      obtain ⟨⟨i', d', u'⟩, h2, h3⟩ := h1
      cases h3
      have hii := huniq i d v i' d u hx h2 rfl
      subst hii
      have := hvone _ hx _ h2 rfl
      cases this
      rfl
  -- the invariant
  let Inv : Array Bool → Act → World → Prop := fun listed a w => listed.size = l.length ∧ Closed l listed ∧ (∀ j, k ≤ j → j < l.length → listed.getD j true = false) ∧ a.tmps.size = n ∧ a.defers = a0.defers ∧
    ∃ g st1, Ext g0 w0 g w ∧ Sim g w st1 ∧ StLe st1 st.notok ∧
      (∀ t v, Tmps.get TF t = some v → (e < k → ∀ o, l[e]? = some o → o.dst ≠ some t) → (∀ i o, i < k → l[i]? = some o → o.dst = some t → listed.getD i false = true) → ∃ rv, a.tmps[t]? = some rv ∧ R g w v rv) ∧
      ((listed.getD e false = false ∨ k ≤ e) → st1 = st) ∧ (e < k → listed.getD e false = true → ∃ v d rv, (l[e]?).bind (·.dst) = some d ∧ Φ v st1 ∧ a.tmps[d]? = some rv ∧ R g w v rv)
  let μ : Array Bool → Nat := fun listed => (List.range l.length).countP fun j => !listed.getD j true
  have hμ : ∀ (listed : Array Bool) i, i < l.length → listed.size = l.length → listed.getD i true = false → μ (listed.setIfInBounds i true) + 1 ≤ μ listed := by
    intro listed i hil hsz hi
    have gen : ∀ (A : List Nat), i ∈ A → A.countP (fun j => !(listed.setIfInBounds i true).getD j true) + 1 ≤ A.countP (fun j => !listed.getD j true) := by
      have le : ∀ (A : List Nat), A.countP (fun j => !(listed.setIfInBounds i true).getD j true) ≤ A.countP (fun j => !listed.getD j true) := fun A => List.countP_mono_left fun j _ hj => by
        by_cases hij : i = j
        · subst hij
          rw [Array.getD_eq_getD_getElem?, Array.getElem?_setIfInBounds_self_of_lt (by omega)] at hj
          simp at hj
        · rw [getD_set_ne true hij] at hj; exact hj
      intro A
      induction A with
      | nil => intro h; simp at h
      | cons x A ih =>
        intro h
        rw [List.countP_cons, List.countP_cons]
        by_cases hx : x = i
        · subst hx
          have h1 : (!(listed.setIfInBounds x true).getD x true) = false := by
            rw [Array.getD_eq_getD_getElem?, Array.getElem?_setIfInBounds_self_of_lt (by omega)]; rfl
          have h2 : (!listed.getD x true) = true := by rw [hi]; rfl
          rw [h1, h2, if_neg (by decide), if_pos rfl]
          have := le A
          omega
        · have hm' : i ∈ A := by rcases List.mem_cons.1 h with h | h; exact absurd h.symm hx; exact h
          have := ih hm'
          have h3 : (listed.setIfInBounds i true).getD x true = listed.getD x true := getD_set_ne true (Ne.symm hx)
          rw [h3]
          omega
    exact gen _ (List.mem_range.2 hil)
  -- when all of the body is done
  have done : ∀ (m : Nat) (listed : Array Bool) (a : Act) (w : World), Inv listed a w → (∀ j, j < k → listed.getD j true = true) → l.length ≤ k + m → wpAny P .any l.toArray (QOf n a0.defers g0 w0 K E) m listed a w := by
    intro m listed a w ⟨hsz, hcl, htl, hn, hd, g, st1, he, hs, hle, hk, hst, heff⟩ hall hm'
    have hlist : ∀ j, j < k → listed.getD j false = true := fun j hj => by
      have h1 := hall j hj
      rw [Array.getD_eq_getD_getElem?, Array.getElem?_eq_getElem (by omega)] at h1 ⊢
      simpa using h1
    refine wpAny_tail hedge k htail m k listed a w (Nat.le_refl _) hkl hm' hsz (fun j hj => ?_) hcl ?_
    · by_cases hjk : j < k
      · rw [hall j hjk, decide_eq_true hjk]
      · rw [htl j (by omega) hj, decide_eq_false hjk]
    · rcases Nat.lt_or_ge e k with hek | hek
      · obtain ⟨v, d, rv, h1, h2, h3, h4⟩ := heff hek (hlist e hek)
        have h5 := hfin.2 hek v st1 d h1 h2 g w a hs (fun t u hu => by
          rw [Tmps.get_cons] at hu
          by_cases htd : d = t
          · subst htd; simp at hu; subst hu; exact ⟨rv, h3, h4⟩
          · rw [if_neg htd] at hu
            refine hk t u hu (fun _ o ho hot => ?_) (fun i o hi ho hot => hlist i hi)
            rw [ho] at h1
            simp only [Option.bind_some, hot, Option.some.injEq] at h1
            exact htd h1.symm) hn
        rw [hd] at h5
        exact wpList_mono (fun _ _ _ q => QOf.ext he q) _ _ _ h5
      · have hst1 := hst (.inr hek)
        subst hst1
        have h5 := hfin.1 hek g w a hs (fun t u hu => hk t u hu (fun h' => by omega) (fun i o hi ho hot => hlist i hi)) hn
        rw [hd] at h5
        exact wpList_mono (fun _ _ _ q => QOf.ext he q) _ _ _ h5
  -- a step of the body
  have step : ∀ (K' : Act → World → Prop) (listed : Array Bool) (a : Act) (w : World) (i : Nat), Inv listed a w → i < k → i ∈ Region.ready .any l.toArray listed → (∀ a' w', Inv (listed.setIfInBounds i true) a' w' → K' a' w') →
      wpOp P l.toArray (QOf n a0.defers g0 w0 K E) i K' a w := by
    intro K' listed a w i ⟨hsz, hcl, htl, hn, hd, g, st1, he, hs, hle, hk, hst, heff⟩ hik hri hK
    obtain ⟨hun, o, ho, hed'⟩ := ready_edges hri
    have hil := (List.getElem?_eq_some_iff.1 ho).1
    obtain ⟨d, hod, hdn, us, hus, hcase⟩ := hops i o (by rw [List.getElem?_take_of_lt hik]; exact ho)
    have hunf : listed.getD i false = false := by
      rw [Array.getD_eq_getD_getElem?, Array.getElem?_eq_getElem (by omega)] at hun ⊢
      simpa using hun
    have hcl' := hcl.set ho hed'
    have hsz' : (listed.setIfInBounds i true).size = l.length := by simpa using hsz
    have htl' : ∀ j, k ≤ j → j < l.length → (listed.setIfInBounds i true).getD j true = false := fun j h1 h2 => by
      rw [getD_set_ne true (by omega)]; exact htl j h1 h2
    -- what it sees is known
    have hknown : Known g w (see l.toArray o ((us.map (·.2)).reverse ++ T)) a := fun t v ht => by
      obtain ⟨h1, hlook⟩ := hsee i o us ho hik hus t v ht
      refine hk t v h1 (fun hek p hp hpt => ?_) (fun j p hj hp hpt => ?_)
      · exact (((hbody i o ho hik).2 e p hek hp).2 t hpt hlook).1 rfl
      · exact (((hbody i o ho hik).2 j p hj hp).2 t hpt hlook).2 listed hcl hed'
    -- other temporaries are kept
    have hother : ∀ t, t ≠ d → ∀ rv', (a.put o.dst rv').tmps[t]? = a.tmps[t]? := fun t ht rv' => by
      rw [hod]
      simp only [Act.put, Array.getElem?_setIfInBounds]
      rw [if_neg (Ne.symm ht)]
    have hself : ∀ rv', (a.put o.dst rv').tmps[d]? = some rv' := fun rv' => by
      rw [hod]
      simp only [Act.put, Array.getElem?_setIfInBounds]
      simp [hn, hdn]
    -- a quiet operation's outcome
    have quiet : ∀ v rv g' w', i ≠ e → (i, d, v) ∈ vs → Ext g w g' w' → Sim g' w' st1 → R g' w' v rv → Inv (listed.setIfInBounds i true) (a.put o.dst rv) w' := by
      intro v rv g' w' hie hmem he' hs' hR
      refine ⟨hsz', hcl', htl', by rw [Act.size_put]; exact hn, by rw [Act.defers_put]; exact hd, g', st1, he.trans he', hs', hle, fun t u ht hte hwr => ?_, fun h' => hst ?_, fun hek hel => ?_⟩
      · by_cases htd : t = d
        · subst htd
          rw [hval i t v hmem] at ht
          cases ht
          exact ⟨rv, hself rv, hR⟩
        · obtain ⟨ru, h1, h2⟩ := hk t u ht hte (fun j p hj hp hpt => by
            have h3 := hwr j p hj hp hpt
            by_cases hij : i = j
            · subst hij
              rw [ho] at hp
              cases hp
              rw [hod] at hpt
              cases hpt
              exact absurd rfl htd
            · rwa [getD_set_ne false hij] at h3)
          exact ⟨ru, by rw [hother t htd]; exact h1, h2.ext he'⟩
      · rcases h' with h' | h'
        · left; rwa [getD_set_ne false hie] at h'
        · exact .inr h'
      · rw [getD_set_ne false hie] at hel
        obtain ⟨v', d', rv', h1, h2, h3, h4⟩ := heff hek hel
        refine ⟨v', d', rv', h1, h2, ?_, h4.ext he'⟩
        rw [hother d' ?_]
        · exact h3
        · cases hoe : l[e]? with
          | none => rw [hoe] at h1; cases h1
          | some p =>
            rw [hoe] at h1
            exact fun hdd => (((hbody i o ho hik).2 e p hek hoe).1 hie d d' hod (by simpa using h1)) hdd.symm
    unfold wpOp
    simp only [List.getElem?_toArray, ho]
    rcases hcase with ⟨hie, hw, heffi⟩ | ⟨hie, v, hmem, hq⟩
    · -- the one that changes the state
      rw [wanted_of hknown hw, if_pos rfl]
      left
      have hst1 := hst (.inl (hie ▸ hunf))
      subst hst1
      refine heffi g w a K' _ hs hknown hn fun rv g' w' v st2 he' hs' hR hΦ hle2 => hK _ _ ?_
      refine ⟨hsz', hcl', htl', by rw [Act.size_put]; exact hn, by rw [Act.defers_put]; exact hd, g', st2, he.trans he', hs', hle2, fun t u ht hte hwr => ?_, fun h' => ?_, fun hek hel => ⟨v, d, rv, by rw [← hie, ho]; exact hod, hΦ, hself rv, hR⟩⟩
      · have htd : t ≠ d := fun htd => hte (by omega) o (by rw [← hie]; exact ho) (by rw [htd]; exact hod)
        obtain ⟨ru, h1, h2⟩ := hk t u ht hte (fun j p hj hp hpt => by
          have h3 := hwr j p hj hp hpt
          by_cases hij : i = j
          · subst hij
            rw [ho] at hp
            cases hp
            rw [hod] at hpt
            cases hpt
            exact absurd rfl htd
          · rwa [getD_set_ne false hij] at h3)
        exact ⟨ru, by rw [hother t htd]; exact h1, h2.ext he'⟩
      · exfalso
        rcases h' with h' | h'
        · rw [← hie, Array.getD_eq_getD_getElem?, Array.getElem?_setIfInBounds_self_of_lt (by omega)] at h'
          simp at h'
        · omega
    · rcases hq with ⟨hw, hq⟩ | ⟨hw, rfl⟩
      · rw [wanted_of hknown hw, if_pos rfl]
        left
        exact hq st1 g w a K' _ hle hs hknown hn fun rv g' w' he' hs' hR => hK _ _ (quiet v rv g' w' hie hmem he' hs' hR)
      · rw [wanted_of hknown hw, if_neg (by simp)]
        exact hK _ _ (quiet _ undef g w hie hmem (.refl _ _) hs (.lit _))
  have key : ∀ (m : Nat) (listed : Array Bool) (a : Act) (w : World), Inv listed a w → μ listed ≤ m → wpAny P .any l.toArray (QOf n a0.defers g0 w0 K E) m listed a w := by
    intro m
    induction m with
    | zero =>
      intro listed a w hi hm0
      -- nothing is left
      have hall : ∀ j, j < l.length → listed.getD j true = true := fun j hj => by
        cases hv : listed.getD j true with
        | true => rfl
        | false => have := hμ listed j hj hi.1 hv; omega
      have hlk : l.length = k := by
        rcases Nat.eq_or_lt_of_le hkl with h' | h'
        · exact h'.symm
        · have h1 := hall k h'
          have h2 := hi.2.2.1 k (Nat.le_refl _) h'
          rw [h1] at h2
          cases h2
      exact done 0 listed a w hi (fun j hj => hall j (by omega)) (by omega)
    | succ m ih =>
      intro listed a w hi hm1
      by_cases hall : ∀ j, j < k → listed.getD j true = true
      · refine done (m + 1) listed a w hi hall ?_
        -- the tail is unlisted: it is counted
        have : l.length - k ≤ μ listed := by
          exact countP_range_ge k _ l.length fun j h1 h2 => by rw [hi.2.2.1 j h1 h2]; rfl
        omega
      · have hex : ∃ j, j < k ∧ listed.getD j true = false ∧ ∀ q, q < j → listed.getD q true = true := by
          have : ∃ j, j < k ∧ listed.getD j true = false := by
            apply Classical.byContradiction
            intro hno
            apply hall
            intro j hj
            cases hv : listed.getD j true with
            | true => rfl
            | false => exact absurd ⟨j, hj, hv⟩ hno
          obtain ⟨j, hj⟩ := this
          induction j using Nat.strongRecOn with
          | _ j ihj =>
            by_cases hq : ∀ q, q < j → listed.getD q true = true
            · exact ⟨j, hj.1, hj.2, hq⟩
            · simp only [Classical.not_forall] at hq
              obtain ⟨q, hqj, hq⟩ := hq
              exact ihj q hqj ⟨by omega, by simpa using hq⟩
        obtain ⟨j0, hj0, hv0, hmin⟩ := hex
        have hsz := hi.1
        have hjl : j0 < l.length := by omega
        have hready : j0 ∈ Region.ready .any l.toArray listed := ready_of_edges hv0 (List.getElem?_eq_getElem hjl) (fun x hx => by
          have hxj := hedge j0 _ (List.getElem?_eq_getElem hjl) x hx
          have h1 := hmin x hxj
          rw [Array.getD_eq_getD_getElem?, Array.getElem?_eq_getElem (by omega)] at h1 ⊢
          simpa using h1)
        refine ⟨fun h0 => (by rw [h0] at hready; cases hready), fun i hri => ?_⟩
        obtain ⟨hun, o, ho, hed'⟩ := ready_edges hri
        have hil := (List.getElem?_eq_some_iff.1 ho).1
        have hik : i < k := by
          rcases Nat.lt_or_ge i k with h' | h'
          · exact h'
          · have h1 := htail i o h' ho listed hi.2.1 hed' j0 (by omega)
            rw [Array.getD_eq_getD_getElem?, Array.getElem?_eq_getElem (by omega)] at h1 hv0
            simp at h1 hv0
            rw [h1] at hv0
            cases hv0
        exact step _ listed a w i hi hik hri fun a' w' hi' => ih _ a' w' hi' (by have := hμ listed i hil hsz hun; omega)
  refine key _ _ a0 _ ?_ ?_
  · refine ⟨by simp, fun i o ho hi' => ?_, fun j _ hj => by simp [hj], hn0, rfl, g0, st, hed, hsd, ⟨fun _ _ h => h, (fun t ht => by cases ht), rfl⟩, fun t v ht hte hwr => ?_, fun _ => rfl, fun hek hel => ?_⟩
    · rw [Array.getD_eq_getD_getElem?, Array.getElem?_replicate] at hi'
      split at hi' <;> simp at hi'
    · -- nobody has written it
      have hno : ∀ i o, i < k → l[i]? = some o → o.dst ≠ some t := fun i o hi ho hot => by
        have := hwr i o hi ho hot
        rw [Array.getD_eq_getD_getElem?, Array.getElem?_replicate] at this
        split at this <;> simp at this
      rw [← hTF, get_append, get_none_of] at ht
      · exact (hk0.ext hed) t v ht
      · intro p hp hpt
        simp only [List.mem_reverse, List.mem_map] at hp
        obtain ⟨⟨j, d, u⟩, hx, rfl⟩ := hp
        simp only at hpt
        subst hpt
        obtain ⟨b1, _, p, b3, b4⟩ := hentry j d u hx
        exact hno j p b1 b3 b4
    · rw [Array.getD_eq_getD_getElem?, Array.getElem?_replicate] at hel
      split at hel <;> simp at hel
  · have := List.countP_le_length (p := fun j => !(Array.replicate l.length false).getD j true) (l := List.range l.length)
    exact Nat.le_trans this (by simp)

end
end Go.AM
