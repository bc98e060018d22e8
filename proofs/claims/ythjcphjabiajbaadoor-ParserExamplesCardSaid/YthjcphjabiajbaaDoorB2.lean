/- Regions that draw their order: quiet operations, at most one that changes the state, and a tail whose order is forced. No conditions: definitions and lemmas only. -/
import Derived.Orders
import Derived.ProofKit
import Derived.DataReads
import Derived.Carry
import Derived.OpenShut
import Derived.RowKit
import Derived.LaidLaws
import Derived.LaidHandle
import Derived.ChangeVars
import Derived.Laws.Cover3
import Derived.Laws.Small
import Derived.Laws.IdiomStrings
import Derived.Laws.BytesArg
import Derived.Laws.RangeAny
import Derived.Lib.OthersKept
import Derived.Laws.StructEq
import Derived.ChangeKeysEq
import Derived.Test.YthjcphjabiajbaaDoorProg
import Derived.KernelRfl
import Derived.Test.YthjcphjabiajbaaDoorB1
namespace Go.AM
open Go.RowKit (Below)

def edgesOf (o : Oper) : List Nat := o.after.toList.filterMap fun e => bif Region.binds .any e then some e.on else none

def predStep (acc : List Nat) (o : Oper) : Nat := (edgesOf o).foldl (fun s e => s ||| (2 ^ e ||| acc.getD e 0)) 0

def predSets : List Oper → List Nat → List Nat
  | [], acc => acc
  | o :: r, acc => predSets r (acc ++ [predStep acc o])

/-- All that was listed waits for nothing that was not. -/
def Closed (l : List Oper) (listed : Array Bool) : Prop := ∀ i o, l[i]? = some o → listed.getD i false = true → ∀ e ∈ edgesOf o, listed.getD e false = true

theorem foldl_testBit (acc : List Nat) (j : Nat) : ∀ (es : List Nat) (s : Nat), (es.foldl (fun s e => s ||| (2 ^ e ||| acc.getD e 0)) s).testBit j = true → s.testBit j = true ∨ ∃ e ∈ es, j = e ∨ (acc.getD e 0).testBit j = true
  | [], s, h => .inl h
  | e :: es, s, h => by
    rcases foldl_testBit acc j es _ h with h | ⟨e', he', h⟩
    · rw [Nat.testBit_or, Nat.testBit_or] at h
      simp only [Bool.or_eq_true] at h
      rcases h with h | h | h
      · exact .inl h
      · rw [Nat.testBit_two_pow] at h
        exact .inr ⟨e, by simp, .inl (by simpa using (of_decide_eq_true h).symm)⟩
      · exact .inr ⟨e, by simp, .inr h⟩
    · exact .inr ⟨e', List.mem_cons_of_mem _ he', h⟩

theorem predSets_spec (all : List Oper) (listed : Array Bool) (hc : Closed all listed) : ∀ (r : List Oper) (acc : List Nat), (∀ j, r[j]? = all[acc.length + j]?) →
    (∀ i o, i < acc.length → all[i]? = some o → (∀ e ∈ edgesOf o, listed.getD e false = true) → ∀ j, (acc.getD i 0).testBit j = true → listed.getD j false = true) →
    ∀ i o, i < (predSets r acc).length → all[i]? = some o → (∀ e ∈ edgesOf o, listed.getD e false = true) → ∀ j, ((predSets r acc).getD i 0).testBit j = true → listed.getD j false = true
  | [], acc, _, h => h
  | o :: r, acc, hr, h => by
    have h0 : all[acc.length]? = some o := by simpa using (hr 0).symm
    refine predSets_spec all listed hc r (acc ++ [predStep acc o]) (fun j => by have := hr (j + 1); simpa [Nat.add_assoc, Nat.add_comm 1 j] using this) ?_
    intro i o' hi ho' he j hj
    by_cases hlt : i < acc.length
    · rw [List.getD_eq_getElem?_getD, List.getElem?_append_left hlt, ← List.getD_eq_getElem?_getD] at hj
      exact h i o' hlt ho' he j hj
    · have hie : i = acc.length := by simp at hi; omega
      subst hie
      rw [h0] at ho'
      cases ho'
      simp only [List.getD_eq_getElem?_getD, List.getElem?_concat_length, Option.getD_some] at hj
      rcases foldl_testBit acc j _ _ hj with hj | ⟨e, hee, hj⟩
      · simp at hj
      · have hel := he e hee
        rcases hj with rfl | hj
        · exact hel
        · have helt : e < acc.length := by
            rcases Nat.lt_or_ge e acc.length with h' | h'
            · exact h'
            · rw [List.getD_eq_getElem?_getD, List.getElem?_eq_none h'] at hj; simp at hj
          cases hoe : all[e]? with
          | none =>
            exact absurd hoe (by
              have := (List.getElem?_eq_some_iff.1 h0).1
              rw [List.getElem?_eq_getElem (by omega)]
              simp)
          | some oe => exact h e oe helt hoe (hc e oe hoe hel) j hj

theorem predSets_length : ∀ (r : List Oper) (acc : List Nat), (predSets r acc).length = acc.length + r.length
  | [], acc => rfl
  | o :: r, acc => by rw [predSets, predSets_length r]; simp; omega

/-- The form that is asked of a region: k operations in whatever order, the rest behind them in the text's; number e changes the state (e ≥ k: none does). -/
def drawOk (l : List Oper) (k e : Nat) : Bool :=
  let S := predSets l []
  Nat.ble k l.length && (List.range l.length).all fun i =>
    match l[i]? with
    | none => false
    | some o => (edgesOf o).all (fun x => Nat.blt x i) &&
      (bif Nat.blt i k then
        o.dst.isSome && (List.range k).all (fun j => match l[j]? with
          | none => false
          | some p => (bif Nat.beq i j then true else (match o.dst, p.dst with | some a, some b => !(Nat.beq a b) | _, _ => false)) &&
            (match p.dst with
              | some t => bif (o.looksAt l.toArray).contains t then ((S.getD i 0).testBit j && !(Nat.beq j e)) else true
              | none => false))
      else (List.range i).all fun j => (S.getD i 0).testBit j)

section
variable {P : Program} {n : Nat} {K : Post} {E : EPost} {T : Tmps} {st : St}

def St.notok (st : St) : St := { st with tok := fun _ => false }

/-- An operation that leaves the state alone, whatever tokens and new objects there are beside it. -/
def Quiet (P : Program) (n : Nat) (st : St) (T : Tmps) (o : Oper) (v : AV) : Prop :=
  ∀ st' g w a (K' : Act → World → Prop) (Q' : Exit → Act → World → Prop), StLe st' st.notok → Sim g w st' → Known g w T a → a.tmps.size = n →
    (∀ rv g' w', Ext g w g' w' → Sim g' w' st' → R g' w' v rv → K' (a.put o.dst rv) w') → o.wp P a w K' Q'

/-- One that changes the state, but no object that there was. -/
def Eff (P : Program) (n : Nat) (st : St) (T : Tmps) (o : Oper) (Φ : AV → St → Prop) : Prop :=
  ∀ g w a (K' : Act → World → Prop) (Q' : Exit → Act → World → Prop), Sim g w st → Known g w T a → a.tmps.size = n →
    (∀ rv g' w' v st1, Ext g w g' w' → Sim g' w' st1 → R g' w' v rv → Φ v st1 → StLe st1 st.notok → K' (a.put o.dst rv) w') → o.wp P a w K' Q'

def QStep (P : Program) (n : Nat) (st : St) (ops : Array Oper) (T : Tmps) (o : Oper) (v : AV) : Prop :=
  (wantedA ops T o = some true ∧ Quiet P n st T o v) ∨ (wantedA ops T o = some false ∧ v = .lit undef)

/-- What an operation looks at, of all that is known. -/
def see (ops : Array Oper) (o : Oper) (T : Tmps) : Tmps := T.filter fun p => (o.looksAt ops).contains p.1

/-- The walk, in the text's order, past number e. -/
def DRun (P : Program) (n : Nat) (st : St) (ops : Array Oper) (e : Nat) (Φ : AV → St → Prop) : Nat → List Oper → Tmps → (Tmps → Prop) → Prop
  | _, [], T, k => k T
  | i, o :: r, T, k => bif Nat.beq i e then (∃ d, o.dst = some d ∧ Nat.blt d n = true ∧ wantedA ops (see ops o T) o = some true ∧ Eff P n st (see ops o T) o Φ ∧ DRun P n st ops e Φ (i + 1) r T k)
    else ∃ d v, o.dst = some d ∧ Nat.blt d n = true ∧ QStep P n st ops (see ops o T) o v ∧ DRun P n st ops e Φ (i + 1) r ((d, v) :: T) k

/-- The entries that the walk has made: number, temporary, value. -/
theorem DRun.out {ops : Array Oper} {e : Nat} {Φ : AV → St → Prop} {k : Tmps → Prop} : ∀ (l : List Oper) (i0 : Nat) (T : Tmps), DRun P n st ops e Φ i0 l T k →
    ∃ vs : List (Nat × Tmp × AV), k ((vs.map (·.2)).reverse ++ T) ∧
      (∀ i o, l[i]? = some o → ∃ d, o.dst = some d ∧ d < n ∧ ∃ us : List (Nat × Tmp × AV), (∃ us', vs = us ++ us' ∧ (∀ x ∈ us, x.1 < i0 + i) ∧ (∀ x ∈ us', i0 + i ≤ x.1)) ∧
        ((i0 + i = e ∧ wantedA ops (see ops o ((us.map (·.2)).reverse ++ T)) o = some true ∧ Eff P n st (see ops o ((us.map (·.2)).reverse ++ T)) o Φ) ∨
         (i0 + i ≠ e ∧ ∃ v, (i0 + i, d, v) ∈ vs ∧ QStep P n st ops (see ops o ((us.map (·.2)).reverse ++ T)) o v))) ∧
      (∀ x ∈ vs, i0 ≤ x.1 ∧ x.1 ≠ e ∧ ∃ o, l[x.1 - i0]? = some o ∧ o.dst = some x.2.1) ∧ (∀ x ∈ vs, ∀ y ∈ vs, x.1 = y.1 → x = y)
  | [], i0, T, h => ⟨[], h, (fun i o ho => by simp at ho), (fun x hx => by simp at hx), fun x hx => by simp at hx⟩
  | o :: r, i0, T, h => by
    unfold DRun at h
    by_cases he : i0 = e
    · rw [he, nbeq_self, cond_true] at h
      obtain ⟨d, hd, hdn, hw, heff, hr⟩ := h
      obtain ⟨vs, h1, h2, h3, h4⟩ := DRun.out r (e + 1) T hr
      refine ⟨vs, h1, fun i o' ho' => ?_, fun x hx => ?_, h4⟩
      · cases i with
        | zero =>
          simp only [List.getElem?_cons_zero, Option.some.injEq] at ho'
          subst ho'
          exact ⟨d, hd, by simpa using hdn, [], ⟨vs, rfl, fun x hx => by simp at hx, fun x hx => by have := (h3 x hx).1; omega⟩, .inl ⟨by omega, hw, heff⟩⟩
        | succ i =>
          obtain ⟨d', hd', hdn', us, ⟨us', a1, a2, a3⟩, a4⟩ := h2 i o' (by simpa using ho')
          have e1 : e + 1 + i = i0 + (i + 1) := by omega
          rw [e1] at a2 a3 a4
          exact ⟨d', hd', hdn', us, ⟨us', a1, a2, a3⟩, a4⟩
      · obtain ⟨b1, b2, o', b3, b4⟩ := h3 x hx
        refine ⟨by omega, b2, o', ?_, b4⟩
        rw [show x.1 - i0 = (x.1 - (e + 1)) + 1 by omega]
        simpa using b3
    · rw [nbeq_ne he, cond_false] at h
      obtain ⟨d, v, hd, hdn, hq, hr⟩ := h
      obtain ⟨vs, h1, h2, h3, h4⟩ := DRun.out r (i0 + 1) ((d, v) :: T) hr
      refine ⟨(i0, d, v) :: vs, by simpa using h1, fun i o' ho' => ?_, fun x hx => ?_, fun x hx y hy hxy => ?_⟩
      · cases i with
        | zero =>
          simp only [List.getElem?_cons_zero, Option.some.injEq] at ho'
          subst ho'
          exact ⟨d, hd, by simpa using hdn, [], ⟨(i0, d, v) :: vs, rfl, fun x hx => by simp at hx, fun x hx => by
            rcases List.mem_cons.1 hx with rfl | hx
            · exact Nat.le_refl _
            · have := (h3 x hx).1; omega⟩, .inr ⟨by omega, v, by simp, hq⟩⟩
        | succ i =>
          obtain ⟨d', hd', hdn', us, ⟨us', a1, a2, a3⟩, a4⟩ := h2 i o' (by simpa using ho')
          have e1 : i0 + 1 + i = i0 + (i + 1) := by omega
          rw [e1] at a2 a3 a4
          refine ⟨d', hd', hdn', (i0, d, v) :: us, ⟨us', by rw [a1]; rfl, fun x hx => ?_, a3⟩, ?_⟩
          · rcases List.mem_cons.1 hx with rfl | hx
            · show i0 < _; omega
            · exact a2 x hx
          · have e2 : (((i0, d, v) :: us).map (·.2)).reverse ++ T = (us.map (·.2)).reverse ++ ((d, v) :: T) := by simp
            rw [e2]
            rcases a4 with ⟨b1, b2, b3⟩ | ⟨b1, v', b2, b3⟩
            · exact .inl ⟨b1, b2, b3⟩
            · exact .inr ⟨b1, v', List.mem_cons_of_mem _ b2, b3⟩
      · rcases List.mem_cons.1 hx with rfl | hx
        · exact ⟨Nat.le_refl _, he, o, by simp, hd⟩
        · obtain ⟨b1, b2, o', b3, b4⟩ := h3 x hx
          refine ⟨by omega, b2, o', ?_, b4⟩
          rw [show x.1 - i0 = (x.1 - (i0 + 1)) + 1 by omega]
          simpa using b3
      · rcases List.mem_cons.1 hx with rfl | hx <;> rcases List.mem_cons.1 hy with rfl | hy
        · rfl
        · have := (h3 y hy).1; simp only at hxy; omega
        · have := (h3 x hx).1; simp only at hxy; omega
        · exact h4 x hx y hy hxy

/-! ### The tail -/

theorem ready_edges {l : List Oper} {listed : Array Bool} {i : Nat} (h : i ∈ Region.ready .any l.toArray listed) : listed.getD i true = false ∧ ∃ o, l[i]? = some o ∧ ∀ e ∈ edgesOf o, listed.getD e false = true := by
  obtain ⟨h1, o, h2, h3⟩ := mem_ready.1 h
  refine ⟨h1, o, by simpa using h2, fun e he => ?_⟩
  simp only [edgesOf, List.mem_filterMap, Array.mem_toList_iff] at he
  obtain ⟨x, hx, hb⟩ := he
  cases hbb : Region.binds .any x with
  | false => rw [hbb] at hb; cases hb
  | true => rw [hbb] at hb; cases hb; exact h3 x hx hbb

theorem ready_of_edges {l : List Oper} {listed : Array Bool} {i : Nat} {o : Oper} (h1 : listed.getD i true = false) (ho : l[i]? = some o) (h : ∀ e ∈ edgesOf o, listed.getD e false = true) : i ∈ Region.ready .any l.toArray listed := by
  refine mem_ready.2 ⟨h1, o, by simpa using ho, fun e he hb => h e.on ?_⟩
  simp only [edgesOf, List.mem_filterMap, Array.mem_toList_iff]
  exact ⟨e, he, by rw [hb]; rfl⟩

theorem Closed.set {l : List Oper} {listed : Array Bool} (hc : Closed l listed) {i : Nat} {o : Oper} (ho : l[i]? = some o) (he : ∀ e ∈ edgesOf o, listed.getD e false = true) : Closed l (listed.setIfInBounds i true) := by
  intro j p hp hj e hee
  by_cases hij : i = j
  · subst hij
    rw [ho] at hp
    cases hp
    exact getD_set_true (he e hee)
  · rw [getD_set_ne false hij] at hj
    exact getD_set_true (hc j p hp hj e hee)

/-- Behind the first i, all of them listed and no other, the order is the text's. -/
theorem wpAny_tail {l : List Oper} {Q : Exit → Act → World → Prop} (hl : ∀ i o, l[i]? = some o → ∀ e ∈ edgesOf o, e < i) (k : Nat)
    (htail : ∀ i o, k ≤ i → l[i]? = some o → ∀ listed : Array Bool, Closed l listed → (∀ e ∈ edgesOf o, listed.getD e false = true) → ∀ j, j < i → listed.getD j false = true) :
    ∀ (m i : Nat) (listed : Array Bool) (a : Act) (w : World), k ≤ i → i ≤ l.length → l.length ≤ i + m → listed.size = l.length → (∀ j, j < l.length → listed.getD j true = decide (j < i)) → Closed l listed →
      wpList P l.toArray Q (l.drop i) a w → wpAny P .any l.toArray Q m listed a w
  | 0, i, listed, a, w, _, _, him, hsz, hli, _, h => by
    have hd : l.drop i = [] := List.drop_eq_nil_of_le (by omega)
    rw [hd] at h
    refine ⟨?_, h⟩
    apply List.eq_nil_iff_forall_not_mem.2
    intro j hj
    obtain ⟨h1, o, h2, _⟩ := ready_edges hj
    have hjl := (List.getElem?_eq_some_iff.1 h2).1
    rw [hli j hjl] at h1
    simp at h1
    omega
  | m + 1, i, listed, a, w, hki, hile, him, hsz, hli, hc, h => by
    rcases Nat.eq_or_lt_of_le hile with hil | hil
    · have hd : l.drop i = [] := List.drop_eq_nil_of_le (by omega)
      rw [hd] at h
      refine ⟨fun _ => h, fun j hj => ?_⟩
      exfalso
      obtain ⟨h1, o, h2, _⟩ := ready_edges hj
      have hjl := (List.getElem?_eq_some_iff.1 h2).1
      rw [hli j hjl] at h1
      simp at h1
      omega
    have hoi : l[i]? = some l[i] := List.getElem?_eq_getElem hil
    have hready : i ∈ Region.ready .any l.toArray listed := ready_of_edges (by rw [hli i hil]; simp) hoi (fun e he => by
      have hlt := hl i _ hoi e he
      have h1 := hli e (by omega)
      rw [decide_eq_true hlt] at h1
      rw [Array.getD_eq_getD_getElem?, Array.getElem?_eq_getElem (by omega)] at h1 ⊢
      simpa using h1)
    refine ⟨fun h0 => (by rw [h0] at hready; cases hready), fun j hj => ?_⟩
    obtain ⟨h1, o, h2, h3⟩ := ready_edges hj
    have hjl := (List.getElem?_eq_some_iff.1 h2).1
    have hji : j = i := by
      rw [hli j hjl] at h1
      have hge : i ≤ j := by simpa using h1
      rcases Nat.eq_or_lt_of_le hge with h' | h'
      · exact h'.symm
      · have := htail j o (by omega) h2 listed hc h3 i h'
        have h4 := hli i hil
        rw [Array.getD_eq_getD_getElem?, Array.getElem?_eq_getElem (by omega)] at this h4
        simp at this h4
        rw [this] at h4
        simp at h4
    subst hji
    rw [hoi] at h2
    cases h2
    rw [List.drop_eq_getElem_cons hil] at h
    have hstep : wpOp P l.toArray Q j (wpList P l.toArray Q (l.drop (j + 1))) a w := by
      unfold wpOp
      simp only [List.getElem?_toArray, hoi]
      exact h
    refine wpOp_mono (fun a' w' h' => wpAny_tail hl k htail m (j + 1) _ a' w' (by omega) (by omega) (by omega) (by simpa using hsz) (fun q hq => ?_) (hc.set hoi h3) h') hstep
    by_cases hqj : j = q
    · subst hqj
      rw [Array.getD_eq_getD_getElem?, Array.getElem?_setIfInBounds_self_of_lt (by omega)]
      simp
    · rw [getD_set_ne true hqj, hli q hq]
      congr 1
      rw [eq_iff_iff]
      omega


/-! ### The whole -/

theorem get_mem {T : Tmps} {t : Nat} {v : AV} (h : T.get t = some v) : (t, v) ∈ T := by
  induction T with
  | nil => cases h
  | cons p r ih =>
    obtain ⟨j, u⟩ := p
    rw [Tmps.get_cons] at h
    by_cases hj : j = t
    · subst hj; simp at h; subst h; simp
    · rw [if_neg hj] at h; exact List.mem_cons_of_mem _ (ih h)

theorem get_append (A B : Tmps) (t : Nat) : Tmps.get (A ++ B) t = match Tmps.get A t with | some v => some v | none => Tmps.get B t := by
  induction A with
  | nil => rfl
  | cons p r ih =>
    obtain ⟨j, u⟩ := p
    rw [List.cons_append, Tmps.get_cons, Tmps.get_cons]
    by_cases hj : j = t
    · simp [hj]
    · simp only [hj, if_false]; exact ih

theorem get_none_of {A : Tmps} {t : Nat} (h : ∀ p ∈ A, p.1 ≠ t) : Tmps.get A t = none := by
  induction A with
  | nil => rfl
  | cons p r ih =>
    obtain ⟨j, u⟩ := p
    rw [Tmps.get_cons, if_neg (h (j, u) (by simp))]
    exact ih fun p hp => h p (List.mem_cons_of_mem _ hp)

theorem get_filter (f : Nat → Bool) : ∀ (T : Tmps) (t : Nat) v, Tmps.get (T.filter fun p => f p.1) t = some v → f t = true ∧ Tmps.get T t = some v
  | [], t, v, h => by cases h
  | (j, u) :: r, t, v, h => by
    rw [List.filter_cons] at h
    by_cases hf : f j = true
    · rw [if_pos hf, Tmps.get_cons] at h
      rw [Tmps.get_cons]
      by_cases hj : j = t
      · subst hj; simp at h ⊢; exact ⟨hf, h⟩
      · rw [if_neg hj] at h ⊢; exact get_filter f r t v h
    · rw [if_neg hf] at h
      obtain ⟨h1, h2⟩ := get_filter f r t v h
      rw [Tmps.get_cons, if_neg (fun hjt => hf (by rw [hjt]; exact h1))]
      exact ⟨h1, h2⟩

theorem countP_range_ge (k : Nat) (p : Nat → Bool) : ∀ (N : Nat), (∀ j, k ≤ j → j < N → p j = true) → N - k ≤ (List.range N).countP p
  | 0, _ => by simp
  | N + 1, h => by
    have ih := countP_range_ge k p N fun j h1 h2 => h j h1 (by omega)
    rw [List.range_succ, List.countP_append, List.countP_singleton]
    by_cases hk : k ≤ N
    · rw [if_pos (h N hk (by omega))]; omega
    · omega

/-- What drawOk says, in words. -/
theorem drawOk_spec {l : List Oper} {k e : Nat} (h : drawOk l k e = true) : k ≤ l.length ∧ (∀ i o, l[i]? = some o → ∀ x ∈ edgesOf o, x < i) ∧
    (∀ i o, l[i]? = some o → i < k → o.dst.isSome = true ∧ ∀ j p, j < k → l[j]? = some p → (i ≠ j → ∀ a b, o.dst = some a → p.dst = some b → a ≠ b) ∧
      (∀ t, p.dst = some t → (o.looksAt l.toArray).contains t = true → j ≠ e ∧ ∀ listed : Array Bool, Closed l listed → (∀ x ∈ edgesOf o, listed.getD x false = true) → listed.getD j false = true)) ∧
    (∀ i o, k ≤ i → l[i]? = some o → ∀ listed : Array Bool, Closed l listed → (∀ x ∈ edgesOf o, listed.getD x false = true) → ∀ j, j < i → listed.getD j false = true) := by
  simp only [drawOk, Bool.and_eq_true] at h
  obtain ⟨h0, hall⟩ := h
  have hS : ∀ listed, Closed l listed → ∀ i o, l[i]? = some o → (∀ x ∈ edgesOf o, listed.getD x false = true) → ∀ j, ((predSets l []).getD i 0).testBit j = true → listed.getD j false = true := by
    intro listed hc i o ho he j hj
    exact predSets_spec l listed hc l [] (fun j => by simp) (fun i o hi => by simp at hi) i o (by rw [predSets_length]; simpa using (List.getElem?_eq_some_iff.1 ho).1) ho he j hj
  have hat : ∀ i o, l[i]? = some o → ((edgesOf o).all (fun x => Nat.blt x i) = true ∧
      (bif Nat.blt i k then
        o.dst.isSome && (List.range k).all (fun j => match l[j]? with
          | none => false
          | some p => (bif Nat.beq i j then true else (match o.dst, p.dst with | some a, some b => !(Nat.beq a b) | _, _ => false)) &&
            (match p.dst with
              | some t => bif (o.looksAt l.toArray).contains t then (((predSets l []).getD i 0).testBit j && !(Nat.beq j e)) else true
              | none => false))
      else (List.range i).all fun j => ((predSets l []).getD i 0).testBit j) = true) := by
    intro i o ho
    have hi := (List.getElem?_eq_some_iff.1 ho).1
    have := List.all_eq_true.1 hall i (List.mem_range.2 hi)
    simp only [ho, Bool.and_eq_true] at this
    exact this
  refine ⟨Nat.ble_le h0, fun i o ho x hx => ?_, fun i o ho hik => ?_, fun i o hki ho listed hc he j hj => ?_⟩
  · have := List.all_eq_true.1 (hat i o ho).1 x hx
    simpa using this
  · have h2 := (hat i o ho).2
    have hb : Nat.blt i k = true := by simpa using hik
    rw [hb, cond_true, Bool.and_eq_true] at h2
    refine ⟨h2.1, fun j p hj hp => ?_⟩
    have h3 := List.all_eq_true.1 h2.2 j (List.mem_range.2 hj)
    simp only [hp, Bool.and_eq_true] at h3
    refine ⟨fun hne a b ha hb' => ?_, fun t ht hlook => ?_⟩
    · have h4 := h3.1
      rw [nbeq_ne hne, cond_false, ha, hb'] at h4
      intro hab
      subst hab
      simp at h4
    · have h4 := h3.2
      rw [ht] at h4
      simp only [hlook, cond_true, Bool.and_eq_true] at h4
      refine ⟨fun hje => ?_, fun listed hc he => hS listed hc i o ho he j h4.1⟩
      rw [hje, nbeq_self] at h4
      simp at h4
  · have h2 := (hat i o ho).2
    have hb : Nat.blt i k = false := by
      cases hb : Nat.blt i k with
      | false => rfl
      | true => have : i < k := by simpa using hb
                omega
    rw [hb, cond_false] at h2
    have h3 := List.all_eq_true.1 h2 j (List.mem_range.2 hj)
    exact hS listed hc i o ho he j h3

/-- A region that draws its order. -/
theorem AWP.draw {l : List Oper} {id : Nat} (hm : P.follows .mixedOrders = true) (k e : Nat) (Φ : AV → St → Prop) (hok : drawOk l k e = true)
    (h : DRun P n st l.toArray e Φ 0 (l.take k) T fun T' =>
      (k ≤ e → AOps P n l.toArray (l.drop k) K E T' st) ∧ (e < k → ∀ v st1 d, (l[e]?).bind (·.dst) = some d → Φ v st1 → AOps P n l.toArray (l.drop k) K E ((d, v) :: T') st1)) :
    AWP P n (.region id l.toArray true) K E T st := by
  obtain ⟨hkl, hedge, hbody, htail⟩ := drawOk_spec hok
  obtain ⟨vs, hfin, hops, hvs, hvone⟩ := DRun.out _ _ _ h
  simp only [Nat.zero_add, Nat.sub_zero] at hops hvs
  intro g0 w0 a0 hs0 hk0 hn0
  refine wp_region_any hm ?_
  obtain ⟨hed, hsd⟩ := hs0.draw
  generalize hTF : (vs.map (·.2)).reverse ++ T = TF at hfin
  -- the entries of the walk
  have hentry : ∀ i d v, (i, d, v) ∈ vs → i < k ∧ i ≠ e ∧ ∃ o, l[i]? = some o ∧ o.dst = some d := by
    intro i d v hx
    obtain ⟨_, h2, o, h3, h4⟩ := hvs _ hx
    have hi : i < k := by
      have := (List.getElem?_eq_some_iff.1 h3).1
      simp at this; omega
    exact ⟨hi, h2, o, by rwa [List.getElem?_take_of_lt hi] at h3, h4⟩
  have huniq : ∀ i d v i' d' v', (i, d, v) ∈ vs → (i', d', v') ∈ vs → d = d' → i = i' := by
    intro i d v i' d' v' h1 h2 hd
    obtain ⟨a1, a2, o, a3, a4⟩ := hentry i d v h1
    obtain ⟨b1, b2, p, b3, b4⟩ := hentry i' d' v' h2
    by_cases hii : i = i'
    · exact hii
    · exact absurd hd (((hbody i o a3 a1).2 i' p b1 b3).1 hii d d' a4 b4)
  -- what an operation sees is known
  have hsee : ∀ i o (us : List (Nat × Tmp × AV)), l[i]? = some o → i < k → (∃ us', vs = us ++ us' ∧ (∀ x ∈ us, x.1 < i) ∧ (∀ x ∈ us', i ≤ x.1)) → ∀ t v, Tmps.get (see l.toArray o ((us.map (·.2)).reverse ++ T)) t = some v → Tmps.get TF t = some v ∧ (o.looksAt l.toArray).contains t = true := by
    intro i o us ho hik ⟨us', hus, hlt, hge⟩ t v ht
    obtain ⟨hlook, hget⟩ := get_filter _ _ _ _ ht
    refine ⟨?_, hlook⟩
    rw [← hTF, hus, List.map_append, List.reverse_append, List.append_assoc, get_append]
    have hnone : Tmps.get ((us'.map (·.2)).reverse) t = none := get_none_of fun p hp hpt => by
      simp only [List.mem_reverse, List.mem_map] at hp
      obtain ⟨⟨j, d, u⟩, hx, rfl⟩ := hp
      simp only at hpt
      subst hpt
      obtain ⟨b1, b2, p, b3, b4⟩ := hentry j d u (by rw [hus]; exact List.mem_append_right _ hx)
      have hij := hge _ hx
      simp only at hij
      -- it would wait for what stands behind it
      obtain ⟨_, hw⟩ := ((hbody i o ho hik).2 j p b1 b3).2 d b4 hlook
      have hcl : Closed l (Array.ofFn fun q : Fin l.length => decide (q.val < i)) := by
        intro q oq hq hq' x hx'
        have hql := (List.getElem?_eq_some_iff.1 hq).1
        rw [Array.getD_eq_getD_getElem?, Array.getElem?_ofFn] at hq' ⊢
        simp only [hql, dif_pos, Option.getD_some, decide_eq_true_eq] at hq'
        have hxq := hedge q oq hq x hx'
        simp only [show x < l.length by omega, dif_pos, Option.getD_some, decide_eq_true_eq]
        omega
      have := hw _ hcl (fun x hx' => by
        have hxi := hedge i o ho x hx'
        have hil := (List.getElem?_eq_some_iff.1 ho).1
        rw [Array.getD_eq_getD_getElem?, Array.getElem?_ofFn]
        simp only [show x < l.length by omega, dif_pos, Option.getD_some, decide_eq_true_eq]
        exact hxi)
      have hjl := (List.getElem?_eq_some_iff.1 b3).1
      rw [Array.getD_eq_getD_getElem?, Array.getElem?_ofFn] at this
      simp only [hjl, dif_pos, Option.getD_some, decide_eq_true_eq] at this
      omega
    rw [hnone]
    exact hget
  -- the value of an entry is what the end knows of its temporary
  have hval : ∀ i d v, (i, d, v) ∈ vs → Tmps.get TF d = some v := by
    intro i d v hx
    have hmem : (d, v) ∈ (vs.map (·.2)).reverse := by
      simp only [List.mem_reverse, List.mem_map]
      exact ⟨_, hx, rfl⟩
    rw [← hTF, get_append]
    cases hg : Tmps.get ((vs.map (·.2)).reverse) d with
    | none =>
      exfalso
      have : ∀ (A : Tmps), (d, v) ∈ A → Tmps.get A d = none → False := by
        intro A
        induction A with
        | nil => intro h; simp at h
        | cons p r ih =>
          intro h h0
          obtain ⟨j, u⟩ := p
          rw [Tmps.get_cons] at h0
          by_cases hj : j = d
          · rw [if_pos hj] at h0; cases h0
          · rw [if_neg hj] at h0
            rcases List.mem_cons.1 h with h | h
            · cases h; exact hj rfl
            · exact ih h h0
      exact this _ hmem hg
    | some u =>
      have h1 := get_mem hg
      simp only [List.mem_reverse, List.mem_map] at h1
      obtain ⟨⟨i', d', u'⟩, h2, h3⟩ := h1
      cases h3
      have hii := huniq i d v i' d u hx h2 rfl
      subst hii
      have := hvone _ hx _ h2 rfl
      cases this
      rfl
  -- the invariant
  let Inv : Array Bool → Act → World → Prop := fun listed a w => listed.size = l.length ∧ Closed l listed ∧ (∀ j, k ≤ j → j < l.length → listed.getD j true = false) ∧ a.tmps.size = n ∧ a.defers = a0.defers ∧
    ∃ g st1, Ext g0 w0 g w ∧ Sim g w st1 ∧ StLe st1 st.notok ∧
      (∀ t v, Tmps.get TF t = some v → (e < k → ∀ o, l[e]? = some o → o.dst ≠ some t) → (∀ i o, i < k → l[i]? = some o → o.dst = some t → listed.getD i false = true) → ∃ rv, a.tmps[t]? = some rv ∧ R g w v rv) ∧
      ((listed.getD e false = false ∨ k ≤ e) → st1 = st) ∧ (e < k → listed.getD e false = true → ∃ v d rv, (l[e]?).bind (·.dst) = some d ∧ Φ v st1 ∧ a.tmps[d]? = some rv ∧ R g w v rv)
  let μ : Array Bool → Nat := fun listed => (List.range l.length).countP fun j => !listed.getD j true
  have hμ : ∀ (listed : Array Bool) i, i < l.length → listed.size = l.length → listed.getD i true = false → μ (listed.setIfInBounds i true) + 1 ≤ μ listed := by
    intro listed i hil hsz hi
    have gen : ∀ (A : List Nat), i ∈ A → A.countP (fun j => !(listed.setIfInBounds i true).getD j true) + 1 ≤ A.countP (fun j => !listed.getD j true) := by
      have le : ∀ (A : List Nat), A.countP (fun j => !(listed.setIfInBounds i true).getD j true) ≤ A.countP (fun j => !listed.getD j true) := fun A => List.countP_mono_left fun j _ hj => by
        by_cases hij : i = j
        · subst hij
          rw [Array.getD_eq_getD_getElem?, Array.getElem?_setIfInBounds_self_of_lt (by omega)] at hj
          simp at hj
        · rw [getD_set_ne true hij] at hj; exact hj
      intro A
      induction A with
      | nil => intro h; simp at h
      | cons x A ih =>
        intro h
        rw [List.countP_cons, List.countP_cons]
        by_cases hx : x = i
        · subst hx
          have h1 : (!(listed.setIfInBounds x true).getD x true) = false := by
            rw [Array.getD_eq_getD_getElem?, Array.getElem?_setIfInBounds_self_of_lt (by omega)]; rfl
          have h2 : (!listed.getD x true) = true := by rw [hi]; rfl
          rw [h1, h2, if_neg (by decide), if_pos rfl]
          have := le A
          omega
        · have hm' : i ∈ A := by rcases List.mem_cons.1 h with h | h; exact absurd h.symm hx; exact h
          have := ih hm'
          have h3 : (listed.setIfInBounds i true).getD x true = listed.getD x true := getD_set_ne true (Ne.symm hx)
          rw [h3]
          omega
    exact gen _ (List.mem_range.2 hil)
  -- when all of the body is done
  have done : ∀ (m : Nat) (listed : Array Bool) (a : Act) (w : World), Inv listed a w → (∀ j, j < k → listed.getD j true = true) → l.length ≤ k + m → wpAny P .any l.toArray (QOf n a0.defers g0 w0 K E) m listed a w := by
    intro m listed a w ⟨hsz, hcl, htl, hn, hd, g, st1, he, hs, hle, hk, hst, heff⟩ hall hm'
    have hlist : ∀ j, j < k → listed.getD j false = true := fun j hj => by
      have h1 := hall j hj
      rw [Array.getD_eq_getD_getElem?, Array.getElem?_eq_getElem (by omega)] at h1 ⊢
      simpa using h1
    refine wpAny_tail hedge k htail m k listed a w (Nat.le_refl _) hkl hm' hsz (fun j hj => ?_) hcl ?_
    · by_cases hjk : j < k
      · rw [hall j hjk, decide_eq_true hjk]
      · rw [htl j (by omega) hj, decide_eq_false hjk]
    · rcases Nat.lt_or_ge e k with hek | hek
      · obtain ⟨v, d, rv, h1, h2, h3, h4⟩ := heff hek (hlist e hek)
        have h5 := hfin.2 hek v st1 d h1 h2 g w a hs (fun t u hu => by
          rw [Tmps.get_cons] at hu
          by_cases htd : d = t
          · subst htd; simp at hu; subst hu; exact ⟨rv, h3, h4⟩
          · rw [if_neg htd] at hu
            refine hk t u hu (fun _ o ho hot => ?_) (fun i o hi ho hot => hlist i hi)
            rw [ho] at h1
            simp only [Option.bind_some, hot, Option.some.injEq] at h1
            exact htd h1.symm) hn
        rw [hd] at h5
        exact wpList_mono (fun _ _ _ q => QOf.ext he q) _ _ _ h5
      · have hst1 := hst (.inr hek)
        subst hst1
        have h5 := hfin.1 hek g w a hs (fun t u hu => hk t u hu (fun h' => by omega) (fun i o hi ho hot => hlist i hi)) hn
        rw [hd] at h5
        exact wpList_mono (fun _ _ _ q => QOf.ext he q) _ _ _ h5
  -- a step of the body
  have step : ∀ (K' : Act → World → Prop) (listed : Array Bool) (a : Act) (w : World) (i : Nat), Inv listed a w → i < k → i ∈ Region.ready .any l.toArray listed → (∀ a' w', Inv (listed.setIfInBounds i true) a' w' → K' a' w') →
      wpOp P l.toArray (QOf n a0.defers g0 w0 K E) i K' a w := by
    intro K' listed a w i ⟨hsz, hcl, htl, hn, hd, g, st1, he, hs, hle, hk, hst, heff⟩ hik hri hK
    obtain ⟨hun, o, ho, hed'⟩ := ready_edges hri
    have hil := (List.getElem?_eq_some_iff.1 ho).1
    obtain ⟨d, hod, hdn, us, hus, hcase⟩ := hops i o (by rw [List.getElem?_take_of_lt hik]; exact ho)
    have hunf : listed.getD i false = false := by
      rw [Array.getD_eq_getD_getElem?, Array.getElem?_eq_getElem (by omega)] at hun ⊢
      simpa using hun
    have hcl' := hcl.set ho hed'
    have hsz' : (listed.setIfInBounds i true).size = l.length := by simpa using hsz
    have htl' : ∀ j, k ≤ j → j < l.length → (listed.setIfInBounds i true).getD j true = false := fun j h1 h2 => by
      rw [getD_set_ne true (by omega)]; exact htl j h1 h2
    -- what it sees is known
    have hknown : Known g w (see l.toArray o ((us.map (·.2)).reverse ++ T)) a := fun t v ht => by
      obtain ⟨h1, hlook⟩ := hsee i o us ho hik hus t v ht
      refine hk t v h1 (fun hek p hp hpt => ?_) (fun j p hj hp hpt => ?_)
      · exact (((hbody i o ho hik).2 e p hek hp).2 t hpt hlook).1 rfl
      · exact (((hbody i o ho hik).2 j p hj hp).2 t hpt hlook).2 listed hcl hed'
    -- other temporaries are kept
    have hother : ∀ t, t ≠ d → ∀ rv', (a.put o.dst rv').tmps[t]? = a.tmps[t]? := fun t ht rv' => by
      rw [hod]
      simp only [Act.put, Array.getElem?_setIfInBounds]
      rw [if_neg (Ne.symm ht)]
    have hself : ∀ rv', (a.put o.dst rv').tmps[d]? = some rv' := fun rv' => by
      rw [hod]
      simp only [Act.put, Array.getElem?_setIfInBounds]
      simp [hn, hdn]
    -- a quiet operation's outcome
    have quiet : ∀ v rv g' w', i ≠ e → (i, d, v) ∈ vs → Ext g w g' w' → Sim g' w' st1 → R g' w' v rv → Inv (listed.setIfInBounds i true) (a.put o.dst rv) w' := by
      intro v rv g' w' hie hmem he' hs' hR
      refine ⟨hsz', hcl', htl', by rw [Act.size_put]; exact hn, by rw [Act.defers_put]; exact hd, g', st1, he.trans he', hs', hle, fun t u ht hte hwr => ?_, fun h' => hst ?_, fun hek hel => ?_⟩
      · by_cases htd : t = d
        · subst htd
          rw [hval i t v hmem] at ht
          cases ht
          exact ⟨rv, hself rv, hR⟩
        · obtain ⟨ru, h1, h2⟩ := hk t u ht hte (fun j p hj hp hpt => by
            have h3 := hwr j p hj hp hpt
            by_cases hij : i = j
            · subst hij
              rw [ho] at hp
              cases hp
              rw [hod] at hpt
              cases hpt
              exact absurd rfl htd
            · rwa [getD_set_ne false hij] at h3)
          exact ⟨ru, by rw [hother t htd]; exact h1, h2.ext he'⟩
      · rcases h' with h' | h'
        · left; rwa [getD_set_ne false hie] at h'
        · exact .inr h'
      · rw [getD_set_ne false hie] at hel
        obtain ⟨v', d', rv', h1, h2, h3, h4⟩ := heff hek hel
        refine ⟨v', d', rv', h1, h2, ?_, h4.ext he'⟩
        rw [hother d' ?_]
        · exact h3
        · cases hoe : l[e]? with
          | none => rw [hoe] at h1; cases h1
          | some p =>
            rw [hoe] at h1
            exact fun hdd => (((hbody i o ho hik).2 e p hek hoe).1 hie d d' hod (by simpa using h1)) hdd.symm
    unfold wpOp
    simp only [List.getElem?_toArray, ho]
    rcases hcase with ⟨hie, hw, heffi⟩ | ⟨hie, v, hmem, hq⟩
    · -- the one that changes the state
      rw [wanted_of hknown hw, if_pos rfl]
      left
      have hst1 := hst (.inl (hie ▸ hunf))
      subst hst1
      refine heffi g w a K' _ hs hknown hn fun rv g' w' v st2 he' hs' hR hΦ hle2 => hK _ _ ?_
      refine ⟨hsz', hcl', htl', by rw [Act.size_put]; exact hn, by rw [Act.defers_put]; exact hd, g', st2, he.trans he', hs', hle2, fun t u ht hte hwr => ?_, fun h' => ?_, fun hek hel => ⟨v, d, rv, by rw [← hie, ho]; exact hod, hΦ, hself rv, hR⟩⟩
      · have htd : t ≠ d := fun htd => hte (by omega) o (by rw [← hie]; exact ho) (by rw [htd]; exact hod)
        obtain ⟨ru, h1, h2⟩ := hk t u ht hte (fun j p hj hp hpt => by
          have h3 := hwr j p hj hp hpt
          by_cases hij : i = j
          · subst hij
            rw [ho] at hp
            cases hp
            rw [hod] at hpt
            cases hpt
            exact absurd rfl htd
          · rwa [getD_set_ne false hij] at h3)
        exact ⟨ru, by rw [hother t htd]; exact h1, h2.ext he'⟩
      · exfalso
        rcases h' with h' | h'
        · rw [← hie, Array.getD_eq_getD_getElem?, Array.getElem?_setIfInBounds_self_of_lt (by omega)] at h'
          simp at h'
        · omega
    · rcases hq with ⟨hw, hq⟩ | ⟨hw, rfl⟩
      · rw [wanted_of hknown hw, if_pos rfl]
        left
        exact hq st1 g w a K' _ hle hs hknown hn fun rv g' w' he' hs' hR => hK _ _ (quiet v rv g' w' hie hmem he' hs' hR)
      · rw [wanted_of hknown hw, if_neg (by simp)]
        exact hK _ _ (quiet _ undef g w hie hmem (.refl _ _) hs (.lit _))
  have key : ∀ (m : Nat) (listed : Array Bool) (a : Act) (w : World), Inv listed a w → μ listed ≤ m → wpAny P .any l.toArray (QOf n a0.defers g0 w0 K E) m listed a w := by
    intro m
    induction m with
    | zero =>
      intro listed a w hi hm0
      -- nothing is left
      have hall : ∀ j, j < l.length → listed.getD j true = true := fun j hj => by
        cases hv : listed.getD j true with
        | true => rfl
        | false => have := hμ listed j hj hi.1 hv; omega
      have hlk : l.length = k := by
        rcases Nat.eq_or_lt_of_le hkl with h' | h'
        · exact h'.symm
        · have h1 := hall k h'
          have h2 := hi.2.2.1 k (Nat.le_refl _) h'
          rw [h1] at h2
          cases h2
      exact done 0 listed a w hi (fun j hj => hall j (by omega)) (by omega)
    | succ m ih =>
      intro listed a w hi hm1
      by_cases hall : ∀ j, j < k → listed.getD j true = true
      · refine done (m + 1) listed a w hi hall ?_
        -- the tail is unlisted: it is counted
        have : l.length - k ≤ μ listed := by
          exact countP_range_ge k _ l.length fun j h1 h2 => by rw [hi.2.2.1 j h1 h2]; rfl
        omega
      · have hex : ∃ j, j < k ∧ listed.getD j true = false ∧ ∀ q, q < j → listed.getD q true = true := by
          have : ∃ j, j < k ∧ listed.getD j true = false := by
            apply Classical.byContradiction
            intro hno
            apply hall
            intro j hj
            cases hv : listed.getD j true with
            | true => rfl
            | false => exact absurd ⟨j, hj, hv⟩ hno
          obtain ⟨j, hj⟩ := this
          induction j using Nat.strongRecOn with
          | _ j ihj =>
            by_cases hq : ∀ q, q < j → listed.getD q true = true
            · exact ⟨j, hj.1, hj.2, hq⟩
            · simp only [Classical.not_forall] at hq
              obtain ⟨q, hqj, hq⟩ := hq
              exact ihj q hqj ⟨by omega, by simpa using hq⟩
        obtain ⟨j0, hj0, hv0, hmin⟩ := hex
        have hsz := hi.1
        have hjl : j0 < l.length := by omega
        have hready : j0 ∈ Region.ready .any l.toArray listed := ready_of_edges hv0 (List.getElem?_eq_getElem hjl) (fun x hx => by
          have hxj := hedge j0 _ (List.getElem?_eq_getElem hjl) x hx
          have h1 := hmin x hxj
          rw [Array.getD_eq_getD_getElem?, Array.getElem?_eq_getElem (by omega)] at h1 ⊢
          simpa using h1)
        refine ⟨fun h0 => (by rw [h0] at hready; cases hready), fun i hri => ?_⟩
        obtain ⟨hun, o, ho, hed'⟩ := ready_edges hri
        have hil := (List.getElem?_eq_some_iff.1 ho).1
        have hik : i < k := by
          rcases Nat.lt_or_ge i k with h' | h'
          · exact h'
          · have h1 := htail i o h' ho listed hi.2.1 hed' j0 (by omega)
            rw [Array.getD_eq_getD_getElem?, Array.getElem?_eq_getElem (by omega)] at h1 hv0
            simp at h1 hv0
            rw [h1] at hv0
            cases hv0
        exact step _ listed a w i hi hik hri fun a' w' hi' => ih _ a' w' hi' (by have := hμ listed i hil hsz hun; omega)
  refine key _ _ a0 _ ?_ ?_
  · refine ⟨by simp, fun i o ho hi' => ?_, fun j _ hj => by simp [hj], hn0, rfl, g0, st, hed, hsd, ⟨fun _ _ h => h, (fun t ht => by cases ht), rfl⟩, fun t v ht hte hwr => ?_, fun _ => rfl, fun hek hel => ?_⟩
    · rw [Array.getD_eq_getD_getElem?, Array.getElem?_replicate] at hi'
      split at hi' <;> simp at hi'
    · -- nobody has written it
      have hno : ∀ i o, i < k → l[i]? = some o → o.dst ≠ some t := fun i o hi ho hot => by
        have := hwr i o hi ho hot
        rw [Array.getD_eq_getD_getElem?, Array.getElem?_replicate] at this
        split at this <;> simp at this
      rw [← hTF, get_append, get_none_of] at ht
      · exact (hk0.ext hed) t v ht
      · intro p hp hpt
        simp only [List.mem_reverse, List.mem_map] at hp
        obtain ⟨⟨j, d, u⟩, hx, rfl⟩ := hp
        simp only at hpt
        subst hpt
        obtain ⟨b1, _, p, b3, b4⟩ := hentry j d u hx
        exact hno j p b1 b3 b4
    · rw [Array.getD_eq_getD_getElem?, Array.getElem?_replicate] at hel
      split at hel <;> simp at hel
  · have := List.countP_le_length (p := fun j => !(Array.replicate l.length false).getD j true) (l := List.range l.length)
    exact Nat.le_trans this (by simp)

end
end Go.AM
/- The steps of a region that draws its order, out of the rules for a region that does not. No conditions: lemmas only. -/
namespace Go.AM
open Go.RowKit (Below)

section
variable {P : Program} {n : Nat} {T : Tmps} {st : St} {ops : Array Oper}

theorem wp_put {o : Oper} {a : Act} {w : World} {K1 K2 : Act → World → Prop} {Q1 Q2 : Exit → Act → World → Prop} (h : o.wp P a w K1 Q1)
    (hk : ∀ a' w', a'.defers = a.defers → K1 a' w' → (∃ rv, a' = a.put o.dst rv) → K2 a' w') (hd : ∀ a' w', K1 a' w' → a'.defers = a.defers) (hq : ∀ e a w, e ≠ .normal → Q1 e a w → Q2 e a w) : o.wp P a w K2 Q2 := by
  unfold Oper.wp at h ⊢
  generalize (execOp a.eval o).run P w = r at h
  cases r with
  | ok x w' =>
    cases x <;> simp only [Oper.upon] at h ⊢
    case value v => exact hk _ _ (Act.defers_put _ _ _) h ⟨v, rfl⟩
    case skip => exact hk _ _ (Act.defers_put _ _ _) h ⟨undef, rfl⟩
    case defer d =>
      have := hd _ _ h
      rw [Act.defers_put] at this
      simp at this
    case enter f args =>
      refine h.mono fun e w'' he => ?_
      cases e with
      | returned v => exact hk _ _ (Act.defers_put _ _ _) he ⟨v, rfl⟩
      | panicked ch => exact hq _ _ _ (by simp) he
      | outgrown => obtain ⟨a, w, h2⟩ := he; exact ⟨a, w, hq _ _ _ (by simp) h2⟩
    case row => exact h.mono fun v w'' hv => hk _ _ (Act.defers_put _ _ _) hv ⟨v, rfl⟩
  | halt x w' => cases x <;> simp only [Oper.upon] at h ⊢ <;> exact hq _ _ _ (by simp) h

theorem AOps.single {o : Oper} {d : Tmp} (hd : o.dst = some d) (hdn : d < n) {v : AV → St → Prop} (h : AOps P n ops [o] (fun T' st' => ∃ u, T' = (d, u) :: T ∧ v u st') (fun _ _ _ => False) T st) (hw : wantedA ops T o = some true)
    {g : G} {w : World} {a : Act} (hs : Sim g w st) (hk : Known g w T a) (K' : Act → World → Prop) (Q' : Exit → Act → World → Prop)
    (hK : ∀ rv g' w' u st', Ext g w g' w' → Sim g' w' st' → R g' w' u rv → v u st' → K' (a.put o.dst rv) w') (hn : a.tmps.size = n) : o.wp P a w K' Q' := by
  have h1 := h g w a hs hk hn
  unfold wpList at h1
  rw [wanted_of hk hw, if_pos rfl] at h1
  rcases h1 with h1 | ⟨_, h1⟩
  · refine wp_put h1 (fun a' w' hda hq ⟨rv, hrv⟩ => ?_) (fun a' w' hq => hq.2.1) (fun e a' w' hne hq => ?_)
    · obtain ⟨h2, h3, g', T', st', h4, h5, h6, u, hT, hv⟩ := hq
      subst hT
      subst hrv
      obtain ⟨ru, h7, h8⟩ := h6 d u (by rw [Tmps.get_cons, if_pos rfl])
      rw [hd] at h7
      simp only [Act.put, Array.getElem?_setIfInBounds] at h7
      simp [hn, hdn] at h7
      subst h7
      exact hK rv g' w' u st' h4 h5 h8 hv
    · obtain ⟨_, _, g', T', st', _, _, _, h6⟩ := hq
      cases e with
      | normal => exact absurd rfl hne
      | exit id => exact h6.elim
      | ret => exact h6.elim
      | panic ch => obtain ⟨_, _, _, _, h7⟩ := h6; exact h7.elim
      | goto l => exact h6.elim
      | outgrown => exact h6.elim
  · exact absurd h1 LetsOut.not_QOf

/-- A quiet step. -/
theorem dq {e : Nat} {Φ : AV → St → Prop} {i : Nat} {o : Oper} {r : List Oper} {d : Tmp} {v : AV} {k : Tmps → Prop} (hi : Nat.beq i e = false) (hd : dstA n o.dst = some d) (hw : wantedA ops (see ops o T) o = some true)
    (h : ∀ st', StLe st' st.notok → AOps P n ops [o] (fun T' st'' => ∃ u, T' = (d, u) :: see ops o T ∧ (u = v ∧ st'' = st')) (fun _ _ _ => False) (see ops o T) st')
    (hr : DRun P n st ops e Φ (i + 1) r ((d, v) :: T) k) : DRun P n st ops e Φ i (o :: r) T k := by
  obtain ⟨hd1, hd2⟩ := dstA_some hd
  unfold DRun
  rw [hi, cond_false]
  have hdn : d < n := dstOk_lt hd2 d hd1
  refine ⟨d, v, hd1, by simpa using hdn, .inl ⟨hw, ?_⟩, hr⟩
  intro st' g w a K' Q' hle hs hk hn hK
  exact AOps.single hd1 hdn (h st' hle) hw hs hk K' Q' (fun rv g' w' u st'' he hs' hR hu => by obtain ⟨rfl, rfl⟩ := hu; exact hK rv g' w' he hs' hR) hn

/-- The step that changes the state. -/
theorem de {e : Nat} {Φ : AV → St → Prop} {i : Nat} {o : Oper} {r : List Oper} {d : Tmp} {k : Tmps → Prop} (hi : Nat.beq i e = true) (hd : dstA n o.dst = some d) (hw : wantedA ops (see ops o T) o = some true)
    (h : AOps P n ops [o] (fun T' st'' => ∃ u, T' = (d, u) :: see ops o T ∧ (Φ u st'' ∧ StLe st'' st.notok)) (fun _ _ _ => False) (see ops o T) st)
    (hr : DRun P n st ops e Φ (i + 1) r T k) : DRun P n st ops e Φ i (o :: r) T k := by
  obtain ⟨hd1, hd2⟩ := dstA_some hd
  unfold DRun
  rw [hi, cond_true]
  have hdn : d < n := dstOk_lt hd2 d hd1
  refine ⟨d, hd1, by simpa using hdn, hw, ?_, hr⟩
  intro g w a K' Q' hs hk hn hK
  exact AOps.single hd1 hdn h hw hs hk K' Q' (fun rv g' w' u st'' he hs' hR hu => hK rv g' w' u st'' he hs' hR hu.1 hu.2) hn

theorem dn {e : Nat} {Φ : AV → St → Prop} {i : Nat} {k : Tmps → Prop} (h : k T) : DRun P n st ops e Φ i [] T k := h

/-- A quiet step that asks nothing. -/
theorem ds {e : Nat} {Φ : AV → St → Prop} {i : Nat} {o : Oper} {r : List Oper} {d : Tmp} {v : AV} {k : Tmps → Prop} (hi : Nat.beq i e = false) (hs : step1 ops n st (see ops o T) o = some (d, v))
    (hr : DRun P n st ops e Φ (i + 1) r ((d, v) :: T) k) : DRun P n st ops e Φ i (o :: r) T k := by
  have hgo : goes ops n (see ops o T) o = some d := by
    unfold step1 at hs
    split at hs
    · rename_i h1 h2; cases hs; exact h1
    · cases hs
  obtain ⟨hw, hd, hok⟩ := goes_some hgo
  refine dq hi (by rw [hd] at hok ⊢; show (bif Nat.blt d n then some d else none) = some d; rw [show Nat.blt d n = true from hok]; rfl) hw (fun st' hle => ?_) hr
  have hev : ∀ x, ev st' (see ops o T) x = ev st (see ops o T) x := fun x => by
    cases x <;> simp [ev, St.row]
    have : st'.glob = st.glob := hle.glob.symm
    rw [this]
  have hval : valA st' (see ops o T) o.op = valA st (see ops o T) o.op := by
    cases o.op <;> simp only [valA, hev]
  refine sm (d := d) (v := v) ?_ (nl ⟨v, rfl, rfl, rfl⟩)
  unfold step1 at hs ⊢
  rw [hval]
  exact hs

end
end Go.AM
/- From the readings that a claim gives to abstract values, and back to what a claim asks of the end. No conditions: definitions and lemmas only. -/
namespace Go.AM
open Go.RowKit (Below)

/-- Cells of a type, as abstract values. -/
def HasTy (P : Program) : Nat → TypeId → List AV → Prop
  | 0, _, _ => False
  | n + 1, t, cs => match P.underlying t with
    | some .bool => ∃ b, cs = [.bool b]
    | some (.int k) => ∃ x, cs = [.int k x] ∧ (Lit.int k x).wf = true
    | some .string => ∃ l : List UInt8, cs = [.str l] ∧ l.length ≤ maxLen
    | some (.slice e) => ∃ rows : List (List AV), cs = [.view (P.cellsOf e) rows .shared] ∧ rows.length ≤ maxLen ∧ ∀ row ∈ rows, HasTy P n e row
    | some (.struct fs) => cs.length = P.cellsOf t ∧ ∀ f ∈ fs.toList, HasTy P n f.type ((cs.drop f.offset).take (P.cellsOf f.type))
    | some (.array m e) => cs.length = P.cellsOf t ∧ ∀ i, i < m → HasTy P n e ((cs.drop (i * P.cellsOf e)).take (P.cellsOf e))
    | _ => False

/-- Lists of cells, related one by one. -/
structure RL (g : G) (w : World) (avs : List AV) (vs : List Value) : Prop where
  len : avs.length = vs.length
  one : ∀ c ∈ avs, c.one = true
  rel : ∀ (i : Nat) c v, avs[i]? = some c → vs[i]? = some v → R g w c v

theorem RL.nil (g : G) (w : World) : RL g w [] [] := ⟨rfl, (fun c h => by cases h), (fun i c v h => by simp at h)⟩
theorem RL.append {g : G} {w : World} {avs bs : List AV} {vs us : List Value} (h : RL g w avs vs) (k : RL g w bs us) : RL g w (avs ++ bs) (vs ++ us) := by
  refine ⟨by rw [List.length_append, List.length_append, h.len, k.len], fun c hc => (List.mem_append.1 hc).elim (h.one c) (k.one c), fun i c v hc hv => ?_⟩
  by_cases hi : i < avs.length
  · rw [List.getElem?_append_left hi] at hc
    rw [List.getElem?_append_left (by rw [← h.len]; exact hi)] at hv
    exact h.rel i c v hc hv
  · rw [List.getElem?_append_right (by omega)] at hc
    rw [List.getElem?_append_right (by have := h.len; omega), ← h.len] at hv
    exact k.rel _ c v hc hv
theorem RL.single {g : G} {w : World} {a : AV} {v : Value} (h1 : a.one = true) (h : R g w a v) : RL g w [a] [v] :=
  ⟨rfl, fun c hc => by simp at hc; subst hc; exact h1, fun i c u hc hu => by
    cases i with
    | zero => simp at hc hu; subst hc; subst hu; exact h
    | succ i => simp at hc⟩

/-- Do fields of these offsets and sizes lie one behind the other from here on, to the end? -/
def contig : Nat → List (Nat × Nat) → Nat → Bool
  | o, [], e => Nat.beq o e
  | o, (off, sz) :: r, e => Nat.beq o off && contig (o + sz) r e

/-- Is a type of the plain kinds, its parts in S? -/
def kindOk (P : Program) (S : List TypeId) (t : TypeId) : Bool :=
  match P.underlying t with
  | some .bool | some (.int _) | some .string => Nat.beq (P.cellsOf t) 1
  | some (.slice e) => Nat.beq (P.cellsOf t) 1 && S.contains e && Nat.ble 1 (P.cellsOf e)
  | some (.struct fs) => contig 0 (fs.toList.map fun f => (f.offset, P.cellsOf f.type)) (P.cellsOf t) && fs.toList.all fun f => S.contains f.type
  | some (.array m e) => Nat.beq (m * P.cellsOf e) (P.cellsOf t) && S.contains e
  | _ => false

/-- The ghost at the beginning: all that there is stays as it is. -/
def G0 (w : World) : G := { base := w.heap.size, next := 0, imm := fun b _ => b < w.heap.size, obj := fun _ => none, tok := fun _ => none }

theorem Sim0 (w : World) (globs : List (Nat × List AV)) (h : ∀ gi row, (gi, row) ∈ globs → GlobAt (G0 w) w gi row) :
    Sim (G0 w) w { obj := fun _ => none, tok := fun _ => false, glob := globs } where
  base := Nat.le_refl _
  objs := fun o c hc => by cases hc
  inj := fun o o' c c' b m m' hc => by cases hc
  toks := fun t ht => by cases ht
  tobj := fun t o c b r m ht => by cases ht
  tinj := fun t t' b r r' ht => by cases ht
  immlt := fun b i h => h
  objlt := fun o b m h => by cases h
  toklt := fun t b r h => by cases h
  fresh := fun n _ => ⟨rfl, rfl⟩
  globs := h

section
variable {H : Type} {enc : TypeId × Value → H} {P : Program}

theorem cells?_get {w : World} {base : Nat} {a : Addr} {n : Nat} {cs : List Value} (h : w.cells? base a n = some cs) : cs.length = n ∧ ∀ i, i < n → w.cell? (a.add i) = cs[i]? := by
  unfold World.cells? at h
  split at h
  · have hl := mapM_some_length h
    simp at hl
    refine ⟨hl, fun i hi => ?_⟩
    have := mapM_some_get h i i (by simp [hi])
    exact this
  · cases h

theorem choose_rows {p : Nat → List AV → Prop} : ∀ (n : Nat), (∀ i, i < n → ∃ row, p i row) → ∃ rows : List (List AV), rows.length = n ∧ ∀ i row, rows[i]? = some row → p i row
  | 0, _ => ⟨[], rfl, fun i row h => by simp at h⟩
  | n + 1, h => by
    obtain ⟨rows, h1, h2⟩ := choose_rows n fun i hi => h i (by omega)
    obtain ⟨row, hr⟩ := h n (by omega)
    refine ⟨rows ++ [row], by simp [h1], fun i r hi => ?_⟩
    by_cases hin : i < n
    · rw [List.getElem?_append_left (by omega)] at hi; exact h2 i r hi
    · rw [List.getElem?_append_right (by omega)] at hi
      have : i = n := by
        have := (List.getElem?_eq_some_iff.1 hi).1
        simp at this; omega
      subst this
      simp [h1] at hi
      subst hi
      exact hr

/-- Segments one behind the other, each told: the whole is told. -/
theorem segs_R {g : G} {w : World} {p : Nat × Nat × TypeId → List AV → Prop} {cs : List Value} : ∀ (l : List (Nat × Nat × TypeId)) (o : Nat), contig o (l.map fun x => (x.1, x.2.1)) cs.length = true →
    (∀ x ∈ l, ∃ avs, p x avs ∧ RL g w avs ((cs.drop x.1).take x.2.1)) → (∀ x ∈ l, ((cs.drop x.1).take x.2.1).length = x.2.1) →
    ∃ avs, RL g w avs (cs.drop o) ∧ ∀ x ∈ l, o ≤ x.1 ∧ p x ((avs.drop (x.1 - o)).take x.2.1)
  | [], o, h, _, _ => by
    have := Nat.eq_of_beq_eq_true h
    subst this
    exact ⟨[], by simp; exact .nil g w, fun x hx => by cases hx⟩
  | (off, sz, t) :: r, o, h, hp, hl => by
    simp only [List.map_cons, contig, Bool.and_eq_true] at h
    have ho := Nat.eq_of_beq_eq_true h.1
    subst ho
    obtain ⟨as1, h1, h2⟩ := hp (o, sz, t) (by simp)
    have hlen := hl (o, sz, t) (by simp)
    obtain ⟨as2, h3, h4⟩ := segs_R r (o + sz) h.2 (fun x hx => hp x (List.mem_cons_of_mem _ hx)) (fun x hx => hl x (List.mem_cons_of_mem _ hx))
    have hsplit : cs.drop o = (cs.drop o).take sz ++ cs.drop (o + sz) := by
      rw [← List.drop_drop, List.take_append_drop]
    have hl1 : as1.length = sz := h2.len.trans hlen
    refine ⟨as1 ++ as2, by rw [hsplit]; exact h2.append h3, fun x hx => ?_⟩
    rcases List.mem_cons.1 hx with rfl | hx
    · refine ⟨Nat.le_refl _, ?_⟩
      simp only [Nat.sub_self, List.drop_zero]
      rw [List.take_append_of_le_length (by omega), List.take_of_length_le (by omega)]
      exact h1
    · obtain ⟨h5, h6⟩ := h4 x hx
      refine ⟨by omega, ?_⟩
      have e : x.1 - o = as1.length + (x.1 - (o + sz)) := by omega
      rw [e, ← List.drop_drop, List.drop_left]
      exact h6

theorem contig_le : ∀ (l : List (Nat × Nat)) (o e : Nat), contig o l e = true → o ≤ e ∧ ∀ x ∈ l, x.1 + x.2 ≤ e
  | [], o, e, h => ⟨by have := Nat.eq_of_beq_eq_true h; omega, fun x hx => by cases hx⟩
  | (off, sz) :: r, o, e, h => by
    simp only [contig, Bool.and_eq_true] at h
    have ho := Nat.eq_of_beq_eq_true h.1
    obtain ⟨h1, h2⟩ := contig_le r (o + sz) e h.2
    refine ⟨by omega, fun x hx => ?_⟩
    rcases List.mem_cons.1 hx with rfl | hx
    · simp only; omega
    · exact h2 x hx

theorem contig_range (s : Nat) : ∀ (n k : Nat), contig (k * s) ((List.range' k n).map fun i => (i * s, s)) ((k + n) * s) = true
  | 0, k => by simp [contig]
  | n + 1, k => by
    rw [List.range'_succ, List.map_cons, contig]
    have := contig_range s n (k + 1)
    rw [Nat.add_mul, Nat.one_mul] at this
    rw [show k + (n + 1) = k + 1 + n by omega, this]
    simp

theorem trod_R {S : List TypeId} (hS : ∀ t ∈ S, kindOk P S t = true) {w : World} {sp : Nat → Bool} (hsp : ∀ b, sp b = true) : ∀ (fuel : Nat) (t : TypeId) (cs : List Value) (d : DataW H) (ps : List MemPlace), t ∈ S →
    DataW.trod enc P w 0 sp true fuel t cs = some (d, ps) → ∃ avs, HasTy P fuel t avs ∧ RL (G0 w) w avs cs
  | 0, t, cs, d, ps, _, h => by cases h
  | fuel + 1, t, cs, d, ps, ht, h => by
    have hk := hS t ht
    have ih := fun t cs d ps => trod_R hS (w := w) hsp fuel t cs d ps
    have h0 := h
    unfold DataW.trod at h
    unfold HasTy
    unfold kindOk at hk
    cases hu : P.underlying t with
    | none => rw [hu] at hk; cases hk
    | some td =>
      rw [hu] at h hk
      cases td <;> simp only [Bool.false_eq_true] at hk
      case bool =>
        split at h <;> first | (cases h; done) | skip
        all_goals (try (rename_i heq _; cases heq; done))
        all_goals (try (rename_i heq; cases heq; done))
        rename_i b heq
        exact ⟨[.bool b], ⟨b, rfl⟩, .single rfl (.bool b)⟩
      case int k =>
        split at h <;> first | (cases h; done) | skip
        all_goals (try (rename_i heq _; cases heq; done))
        all_goals (try (rename_i heq; cases heq; done))
        rename_i k1 k' x heq
        cases heq
        split at h
        · rename_i hc
          obtain ⟨rfl, hwf⟩ := hc
          exact ⟨[.int k' x], ⟨x, rfl, hwf⟩, .single rfl (.int k' x)⟩
        · cases h
      case string =>
        split at h <;> first | (cases h; done) | skip
        all_goals (try (rename_i heq _; cases heq; done))
        all_goals (try (rename_i heq; cases heq; done))
        rename_i s heq
        split at h
        · rename_i hc
          obtain ⟨⟨l⟩⟩ := s
          exact ⟨[.str l], ⟨l, rfl, hc⟩, .single rfl (.str l)⟩
        · cases h
      case slice e =>
        simp only [Bool.and_eq_true] at hk
        obtain ⟨⟨_, heS⟩, hes⟩ := hk
        have heS' : e ∈ S := by simpa using heS
        have hs1 := Nat.ble_le hes
        split at h <;> first | (cases h; done) | skip
        all_goals (try (rename_i heq _; cases heq; done))
        all_goals (try (rename_i heq; cases heq; done))
        · exact ⟨[.view (P.cellsOf e) [] .shared], ⟨[], rfl, Nat.zero_le _, fun row hr => by cases hr⟩, .single rfl (.vnil _ _ trivial)⟩
        · rename_i e' a len cap heq
          cases heq
          simp only at h
          split at h
          · rename_i hc
            obtain ⟨_, hlc, hcm⟩ := hc
            obtain ⟨elems, h1, h2⟩ := Option.bind_eq_some_iff.1 h
            rw [hsp, if_pos rfl] at h2
            obtain ⟨rest, h3, _⟩ := Option.map_eq_some_iff.1 h2
            have hl1 := mapM_some_length h1
            have hl3 := mapM_some_length h3
            simp only [List.length_range] at hl1 hl3
            -- one element
            have elem : ∀ q, q < cap → ∃ cells x, w.cells? 0 (a.add (q * P.cellsOf e)) (P.cellsOf e) = some cells ∧ DataW.trod enc P w 0 sp true fuel e cells = some x := by
              intro q hq
              have hx : ∃ x, (w.cells? 0 (a.add (q * P.cellsOf e)) (P.cellsOf e)).bind (DataW.trod enc P w 0 sp true fuel e) = some x := by
                by_cases hql : q < len
                · have := mapM_some_get h1 q q (List.getElem?_range hql)
                  rw [List.getElem?_eq_getElem (by omega)] at this
                  exact ⟨_, this⟩
                · have := mapM_some_get h3 (q - len) (q - len) (List.getElem?_range (by omega))
                  rw [List.getElem?_eq_getElem (by omega)] at this
                  rw [show len + (q - len) = q by omega] at this
                  exact ⟨_, this⟩
              obtain ⟨x, hx⟩ := hx
              obtain ⟨cells, h4, h5⟩ := Option.bind_eq_some_iff.1 hx
              exact ⟨cells, x, h4, h5⟩
            by_cases hcap : cap = 0
            · subst hcap
              have : len = 0 := by omega
              subst this
              exact ⟨[.view (P.cellsOf e) [] .shared], ⟨[], rfl, Nat.zero_le _, fun row hr => by cases hr⟩, .single rfl (.vemp _ _ _ (fun h => by cases h) trivial)⟩
            · have hspot : a.spot = none ∧ a.block < w.heap.size := by
                obtain ⟨cells, x, h4, _⟩ := elem 0 (by omega)
                obtain ⟨h6, h7⟩ := cells?_get h4
                have h8 := h7 0 hs1
                rw [List.getElem?_eq_getElem (by omega)] at h8
                simp only [Nat.zero_mul, Addr.add_zero'] at h8
                exact ⟨World.cell?_spot h8, block_lt_of_cell h8⟩
              obtain ⟨b, off, spot⟩ := a
              obtain ⟨rfl, hb⟩ := hspot
              simp only at hb
              obtain ⟨rows, hrl, hrows⟩ := choose_rows (p := fun i row => ∃ cells, w.cells? 0 ((⟨b, off, none⟩ : Addr).add (i * P.cellsOf e)) (P.cellsOf e) = some cells ∧ HasTy P fuel e row ∧ RL (G0 w) w row cells) len (fun i hi => by
                obtain ⟨cells, ⟨dx, px⟩, h4, h5⟩ := elem i (by omega)
                obtain ⟨avs, h6, h7⟩ := ih e cells dx px heS' h5
                exact ⟨avs, cells, h4, h6, h7⟩)
              have hcellat : ∀ i row, rows[i]? = some row → row.length = P.cellsOf e ∧ ∀ j, j < P.cellsOf e → ∃ v, w.cell? ⟨b, off + (i * P.cellsOf e + j), none⟩ = some v ∧ ∀ c, row[j]? = some c → R (G0 w) w c v := by
                intro i row hr
                obtain ⟨cells, h4, _, h7⟩ := hrows i row hr
                obtain ⟨h8, h9⟩ := cells?_get h4
                refine ⟨h7.len.trans h8, fun j hj => ?_⟩
                have := h9 j hj
                rw [addr_add, addr_add, Nat.add_assoc, List.getElem?_eq_getElem (by omega)] at this
                exact ⟨_, this, fun c hc => h7.rel j c _ hc (List.getElem?_eq_getElem (by omega))⟩
              refine ⟨[.view (P.cellsOf e) rows .shared], ⟨rows, rfl, by omega, fun row hr => ?_⟩, .single rfl ?_⟩
              · obtain ⟨i, hi, rfl⟩ := List.getElem_of_mem hr
                obtain ⟨_, _, h6, _⟩ := hrows i _ (List.getElem?_eq_getElem hi)
                exact h6
              · rw [← hrl]
                refine R.view _ rows .shared b off cap (fun i j => (w.cell? ⟨b, off + (i * P.cellsOf e + j), none⟩).getD undef) (by omega) hcm (fun row hr => ?_) (fun row hr => ?_) trivial (fun i j hi hj => ⟨hb, ?_⟩) (fun i j row c hr hc => ?_)
                · obtain ⟨i, hi, rfl⟩ := List.getElem_of_mem hr
                  exact (hcellat i _ (List.getElem?_eq_getElem hi)).1
                · obtain ⟨i, hi, rfl⟩ := List.getElem_of_mem hr
                  obtain ⟨_, _, _, h7⟩ := hrows i _ (List.getElem?_eq_getElem hi)
                  exact h7.one
                · obtain ⟨v, h1, _⟩ := (hcellat i _ (List.getElem?_eq_getElem hi)).2 j hj
                  rw [h1]; rfl
                · obtain ⟨hl, hh⟩ := hcellat i row hr
                  have hj : j < P.cellsOf e := by rw [← hl]; exact (List.getElem?_eq_some_iff.1 hc).1
                  obtain ⟨v, h1, h2⟩ := hh j hj
                  rw [h1]
                  exact h2 c hc
          · cases h
      case array m e =>
        simp only [Bool.and_eq_true] at hk
        obtain ⟨hsz, heS⟩ := hk
        have heS' : e ∈ S := by simpa using heS
        have hsz' := Nat.eq_of_beq_eq_true hsz
        clear h
        obtain ⟨xs, m0, hm0, _, hlen, hxl, h1⟩ := DataW.trod_array hu h0
        obtain rfl : fuel = m0 := by omega
        · skip
          have hcont : contig 0 (((List.range m).map fun i => (i * P.cellsOf e, P.cellsOf e, e)).map fun x => (x.1, x.2.1)) cs.length = true := by
            rw [List.map_map, hlen, ← hsz']
            have := contig_range (P.cellsOf e) m 0
            rw [Nat.zero_mul, Nat.zero_add] at this
            rw [List.range_eq_range']
            exact this
          obtain ⟨_, hle⟩ := contig_le _ _ _ hcont
          obtain ⟨avs, h2, h3⟩ := segs_R (g := G0 w) (w := w) (p := fun x avs => HasTy P fuel x.2.2 avs) (cs := cs) _ 0 hcont (fun x hx => by
            simp only [List.mem_map, List.mem_range] at hx
            obtain ⟨i, hi, rfl⟩ := hx
            have := h1 i hi
            rw [List.getElem?_eq_getElem (by omega)] at this
            exact ih e _ _ _ heS' this) (fun x hx => by
            have := hle (x.1, x.2.1) (List.mem_map.2 ⟨x, hx, rfl⟩)
            simp only at this
            simp; omega)
          rw [List.drop_zero] at h2
          refine ⟨avs, ⟨h2.len.trans hlen, fun i hi => ?_⟩, h2⟩
          have := (h3 (i * P.cellsOf e, P.cellsOf e, e) (List.mem_map.2 ⟨i, by simp [hi], rfl⟩)).2
          simpa using this
      case struct fs =>
        simp only [Bool.and_eq_true] at hk
        obtain ⟨hcont0, hall⟩ := hk
        clear h
        obtain ⟨xs, m0, hm0, _, hlen, hxl, h1⟩ := DataW.trod_struct hu h0
        obtain rfl : fuel = m0 := by omega
        · skip
          have hcont : contig 0 ((fs.toList.map fun f => (f.offset, P.cellsOf f.type, f.type)).map fun x => (x.1, x.2.1)) cs.length = true := by
            rw [List.map_map, hlen]
            exact hcont0
          obtain ⟨_, hle⟩ := contig_le _ _ _ hcont
          obtain ⟨avs, h2, h3⟩ := segs_R (g := G0 w) (w := w) (p := fun x avs => HasTy P fuel x.2.2 avs) (cs := cs) _ 0 hcont (fun x hx => by
            simp only [List.mem_map] at hx
            obtain ⟨f, hf, rfl⟩ := hx
            obtain ⟨i, hi, rfl⟩ := List.getElem_of_mem hf
            have := h1 i _ (by rw [← Array.getElem?_toList]; exact List.getElem?_eq_getElem hi)
            rw [List.getElem?_eq_getElem (by simp at hi; omega)] at this
            have hfS : (fs.toList[i]).type ∈ S := by
              have := List.all_eq_true.1 hall _ (List.getElem_mem hi)
              simpa using this
            exact ih _ _ _ _ hfS this) (fun x hx => by
            have := hle (x.1, x.2.1) (List.mem_map.2 ⟨x, hx, rfl⟩)
            simp only at this
            simp; omega)
          rw [List.drop_zero] at h2
          refine ⟨avs, ⟨h2.len.trans hlen, fun f hf => ?_⟩, h2⟩
          have := (h3 (f.offset, P.cellsOf f.type, f.type) (List.mem_map.2 ⟨f, hf, rfl⟩)).2
          simpa using this

end
end Go.AM
/- A law's contract out of its abstract walk. No conditions: definitions and lemmas only. -/
namespace Go.AM
open Go.RowKit (Below shut_bool)
open Go.ChangeShapes Go.WideShapes Go.ChangeAt

/-- An argument of a type. -/
def ArgTy (P : Program) (t : TypeId) (a : AV) : Prop := ∃ fuel cs, HasTy P fuel t cs ∧ ((∃ td, P.underlying t = some td ∧ aggD td = true ∧ a = .agg cs) ∨ (∃ td, P.underlying t = some td ∧ aggD td = false ∧ cs = [a]))

section
variable {H : Type} {enc : TypeId × Value → H} {P : Program}

theorem HasTy.one {fuel : Nat} {t : TypeId} {cs : List AV} (h : HasTy P fuel t cs) {td : TypeDesc} (hu : P.underlying t = some td) (ha : aggD td = false) : ∃ a, cs = [a] ∧ a.cells = [a] := by
  cases fuel with
  | zero => exact h.elim
  | succ fuel =>
    unfold HasTy at h
    rw [hu] at h
    cases td <;> simp only [aggD, reduceCtorEq] at h ha
    case bool => obtain ⟨b, rfl⟩ := h; exact ⟨_, rfl, rfl⟩
    case int k => obtain ⟨x, rfl, _⟩ := h; exact ⟨_, rfl, rfl⟩
    case string => obtain ⟨l, rfl, _⟩ := h; exact ⟨_, rfl, rfl⟩
    case slice e => obtain ⟨rows, rfl, _⟩ := h; exact ⟨_, rfl, rfl⟩

theorem arg_R {S : List TypeId} (hS : ∀ t ∈ S, kindOk P S t = true) {W : World} {t : TypeId} {v : Value} {d : DataW H} {p : List MemPlace} {base : Nat} (ht : t ∈ S) (hok : Value.okWide P W .any base t v)
    (h : DataW.Trod enc P W 0 (fun _ => true) true t v d p) : ∃ a, R (G0 W) W a v ∧ ArgTy P t a := by
  obtain ⟨fuel, hf⟩ := h
  obtain ⟨avs, h1, h2⟩ := trod_R hS (fun _ => rfl) fuel t _ d p ht hf
  have hk := hS t ht
  cases hu : P.underlying t with
  | none => unfold kindOk at hk; rw [hu] at hk; cases hk
  | some td =>
    cases ha : aggD td with
    | true =>
      have hv : ∃ cs, v = .agg cs := by
        unfold Value.okWide at hok
        rw [hu] at hok
        cases td <;> simp only [aggD, Bool.false_eq_true] at ha hok
        · obtain ⟨cs, h, _⟩ := hok; exact ⟨cs, h⟩
        · obtain ⟨cs, h, _⟩ := hok; exact ⟨cs, h⟩
      obtain ⟨cs, rfl⟩ := hv
      refine ⟨.agg avs, .agg avs cs (by rw [h2.len]; rfl) h2.one (fun i c v hc hv => h2.rel i c v hc (by simpa [Value.cells] using hv)), fuel, avs, h1, .inl ⟨td, hu, ha, rfl⟩⟩
    | false =>
      obtain ⟨a, rfl, hc⟩ := h1.one hu ha
      have hl := h2.len
      -- one cell
      have hv : v.cells = #[v] := by
        cases v <;> first | rfl | skip
        rename_i cs
        exfalso
        unfold Value.okWide at hok
        rw [hu] at hok
        unfold Cell.okWide Cell.ok at hok
        cases td <;> simp only [aggD, reduceCtorEq] at ha hok <;> (try (rw [hu] at hok; simp at hok)) <;> (try (simp [hu] at hok))
      refine ⟨a, h2.rel 0 a v rfl (by rw [hv]; rfl), fuel, [a], h1, .inr ⟨td, hu, ha, rfl⟩⟩

theorem args_R {S : List TypeId} (hS : ∀ t ∈ S, kindOk P S t = true) {W : World} {base : Nat} : ∀ (ts : List TypeId) (vs : List Value) (ds : List (DataW H)) (p : List MemPlace), (∀ t ∈ ts, t ∈ S) → (∀ (j : Nat) t v, ts[j]? = some t → vs[j]? = some v → Value.okWide P W .any base t v) →
    DataW.TrodAll enc P W 0 (fun _ => true) true ts vs ds p → ∃ avs : List AV, avs.length = vs.length ∧ ts.length = vs.length ∧ ds.length = ts.length ∧ (∀ (i : Nat) a v, avs[i]? = some a → vs[i]? = some v → R (G0 W) W a v) ∧ ∀ (i : Nat) t a, ts[i]? = some t → avs[i]? = some a → ArgTy P t a
  | [], [], [], p, _, _, _ => ⟨[], rfl, rfl, rfl, fun i a v h => by simp at h, fun i t a h => by simp at h⟩
  | t :: ts, v :: vs, d :: ds, p, hts, hok, h => by
    obtain ⟨p1, q1, h1, h2, _⟩ := h
    obtain ⟨a, ha, hta⟩ := arg_R hS (hts t (by simp)) (hok 0 t v rfl rfl) h1
    obtain ⟨avs, l1, l2, l3, hr, ht⟩ := args_R hS ts vs ds q1 (fun t ht => hts t (List.mem_cons_of_mem _ ht)) (fun j t v h1 h2 => hok (j + 1) t v (by simpa using h1) (by simpa using h2)) h2
    refine ⟨a :: avs, by simp [l1], by simp [l2], by simp [l3], fun i a' v' h1 h2 => ?_, fun i t' a' h1 h2 => ?_⟩
    · cases i with
      | zero => simp at h1 h2; subst h1; subst h2; exact ha
      | succ i => exact hr i a' v' (by simpa using h1) (by simpa using h2)
    · cases i with
      | zero => simp at h1 h2; subst h1; subst h2; exact hta
      | succ i => exact ht i t' a' (by simpa using h1) (by simpa using h2)
  | [], _ :: _, _, _, _, _, h => h.elim
  | [], [], _ :: _, _, _, _, h => h.elim
  | _ :: _, [], _, _, _, _, h => h.elim
  | _ :: _, _ :: _, [], _, _, _, h => h.elim

theorem TrodAll.below (hl : laidOutB P = true) {W W' : World} (hb : Below W.heap.size W W') : ∀ (ts : List TypeId) (vs : List Value) (ds : List (DataW H)) (p : List MemPlace), (∀ t ∈ ts, P.readableRec t = true ∧ t < P.types.size) → (∀ x ∈ p, x.block < W.heap.size) →
    DataW.TrodAll enc P W 0 (fun _ => true) true ts vs ds p → DataW.TrodAll enc P W' 0 (fun b => decide (b < W.heap.size)) true ts vs ds p
  | [], [], [], p, _, _, h => h
  | t :: ts, v :: vs, d :: ds, p, hts, hlt, h => by
    obtain ⟨p1, q1, h1, h2, rfl⟩ := h
    exact ⟨p1, q1, Below.trod hl (hts t (by simp)).1 (hts t (by simp)).2 h1 hb (fun x hx => hlt x (List.mem_append_left _ hx)), TrodAll.below hl hb ts vs ds q1 (fun t ht => hts t (List.mem_cons_of_mem _ ht)) (fun x hx => hlt x (List.mem_append_right _ hx)) h2, rfl⟩
  | [], _ :: _, _, _, _, _, h => h.elim
  | [], [], _ :: _, _, _, _, h => h.elim
  | _ :: _, [], _, _, _, _, h => h.elim
  | _ :: _, _ :: _, [], _, _, _, h => h.elim

end
end Go.AM
/- Laid variables: what they hold, out of the premise that lays them; a law's contract where variables are laid. No conditions: definitions and lemmas only. -/
namespace Go.AM
open Go.RowKit (Below shut_bool)
open Go.ChangeShapes Go.WideShapes Go.ChangeAt

mutual
/-- The cells that a plain datum reads off. -/
def litRow : DataW Unit → Option (List AV)
  | .lit (.int k n) => some [.int k n]
  | .lit (.bool b) => some [.bool b]
  | .lit (.string l) => some [.str l]
  | .agg ds => litRows ds
  | _ => none
def litRows : List (DataW Unit) → Option (List AV)
  | [] => some []
  | d :: ds => match litRow d, litRows ds with
    | some a, some b => some (a ++ b)
    | _, _ => none
end

theorem segs_lit {g : G} {w : World} {cs : List Value} : ∀ (l : List (Nat × Nat)) (o : Nat) (ds : List (DataW Unit)) (row : List AV), contig o l cs.length = true → ds.length = l.length →
    (∀ (i : Nat) x d r, l[i]? = some x → ds[i]? = some d → litRow d = some r → RL g w r ((cs.drop x.1).take x.2)) → litRows ds = some row → RL g w row (cs.drop o)
  | [], o, [], row, h, _, _, hr => by
    have := Nat.eq_of_beq_eq_true h
    subst this
    unfold litRows at hr
    cases hr
    rw [List.drop_length]
    exact .nil g w
  | [], _, _ :: _, _, _, hl, _, _ => by cases hl
  | _ :: _, _, [], _, _, hl, _, _ => by cases hl
  | (off, sz) :: l, o, d :: ds, row, h, hl, hp, hr => by
    simp only [contig, Bool.and_eq_true] at h
    have ho := Nat.eq_of_beq_eq_true h.1
    subst ho
    unfold litRows at hr
    split at hr
    · rename_i a b ha hb
      cases hr
      have h1 := hp 0 (o, sz) d a rfl rfl ha
      have h2 := segs_lit l (o + sz) ds b h.2 (by simpa using hl) (fun i x d r h1 h2 h3 => hp (i + 1) x d r (by simpa using h1) (by simpa using h2) h3) hb
      have hsplit : cs.drop o = (cs.drop o).take sz ++ cs.drop (o + sz) := by
        rw [← List.drop_drop, List.take_append_drop]
      rw [hsplit]
      exact h1.append h2
    · cases hr

theorem trod_lit {P : Program} {enc : TypeId × Value → Unit} {S : List TypeId} (hS : ∀ t ∈ S, kindOk P S t = true) {w : World} {sp : Nat → Bool} {held : Bool} : ∀ (fuel : Nat) (t : TypeId) (cs : List Value) (d : DataW Unit) (ps : List MemPlace) (row : List AV), t ∈ S →
    DataW.trod enc P w 0 sp held fuel t cs = some (d, ps) → litRow d = some row → RL (G0 w) w row cs
  | 0, t, cs, d, ps, row, _, h, _ => by cases h
  | fuel + 1, t, cs, d, ps, row, ht, h, hr => by
    have hk := hS t ht
    have ih := fun t cs d ps row => trod_lit hS (w := w) (sp := sp) (enc := enc) (held := held) fuel t cs d ps row
    have h0 := h
    unfold DataW.trod at h
    unfold kindOk at hk
    cases hu : P.underlying t with
    | none => rw [hu] at hk; cases hk
    | some td =>
      rw [hu] at h hk
      cases td <;> simp only [Bool.false_eq_true] at hk
      case bool =>
        split at h <;> first | (cases h; done) | skip
        all_goals (try (rename_i heq _; cases heq; done))
        all_goals (try (rename_i heq; cases heq; done))
        cases h
        unfold litRow at hr
        cases hr
        exact .single rfl (.bool _)
      case int k =>
        split at h <;> first | (cases h; done) | skip
        all_goals (try (rename_i heq _; cases heq; done))
        all_goals (try (rename_i heq; cases heq; done))
        rename_i k1 k' x heq
        cases heq
        split at h
        · rename_i hc
          obtain ⟨rfl, hwf⟩ := hc
          cases h
          unfold litRow at hr
          cases hr
          exact .single rfl (.int _ _)
        · cases h
      case string =>
        split at h <;> first | (cases h; done) | skip
        all_goals (try (rename_i heq _; cases heq; done))
        all_goals (try (rename_i heq; cases heq; done))
        rename_i s heq
        split at h
        · cases h
          unfold litRow at hr
          cases hr
          obtain ⟨⟨l⟩⟩ := s
          exact .single rfl (.str l)
        · cases h
      case slice e =>
        split at h <;> first | (cases h; done) | skip
        all_goals (try (rename_i heq _; cases heq; done))
        all_goals (try (rename_i heq; cases heq; done))
        · cases h
          unfold litRow at hr
          cases hr
        · simp only at h
          split at h
          · obtain ⟨elems, h1, h2⟩ := Option.bind_eq_some_iff.1 h
            obtain ⟨rest, h3, h4⟩ := Option.map_eq_some_iff.1 h2
            cases h4
            unfold litRow at hr
            cases hr
          · cases h
      case array m e =>
        simp only [Bool.and_eq_true] at hk
        obtain ⟨hsz, heS⟩ := hk
        have heS' : e ∈ S := by simpa using heS
        have hsz' := Nat.eq_of_beq_eq_true hsz
        clear h
        obtain ⟨xs, m0, hm0, hx, hlen, hxl, h1⟩ := DataW.trod_array hu h0
        obtain rfl : fuel = m0 := by omega
        cases hx
        unfold litRow at hr
        have hcont : contig 0 ((List.range m).map fun i => (i * P.cellsOf e, P.cellsOf e)) cs.length = true := by
          rw [hlen, ← hsz']
          have := contig_range (P.cellsOf e) m 0
          rw [Nat.zero_mul, Nat.zero_add] at this
          rw [List.range_eq_range']
          exact this
        have := segs_lit (g := G0 w) (w := w) (cs := cs) _ 0 _ row hcont (by simp [hxl]) (fun i x d r hl hd hr => by
          simp only [List.getElem?_map, Option.map_eq_some_iff] at hl hd
          obtain ⟨j, hj, rfl⟩ := hl
          obtain ⟨y, hy, rfl⟩ := hd
          have hj' := List.getElem?_eq_some_iff.1 hj
          obtain ⟨hj1, hj2⟩ := hj'
          simp only [List.getElem_range] at hj2
          subst hj2
          have h2 := h1 i (by simpa using hj1)
          rw [hy] at h2
          exact ih e _ y.1 y.2 r heS' h2 hr) hr
        rwa [List.drop_zero] at this
      case struct fs =>
        simp only [Bool.and_eq_true] at hk
        obtain ⟨hcont0, hall⟩ := hk
        clear h
        obtain ⟨xs, m0, hm0, hx, hlen, hxl, h1⟩ := DataW.trod_struct hu h0
        obtain rfl : fuel = m0 := by omega
        cases hx
        unfold litRow at hr
        have hcont : contig 0 (fs.toList.map fun f => (f.offset, P.cellsOf f.type)) cs.length = true := by
          rw [hlen]
          exact hcont0
        have := segs_lit (g := G0 w) (w := w) (cs := cs) _ 0 _ row hcont (by simp [hxl]) (fun i x d r hl hd hr => by
          simp only [List.getElem?_map, Option.map_eq_some_iff] at hl hd
          obtain ⟨f, hf, rfl⟩ := hl
          obtain ⟨y, hy, rfl⟩ := hd
          have h2 := h1 i f (by rw [← Array.getElem?_toList]; exact hf)
          rw [hy] at h2
          have hfS : f.type ∈ S := by
            have := List.all_eq_true.1 hall f (List.mem_of_getElem? hf)
            simpa using this
          exact ih _ _ y.1 y.2 r hfS h2 hr) hr
        rwa [List.drop_zero] at this

theorem laid_find {P : Program} {w : World} : ∀ {laid : List (String × DataW Unit)} {ps : List MemPlace}, DataW.LaidVars P w laid ps → ∀ n d, (n, d) ∈ laid →
    ∃ g t cs fuel p, P.globalNamed n = some g ∧ (P.globals[g]?).map (·.type) = some t ∧ w.var? P n = some cs ∧ DataW.trod (fun _ => ()) P w 0 (fun _ => true) false fuel t cs.toList = some (d, p)
  | [], _, _, n, d, h => by cases h
  | (n0, d0) :: r, ps, hL, n, d, h => by
    obtain ⟨g, t, cs, fuel, p, q, h1, h2, h3, h4, h5, _⟩ := hL
    rcases List.mem_cons.1 h with h | h
    · cases h
      exact ⟨g, t, cs, fuel, p, h1, h2, h3, h4⟩
    · exact laid_find h5 n d h

/-- A laid variable's row. -/
theorem laid_row {P : Program} {S : List TypeId} (hS : ∀ t ∈ S, kindOk P S t = true) {w : World} {laid : List (String × DataW Unit)} (hl : laidMet P laid w) {n : String} {d : DataW Unit} {row : List AV} {gi : Nat} {t : TypeId} (hm : (n, d) ∈ laid)
    (hd : litRow d = some row) (hg : P.globalNamed n = some gi) (ht : (P.globals[gi]?).map (·.type) = some t) (htS : t ∈ S) (hne : row ≠ []) :
    GlobAt (G0 w) w gi row := by
  obtain ⟨ps, hL, _⟩ := hl
  obtain ⟨g, t', cs, fuel, p, h1, h2, h3, h4⟩ := laid_find hL n d hm
  obtain rfl := Option.some.inj (h1.symm.trans hg)
  obtain rfl := Option.some.inj (h2.symm.trans ht)
  have hR := trod_lit hS fuel _ _ _ _ row htS h4 hd
  have hcell := fun i => World.var?_cell h1 h3 i
  have hlen : row.length = cs.size := by simpa using hR.len
  have h0 : 0 < row.length := List.length_pos_iff.2 hne
  have hb : g < w.heap.size := by
    have := hcell 0
    rw [Array.getElem?_eq_getElem (by omega)] at this
    exact block_lt_of_cell this
  refine ⟨?_, hb, ?_⟩
  rotate_left
  · unfold World.var? at h3
    rw [h1] at h3
    simp only [Option.bind_some] at h3
    split at h3
    · rename_i cs' ty fr hh
      cases h3
      exact ⟨_, _, _, hh, hlen.symm⟩
    · cases h3
  have := R.eptr (g := G0 w) (w := w) row.length [row] 0 0 g 0 (fun _ j => (cs[j]?).getD undef) (by simp) (by simpa using hR.one) (fun i j hi hj => ⟨hb, by
    have hi0 : i = 0 := by simpa using hi
    subst hi0
    rw [Nat.zero_mul, Nat.zero_add, Nat.zero_add, hcell j, Array.getElem?_eq_getElem (by omega)]
    rfl⟩) (fun i j row' c hr hc => by
    have hi0 : i = 0 ∧ row' = row := by
      cases i with
      | zero => simp at hr; exact ⟨rfl, hr.symm⟩
      | succ i => simp at hr
    obtain ⟨rfl, rfl⟩ := hi0
    have hj : j < row'.length := (List.getElem?_eq_some_iff.1 hc).1
    have hj2 : j < cs.size := by omega
    rw [Array.getElem?_eq_getElem hj2]
    exact hR.rel j c _ hc (by simp [hj2]))
  simpa using this

end Go.AM
/- A law's arguments, opened by their types. No conditions: lemmas only. -/
namespace Go.AM

variable {P : Program} {t : TypeId} {a : AV}

theorem arg_one {td : TypeDesc} (hu : P.underlying t = some td) (ha : aggD td = false) (h : ArgTy P t a) : ∃ fuel, HasTy P fuel t [a] := by
  obtain ⟨fuel, cs, h1, h2⟩ := h
  rcases h2 with ⟨td', hu', ha', _⟩ | ⟨_, _, _, rfl⟩
  · rw [hu] at hu'
    cases hu'
    rw [ha] at ha'
    cases ha'
  · exact ⟨fuel, h1⟩

theorem arg_int {k : IntKind} (hu : P.underlying t = some (.int k)) (h : ArgTy P t a) : ∃ x, a = .int k x ∧ (Lit.int k x).wf = true := by
  obtain ⟨fuel, h1⟩ := arg_one hu rfl h
  cases fuel with
  | zero => exact h1.elim
  | succ fuel =>
    unfold HasTy at h1
    rw [hu] at h1
    obtain ⟨x, hx, hw⟩ := h1
    cases hx
    exact ⟨x, rfl, hw⟩

end Go.AM
/- A law's contract, the arguments no larger than memory. No conditions: definitions and lemmas only. -/
namespace Go.AM
open Go.RowKit (Below shut_bool)
open Go.ChangeShapes Go.WideShapes Go.ChangeAt

/-- An argument that memory can hold. -/
def Small (P : Program) (t : TypeId) : AV → Prop
  | .str l => l.length ≤ 140737488351232
  | .view _ rows _ => match P.underlying t with
    | some (.slice e) => rows.length * P.bytesOf e ≤ 140737488351232
    | _ => True
  | _ => True

section
variable {H : Type} {enc : TypeId × Value → H} {P : Program}

theorem trodAll_get {W : World} {sp : Nat → Bool} {held : Bool} : ∀ {ts : List TypeId} {vs : List Value} {ds : List (DataW H)} {p : List MemPlace}, DataW.TrodAll enc P W 0 sp held ts vs ds p →
    ∀ (i : Nat) t v d, ts[i]? = some t → vs[i]? = some v → ds[i]? = some d → ∃ q, DataW.Trod enc P W 0 sp held t v d q
  | [], _, _, _, _, i, t, v, d, h, _, _ => by simp at h
  | _ :: _, [], _, _, _, i, t, v, d, _, h, _ => by simp at h
  | _ :: _, _ :: _, [], _, _, i, t, v, d, _, _, h => by simp at h
  | t0 :: ts, v0 :: vs, d0 :: ds, p, h, i, t, v, d, h1, h2, h3 => by
    obtain ⟨p1, q1, k1, k2, _⟩ := h
    cases i with
    | zero => simp at h1 h2 h3; subst h1; subst h2; subst h3; exact ⟨_, k1⟩
    | succ i => exact trodAll_get k2 i t v d (by simpa using h1) (by simpa using h2) (by simpa using h3)

theorem weights_get {us : List TypeId} {gs : List (DataW H)} {p : Nat → Bool} : ∀ {ts : List TypeId} {ds : List (DataW H)}, ts.length = ds.length → (DataW.weightsEach P (ts ++ us) (ds ++ gs)).all p = true →
    ∀ (i : Nat) t d, ts[i]? = some t → ds[i]? = some d → (d.weights P t).all p = true
  | [], _, _, _, i, t, d, h, _ => by simp at h
  | _ :: _, [], h, _, _, _, _, _, _ => by cases h
  | t0 :: ts, d0 :: ds, hl, h, i, t, d, h1, h2 => by
    rw [List.cons_append, List.cons_append] at h
    unfold DataW.weightsEach at h
    rw [List.all_append, Bool.and_eq_true] at h
    cases i with
    | zero => simp at h1 h2; subst h1; subst h2; exact h.1
    | succ i => exact weights_get (by simpa using hl) h.2 i t d (by simpa using h1) (by simpa using h2)

theorem arg_small {W : World} {sp : Nat → Bool} {t : TypeId} {v : Value} {d : DataW H} {p : List MemPlace} {a : AV} {g : G} (ht : DataW.Trod enc P W 0 sp true t v d p) (hR : R g W a v) (hty : ArgTy P t a)
    (hw : (d.weights P t).all (· ≤ reachBytes) = true) : Small P t a := by
  obtain ⟨fuel, h⟩ := ht
  cases fuel with
  | zero => cases h
  | succ fuel =>
    obtain ⟨f0, cs, k1, k2⟩ := hty
    cases a with
    | str l =>
      rcases k2 with ⟨td, _, _, k3⟩ | ⟨td, hu, ha, _⟩
      · cases k3
      · cases hR
        unfold DataW.trod at h
        rw [hu] at h
        cases td <;> simp only [aggD, reduceCtorEq] at ha <;> simp [Value.cells] at h
        obtain ⟨_, rfl, _⟩ := h
        simp only [DataW.weights, List.all_cons, List.all_nil, Bool.and_true, decide_eq_true_eq] at hw
        exact hw
    | view sz rows tk =>
      rcases k2 with ⟨td, _, _, k3⟩ | ⟨td, hu, ha, _⟩
      · cases k3
      · unfold Small
        rw [hu]
        cases td <;> first | trivial | skip
        rename_i e
        simp only
        cases hR with
        | vnil => simp
        | vemp => simp
        | view _ _ _ b off cap f hc hm =>
          unfold DataW.trod at h
          rw [hu] at h
          simp only [Value.cells] at h
          split at h
          · obtain ⟨elems, h1, h2⟩ := Option.bind_eq_some_iff.1 h
            obtain ⟨rest, h3, h4⟩ := Option.map_eq_some_iff.1 h2
            have hl := mapM_some_length h1
            simp only [List.length_range] at hl
            cases h4
            unfold DataW.weights at hw
            rw [hu] at hw
            simp only [List.all_cons, List.length_map, Bool.and_eq_true, decide_eq_true_eq] at hw
            have := hw.1
            rw [hl] at this
            exact Nat.le_trans (Nat.mul_le_mul_right _ (Nat.le_add_right _ _)) this
          · cases h
    | _ => trivial

/-- The contract of a law: its abstract walk answers true whatever the arguments. -/
theorem law_contractS {s : ChangeSpec} {fn : Func} {f : FuncId} {tb : TypeId} {S : List TypeId} (globs : List (Nat × List AV)) (hl : laidOutB P = true) (hS : ∀ t ∈ S, kindOk P S t = true) (hparams : ∀ t ∈ fn.params.toList, t ∈ S ∧ P.readableRec t = true ∧ t < P.types.size)
    (hvars : s.vars = []) (hfn : ∀ ds : List (DataW H), ds.length = fn.params.size → s.fn H ds = { results := [.lit (.bool true)], args := ds }) (hres : fn.resultTypes = #[tb]) (hb : P.underlying tb = some .bool)
    (W : World) (base : Nat) (args : Array Value) (ds gs : List (DataW H)) (before : List MemPlace)
    (hval : ∀ (j : Nat) t v, fn.params[j]? = some t → args[j]? = some v → Value.okWide P W .any base t v)
    (hW : DataW.Whole enc P fn.params.toList s.vars false W args.toList ds gs before)
    {us : List TypeId} (hwt : (DataW.weightsEach P (fn.params.toList ++ us) (ds ++ gs)).all (· ≤ reachBytes) = true)
    (hglob : ∀ gi row, (gi, row) ∈ globs → GlobAt (G0 W) W gi row)
    (walk : ∀ avs : List AV, avs.length = fn.params.size → (∀ (i : Nat) t a, fn.params[i]? = some t → avs[i]? = some a → ArgTy P t a) → (∀ (i : Nat) t a, fn.params[i]? = some t → avs[i]? = some a → Small P t a) →
      ACalls P f avs { obj := fun _ => none, tok := fun _ => false, glob := globs } (fun v _ => v = .bool true) (fun _ _ => False)) :
    Calls P f args W fun e W' => ∃ v, e = .returned v ∧ s.post enc P fn false true false false W args v W' := by
  have hW' := hW
  obtain ⟨p, q, hA, hV, rfl, _, _⟩ := hW
  obtain ⟨avs, l1, l2, l3, hR, hT⟩ := args_R hS fn.params.toList args.toList ds p (fun t ht => (hparams t ht).1) (fun j t v h1 h2 => hval j t v (by simpa using h1) (by simpa using h2)) hA
  rw [hvars] at hV
  obtain ⟨rfl, rfl⟩ := trodVars_none hV
  have hlen : avs.length = fn.params.size := by rw [l1, ← l2]; simp
  have hsm : ∀ (i : Nat) t a, fn.params[i]? = some t → avs[i]? = some a → Small P t a := by
    intro i t a h1 h2
    have h1' : fn.params.toList[i]? = some t := by simpa using h1
    have hi : i < fn.params.toList.length := (List.getElem?_eq_some_iff.1 h1').1
    have hv : args.toList[i]? = some (args.toList[i]'(by omega)) := List.getElem?_eq_getElem _
    have hd : ds[i]? = some (ds[i]'(by omega)) := List.getElem?_eq_getElem _
    obtain ⟨q, hq⟩ := trodAll_get hA i t _ _ h1' hv hd
    exact arg_small hq (hR i a _ h2 hv) (hT i t a h1' h2) (weights_get (by omega) hwt i t _ h1' hd)
  have hcall := walk avs hlen (fun i t a h1 h2 => hT i t a (by simpa using h1) h2) hsm (G0 W) W args (Sim0 W globs hglob) (by rw [l1]; simp) (fun i c v h1 h2 => hR i c v h1 (by simpa using h2))
  refine hcall.mono fun e W' ⟨g', st', he, _, hq⟩ => ?_
  cases e with
  | panicked ch => obtain ⟨_, _, _, _, h⟩ := hq; exact h.elim
  | outgrown => exact hq.elim
  | returned rv =>
    obtain ⟨v, hRv, rfl⟩ := hq
    have hrv : rv = .bool true := by cases hRv; rfl
    subst hrv
    have hbelow : Below W.heap.size W W' := he.below
    have hsp := hfn (ds ++ []) (by simp; rw [l3]; simp)
    refine ⟨_, rfl, ds, [], p ++ [], [], p ++ [], [], hW', ?_, ?_, ?_, hbelow.frame _, fun h => by cases h⟩
    · rw [hsp, hres]
      exact trodAll_cons_mk (shut_bool hb true) trodAll_mk0
    · rw [hsp, List.append_nil, List.append_nil]
      exact TrodAll.below hl hbelow _ _ _ _ (fun t ht => (hparams t ht).2) (fun x hx => hW'.lt x (by simpa using hx)) hA
    · rw [hsp, hvars]
      rfl

end
end Go.AM
/- Rules that shorten the walks: variables that are written once, tests, contracts that leave the state as it was. No conditions: lemmas only. -/
namespace Go.AM
open Go.RowKit (Below)

section
variable {P : Program} {n : Nat} {K : Post} {E : EPost} {T : Tmps} {st : St} {ops : Array Oper} {rest : List Oper}
variable {ty : TypeId} {pos : String} {es : Array Edge} {gd : Option (Nat × Bool)} {d : Tmp} {x y : Operand} {dd : Option Tmp}

/-- An object that is written no more. -/
theorem R.frozenC {g : G} {w : World} (hs : Sim g w st) {o sz i off : Nat} {oty : TypeId} {rows : List (List AV)} (ho : st.obj o = some (.cells oty sz rows)) {rv : Value} (h : R g w (.cptr o sz i off) rv) :
    ∃ g', Ext g w g' w ∧ Sim g' w (st.drop o) ∧ R g' w (.eptr sz rows i off) rv := by
  cases h with
  | cptr _ _ _ _ b m hb =>
    obtain ⟨g', he, hsim, himm⟩ := hs.freeze ho hb
    obtain ⟨_, ⟨arr, ha, hsz, hml, hlr, h1, hcell⟩, _⟩ := hs.objOf ho hb
    refine ⟨g', he, hsim, ?_⟩
    have key := R.eptr (g := g') (w := w) sz rows i off b 0 (fun i j => arr.getD (i * sz + j) undef) hlr h1
      (fun i j hi hj => by
        refine ⟨himm _, ?_⟩
        have h2 : i * sz + j < rows.length * sz := mul_add_lt hi hj
        rw [cell_of_row w b _ arr oty (0, 0) ha, Array.getD_eq_getD_getElem?, Nat.zero_add, Array.getElem?_eq_getElem (by omega)]
        rfl)
      (fun i j row c hr hcj => by
        obtain ⟨v, hv1, hv2⟩ := hcell i j row c hr hcj
        rw [Array.getD_eq_getD_getElem?, hv1]
        exact hv2.ext he)
    rw [Nat.zero_add] at key
    exact key

theorem StLe.ofNew {st : St} {o : Nat} {c : AObj} (h : st.obj o = none) : StLe ((st.set o c).drop o) st :=
  ⟨fun p x hp => by
    have : p ≠ o := St.ne_of_new h hp
    rw [St.obj_drop_ne this, St.obj_set_ne this]; exact hp, fun _ h => h, rfl⟩

/-- A new variable, of which no more than its only value is of interest. -/
theorem AOps.fz (t : Nat) {o s i off : Nat} {oty : TypeId} {rows : List (List AV)} (ht : T.get t = some (.cptr o s i off)) (ho : st.obj o = none)
    (h : AOps P n ops rest K E ((t, .eptr s rows i off) :: T) st) : AOps P n ops rest K E T (st.set o (.cells oty s rows)) :=
  AOps.ghost fun g w a hs hk => by
    obtain ⟨rv, h1, h2⟩ := hk t _ ht
    obtain ⟨g', he, hs', hR⟩ := h2.frozenC hs (St.obj_set _ _ _)
    exact ⟨g', _, _, he, hs'.le (StLe.ofNew ho), (hk.ext he).cons h1 hR, h⟩

/-- A box whose content stays. -/
theorem bxe {t : TypeId} {v : AV} {sz : Nat} (hg : goes ops n T ⟨dd, .box t x, ty, pos, es, gd⟩ = some d) (hx : ev st T x = some v) (hv : storable v = true) (hsz : v.cells.length = sz)
    (k : AOps P n ops rest K E ((d, .eptr sz [v.cells] 0 0) :: T) st) : AOps P n ops (⟨dd, .box t x, ty, pos, es, gd⟩ :: rest) K E T st := by
  refine bx hg hx hv hsz fun o ho => ?_
  refine AOps.fz d (by rw [Tmps.get_cons, if_pos rfl]) ho ?_
  refine AOps.weaken (T' := (d, .eptr sz [v.cells] 0 0) :: T) ?_ (.refl _) k
  intro i v' hi
  rw [Tmps.get_cons] at hi
  rw [Tmps.get_cons, Tmps.get_cons]
  by_cases h : d = i
  · rw [if_pos h] at hi ⊢
    exact ⟨_, rfl, by cases hi; exact .refl _⟩
  · rw [if_neg h] at hi ⊢
    rw [if_neg h]
    exact ⟨_, hi, .refl _⟩

/-- A literal of a slice that is not appended to. -/
theorem bsh {t e : TypeId} {len : Nat} {esz eby : Nat} {ez : Value} {parts : Array (Nat × Operand)} {vs : List (Nat × AV)} {cs : List AV} [hu : Und P t (.slice e)] [hie : Inf P e (esz + 1) eby ez] (hg : goes ops n T ⟨dd, .buildSlice t len parts, ty, pos, es, gd⟩ = some d)
    (hz : zok (esz + 1) ez = true) (hsm : Nat.ble (len * (esz + 1)) 16777216 = true) (he : evParts st T parts.toList = some vs) (hf : afill (fun i => some (i * (esz + 1), esz + 1)) ((List.replicate len (zrow ez)).flatten) vs = some cs)
    (k : AOps P n ops rest K E ((d, .view (esz + 1) (chunk (esz + 1) len cs) .shared) :: T) st) : AOps P n ops (⟨dd, .buildSlice t len parts, ty, pos, es, gd⟩ :: rest) K E T st := by
  refine bs hg hz hsm he hf fun tk htk => ?_
  refine AOps.weaken (T' := (d, .view (esz + 1) (chunk (esz + 1) len cs) .shared) :: T) ?_ (StLe.addTok _ (.refl _)) k
  intro i v' hi
  rw [Tmps.get_cons] at hi ⊢
  by_cases h : d = i
  · rw [if_pos h] at hi ⊢
    cases hi
    exact ⟨_, rfl, .shared _ _ _⟩
  · rw [if_neg h] at hi ⊢
    exact ⟨_, hi, .refl _⟩

theorem rowSet_all {row cs : List AV} (h : cs.length = row.length) : rowSet row 0 cs = cs := by
  simp [rowSet, h]

/-- A literal of a slice with one element, not appended to. -/
theorem bs1 {t e : TypeId} {esz eby : Nat} {ez : Value} {v : AV} [hu : Und P t (.slice e)] [hie : Inf P e (esz + 1) eby ez] (hg : goes ops n T ⟨dd, .buildSlice t 1 #[(0, x)], ty, pos, es, gd⟩ = some d)
    (hz : zok (esz + 1) ez = true) (hsm : Nat.ble (1 * (esz + 1)) 16777216 = true) (hx : ev st T x = some v) (hl : Nat.beq v.cells.length (esz + 1) = true) (hv : storable v = true)
    (k : AOps P n ops rest K E ((d, .view (esz + 1) [v.cells] .shared) :: T) st) : AOps P n ops (⟨dd, .buildSlice t 1 #[(0, x)], ty, pos, es, gd⟩ :: rest) K E T st := by
  have hl' := Nat.eq_of_beq_eq_true hl
  obtain ⟨z1, z2, z3, z4⟩ := zok_spec hz
  have hr : rowSet (zrow ez) 0 v.cells = v.cells := rowSet_all (by rw [hl', z3])
  refine bsh (vs := [(0, v)]) (cs := v.cells) hg hz hsm (by simp [evParts, hx]) ?_ ?_
  · simp only [List.replicate_one, List.flatten_cons, List.flatten_nil, List.append_nil, afill, Nat.zero_mul, hl', nbeq_self, hv, z3, Nat.zero_add, Nat.ble_self_eq_true, Bool.and_self, cond_true, hr]
  · have : chunk (esz + 1) 1 v.cells = [v.cells] := by simp [chunk, ← hl']
    rw [this]
    exact k

/-- A literal of a slice with one element, that may be appended to. -/
theorem bs1o {t e : TypeId} {esz eby : Nat} {ez : Value} {v : AV} [hu : Und P t (.slice e)] [hie : Inf P e (esz + 1) eby ez] (hg : goes ops n T ⟨dd, .buildSlice t 1 #[(0, x)], ty, pos, es, gd⟩ = some d)
    (hz : zok (esz + 1) ez = true) (hsm : Nat.ble (1 * (esz + 1)) 16777216 = true) (hx : ev st T x = some v) (hl : Nat.beq v.cells.length (esz + 1) = true) (hv : storable v = true)
    (k : ∀ tk, st.tok tk = false → AOps P n ops rest K E ((d, .view (esz + 1) [v.cells] (.own tk e)) :: T) (st.addTok tk)) : AOps P n ops (⟨dd, .buildSlice t 1 #[(0, x)], ty, pos, es, gd⟩ :: rest) K E T st := by
  have hl' := Nat.eq_of_beq_eq_true hl
  obtain ⟨z1, z2, z3, z4⟩ := zok_spec hz
  have hr : rowSet (zrow ez) 0 v.cells = v.cells := rowSet_all (by rw [hl', z3])
  refine bs (vs := [(0, v)]) (cs := v.cells) hg hz hsm (by simp [evParts, hx]) ?_ fun tk htk => ?_
  · simp only [List.replicate_one, List.flatten_cons, List.flatten_nil, List.append_nil, afill, Nat.zero_mul, hl', nbeq_self, hv, z3, Nat.zero_add, Nat.ble_self_eq_true, Bool.and_self, cond_true, hr]
  · have : chunk (esz + 1) 1 v.cells = [v.cells] := by simp [chunk, ← hl']
    rw [this]
    exact k tk htk

theorem sel_all {row : List AV} {sz : Nat} (h : Nat.beq sz row.length = true) : sel true sz row 0 = some (.agg row) := by
  have := Nat.eq_of_beq_eq_true h
  subst this
  simp [sel, Nat.ble_self_eq_true]

/-- A load of a whole row. -/
theorem leW {t : TypeId} {td : TypeDesc} [hu : Und P t td] {sz by_ : Nat} {zz : Value} [hi : Inf P t sz by_ zz] {s : Nat} {rows : List (List AV)} {i : Nat} {row : List AV}
    (hg : goes ops n T ⟨dd, .load t x, ty, pos, es, gd⟩ = some d) (ha : aggD td = true) (hx : ev st T x = some (.eptr s rows i 0)) (hr : rows[i]? = some row) (hl : Nat.beq sz row.length = true)
    (k : AOps P n ops rest K E ((d, .agg row) :: T) st) : AOps P n ops (⟨dd, .load t x, ty, pos, es, gd⟩ :: rest) K E T st :=
  le hg hx hr (by rw [ha]; exact sel_all hl) k

theorem lcW {t : TypeId} {td : TypeDesc} [hu : Und P t td] {sz by_ : Nat} {zz : Value} [hi : Inf P t sz by_ zz] {o s : Nat} {rows : List (List AV)} {i : Nat} {row : List AV}
    (hg : goes ops n T ⟨dd, .load t x, ty, pos, es, gd⟩ = some d) (ha : aggD td = true) (hx : ev st T x = some (.cptr o s i 0)) {oty : TypeId} (ho : st.obj o = some (.cells oty s rows)) (hr : rows[i]? = some row) (hl : Nat.beq sz row.length = true)
    (k : AOps P n ops rest K E ((d, .agg row) :: T) st) : AOps P n ops (⟨dd, .load t x, ty, pos, es, gd⟩ :: rest) K E T st :=
  lc hg hx ho hr (by rw [ha]; exact sel_all hl) k

/-- A store into the object that was written last. -/
theorem sos {t : TypeId} {sz by_ : Nat} {zz : Value} [hi : Inf P t sz by_ zz] {o s : Nat} {rows : List (List AV)} {i off : Nat} {row : List AV} {v : AV} {oty : TypeId} {rows' : List (List AV)}
    (hw : wantedA ops T ⟨none, .store t x y, ty, pos, es, gd⟩ = some true) (hx : ev (st.set o (.cells oty s rows)) T x = some (.cptr o s i off)) (hy : ev (st.set o (.cells oty s rows)) T y = some v) (hr : rows[i]? = some row)
    (hv : storable v = true) (hsz : Nat.beq v.cells.length sz = true) (hle : Nat.ble (off + v.cells.length) row.length = true) (he : rows.set i (rowSet row off v.cells) = rows')
    (k : AOps P n ops rest K E T (st.set o (.cells oty s rows'))) : AOps P n ops (⟨none, .store t x y, ty, pos, es, gd⟩ :: rest) K E T (st.set o (.cells oty s rows)) :=
  so hw hx hy (St.obj_set _ _ _) hr hv hsz hle he (by rw [St.set_set]; exact k)

/-- A store of a whole variable. -/
theorem soV {t : TypeId} {sz by_ : Nat} {zz : Value} [hi : Inf P t sz by_ zz] {o s : Nat} {row : List AV} {v : AV} {oty : TypeId}
    (hw : wantedA ops T ⟨none, .store t x y, ty, pos, es, gd⟩ = some true) (hx : ev (st.set o (.cells oty s [row])) T x = some (.cptr o s 0 0)) (hy : ev (st.set o (.cells oty s [row])) T y = some v)
    (hv : storable v = true) (hsz : Nat.beq v.cells.length sz = true) (hle : Nat.beq v.cells.length row.length = true)
    (k : AOps P n ops rest K E T (st.set o (.cells oty s [v.cells]))) : AOps P n ops (⟨none, .store t x y, ty, pos, es, gd⟩ :: rest) K E T (st.set o (.cells oty s [row])) := by
  have h := Nat.eq_of_beq_eq_true hle
  refine sos (row := row) hw hx hy rfl hv hsz (by rw [Nat.zero_add, h]; exact Nat.ble_self_eq_true _) ?_ k
  rw [rowSet_all h]
  rfl

/-- A variable that is new, gets its value, and keeps it. -/
theorem soN (t' : Nat) {t : TypeId} {sz by_ : Nat} {zz : Value} [hi : Inf P t sz by_ zz] {o s : Nat} {row : List AV} {v : AV} {oty : TypeId}
    (hw : wantedA ops T ⟨none, .store t (.tmp t') y, ty, pos, es, gd⟩ = some true) (hx : T.get t' = some (.cptr o s 0 0)) (hy : ev (st.set o (.cells oty s [row])) T y = some v)
    (hv : storable v = true) (hsz : Nat.beq v.cells.length sz = true) (hle : Nat.beq v.cells.length row.length = true) (ho : st.obj o = none)
    (k : AOps P n ops rest K E ((t', .eptr s [v.cells] 0 0) :: T) st) : AOps P n ops (⟨none, .store t (.tmp t') y, ty, pos, es, gd⟩ :: rest) K E T (st.set o (.cells oty s [row])) :=
  soV hw hx hy hv hsz hle (AOps.fz t' hx ho k)

/-- What is known in between, told outright. -/
theorem seqk {c c' : Code} (T' : Tmps) (st' : St) (h : AWP P n c (fun T1 st1 => TLe T1 T' ∧ StLe st1 st') E T st) (k : AWP P n c' K E T' st') : AWP P n (.seq c c') K E T st :=
  AWP.seq (AWP.mono h (fun _ _ ⟨h2, h3⟩ => AWP.weaken h2 h3 k) (fun _ _ _ he => he))

/-- A test: of all that its region writes, one value is of interest. -/
theorem tst {c c' : Code} (d : Nat) (v : AV) (h : AWP P n c (fun T1 st1 => TLe T1 ((d, v) :: T) ∧ StLe st1 st) E T st) (k : AWP P n c' K E ((d, v) :: T) st) : AWP P n (.seq c c') K E T st :=
  seqk _ _ h k

theorem TLe.consE {T T' : Tmps} {i : Nat} {v v' : AV} (h : T.get i = some v) (e : v = v') (ht : TLe T T') : TLe T ((i, v') :: T') := e ▸ TLe.cons' h ht

/-- A contract whose end says of the state no more than is asked. -/
theorem ACalls.ofBody {f : FuncId} {fn : Func} {c : Code} {args : List AV} {Rt RP : AV → St → Prop} (hf : P.funcs[f]? = some fn) (hb : fn.body = some c) (hn : fn.ntmps = n) (hl : Nat.ble args.length n = true)
    (h : AWP P n c (fun T' st' => ∃ vs v st1, resA P st' T' fn.results.toList = some vs ∧ Le (packA vs) v ∧ StLe st' st1 ∧ Rt v st1)
      (fun e T' st' => match e with
        | .ret => ∃ vs v st1, resA P st' T' fn.results.toList = some vs ∧ Le (packA vs) v ∧ StLe st' st1 ∧ Rt v st1
        | .panic pv => ∃ st1, StLe st' st1 ∧ RP pv st1
        | .exit _ => False) (zipFrom 0 args) st) : ACalls P f args st Rt RP := by
  have key := ACalls.of_body (P := P) (Rt := fun v st' => ∃ st1, StLe st' st1 ∧ Rt v st1) (RP := fun v st' => ∃ st1, StLe st' st1 ∧ RP v st1) hf hb hn (Nat.ble_le hl) (AWP.mono h
    (fun T' st' ⟨vs, v, st1, h1, h2, h3, h4⟩ => ⟨vs, v, h1, h2, st1, h3, h4⟩)
    (fun e T' st' he => by
      cases e with
      | ret => obtain ⟨vs, v, st1, h1, h2, h3, h4⟩ := he; exact ⟨vs, v, h1, h2, st1, h3, h4⟩
      | panic pv => exact he
      | exit id => exact he))
  intro g w rargs hs hlen ha
  refine (key g w rargs hs hlen ha).mono fun e w' ⟨g', st', he, hs', hq⟩ => ?_
  cases e with
  | returned rv => obtain ⟨v, x1, st1, x2, x3⟩ := hq; exact ⟨g', st1, he, hs'.le x2, v, x1, x3⟩
  | panicked ch => obtain ⟨pv, v, x1, x2, st1, x3, x4⟩ := hq; exact ⟨g', st1, he, hs'.le x3, pv, v, x1, x2, x4⟩
  | outgrown => exact hq.elim

/-- One more. -/
theorem inc {t u : TypeId} {a : Nat} (hg : goes ops n T ⟨dd, .binOp .add t x y u, ty, pos, es, gd⟩ = some d)
    (hx : ev st T x = some (.int .i64 (a : Int))) (hy : ev st T y = some (.int .i64 1)) (hc : a < 9223372036854775807)
    (k : AOps P n ops rest K E ((d, .int .i64 ((a + 1 : Nat) : Int)) :: T) st) : AOps P n ops (⟨dd, .binOp .add t x y u, ty, pos, es, gd⟩ :: rest) K E T st :=
  adn (b := 1) hg hx hy (by omega) k

/-- A call. -/
theorem cl {f : FuncId} [hf : GoFun P f] {args : Array Operand} {tys : Array TypeId} {avs : List AV} {Rt : AV → St → Prop}
    (hg : goes ops n T ⟨dd, .call ⟨.value (.func f), args, tys⟩, ty, pos, es, gd⟩ = some d) (ha : evs st T args.toList = some avs)
    (hc : ACalls P f avs st Rt (fun _ _ => False)) (h : ∀ v st', Rt v st' → AOps P n ops rest K E ((d, v) :: T) st') :
    AOps P n ops (⟨dd, .call ⟨.value (.func f), args, tys⟩, ty, pos, es, gd⟩ :: rest) K E T st := by
  obtain ⟨hw, hd, hok⟩ := goes_some hg
  simp only at hd
  subst hd
  exact AOps.callFn hw hok ha hc h (fun _ _ h => h.elim)

/-- A call that answers X and leaves the state alone. -/
theorem cle {f : FuncId} [hf : GoFun P f] {args : Array Operand} {tys : Array TypeId} {avs : List AV} {X : AV}
    (hg : goes ops n T ⟨dd, .call ⟨.value (.func f), args, tys⟩, ty, pos, es, gd⟩ = some d) (ha : evs st T args.toList = some avs)
    (hc : ACalls P f avs st (fun v st' => v = X ∧ st' = st) (fun _ _ => False)) (h : AOps P n ops rest K E ((d, X) :: T) st) :
    AOps P n ops (⟨dd, .call ⟨.value (.func f), args, tys⟩, ty, pos, es, gd⟩ :: rest) K E T st :=
  cl hg ha hc (by rintro _ _ ⟨rfl, rfl⟩; exact h)

theorem tl1 {T : Tmps} {i0 : Nat} {v0 : AV} (h0 : T.get i0 = some v0) : TLe T [(i0, v0)] := TLe.cons' h0 (TLe.nil T)
theorem tl2 {T : Tmps} {i0 i1 : Nat} {v0 v1 : AV} (h0 : T.get i0 = some v0) (h1 : T.get i1 = some v1) : TLe T [(i0, v0), (i1, v1)] := TLe.cons' h0 (TLe.cons' h1 (TLe.nil T))
theorem tl3 {T : Tmps} {i0 i1 i2 : Nat} {v0 v1 v2 : AV} (h0 : T.get i0 = some v0) (h1 : T.get i1 = some v1) (h2 : T.get i2 = some v2) : TLe T [(i0, v0), (i1, v1), (i2, v2)] := TLe.cons' h0 (TLe.cons' h1 (TLe.cons' h2 (TLe.nil T)))
theorem tl4 {T : Tmps} {i0 i1 i2 i3 : Nat} {v0 v1 v2 v3 : AV} (h0 : T.get i0 = some v0) (h1 : T.get i1 = some v1) (h2 : T.get i2 = some v2) (h3 : T.get i3 = some v3) : TLe T [(i0, v0), (i1, v1), (i2, v2), (i3, v3)] := TLe.cons' h0 (TLe.cons' h1 (TLe.cons' h2 (TLe.cons' h3 (TLe.nil T))))
theorem tl5 {T : Tmps} {i0 i1 i2 i3 i4 : Nat} {v0 v1 v2 v3 v4 : AV} (h0 : T.get i0 = some v0) (h1 : T.get i1 = some v1) (h2 : T.get i2 = some v2) (h3 : T.get i3 = some v3) (h4 : T.get i4 = some v4) : TLe T [(i0, v0), (i1, v1), (i2, v2), (i3, v3), (i4, v4)] := TLe.cons' h0 (TLe.cons' h1 (TLe.cons' h2 (TLe.cons' h3 (TLe.cons' h4 (TLe.nil T)))))
theorem tl7 {T : Tmps} {i0 i1 i2 i3 i4 i5 i6 : Nat} {v0 v1 v2 v3 v4 v5 v6 : AV} (h0 : T.get i0 = some v0) (h1 : T.get i1 = some v1) (h2 : T.get i2 = some v2) (h3 : T.get i3 = some v3) (h4 : T.get i4 = some v4) (h5 : T.get i5 = some v5) (h6 : T.get i6 = some v6) : TLe T [(i0, v0), (i1, v1), (i2, v2), (i3, v3), (i4, v4), (i5, v5), (i6, v6)] := TLe.cons' h0 (TLe.cons' h1 (TLe.cons' h2 (TLe.cons' h3 (TLe.cons' h4 (TLe.cons' h5 (TLe.cons' h6 (TLe.nil T)))))))
theorem rets {Rt : AV → St → Prop} {fn : Func} {T' : Tmps} {st' : St} {vs : List AV} {v : AV} {st1 : St} (h : resA P st' T' fn.results.toList = some vs) (hl : Le (packA vs) v) (hs : StLe st' st1) (hR : Rt v st1) :
    ∃ vs v st1, resA P st' T' fn.results.toList = some vs ∧ Le (packA vs) v ∧ StLe st' st1 ∧ Rt v st1 := ⟨vs, v, st1, h, hl, hs, hR⟩

end
end Go.AM
/- Slices that shrink and grow: stacks, and slices of slices. No conditions: lemmas only. -/
namespace Go.AM
open Go.RowKit (Below)

section
variable {P : Program} {n : Nat} {K : Post} {E : EPost} {T : Tmps} {st : St} {ops : Array Oper} {rest : List Oper}
variable {ty : TypeId} {pos : String} {es : Array Edge} {gd : Option (Nat × Bool)} {d : Tmp} {x y : Operand} {dd : Option Tmp}

theorem St.drop_set_self (st : St) (o : Nat) (c : AObj) : (st.drop o).set o c = st.set o c := by
  simp only [St.drop, St.set]
  congr 1
  funext p
  by_cases h : p = o <;> simp [h]

theorem St.set_drop {st : St} {o p : Nat} (h : o ≠ p) (c : AObj) : (st.drop p).set o c = (st.set o c).drop p := by
  simp only [St.drop, St.set]
  congr 1
  funext q
  by_cases h1 : q = o
  · subst h1; simp [h]
  · simp [h1]

theorem StLe.regrow {st : St} {o o' : Nat} {c c' : AObj} (h : st.obj o = none) : StLe (((st.set o c).drop o).set o' c') (st.set o' c') :=
  ⟨fun p x hp => by
    by_cases h1 : p = o'
    · subst h1; rw [St.obj_set] at hp ⊢; exact hp
    · rw [St.obj_set_ne h1] at hp ⊢
      have h2 : p ≠ o := St.ne_of_new h hp
      rw [St.obj_drop_ne h2, St.obj_set_ne h2]
      exact hp, fun _ h => h, rfl⟩

theorem append_msl {g : G} {w : World} (hs : Sim g w st) {t e : TypeId} {sz by_ : Nat} {ez : Value} [hu : Und P t (.slice e)] [hie : Inf P e sz by_ ez] (hsz : 0 < sz) (hz : zok sz ez = true) {ty : TypeId} {o len : Nat} {rows rows2 : List (List AV)} {tk2 : Tok} {ux uy : Value}
    (h1 : R g w (.msl o sz 0 len) ux) (ho : st.obj o = some (.cells e sz rows)) (hlr : len ≤ rows.length) (h2 : R g w (.view sz rows2 tk2) uy) (h0 : rows2 ≠ []) (hb : (len + rows2.length) * by_ ≤ 140737488355328) (hm : len + rows2.length ≤ maxLen) :
    ∃ v w' g' o', (Builtin.append_ #[t, t] ty #[ux, uy]).run P w = .ok v w' ∧ Ext g w g' w' ∧ Sim g' w' ((st.drop o).set o' (.cells e sz (rows.take len ++ rows2))) ∧ R g' w' (.msl o' sz 0 (len + rows2.length)) v ∧ (o' = o ∨ st.obj o' = none) := by
  obtain ⟨z1, z2, z3, z4⟩ := zok_spec hz
  obtain ⟨inf, i1, i2, i3, i4⟩ := hie.out
  obtain ⟨base2, cap2, f2, rfl, hnil2, hR2, hl2, h12, hcell2, hone2⟩ := src_of h2
  have hm64 : len + rows2.length ≤ 9223372036854775807 := by simp only [maxLen] at hm; omega
  have hpos : 0 < rows2.length := List.length_pos_iff.2 h0
  obtain ⟨ad, rfl⟩ : ∃ ad, base2 = some ad := by
    cases base2 with
    | none => exact absurd (hnil2 rfl).1 h0
    | some ad => exact ⟨ad, rfl⟩
  subst i2
  cases h1 with
  | msl _ _ _ _ cap b m hob hc hmx hfit0 =>
    obtain ⟨hbase, ⟨arr, ha, hasz, hml, hl, h1', hcell⟩, hnimm⟩ := hs.objOf ho hob
    simp only [Nat.zero_mul, Nat.zero_add] at hfit0 ⊢
    have hlt : (rows.take len).length = len := by simp; omega
    have hlrow : ∀ row ∈ rows.take len ++ rows2, row.length = inf.size := fun row hr => by
      rcases List.mem_append.1 hr with h | h
      · exact hl row (List.mem_of_mem_take h)
      · exact hl2 row h
    have h1row : ∀ row ∈ rows.take len ++ rows2, ∀ c ∈ row, c.one = true := fun row hr => by
      rcases List.mem_append.1 hr with h | h
      · exact h1' row (List.mem_of_mem_take h)
      · exact h12 row h
    have hll : (rows.take len ++ rows2).length = len + rows2.length := by rw [List.length_append, hlt]
    let f : Nat → Nat → Value := fun i j => arr.getD (i * inf.size + j) undef
    have hfR : ∀ (i j : Nat) row c, (rows.take len)[i]? = some row → row[j]? = some c → R g w c (f i j) := by
      intro i j row c hr hcj
      have hi : i < len := by have := (List.getElem?_eq_some_iff.1 hr).1; rwa [hlt] at this
      rw [List.getElem?_take_of_lt hi] at hr
      obtain ⟨v, hv1, hv2⟩ := hcell i j row c hr hcj
      show R g w c (arr.getD _ _)
      rw [Array.getD_eq_getD_getElem?, hv1]
      exact hv2
    by_cases hroom : len + rows2.length ≤ cap
    · -- in place
      have hfit : len * inf.size + (flatV f2 rows2.length inf.size).length ≤ arr.size := by
        rw [flatV_length, hasz, ← Nat.add_mul]
        exact Nat.le_trans (Nat.mul_le_mul_right _ hroom) hfit0
      have hr := run_append_room (P := P) w t ty e inf hu.out i1 b len cap arr ha ad rows2.length cap2 (flatV f2 rows2.length inf.size) (flatV_length _ _ _) (hcell2 ad rfl) hone2 hroom hfit
      rw [flatV_length] at hfit hr
      generalize harr : (arr.toList.take (len * inf.size) ++ flatV f2 rows2.length inf.size ++ arr.toList.drop (len * inf.size + rows2.length * inf.size)).toArray = arr' at hr
      have hmin : min (len * inf.size) arr.size = len * inf.size := by omega
      have hlow : ∀ i, i < len * inf.size → arr'[i]? = arr[i]? := by
        intro i hi
        rw [← harr, List.getElem?_toArray, List.append_assoc, List.getElem?_append_left (by simp; omega), List.getElem?_take_of_lt hi, Array.getElem?_toList]
      have hmid : ∀ q, q < rows2.length * inf.size → arr'[len * inf.size + q]? = (flatV f2 rows2.length inf.size)[q]? := by
        intro q hq
        rw [← harr, List.getElem?_toArray, List.append_assoc, List.getElem?_append_right (by simp; omega)]
        simp only [List.length_take, Array.length_toList, hmin]
        rw [Nat.add_sub_cancel_left, List.getElem?_append_left (by rw [flatV_length]; exact hq)]
      have hsize' : arr'.size = m := by
        rw [← harr, ← hasz]
        simp only [List.size_toArray, List.length_append, List.length_take, List.length_drop, Array.length_toList, flatV_length]
        omega
      obtain ⟨he, hs'⟩ := hs.write (c' := .cells e inf.size (rows.take len ++ rows2)) ho hob (w.setRow b arr') (by simp) rfl rfl rfl (fun k hk => setRow_other w b k arr' hk) (fun he => by
        refine ⟨arr', setRow_heap w b arr arr' e (0, 0) ha, hsize', ?_, hlrow, h1row, fun i j row c hr hcj => ?_⟩
        · rw [hll]; exact Nat.le_trans (Nat.mul_le_mul_right _ hroom) hfit0
        · have hj : j < inf.size := by rw [← hlrow row (List.mem_of_getElem? hr)]; exact (List.getElem?_eq_some_iff.1 hcj).1
          by_cases hi : i < len
          · rw [List.getElem?_append_left (by rw [hlt]; exact hi), List.getElem?_take_of_lt hi] at hr
            obtain ⟨v, hv1, hv2⟩ := hcell i j row c hr hcj
            exact ⟨v, by rw [hlow _ (mul_add_lt hi hj)]; exact hv1, hv2.ext he⟩
          · rw [List.getElem?_append_right (by rw [hlt]; omega), hlt] at hr
            have hi2 : i - len < rows2.length := (List.getElem?_eq_some_iff.1 hr).1
            have e9 : i * inf.size + j = len * inf.size + ((i - len) * inf.size + j) := by
              rw [← Nat.add_assoc, ← Nat.add_mul]
              congr 2
              omega
            refine ⟨f2 (i - len) j, ?_, (hR2 _ j row c hr hcj).ext he⟩
            rw [e9, hmid _ (mul_add_lt hi2 hj), flatV_at f2 hi2 hj])
      refine ⟨_, _, g, o, hr, he, by rw [St.drop_set_self]; exact hs', ?_, .inl rfl⟩
      have := R.msl (g := g) (w := w.setRow b arr') o inf.size 0 (len + rows2.length) cap b m hob hroom hmx (by simpa using hfit0)
      simpa using this
    · -- a new block
      have holds : ∀ (q : Nat) v, (flatV f len inf.size)[q]? = some v → w.cell? ((⟨b, 0, none⟩ : Addr).add q) = some v := by
        intro q v hq
        obtain ⟨h2', rfl⟩ := flatV_get hq
        have hq' : q < arr.size := by
          rw [hasz]
          exact Nat.lt_of_lt_of_le h2' (Nat.le_trans (Nat.mul_le_mul_right _ hc) hfit0)
        rw [addr_add, Nat.zero_add, cell_of_row w b _ arr e (0, 0) ha]
        show arr[q]? = some (arr.getD _ _)
        rw [Nat.mul_comm (q / inf.size) inf.size, Nat.div_add_mod, Array.getD_eq_getD_getElem?, Array.getElem?_eq_getElem hq']
        rfl
      have hr := run_append_grow (P := P) w t ty e inf ez hu.out i1 i4 ⟨b, 0, none⟩ len cap (flatV f len inf.size) (flatV_length _ _ _) holds ad rows2.length cap2 (flatV f2 rows2.length inf.size) (flatV_length _ _ _) (hcell2 ad rfl) (by omega) (by omega)
        (growslice_fits (by omega) (by rw [i3]; exact hb))
      have hge := grownCap_ge w (len + rows2.length) cap e
      have hgm := grownCap_le_maxLen w (len + rows2.length) cap e hm
      obtain ⟨hed, hsd⟩ := hs.draw
      generalize hcp : grownCap w (len + rows2.length) cap e = cp at hr hge hgm
      generalize harr : (flatV f len inf.size).toArray ++ (flatV f2 rows2.length inf.size).toArray ++ Builtin.zeroCells ez.cells (cp - (len + rows2.length)) = arr' at hr
      have hsize' : arr'.size = cp * inf.size := by
        rw [← harr]
        simp only [Array.size_append, List.size_toArray, flatV_length, size_zeroCells, z1, ← Nat.add_mul]
        congr 1
        omega
      obtain ⟨g', he, hs', hob', hnone⟩ := hsd.newObj (.cells arr' e) (.cells e inf.size (rows.take len ++ rows2)) (cp * inf.size) (fun g' he => by
        refine ⟨arr', heap_alloc_new _ _, hsize', ?_, hlrow, h1row, fun i j row c hr hcj => ?_⟩
        · rw [hll]; exact Nat.mul_le_mul_right _ hge
        · have hap := appended_get (g := g) (w := w) (rows := rows.take len) (rows2 := rows2) (f := f) (f2 := f2) (sz := inf.size) (fun row hr => hl row (List.mem_of_mem_take hr)) hl2 hfR hR2 (Builtin.zeroCells ez.cells (cp - (len + rows2.length))).toList i j row c hr hcj
          rw [hlt] at hap
          obtain ⟨v, hv, hR⟩ := hap
          refine ⟨v, ?_, (hR.ext hed).ext he⟩
          rw [← harr, ← Array.getElem?_toList]
          simpa using hv)
      have hne : g.next ≠ o := fun e => by rw [← e] at ho; rw [ho] at hnone; cases hnone
      refine ⟨_, _, g', g.next, hr, hed.trans he, ?_, ?_, .inr hnone⟩
      · rw [St.set_drop hne]
        exact hs'.le (StLe.drop o)
      · have := R.msl (g := g') (w := w.drew.alloc (.cells arr' e)) g.next inf.size 0 (len + rows2.length) cp w.drew.heap.size (cp * inf.size) hob' hge hgm (by simp)
        simpa using this

/-- append to a stack. -/
theorem apm {t e : TypeId} {sz by_ : Nat} {ez : Value} [hu : Und P t (.slice e)] [hie : Inf P e (sz + 1) by_ ez] {o len : Nat} {rows rows2 : List (List AV)} {tk2 : Tok}
    (hg : goes ops n T ⟨dd, .call ⟨.builtin .append, #[x, y], #[t, t]⟩, ty, pos, es, gd⟩ = some d) (hx : ev st T x = some (.msl o (sz + 1) 0 len)) (hy : ev st T y = some (.view (sz + 1) rows2 tk2)) (ho : st.obj o = some (.cells e (sz + 1) rows))
    (hlr : len ≤ rows.length) (h0 : rows2 ≠ []) (hz : zok (sz + 1) ez = true) (hb : (len + rows2.length) * by_ ≤ 140737488355328) (hm : len + rows2.length ≤ maxLen)
    (k : ∀ o', (o' = o ∨ st.obj o' = none) → AOps P n ops rest K E ((d, .msl o' (sz + 1) 0 (len + rows2.length)) :: T) ((st.drop o).set o' (.cells e (sz + 1) (rows.take len ++ rows2)))) :
    AOps P n ops (⟨dd, .call ⟨.builtin .append, #[x, y], #[t, t]⟩, ty, pos, es, gd⟩ :: rest) K E T st := by
  refine AOps.stepAny hg fun g w a hs hk => ?_
  have h1 := ev_R hs hk hx
  have h2 := ev_R hs hk hy
  generalize hux : a.eval x = ux at h1
  generalize huy : a.eval y = uy at h2
  obtain ⟨v, w', g', o', hr, he, hs', hR, hf⟩ := append_msl (P := P) hs (t := t) (ty := ty) (Nat.succ_pos sz) hz h1 ho hlr h2 h0 hb hm
  exact ⟨v, g', w', _, _, by simp [execOp, resolve, invoke, builtin, hux, huy, hr], he, hs', hR, k o' hf⟩

/-- One less. -/
theorem dec {t u : TypeId} {a : Nat} (hg : goes ops n T ⟨dd, .binOp .sub t x y u, ty, pos, es, gd⟩ = some d)
    (hx : ev st T x = some (.int .i64 ((a + 1 : Nat) : Int))) (hy : ev st T y = some (.int .i64 1)) (hc : a < 9223372036854775807)
    (k : AOps P n ops rest K E ((d, .int .i64 (a : Int)) :: T) st) : AOps P n ops (⟨dd, .binOp .sub t x y u, ty, pos, es, gd⟩ :: rest) K E T st := by
  refine sb hg hx hy (by omega) ?_
  have : (((a + 1 : Nat) : Int) - 1) = a := by omega
  rw [this]
  exact k

end
end Go.AM
/- Many slices with spare room of their own, side by side. No conditions: definitions and lemmas only. -/
namespace Go.AM
open Go.RowKit (Below)

def St.toks (st : St) (L : List (Option Nat)) : St := { st with tok := fun t => decide (some t ∈ L) || st.tok t }

structure TokL (st : St) (L : List (Option Nat)) : Prop where
  one : ∀ (i j t : Nat), L[i]? = some (some t) → L[j]? = some (some t) → i = j
  fresh : ∀ (i t : Nat), L[i]? = some (some t) → st.tok t = false

theorem TokL.none (st : St) (m : Nat) : TokL st (List.replicate m none) where
  one := fun i j t h => by simp [List.getElem?_replicate] at h
  fresh := fun i t h => by simp [List.getElem?_replicate] at h

theorem TokL.set {st : St} {L : List (Option Nat)} (h : TokL st L) {k' : Nat} (hf : (st.toks L).tok k' = false) (i : Nat) : TokL st (L.set i (some k')) := by
  simp only [St.toks, Bool.or_eq_false_iff, decide_eq_false_iff_not] at hf
  have key : ∀ (j t : Nat), (L.set i (some k'))[j]? = some (some t) → (j = i ∧ t = k') ∨ (j ≠ i ∧ L[j]? = some (some t)) := by
    intro j t hj
    rw [List.getElem?_set] at hj
    split at hj
    · rename_i e
      split at hj
      · simp only [Option.some.injEq] at hj; exact .inl ⟨e.symm, hj.symm⟩
      · cases hj
    · rename_i e; exact .inr ⟨fun h => e h.symm, hj⟩
  refine ⟨fun j1 j2 t h1 h2 => ?_, fun j t hj => ?_⟩
  · rcases key j1 t h1 with ⟨e1, e2⟩ | ⟨e1, e2⟩ <;> rcases key j2 t h2 with ⟨e3, e4⟩ | ⟨e3, e4⟩
    · omega
    · subst e2; exact absurd (List.mem_of_getElem? e4) hf.1
    · subst e4; exact absurd (List.mem_of_getElem? e2) hf.1
    · exact h.one j1 j2 t e2 e4
  · rcases key j t hj with ⟨_, rfl⟩ | ⟨_, e2⟩
    · exact hf.2
    · exact h.fresh j t e2

section
variable {P : Program} {n : Nat} {K : Post} {E : EPost} {T : Tmps} {st : St} {ops : Array Oper} {rest : List Oper}
variable {ty : TypeId} {pos : String} {es : Array Edge} {gd : Option (Nat × Bool)} {d : Tmp} {x y : Operand} {dd : Option Tmp}

end
end Go.AM
/- Comparisons with nil, and of truth values. No conditions: lemmas only. -/
namespace Go.AM
open Go.RowKit (Below)

section
variable {P : Program} {n : Nat} {K : Post} {E : EPost} {T : Tmps} {st : St} {ops : Array Oper} {rest : List Oper}
variable {ty : TypeId} {pos : String} {es : Array Edge} {gd : Option (Nat × Bool)} {d : Tmp} {x y : Operand} {dd : Option Tmp}

/-- What is known in between, told outright; behind a step of a sequence. -/
theorem midk {c c' : Code} (T' : Tmps) (st' : St) (h : AWP P n c (fun T1 st1 => TLe T1 T' ∧ StLe st1 st') E T st) (k : AWP P n c' K E T' st') : AWP P n c (AWP P n c' K E) E T st :=
  AWP.mono h (fun _ _ ⟨h2, h3⟩ => AWP.weaken h2 h3 k) (fun _ _ _ he => he)

end
end Go.AM
/- Slices inside structs are frozen; calls with frozen arguments whose outcome is new. No conditions: definitions and lemmas only. -/
namespace Go.AM
open Go.RowKit (Below)

section
variable {P : Program} {n : Nat} {K : Post} {E : EPost} {T : Tmps} {st : St} {ops : Array Oper} {rest : List Oper}

/-- No token, no object. -/
inductive Still : AV → Prop
  | int (k : IntKind) (n : Int) : Still (.int k n)
  | bool (b : Bool) : Still (.bool b)
  | str (l : List UInt8) : Still (.str l)
  | lit (v : Value) : Still (.lit v)
  | agg (cs : List AV) (h : ∀ c ∈ cs, Still c) : Still (.agg cs)
  | view (sz : Nat) (rows : List (List AV)) (h : ∀ row ∈ rows, ∀ c ∈ row, Still c) : Still (.view sz rows .shared)
  | nil (sz : Nat) : Still (.view sz [] .nil)

theorem cell_lt {w : World} {b i : Nat} {v : Value} (h : w.cell? ⟨b, i, none⟩ = some v) : b < w.heap.size := by
  rcases Nat.lt_or_ge b w.heap.size with h' | h'
  · exact h'
  · simp [World.cell?, Array.getElem?_eq_none h'] at h

theorem R.toG0 {g : G} {w : World} {a : AV} {v : Value} (h : R g w a v) : Still a → R (G0 w) w a v := by
  induction h with
  | int => exact fun _ => .int _ _
  | bool => exact fun _ => .bool _
  | str => exact fun _ => .str _
  | lit => exact fun _ => .lit _
  | agg cs vs hl h1 _ ih =>
    intro hs
    cases hs with
    | agg _ hs => exact .agg _ _ hl h1 fun i c v hc hv => ih i c v hc hv (hs c (List.mem_of_getElem? hc))
  | tuple => intro hs; cases hs
  | vnil sz t ht =>
    intro hs
    cases hs with
    | view => exact .vnil _ _ trivial
    | nil => exact .vnil _ _ rfl
  | vemp sz t a hn ht =>
    intro hs
    cases hs with
    | view => exact .vemp _ _ _ hn trivial
    | nil => exact absurd rfl hn
  | view sz rows t b off cap f hc hm hsz h1 ht himm _ ih =>
    intro hs
    have key : ∀ t', TokAt (G0 w) t' (some b) off rows.length cap sz → (∀ row ∈ rows, ∀ c ∈ row, Still c) → R (G0 w) w (.view sz rows t') (.slice (some ⟨b, off, none⟩) rows.length cap) := fun t' ht' hst =>
      .view sz rows t' b off cap f hc hm hsz h1 ht' (fun i j hi hj => ⟨cell_lt (himm i j hi hj).2, (himm i j hi hj).2⟩) fun i j row c hr hcj => ih i j row c hr hcj (hst row (List.mem_of_getElem? hr) c (List.mem_of_getElem? hcj))
    cases hs with
    | view _ _ hst => exact key _ trivial hst
    | nil => cases ht
  | eptr => intro hs; cases hs
  | cptr => intro hs; cases hs
  | msl => intro hs; cases hs
  | iter => intro hs; cases hs
  | amap => intro hs; cases hs
  | iface => intro hs; cases hs
  | func => intro hs; cases hs

/-- What is the same in whatever world. -/
inductive Solid : AV → Prop
  | int (k : IntKind) (n : Int) : Solid (.int k n)
  | bool (b : Bool) : Solid (.bool b)
  | str (l : List UInt8) : Solid (.str l)
  | lit (v : Value) : Solid (.lit v)
  | nil (sz : Nat) : Solid (.view sz [] .nil)

theorem Solid.R {a : AV} (hs : Solid a) {g g' : G} {w w' : World} {v : Value} (h : R g w a v) : R g' w' a v := by
  cases hs with
  | int => cases h; exact .int _ _
  | bool => cases h; exact .bool _
  | str => cases h; exact .str _
  | lit => cases h; exact .lit _
  | nil sz =>
    cases h with
    | vnil => exact .vnil _ _ rfl
    | vemp _ _ _ hn _ => exact absurd rfl hn
    | view _ _ _ b off cap f hc hm hsz h1 ht himm hh => cases ht

/-- What a call made anew, or what is the same everywhere. -/
inductive Fresh (st : St) : AV → AV → Prop
  | solid (v : AV) (h : Solid v) : Fresh st v v
  | own (sz : Nat) (rows : List (List AV)) (tk : Nat) (e : TypeId) (ht : st.tok tk = true) (h : ∀ row ∈ rows, ∀ c ∈ row, Solid c) : Fresh st (.view sz rows (.own tk e)) (.view sz rows .shared)
  | tuple (cs cs' : List AV) (hl : cs.length = cs'.length) (h : ∀ (i : Nat) c c', cs[i]? = some c → cs'[i]? = some c' → Fresh st c c') : Fresh st (.tuple cs) (.tuple cs')

/-- The ghost behind a call that was made with all frozen. -/
def G.over (g : G) (w w' : World) (g' : G) : G := { g with imm := fun b i => g.imm b i ∨ (w.heap.size ≤ b ∧ b < w'.heap.size ∧ g'.imm b i) }

theorem Fresh.R {g g' : G} {w w' : World} {st' : St} (hs' : Sim g' w' st') (hb : g'.base = w.heap.size) {v v2 : AV} (hf : Fresh st' v v2) : ∀ {rv : Value}, R g' w' v rv → R (g.over w w' g') w' v2 rv := by
  induction hf with
  | solid v h => exact fun hr => h.R hr
  | own sz rows tk e ht h =>
    intro rv hr
    obtain ⟨r, hr1, hr2⟩ := hs'.toks tk ht
    cases hr with
    | vnil => exact .vnil _ _ trivial
    | vemp _ _ ad => exact .vemp _ _ ad (fun h => by cases h) trivial
    | view _ _ _ b off cap f hc hm hsz h1 htk himm hh =>
      obtain ⟨_, sz', _, htok⟩ := htk
      rw [hr1] at htok
      cases htok
      obtain ⟨hbase, _, _, _, ⟨cur, hcur, _⟩, _⟩ := hr2
      have hlt : b < w'.heap.size := hs'.toklt tk b _ hr1
      refine .view sz rows .shared b off cap f hc hm hsz h1 trivial (fun i j hi hj => ⟨.inr ⟨hb ▸ hbase, hlt, (himm i j hi hj).1⟩, (himm i j hi hj).2⟩) ?_
      intro i j row c hrow hcj
      exact (h row (List.mem_of_getElem? hrow) c (List.mem_of_getElem? hcj)).R (hh i j row c hrow hcj)
  | tuple cs cs' hl _ ih =>
    intro rv hr
    cases hr with
    | tuple _ vs hl' hh =>
      refine .tuple _ vs (hl ▸ hl') fun i c' v hc' hv => ?_
      have : i < cs.length := by rw [hl]; exact (List.getElem?_eq_some_iff.1 hc').1
      exact ih i _ _ (List.getElem?_eq_getElem this) hc' (hh i _ v (List.getElem?_eq_getElem this) hv)

theorem Sim.over {g g' : G} {w w' : World} (hs : Sim g w st) {st' : St} (_hs' : Sim g' w' st') (hb : Below w.heap.size w w') : Ext g w (g.over w w' g') w' ∧ Sim (g.over w w' g') w' st := by
  have hsz : w.heap.size ≤ w'.heap.size := hb.size
  have he : Ext g w (g.over w w' g') w' := {
    base := rfl
    next := Nat.le_refl _
    imm := fun b i h => .inl h
    cell := fun b i h => hb.cell (p := ⟨b, i, none⟩) (hs.immlt b i h)
    obj := fun o b h => h
    tok := fun t r h => h
    below := hb.mono hs.base }
  have hblk : ∀ b, b < w.heap.size → w'.heap[b]? = w.heap[b]? := fun b h => hb.block b h
  have himm : ∀ b i, b < w.heap.size → ¬ g.imm b i → ¬ (g.over w w' g').imm b i := fun b i h h1 h2 => by
    rcases h2 with h2 | ⟨h2, _⟩
    · exact h1 h2
    · omega
  refine ⟨he, ?_⟩
  exact {
    base := Nat.le_trans hs.base hsz
    objs := fun o c hc => by
      obtain ⟨b, m, h1, h2, h3, h4⟩ := hs.objs o c hc
      have hlt := hs.objlt o b m h1
      exact ⟨b, m, h1, h2, h3.mono he (hblk b hlt), fun i => himm b i hlt (h4 i)⟩
    inj := hs.inj
    toks := fun t ht => by
      obtain ⟨r, h1, h2⟩ := hs.toks t ht
      refine ⟨r, h1, ?_⟩
      obtain ⟨b, len, cap, e, size⟩ := r
      cases b with
      | none => exact h2
      | some b =>
        have hlt := hs.toklt t b _ h1
        obtain ⟨a1, a2, a3, a4, ⟨cur, a5, a6⟩, a7⟩ := h2
        exact ⟨a1, a2, a3, a4, ⟨cur, (hblk b hlt).trans a5, a6⟩, fun i hi => himm b i hlt (a7 i hi)⟩
    tobj := hs.tobj
    tinj := hs.tinj
    immlt := fun b i h => by
      rcases h with h | ⟨_, h, _⟩
      · exact Nat.lt_of_lt_of_le (hs.immlt b i h) hsz
      · exact h
    objlt := fun o b m h => Nat.lt_of_lt_of_le (hs.objlt o b m h) hsz
    toklt := fun t b r h => Nat.lt_of_lt_of_le (hs.toklt t b r h) hsz
    fresh := hs.fresh
    globs := fun gi row h => (hs.globs gi row h).ext he }

def St.bare : St := { obj := fun _ => none, tok := fun _ => false, glob := [] }

/-- A contract for a call whose arguments are frozen as long as it runs. -/
theorem ACalls.fz {f : FuncId} {avs avs' : List AV} {Rt : AV → St → Prop} {Rt2 : AV → Prop} (hc : ACalls P f avs' St.bare Rt (fun _ _ => False))
    (hz : ∀ g w (rargs : Array Value), Sim g w st → avs.length = rargs.size → (∀ (i : Nat) c v, avs[i]? = some c → rargs[i]? = some v → R g w c v) →
      ∃ g', avs'.length = rargs.size ∧ ∀ (i : Nat) c v, avs'[i]? = some c → rargs[i]? = some v → R g' w c v ∧ Still c)
    (hf : ∀ v st', Rt v st' → ∃ v2, Fresh st' v v2 ∧ Rt2 v2) : ACalls P f avs st (fun v st' => Rt2 v ∧ st' = st) (fun _ _ => False) := by
  intro g w rargs hs hl ha
  obtain ⟨g1, hl1, h1⟩ := hz g w rargs hs hl ha
  refine (hc (G0 w) w rargs (Sim0 w [] (fun gi row h => by cases h)) hl1 fun i c v hc hv => (h1 i c v hc hv).1.toG0 (h1 i c v hc hv).2).mono fun e w' ⟨g', st', he, hs', hq⟩ => ?_
  have hb : Below w.heap.size w w' := he.below
  obtain ⟨he2, hs2⟩ := hs.over hs' hb
  refine ⟨_, st, he2, hs2, ?_⟩
  cases e with
  | returned rv =>
    obtain ⟨v, hR, hRt⟩ := hq
    obtain ⟨v2, hfr, hv2⟩ := hf v st' hRt
    exact ⟨v2, hfr.R hs' he.base hR, hv2, rfl⟩
  | panicked ch => obtain ⟨_, _, _, _, h⟩ := hq; exact h.elim
  | outgrown => exact hq.elim

/-- A result that lies in a variable. -/
theorem resC {t : Tmp} {ty oty : TypeId} {td : TypeDesc} {sz by_ : Nat} {z : Value} {o s i off : Nat} {rows : List (List AV)} {row : List AV} {v : AV} {r : List ResultVar} {vs : List AV} [hu : Und P ty td] [hi : Inf P ty sz by_ z]
    (ht : T.get t = some (.cptr o s i off)) (ho : st.obj o = some (.cells oty s rows)) (hr : rows[i]? = some row) (hv : sel (aggD td) sz row off = some v) (h : resA P st T r = some vs) : resA P st T (.cell t ty :: r) = some (v :: vs) := by
  obtain ⟨inf, h1, h2, _⟩ := hi.out
  unfold resA
  simp only [ht, hu.out, h1, h, ho, nbeq_self, cond_true, hr, h2, hv]

theorem resCW {t : Tmp} {ty oty : TypeId} {td : TypeDesc} {sz by_ : Nat} {z : Value} {o s i : Nat} {rows : List (List AV)} {row : List AV} {r : List ResultVar} {vs : List AV} [hu : Und P ty td] [hi : Inf P ty sz by_ z]
    (ht : T.get t = some (.cptr o s i 0)) (ho : st.obj o = some (.cells oty s rows)) (hr : rows[i]? = some row) (ha : aggD td = true) (hl : Nat.beq sz row.length = true) (h : resA P st T r = some vs) : resA P st T (.cell t ty :: r) = some (.agg row :: vs) :=
  resC ht ho hr (by rw [ha]; exact sel_all hl) h

/-- A contract that says less. -/
theorem ACalls.le {f : FuncId} {args : List AV} {Rt Rt' : AV → St → Prop} (h : ACalls P f args st Rt (fun _ _ => False)) (h1 : ∀ v st', Rt v st' → ∃ v2 st2, Le v v2 ∧ StLe st' st2 ∧ Rt' v2 st2) : ACalls P f args st Rt' (fun _ _ => False) :=
  fun g w rargs hs hl ha => (h g w rargs hs hl ha).mono fun e w' ⟨g', st', he, hs', hq⟩ => by
    cases e with
    | returned rv =>
      obtain ⟨v, x1, x2⟩ := hq
      obtain ⟨v2, st2, y1, y2, y3⟩ := h1 v st' x2
      exact ⟨g', st2, he, hs'.le y2, v2, x1.le y1, y3⟩
    | panicked ch => obtain ⟨_, _, _, _, x⟩ := hq; exact x.elim
    | outgrown => exact hq.elim

end
end Go.AM
/- Loads of single cells, and slices of slices that are only read. No conditions: lemmas only. -/
namespace Go.AM
section
variable {P : Program} {n : Nat} {K : Post} {E : EPost} {T : Tmps} {st : St} {ops : Array Oper} {rest : List Oper}
variable {d : Tmp} {dd : Option Tmp} {x y : Operand} {ty : TypeId} {pos : String} {es : Array Edge} {gd : Option (Nat × Bool)}

theorem sel_one {row : List AV} {sz off : Nat} {v : AV} (h : row[off]? = some v) : sel false sz row off = some v := h

end
end Go.AM
/- Strings, numbers of all kinds, calls of function values, elements of array values. No conditions: lemmas only. -/
namespace Go.AM
open Go.RowKit (Below)

section
variable {P : Program} {n : Nat} {K : Post} {E : EPost} {T : Tmps} {st : St} {ops : Array Oper} {rest : List Oper}
variable {d : Tmp} {dd : Option Tmp} {x y z : Operand} {ty : TypeId} {pos : String} {es : Array Edge} {gd : Option (Nat × Bool)}

/-- A byte of a string. -/
theorem sx {t : TypeId} [hu : Und P t .string] {l : List UInt8} {k : IntKind} {i : Int} {m : Nat} {c : UInt8} (hg : goes ops n T ⟨dd, .index t x y, ty, pos, es, gd⟩ = some d)
    (hx : ev st T x = some (.str l)) (hy : ev st T y = some (.int k i)) (hi : i = m) (hc : l[m]? = some c)
    (h : AOps P n ops rest K E ((d, .int .u8 c.toNat) :: T) st) : AOps P n ops (⟨dd, .index t x y, ty, pos, es, gd⟩ :: rest) K E T st := by
  obtain ⟨hw, hd, hok⟩ := goes_some hg
  simp only at hd
  subst hd
  exact AOps.strIndex hw hok hx hy hi hc h

/-- s[a:], s[:b], s[a:b]. -/
theorem ssl {t : TypeId} [hu : Und P t .string] {l : List UInt8} {k : IntKind} {a : Nat} (hg : goes ops n T ⟨dd, .slice t x (some y) none none, ty, pos, es, gd⟩ = some d)
    (hx : ev st T x = some (.str l)) (hy : ev st T y = some (.int k (a : Int))) (ha : a ≤ l.length)
    (h : AOps P n ops rest K E ((d, .str (l.drop a)) :: T) st) : AOps P n ops (⟨dd, .slice t x (some y) none none, ty, pos, es, gd⟩ :: rest) K E T st := by
  obtain ⟨hw, hd, hok⟩ := goes_some hg
  simp only at hd
  subst hd
  refine AOps.sliceStr (a := a) (b := l.length) hw hok hx (.inr ⟨y, k, rfl, hy⟩) (.inl ⟨rfl, rfl⟩) ha (Nat.le_refl _) ?_
  rw [List.take_of_length_le (by simp)]
  exact h
theorem ssh {t : TypeId} [hu : Und P t .string] {l : List UInt8} {k : IntKind} {b : Nat} (hg : goes ops n T ⟨dd, .slice t x none (some y) none, ty, pos, es, gd⟩ = some d)
    (hx : ev st T x = some (.str l)) (hy : ev st T y = some (.int k (b : Int))) (hb : b ≤ l.length)
    (h : AOps P n ops rest K E ((d, .str (l.take b)) :: T) st) : AOps P n ops (⟨dd, .slice t x none (some y) none, ty, pos, es, gd⟩ :: rest) K E T st := by
  obtain ⟨hw, hd, hok⟩ := goes_some hg
  simp only at hd
  subst hd
  refine AOps.sliceStr (a := 0) (b := b) hw hok hx (.inl ⟨rfl, rfl⟩) (.inr ⟨y, k, rfl, hy⟩) (Nat.zero_le _) hb ?_
  rw [List.drop_zero, Nat.sub_zero]
  exact h
/-- Two strings, one behind the other. -/
theorem sad {t u : TypeId} {a b : List UInt8} (hg : goes ops n T ⟨dd, .binOp .add t x y u, ty, pos, es, gd⟩ = some d)
    (hx : ev st T x = some (.str a)) (hy : ev st T y = some (.str b)) (hl : a.length + b.length ≤ 9223372036854775807)
    (h : AOps P n ops rest K E ((d, .str (a ++ b)) :: T) st) : AOps P n ops (⟨dd, .binOp .add t x y u, ty, pos, es, gd⟩ :: rest) K E T st := by
  obtain ⟨hw, hd, hok⟩ := goes_some hg
  simp only at hd
  subst hd
  exact AOps.strAdd hw hok hx hy hl h

theorem sbk {t u : TypeId} {k : IntKind} {a b c : Int} (hg : goes ops n T ⟨dd, .binOp .sub t x y u, ty, pos, es, gd⟩ = some d)
    (hx : ev st T x = some (.int k a)) (hy : ev st T y = some (.int k b)) (hc : k.wrap (a - b) = c)
    (h : AOps P n ops rest K E ((d, .int k c) :: T) st) : AOps P n ops (⟨dd, .binOp .sub t x y u, ty, pos, es, gd⟩ :: rest) K E T st := by
  obtain ⟨hw, hd, hok⟩ := goes_some hg
  simp only at hd
  subst hd
  exact AOps.sub hw hok hx hy hc h
theorem mlk {t u : TypeId} {k : IntKind} {a b c : Int} (hg : goes ops n T ⟨dd, .binOp .mul t x y u, ty, pos, es, gd⟩ = some d)
    (hx : ev st T x = some (.int k a)) (hy : ev st T y = some (.int k b)) (hc : k.wrap (a * b) = c)
    (h : AOps P n ops rest K E ((d, .int k c) :: T) st) : AOps P n ops (⟨dd, .binOp .mul t x y u, ty, pos, es, gd⟩ :: rest) K E T st := by
  obtain ⟨hw, hd, hok⟩ := goes_some hg
  simp only at hd
  subst hd
  exact AOps.mul hw hok hx hy hc h
/-- A number as another kind. -/
theorem cv {t u : TypeId} {ds : TypeDesc} {k k' : IntKind} [Und P t ds] [hu : Und P u (.int k')] {a c : Int} (hg : goes ops n T ⟨dd, .convert t u x, ty, pos, es, gd⟩ = some d)
    (hx : ev st T x = some (.int k a)) (hc : k'.wrap a = c) (h : AOps P n ops rest K E ((d, .int k' c) :: T) st) : AOps P n ops (⟨dd, .convert t u x, ty, pos, es, gd⟩ :: rest) K E T st := by
  obtain ⟨hw, hd, hok⟩ := goes_some hg
  simp only at hd
  subst hd
  exact AOps.convInt hw hok hx hc h

/-- A call of a function value. -/
theorem AOps.callV {d : Option Tmp} {f : FuncId} [hf : GoFun P f] {args : Array Operand} {tys : Array TypeId} {avs : List AV} {Rt RP : AV → St → Prop} (hx : ev st T x = some (.func (.func f) [] []))
    (hw : wantedA ops T ⟨d, .call ⟨.value x, args, tys⟩, ty, pos, es, gd⟩ = some true) (hd : dstOk d n = true) (ha : evs st T args.toList = some avs)
    (hc : ACalls P f avs st Rt RP) (h : ∀ v st', Rt v st' → AOps P n ops rest K E (T.put d v) st') (hp : ∀ v st', RP v st' → E (.panic v) T st') :
    AOps P n ops (⟨d, .call ⟨.value x, args, tys⟩, ty, pos, es, gd⟩ :: rest) K E T st := by
  intro g w a hs hk hn
  obtain ⟨hl, hr⟩ := evs_R hs hk _ _ ha
  obtain ⟨fn, h1, h2, h3⟩ := hf.out
  have hxR := ev_R hs hk hx
  generalize hux : a.eval x = ux at hxR
  have hux' : ux = .func (.func f) #[] #[] := by
    cases hxR with
    | func _ _ _ vs us hl1 hl2 _ _ =>
      have e1 : vs = #[] := Array.eq_empty_of_size_eq_zero (by simpa using hl1.symm)
      have e2 : us = #[] := Array.eq_empty_of_size_eq_zero (by simpa using hl2.symm)
      rw [e1, e2]
  subst hux'
  have hcall := hc g w (args.map a.eval) hs (by simpa using hl) (fun i c v hc hv => hr i c v hc (by simpa using hv))
  unfold wpList
  rw [wanted_of hk hw, if_pos rfl]
  left
  have hrun : (execOp a.eval ⟨d, .call ⟨.value x, args, tys⟩, ty, pos, es, gd⟩).run P w = .ok (.enter f (args.map a.eval)) w := by
    have h2' : ¬ fn.body = none := by intro e; simp [e] at h2
    have h3' : ¬ fn.name = "runtime.NumGoroutine" := by simpa using h3
    simp [execOp, resolve, hux, Deferred.ofValue, invoke, callFunc, h1, h2', h3']
  unfold Oper.wp
  rw [hrun]
  simp only [Oper.upon]
  refine hcall.mono fun e w' ⟨g', st', he, hs', hq⟩ => ?_
  cases e with
  | returned rv =>
    obtain ⟨v, hR, hRt⟩ := hq
    have h4 := h v st' hRt g' w' (a.put d rv) hs' ((hk.ext he).put (fun t ht => hn ▸ dstOk_lt hd t ht) hR) (by rw [Act.size_put]; exact hn)
    rw [Act.defers_put] at h4
    exact wpList_mono (fun _ _ _ q => QOf.ext he q) rest _ _ h4
  | panicked ch =>
    obtain ⟨pv, v, x1, x2, x3⟩ := hq
    exact ⟨hn, rfl, g', T, st', he, hs', hk.ext he, pv, v, x1, x2, hp pv st' x3⟩
  | outgrown => exact hq.elim

/-- A call of a function value that answers X and leaves the state alone. -/
theorem clv {f : FuncId} [hf : GoFun P f] {args : Array Operand} {tys : Array TypeId} {avs : List AV} {X : AV}
    (hg : goes ops n T ⟨dd, .call ⟨.value x, args, tys⟩, ty, pos, es, gd⟩ = some d) (hx : ev st T x = some (.func (.func f) [] [])) (ha : evs st T args.toList = some avs)
    (hc : ACalls P f avs st (fun v st' => v = X ∧ st' = st) (fun _ _ => False)) (h : AOps P n ops rest K E ((d, X) :: T) st) :
    AOps P n ops (⟨dd, .call ⟨.value x, args, tys⟩, ty, pos, es, gd⟩ :: rest) K E T st := by
  obtain ⟨hw, hd, hok⟩ := goes_some hg
  simp only at hd
  subst hd
  refine AOps.callV hx hw hok ha hc (fun v st' ⟨h1, h2⟩ => ?_) (fun _ _ h => h.elim)
  subst h1 h2
  exact h

/-- An element of an array value. -/
theorem ixg {t e : TypeId} {td : TypeDesc} {len sz by_ : Nat} {zz : Value} {cs : List AV} {k : IntKind} {i : Int} {m : Nat} {v : AV} [hu : Und P t (.array len e)] [hq : Und P e td] [hi : Inf P e sz by_ zz]
    (hg : goes ops n T ⟨dd, .index t x y, ty, pos, es, gd⟩ = some d) (ha : aggD td = false) (hx : ev st T x = some (.agg cs)) (hy : ev st T y = some (.int k i)) (hm : i = m) (hlt : m < len) (hv : cs[m * sz]? = some v)
    (h : AOps P n ops rest K E ((d, v) :: T) st) : AOps P n ops (⟨dd, .index t x y, ty, pos, es, gd⟩ :: rest) K E T st := by
  obtain ⟨hw, hd, hok⟩ := goes_some hg
  simp only at hd
  subst hd
  refine AOps.pure hw hok v (fun g w a hs hk => ?_) h
  have h1 := ev_R hs hk hx
  have h2 := ev_R hs hk hy
  generalize hux : a.eval x = ux at h1
  generalize huy : a.eval y = uy at h2
  subst hm
  cases h2
  cases h1 with
  | agg _ us hl h1' hh =>
    have hlt' : m * sz < us.size := hl ▸ (List.getElem?_eq_some_iff.1 hv).1
    refine ⟨us[m * sz], ?_, hh _ v _ hv (by simp [hlt'])⟩
    simp [execOp, hux, huy, Instr.index, asIntOf, run_und (P := P) (t := t) w, hlt, run_size (P := P) (t := e) w, part, run_isAgg (P := P) (t := e) w, ha, hlt']

end
end Go.AM
/- Ranging over strings; maps with strings for keys. No conditions: definitions and lemmas only. -/
namespace Go.AM
open Go.RowKit (Below)

/-- What a character is, at a place of a text. -/
theorem decode_spec (l : List UInt8) (pos : Nat) (c : UInt8) (hc : l[pos]? = some c) :
    (c.toNat < 128 → Utf8.decode ⟨⟨l⟩⟩ pos = (c.toNat, 1)) ∧
    (128 ≤ c.toNat → 128 ≤ (Utf8.decode ⟨⟨l⟩⟩ pos).1 ∧ 1 ≤ (Utf8.decode ⟨⟨l⟩⟩ pos).2 ∧ pos + (Utf8.decode ⟨⟨l⟩⟩ pos).2 ≤ l.length ∧
      ∀ j, pos < j → j < pos + (Utf8.decode ⟨⟨l⟩⟩ pos).2 → ∃ b, l[j]? = some b ∧ 128 ≤ b.toNat) := by
  have hlt : pos < l.length := (List.getElem?_eq_some_iff.1 hc).1
  have hge : ∀ k, (h : pos + k < l.length) → ((⟨⟨l⟩⟩ : ByteArray).get! (pos + k)) = l[pos + k] := by
    intro k h
    show (⟨l⟩ : Array UInt8)[pos + k]! = _
    simp [h]
  have h0 : ((⟨⟨l⟩⟩ : ByteArray).get! (pos + 0)) = c := by
    rw [hge 0 hlt]
    exact (List.getElem?_eq_some_iff.1 hc).2
  have hsz : (⟨⟨l⟩⟩ : ByteArray).size = l.length := rfl
  constructor
  · intro h
    simp only [Utf8.decode, h0, h, if_true]
  · intro h
    have hn : ¬ c.toNat < 128 := by omega
    have ok1 : ∀ p : Nat × Nat, p = (Utf8.runeError, 1) → 128 ≤ p.1 ∧ 1 ≤ p.2 ∧ pos + p.2 ≤ l.length ∧ ∀ j, pos < j → j < pos + p.2 → ∃ b, l[j]? = some b ∧ 128 ≤ b.toNat := by
      rintro p rfl
      refine ⟨by decide, Nat.le_refl _, hlt, fun j h1 h2 => ?_⟩
      simp only at h2
      omega
    have okk : ∀ (w r : Nat), 128 ≤ r → 1 ≤ w → (∀ k, 1 ≤ k → k < w → pos + k < l.length ∧ ((⟨⟨l⟩⟩ : ByteArray).get! (pos + k)).toNat / 64 = 2) →
        128 ≤ ((r, w) : Nat × Nat).1 ∧ 1 ≤ ((r, w) : Nat × Nat).2 ∧ pos + ((r, w) : Nat × Nat).2 ≤ l.length ∧ ∀ j, pos < j → j < pos + ((r, w) : Nat × Nat).2 → ∃ b, l[j]? = some b ∧ 128 ≤ b.toNat := by
      intro w r hr hw hk
      refine ⟨hr, hw, ?_, fun j h1 h2 => ?_⟩
      · rcases Nat.lt_or_ge 1 w with h | h
        · have := (hk (w - 1) (by omega) (by omega)).1
          show pos + w ≤ l.length
          omega
        · show pos + w ≤ l.length
          omega
      · obtain ⟨k, rfl⟩ : ∃ k, j = pos + k := ⟨j - pos, by omega⟩
        simp only at h2
        obtain ⟨h3, h4⟩ := hk k (by omega) (by omega)
        rw [hge k h3] at h4
        exact ⟨_, List.getElem?_eq_getElem h3, by omega⟩
    unfold Utf8.decode
    simp only [h0, hn, if_false, hsz]
    have hcont : ∀ k, (decide (pos + k < l.length) && (((⟨⟨l⟩⟩ : ByteArray).get! (pos + k)).toNat / 64 == 2)) = true → pos + k < l.length ∧ ((⟨⟨l⟩⟩ : ByteArray).get! (pos + k)).toNat / 64 = 2 := by
      intro k h
      simpa using h
    split
    · rename_i h1
      simp only [Bool.and_eq_true] at h1
      split
      · rename_i h2
        exact okk 2 _ h2 (by omega) fun k k1 k2 => by
          obtain rfl : k = 1 := by omega
          exact hcont 1 (by simpa using h1.2)
      · exact ok1 _ rfl
    · split
      · rename_i _ h1
        simp only [Bool.and_eq_true] at h1
        split
        · rename_i h2
          simp only [Bool.and_eq_true, decide_eq_true_eq] at h2
          exact okk 3 _ (by omega) (by omega) fun k k1 k2 => by
            rcases (show k = 1 ∨ k = 2 by omega) with rfl | rfl
            · exact hcont 1 (by simpa using h1.1.2)
            · exact hcont 2 (by simpa using h1.2)
        · exact ok1 _ rfl
      · split
        · rename_i _ _ h1
          simp only [Bool.and_eq_true] at h1
          split
          · rename_i h2
            simp only [Bool.and_eq_true, decide_eq_true_eq] at h2
            exact okk 4 _ (by omega) (by omega) fun k k1 k2 => by
              rcases (show k = 1 ∨ k = 2 ∨ k = 3 by omega) with rfl | rfl | rfl
              · exact hcont 1 (by simpa using h1.1.1.2)
              · exact hcont 2 (by simpa using h1.1.2)
              · exact hcont 3 (by simpa using h1.2)
          · exact ok1 _ rfl
        · exact ok1 _ rfl

section
variable {P : Program} {n : Nat} {K : Post} {E : EPost} {T : Tmps} {st : St} {ops : Array Oper} {rest : List Oper}
variable {d : Tmp} {dd : Option Tmp} {x y z : Operand} {ty : TypeId} {pos : String} {es : Array Edge} {gd : Option (Nat × Bool)}

/-- A range over a string begins. -/
theorem rgs {t : TypeId} [hu : Und P t .string] {l : List UInt8} (hg : goes ops n T ⟨dd, .range t x, ty, pos, es, gd⟩ = some d) (hx : ev st T x = some (.str l))
    (k : ∀ o, st.obj o = none → AOps P n ops rest K E ((d, .iter o) :: T) (st.set o (.iter l 0))) : AOps P n ops (⟨dd, .range t x, ty, pos, es, gd⟩ :: rest) K E T st :=
  AOps.stepAny hg fun g w a hs hk => by
    have h1 := ev_R hs hk hx
    generalize hux : a.eval x = ux at h1
    cases h1
    obtain ⟨g', he, hs', hob, hnone⟩ := hs.newObj (.stringIter ⟨⟨l⟩⟩ 0) (.iter l 0) 0 (fun g' he => heap_alloc_new w _)
    refine ⟨.pointer (some ⟨w.heap.size, 0, none⟩), g', w.alloc (.stringIter ⟨⟨l⟩⟩ 0), _, _, ?_, he, hs', .iter g.next w.heap.size 0 hob, k g.next hnone⟩
    simp only [execOp, hux, Sem.run_bind, run_range_string w t ⟨⟨l⟩⟩ hu.out, Result.andThen_ok, Sem.run_pure]
    rfl

theorem Sim.iterStep {g : G} {w : World} (hs : Sim g w st) {o : Nat} {l : List UInt8} {ps ps' : Nat} {b m : Nat} (ho : st.obj o = some (.iter l ps)) (hb : g.obj o = some (b, m)) :
    Ext g w g (w.iterAt b ⟨⟨l⟩⟩ ps') ∧ Sim g (w.iterAt b ⟨⟨l⟩⟩ ps') (st.set o (.iter l ps')) := by
  obtain ⟨_, hat, _⟩ := hs.objOf ho hb
  have hlt := hs.objlt o b m hb
  refine hs.write ho hb _ ?_ rfl rfl rfl ?_ ?_
  · simp [World.iterAt]
  · intro k hk
    simp [World.iterAt, Ne.symm hk]
  · intro _
    show (w.iterAt b ⟨⟨l⟩⟩ ps').heap[b]? = _
    simp [World.iterAt, hlt]

/-- The next character. -/
theorem nxs {o ps : Nat} {l : List UInt8} {c : UInt8} (hg : goes ops n T ⟨dd, .next x true, ty, pos, es, gd⟩ = some d) (hx : ev st T x = some (.iter o)) (ho : st.obj o = some (.iter l ps)) (hc : l[ps]? = some c)
    (ka : c.toNat < 128 → AOps P n ops rest K E ((d, .tuple [.bool true, .int .i64 (ps : Int), .int .i32 (c.toNat : Int)]) :: T) (st.set o (.iter l (ps + 1))))
    (kn : 128 ≤ c.toNat → ∀ r w : Nat, 128 ≤ r → 1 ≤ w → ps + w ≤ l.length → (∀ j, ps < j → j < ps + w → ∃ b, l[j]? = some b ∧ 128 ≤ b.toNat) →
      AOps P n ops rest K E ((d, .tuple [.bool true, .int .i64 (ps : Int), .int .i32 (r : Int)]) :: T) (st.set o (.iter l (ps + w)))) :
    AOps P n ops (⟨dd, .next x true, ty, pos, es, gd⟩ :: rest) K E T st :=
  AOps.stepAny hg fun g w a hs hk => by
    have h1 := ev_R hs hk hx
    generalize hux : a.eval x = ux at h1
    cases h1 with
    | iter _ b m hb =>
      obtain ⟨_, hat, _⟩ := hs.objOf ho hb
      have hlt : ps < l.length := (List.getElem?_eq_some_iff.1 hc).1
      have hrun := Go.Lib.run_next_any_at (P := P) w b ⟨⟨l⟩⟩ ps ty hat hlt
      obtain ⟨d1, d2⟩ := decode_spec l ps c hc
      have hexec : (execOp a.eval ⟨dd, .next x true, ty, pos, es, gd⟩).run P w = .ok (.value (.tuple #[.bool true, .int .i64 ps, .int .i32 (Utf8.decode ⟨⟨l⟩⟩ ps).1])) (w.iterAt b ⟨⟨l⟩⟩ (ps + (Utf8.decode ⟨⟨l⟩⟩ ps).2)) := by
        simp only [execOp, hux, Sem.run_bind, hrun, Result.andThen_ok, Sem.run_pure]
      have hR : ∀ (r : Nat) g' w', R g' w' (.tuple [.bool true, .int .i64 (ps : Int), .int .i32 (r : Int)]) (.tuple #[.bool true, .int .i64 ps, .int .i32 r]) := fun r g' w' => by
        refine .tuple _ _ rfl fun i c v hc hv => ?_
        match i with
        | 0 => cases hc; cases hv; exact .bool _
        | 1 => cases hc; cases hv; exact .int _ _
        | 2 => cases hc; cases hv; exact .int _ _
        | i + 3 => cases hc
      obtain ⟨e1, e2⟩ := hs.iterStep (ps' := ps + (Utf8.decode ⟨⟨l⟩⟩ ps).2) ho hb
      rcases Nat.lt_or_ge c.toNat 128 with h | h
      · rw [d1 h] at hexec e1 e2
        exact ⟨_, g, _, _, _, hexec, e1, e2, hR _ _ _, ka h⟩
      · obtain ⟨q1, q2, q3, q4⟩ := d2 h
        exact ⟨_, g, _, _, _, hexec, e1, e2, hR _ _ _, kn h _ _ q1 q2 q3 q4⟩

/-- The end of a string. -/
theorem nxe {o ps : Nat} {l : List UInt8} (hg : goes ops n T ⟨dd, .next x true, ty, pos, es, gd⟩ = some d) (hx : ev st T x = some (.iter o)) (ho : st.obj o = some (.iter l ps)) (hle : l.length ≤ ps)
    (k : AOps P n ops rest K E ((d, .tuple [.bool false]) :: T) st) : AOps P n ops (⟨dd, .next x true, ty, pos, es, gd⟩ :: rest) K E T st :=
  AOps.stepAny hg fun g w a hs hk => by
    have h1 := ev_R hs hk hx
    generalize hux : a.eval x = ux at h1
    cases h1 with
    | iter _ b m hb =>
      obtain ⟨_, hat, _⟩ := hs.objOf ho hb
      have hrun := Go.Lib.run_next_end_at (P := P) w b ⟨⟨l⟩⟩ ps ty hat (Nat.not_lt.2 hle)
      refine ⟨.tuple #[.bool false], g, w, .tuple [.bool false], st, ?_, .refl _ _, hs, ?_, k⟩
      · simp only [execOp, hux, Sem.run_bind, hrun, Result.andThen_ok, Sem.run_pure]
      · refine .tuple _ _ rfl fun i c v hc hv => ?_
        match i with
        | 0 => cases hc; cases hv; exact .bool _
        | i + 1 => cases hc

/-! maps -/

def supd (k : List UInt8) (v : AV) : List (List UInt8 × AV) → List (List UInt8 × AV)
  | [] => [(k, v)]
  | (k', v') :: r => if k = k' then (k, v) :: r else (k', v') :: supd k v r
def slook (k : List UInt8) : List (List UInt8 × AV) → Option AV
  | [] => none
  | (k', v') :: r => if k = k' then some v' else slook k r

/-- A new map. -/
theorem mkm {t : TypeId} (hg : goes ops n T ⟨dd, .makeMap t none, ty, pos, es, gd⟩ = some d)
    (k : ∀ o, st.obj o = none → AOps P n ops rest K E ((d, .amap o) :: T) (st.set o (.smap []))) : AOps P n ops (⟨dd, .makeMap t none, ty, pos, es, gd⟩ :: rest) K E T st :=
  AOps.stepAny hg fun g w a hs hk => by
    obtain ⟨g', he, hs', hob, hnone⟩ := hs.newObj (.map #[] 0) (.smap []) 0 (fun g' he => ⟨#[], 0, heap_alloc_new w _, rfl, fun i e h => by simp at h, fun i e k a h => by simp at h⟩)
    refine ⟨.map (some w.heap.size), g', w.alloc (.map #[] 0), _, _, ?_, he, hs', .amap g.next w.heap.size 0 hob, k g.next hnone⟩
    simp only [execOp, Option.map_none, Instr.makeMap, Sem.run_bind, Sem.run_pure]
    rfl

theorem findNow_str (k : List UInt8) : ∀ (es : List (List UInt8 × AV)) (ents : List MapEntry) (i : Nat), ents.length = es.length → (∀ (j : Nat) e p, ents[j]? = some e → es[j]? = some p → e.key = .string ⟨⟨p.1⟩⟩) →
    Instr.findNow .string (.string ⟨⟨k⟩⟩) ents i = some ((es.findIdx? (fun p => decide (k = p.1))).bind fun j => (ents[j]?).map fun e => (i + j, e.val))
  | [], ents, i, hl, _ => by
    have : ents = [] := List.eq_nil_of_length_eq_zero (by simpa using hl)
    subst this
    rfl
  | p :: es, [], _, hl, _ => by simp at hl
  | p :: es, e :: ents, i, hl, h => by
    have h0 := h 0 e p rfl rfl
    have ih := findNow_str k es ents (i + 1) (by simpa using hl) (fun j e' p' h1 h2 => h (j + 1) e' p' (by simpa using h1) (by simpa using h2))
    have hb : ((⟨⟨k⟩⟩ : ByteArray) == ⟨⟨p.1⟩⟩) = decide (k = p.1) := by
      rw [beq_toListBytes, ByteArray.toList_mk, ByteArray.toList_mk, Bool.eq_iff_iff]
      simp
    simp only [Instr.findNow, h0, Instr.sameNow, hb, List.findIdx?_cons]
    by_cases hk : k = p.1
    · simp [hk]
    · simp only [hk, decide_false, ih, Bool.false_eq_true, if_false]
      cases (es.findIdx? fun p => decide (k = p.1)) with
      | none => rfl
      | some j => simp [Nat.add_comm, Nat.add_left_comm]

theorem supd_eq (k : List UInt8) (v : AV) : ∀ es, supd k v es = match es.findIdx? (fun p => decide (k = p.1)) with | some i => es.set i (k, v) | none => es ++ [(k, v)]
  | [] => rfl
  | p :: es => by
    have ih := supd_eq k v es
    rw [supd, List.findIdx?_cons]
    by_cases hk : k = p.1
    · simp [hk]
    · simp only [hk, decide_false, if_false, Bool.false_eq_true, ih]
      cases es.findIdx? (fun p => decide (k = p.1)) <;> rfl

theorem slook_eq (k : List UInt8) : ∀ es, slook k es = (es.findIdx? (fun p => decide (k = p.1))).bind fun i => (es[i]?).map (·.2)
  | [] => rfl
  | p :: es => by
    have ih := slook_eq k es
    rw [slook, List.findIdx?_cons]
    by_cases hk : k = p.1
    · simp [hk]
    · simp only [hk, decide_false, if_false, Bool.false_eq_true, ih]
      cases es.findIdx? (fun p => decide (k = p.1)) <;> rfl

theorem run_checkKey_str1 (w : World) {t : TypeId} (ht : P.underlying t = some .string) (b : Bool) (s : ByteArray) (n : Nat) : (Instr.checkKey b (n + 1) t (.string s)).run P w = .ok () w := by
  simp only [Instr.checkKey, Sem.run_bind, run_underlying ht, Result.andThen_ok, Sem.run_pure]
theorem run_checkKey_str (w : World) {t : TypeId} (ht : P.underlying t = some .string) (b : Bool) (s : ByteArray) : (Instr.checkKey b 10000 t (.string s)).run P w = .ok () w :=
  run_checkKey_str1 w ht b s 9999
theorem sameBits_str (n : Nat) (s : ByteArray) : Instr.sameBits n (.string s) (.string s) = true := by
  have h : (s == s) = true := by rw [beq_toListBytes]; simp
  cases n <;> simp [Instr.sameBits, h]

theorem run_findKey_str (w : World) {t : TypeId} (ht : P.underlying t = some .string) (k : List UInt8) (es : List (List UInt8 × AV)) (ents : List MapEntry) (hl : ents.length = es.length) (h : ∀ (j : Nat) e p, ents[j]? = some e → es[j]? = some p → e.key = .string ⟨⟨p.1⟩⟩) :
    (Instr.findKey t (.string ⟨⟨k⟩⟩) ents).run P w = .ok ((es.findIdx? (fun p => decide (k = p.1))).bind fun j => (ents[j]?).map fun e => (j, e.val)) w := by
  simp only [Instr.findKey, Sem.run_bind, run_underlying ht, Result.andThen_ok, findNow_str k es ents 0 hl h, Nat.zero_add, Sem.run_pure]

/-- A value of a map is set. -/
theorem mup {t kt et : TypeId} [hu : Und P t (.map kt et)] [hk' : Und P kt .string] {o : Nat} {m : List (List UInt8 × AV)} {key : List UInt8} {v : AV} (hw : wantedA ops T ⟨none, .mapUpdate t x y z, ty, pos, es, gd⟩ = some true)
    (hx : ev st T x = some (.amap o)) (hy : ev st T y = some (.str key)) (hz : ev st T z = some v) (ho : st.obj o = some (.smap m))
    (k : AOps P n ops rest K E T (st.set o (.smap (supd key v m)))) : AOps P n ops (⟨none, .mapUpdate t x y z, ty, pos, es, gd⟩ :: rest) K E T st := by
  refine AOps.step hw rfl (.lit undef) _ (fun g w a hs hk => ?_) k
  have h1 := ev_R hs hk hx
  have h2 := ev_R hs hk hy
  have h3 := ev_R hs hk hz
  generalize hux : a.eval x = ux at h1
  generalize huy : a.eval y = uy at h2
  generalize huz : a.eval z = uz at h3
  cases h2
  cases h1 with
  | amap _ b mm hb =>
    obtain ⟨_, ⟨ents, clock, e1, e2, e3, e4⟩, _⟩ := hs.objOf ho hb
    have hlt := hs.objlt o b mm hb
    have hkeys : ∀ (j : Nat) e p, ents.toList[j]? = some e → m[j]? = some p → e.key = .string ⟨⟨p.1⟩⟩ := fun j e p he hp => (e4 j e p.1 p.2 (by simpa using he) hp).1
    have hfind := run_findKey_str (P := P) w hk'.out key m ents.toList (by simpa using e2) hkeys
    have hget : (getObj b).run P w = .ok (.map ents clock) w := by
      simp [getObj, Sem.run, e1]
    have hset : ∀ o', (setObj b o').run P w = .ok () { w with heap := w.heap.setIfInBounds b o' } := by
      intro o'
      simp [setObj, Sem.run, e1]
    rw [supd_eq]
    cases hi : m.findIdx? (fun p => decide (key = p.1)) with
    | none =>
      rw [hi] at hfind
      simp only [Option.bind_none] at hfind
      have hrun : (Instr.mapUpdate t (.map (some b)) (.string ⟨⟨key⟩⟩) uz).run P w = .ok () { w with heap := w.heap.setIfInBounds b (.map (ents.push { key := .string ⟨⟨key⟩⟩, val := uz, born := clock }) (clock + 1)) } := by
        simp only [Instr.mapUpdate, Sem.run_bind, run_underlying hu.out, hget, run_checkKey_str (P := P) w hk'.out, hfind, Result.andThen_ok, hset]
      obtain ⟨q1, q2⟩ := hs.write (c' := .smap (m ++ [(key, v)])) ho hb { w with heap := w.heap.setIfInBounds b (.map (ents.push { key := .string ⟨⟨key⟩⟩, val := uz, born := clock }) (clock + 1)) } (by simp) rfl rfl rfl (fun k hk => by simp [Ne.symm hk]) (fun he => by
        refine ⟨ents.push { key := .string ⟨⟨key⟩⟩, val := uz, born := clock }, clock + 1, by simp [hlt], by simp [e2], fun i e h => ?_, fun i e k a h h' => ?_⟩
        · rw [Array.getElem?_push] at h
          split at h
          · cases h; simp
          · exact Nat.lt_succ_of_lt (e3 i e h)
        · rw [Array.getElem?_push] at h
          split at h
          · rename_i hi'
            cases h
            rw [hi', e2, List.getElem?_append_right (Nat.le_refl _), Nat.sub_self] at h'
            cases h'
            exact ⟨rfl, h3.ext he⟩
          · have hil : i < m.length := by
              have := (Array.getElem?_eq_some_iff.1 h).1
              omega
            rw [List.getElem?_append_left hil] at h'
            exact ⟨(e4 i e k a h h').1, (e4 i e k a h h').2.ext he⟩)
      refine ⟨undef, g, _, .inr ⟨?_, rfl⟩, q1, q2, .lit _⟩
      simp only [execOp, hux, huy, huz, Sem.run_bind, hrun, Result.andThen_ok, Sem.run_pure]
    | some i =>
      obtain ⟨hil, hip, _⟩ := List.findIdx?_eq_some_iff_getElem.1 hi
      have hie : i < ents.size := by omega
      rw [hi] at hfind
      have hei : ents.toList[i]? = some ents[i] := by simp [hie]
      simp only [Option.bind_some, hei, Option.map_some] at hfind
      have hki : ents[i].key = .string ⟨⟨key⟩⟩ := by
        have := hkeys i ents[i] m[i] hei (List.getElem?_eq_getElem hil)
        rw [this]
        have : key = m[i].1 := by simpa using hip
        rw [this]
      have hstay : ∀ w, (Instr.keyThatStays (.string ⟨⟨key⟩⟩) (.string ⟨⟨key⟩⟩)).run P w = .ok (.string ⟨⟨key⟩⟩) w := by
        intro w
        simp [Instr.keyThatStays, sameBits_str]
      have hei' : ents[i]? = some ents[i] := by simp [hie]
      have hrun : (Instr.mapUpdate t (.map (some b)) (.string ⟨⟨key⟩⟩) uz).run P w = .ok () { w with heap := w.heap.setIfInBounds b (.map (ents.modify i fun e => { e with key := .string ⟨⟨key⟩⟩, val := uz }) clock) } := by
        simp only [Instr.mapUpdate, Sem.run_bind, run_underlying hu.out, hget, run_checkKey_str (P := P) w hk'.out, hfind, Result.andThen_ok, hset, hei', Option.map_some, Option.getD_some, hki, hstay]
      obtain ⟨q1, q2⟩ := hs.write (c' := .smap (m.set i (key, v))) ho hb { w with heap := w.heap.setIfInBounds b (.map (ents.modify i fun e => { e with key := .string ⟨⟨key⟩⟩, val := uz }) clock) } (by simp) rfl rfl rfl (fun k hk => by simp [Ne.symm hk]) (fun he => by
        refine ⟨ents.modify i fun e => { e with key := .string ⟨⟨key⟩⟩, val := uz }, clock, by simp [hlt], by simp [e2], fun j e h => ?_, fun j e k a h h' => ?_⟩
        · rw [Array.getElem?_modify] at h
          split at h
          · rename_i hij
            simp only [Option.map_eq_some_iff] at h
            obtain ⟨e0, h0, rfl⟩ := h
            exact e3 j e0 h0
          · exact e3 j e h
        · rw [Array.getElem?_modify] at h
          rw [List.getElem?_set] at h'
          split at h
          · rename_i hij
            subst hij
            rw [if_pos rfl, if_pos hil] at h'
            cases h'
            simp only [Option.map_eq_some_iff] at h
            obtain ⟨e0, h0, rfl⟩ := h
            exact ⟨rfl, h3.ext he⟩
          · rename_i hij
            rw [if_neg hij] at h'
            exact ⟨(e4 j e k a h h').1, (e4 j e k a h h').2.ext he⟩)
      refine ⟨undef, g, _, .inr ⟨?_, rfl⟩, q1, q2, .lit _⟩
      simp only [execOp, hux, huy, huz, Sem.run_bind, hrun, Result.andThen_ok, Sem.run_pure]

/-- A value of a map, or the zero value. -/
theorem lku {t kt et : TypeId} [hu : Und P t (.map kt et)] [hk' : Und P kt .string] {sz by_ : Nat} {zz : Value} [hi : Inf P et sz by_ zz] {o : Nat} {m : List (List UInt8 × AV)} {key : List UInt8} (hg : goes ops n T ⟨dd, .lookup t x y false, ty, pos, es, gd⟩ = some d)
    (hx : ev st T x = some (.amap o)) (hy : ev st T y = some (.str key)) (ho : st.obj o = some (.smap m))
    (k : AOps P n ops rest K E ((d, (slook key m).getD (absV zz)) :: T) st) : AOps P n ops (⟨dd, .lookup t x y false, ty, pos, es, gd⟩ :: rest) K E T st := by
  obtain ⟨hw, hd, hok⟩ := goes_some hg
  simp only at hd
  subst hd
  refine AOps.pure hw hok _ (fun g w a hs hk => ?_) k
  have h1 := ev_R hs hk hx
  have h2 := ev_R hs hk hy
  generalize hux : a.eval x = ux at h1
  generalize huy : a.eval y = uy at h2
  cases h2
  cases h1 with
  | amap _ b mm hb =>
    obtain ⟨_, ⟨ents, clock, e1, e2, e3, e4⟩, _⟩ := hs.objOf ho hb
    have hkeys : ∀ (j : Nat) e p, ents.toList[j]? = some e → m[j]? = some p → e.key = .string ⟨⟨p.1⟩⟩ := fun j e p he hp => (e4 j e p.1 p.2 (by simpa using he) hp).1
    have hfind := run_findKey_str (P := P) w hk'.out key m ents.toList (by simpa using e2) hkeys
    have hget : (getObj b).run P w = .ok (.map ents clock) w := by
      simp [getObj, Sem.run, e1]
    rw [slook_eq]
    cases hf : m.findIdx? (fun p => decide (key = p.1)) with
    | none =>
      rw [hf] at hfind
      simp only [Option.bind_none] at hfind ⊢
      refine ⟨zz, ?_, R_absV g w zz⟩
      simp [execOp, hux, huy, Instr.lookup, run_und (P := P) (t := t) w, hget, run_checkKey_str (P := P) w hk'.out, hfind, run_zero (P := P) (t := et) w]
    | some i =>
      obtain ⟨hil, hip, _⟩ := List.findIdx?_eq_some_iff_getElem.1 hf
      have hie : i < ents.size := by omega
      rw [hf] at hfind
      have hei : ents.toList[i]? = some ents[i] := by simp [hie]
      simp only [Option.bind_some, hei, Option.map_some] at hfind
      simp only [Option.bind_some, List.getElem?_eq_getElem hil, Option.map_some, Option.getD_some]
      refine ⟨ents[i].val, ?_, (e4 i ents[i] m[i].1 m[i].2 (by simp [hie]) (List.getElem?_eq_getElem hil)).2⟩
      simp [execOp, hux, huy, Instr.lookup, run_und (P := P) (t := t) w, hget, run_checkKey_str (P := P) w hk'.out, hfind]

end
end Go.AM
/- Structs and arrays of numbers, truth values and strings, compared. No conditions: definitions and lemmas only. -/
namespace Go.AM
open Go.RowKit (Below)

inductive Sh where
  | kI (k : IntKind)
  | kB
  | kS

/-- The cells of a type that holds plain cells alone. -/
def flatFields (P : Program) (F : TypeId → Option (List Sh)) : Nat → List Field → Option (List Sh)
  | _, [] => some []
  | off, f :: fs => match F f.type, (P.info? f.type).map (·.size) with
    | some sh, some sz => bif Nat.beq f.offset off && Nat.beq sz sh.length && f.name != "_" then (flatFields P F (off + sh.length) fs).map (sh ++ ·) else none
    | _, _ => none

def flatTy (P : Program) : Nat → TypeId → Option (List Sh)
  | 0, _ => none
  | d + 1, t => match P.underlying t with
    | some (.int k) => some [.kI k]
    | some .bool => some [.kB]
    | some .string => some [.kS]
    | some (.struct fs) => bif P.stoodInHeld t then none else flatFields P (flatTy P d) 0 fs.toList
    | some (.array n e) => match flatTy P d e, (P.info? e).map (·.size) with
      | some sh, some sz => bif Nat.beq sz sh.length then some (List.replicate n sh).flatten else none
      | _, _ => none
    | _ => none

def fit1 : Sh → AV → Bool
  | .kI k, .int k' _ => kindEq k k'
  | .kB, .bool _ => true
  | .kS, .str _ => true
  | _, _ => false
def fits : List Sh → List AV → Bool
  | [], [] => true
  | s :: ss, c :: cs => fit1 s c && fits ss cs
  | _, _ => false

section
variable {P : Program}

/-- Cells, one by one. -/
def Rl (g : G) (w : World) (cs : List AV) (vs : List Value) : Prop := cs.length = vs.length ∧ ∀ (i : Nat) c v, cs[i]? = some c → vs[i]? = some v → R g w c v

theorem Rl.take {g : G} {w : World} {cs : List AV} {vs : List Value} (h : Rl g w cs vs) (n : Nat) : Rl g w (cs.take n) (vs.take n) :=
  ⟨by simp [h.1], fun i c v hc hv => by
    rw [List.getElem?_take] at hc hv
    split at hc
    · rename_i hi
      rw [if_pos hi] at hv
      exact h.2 i c v hc hv
    · cases hc⟩
theorem Rl.drop {g : G} {w : World} {cs : List AV} {vs : List Value} (h : Rl g w cs vs) (n : Nat) : Rl g w (cs.drop n) (vs.drop n) :=
  ⟨by simp [h.1], fun i c v hc hv => by
    rw [List.getElem?_drop] at hc hv
    exact h.2 _ c v hc hv⟩

/-- A type of plain cells that may be compared. -/
class FlatT (P : Program) (t : TypeId) (sh : outParam (List Sh)) : Prop where
  out : flatTy P 10000 t = some sh
  guard : P.eqGuardType P.depth t = false
  agg : (match P.underlying t with | some (.struct _) | some (.array _ _) => true | _ => false) = true

variable {n : Nat} {K : Post} {E : EPost} {T : Tmps} {st : St} {ops : Array Oper} {rest : List Oper}
variable {d : Tmp} {dd : Option Tmp} {x y z : Operand} {ty : TypeId} {pos : String} {es : Array Edge} {gd : Option (Nat × Bool)}

end
end Go.AM
/- The next character, told in one way; short rules for literals. No conditions: lemmas only. -/
namespace Go.AM
/-- The fields of a struct type, out of what is known of it. -/
abbrev fOf {P : Program} {t : TypeId} {fs : Array Field} (_ : P.underlying t = some (.struct fs)) : Array Field := fs

section
variable {P : Program} {n : Nat} {K : Post} {E : EPost} {T : Tmps} {st : St} {ops : Array Oper} {rest : List Oper}
variable {d : Tmp} {dd : Option Tmp} {x y z : Operand} {ty : TypeId} {pos : String} {es : Array Edge} {gd : Option (Nat × Bool)}

/-- What a character at a place of a text is: its number r, its bytes w. -/
structure CharAt (l : List UInt8) (ps : Nat) (c : UInt8) (r w : Nat) : Prop where
  pos : 1 ≤ w
  le : ps + w ≤ l.length
  low : c.toNat < 128 → r = c.toNat ∧ w = 1
  high : 128 ≤ c.toNat → 128 ≤ r ∧ ∀ j, ps ≤ j → j < ps + w → ∃ b, l[j]? = some b ∧ 128 ≤ b.toNat

theorem nxu {o ps : Nat} {l : List UInt8} {c : UInt8} (hg : goes ops n T ⟨dd, .next x true, ty, pos, es, gd⟩ = some d) (hx : ev st T x = some (.iter o)) (ho : st.obj o = some (.iter l ps)) (hc : l[ps]? = some c)
    (k : ∀ r w : Nat, CharAt l ps c r w → AOps P n ops rest K E ((d, .tuple [.bool true, .int .i64 (ps : Int), .int .i32 (r : Int)]) :: T) (st.set o (.iter l (ps + w)))) :
    AOps P n ops (⟨dd, .next x true, ty, pos, es, gd⟩ :: rest) K E T st := by
  have hlt : ps < l.length := (List.getElem?_eq_some_iff.1 hc).1
  refine nxs hg hx ho hc (fun h => k c.toNat 1 ⟨Nat.le_refl _, hlt, fun _ => ⟨rfl, rfl⟩, fun h' => by omega⟩) (fun h r w h1 h2 h3 h4 => k r w ⟨h2, h3, fun h' => by omega, fun _ => ⟨h1, fun j hj hj' => ?_⟩⟩)
  rcases Nat.lt_or_ge ps j with hp | hp
  · exact h4 j hp hj'
  · have : j = ps := by omega
    subst this
    exact ⟨c, hc, h⟩
end
end Go.AM
/- The types and functions of the translated program, as instances; by program (gen_types.py). No conditions. -/
namespace Go.Proofs
open Go.AM

instance Tryd.tinf2 : Inf Tryd.prog 2 1 8 (.int .i64 0) := ⟨by kernel_rfl⟩
instance Tryd.tinf3 : Inf Tryd.prog 3 1 8 (.int .i64 0) := ⟨by kernel_rfl⟩
instance Tryd.tinf4 : Inf Tryd.prog 4 1 1 (.bool false) := ⟨by kernel_rfl⟩
instance Tryd.tinf5 : Inf Tryd.prog 5 1 1 (.int .u8 0) := ⟨by kernel_rfl⟩
instance Tryd.tinf6 : Inf Tryd.prog 6 1 1 (.int .u8 0) := ⟨by kernel_rfl⟩
instance Tryd.tinf7 : Inf Tryd.prog 7 4 24 (.agg #[.int .i64 0, .int .i64 0, .bool false, .int .u8 0]) := ⟨by kernel_rfl⟩
instance Tryd.tinf8 : Inf Tryd.prog 8 4 24 (.agg #[.int .i64 0, .int .i64 0, .bool false, .int .u8 0]) := ⟨by kernel_rfl⟩
instance Tryd.tinf9 : Inf Tryd.prog 9 1 16 (.string ⟨#[]⟩) := ⟨by kernel_rfl⟩
instance Tryd.tinf10 : Inf Tryd.prog 10 1 16 (.string ⟨#[]⟩) := ⟨by kernel_rfl⟩
instance Tryd.tinf11 : Inf Tryd.prog 11 1 16 (.string ⟨#[]⟩) := ⟨by kernel_rfl⟩
instance Tryd.tinf12 : Inf Tryd.prog 12 1 8 (.int .u64 0) := ⟨by kernel_rfl⟩
instance Tryd.tinf13 : Inf Tryd.prog 13 2 24 (.agg #[.string ⟨#[]⟩, .int .u64 0]) := ⟨by kernel_rfl⟩
instance Tryd.tinf14 : Inf Tryd.prog 14 2 24 (.agg #[.string ⟨#[]⟩, .int .u64 0]) := ⟨by kernel_rfl⟩
instance Tryd.tinf15 : Inf Tryd.prog 15 1 8 (.pointer none) := ⟨by kernel_rfl⟩
instance Tryd.tinf16 : Inf Tryd.prog 16 1 8 (.pointer none) := ⟨by kernel_rfl⟩
instance Tryd.tinf17 : Inf Tryd.prog 17 1 8 (.pointer none) := ⟨by kernel_rfl⟩
instance Tryd.tinf18 : Inf Tryd.prog 18 1 8 (.agg #[.pointer none]) := ⟨by kernel_rfl⟩
instance Tryd.tinf19 : Inf Tryd.prog 19 1 8 (.agg #[.pointer none]) := ⟨by kernel_rfl⟩
instance Tryd.tinf21 : Inf Tryd.prog 21 1 4 (.int .i32 0) := ⟨by kernel_rfl⟩
instance Tryd.tinf22 : Inf Tryd.prog 22 1 24 (.slice none 0 0) := ⟨by kernel_rfl⟩
instance Tryd.tinf23 : Inf Tryd.prog 23 1 24 (.slice none 0 0) := ⟨by kernel_rfl⟩
instance Tryd.tinf24 : Inf Tryd.prog 24 2 48 (.agg #[.slice none 0 0, .slice none 0 0]) := ⟨by kernel_rfl⟩
instance Tryd.tinf25 : Inf Tryd.prog 25 2 48 (.agg #[.slice none 0 0, .slice none 0 0]) := ⟨by kernel_rfl⟩
instance Tryd.tinf26 : Inf Tryd.prog 26 1 8 (.int .i64 0) := ⟨by kernel_rfl⟩
instance Tryd.tinf29 : Inf Tryd.prog 29 1 24 (.slice none 0 0) := ⟨by kernel_rfl⟩
instance Tryd.tinf30 : Inf Tryd.prog 30 1 24 (.slice none 0 0) := ⟨by kernel_rfl⟩
instance Tryd.tinf31 : Inf Tryd.prog 31 4 72 (.agg #[.string ⟨#[]⟩, .int .i64 0, .slice none 0 0, .slice none 0 0]) := ⟨by kernel_rfl⟩
instance Tryd.tinf32 : Inf Tryd.prog 32 4 72 (.agg #[.string ⟨#[]⟩, .int .i64 0, .slice none 0 0, .slice none 0 0]) := ⟨by kernel_rfl⟩
instance Tryd.tinf33 : Inf Tryd.prog 33 1 24 (.slice none 0 0) := ⟨by kernel_rfl⟩
instance Tryd.tinf34 : Inf Tryd.prog 34 13 192 (.agg #[.int .i64 0, .int .i64 0, .int .i64 0, .string ⟨#[]⟩, .string ⟨#[]⟩, .int .i64 0, .int .i64 0, .slice none 0 0, .string ⟨#[]⟩, .int .i64 0, .slice none 0 0, .slice none 0 0, .slice none 0 0]) := ⟨by kernel_rfl⟩
instance Tryd.tinf35 : Inf Tryd.prog 35 13 192 (.agg #[.int .i64 0, .int .i64 0, .int .i64 0, .string ⟨#[]⟩, .string ⟨#[]⟩, .int .i64 0, .int .i64 0, .slice none 0 0, .string ⟨#[]⟩, .int .i64 0, .slice none 0 0, .slice none 0 0, .slice none 0 0]) := ⟨by kernel_rfl⟩
instance Tryd.tinf36 : Inf Tryd.prog 36 6 80 (.agg #[.int .i64 0, .int .i64 0, .int .i64 0, .string ⟨#[]⟩, .string ⟨#[]⟩, .slice none 0 0]) := ⟨by kernel_rfl⟩
instance Tryd.tinf37 : Inf Tryd.prog 37 6 80 (.agg #[.int .i64 0, .int .i64 0, .int .i64 0, .string ⟨#[]⟩, .string ⟨#[]⟩, .slice none 0 0]) := ⟨by kernel_rfl⟩
instance Tryd.tinf48 : Inf Tryd.prog 48 2 32 (.agg #[.string ⟨#[]⟩, .string ⟨#[]⟩]) := ⟨by kernel_rfl⟩
instance Tryd.tinf49 : Inf Tryd.prog 49 1 24 (.slice none 0 0) := ⟨by kernel_rfl⟩
instance Tryd.tinf52 : Inf Tryd.prog 52 1 24 (.slice none 0 0) := ⟨by kernel_rfl⟩
instance Tryd.tinf55 : Inf Tryd.prog 55 2 16 (.agg #[.int .i64 0, .int .i64 0]) := ⟨by kernel_rfl⟩
instance Tryd.tinf56 : Inf Tryd.prog 56 2 16 (.agg #[.int .i64 0, .int .i64 0]) := ⟨by kernel_rfl⟩
instance Tryd.tinf58 : Inf Tryd.prog 58 1 8 (.pointer none) := ⟨by kernel_rfl⟩
instance Tryd.tinf59 : Inf Tryd.prog 59 2 32 (.agg #[.slice none 0 0, .int .i64 0]) := ⟨by kernel_rfl⟩
instance Tryd.tinf60 : Inf Tryd.prog 60 2 32 (.agg #[.slice none 0 0, .int .i64 0]) := ⟨by kernel_rfl⟩
instance Tryd.tinf62 : Inf Tryd.prog 62 2 40 (.agg #[.string ⟨#[]⟩, .slice none 0 0]) := ⟨by kernel_rfl⟩
instance Tryd.tinf63 : Inf Tryd.prog 63 2 40 (.agg #[.string ⟨#[]⟩, .slice none 0 0]) := ⟨by kernel_rfl⟩
instance Tryd.tinf66 : Inf Tryd.prog 66 4 40 (.agg #[.int .i64 0, .int .i64 0, .string ⟨#[]⟩, .int .i64 0]) := ⟨by kernel_rfl⟩
instance Tryd.tinf67 : Inf Tryd.prog 67 4 40 (.agg #[.int .i64 0, .int .i64 0, .string ⟨#[]⟩, .int .i64 0]) := ⟨by kernel_rfl⟩
instance Tryd.tinf71 : Inf Tryd.prog 71 1 24 (.slice none 0 0) := ⟨by kernel_rfl⟩
instance Tryd.tinf74 : Inf Tryd.prog 74 1 8 (.map none) := ⟨by kernel_rfl⟩
instance Tryd.tinf75 : Inf Tryd.prog 75 4 40 (.agg #[.string ⟨#[]⟩, .int .i64 0, .int .i64 0, .map none]) := ⟨by kernel_rfl⟩
instance Tryd.tinf76 : Inf Tryd.prog 76 4 40 (.agg #[.string ⟨#[]⟩, .int .i64 0, .int .i64 0, .map none]) := ⟨by kernel_rfl⟩
instance Tryd.tinf77 : Inf Tryd.prog 77 12 192 (.agg #[.string ⟨#[]⟩, .string ⟨#[]⟩, .string ⟨#[]⟩, .string ⟨#[]⟩, .string ⟨#[]⟩, .string ⟨#[]⟩, .string ⟨#[]⟩, .string ⟨#[]⟩, .string ⟨#[]⟩, .string ⟨#[]⟩, .string ⟨#[]⟩, .string ⟨#[]⟩]) := ⟨by kernel_rfl⟩
instance Tryd.tinf85 : Inf Tryd.prog 85 1 8 (.pointer none) := ⟨by kernel_rfl⟩
instance Tryd.tinf86 : Inf Tryd.prog 86 1 8 (.pointer none) := ⟨by kernel_rfl⟩
instance Tryd.tinf87 : Inf Tryd.prog 87 1 24 (.slice none 0 0) := ⟨by kernel_rfl⟩
instance Tryd.tinf88 : Inf Tryd.prog 88 2 32 (.agg #[.pointer none, .slice none 0 0]) := ⟨by kernel_rfl⟩
instance Tryd.tinf89 : Inf Tryd.prog 89 2 32 (.agg #[.pointer none, .slice none 0 0]) := ⟨by kernel_rfl⟩
instance Tryd.tinf90 : Inf Tryd.prog 90 2 32 (.agg #[.pointer none, .slice none 0 0]) := ⟨by kernel_rfl⟩
instance Tryd.tinf91 : Inf Tryd.prog 91 2 32 (.agg #[.pointer none, .slice none 0 0]) := ⟨by kernel_rfl⟩
instance Tryd.tinf96 : Inf Tryd.prog 96 1 8 (.pointer none) := ⟨by kernel_rfl⟩
instance Tryd.tinf101 : Inf Tryd.prog 101 24 384 (.agg #[.string ⟨#[]⟩, .string ⟨#[]⟩, .string ⟨#[]⟩, .string ⟨#[]⟩, .string ⟨#[]⟩, .string ⟨#[]⟩, .string ⟨#[]⟩, .string ⟨#[]⟩, .string ⟨#[]⟩, .string ⟨#[]⟩, .string ⟨#[]⟩, .string ⟨#[]⟩, .string ⟨#[]⟩, .string ⟨#[]⟩, .string ⟨#[]⟩, .string ⟨#[]⟩, .string ⟨#[]⟩, .string ⟨#[]⟩, .string ⟨#[]⟩, .string ⟨#[]⟩, .string ⟨#[]⟩, .string ⟨#[]⟩, .string ⟨#[]⟩, .string ⟨#[]⟩]) := ⟨by kernel_rfl⟩
instance Tryd.tinf110 : Inf Tryd.prog 110 1 8 (.pointer none) := ⟨by kernel_rfl⟩
instance Tryd.tinf113 : Inf Tryd.prog 113 1 8 (.pointer none) := ⟨by kernel_rfl⟩
instance Tryd.tinf129 : Inf Tryd.prog 129 24 24 (.agg #[.int .u8 0, .int .u8 0, .int .u8 0, .int .u8 0, .int .u8 0, .int .u8 0, .int .u8 0, .int .u8 0, .int .u8 0, .int .u8 0, .int .u8 0, .int .u8 0, .int .u8 0, .int .u8 0, .int .u8 0, .int .u8 0, .int .u8 0, .int .u8 0, .int .u8 0, .int .u8 0, .int .u8 0, .int .u8 0, .int .u8 0, .int .u8 0]) := ⟨by kernel_rfl⟩
instance Tryd.tinf130 : Inf Tryd.prog 130 1 8 (.int .u64 0) := ⟨by kernel_rfl⟩
instance Tryd.tinf137 : Inf Tryd.prog 137 20 160 (.agg #[.int .u64 0, .int .u64 0, .int .u64 0, .int .u64 0, .int .u64 0, .int .u64 0, .int .u64 0, .int .u64 0, .int .u64 0, .int .u64 0, .int .u64 0, .int .u64 0, .int .u64 0, .int .u64 0, .int .u64 0, .int .u64 0, .int .u64 0, .int .u64 0, .int .u64 0, .int .u64 0]) := ⟨by kernel_rfl⟩
instance Tryd.tinf138 : Inf Tryd.prog 138 1 4 (.int .u32 0) := ⟨by kernel_rfl⟩
instance Tryd.tinf139 : Inf Tryd.prog 139 65 65 (.agg #[.int .u8 0, .int .u8 0, .int .u8 0, .int .u8 0, .int .u8 0, .int .u8 0, .int .u8 0, .int .u8 0, .int .u8 0, .int .u8 0, .int .u8 0, .int .u8 0, .int .u8 0, .int .u8 0, .int .u8 0, .int .u8 0, .int .u8 0, .int .u8 0, .int .u8 0, .int .u8 0, .int .u8 0, .int .u8 0, .int .u8 0, .int .u8 0, .int .u8 0, .int .u8 0, .int .u8 0, .int .u8 0, .int .u8 0, .int .u8 0, .int .u8 0, .int .u8 0, .int .u8 0, .int .u8 0, .int .u8 0, .int .u8 0, .int .u8 0, .int .u8 0, .int .u8 0, .int .u8 0, .int .u8 0, .int .u8 0, .int .u8 0, .int .u8 0, .int .u8 0, .int .u8 0, .int .u8 0, .int .u8 0, .int .u8 0, .int .u8 0, .int .u8 0, .int .u8 0, .int .u8 0, .int .u8 0, .int .u8 0, .int .u8 0, .int .u8 0, .int .u8 0, .int .u8 0, .int .u8 0, .int .u8 0, .int .u8 0, .int .u8 0, .int .u8 0, .int .u8 0]) := ⟨by kernel_rfl⟩
instance Tryd.tinf141 : Inf Tryd.prog 141 1 8 (.int .u64 0) := ⟨by kernel_rfl⟩
instance Tryd.tinf144 : Inf Tryd.prog 144 32 32 (.agg #[.int .u8 0, .int .u8 0, .int .u8 0, .int .u8 0, .int .u8 0, .int .u8 0, .int .u8 0, .int .u8 0, .int .u8 0, .int .u8 0, .int .u8 0, .int .u8 0, .int .u8 0, .int .u8 0, .int .u8 0, .int .u8 0, .int .u8 0, .int .u8 0, .int .u8 0, .int .u8 0, .int .u8 0, .int .u8 0, .int .u8 0, .int .u8 0, .int .u8 0, .int .u8 0, .int .u8 0, .int .u8 0, .int .u8 0, .int .u8 0, .int .u8 0, .int .u8 0]) := ⟨by kernel_rfl⟩
instance Tryd.tinf145 : Inf Tryd.prog 145 64 64 (.agg #[.int .u8 0, .int .u8 0, .int .u8 0, .int .u8 0, .int .u8 0, .int .u8 0, .int .u8 0, .int .u8 0, .int .u8 0, .int .u8 0, .int .u8 0, .int .u8 0, .int .u8 0, .int .u8 0, .int .u8 0, .int .u8 0, .int .u8 0, .int .u8 0, .int .u8 0, .int .u8 0, .int .u8 0, .int .u8 0, .int .u8 0, .int .u8 0, .int .u8 0, .int .u8 0, .int .u8 0, .int .u8 0, .int .u8 0, .int .u8 0, .int .u8 0, .int .u8 0, .int .u8 0, .int .u8 0, .int .u8 0, .int .u8 0, .int .u8 0, .int .u8 0, .int .u8 0, .int .u8 0, .int .u8 0, .int .u8 0, .int .u8 0, .int .u8 0, .int .u8 0, .int .u8 0, .int .u8 0, .int .u8 0, .int .u8 0, .int .u8 0, .int .u8 0, .int .u8 0, .int .u8 0, .int .u8 0, .int .u8 0, .int .u8 0, .int .u8 0, .int .u8 0, .int .u8 0, .int .u8 0, .int .u8 0, .int .u8 0, .int .u8 0, .int .u8 0]) := ⟨by kernel_rfl⟩
instance Tryd.tinf146 : Inf Tryd.prog 146 4 40 (.agg #[.pointer none, .pointer none, .pointer none, .string ⟨#[]⟩]) := ⟨by kernel_rfl⟩
instance Tryd.tinf147 : Inf Tryd.prog 147 4 40 (.agg #[.pointer none, .pointer none, .pointer none, .string ⟨#[]⟩]) := ⟨by kernel_rfl⟩
instance Tryd.tinf148 : Inf Tryd.prog 148 0 0 (.agg #[]) := ⟨by kernel_rfl⟩
instance Tryd.tinf149 : Inf Tryd.prog 149 0 0 (.agg #[]) := ⟨by kernel_rfl⟩
instance Tryd.tinf150 : Inf Tryd.prog 150 0 0 (.agg #[]) := ⟨by kernel_rfl⟩
instance Tryd.tinf152 : Inf Tryd.prog 152 1 1 (.int .u8 0) := ⟨by kernel_rfl⟩
instance Tryd.tinf153 : Inf Tryd.prog 153 1 1 (.int .u8 0) := ⟨by kernel_rfl⟩
instance Tryd.tinf155 : Inf Tryd.prog 155 1 4 (.int .i32 0) := ⟨by kernel_rfl⟩
instance Tryd.tinf156 : Inf Tryd.prog 156 1 4 (.int .i32 0) := ⟨by kernel_rfl⟩
instance Tryd.tinf157 : Inf Tryd.prog 157 11 48 (.agg #[.int .u64 0, .int .u64 0, .int .u32 0, .int .u8 0, .int .u8 0, .int .u8 0, .int .u8 0, .nilFunc, .pointer none, .int .i32 0, .int .i32 0]) := ⟨by kernel_rfl⟩
instance Tryd.tinf158 : Inf Tryd.prog 158 11 48 (.agg #[.int .u64 0, .int .u64 0, .int .u32 0, .int .u8 0, .int .u8 0, .int .u8 0, .int .u8 0, .nilFunc, .pointer none, .int .i32 0, .int .i32 0]) := ⟨by kernel_rfl⟩
instance Tryd.tund2 : Und Tryd.prog 2 (.int .i64) := ⟨Tryd.underlying2⟩
instance Tryd.tund3 : Und Tryd.prog 3 (.int .i64) := ⟨Tryd.underlying3⟩
instance Tryd.tund4 : Und Tryd.prog 4 .bool := ⟨Tryd.underlying4⟩
instance Tryd.tund5 : Und Tryd.prog 5 (.int .u8) := ⟨Tryd.underlying5⟩
instance Tryd.tund6 : Und Tryd.prog 6 (.int .u8) := ⟨Tryd.underlying6⟩
instance Tryd.tund7 : Und Tryd.prog 7 (.struct (fOf Tryd.underlying7)) := ⟨Tryd.underlying7⟩
instance Tryd.tund8 : Und Tryd.prog 8 (.struct (fOf Tryd.underlying8)) := ⟨Tryd.underlying8⟩
instance Tryd.tund9 : Und Tryd.prog 9 .string := ⟨Tryd.underlying9⟩
instance Tryd.tund10 : Und Tryd.prog 10 .string := ⟨Tryd.underlying10⟩
instance Tryd.tund11 : Und Tryd.prog 11 .string := ⟨Tryd.underlying11⟩
instance Tryd.tund12 : Und Tryd.prog 12 (.int .u64) := ⟨Tryd.underlying12⟩
instance Tryd.tund13 : Und Tryd.prog 13 (.struct (fOf Tryd.underlying13)) := ⟨Tryd.underlying13⟩
instance Tryd.tund14 : Und Tryd.prog 14 (.struct (fOf Tryd.underlying14)) := ⟨Tryd.underlying14⟩
instance Tryd.tund15 : Und Tryd.prog 15 (.pointer 147) := ⟨Tryd.underlying15⟩
instance Tryd.tund16 : Und Tryd.prog 16 (.pointer 150) := ⟨Tryd.underlying16⟩
instance Tryd.tund17 : Und Tryd.prog 17 (.pointer 158) := ⟨Tryd.underlying17⟩
instance Tryd.tund18 : Und Tryd.prog 18 (.struct (fOf Tryd.underlying18)) := ⟨Tryd.underlying18⟩
instance Tryd.tund19 : Und Tryd.prog 19 (.struct (fOf Tryd.underlying19)) := ⟨Tryd.underlying19⟩
instance Tryd.tund21 : Und Tryd.prog 21 (.int .i32) := ⟨Tryd.underlying21⟩
instance Tryd.tund22 : Und Tryd.prog 22 (.slice 63) := ⟨Tryd.underlying22⟩
instance Tryd.tund23 : Und Tryd.prog 23 (.slice 32) := ⟨Tryd.underlying23⟩
instance Tryd.tund24 : Und Tryd.prog 24 (.struct (fOf Tryd.underlying24)) := ⟨Tryd.underlying24⟩
instance Tryd.tund25 : Und Tryd.prog 25 (.struct (fOf Tryd.underlying25)) := ⟨Tryd.underlying25⟩
instance Tryd.tund26 : Und Tryd.prog 26 (.int .i64) := ⟨Tryd.underlying26⟩
instance Tryd.tund29 : Und Tryd.prog 29 (.slice 9) := ⟨Tryd.underlying29⟩
instance Tryd.tund30 : Und Tryd.prog 30 (.slice 35) := ⟨Tryd.underlying30⟩
instance Tryd.tund31 : Und Tryd.prog 31 (.struct (fOf Tryd.underlying31)) := ⟨Tryd.underlying31⟩
instance Tryd.tund32 : Und Tryd.prog 32 (.struct (fOf Tryd.underlying32)) := ⟨Tryd.underlying32⟩
instance Tryd.tund33 : Und Tryd.prog 33 (.slice 37) := ⟨Tryd.underlying33⟩
instance Tryd.tund34 : Und Tryd.prog 34 (.struct (fOf Tryd.underlying34)) := ⟨Tryd.underlying34⟩
instance Tryd.tund35 : Und Tryd.prog 35 (.struct (fOf Tryd.underlying35)) := ⟨Tryd.underlying35⟩
instance Tryd.tund36 : Und Tryd.prog 36 (.struct (fOf Tryd.underlying36)) := ⟨Tryd.underlying36⟩
instance Tryd.tund37 : Und Tryd.prog 37 (.struct (fOf Tryd.underlying37)) := ⟨Tryd.underlying37⟩
instance Tryd.tund48 : Und Tryd.prog 48 (.array 2 9) := ⟨Tryd.underlying48⟩
instance Tryd.tund49 : Und Tryd.prog 49 (.slice 48) := ⟨Tryd.underlying49⟩
instance Tryd.tund52 : Und Tryd.prog 52 (.slice 67) := ⟨Tryd.underlying52⟩
instance Tryd.tund55 : Und Tryd.prog 55 (.struct (fOf Tryd.underlying55)) := ⟨Tryd.underlying55⟩
instance Tryd.tund56 : Und Tryd.prog 56 (.struct (fOf Tryd.underlying56)) := ⟨Tryd.underlying56⟩
instance Tryd.tund58 : Und Tryd.prog 58 (.pointer 60) := ⟨Tryd.underlying58⟩
instance Tryd.tund59 : Und Tryd.prog 59 (.struct (fOf Tryd.underlying59)) := ⟨Tryd.underlying59⟩
instance Tryd.tund60 : Und Tryd.prog 60 (.struct (fOf Tryd.underlying60)) := ⟨Tryd.underlying60⟩
instance Tryd.tund62 : Und Tryd.prog 62 (.struct (fOf Tryd.underlying62)) := ⟨Tryd.underlying62⟩
instance Tryd.tund63 : Und Tryd.prog 63 (.struct (fOf Tryd.underlying63)) := ⟨Tryd.underlying63⟩
instance Tryd.tund66 : Und Tryd.prog 66 (.struct (fOf Tryd.underlying66)) := ⟨Tryd.underlying66⟩
instance Tryd.tund67 : Und Tryd.prog 67 (.struct (fOf Tryd.underlying67)) := ⟨Tryd.underlying67⟩
instance Tryd.tund71 : Und Tryd.prog 71 (.slice 3) := ⟨Tryd.underlying71⟩
instance Tryd.tund74 : Und Tryd.prog 74 (.map 9 4) := ⟨Tryd.underlying74⟩
instance Tryd.tund75 : Und Tryd.prog 75 (.struct (fOf Tryd.underlying75)) := ⟨Tryd.underlying75⟩
instance Tryd.tund76 : Und Tryd.prog 76 (.struct (fOf Tryd.underlying76)) := ⟨Tryd.underlying76⟩
instance Tryd.tund77 : Und Tryd.prog 77 (.array 12 9) := ⟨Tryd.underlying77⟩
instance Tryd.tund85 : Und Tryd.prog 85 (.pointer 91) := ⟨Tryd.underlying85⟩
instance Tryd.tund86 : Und Tryd.prog 86 (.pointer 89) := ⟨Tryd.underlying86⟩
instance Tryd.tund87 : Und Tryd.prog 87 (.slice 5) := ⟨Tryd.underlying87⟩
instance Tryd.tund88 : Und Tryd.prog 88 (.struct (fOf Tryd.underlying88)) := ⟨Tryd.underlying88⟩
instance Tryd.tund89 : Und Tryd.prog 89 (.struct (fOf Tryd.underlying89)) := ⟨Tryd.underlying89⟩
instance Tryd.tund90 : Und Tryd.prog 90 (.struct (fOf Tryd.underlying90)) := ⟨Tryd.underlying90⟩
instance Tryd.tund91 : Und Tryd.prog 91 (.struct (fOf Tryd.underlying91)) := ⟨Tryd.underlying91⟩
instance Tryd.tund96 : Und Tryd.prog 96 (.pointer 76) := ⟨Tryd.underlying96⟩
instance Tryd.tund101 : Und Tryd.prog 101 (.array 24 9) := ⟨Tryd.underlying101⟩
instance Tryd.tund110 : Und Tryd.prog 110 (.pointer 5) := ⟨Tryd.underlying110⟩
instance Tryd.tund113 : Und Tryd.prog 113 (.pointer 35) := ⟨Tryd.underlying113⟩
instance Tryd.tund129 : Und Tryd.prog 129 (.array 24 5) := ⟨Tryd.underlying129⟩
instance Tryd.tund130 : Und Tryd.prog 130 (.int .u64) := ⟨Tryd.underlying130⟩
instance Tryd.tund137 : Und Tryd.prog 137 (.array 20 130) := ⟨Tryd.underlying137⟩
instance Tryd.tund138 : Und Tryd.prog 138 (.int .u32) := ⟨Tryd.underlying138⟩
instance Tryd.tund139 : Und Tryd.prog 139 (.array 65 5) := ⟨Tryd.underlying139⟩
instance Tryd.tund141 : Und Tryd.prog 141 (.int .u64) := ⟨Tryd.underlying141⟩
instance Tryd.tund144 : Und Tryd.prog 144 (.array 32 5) := ⟨Tryd.underlying144⟩
instance Tryd.tund145 : Und Tryd.prog 145 (.array 64 5) := ⟨Tryd.underlying145⟩
instance Tryd.tund146 : Und Tryd.prog 146 (.struct (fOf Tryd.underlying146)) := ⟨Tryd.underlying146⟩
instance Tryd.tund147 : Und Tryd.prog 147 (.struct (fOf Tryd.underlying147)) := ⟨Tryd.underlying147⟩
instance Tryd.tund148 : Und Tryd.prog 148 (.array 0 16) := ⟨Tryd.underlying148⟩
instance Tryd.tund149 : Und Tryd.prog 149 (.struct (fOf Tryd.underlying149)) := ⟨Tryd.underlying149⟩
instance Tryd.tund150 : Und Tryd.prog 150 (.struct (fOf Tryd.underlying150)) := ⟨Tryd.underlying150⟩
instance Tryd.tund152 : Und Tryd.prog 152 (.int .u8) := ⟨Tryd.underlying152⟩
instance Tryd.tund153 : Und Tryd.prog 153 (.int .u8) := ⟨Tryd.underlying153⟩
instance Tryd.tund155 : Und Tryd.prog 155 (.int .i32) := ⟨Tryd.underlying155⟩
instance Tryd.tund156 : Und Tryd.prog 156 (.int .i32) := ⟨Tryd.underlying156⟩
instance Tryd.tund157 : Und Tryd.prog 157 (.struct (fOf Tryd.underlying157)) := ⟨Tryd.underlying157⟩
instance Tryd.tund158 : Und Tryd.prog 158 (.struct (fOf Tryd.underlying158)) := ⟨Tryd.underlying158⟩
instance Tryd.tfld7_0 : Fld Tryd.prog 7 0 0 2 := ⟨_, _, Tryd.underlying7, rfl, rfl, rfl⟩
instance Tryd.tfld7_1 : Fld Tryd.prog 7 1 1 3 := ⟨_, _, Tryd.underlying7, rfl, rfl, rfl⟩
instance Tryd.tfld7_2 : Fld Tryd.prog 7 2 2 4 := ⟨_, _, Tryd.underlying7, rfl, rfl, rfl⟩
instance Tryd.tfld7_3 : Fld Tryd.prog 7 3 3 6 := ⟨_, _, Tryd.underlying7, rfl, rfl, rfl⟩
instance Tryd.tpl7 : Places Tryd.prog  (fOf Tryd.underlying7) [(0, 1), (1, 1), (2, 1), (3, 1)] := ⟨by kernel_rfl⟩
instance Tryd.tfld8_0 : Fld Tryd.prog 8 0 0 2 := ⟨_, _, Tryd.underlying8, rfl, rfl, rfl⟩
instance Tryd.tfld8_1 : Fld Tryd.prog 8 1 1 3 := ⟨_, _, Tryd.underlying8, rfl, rfl, rfl⟩
instance Tryd.tfld8_2 : Fld Tryd.prog 8 2 2 4 := ⟨_, _, Tryd.underlying8, rfl, rfl, rfl⟩
instance Tryd.tfld8_3 : Fld Tryd.prog 8 3 3 6 := ⟨_, _, Tryd.underlying8, rfl, rfl, rfl⟩
instance Tryd.tpl8 : Places Tryd.prog  (fOf Tryd.underlying8) [(0, 1), (1, 1), (2, 1), (3, 1)] := ⟨by kernel_rfl⟩
instance Tryd.tfld13_0 : Fld Tryd.prog 13 0 0 9 := ⟨_, _, Tryd.underlying13, rfl, rfl, rfl⟩
instance Tryd.tfld13_1 : Fld Tryd.prog 13 1 1 12 := ⟨_, _, Tryd.underlying13, rfl, rfl, rfl⟩
instance Tryd.tpl13 : Places Tryd.prog  (fOf Tryd.underlying13) [(0, 1), (1, 1)] := ⟨by kernel_rfl⟩
instance Tryd.tfld14_0 : Fld Tryd.prog 14 0 0 9 := ⟨_, _, Tryd.underlying14, rfl, rfl, rfl⟩
instance Tryd.tfld14_1 : Fld Tryd.prog 14 1 1 12 := ⟨_, _, Tryd.underlying14, rfl, rfl, rfl⟩
instance Tryd.tpl14 : Places Tryd.prog  (fOf Tryd.underlying14) [(0, 1), (1, 1)] := ⟨by kernel_rfl⟩
instance Tryd.tfld18_0 : Fld Tryd.prog 18 0 0 17 := ⟨_, _, Tryd.underlying18, rfl, rfl, rfl⟩
instance Tryd.tpl18 : Places Tryd.prog  (fOf Tryd.underlying18) [(0, 1)] := ⟨by kernel_rfl⟩
instance Tryd.tfld19_0 : Fld Tryd.prog 19 0 0 17 := ⟨_, _, Tryd.underlying19, rfl, rfl, rfl⟩
instance Tryd.tpl19 : Places Tryd.prog  (fOf Tryd.underlying19) [(0, 1)] := ⟨by kernel_rfl⟩
instance Tryd.tfld24_0 : Fld Tryd.prog 24 0 0 22 := ⟨_, _, Tryd.underlying24, rfl, rfl, rfl⟩
instance Tryd.tfld24_1 : Fld Tryd.prog 24 1 1 23 := ⟨_, _, Tryd.underlying24, rfl, rfl, rfl⟩
instance Tryd.tpl24 : Places Tryd.prog  (fOf Tryd.underlying24) [(0, 1), (1, 1)] := ⟨by kernel_rfl⟩
instance Tryd.tfld25_0 : Fld Tryd.prog 25 0 0 22 := ⟨_, _, Tryd.underlying25, rfl, rfl, rfl⟩
instance Tryd.tfld25_1 : Fld Tryd.prog 25 1 1 23 := ⟨_, _, Tryd.underlying25, rfl, rfl, rfl⟩
instance Tryd.tpl25 : Places Tryd.prog  (fOf Tryd.underlying25) [(0, 1), (1, 1)] := ⟨by kernel_rfl⟩
instance Tryd.tfld31_0 : Fld Tryd.prog 31 0 0 9 := ⟨_, _, Tryd.underlying31, rfl, rfl, rfl⟩
instance Tryd.tfld31_1 : Fld Tryd.prog 31 1 1 3 := ⟨_, _, Tryd.underlying31, rfl, rfl, rfl⟩
instance Tryd.tfld31_2 : Fld Tryd.prog 31 2 2 29 := ⟨_, _, Tryd.underlying31, rfl, rfl, rfl⟩
instance Tryd.tfld31_3 : Fld Tryd.prog 31 3 3 30 := ⟨_, _, Tryd.underlying31, rfl, rfl, rfl⟩
instance Tryd.tpl31 : Places Tryd.prog  (fOf Tryd.underlying31) [(0, 1), (1, 1), (2, 1), (3, 1)] := ⟨by kernel_rfl⟩
instance Tryd.tfld32_0 : Fld Tryd.prog 32 0 0 9 := ⟨_, _, Tryd.underlying32, rfl, rfl, rfl⟩
instance Tryd.tfld32_1 : Fld Tryd.prog 32 1 1 3 := ⟨_, _, Tryd.underlying32, rfl, rfl, rfl⟩
instance Tryd.tfld32_2 : Fld Tryd.prog 32 2 2 29 := ⟨_, _, Tryd.underlying32, rfl, rfl, rfl⟩
instance Tryd.tfld32_3 : Fld Tryd.prog 32 3 3 30 := ⟨_, _, Tryd.underlying32, rfl, rfl, rfl⟩
instance Tryd.tpl32 : Places Tryd.prog  (fOf Tryd.underlying32) [(0, 1), (1, 1), (2, 1), (3, 1)] := ⟨by kernel_rfl⟩
instance Tryd.tfld34_0 : Fld Tryd.prog 34 0 0 3 := ⟨_, _, Tryd.underlying34, rfl, rfl, rfl⟩
instance Tryd.tfld34_1 : Fld Tryd.prog 34 1 1 3 := ⟨_, _, Tryd.underlying34, rfl, rfl, rfl⟩
instance Tryd.tfld34_2 : Fld Tryd.prog 34 2 2 3 := ⟨_, _, Tryd.underlying34, rfl, rfl, rfl⟩
instance Tryd.tfld34_3 : Fld Tryd.prog 34 3 3 9 := ⟨_, _, Tryd.underlying34, rfl, rfl, rfl⟩
instance Tryd.tfld34_4 : Fld Tryd.prog 34 4 4 9 := ⟨_, _, Tryd.underlying34, rfl, rfl, rfl⟩
instance Tryd.tfld34_5 : Fld Tryd.prog 34 5 5 3 := ⟨_, _, Tryd.underlying34, rfl, rfl, rfl⟩
instance Tryd.tfld34_6 : Fld Tryd.prog 34 6 6 3 := ⟨_, _, Tryd.underlying34, rfl, rfl, rfl⟩
instance Tryd.tfld34_7 : Fld Tryd.prog 34 7 7 33 := ⟨_, _, Tryd.underlying34, rfl, rfl, rfl⟩
instance Tryd.tfld34_8 : Fld Tryd.prog 34 8 8 9 := ⟨_, _, Tryd.underlying34, rfl, rfl, rfl⟩
instance Tryd.tfld34_9 : Fld Tryd.prog 34 9 9 3 := ⟨_, _, Tryd.underlying34, rfl, rfl, rfl⟩
instance Tryd.tfld34_10 : Fld Tryd.prog 34 10 10 33 := ⟨_, _, Tryd.underlying34, rfl, rfl, rfl⟩
instance Tryd.tfld34_11 : Fld Tryd.prog 34 11 11 30 := ⟨_, _, Tryd.underlying34, rfl, rfl, rfl⟩
instance Tryd.tfld34_12 : Fld Tryd.prog 34 12 12 30 := ⟨_, _, Tryd.underlying34, rfl, rfl, rfl⟩
instance Tryd.tpl34 : Places Tryd.prog  (fOf Tryd.underlying34) [(0, 1), (1, 1), (2, 1), (3, 1), (4, 1), (5, 1), (6, 1), (7, 1), (8, 1), (9, 1), (10, 1), (11, 1), (12, 1)] := ⟨by kernel_rfl⟩
instance Tryd.tfld35_0 : Fld Tryd.prog 35 0 0 3 := ⟨_, _, Tryd.underlying35, rfl, rfl, rfl⟩
instance Tryd.tfld35_1 : Fld Tryd.prog 35 1 1 3 := ⟨_, _, Tryd.underlying35, rfl, rfl, rfl⟩
instance Tryd.tfld35_2 : Fld Tryd.prog 35 2 2 3 := ⟨_, _, Tryd.underlying35, rfl, rfl, rfl⟩
instance Tryd.tfld35_3 : Fld Tryd.prog 35 3 3 9 := ⟨_, _, Tryd.underlying35, rfl, rfl, rfl⟩
instance Tryd.tfld35_4 : Fld Tryd.prog 35 4 4 9 := ⟨_, _, Tryd.underlying35, rfl, rfl, rfl⟩
instance Tryd.tfld35_5 : Fld Tryd.prog 35 5 5 3 := ⟨_, _, Tryd.underlying35, rfl, rfl, rfl⟩
instance Tryd.tfld35_6 : Fld Tryd.prog 35 6 6 3 := ⟨_, _, Tryd.underlying35, rfl, rfl, rfl⟩
instance Tryd.tfld35_7 : Fld Tryd.prog 35 7 7 33 := ⟨_, _, Tryd.underlying35, rfl, rfl, rfl⟩
instance Tryd.tfld35_8 : Fld Tryd.prog 35 8 8 9 := ⟨_, _, Tryd.underlying35, rfl, rfl, rfl⟩
instance Tryd.tfld35_9 : Fld Tryd.prog 35 9 9 3 := ⟨_, _, Tryd.underlying35, rfl, rfl, rfl⟩
instance Tryd.tfld35_10 : Fld Tryd.prog 35 10 10 33 := ⟨_, _, Tryd.underlying35, rfl, rfl, rfl⟩
instance Tryd.tfld35_11 : Fld Tryd.prog 35 11 11 30 := ⟨_, _, Tryd.underlying35, rfl, rfl, rfl⟩
instance Tryd.tfld35_12 : Fld Tryd.prog 35 12 12 30 := ⟨_, _, Tryd.underlying35, rfl, rfl, rfl⟩
instance Tryd.tpl35 : Places Tryd.prog  (fOf Tryd.underlying35) [(0, 1), (1, 1), (2, 1), (3, 1), (4, 1), (5, 1), (6, 1), (7, 1), (8, 1), (9, 1), (10, 1), (11, 1), (12, 1)] := ⟨by kernel_rfl⟩
instance Tryd.tfld36_0 : Fld Tryd.prog 36 0 0 3 := ⟨_, _, Tryd.underlying36, rfl, rfl, rfl⟩
instance Tryd.tfld36_1 : Fld Tryd.prog 36 1 1 3 := ⟨_, _, Tryd.underlying36, rfl, rfl, rfl⟩
instance Tryd.tfld36_2 : Fld Tryd.prog 36 2 2 3 := ⟨_, _, Tryd.underlying36, rfl, rfl, rfl⟩
instance Tryd.tfld36_3 : Fld Tryd.prog 36 3 3 9 := ⟨_, _, Tryd.underlying36, rfl, rfl, rfl⟩
instance Tryd.tfld36_4 : Fld Tryd.prog 36 4 4 9 := ⟨_, _, Tryd.underlying36, rfl, rfl, rfl⟩
instance Tryd.tfld36_5 : Fld Tryd.prog 36 5 5 33 := ⟨_, _, Tryd.underlying36, rfl, rfl, rfl⟩
instance Tryd.tpl36 : Places Tryd.prog  (fOf Tryd.underlying36) [(0, 1), (1, 1), (2, 1), (3, 1), (4, 1), (5, 1)] := ⟨by kernel_rfl⟩
instance Tryd.tfld37_0 : Fld Tryd.prog 37 0 0 3 := ⟨_, _, Tryd.underlying37, rfl, rfl, rfl⟩
instance Tryd.tfld37_1 : Fld Tryd.prog 37 1 1 3 := ⟨_, _, Tryd.underlying37, rfl, rfl, rfl⟩
instance Tryd.tfld37_2 : Fld Tryd.prog 37 2 2 3 := ⟨_, _, Tryd.underlying37, rfl, rfl, rfl⟩
instance Tryd.tfld37_3 : Fld Tryd.prog 37 3 3 9 := ⟨_, _, Tryd.underlying37, rfl, rfl, rfl⟩
instance Tryd.tfld37_4 : Fld Tryd.prog 37 4 4 9 := ⟨_, _, Tryd.underlying37, rfl, rfl, rfl⟩
instance Tryd.tfld37_5 : Fld Tryd.prog 37 5 5 33 := ⟨_, _, Tryd.underlying37, rfl, rfl, rfl⟩
instance Tryd.tpl37 : Places Tryd.prog  (fOf Tryd.underlying37) [(0, 1), (1, 1), (2, 1), (3, 1), (4, 1), (5, 1)] := ⟨by kernel_rfl⟩
instance Tryd.tfld55_0 : Fld Tryd.prog 55 0 0 3 := ⟨_, _, Tryd.underlying55, rfl, rfl, rfl⟩
instance Tryd.tfld55_1 : Fld Tryd.prog 55 1 1 26 := ⟨_, _, Tryd.underlying55, rfl, rfl, rfl⟩
instance Tryd.tpl55 : Places Tryd.prog  (fOf Tryd.underlying55) [(0, 1), (1, 1)] := ⟨by kernel_rfl⟩
instance Tryd.tfld56_0 : Fld Tryd.prog 56 0 0 3 := ⟨_, _, Tryd.underlying56, rfl, rfl, rfl⟩
instance Tryd.tfld56_1 : Fld Tryd.prog 56 1 1 26 := ⟨_, _, Tryd.underlying56, rfl, rfl, rfl⟩
instance Tryd.tpl56 : Places Tryd.prog  (fOf Tryd.underlying56) [(0, 1), (1, 1)] := ⟨by kernel_rfl⟩
instance Tryd.tfld59_0 : Fld Tryd.prog 59 0 0 52 := ⟨_, _, Tryd.underlying59, rfl, rfl, rfl⟩
instance Tryd.tfld59_1 : Fld Tryd.prog 59 1 1 3 := ⟨_, _, Tryd.underlying59, rfl, rfl, rfl⟩
instance Tryd.tpl59 : Places Tryd.prog  (fOf Tryd.underlying59) [(0, 1), (1, 1)] := ⟨by kernel_rfl⟩
instance Tryd.tfld60_0 : Fld Tryd.prog 60 0 0 52 := ⟨_, _, Tryd.underlying60, rfl, rfl, rfl⟩
instance Tryd.tfld60_1 : Fld Tryd.prog 60 1 1 3 := ⟨_, _, Tryd.underlying60, rfl, rfl, rfl⟩
instance Tryd.tpl60 : Places Tryd.prog  (fOf Tryd.underlying60) [(0, 1), (1, 1)] := ⟨by kernel_rfl⟩
instance Tryd.tfld62_0 : Fld Tryd.prog 62 0 0 9 := ⟨_, _, Tryd.underlying62, rfl, rfl, rfl⟩
instance Tryd.tfld62_1 : Fld Tryd.prog 62 1 1 29 := ⟨_, _, Tryd.underlying62, rfl, rfl, rfl⟩
instance Tryd.tpl62 : Places Tryd.prog  (fOf Tryd.underlying62) [(0, 1), (1, 1)] := ⟨by kernel_rfl⟩
instance Tryd.tfld63_0 : Fld Tryd.prog 63 0 0 9 := ⟨_, _, Tryd.underlying63, rfl, rfl, rfl⟩
instance Tryd.tfld63_1 : Fld Tryd.prog 63 1 1 29 := ⟨_, _, Tryd.underlying63, rfl, rfl, rfl⟩
instance Tryd.tpl63 : Places Tryd.prog  (fOf Tryd.underlying63) [(0, 1), (1, 1)] := ⟨by kernel_rfl⟩
instance Tryd.tfld66_0 : Fld Tryd.prog 66 0 0 3 := ⟨_, _, Tryd.underlying66, rfl, rfl, rfl⟩
instance Tryd.tfld66_1 : Fld Tryd.prog 66 1 1 3 := ⟨_, _, Tryd.underlying66, rfl, rfl, rfl⟩
instance Tryd.tfld66_2 : Fld Tryd.prog 66 2 2 9 := ⟨_, _, Tryd.underlying66, rfl, rfl, rfl⟩
instance Tryd.tfld66_3 : Fld Tryd.prog 66 3 3 3 := ⟨_, _, Tryd.underlying66, rfl, rfl, rfl⟩
instance Tryd.tpl66 : Places Tryd.prog  (fOf Tryd.underlying66) [(0, 1), (1, 1), (2, 1), (3, 1)] := ⟨by kernel_rfl⟩
instance Tryd.tfld67_0 : Fld Tryd.prog 67 0 0 3 := ⟨_, _, Tryd.underlying67, rfl, rfl, rfl⟩
instance Tryd.tfld67_1 : Fld Tryd.prog 67 1 1 3 := ⟨_, _, Tryd.underlying67, rfl, rfl, rfl⟩
instance Tryd.tfld67_2 : Fld Tryd.prog 67 2 2 9 := ⟨_, _, Tryd.underlying67, rfl, rfl, rfl⟩
instance Tryd.tfld67_3 : Fld Tryd.prog 67 3 3 3 := ⟨_, _, Tryd.underlying67, rfl, rfl, rfl⟩
instance Tryd.tpl67 : Places Tryd.prog  (fOf Tryd.underlying67) [(0, 1), (1, 1), (2, 1), (3, 1)] := ⟨by kernel_rfl⟩
instance Tryd.tfld75_0 : Fld Tryd.prog 75 0 0 9 := ⟨_, _, Tryd.underlying75, rfl, rfl, rfl⟩
instance Tryd.tfld75_1 : Fld Tryd.prog 75 1 1 3 := ⟨_, _, Tryd.underlying75, rfl, rfl, rfl⟩
instance Tryd.tfld75_2 : Fld Tryd.prog 75 2 2 3 := ⟨_, _, Tryd.underlying75, rfl, rfl, rfl⟩
instance Tryd.tfld75_3 : Fld Tryd.prog 75 3 3 74 := ⟨_, _, Tryd.underlying75, rfl, rfl, rfl⟩
instance Tryd.tpl75 : Places Tryd.prog  (fOf Tryd.underlying75) [(0, 1), (1, 1), (2, 1), (3, 1)] := ⟨by kernel_rfl⟩
instance Tryd.tfld76_0 : Fld Tryd.prog 76 0 0 9 := ⟨_, _, Tryd.underlying76, rfl, rfl, rfl⟩
instance Tryd.tfld76_1 : Fld Tryd.prog 76 1 1 3 := ⟨_, _, Tryd.underlying76, rfl, rfl, rfl⟩
instance Tryd.tfld76_2 : Fld Tryd.prog 76 2 2 3 := ⟨_, _, Tryd.underlying76, rfl, rfl, rfl⟩
instance Tryd.tfld76_3 : Fld Tryd.prog 76 3 3 74 := ⟨_, _, Tryd.underlying76, rfl, rfl, rfl⟩
instance Tryd.tpl76 : Places Tryd.prog  (fOf Tryd.underlying76) [(0, 1), (1, 1), (2, 1), (3, 1)] := ⟨by kernel_rfl⟩
instance Tryd.tfld88_0 : Fld Tryd.prog 88 0 0 86 := ⟨_, _, Tryd.underlying88, rfl, rfl, rfl⟩
instance Tryd.tfld88_1 : Fld Tryd.prog 88 1 1 87 := ⟨_, _, Tryd.underlying88, rfl, rfl, rfl⟩
instance Tryd.tpl88 : Places Tryd.prog  (fOf Tryd.underlying88) [(0, 1), (1, 1)] := ⟨by kernel_rfl⟩
instance Tryd.tfld89_0 : Fld Tryd.prog 89 0 0 86 := ⟨_, _, Tryd.underlying89, rfl, rfl, rfl⟩
instance Tryd.tfld89_1 : Fld Tryd.prog 89 1 1 87 := ⟨_, _, Tryd.underlying89, rfl, rfl, rfl⟩
instance Tryd.tpl89 : Places Tryd.prog  (fOf Tryd.underlying89) [(0, 1), (1, 1)] := ⟨by kernel_rfl⟩
instance Tryd.tfld90_0 : Fld Tryd.prog 90 0 0 89 := ⟨_, _, Tryd.underlying90, rfl, rfl, rfl⟩
instance Tryd.tpl90 : Places Tryd.prog  (fOf Tryd.underlying90) [(0, 2)] := ⟨by kernel_rfl⟩
instance Tryd.tfld91_0 : Fld Tryd.prog 91 0 0 89 := ⟨_, _, Tryd.underlying91, rfl, rfl, rfl⟩
instance Tryd.tpl91 : Places Tryd.prog  (fOf Tryd.underlying91) [(0, 2)] := ⟨by kernel_rfl⟩
instance Tryd.tfld146_0 : Fld Tryd.prog 146 0 0 17 := ⟨_, _, Tryd.underlying146, rfl, rfl, rfl⟩
instance Tryd.tfld146_1 : Fld Tryd.prog 146 1 1 17 := ⟨_, _, Tryd.underlying146, rfl, rfl, rfl⟩
instance Tryd.tfld146_2 : Fld Tryd.prog 146 2 2 17 := ⟨_, _, Tryd.underlying146, rfl, rfl, rfl⟩
instance Tryd.tfld146_3 : Fld Tryd.prog 146 3 3 9 := ⟨_, _, Tryd.underlying146, rfl, rfl, rfl⟩
instance Tryd.tpl146 : Places Tryd.prog  (fOf Tryd.underlying146) [(0, 1), (1, 1), (2, 1), (3, 1)] := ⟨by kernel_rfl⟩
instance Tryd.tfld147_0 : Fld Tryd.prog 147 0 0 17 := ⟨_, _, Tryd.underlying147, rfl, rfl, rfl⟩
instance Tryd.tfld147_1 : Fld Tryd.prog 147 1 1 17 := ⟨_, _, Tryd.underlying147, rfl, rfl, rfl⟩
instance Tryd.tfld147_2 : Fld Tryd.prog 147 2 2 17 := ⟨_, _, Tryd.underlying147, rfl, rfl, rfl⟩
instance Tryd.tfld147_3 : Fld Tryd.prog 147 3 3 9 := ⟨_, _, Tryd.underlying147, rfl, rfl, rfl⟩
instance Tryd.tpl147 : Places Tryd.prog  (fOf Tryd.underlying147) [(0, 1), (1, 1), (2, 1), (3, 1)] := ⟨by kernel_rfl⟩
instance Tryd.tfld149_0 : Fld Tryd.prog 149 0 0 148 := ⟨_, _, Tryd.underlying149, rfl, rfl, rfl⟩
instance Tryd.tpl149 : Places Tryd.prog  (fOf Tryd.underlying149) [(0, 0)] := ⟨by kernel_rfl⟩
instance Tryd.tfld150_0 : Fld Tryd.prog 150 0 0 148 := ⟨_, _, Tryd.underlying150, rfl, rfl, rfl⟩
instance Tryd.tpl150 : Places Tryd.prog  (fOf Tryd.underlying150) [(0, 0)] := ⟨by kernel_rfl⟩
instance Tryd.tfld157_0 : Fld Tryd.prog 157 0 0 12 := ⟨_, _, Tryd.underlying157, rfl, rfl, rfl⟩
instance Tryd.tfld157_1 : Fld Tryd.prog 157 1 1 12 := ⟨_, _, Tryd.underlying157, rfl, rfl, rfl⟩
instance Tryd.tfld157_2 : Fld Tryd.prog 157 2 2 138 := ⟨_, _, Tryd.underlying157, rfl, rfl, rfl⟩
instance Tryd.tfld157_3 : Fld Tryd.prog 157 3 3 152 := ⟨_, _, Tryd.underlying157, rfl, rfl, rfl⟩
instance Tryd.tfld157_4 : Fld Tryd.prog 157 4 4 5 := ⟨_, _, Tryd.underlying157, rfl, rfl, rfl⟩
instance Tryd.tfld157_5 : Fld Tryd.prog 157 5 5 5 := ⟨_, _, Tryd.underlying157, rfl, rfl, rfl⟩
instance Tryd.tfld157_6 : Fld Tryd.prog 157 6 6 153 := ⟨_, _, Tryd.underlying157, rfl, rfl, rfl⟩
instance Tryd.tfld157_7 : Fld Tryd.prog 157 7 7 154 := ⟨_, _, Tryd.underlying157, rfl, rfl, rfl⟩
instance Tryd.tfld157_8 : Fld Tryd.prog 157 8 8 110 := ⟨_, _, Tryd.underlying157, rfl, rfl, rfl⟩
instance Tryd.tfld157_9 : Fld Tryd.prog 157 9 9 155 := ⟨_, _, Tryd.underlying157, rfl, rfl, rfl⟩
instance Tryd.tfld157_10 : Fld Tryd.prog 157 10 10 156 := ⟨_, _, Tryd.underlying157, rfl, rfl, rfl⟩
instance Tryd.tpl157 : Places Tryd.prog  (fOf Tryd.underlying157) [(0, 1), (1, 1), (2, 1), (3, 1), (4, 1), (5, 1), (6, 1), (7, 1), (8, 1), (9, 1), (10, 1)] := ⟨by kernel_rfl⟩
instance Tryd.tfld158_0 : Fld Tryd.prog 158 0 0 12 := ⟨_, _, Tryd.underlying158, rfl, rfl, rfl⟩
instance Tryd.tfld158_1 : Fld Tryd.prog 158 1 1 12 := ⟨_, _, Tryd.underlying158, rfl, rfl, rfl⟩
instance Tryd.tfld158_2 : Fld Tryd.prog 158 2 2 138 := ⟨_, _, Tryd.underlying158, rfl, rfl, rfl⟩
instance Tryd.tfld158_3 : Fld Tryd.prog 158 3 3 152 := ⟨_, _, Tryd.underlying158, rfl, rfl, rfl⟩
instance Tryd.tfld158_4 : Fld Tryd.prog 158 4 4 5 := ⟨_, _, Tryd.underlying158, rfl, rfl, rfl⟩
instance Tryd.tfld158_5 : Fld Tryd.prog 158 5 5 5 := ⟨_, _, Tryd.underlying158, rfl, rfl, rfl⟩
instance Tryd.tfld158_6 : Fld Tryd.prog 158 6 6 153 := ⟨_, _, Tryd.underlying158, rfl, rfl, rfl⟩
instance Tryd.tfld158_7 : Fld Tryd.prog 158 7 7 154 := ⟨_, _, Tryd.underlying158, rfl, rfl, rfl⟩
instance Tryd.tfld158_8 : Fld Tryd.prog 158 8 8 110 := ⟨_, _, Tryd.underlying158, rfl, rfl, rfl⟩
instance Tryd.tfld158_9 : Fld Tryd.prog 158 9 9 155 := ⟨_, _, Tryd.underlying158, rfl, rfl, rfl⟩
instance Tryd.tfld158_10 : Fld Tryd.prog 158 10 10 156 := ⟨_, _, Tryd.underlying158, rfl, rfl, rfl⟩
instance Tryd.tpl158 : Places Tryd.prog  (fOf Tryd.underlying158) [(0, 1), (1, 1), (2, 1), (3, 1), (4, 1), (5, 1), (6, 1), (7, 1), (8, 1), (9, 1), (10, 1)] := ⟨by kernel_rfl⟩
instance Tryd.gofun3 : GoFun Tryd.prog 3 := ⟨_, Tryd.func3, by kernel_rfl, by kernel_rfl⟩
instance Tryd.gofun4 : GoFun Tryd.prog 4 := ⟨_, Tryd.func4, by kernel_rfl, by kernel_rfl⟩
instance Tryd.gofun5 : GoFun Tryd.prog 5 := ⟨_, Tryd.func5, by kernel_rfl, by kernel_rfl⟩
instance Tryd.gofun6 : GoFun Tryd.prog 6 := ⟨_, Tryd.func6, by kernel_rfl, by kernel_rfl⟩
instance Tryd.gofun7 : GoFun Tryd.prog 7 := ⟨_, Tryd.func7, by kernel_rfl, by kernel_rfl⟩
instance Tryd.gofun8 : GoFun Tryd.prog 8 := ⟨_, Tryd.func8, by kernel_rfl, by kernel_rfl⟩
instance Tryd.gofun9 : GoFun Tryd.prog 9 := ⟨_, Tryd.func9, by kernel_rfl, by kernel_rfl⟩
instance Tryd.gofun10 : GoFun Tryd.prog 10 := ⟨_, Tryd.func10, by kernel_rfl, by kernel_rfl⟩
instance Tryd.gofun11 : GoFun Tryd.prog 11 := ⟨_, Tryd.func11, by kernel_rfl, by kernel_rfl⟩
instance Tryd.gofun12 : GoFun Tryd.prog 12 := ⟨_, Tryd.func12, by kernel_rfl, by kernel_rfl⟩
instance Tryd.gofun13 : GoFun Tryd.prog 13 := ⟨_, Tryd.func13, by kernel_rfl, by kernel_rfl⟩
instance Tryd.gofun14 : GoFun Tryd.prog 14 := ⟨_, Tryd.func14, by kernel_rfl, by kernel_rfl⟩
instance Tryd.gofun15 : GoFun Tryd.prog 15 := ⟨_, Tryd.func15, by kernel_rfl, by kernel_rfl⟩
instance Tryd.gofun16 : GoFun Tryd.prog 16 := ⟨_, Tryd.func16, by kernel_rfl, by kernel_rfl⟩
instance Tryd.gofun17 : GoFun Tryd.prog 17 := ⟨_, Tryd.func17, by kernel_rfl, by kernel_rfl⟩
instance Tryd.gofun18 : GoFun Tryd.prog 18 := ⟨_, Tryd.func18, by kernel_rfl, by kernel_rfl⟩
instance Tryd.gofun19 : GoFun Tryd.prog 19 := ⟨_, Tryd.func19, by kernel_rfl, by kernel_rfl⟩
instance Tryd.gofun20 : GoFun Tryd.prog 20 := ⟨_, Tryd.func20, by kernel_rfl, by kernel_rfl⟩
instance Tryd.gofun21 : GoFun Tryd.prog 21 := ⟨_, Tryd.func21, by kernel_rfl, by kernel_rfl⟩
instance Tryd.gofun22 : GoFun Tryd.prog 22 := ⟨_, Tryd.func22, by kernel_rfl, by kernel_rfl⟩
instance Tryd.gofun23 : GoFun Tryd.prog 23 := ⟨_, Tryd.func23, by kernel_rfl, by kernel_rfl⟩
instance Tryd.gofun24 : GoFun Tryd.prog 24 := ⟨_, Tryd.func24, by kernel_rfl, by kernel_rfl⟩
instance Tryd.gofun25 : GoFun Tryd.prog 25 := ⟨_, Tryd.func25, by kernel_rfl, by kernel_rfl⟩
instance Tryd.gofun26 : GoFun Tryd.prog 26 := ⟨_, Tryd.func26, by kernel_rfl, by kernel_rfl⟩
instance Tryd.gofun27 : GoFun Tryd.prog 27 := ⟨_, Tryd.func27, by kernel_rfl, by kernel_rfl⟩
instance Tryd.gofun28 : GoFun Tryd.prog 28 := ⟨_, Tryd.func28, by kernel_rfl, by kernel_rfl⟩
instance Tryd.gofun29 : GoFun Tryd.prog 29 := ⟨_, Tryd.func29, by kernel_rfl, by kernel_rfl⟩
instance Tryd.gofun30 : GoFun Tryd.prog 30 := ⟨_, Tryd.func30, by kernel_rfl, by kernel_rfl⟩
instance Tryd.gofun31 : GoFun Tryd.prog 31 := ⟨_, Tryd.func31, by kernel_rfl, by kernel_rfl⟩
instance Tryd.gofun32 : GoFun Tryd.prog 32 := ⟨_, Tryd.func32, by kernel_rfl, by kernel_rfl⟩
instance Tryd.gofun33 : GoFun Tryd.prog 33 := ⟨_, Tryd.func33, by kernel_rfl, by kernel_rfl⟩
instance Tryd.gofun34 : GoFun Tryd.prog 34 := ⟨_, Tryd.func34, by kernel_rfl, by kernel_rfl⟩
instance Tryd.gofun35 : GoFun Tryd.prog 35 := ⟨_, Tryd.func35, by kernel_rfl, by kernel_rfl⟩
instance Tryd.gofun36 : GoFun Tryd.prog 36 := ⟨_, Tryd.func36, by kernel_rfl, by kernel_rfl⟩
instance Tryd.gofun37 : GoFun Tryd.prog 37 := ⟨_, Tryd.func37, by kernel_rfl, by kernel_rfl⟩
instance Tryd.gofun38 : GoFun Tryd.prog 38 := ⟨_, Tryd.func38, by kernel_rfl, by kernel_rfl⟩
instance Tryd.gofun39 : GoFun Tryd.prog 39 := ⟨_, Tryd.func39, by kernel_rfl, by kernel_rfl⟩
instance Tryd.gofun40 : GoFun Tryd.prog 40 := ⟨_, Tryd.func40, by kernel_rfl, by kernel_rfl⟩
instance Tryd.gofun41 : GoFun Tryd.prog 41 := ⟨_, Tryd.func41, by kernel_rfl, by kernel_rfl⟩
instance Tryd.gofun42 : GoFun Tryd.prog 42 := ⟨_, Tryd.func42, by kernel_rfl, by kernel_rfl⟩
instance Tryd.gofun43 : GoFun Tryd.prog 43 := ⟨_, Tryd.func43, by kernel_rfl, by kernel_rfl⟩
instance Tryd.gofun44 : GoFun Tryd.prog 44 := ⟨_, Tryd.func44, by kernel_rfl, by kernel_rfl⟩
instance Tryd.gofun45 : GoFun Tryd.prog 45 := ⟨_, Tryd.func45, by kernel_rfl, by kernel_rfl⟩
instance Tryd.gofun46 : GoFun Tryd.prog 46 := ⟨_, Tryd.func46, by kernel_rfl, by kernel_rfl⟩
instance Tryd.gofun47 : GoFun Tryd.prog 47 := ⟨_, Tryd.func47, by kernel_rfl, by kernel_rfl⟩
instance Tryd.gofun48 : GoFun Tryd.prog 48 := ⟨_, Tryd.func48, by kernel_rfl, by kernel_rfl⟩
instance Tryd.gofun49 : GoFun Tryd.prog 49 := ⟨_, Tryd.func49, by kernel_rfl, by kernel_rfl⟩
instance Tryd.gofun50 : GoFun Tryd.prog 50 := ⟨_, Tryd.func50, by kernel_rfl, by kernel_rfl⟩
instance Tryd.gofun51 : GoFun Tryd.prog 51 := ⟨_, Tryd.func51, by kernel_rfl, by kernel_rfl⟩
instance Tryd.gofun52 : GoFun Tryd.prog 52 := ⟨_, Tryd.func52, by kernel_rfl, by kernel_rfl⟩
instance Tryd.gofun53 : GoFun Tryd.prog 53 := ⟨_, Tryd.func53, by kernel_rfl, by kernel_rfl⟩
instance Tryd.gofun54 : GoFun Tryd.prog 54 := ⟨_, Tryd.func54, by kernel_rfl, by kernel_rfl⟩
instance Tryd.gofun55 : GoFun Tryd.prog 55 := ⟨_, Tryd.func55, by kernel_rfl, by kernel_rfl⟩
instance Tryd.gofun56 : GoFun Tryd.prog 56 := ⟨_, Tryd.func56, by kernel_rfl, by kernel_rfl⟩
instance Tryd.gofun57 : GoFun Tryd.prog 57 := ⟨_, Tryd.func57, by kernel_rfl, by kernel_rfl⟩
instance Tryd.gofun58 : GoFun Tryd.prog 58 := ⟨_, Tryd.func58, by kernel_rfl, by kernel_rfl⟩
instance Tryd.gofun59 : GoFun Tryd.prog 59 := ⟨_, Tryd.func59, by kernel_rfl, by kernel_rfl⟩
instance Tryd.gofun60 : GoFun Tryd.prog 60 := ⟨_, Tryd.func60, by kernel_rfl, by kernel_rfl⟩
instance Tryd.gofun61 : GoFun Tryd.prog 61 := ⟨_, Tryd.func61, by kernel_rfl, by kernel_rfl⟩
instance Tryd.gofun62 : GoFun Tryd.prog 62 := ⟨_, Tryd.func62, by kernel_rfl, by kernel_rfl⟩
instance Tryd.gofun63 : GoFun Tryd.prog 63 := ⟨_, Tryd.func63, by kernel_rfl, by kernel_rfl⟩
instance Tryd.gofun64 : GoFun Tryd.prog 64 := ⟨_, Tryd.func64, by kernel_rfl, by kernel_rfl⟩
instance Tryd.gofun65 : GoFun Tryd.prog 65 := ⟨_, Tryd.func65, by kernel_rfl, by kernel_rfl⟩
instance Tryd.gofun68 : GoFun Tryd.prog 68 := ⟨_, Tryd.func68, by kernel_rfl, by kernel_rfl⟩
instance Tryd.gofun69 : GoFun Tryd.prog 69 := ⟨_, Tryd.func69, by kernel_rfl, by kernel_rfl⟩
instance Tryd.gofun70 : GoFun Tryd.prog 70 := ⟨_, Tryd.func70, by kernel_rfl, by kernel_rfl⟩
instance Tryd.gofun71 : GoFun Tryd.prog 71 := ⟨_, Tryd.func71, by kernel_rfl, by kernel_rfl⟩
instance Tryd.gofun72 : GoFun Tryd.prog 72 := ⟨_, Tryd.func72, by kernel_rfl, by kernel_rfl⟩
instance Tryd.gofun73 : GoFun Tryd.prog 73 := ⟨_, Tryd.func73, by kernel_rfl, by kernel_rfl⟩
instance Tryd.gofun74 : GoFun Tryd.prog 74 := ⟨_, Tryd.func74, by kernel_rfl, by kernel_rfl⟩
instance Tryd.gofun75 : GoFun Tryd.prog 75 := ⟨_, Tryd.func75, by kernel_rfl, by kernel_rfl⟩
instance Tryd.gofun76 : GoFun Tryd.prog 76 := ⟨_, Tryd.func76, by kernel_rfl, by kernel_rfl⟩
instance Tryd.gofun77 : GoFun Tryd.prog 77 := ⟨_, Tryd.func77, by kernel_rfl, by kernel_rfl⟩
instance Tryd.gofun78 : GoFun Tryd.prog 78 := ⟨_, Tryd.func78, by kernel_rfl, by kernel_rfl⟩
instance Tryd.gofun79 : GoFun Tryd.prog 79 := ⟨_, Tryd.func79, by kernel_rfl, by kernel_rfl⟩
instance Tryd.gofun80 : GoFun Tryd.prog 80 := ⟨_, Tryd.func80, by kernel_rfl, by kernel_rfl⟩
instance Tryd.gofun81 : GoFun Tryd.prog 81 := ⟨_, Tryd.func81, by kernel_rfl, by kernel_rfl⟩
instance Tryd.gofun82 : GoFun Tryd.prog 82 := ⟨_, Tryd.func82, by kernel_rfl, by kernel_rfl⟩
instance Tryd.gofun83 : GoFun Tryd.prog 83 := ⟨_, Tryd.func83, by kernel_rfl, by kernel_rfl⟩
instance Tryd.gofun84 : GoFun Tryd.prog 84 := ⟨_, Tryd.func84, by kernel_rfl, by kernel_rfl⟩
instance Tryd.gofun85 : GoFun Tryd.prog 85 := ⟨_, Tryd.func85, by kernel_rfl, by kernel_rfl⟩
instance Tryd.gofun86 : GoFun Tryd.prog 86 := ⟨_, Tryd.func86, by kernel_rfl, by kernel_rfl⟩
instance Tryd.gofun87 : GoFun Tryd.prog 87 := ⟨_, Tryd.func87, by kernel_rfl, by kernel_rfl⟩
instance Tryd.gofun88 : GoFun Tryd.prog 88 := ⟨_, Tryd.func88, by kernel_rfl, by kernel_rfl⟩
instance Tryd.gofun89 : GoFun Tryd.prog 89 := ⟨_, Tryd.func89, by kernel_rfl, by kernel_rfl⟩
instance Tryd.gofun90 : GoFun Tryd.prog 90 := ⟨_, Tryd.func90, by kernel_rfl, by kernel_rfl⟩
end Go.Proofs
/- Small laws of states. No conditions: lemmas only. -/
namespace Go.AM
theorem St.set_inner {st : St} {o2 o3 : Nat} (h : o3 ≠ o2) (a a' b : AObj) : ((st.set o2 a).set o3 b).set o2 a' = (st.set o2 a').set o3 b := by
  rw [St.set_comm (st.set o2 a) h, St.set_set]

theorem St.obj_under {st : St} {o o' : Nat} (h : o' ≠ o) (c d : AObj) : ((st.set o c).set o' d).obj o = some c := (St.obj_set_ne (fun e => h e.symm)).trans (St.obj_set _ _ _)
theorem St.new_ne {st : St} {o o' : Nat} {c : AObj} (h : (st.set o c).obj o' = none) : o' ≠ o := by rintro rfl; rw [St.obj_set] at h; cases h
theorem St.new_old {st : St} {o o' : Nat} {c : AObj} (h : (st.set o c).obj o' = none) : st.obj o' = none := by rwa [St.obj_set_ne (St.new_ne h)] at h

theorem StLe.reTok {st : St} {tk : Nat} (h : st.tok tk = false) (tk' : Nat) : StLe (((st.addTok tk).untok tk).addTok tk') (st.addTok tk') := by
  refine ⟨fun _ _ h => h, fun t ht => ?_, rfl⟩
  simp only [St.addTok, St.untok] at ht ⊢
  by_cases h1 : t = tk'
  · simp [h1]
  · simp only [h1, if_false] at ht ⊢
    by_cases h2 : t = tk
    · subst h2; rw [h] at ht; cases ht
    · simp [h2, ht]
theorem St.tok_of_add {st : St} {tk tk' : Nat} (h : (st.addTok tk).tok tk' = false) : st.tok tk' = false := by
  simp only [St.addTok] at h
  split at h
  · cases h
  · exact h

theorem Le.tri {a a' b b' c c' : AV} (h : Le a a') (k : Le b b') (l : Le c c') : Le (.tuple [a, b, c]) (.tuple [a', b', c']) := by
  refine .tuple _ _ rfl fun i x x' hc hc' => ?_
  match i with
  | 0 => cases hc; cases hc'; exact h
  | 1 => cases hc; cases hc'; exact k
  | 2 => cases hc; cases hc'; exact l
  | i + 3 => cases hc
end Go.AM
/- A constant's bytes: the mark behind the block. No conditions: lemmas only. -/
namespace Go.AM
open Go.RowKit (Below)
variable {P : Program} {n : Nat} {K : Post} {E : EPost} {T : Tmps} {st : St} {ops : Array Oper} {rest : List Oper}
variable {d : Tmp} {dd : Option Tmp} {x y z : Operand} {ty : TypeId} {pos : String} {es : Array Edge} {gd : Option (Nat × Bool)}

theorem freeze_other (w : World) (b off n k : Nat) (h : k ≠ b) : (w.freeze ⟨b, off, none⟩ n).heap[k]? = w.heap[k]? := by
  unfold World.freeze
  split
  · rfl
  · simp only [Array.getElem?_modify]
    rw [if_neg (fun e => h e.symm)]

theorem freeze_same {w : World} {b off n : Nat} {cur : Array Value} {e : TypeId} {fr : Nat × Nat} (hb : w.heap[b]? = some (.cells cur e fr)) : ∃ fr', (w.freeze ⟨b, off, none⟩ n).heap[b]? = some (.cells cur e fr') := by
  unfold World.freeze
  split
  · exact ⟨fr, hb⟩
  · obtain ⟨lo, hi⟩ := fr
    simp only [Array.getElem?_modify, if_true, hb, Option.map_some]
    exact ⟨_, rfl⟩

theorem freeze_size (w : World) (b off n : Nat) : (w.freeze ⟨b, off, none⟩ n).heap.size = w.heap.size := by
  unfold World.freeze
  split
  · rfl
  · simp

theorem freeze_rest (w : World) (b off n : Nat) : (w.freeze ⟨b, off, none⟩ n).os = w.os ∧ (w.freeze ⟨b, off, none⟩ n).tape = w.tape ∧ (w.freeze ⟨b, off, none⟩ n).output = w.output := by
  unfold World.freeze
  split <;> exact ⟨rfl, rfl, rfl⟩

/-- A block that is neither an object nor a token's gets its mark. -/
theorem Sim.mark {g : G} {w : World} (hs : Sim g w st) (b off n : Nat) (cur : Array Value) (e : TypeId) (fr : Nat × Nat) (hb : w.heap[b]? = some (.cells cur e fr)) (hbase : g.base ≤ b)
    (htoks : ∀ t b' r, st.tok t = true → g.tok t = some (some b', r) → b' ≠ b) (hobjs : ∀ o c b' m, st.obj o = some c → g.obj o = some (b', m) → b' ≠ b) : Ext g w g (w.freeze ⟨b, off, none⟩ n) ∧ Sim g (w.freeze ⟨b, off, none⟩ n) st := by
  have hoth : ∀ k, k ≠ b → (w.freeze ⟨b, off, none⟩ n).heap[k]? = w.heap[k]? := fun k hk => freeze_other w b off n k hk
  obtain ⟨fr', hb'⟩ := freeze_same (off := off) (n := n) hb
  have hsz := freeze_size w b off n
  obtain ⟨f1, f2, f3⟩ := freeze_rest w b off n
  have he : Ext g w g (w.freeze ⟨b, off, none⟩ n) := by
    refine ⟨rfl, Nat.le_refl _, fun _ _ h => h, fun b' i h => ?_, fun _ _ h => h, fun _ _ h => h, ⟨f1, f2, f3, by omega, fun j hj => hoth j (by omega)⟩⟩
    by_cases hbb : b' = b
    · subst hbb
      rw [cell_of_row _ b' i cur e fr' hb', cell_of_row w b' i cur e fr hb]
    · exact World.cell?_of_block (w := w) (hoth b' hbb)
  refine ⟨he, by rw [hsz]; exact hs.base, fun o c hc => ?_, hs.inj, fun t ht => ?_, hs.tobj, hs.tinj, fun b i h => by rw [hsz]; exact hs.immlt b i h, fun o b m h => by rw [hsz]; exact hs.objlt o b m h, fun t b r h => by rw [hsz]; exact hs.toklt t b r h, hs.fresh, fun gi row h => (hs.globs gi row h).ext he⟩
  · obtain ⟨b', m, h1, h2, h3, h4⟩ := hs.objs o c hc
    exact ⟨b', m, h1, h2, h3.mono he (hoth b' (hobjs o c b' m hc h1)), h4⟩
  · obtain ⟨⟨b', len, cap, e', size⟩, h1, h2⟩ := hs.toks t ht
    refine ⟨_, h1, ?_⟩
    cases b' with
    | none => exact h2
    | some b' =>
      obtain ⟨a1, a2, a3, a4, ⟨cur', a5, a6⟩, a7⟩ := h2
      exact ⟨a1, a2, a3, a4, ⟨cur', (hoth b' (htoks t b' _ ht h1)).trans a5, a6⟩, a7⟩

end Go.AM
/- Regions that draw their order, every operation keeping an invariant of the state. No conditions: definitions and lemmas only. -/
namespace Go.AM
open Go.RowKit (Below)

section
variable {P : Program} {n : Nat} {K : Post} {E : EPost} {T : Tmps} {st : St}

/-- From every state of the invariant to one of it, the outcome as told. -/
def EffI (P : Program) (n : Nat) (I : St → Prop) (T : Tmps) (o : Oper) (Q : AV → Prop) : Prop :=
  ∀ st g w a (K' : Act → World → Prop) (Q' : Exit → Act → World → Prop), I st → Sim g w st → Known g w T a → a.tmps.size = n →
    (∀ rv g' w' v st1, Ext g w g' w' → Sim g' w' st1 → R g' w' v rv → Q v → I st1 → K' (a.put o.dst rv) w') → o.wp P a w K' Q'

def StepI (P : Program) (n : Nat) (I : St → Prop) (ops : Array Oper) (T : Tmps) (o : Oper) (Q : AV → Prop) : Prop :=
  (wantedA ops T o = some true ∧ EffI P n I T o Q) ∨ (wantedA ops T o = some false ∧ Q (.lit undef))

/-- The walk in the text's order; behind it k. -/
def DRunI (P : Program) (n : Nat) (I : St → Prop) (ops : Array Oper) : List Oper → List (AV → Prop) → Tmps → (Tmps → St → Prop) → Prop
  | [], [], T, k => ∀ st, I st → k T st
  | o :: r, Q :: Qs, T, k => ∃ d, o.dst = some d ∧ Nat.blt d n = true ∧ (∃ u, Q u) ∧ StepI P n I ops (see ops o T) o Q ∧ ∀ u, Q u → DRunI P n I ops r Qs ((d, u) :: T) k
  | _, _, _, _ => False

/-- The entries of the first i operations. -/
def ents (l : List Oper) (us : Nat → AV) : Nat → Tmps
  | 0 => []
  | i + 1 => match (l[i]?).bind (·.dst) with
    | some d => (d, us i) :: ents l us i
    | none => ents l us i

theorem DRunI.out {I : St → Prop} {ops : Array Oper} {k : Tmps → St → Prop} (us : Nat → AV) (l : List Oper) : ∀ (r : List Oper) (Qs : List (AV → Prop)) (i0 : Nat), (∀ (i : Nat) (o : Oper), r[i]? = some o → l[i0 + i]? = some o) → (∀ (i : Nat) (Q : AV → Prop), Qs[i]? = some Q → Q (us (i0 + i))) →
    DRunI P n I ops r Qs (ents l us i0 ++ T) k → Qs.length = r.length ∧ (∀ st, I st → k (ents l us (i0 + r.length) ++ T) st) ∧
      ∀ i o, r[i]? = some o → ∃ d Q, o.dst = some d ∧ d < n ∧ Qs[i]? = some Q ∧ StepI P n I ops (see ops o (ents l us (i0 + i) ++ T)) o Q
  | [], [], i0, _, _, h => ⟨rfl, h, fun i o ho => by simp at ho⟩
  | [], _ :: _, _, _, _, h => h.elim
  | _ :: _, [], _, _, _, h => h.elim
  | o :: r, Q :: Qs, i0, hl, hq, h => by
    obtain ⟨d, h1, h2, _, h4, h5⟩ := h
    have h6 := h5 (us i0) (hq 0 Q rfl)
    have hl0 : l[i0]? = some o := by simpa using hl 0 o rfl
    have he : (d, us i0) :: (ents l us i0 ++ T) = ents l us (i0 + 1) ++ T := by
      rw [ents, hl0]
      simp only [Option.bind_some, h1, List.cons_append]
    rw [he] at h6
    obtain ⟨a1, a2, a3⟩ := DRunI.out us l r Qs (i0 + 1) (fun i o' ho' => by have := hl (i + 1) o' (by simpa using ho'); rwa [show i0 + (i + 1) = i0 + 1 + i by omega] at this) (fun i Q' hQ' => by have := hq (i + 1) Q' (by simpa using hQ'); rwa [show i0 + (i + 1) = i0 + 1 + i by omega] at this) h6
    refine ⟨by simp [a1], by rw [List.length_cons, show i0 + (r.length + 1) = i0 + 1 + r.length by omega]; exact a2, fun i o' ho' => ?_⟩
    cases i with
    | zero =>
      simp only [List.getElem?_cons_zero, Option.some.injEq] at ho'
      subst ho'
      exact ⟨d, Q, h1, by simpa using h2, rfl, h4⟩
    | succ i =>
      obtain ⟨d', Q', b1, b2, b3, b4⟩ := a3 i o' (by simpa using ho')
      exact ⟨d', Q', b1, b2, by simpa using b3, by rwa [show i0 + 1 + i = i0 + (i + 1) by omega] at b4⟩

/-- Values that fit, for all numbers. -/
theorem DRunI.fits {I : St → Prop} {ops : Array Oper} {k : Tmps → St → Prop} : ∀ (r : List Oper) (Qs : List (AV → Prop)) (T : Tmps), DRunI P n I ops r Qs T k → ∀ (i : Nat) (Q : AV → Prop), Qs[i]? = some Q → ∃ u, Q u
  | [], [], _, _, i, Q, h => by simp at h
  | [], _ :: _, _, h, _, _, _ => h.elim
  | _ :: _, [], _, h, _, _, _ => h.elim
  | o :: r, Q0 :: Qs, T, h, i, Q, hq => by
    obtain ⟨d, h1, h2, ⟨u, hu⟩, h4, h5⟩ := h
    cases i with
    | zero => simp at hq; subst hq; exact ⟨u, hu⟩
    | succ i => exact DRunI.fits r Qs _ (h5 u hu) i Q (by simpa using hq)

/-- An entry of ents, told by its number. -/
theorem ents_get {l : List Oper} {us : Nat → AV} : ∀ (i : Nat) (t : Nat) (v : AV), Tmps.get (ents l us i) t = some v → ∃ j, j < i ∧ (l[j]?).bind (·.dst) = some t ∧ v = us j
  | 0, t, v, h => by cases h
  | i + 1, t, v, h => by
    unfold ents at h
    cases hd : (l[i]?).bind (·.dst) with
    | none =>
      rw [hd] at h
      obtain ⟨j, h1, h2, h3⟩ := ents_get i t v h
      exact ⟨j, by omega, h2, h3⟩
    | some d =>
      rw [hd] at h
      simp only at h
      rw [Tmps.get_cons] at h
      by_cases hdt : d = t
      · rw [if_pos hdt] at h
        cases h
        exact ⟨i, by omega, by rw [hd, hdt], rfl⟩
      · rw [if_neg hdt] at h
        obtain ⟨j, h1, h2, h3⟩ := ents_get i t v h
        exact ⟨j, by omega, h2, h3⟩

theorem ents_none {l : List Oper} {us : Nat → AV} : ∀ (i : Nat) (t : Nat), Tmps.get (ents l us i) t = none → ∀ j, j < i → (l[j]?).bind (·.dst) ≠ some t
  | 0, t, _, j, h => by omega
  | i + 1, t, h, j, hj => by
    unfold ents at h
    cases hd : (l[i]?).bind (·.dst) with
    | none =>
      rw [hd] at h
      rcases Nat.lt_or_ge j i with h1 | h1
      · exact ents_none i t h j h1
      · have : j = i := by omega
        subst this
        rw [hd]
        simp
    | some d =>
      rw [hd] at h
      simp only at h
      rw [Tmps.get_cons] at h
      by_cases hdt : d = t
      · rw [if_pos hdt] at h; cases h
      · rw [if_neg hdt] at h
        rcases Nat.lt_or_ge j i with h1 | h1
        · exact ents_none i t h j h1
        · have : j = i := by omega
          subst this
          rw [hd]
          simpa using hdt

end
end Go.AM
/- Shifts, function values that capture, copies, slices of arrays. No conditions: lemmas only. -/
namespace Go.AM
open Go.RowKit (Below)
section
variable {P : Program} {n : Nat} {K : Post} {E : EPost} {T : Tmps} {st : St} {ops : Array Oper} {rest : List Oper}
variable {ty : TypeId} {pos : String} {es : Array Edge} {gd : Option (Nat × Bool)} {d : Tmp} {x y : Operand} {dd : Option Tmp}
/-- A call of a function value that captures. -/
theorem AOps.callC {d : Option Tmp} {f : FuncId} [hf : GoFun P f] {args : Array Operand} {tys : Array TypeId} {avs ds : List AV} {Rt RP : AV → St → Prop} (hx : ev st T x = some (.func (.func f) [] ds))
    (hw : wantedA ops T ⟨d, .call ⟨.value x, args, tys⟩, ty, pos, es, gd⟩ = some true) (hd : dstOk d n = true) (ha : evs st T args.toList = some avs)
    (hc : ACalls P f (avs ++ ds) st Rt RP) (h : ∀ v st', Rt v st' → AOps P n ops rest K E (T.put d v) st') (hp : ∀ v st', RP v st' → E (.panic v) T st') :
    AOps P n ops (⟨d, .call ⟨.value x, args, tys⟩, ty, pos, es, gd⟩ :: rest) K E T st := by
  intro g w a hs hk hn
  obtain ⟨hl, hr⟩ := evs_R hs hk _ _ ha
  obtain ⟨fn, h1, h2, h3⟩ := hf.out
  have hxR := ev_R hs hk hx
  generalize hux : a.eval x = ux at hxR
  obtain ⟨us, hux', hlu, hru⟩ : ∃ us : Array Value, ux = .func (.func f) #[] us ∧ ds.length = us.size ∧ ∀ (i : Nat) c v, ds[i]? = some c → us[i]? = some v → R g w c v := by
    cases hxR with
    | func _ _ _ vs us hl1 hl2 _ h' =>
      have e1 : vs = #[] := Array.eq_empty_of_size_eq_zero (by simpa using hl1.symm)
      exact ⟨us, by rw [e1], hl2, h'⟩
  subst hux'
  have hcall := hc g w (args.map a.eval ++ us) hs (by simp [hlu]; simpa using hl) (fun i c v hc hv => by
    rw [List.getElem?_append] at hc
    rw [Array.getElem?_append] at hv
    simp only [Array.size_map] at hv
    simp only [Array.length_toList] at hl
    split at hc
    · rw [if_pos (by omega)] at hv
      exact hr i c v hc (by simpa using hv)
    · rw [if_neg (by omega)] at hv
      exact hru _ c v hc (by rw [hl]; exact hv))
  unfold wpList
  rw [wanted_of hk hw, if_pos rfl]
  left
  have hrun : (execOp a.eval ⟨d, .call ⟨.value x, args, tys⟩, ty, pos, es, gd⟩).run P w = .ok (.enter f (args.map a.eval ++ us)) w := by
    have h2' : ¬ fn.body = none := by intro e; simp [e] at h2
    have h3' : ¬ fn.name = "runtime.NumGoroutine" := by simpa using h3
    simp [execOp, resolve, hux, Deferred.ofValue, invoke, callFunc, h1, h2', h3']
  unfold Oper.wp
  rw [hrun]
  simp only [Oper.upon]
  refine hcall.mono fun e w' ⟨g', st', he, hs', hq⟩ => ?_
  cases e with
  | returned rv =>
    obtain ⟨v, hR, hRt⟩ := hq
    have h4 := h v st' hRt g' w' (a.put d rv) hs' ((hk.ext he).put (fun t ht => hn ▸ dstOk_lt hd t ht) hR) (by rw [Act.size_put]; exact hn)
    rw [Act.defers_put] at h4
    exact wpList_mono (fun _ _ _ q => QOf.ext he q) rest _ _ h4
  | panicked ch =>
    obtain ⟨pv, v, x1, x2, x3⟩ := hq
    exact ⟨hn, rfl, g', T, st', he, hs', hk.ext he, pv, v, x1, x2, hp pv st' x3⟩
  | outgrown => exact hq.elim
end
end Go.AM
/- Contracts found by themselves; tests whose outcome is known. No conditions: definitions and lemmas only. -/
namespace Go.AM
open Go.RowKit (Below)
/-- A function that answers X to these arguments and leaves the state alone. -/
class PureFn (P : Program) (f : FuncId) (args : List AV) (X : outParam AV) : Prop where
  out : ∀ st, ACalls P f args st (fun v st' => v = X ∧ st' = st) (fun _ _ => False)
section
variable {P : Program} {n : Nat} {K : Post} {E : EPost} {T : Tmps} {st : St} {ops : Array Oper} {rest : List Oper}
variable {ty : TypeId} {pos : String} {es : Array Edge} {gd : Option (Nat × Bool)} {d : Tmp} {x y : Operand} {dd : Option Tmp}
theorem clp {f : FuncId} [hf : GoFun P f] {args : Array Operand} {tys : Array TypeId} {avs : List AV} {X : AV}
    (hg : goes ops n T ⟨dd, .call ⟨.value (.func f), args, tys⟩, ty, pos, es, gd⟩ = some d) (ha : evs st T args.toList = some avs)
    (hc : PureFn P f avs X) (h : AOps P n ops rest K E ((d, X) :: T) st) :
    AOps P n ops (⟨dd, .call ⟨.value (.func f), args, tys⟩, ty, pos, es, gd⟩ :: rest) K E T st := cle hg ha (hc.out st) h
/-- A value is told in other words. -/
theorem Tmps.tell {v v' : AV} {t : Nat} (ht : T.get t = some v) (he : v = v') (h : AOps P n ops rest K E ((t, v') :: T) st) : AOps P n ops rest K E T st :=
  AOps.weaken (TLe.consE ht he (.refl _)) (.refl _) h
def gtmp (ops : Array Oper) (T : Tmps) (o : Oper) : Option (Nat × Bool) :=
  match o.guard with
  | some (j, _) => match (ops[j]?).bind (·.dst) with
    | some t => match T.get t with
      | some (.bool b) => some (t, b)
      | _ => none
    | none => none
  | none => none
theorem gtmp_some {o : Oper} {t : Nat} {b : Bool} (h : gtmp ops T o = some (t, b)) : T.get t = some (.bool b) := by
  unfold gtmp at h
  split at h
  · split at h
    · split at h
      · simp only [Option.some.injEq, Prod.mk.injEq] at h
        obtain ⟨rfl, rfl⟩ := h
        assumption
      · cases h
    · cases h
  · cases h
/-- The guard's outcome is known. -/
theorem gB {o : Oper} {t : Nat} {b : Bool} (b' : Bool) (h : gtmp ops T o = some (t, b)) (hb : b = b') (k : AOps P n ops (o :: rest) K E ((t, .bool b') :: T) st) : AOps P n ops (o :: rest) K E T st :=
  Tmps.tell (gtmp_some h) (by rw [hb]) k
/-- The test's outcome is known. -/
theorem cT {c : Operand} {x y : Code} {b : Bool} (hc : ev st T c = some (.bool b)) (hb : b = true) (h : AWP P n x K E T st) : AWP P n (.cond c x y) K E T st := by
  subst hb; exact AWP.cond_true hc h
theorem cF {c : Operand} {x y : Code} {b : Bool} (hc : ev st T c = some (.bool b)) (hb : b = false) (h : AWP P n y K E T st) : AWP P n (.cond c x y) K E T st := by
  subst hb; exact AWP.cond_false hc h
/-- A store into an object of one row. -/
theorem so1 {t : TypeId} {sz by_ : Nat} {zz : Value} [hi : Inf P t sz by_ zz] {o s : Nat} {off : Nat} {row row' : List AV} {v : AV} {oty : TypeId}
    (hw : wantedA ops T ⟨none, .store t x y, ty, pos, es, gd⟩ = some true) (hx : ev (st.set o (.cells oty s [row])) T x = some (.cptr o s 0 off)) (hy : ev (st.set o (.cells oty s [row])) T y = some v)
    (hv : storable v = true) (hsz : Nat.beq v.cells.length sz = true) (hle : off + v.cells.length ≤ row.length) (he : rowSet row off v.cells = row')
    (k : AOps P n ops rest K E T (st.set o (.cells oty s [row']))) : AOps P n ops (⟨none, .store t x y, ty, pos, es, gd⟩ :: rest) K E T (st.set o (.cells oty s [row])) := by
  refine so hw hx hy (St.obj_set _ _ _) rfl hv hsz (Nat.ble_eq_true_of_le hle) rfl ?_
  rw [St.set_set, ← he] at *
  exact k
/-- The whole variable, below another one. -/
theorem soU {t : TypeId} {sz by_ : Nat} {zz : Value} [hi : Inf P t sz by_ zz] {o o2 s : Nat} {row : List AV} {v : AV} {oty : TypeId} {c2 : AObj}
    (hw : wantedA ops T ⟨none, .store t x y, ty, pos, es, gd⟩ = some true) (hne : o2 ≠ o) (hx : ev ((st.set o (.cells oty s [row])).set o2 c2) T x = some (.cptr o s 0 0)) (hy : ev ((st.set o (.cells oty s [row])).set o2 c2) T y = some v)
    (hv : storable v = true) (hsz : Nat.beq v.cells.length sz = true) (hle : Nat.beq v.cells.length row.length = true)
    (k : AOps P n ops rest K E T ((st.set o (.cells oty s [v.cells])).set o2 c2)) : AOps P n ops (⟨none, .store t x y, ty, pos, es, gd⟩ :: rest) K E T ((st.set o (.cells oty s [row])).set o2 c2) := by
  have hl : v.cells.length = row.length := Nat.eq_of_beq_eq_true hle
  refine so hw hx hy (St.obj_under hne _ _) rfl hv hsz (Nat.ble_eq_true_of_le (by omega)) rfl ?_
  rw [St.set_inner hne]
  simp only [List.set_cons_zero]
  rw [rowSet_all hl]
  exact k
end
end Go.AM
