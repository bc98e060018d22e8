/- The abstract state, its relation to a world, the abstract triple over the model's wp, and its rules for control. No conditions: definitions and lemmas only. -/
import Derived.Test.YtmpifmapdmhgkaaDoorAM1
namespace Go.AM
open Go.RowKit (Below)

inductive AObj where
  | cells (ty : TypeId) (sz : Nat) (rows : List (List AV))
  | iter (s : List UInt8) (pos : Nat)
  | smap (es : List (List UInt8 × AV))

structure St where
  obj : Nat → Option AObj
  tok : Nat → Bool
  glob : List (Nat × List AV)

def St.set (st : St) (o : Nat) (c : AObj) : St := { st with obj := fun p => if p = o then some c else st.obj p }
def St.drop (st : St) (o : Nat) : St := { st with obj := fun p => if p = o then none else st.obj p }
def St.untok (st : St) (t : Nat) : St := { st with tok := fun p => if p = t then false else st.tok p }
def St.addTok (st : St) (t : Nat) : St := { st with tok := fun p => if p = t then true else st.tok p }

def ObjAt (g : G) (w : World) (b m : Nat) : AObj → Prop
  | .cells ty sz rows => ∃ arr, w.heap[b]? = some (.cells arr ty (0, 0)) ∧ arr.size = m ∧ rows.length * sz ≤ m ∧ (∀ row ∈ rows, row.length = sz) ∧ (∀ row ∈ rows, ∀ c ∈ row, c.one = true) ∧
      ∀ (i j : Nat) row c, rows[i]? = some row → row[j]? = some c → ∃ v, arr[i * sz + j]? = some v ∧ R g w c v
  | .iter s pos => w.heap[b]? = some (.stringIter ⟨⟨s⟩⟩ pos)
  | .smap es => ∃ (ents : Array MapEntry) (clock : Nat), w.heap[b]? = some (.map ents clock) ∧ ents.size = es.length ∧ (∀ (i : Nat) e, ents[i]? = some e → e.born < clock) ∧
      ∀ (i : Nat) e k a, ents[i]? = some e → es[i]? = some (k, a) → e.key = .string ⟨⟨k⟩⟩ ∧ R g w a e.val

def TokHeld (g : G) (w : World) : Option Nat × Nat × Nat × TypeId × Nat → Prop
  | (some b, len, cap, e, size) => g.base ≤ b ∧ 0 < size ∧ len ≤ cap ∧ cap ≤ maxLen ∧ (∃ cur, w.heap[b]? = some (.cells cur e (0, 0)) ∧ cur.size = cap * size) ∧ (∀ i, len * size ≤ i → ¬ g.imm b i)
  | (none, len, cap, _, _) => len = 0 ∧ cap = 0

structure Sim (g : G) (w : World) (st : St) : Prop where
  base : g.base ≤ w.heap.size
  objs : ∀ o c, st.obj o = some c → ∃ b m, g.obj o = some (b, m) ∧ g.base ≤ b ∧ ObjAt g w b m c ∧ ∀ i, ¬ g.imm b i
  inj : ∀ o o' c c' b m m', st.obj o = some c → st.obj o' = some c' → g.obj o = some (b, m) → g.obj o' = some (b, m') → o = o'
  toks : ∀ t, st.tok t = true → ∃ r, g.tok t = some r ∧ TokHeld g w r
  tobj : ∀ t o c b r m, st.tok t = true → st.obj o = some c → g.tok t = some (some b, r) → g.obj o ≠ some (b, m)
  tinj : ∀ t t' b r r', st.tok t = true → st.tok t' = true → g.tok t = some (some b, r) → g.tok t' = some (some b, r') → t = t'
  immlt : ∀ b i, g.imm b i → b < w.heap.size
  objlt : ∀ o b m, g.obj o = some (b, m) → b < w.heap.size
  toklt : ∀ t b r, g.tok t = some (some b, r) → b < w.heap.size
  fresh : ∀ n, g.next ≤ n → g.obj n = none ∧ g.tok n = none
  globs : ∀ gi row, (gi, row) ∈ st.glob → R g w (.eptr row.length [row] 0 0) (.pointer (some ⟨gi, 0, none⟩))

theorem Sim.tokOf {g : G} {w : World} {st : St} (h : Sim g w st) {t : Nat} {r} (ht : st.tok t = true) (hr : g.tok t = some r) : TokHeld g w r := by
  obtain ⟨r', h1, h2⟩ := h.toks t ht
  rw [hr] at h1
  cases h1
  exact h2

theorem Sim.objOf {g : G} {w : World} {st : St} (h : Sim g w st) {o : Nat} {c : AObj} {b m : Nat} (hc : st.obj o = some c) (hb : g.obj o = some (b, m)) : g.base ≤ b ∧ ObjAt g w b m c ∧ ∀ i, ¬ g.imm b i := by
  obtain ⟨b', m', h1, h2⟩ := h.objs o c hc
  rw [hb] at h1
  cases h1
  exact h2

theorem Sim.st_lt {g : G} {w : World} {st : St} (h : Sim g w st) {o : Nat} {c : AObj} (hc : st.obj o = some c) : o < g.next := by
  obtain ⟨b, m, hb, _⟩ := h.objs o c hc
  rcases Nat.lt_or_ge o g.next with h' | h'
  · exact h'
  · rw [(h.fresh o h').1] at hb; cases hb

theorem Sim.tok_lt {g : G} {w : World} {st : St} (h : Sim g w st) {t : Nat} (ht : st.tok t = true) : t < g.next := by
  obtain ⟨r, hr, _⟩ := h.toks t ht
  rcases Nat.lt_or_ge t g.next with h' | h'
  · exact h'
  · rw [(h.fresh t h').2] at hr; cases hr

theorem ObjAt.mono {g g' : G} {w w' : World} {b m : Nat} {c : AObj} (h : ObjAt g w b m c) (e : Ext g w g' w') (hb : w'.heap[b]? = w.heap[b]?) : ObjAt g' w' b m c := by
  cases c with
  | cells ty sz rows =>
    obtain ⟨arr, h1, h2, h2', h3, h4, h5⟩ := h
    exact ⟨arr, hb.trans h1, h2, h2', h3, h4, fun i j row c hr hc => let ⟨v, hv, hR⟩ := h5 i j row c hr hc; ⟨v, hv, hR.ext e⟩⟩
  | iter s pos => exact hb.trans h
  | smap es =>
    obtain ⟨ents, clock, h1, h2, h3, h4⟩ := h
    exact ⟨ents, clock, hb.trans h1, h2, h3, fun i e' k a he hk => ⟨(h4 i e' k a he hk).1, (h4 i e' k a he hk).2.ext e⟩⟩

/-- A state that says less. -/
structure StLe (st st' : St) : Prop where
  obj : ∀ o c, st'.obj o = some c → st.obj o = some c
  tok : ∀ t, st'.tok t = true → st.tok t = true
  glob : st'.glob = st.glob

theorem StLe.refl (st : St) : StLe st st := ⟨fun _ _ h => h, fun _ h => h, rfl⟩
theorem StLe.trans {a b c : St} (h : StLe a b) (k : StLe b c) : StLe a c := ⟨fun o c hc => h.obj o c (k.obj o c hc), fun t ht => h.tok t (k.tok t ht), k.glob.trans h.glob⟩

theorem Sim.le {g : G} {w : World} {st st' : St} (h : Sim g w st) (l : StLe st st') : Sim g w st' where
  base := h.base
  objs := fun o c hc => h.objs o c (l.obj o c hc)
  inj := fun o o' c c' b m m' hc hc' => h.inj o o' c c' b m m' (l.obj _ _ hc) (l.obj _ _ hc')
  toks := fun t ht => h.toks t (l.tok t ht)
  tobj := fun t o c b r m ht hc => h.tobj t o c b r m (l.tok t ht) (l.obj _ _ hc)
  tinj := fun t t' b r r' ht ht' => h.tinj t t' b r r' (l.tok t ht) (l.tok t' ht')
  immlt := h.immlt
  objlt := h.objlt
  toklt := h.toklt
  fresh := h.fresh
  globs := fun gi row hp => h.globs gi row (l.glob ▸ hp)

/-! ### What is known of the temporaries -/

abbrev Tmps := List (Nat × AV)

def Tmps.get : Tmps → Nat → Option AV
  | [], _ => none
  | (j, v) :: r, i => bif Nat.beq j i then some v else Tmps.get r i

def Tmps.put (T : Tmps) (d : Option Tmp) (v : AV) : Tmps :=
  match d with
  | some d => (d, v) :: T
  | none => T

def Known (g : G) (w : World) (T : Tmps) (a : Act) : Prop := ∀ i v, T.get i = some v → ∃ rv, a.tmps[i]? = some rv ∧ R g w v rv

theorem Known.ext {g g' : G} {w w' : World} {T : Tmps} {a : Act} (h : Known g w T a) (e : Ext g w g' w') : Known g' w' T a :=
  fun i v hv => let ⟨rv, h1, h2⟩ := h i v hv; ⟨rv, h1, h2.ext e⟩

theorem nbeq_self (i : Nat) : Nat.beq i i = true := Nat.beq_refl i
theorem nbeq_ne {i j : Nat} (h : i ≠ j) : Nat.beq i j = false := by
  cases h' : Nat.beq i j
  · rfl
  · exact absurd (Nat.eq_of_beq_eq_true h') h

theorem Tmps.get_cons (j : Nat) (v : AV) (r : Tmps) (i : Nat) : Tmps.get ((j, v) :: r) i = if j = i then some v else Tmps.get r i := by
  by_cases h : j = i
  · subst h; simp [Tmps.get]
  · rw [Tmps.get, nbeq_ne h, cond_false, if_neg h]

theorem Known.put {g : G} {w : World} {T : Tmps} {a : Act} (h : Known g w T a) {d : Option Tmp} {v : AV} {rv : Value} (hd : ∀ t, d = some t → t < a.tmps.size) (hR : R g w v rv) : Known g w (T.put d v) (a.put d rv) := by
  cases d with
  | none => exact h
  | some d =>
    intro i u hu
    simp only [Tmps.put, Tmps.get_cons] at hu
    simp only [Act.put, Array.getElem?_setIfInBounds]
    by_cases hi : d = i
    · subst hi
      simp only [↓reduceIte, Option.some.injEq] at hu ⊢
      subst hu
      exact ⟨rv, by simp [hd d rfl], hR⟩
    · simp only [hi, if_false] at hu ⊢
      exact h i u hu

theorem Act.size_put (a : Act) (d : Option Tmp) (v : Value) : (a.put d v).tmps.size = a.tmps.size := by cases d <;> simp [Act.put]
theorem Act.defers_put (a : Act) (d : Option Tmp) (v : Value) : (a.put d v).defers = a.defers := by cases d <;> rfl

/-- T' says no more than T. -/
def TLe (T T' : Tmps) : Prop := ∀ i v', T'.get i = some v' → ∃ v, T.get i = some v ∧ Le v v'

theorem TLe.nil (T : Tmps) : TLe T [] := fun _ _ h => by cases h
theorem TLe.cons {T T' : Tmps} {i : Nat} {v v' : AV} (h : T.get i = some v) (hle : Le v v') (ht : TLe T T') : TLe T ((i, v') :: T') := by
  intro j u hu
  rw [Tmps.get_cons] at hu
  by_cases hi : i = j
  · subst hi; simp at hu; subst hu; exact ⟨v, h, hle⟩
  · rw [if_neg hi] at hu; exact ht j u hu
theorem TLe.cons' {T T' : Tmps} {i : Nat} {v : AV} (h : T.get i = some v) (ht : TLe T T') : TLe T ((i, v) :: T') := TLe.cons h (.refl _) ht
theorem TLe.refl (T : Tmps) : TLe T T := fun _ v h => ⟨v, h, .refl _⟩

theorem Known.le {g : G} {w : World} {T T' : Tmps} {a : Act} (h : Known g w T a) (l : TLe T T') : Known g w T' a := fun i v' hv' =>
  let ⟨v, hv, hle⟩ := l i v' hv'
  let ⟨rv, h1, h2⟩ := h i v hv
  ⟨rv, h1, h2.le hle⟩

/-! ### The abstract triple -/

inductive AExit where
  | exit (id : Nat)
  | ret
  | panic (v : AV)

abbrev Post := Tmps → St → Prop
abbrev EPost := AExit → Tmps → St → Prop

def Leaves (K : Post) (E : EPost) (g : G) (w : World) (T : Tmps) (st : St) : Exit → Prop
  | .normal => K T st
  | .exit id => E (.exit id) T st
  | .ret => E .ret T st
  | .panic ch => ∃ pv v, ch = [{ v := v, recovered := false }] ∧ R g w pv v ∧ E (.panic pv) T st
  | _ => False

def QOf (n : Nat) (ds : List Deferred) (g : G) (w : World) (K : Post) (E : EPost) (e : Exit) (a' : Act) (w' : World) : Prop :=
  a'.tmps.size = n ∧ a'.defers = ds ∧ ∃ g' T' st', Ext g w g' w' ∧ Sim g' w' st' ∧ Known g' w' T' a' ∧ Leaves K E g' w' T' st' e

def AWP (P : Program) (n : Nat) (c : Code) (K : Post) (E : EPost) (T : Tmps) (st : St) : Prop :=
  ∀ g w a, Sim g w st → Known g w T a → a.tmps.size = n → c.wp P (QOf n a.defers g w K E) a w

def AOps (P : Program) (n : Nat) (ops : Array Oper) (rest : List Oper) (K : Post) (E : EPost) (T : Tmps) (st : St) : Prop :=
  ∀ g w a, Sim g w st → Known g w T a → a.tmps.size = n → wpList P ops (QOf n a.defers g w K E) rest a w

theorem QOf.ext {n : Nat} {ds : List Deferred} {g g1 : G} {w w1 : World} {K : Post} {E : EPost} (e1 : Ext g w g1 w1) {e : Exit} {a : Act} {w' : World} (h : QOf n ds g1 w1 K E e a w') : QOf n ds g w K E e a w' := by
  obtain ⟨h1, h2, g', T', st', h3, h4⟩ := h
  exact ⟨h1, h2, g', T', st', e1.trans h3, h4⟩

theorem LetsOut.not_QOf {n : Nat} {ds : List Deferred} {g : G} {w : World} {K : Post} {E : EPost} : ¬ LetsOut (QOf n ds g w K E) := by
  rintro ⟨a, w', _, _, g', T', st', _, _, _, h⟩
  exact h

theorem wpList_mono {P : Program} {ops : Array Oper} {Q Q' : Exit → Act → World → Prop} (hq : ∀ e a w, Q e a w → Q' e a w) : ∀ (rest : List Oper) (a : Act) (w : World), wpList P ops Q rest a w → wpList P ops Q' rest a w
  | [], a, w, h => hq _ _ _ h
  | o :: rest, a, w, h => by
    unfold wpList at h ⊢
    split
    · rename_i hw
      rw [if_pos hw] at h
      refine h.imp (fun h => ?_) (fun ⟨h1, a, w, h2⟩ => ⟨h1, a, w, hq _ _ _ h2⟩)
      unfold Oper.wp at h ⊢
      generalize (execOp a.eval o).run P w = r at h
      cases r with
      | ok x w' =>
        cases x <;> simp only [Oper.upon] at h ⊢
        case enter f args =>
          refine h.mono fun e w'' he => ?_
          cases e with
          | returned v => exact wpList_mono hq rest _ _ he
          | panicked ch => exact hq _ _ _ he
          | outgrown => obtain ⟨a, w, h2⟩ := he; exact ⟨a, w, hq _ _ _ h2⟩
        case row => exact h.mono fun v w'' hv => wpList_mono hq rest _ _ hv
        all_goals exact wpList_mono hq rest _ _ h
      | halt x w' => cases x <;> simp only [Oper.upon] at h ⊢ <;> first | exact hq _ _ _ h | exact h
    · rename_i hw
      rw [if_neg hw] at h
      exact wpList_mono hq rest _ _ h

/-! ### Rules of control -/

section
variable {P : Program} {n : Nat} {K : Post} {E : EPost} {T : Tmps} {st : St}

theorem AWP.mono {c : Code} {K' : Post} {E' : EPost} (h : AWP P n c K E T st) (hk : ∀ T st, K T st → K' T st) (he : ∀ e T st, E e T st → E' e T st) : AWP P n c K' E' T st := by
  intro g w a hs hk' hn
  refine Code.wp_mono (fun e a' w' hq => ?_) (h g w a hs hk' hn)
  obtain ⟨h1, h2, g', T', st', h3, h4, h5, h6⟩ := hq
  refine ⟨h1, h2, g', T', st', h3, h4, h5, ?_⟩
  cases e with
  | normal => exact hk _ _ h6
  | exit id => exact he _ _ _ h6
  | ret => exact he _ _ _ h6
  | panic ch => obtain ⟨pv, v, x1, x2, x3⟩ := h6; exact ⟨pv, v, x1, x2, he _ _ _ x3⟩
  | goto l => exact h6
  | outgrown => exact h6

theorem AWP.weaken {c : Code} {T' : Tmps} {st' : St} (ht : TLe T T') (hst : StLe st st') (h : AWP P n c K E T' st') : AWP P n c K E T st :=
  fun g w a hs hk hn => h g w a (hs.le hst) (hk.le ht) hn

theorem AWP.skip (h : K T st) : AWP P n .skip K E T st := fun g _ _ hs hk hn => wp_skip ⟨hn, rfl, g, T, st, .refl _ _, hs, hk, h⟩
theorem AWP.label {l : Nat} (h : K T st) : AWP P n (.label l) K E T st := fun g _ _ hs hk hn => wp_label ⟨hn, rfl, g, T, st, .refl _ _, hs, hk, h⟩
theorem AWP.exit {id : Nat} (h : E (.exit id) T st) : AWP P n (.exit id) K E T st := fun g _ _ hs hk hn => wp_exit ⟨hn, rfl, g, T, st, .refl _ _, hs, hk, h⟩
theorem AWP.ret (h : E .ret T st) : AWP P n .ret K E T st := fun g _ _ hs hk hn => wp_ret ⟨hn, rfl, g, T, st, .refl _ _, hs, hk, h⟩

theorem AWP.seq {x y : Code} (h : AWP P n x (AWP P n y K E) E T st) : AWP P n (.seq x y) K E T st := by
  intro g w a hs hk hn
  refine wp_seq (Code.wp_mono (fun e a' w' hq => ?_) (h g w a hs hk hn))
  obtain ⟨h1, h2, g', T', st', h3, h4, h5, h6⟩ := hq
  cases e with
  | normal => exact h2 ▸ Code.wp_mono (fun _ _ _ q => QOf.ext h3 q) (h6 g' w' a' h4 h5 h1)
  | exit id => exact ⟨h1, h2, g', T', st', h3, h4, h5, h6⟩
  | ret => exact ⟨h1, h2, g', T', st', h3, h4, h5, h6⟩
  | panic ch => exact ⟨h1, h2, g', T', st', h3, h4, h5, h6⟩
  | goto l => exact h6.elim
  | outgrown => exact h6.elim

/-- Where a block's own exit leads. -/
def blk (id : Nat) (K : Post) (E : EPost) : EPost := fun e T st =>
  match e with
  | .exit i => bif Nat.beq i id then K T st else E e T st
  | _ => E e T st

theorem AWP.block {id : Nat} {c : Code} (h : AWP P n c K (blk id K E) T st) : AWP P n (.block id c) K E T st := by
  intro g w a hs hk hn
  refine wp_block (Code.wp_mono (fun e a' w' hq => ?_) (h g w a hs hk hn))
  obtain ⟨h1, h2, g', T', st', h3, h4, h5, h6⟩ := hq
  cases e with
  | normal => exact ⟨h1, h2, g', T', st', h3, h4, h5, h6⟩
  | exit i =>
    by_cases hi : i = id
    · subst hi
      simp only [Leaves, blk, nbeq_self, cond_true, Exit.inBlock, if_true] at h6 ⊢
      exact ⟨h1, h2, g', T', st', h3, h4, h5, h6⟩
    · have hb : Nat.beq i id = false := nbeq_ne hi
      simp only [Leaves, blk, hb, cond_false, Exit.inBlock, hi, if_false] at h6 ⊢
      exact ⟨h1, h2, g', T', st', h3, h4, h5, h6⟩
  | ret => exact ⟨h1, h2, g', T', st', h3, h4, h5, h6⟩
  | panic ch => exact ⟨h1, h2, g', T', st', h3, h4, h5, h6⟩
  | goto l => exact h6.elim
  | outgrown => exact h6.elim

/-- A loop: at the head of each round the temporaries and the state have the shape of some x for which inv holds; μ falls. -/
theorem AWP.loop {c : Code} {α : Type} (sh : α → Tmps) (ss : α → St) (inv : α → Prop) (μ : α → Nat) (x0 : α) (h0 : inv x0) (hT : TLe T (sh x0)) (hst : StLe st (ss x0))
    (h : ∀ x, inv x → AWP P n c (fun T' st' => ∃ y, inv y ∧ μ y < μ x ∧ TLe T' (sh y) ∧ StLe st' (ss y)) E (sh x) (ss x)) : AWP P n (.loop c) K E T st := by
  intro g w a hs hk hn
  let I : α → Act → World → Prop := fun x a' w' => inv x ∧ a'.tmps.size = n ∧ a'.defers = a.defers ∧ ∃ g', Ext g w g' w' ∧ Sim g' w' (ss x) ∧ Known g' w' (sh x) a'
  have key : ∀ k x a' w', μ x = k → I x a' w' → ∀ (b : Frame) (kk : List Item) (cs : List Frame),
      ∃ e a'' w'', QOf n a.defers g w K E e a'' w'' ∧ Arrives P (lone (b.at a' (.code c :: .inLoop c :: kk)) cs w') b kk cs e a'' w'' := by
    intro k
    induction k using Nat.strongRecOn with
    | _ k ih =>
      intro x a' w' hμ ⟨hi, hn', hd', g', he', hs', hk'⟩ b kk cs
      obtain ⟨e, a₁, w₁, hq, harr⟩ := h x hi g' w' a' hs' hk' hn' b (.inLoop c :: kk) cs
      obtain ⟨h1, h2, g1, T1, st1, h3, h4, h5, h6⟩ := hq
      cases e with
      | normal =>
        obtain ⟨y, hy, hlt, hTy, hsty⟩ := h6
        obtain ⟨e₂, a₂, w₂, hq₂, harr₂⟩ := ih (μ y) (hμ ▸ hlt) y a₁ w₁ rfl ⟨hy, h1, h2.trans hd', g1, he'.trans h3, h4.le hsty, h5.le hTy⟩ b kk cs
        exact ⟨e₂, a₂, w₂, hq₂, .of_steps (Steps.trans harr (.one step_inLoop)) harr₂⟩
      | exit id => exact ⟨.exit id, a₁, w₁, ⟨h1, h2.trans hd', g1, T1, st1, he'.trans h3, h4, h5, h6⟩, .pass (x := .inLoop c) rfl (fun _ _ => .inl (by simp)) harr⟩
      | ret => exact ⟨.ret, a₁, w₁, ⟨h1, h2.trans hd', g1, T1, st1, he'.trans h3, h4, h5, h6⟩, .pass (x := .inLoop c) rfl (fun _ _ => .inl (by simp)) harr⟩
      | panic ch => exact ⟨.panic ch, a₁, w₁, ⟨h1, h2.trans hd', g1, T1, st1, he'.trans h3, h4, h5, h6⟩, .pass (x := .inLoop c) rfl (fun _ _ => .inl (by simp)) harr⟩
      | goto l => exact h6.elim
      | outgrown => exact h6.elim
  intro b kk cs
  obtain ⟨e, a', w', hq, harr⟩ := key _ x0 a w rfl ⟨h0, hn, rfl, g, .refl _ _, hs.le hst, hk.le hT⟩ b kk cs
  exact ⟨e, a', w', hq, .of_steps (.one step_loop) harr⟩

/-- A constant as an abstract value. -/
def abs1 : Value → AV
  | .int k n => .int k n
  | .bool b => .bool b
  | .string s => .str s.data.toList
  | .slice none 0 0 => .view 0 [] .nil
  | v => .lit v

def absV : Value → AV
  | .agg cs => bif cs.all Value.oneCell' then .agg (cs.toList.map abs1) else .lit (.agg cs)
  | v => abs1 v

theorem R_abs1 (g : G) (w : World) (v : Value) : R g w (abs1 v) v := by
  unfold abs1
  split
  · exact .int _ _
  · exact .bool _
  · exact .str _
  · exact .vnil _ _ rfl
  · exact .lit _

theorem one_abs1 (v : Value) (h : v.oneCell' = true) : (abs1 v).one = true := by
  unfold abs1
  split <;> first | rfl | exact h

theorem R_absV (g : G) (w : World) (v : Value) : R g w (absV v) v := by
  unfold absV
  split
  · rename_i cs
    cases h : cs.all Value.oneCell' with
    | false => exact .lit _
    | true =>
      refine .agg _ _ (by simp) ?_ ?_
      · intro c hc
        simp only [List.mem_map] at hc
        obtain ⟨v, hv, rfl⟩ := hc
        exact one_abs1 v (by rw [Array.all_eq_true'] at h; exact h v (by simpa using hv))
      · intro i c v hc hv
        simp only [List.getElem?_map, Array.getElem?_toList, hv, Option.map_some, Option.some.injEq] at hc
        subst hc
        exact R_abs1 g w v
  · exact R_abs1 g w _

def St.row (st : St) (gi : Nat) : Option (List AV) := (st.glob.find? fun p => Nat.beq p.1 gi).map (·.2)

/-- The value of an operand. -/
def ev (st : St) (T : Tmps) : Operand → Option AV
  | .tmp t => T.get t
  | .const v => some (absV v)
  | .global gi => (st.row gi).map fun row => .eptr row.length [row] 0 0
  | .func f => some (.func (.func f) [] [])

theorem ev_R {g : G} {w : World} {a : Act} (hs : Sim g w st) (hk : Known g w T a) {x : Operand} {v : AV} (h : ev st T x = some v) : R g w v (a.eval x) := by
  cases x with
  | tmp t =>
    obtain ⟨rv, h1, h2⟩ := hk t v h
    show R g w v (a.tmps.getD t undef)
    rw [Array.getD_eq_getD_getElem?, h1]
    exact h2
  | const c => simp only [ev, Option.some.injEq] at h; subst h; exact R_absV g w c
  | global gi =>
    simp only [ev, Option.map_eq_some_iff] at h
    obtain ⟨row, h1, rfl⟩ := h
    simp only [St.row, Option.map_eq_some_iff] at h1
    obtain ⟨⟨gi', row'⟩, h2, rfl⟩ := h1
    have hm := List.mem_of_find?_eq_some h2
    have he := List.find?_some h2
    simp at he
    subst he
    exact hs.globs gi' row' hm
  | func f =>
    simp only [ev, Option.some.injEq] at h
    subst h
    exact .func _ _ _ _ _ rfl rfl (fun i c v hc => by simp at hc) (fun i c v hc => by simp at hc)

theorem AWP.cond_true {c : Operand} {x y : Code} (hc : ev st T c = some (.bool true)) (h : AWP P n x K E T st) : AWP P n (.cond c x y) K E T st := by
  intro g w a hs hk hn
  have hv := ev_R hs hk hc
  generalize hx : a.eval c = u at hv
  cases hv
  exact wp_cond_true hx (h g w a hs hk hn)

theorem AWP.cond_false {c : Operand} {x y : Code} (hc : ev st T c = some (.bool false)) (h : AWP P n y K E T st) : AWP P n (.cond c x y) K E T st := by
  intro g w a hs hk hn
  have hv := ev_R hs hk hc
  generalize hx : a.eval c = u at hv
  cases hv
  exact wp_cond_false hx (h g w a hs hk hn)

theorem AWP.cond_dec {c : Operand} {x y : Code} {p : Prop} {_ : Decidable p} (hc : ev st T c = some (.bool (decide p))) (ht : p → AWP P n x K E T st) (hf : ¬ p → AWP P n y K E T st) : AWP P n (.cond c x y) K E T st := by
  by_cases hp : p
  · exact AWP.cond_true (by rw [hc, decide_eq_true hp]) (ht hp)
  · exact AWP.cond_false (by rw [hc, decide_eq_false hp]) (hf hp)

theorem AWP.cond_bool {c : Operand} {x y : Code} {b : Bool} (hc : ev st T c = some (.bool b)) (ht : b = true → AWP P n x K E T st) (hf : b = false → AWP P n y K E T st) : AWP P n (.cond c x y) K E T st := by
  cases b
  · exact AWP.cond_false hc (hf rfl)
  · exact AWP.cond_true hc (ht rfl)

theorem AWP.region {id : Nat} {ops : Array Oper} (h : AOps P n ops ops.toList K E T st) : AWP P n (.region id ops false) K E T st :=
  fun g w a hs hk hn => wp_region_list (h g w a hs hk hn)

theorem AWP.region_lit {id : Nat} {l : List Oper} (h : AOps P n l.toArray l K E T st) : AWP P n (.region id l.toArray false) K E T st :=
  fun g w a hs hk hn => wp_region_lit (h g w a hs hk hn)

/-! ### Operations -/

variable {ops : Array Oper} {o : Oper} {rest : List Oper}

theorem AOps.nil (h : K T st) : AOps P n ops [] K E T st := fun g _ _ hs hk hn => ⟨hn, rfl, g, T, st, .refl _ _, hs, hk, h⟩

theorem AOps.weaken {T' : Tmps} {st' : St} (ht : TLe T T') (hst : StLe st st') (h : AOps P n ops rest K E T' st') : AOps P n ops rest K E T st :=
  fun g w a hs hk hn => h g w a (hs.le hst) (hk.le ht) hn

/-- What a guard says. -/
def wantedA (ops : Array Oper) (T : Tmps) (o : Oper) : Option Bool :=
  match o.guard with
  | none => some true
  | some (j, want) =>
    match (ops[j]?).bind (·.dst) with
    | some t => match T.get t with
      | some (.bool b) => some (b == want)
      | some (.lit (.tuple _)) => some false
      | _ => none
    | none => none

theorem wanted_of {g : G} {w : World} {a : Act} (hk : Known g w T a) {b : Bool} (h : wantedA ops T o = some b) : Region.wanted o (yielded ops a.tmps) = b := by
  unfold wantedA at h
  unfold Region.wanted
  cases hg : o.guard with
  | none => simp [hg] at h ⊢; exact h
  | some jw =>
    obtain ⟨j, want⟩ := jw
    simp only [hg] at h ⊢
    cases hj : (ops[j]?).bind (·.dst) with
    | none => simp [hj] at h
    | some t =>
      simp only [hj] at h
      cases ht : T.get t with
      | none => simp [ht] at h
      | some v =>
        obtain ⟨rv, h1, h2⟩ := hk t _ ht
        cases v <;> simp [ht] at h
        case bool c =>
          cases h2
          simp [yielded, hj, h1, ← h]
        case lit u =>
          cases u <;> simp at h
          cases h2
          simp [yielded, hj, h1, h]

def dstOk (d : Option Tmp) (n : Nat) : Bool := match d with | some t => Nat.blt t n | none => true

theorem dstOk_lt {d : Option Tmp} (h : dstOk d n = true) : ∀ t, d = some t → t < n := by
  rintro t rfl
  simpa [dstOk] using h

/-- An operation whose guard is false. -/
theorem AOps.unwanted (hw : wantedA ops T o = some false) (hd : dstOk o.dst n = true) (h : AOps P n ops rest K E (T.put o.dst (.lit undef)) st) : AOps P n ops (o :: rest) K E T st := by
  intro g w a hs hk hn
  unfold wpList
  rw [wanted_of hk hw, if_neg (by simp)]
  have := h g w (a.put o.dst undef) hs (hk.put (fun t ht => hn ▸ dstOk_lt hd t ht) (.lit _)) (by rw [Act.size_put]; exact hn)
  rwa [Act.defers_put] at this

/-- An operation that yields a value, in whatever way. -/
theorem AOps.step (hw : wantedA ops T o = some true) (hd : dstOk o.dst n = true) (v : AV) (st1 : St)
    (hrun : ∀ g w a, Sim g w st → Known g w T a → ∃ rv g' w', ((execOp a.eval o).run P w = .ok (.value rv) w' ∨ ((execOp a.eval o).run P w = .ok .skip w' ∧ rv = undef)) ∧ Ext g w g' w' ∧ Sim g' w' st1 ∧ R g' w' v rv)
    (h : AOps P n ops rest K E (T.put o.dst v) st1) : AOps P n ops (o :: rest) K E T st := by
  intro g w a hs hk hn
  obtain ⟨rv, g', w', hr, he, hs', hR⟩ := hrun g w a hs hk
  unfold wpList
  rw [wanted_of hk hw, if_pos rfl]
  left
  have h2 := h g' w' (a.put o.dst rv) hs' ((hk.ext he).put (fun t ht => hn ▸ dstOk_lt hd t ht) hR) (by rw [Act.size_put]; exact hn)
  rw [Act.defers_put] at h2
  have h3 := wpList_mono (fun _ _ _ q => QOf.ext he q) rest _ _ h2
  unfold Oper.wp
  rcases hr with hr | ⟨hr, rfl⟩
  · rw [hr]; exact h3
  · rw [hr]; exact h3

/-- An operation that changes nothing and yields a value. -/
theorem AOps.pure (hw : wantedA ops T o = some true) (hd : dstOk o.dst n = true) (v : AV)
    (hrun : ∀ g w a, Sim g w st → Known g w T a → ∃ rv, (execOp a.eval o).run P w = .ok (.value rv) w ∧ R g w v rv)
    (h : AOps P n ops rest K E (T.put o.dst v) st) : AOps P n ops (o :: rest) K E T st :=
  AOps.step hw hd v st (fun g w a hs hk => let ⟨rv, h1, h2⟩ := hrun g w a hs hk; ⟨rv, g, w, .inl h1, .refl _ _, hs, h2⟩) h

/-- Case split on a temporary that holds a test's outcome. -/
theorem AOps.split (t : Nat) {p : Prop} {_ : Decidable p} (hc : T.get t = some (.bool (decide p))) (ht : p → AOps P n ops rest K E ((t, .bool true) :: T) st) (hf : ¬ p → AOps P n ops rest K E ((t, .bool false) :: T) st) : AOps P n ops rest K E T st := by
  have key : ∀ b, T.get t = some (.bool b) → AOps P n ops rest K E ((t, .bool b) :: T) st → AOps P n ops rest K E T st := by
    intro b hb h g w a hs hk hn
    refine h g w a hs (fun i v hv => ?_) hn
    rw [Tmps.get_cons] at hv
    by_cases hi : t = i
    · subst hi; simp at hv; subst hv; exact hk _ _ hb
    · rw [if_neg hi] at hv; exact hk i v hv
  by_cases hp : p
  · exact key true (by rw [hc, decide_eq_true hp]) (ht hp)
  · exact key false (by rw [hc, decide_eq_false hp]) (hf hp)

end
end Go.AM
