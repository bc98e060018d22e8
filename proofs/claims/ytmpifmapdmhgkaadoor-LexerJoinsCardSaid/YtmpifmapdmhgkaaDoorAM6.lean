/- Rules for the operations that make or write memory. No conditions: definitions and lemmas only. -/
import Derived.Test.YtmpifmapdmhgkaaDoorAM5
namespace Go.AM
open Go.RowKit (Below)

/-! ### The world's moves -/

theorem cell_alloc (w : World) (ob : Obj) (b i : Nat) (h : b < w.heap.size) : (w.alloc ob).cell? ⟨b, i, none⟩ = w.cell? ⟨b, i, none⟩ := World.cell?_alloc_lt w ob _ h

/-- A new block that nobody will write again, at the cells that imm says. -/
theorem Sim.newImm {g : G} {w : World} {st : St} (hs : Sim g w st) (ob : Obj) (p : Nat → Prop) :
    ∃ g', Ext g w g' (w.alloc ob) ∧ Sim g' (w.alloc ob) st ∧ (∀ i, g'.imm w.heap.size i ↔ p i) ∧ g'.obj = g.obj ∧ g'.tok = g.tok ∧ g'.next = g.next ∧ g'.base = g.base := by
  let g' : G := { g with imm := fun b i => g.imm b i ∨ (b = w.heap.size ∧ p i) }
  have hne : ∀ b i, g.imm b i → b ≠ w.heap.size := fun b i h e => by have := hs.immlt b i h; omega
  have he : Ext g w g' (w.alloc ob) := ⟨rfl, Nat.le_refl _, fun _ _ h => .inl h, fun b i h => cell_alloc w ob b i (hs.immlt b i h), fun _ _ h => h, fun _ _ h => h, (Below.refl _ _).alloc hs.base ob⟩
  refine ⟨g', he, ?_, fun i => ⟨fun h => h.elim (fun h => absurd rfl (hne _ _ h)) (fun h => h.2), fun h => .inr ⟨rfl, h⟩⟩, rfl, rfl, rfl, rfl⟩
  refine ⟨by show g.base ≤ (w.alloc ob).heap.size; rw [World.size_alloc]; have := hs.base; omega, ?_, hs.inj, ?_, hs.tobj, hs.tinj, ?_, ?_, ?_, hs.fresh, fun gi row h => (hs.globs gi row h).ext he⟩
  · intro o c hc
    obtain ⟨b, m, h1, h2, h3, h4⟩ := hs.objs o c hc
    have hlt := hs.objlt o b m h1
    refine ⟨b, m, h1, h2, h3.mono he (Below.heap_alloc w ob b hlt), fun i hi => ?_⟩
    rcases hi with hi | ⟨hi, _⟩
    · exact h4 i hi
    · omega
  · intro t ht
    obtain ⟨⟨b, len, cap, e, size⟩, h1, h2⟩ := hs.toks t ht
    refine ⟨_, h1, ?_⟩
    cases b with
    | none => exact h2
    | some b =>
      obtain ⟨a1, a2, a3, a4, ⟨cur, a5, a6⟩, a7⟩ := h2
      have hlt := hs.toklt t b _ h1
      refine ⟨a1, a2, a3, a4, ⟨cur, (Below.heap_alloc w ob b hlt).trans a5, a6⟩, fun i hi hi' => ?_⟩
      rcases hi' with hi' | ⟨hi', _⟩
      · exact a7 i hi hi'
      · omega
  · intro b i hi
    rw [World.size_alloc]
    rcases hi with hi | ⟨hi, _⟩
    · have := hs.immlt b i hi; omega
    · omega
  · intro o b m h
    rw [World.size_alloc]
    have := hs.objlt o b m h
    omega
  · intro t b r h
    rw [World.size_alloc]
    have := hs.toklt t b r h
    omega

/-- A new block that is an object. -/
theorem Sim.newObj {g : G} {w : World} {st : St} (hs : Sim g w st) (ob : Obj) (c : AObj) (m : Nat) (hat : ∀ g', Ext g w g' (w.alloc ob) → ObjAt g' (w.alloc ob) w.heap.size m c) :
    ∃ g', Ext g w g' (w.alloc ob) ∧ Sim g' (w.alloc ob) (st.set g.next c) ∧ g'.obj g.next = some (w.heap.size, m) ∧ st.obj g.next = none := by
  let g' : G := { g with next := g.next + 1, obj := fun o => if o = g.next then some (w.heap.size, m) else g.obj o }
  have hfr := hs.fresh g.next (Nat.le_refl _)
  have hobj : ∀ o x, g.obj o = some x → g'.obj o = some x := fun o x h => by
    show (if o = g.next then _ else _) = _
    rw [if_neg (fun e => by rw [e, hfr.1] at h; cases h)]
    exact h
  have he : Ext g w g' (w.alloc ob) := ⟨rfl, Nat.le_succ _, fun _ _ h => h, fun b i h => cell_alloc w ob b i (hs.immlt b i h), hobj, fun _ _ h => h, (Below.refl _ _).alloc hs.base ob⟩
  have hnone : st.obj g.next = none := by
    cases h : st.obj g.next with
    | none => rfl
    | some c => have := hs.st_lt h; omega
  have hcase : ∀ o x, (st.set g.next c).obj o = some x → (o = g.next ∧ x = c) ∨ (o ≠ g.next ∧ st.obj o = some x) := by
    intro o x h
    simp only [St.set] at h
    split at h
    · rename_i e; cases h; exact .inl ⟨e, rfl⟩
    · rename_i e; exact .inr ⟨e, h⟩
  have hnew : g'.obj g.next = some (w.heap.size, m) := by show (if _ then _ else _) = _; rw [if_pos rfl]
  have hold : ∀ o, o ≠ g.next → g'.obj o = g.obj o := fun o h => by show (if _ then _ else _) = _; rw [if_neg h]
  refine ⟨g', he, ?_, hnew, hnone⟩
  refine ⟨by show g.base ≤ (w.alloc ob).heap.size; rw [World.size_alloc]; have := hs.base; omega, ?_, ?_, ?_, ?_, hs.tinj, ?_, ?_, ?_, ?_, fun gi row h => (hs.globs gi row h).ext he⟩
  · intro o x hx
    rcases hcase o x hx with ⟨rfl, rfl⟩ | ⟨hne, hx⟩
    · exact ⟨_, _, hnew, hs.base, hat g' he, fun i hi => by have := hs.immlt _ i hi; omega⟩
    · obtain ⟨b, m', h1, h2, h3, h4⟩ := hs.objs o x hx
      exact ⟨b, m', (hold o hne).trans h1, h2, h3.mono he (Below.heap_alloc w ob b (hs.objlt o b m' h1)), h4⟩
  · intro o o' x x' b m1 m2 hx hx' hb hb'
    rcases hcase o x hx with ⟨rfl, rfl⟩ | ⟨hne, hx⟩ <;> rcases hcase o' x' hx' with ⟨rfl, rfl⟩ | ⟨hne', hx'⟩
    · rfl
    · rw [hnew] at hb; rw [hold _ hne'] at hb'
      cases hb
      have := hs.objlt _ _ _ hb'; omega
    · rw [hold _ hne] at hb; rw [hnew] at hb'
      cases hb'
      have := hs.objlt _ _ _ hb; omega
    · rw [hold _ hne] at hb; rw [hold _ hne'] at hb'
      exact hs.inj o o' x x' b m1 m2 hx hx' hb hb'
  · intro t ht
    obtain ⟨⟨b, len, cap, e, size⟩, h1, h2⟩ := hs.toks t ht
    refine ⟨_, h1, ?_⟩
    cases b with
    | none => exact h2
    | some b =>
      obtain ⟨a1, a2, a3, a4, ⟨cur, a5, a6⟩, a7⟩ := h2
      exact ⟨a1, a2, a3, a4, ⟨cur, (Below.heap_alloc w ob b (hs.toklt t b _ h1)).trans a5, a6⟩, a7⟩
  · intro t o x b r m' ht hx h1 h2
    rcases hcase o x hx with ⟨rfl, rfl⟩ | ⟨hne, hx⟩
    · rw [hnew] at h2
      cases h2
      have := hs.toklt t _ r h1; omega
    · rw [hold _ hne] at h2
      exact hs.tobj t o x b r m' ht hx h1 h2
  · intro b i hi
    rw [World.size_alloc]
    have := hs.immlt b i hi; omega
  · intro o b m' h
    rw [World.size_alloc]
    by_cases hne : o = g.next
    · subst hne; rw [hnew] at h; cases h; omega
    · rw [hold _ hne] at h; have := hs.objlt o b m' h; omega
  · intro t b r h
    rw [World.size_alloc]
    have := hs.toklt t b r h; omega
  · intro k hk
    have hk' : g.next + 1 ≤ k := hk
    exact ⟨(hold k (by omega)).trans (hs.fresh k (by omega)).1, (hs.fresh k (by omega)).2⟩

/-- An object's block is written. -/
theorem Sim.write {g : G} {w : World} {st : St} (hs : Sim g w st) {o : Nat} {c c' : AObj} {b m : Nat} (hc : st.obj o = some c) (hb : g.obj o = some (b, m)) (w' : World) (hsize : w'.heap.size = w.heap.size) (hos : w'.os = w.os) (htape : w'.tape = w.tape) (hout : w'.output = w.output)
    (hother : ∀ k, k ≠ b → w'.heap[k]? = w.heap[k]?) (hat : Ext g w g w' → ObjAt g w' b m c') : Ext g w g w' ∧ Sim g w' (st.set o c') := by
  obtain ⟨hbase, hat0, himm⟩ := hs.objOf hc hb
  have he : Ext g w g w' := by
    refine ⟨rfl, Nat.le_refl _, fun _ _ h => h, fun k i h => ?_, fun _ _ h => h, fun _ _ h => h, ⟨hos, htape, hout, by omega, fun k hk => hother k (by omega)⟩⟩
    have : k ≠ b := fun e => himm i (e ▸ h)
    exact World.cell?_of_block (w := w) (hother k this)
  refine ⟨he, ?_⟩
  have hcase : ∀ p x, (st.set o c').obj p = some x → (p = o ∧ x = c') ∨ (p ≠ o ∧ st.obj p = some x) := by
    intro p x h
    simp only [St.set] at h
    split at h
    · rename_i e; cases h; exact .inl ⟨e, rfl⟩
    · rename_i e; exact .inr ⟨e, h⟩
  have hsome : ∀ p x, (st.set o c').obj p = some x → ∃ y, st.obj p = some y := fun p x h => by
    rcases hcase p x h with ⟨rfl, _⟩ | ⟨_, h⟩
    · exact ⟨c, hc⟩
    · exact ⟨x, h⟩
  refine ⟨by have := hs.base; omega, ?_, ?_, ?_, ?_, hs.tinj, fun b i h => by have := hs.immlt b i h; omega, fun o b m h => by have := hs.objlt o b m h; omega, fun t b r h => by have := hs.toklt t b r h; omega, hs.fresh, fun gi row h => (hs.globs gi row h).ext he⟩
  · intro p x hx
    rcases hcase p x hx with ⟨rfl, rfl⟩ | ⟨hne, hx⟩
    · exact ⟨b, m, hb, hbase, hat he, himm⟩
    · obtain ⟨b', m', h1, h2, h3, h4⟩ := hs.objs p x hx
      have : b' ≠ b := fun e => hne (hs.inj p o x c b m' m hx hc (e ▸ h1) hb)
      exact ⟨b', m', h1, h2, h3.mono he (hother b' this), h4⟩
  · intro p p' x x' b m1 m2 hx hx'
    obtain ⟨y, hy⟩ := hsome p x hx
    obtain ⟨y', hy'⟩ := hsome p' x' hx'
    exact hs.inj p p' y y' b m1 m2 hy hy'
  · intro t ht
    obtain ⟨⟨b', len, cap, e, size⟩, h1, h2⟩ := hs.toks t ht
    refine ⟨_, h1, ?_⟩
    cases b' with
    | none => exact h2
    | some b' =>
      obtain ⟨a1, a2, a3, a4, ⟨cur, a5, a6⟩, a7⟩ := h2
      have : b' ≠ b := fun e => hs.tobj t o c b' _ m ht hc h1 (e ▸ hb)
      exact ⟨a1, a2, a3, a4, ⟨cur, (hother b' this).trans a5, a6⟩, a7⟩
  · intro t p x b r m' ht hx
    obtain ⟨y, hy⟩ := hsome p x hx
    exact hs.tobj t p y b r m' ht hy

/-- Draws count nothing. -/
theorem Sim.draw {g : G} {w : World} {st : St} (hs : Sim g w st) : Ext g w g w.drew ∧ Sim g w.drew st := by
  have he : Ext g w g w.drew := ⟨rfl, Nat.le_refl _, fun _ _ h => h, fun _ _ _ => rfl, fun _ _ h => h, fun _ _ h => h, (Below.refl _ _).drew⟩
  refine ⟨he, hs.base, fun o c hc => ?_, hs.inj, fun t ht => ?_, hs.tobj, hs.tinj, hs.immlt, hs.objlt, hs.toklt, hs.fresh, fun gi row h => (hs.globs gi row h).ext he⟩
  · obtain ⟨b, m, h1, h2, h3, h4⟩ := hs.objs o c hc
    exact ⟨b, m, h1, h2, h3.mono he rfl, h4⟩
  · obtain ⟨⟨b', len, cap, e, size⟩, h1, h2⟩ := hs.toks t ht
    refine ⟨_, h1, ?_⟩
    cases b' with
    | none => exact h2
    | some b' => exact h2

/-- A token of a nil slice is made. -/
theorem Sim.nilTok {g : G} {w : World} {st : St} (hs : Sim g w st) (e : TypeId) : ∃ g', Ext g w g' w ∧ Sim g' w (st.addTok g.next) ∧ g'.tok g.next = some (none, 0, 0, e, 0) ∧ st.tok g.next = false := by
  let g' : G := { g with next := g.next + 1, tok := fun t => if t = g.next then some (none, 0, 0, e, 0) else g.tok t }
  have hfr := hs.fresh g.next (Nat.le_refl _)
  have hnew : g'.tok g.next = some (none, 0, 0, e, 0) := by show (if _ then _ else _) = _; rw [if_pos rfl]
  have hold : ∀ t, t ≠ g.next → g'.tok t = g.tok t := fun t h => by show (if _ then _ else _) = _; rw [if_neg h]
  have he : Ext g w g' w := ⟨rfl, Nat.le_succ _, fun _ _ h => h, fun _ _ _ => rfl, fun _ _ h => h, fun t r h => (hold t (fun e' => by rw [e', hfr.2] at h; cases h)).trans h, Below.refl _ _⟩
  have hf : st.tok g.next = false := by
    cases h : st.tok g.next with
    | false => rfl
    | true => have := hs.tok_lt h; omega
  have hcase : ∀ t, (st.addTok g.next).tok t = true → t = g.next ∨ (t ≠ g.next ∧ st.tok t = true) := by
    intro t h
    simp only [St.addTok] at h
    split at h
    · rename_i e; exact .inl e
    · rename_i e; exact .inr ⟨e, h⟩
  refine ⟨g', he, ⟨hs.base, fun o c hc => ?_, hs.inj, fun t ht => ?_, ?_, ?_, hs.immlt, hs.objlt, ?_, ?_, fun gi row h => (hs.globs gi row h).ext he⟩, hnew, hf⟩
  · obtain ⟨b, m, h1, h2, h3, h4⟩ := hs.objs o c hc
    exact ⟨b, m, h1, h2, h3.mono he rfl, h4⟩
  · rcases hcase t ht with rfl | ⟨hne, ht⟩
    · exact ⟨_, hnew, rfl, rfl⟩
    · obtain ⟨⟨b', len, cap, e, size⟩, h1, h2⟩ := hs.toks t ht
      refine ⟨_, (hold t hne).trans h1, ?_⟩
      cases b' with
      | none => exact h2
      | some b' => exact h2
  · intro t o c b r m ht hc h1
    rcases hcase t ht with rfl | ⟨hne, ht⟩
    · rw [hnew] at h1; cases h1
    · rw [hold t hne] at h1; exact hs.tobj t o c b r m ht hc h1
  · intro t t' b r r' ht ht' h1 h1'
    rcases hcase t ht with rfl | ⟨hne, ht⟩
    · rw [hnew] at h1; cases h1
    · rcases hcase t' ht' with rfl | ⟨hne', ht'⟩
      · rw [hnew] at h1'; cases h1'
      · rw [hold t hne] at h1; rw [hold t' hne'] at h1'
        exact hs.tinj t t' b r r' ht ht' h1 h1'
  · intro t b r h
    by_cases hne : t = g.next
    · subst hne; rw [hnew] at h; cases h
    · rw [hold t hne] at h; exact hs.toklt t b r h
  · intro k hk
    have hk' : g.next + 1 ≤ k := hk
    exact ⟨(hs.fresh k (by omega)).1, (hold k (by omega)).trans (hs.fresh k (by omega)).2⟩

/-- An object is frozen. -/
theorem Sim.freeze {g : G} {w : World} {st : St} (hs : Sim g w st) {o : Nat} {c : AObj} {b m : Nat} (hc : st.obj o = some c) (hb : g.obj o = some (b, m)) :
    ∃ g', Ext g w g' w ∧ Sim g' w (st.drop o) ∧ ∀ i, g'.imm b i := by
  let g' : G := { g with imm := fun k i => g.imm k i ∨ k = b }
  have he : Ext g w g' w := ⟨rfl, Nat.le_refl _, fun _ _ h => .inl h, fun _ _ _ => rfl, fun _ _ h => h, fun _ _ h => h, Below.refl _ _⟩
  -- Ext asks that what is imm has not changed: nothing has
  have hcase : ∀ p x, (st.drop o).obj p = some x → p ≠ o ∧ st.obj p = some x := by
    intro p x h
    simp only [St.drop] at h
    split at h
    · cases h
    · rename_i e; exact ⟨e, h⟩
  refine ⟨g', he, ⟨hs.base, fun p x hx => ?_, fun p p' x x' b m1 m2 hx hx' => hs.inj p p' x x' b m1 m2 (hcase p x hx).2 (hcase p' x' hx').2, fun t ht => ?_, fun t p x b r m' ht hx => hs.tobj t p x b r m' ht (hcase p x hx).2, hs.tinj, ?_, hs.objlt, hs.toklt, hs.fresh, fun gi row h => (hs.globs gi row h).ext he⟩, fun i => .inr rfl⟩
  · obtain ⟨hne, hx⟩ := hcase p x hx
    obtain ⟨b', m', h1, h2, h3, h4⟩ := hs.objs p x hx
    refine ⟨b', m', h1, h2, h3.mono he rfl, fun i hi => ?_⟩
    rcases hi with hi | hi
    · exact h4 i hi
    · exact hne (hs.inj p o x c b m' m hx hc (hi ▸ h1) hb)
  · obtain ⟨⟨b', len, cap, e, size⟩, h1, h2⟩ := hs.toks t ht
    refine ⟨_, h1, ?_⟩
    cases b' with
    | none => exact h2
    | some b' =>
      obtain ⟨a1, a2, a3, a4, a5, a7⟩ := h2
      refine ⟨a1, a2, a3, a4, a5, fun i hi hi' => ?_⟩
      rcases hi' with hi' | hi'
      · exact a7 i hi hi'
      · exact hs.tobj t o c b' _ m ht hc h1 (hi' ▸ hb)
  · intro k i hi
    rcases hi with hi | hi
    · exact hs.immlt k i hi
    · rw [hi]; exact hs.objlt o b m hb

/-! ### Looking an object up behind changes -/

theorem St.obj_set (st : St) (o : Nat) (c : AObj) : (st.set o c).obj o = some c := by simp [St.set]
theorem St.obj_set_ne {st : St} {o p : Nat} {c : AObj} (h : p ≠ o) : (st.set o c).obj p = st.obj p := by simp [St.set, h]
theorem St.obj_new {st : St} {o p : Nat} {c x : AObj} (h : st.obj o = none) (hp : st.obj p = some x) : (st.set o c).obj p = some x := by
  rw [St.obj_set_ne]
  · exact hp
  · intro e; rw [e, h] at hp; cases hp
theorem St.ne_of_new {st : St} {o p : Nat} {x : AObj} (h : st.obj o = none) (hp : st.obj p = some x) : p ≠ o := fun e => by rw [e, h] at hp; cases hp
@[simp] theorem St.obj_addTok (st : St) (t : Nat) : (st.addTok t).obj = st.obj := rfl
@[simp] theorem St.obj_untok (st : St) (t : Nat) : (st.untok t).obj = st.obj := rfl
@[simp] theorem St.tok_set (st : St) (o : Nat) (c : AObj) : (st.set o c).tok = st.tok := rfl
@[simp] theorem St.tok_drop (st : St) (o : Nat) : (st.drop o).tok = st.tok := rfl
@[simp] theorem St.glob_set (st : St) (o : Nat) (c : AObj) : (st.set o c).glob = st.glob := rfl
@[simp] theorem St.glob_drop (st : St) (o : Nat) : (st.drop o).glob = st.glob := rfl
@[simp] theorem St.glob_addTok (st : St) (t : Nat) : (st.addTok t).glob = st.glob := rfl
@[simp] theorem St.glob_untok (st : St) (t : Nat) : (st.untok t).glob = st.glob := rfl
theorem St.tok_addTok (st : St) (t : Nat) : (st.addTok t).tok t = true := by simp [St.addTok]
theorem St.obj_drop_ne {st : St} {o p : Nat} (h : p ≠ o) : (st.drop o).obj p = st.obj p := by simp [St.drop, h]

theorem St.set_set (st : St) (o : Nat) (c c' : AObj) : (st.set o c).set o c' = st.set o c' := by
  simp only [St.set]
  congr 1
  funext p
  by_cases h : p = o <;> simp [h]
theorem St.set_comm (st : St) {o p : Nat} (h : o ≠ p) (c d : AObj) : (st.set o c).set p d = (st.set p d).set o c := by
  simp only [St.set]
  congr 1
  funext q
  by_cases h1 : q = p <;> by_cases h2 : q = o <;> simp [h1, h2]
  · exact absurd (h2.symm.trans h1) h
  · intro e; exact absurd e (Ne.symm h)
  · intro e; exact absurd e h
/-- A new object may be forgotten. -/
theorem StLe.new {st st' : St} {o : Nat} {c : AObj} (h : st.obj o = none) (l : StLe st st') : StLe (st.set o c) st' :=
  ⟨fun p x hp => St.obj_new h (l.obj p x hp), l.tok, l.glob⟩
theorem StLe.set {st st' : St} (o : Nat) (c : AObj) (l : StLe st st') : StLe (st.set o c) (st'.set o c) := by
  refine ⟨fun p x hp => ?_, l.tok, l.glob⟩
  simp only [St.set] at hp ⊢
  split at hp
  · rename_i e; rw [if_pos e]; exact hp
  · rename_i e; rw [if_neg e]; exact l.obj p x hp
theorem StLe.addTok {st st' : St} (t : Nat) (l : StLe st st') : StLe (st.addTok t) st' :=
  ⟨l.obj, fun k hk => by
    simp only [St.addTok]
    split
    · rfl
    · exact l.tok k hk, l.glob⟩
theorem StLe.drop {st : St} (o : Nat) : StLe st (st.drop o) :=
  ⟨fun p x hp => by
    simp only [St.drop] at hp
    split at hp
    · cases hp
    · exact hp, fun _ h => h, rfl⟩
theorem StLe.untok {st : St} (t : Nat) : StLe st (st.untok t) :=
  ⟨fun _ _ h => h, fun k hk => by
    simp only [St.untok] at hk
    split at hk
    · cases hk
    · exact hk, rfl⟩

/-! ### The rules -/

section
variable {P : Program} {n : Nat} {K : Post} {E : EPost} {T : Tmps} {st : St} {ops : Array Oper} {rest : List Oper}
variable {ty : TypeId} {pos : String} {es : Array Edge} {gd : Option (Nat × Bool)} {d : Tmp} {x y : Operand} {dd : Option Tmp}

def zrow (z : Value) : List AV := z.cells.toList.map abs1
def zok (sz : Nat) (z : Value) : Bool := Nat.beq z.cells.size sz && z.cells.toList.all Value.oneCell'

theorem zok_spec {sz : Nat} {z : Value} (h : zok sz z = true) : z.cells.size = sz ∧ (∀ v ∈ z.cells, v.oneCell' = true) ∧ (zrow z).length = sz ∧ (∀ c ∈ zrow z, c.one = true) := by
  simp only [zok, Bool.and_eq_true] at h
  have h1 := Nat.eq_of_beq_eq_true h.1
  have h2 : ∀ v ∈ z.cells, v.oneCell' = true := fun v hv => List.all_eq_true.1 h.2 v (by simpa using hv)
  refine ⟨h1, fun v hv => h2 v hv, by simp [zrow, h1], fun c hc => ?_⟩
  simp only [zrow, List.mem_map] at hc
  obtain ⟨v, hv, rfl⟩ := hc
  exact one_abs1 v (h2 v (by simpa using hv))

theorem zrow_get {z : Value} {j : Nat} {c : AV} (h : (zrow z)[j]? = some c) (g : G) (w : World) : ∃ v, z.cells[j]? = some v ∧ R g w c v := by
  simp only [zrow, List.getElem?_map, Option.map_eq_some_iff, Array.getElem?_toList] at h
  obtain ⟨v, h1, rfl⟩ := h
  exact ⟨v, h1, R_abs1 g w v⟩

/-- A new variable. -/
theorem al {t : TypeId} {sz by_ : Nat} {z : Value} [hi : Inf P t sz by_ z] (hg : goes ops n T ⟨dd, .alloc t, ty, pos, es, gd⟩ = some d) (hz : zok sz z = true)
    (k : ∀ o, st.obj o = none → AOps P n ops rest K E ((d, .cptr o sz 0 0) :: T) (st.set o (.cells t sz [zrow z]))) : AOps P n ops (⟨dd, .alloc t, ty, pos, es, gd⟩ :: rest) K E T st := by
  obtain ⟨hw, hd, hok⟩ := goes_some hg
  simp only at hd
  subst hd
  obtain ⟨z1, z2, z3, z4⟩ := zok_spec hz
  intro g w a hs hk hn
  obtain ⟨g', he, hs', hob, hnone⟩ := hs.newObj (.cells z.cells t) (.cells t sz [zrow z]) sz (fun g' _ => ⟨z.cells, heap_alloc_new w _, z1, by simp, by simp [z3], by simpa using z4, fun i j row c hr hc => by
    cases i with
    | zero =>
      simp only [List.getElem?_cons_zero, Option.some.injEq] at hr
      subst hr
      obtain ⟨v, h1, h2⟩ := zrow_get hc g' (w.alloc (.cells z.cells t))
      exact ⟨v, by simpa using h1, h2⟩
    | succ i => simp at hr⟩)
  have hrun : (execOp a.eval ⟨some d, .alloc t, ty, pos, es, gd⟩).run P w = .ok (.value (.pointer (some ⟨w.heap.size, 0, none⟩))) (w.alloc (.cells z.cells t)) := by
    simp [execOp, Instr.alloc, run_zero (P := P) (t := t) w, newVar, newRow]
  have hR : R g' (w.alloc (.cells z.cells t)) (.cptr g.next sz 0 0) (.pointer (some ⟨w.heap.size, 0, none⟩)) := by
    have := R.cptr (w := w.alloc (.cells z.cells t)) g.next sz 0 0 w.heap.size sz hob
    simpa using this
  have h2 := k g.next hnone g' (w.alloc (.cells z.cells t)) (a.put (some d) (.pointer (some ⟨w.heap.size, 0, none⟩))) hs' ((hk.ext he).put (fun t ht => hn ▸ dstOk_lt hok t ht) hR) (by rw [Act.size_put]; exact hn)
  rw [Act.defers_put] at h2
  unfold wpList
  rw [wanted_of hk hw, if_pos rfl]
  left
  unfold Oper.wp
  rw [hrun]
  exact wpList_mono (fun _ _ _ q => QOf.ext he q) rest _ _ h2

/-- May it be stored, and what cells does it fill? -/
def storable : AV → Bool
  | .agg _ => true
  | v => v.one

theorem storable_cells {g : G} {w : World} {v : AV} {rv : Value} (h : R g w v rv) (hst : storable v = true) :
    v.cells.length = rv.cells.size ∧ (∀ c ∈ v.cells, c.one = true) ∧ (∀ (i : Nat) c u, v.cells[i]? = some c → rv.cells[i]? = some u → R g w c u) ∧ ∀ u ∈ rv.cells, u.oneCell' = true := by
  have fin : ∀ {v : AV} {rv : Value}, v.cells.length = rv.cells.size → (∀ c ∈ v.cells, c.one = true) → (∀ (i : Nat) c u, v.cells[i]? = some c → rv.cells[i]? = some u → R g w c u) → ∀ u ∈ rv.cells, u.oneCell' = true := by
    intro v rv hl h1 hh u hu
    obtain ⟨i, hi, rfl⟩ := Array.getElem_of_mem hu
    have hi' : i < v.cells.length := by omega
    exact (hh i _ _ (List.getElem?_eq_getElem hi') (by simp [hi])).one (h1 _ (List.getElem_mem hi'))
  cases v with
  | lit x =>
    have hx0 : rv = x := by cases h; rfl
    subst hx0
    have h1 : rv.oneCell' = true := hst
    have hx : rv.cells = #[rv] := by cases rv <;> first | rfl | (simp [Value.oneCell'] at h1)
    refine ⟨by rw [hx]; rfl, fun c hc => by simp [AV.cells] at hc; subst hc; exact h1, fun i c u hc hu => ?_, fun u hu => by rw [hx] at hu; simp at hu; subst hu; exact h1⟩
    rw [hx] at hu
    cases i with
    | zero => simp [AV.cells] at hc hu; subst hc; subst hu; exact .lit _
    | succ i => simp at hu
  | agg cs =>
    obtain ⟨a, b⟩ := h.cells (fun x e => by cases e)
    cases h with
    | agg _ vs hl h1 hh => exact ⟨a, h1, b, fin a h1 b⟩
  | tuple cs => simp [storable, AV.one] at hst
  | int | bool | str | view | eptr | cptr | msl | iter | amap | iface | func =>
    obtain ⟨a, b⟩ := h.cells (fun x e => by cases e)
    refine ⟨a, ?_, b, fin a ?_ b⟩ <;> (intro c hc; simp only [AV.cells, List.mem_singleton] at hc; rw [hc]; rfl)

def rowSet (row : List AV) (off : Nat) (cs : List AV) : List AV := row.take off ++ cs ++ row.drop (off + cs.length)

theorem rowSet_length {row : List AV} {off : Nat} {cs : List AV} (h : off + cs.length ≤ row.length) : (rowSet row off cs).length = row.length := by
  simp [rowSet]; omega

/-- A store into an object. -/
theorem so {t : TypeId} {sz by_ : Nat} {zz : Value} [hi : Inf P t sz by_ zz] {o s : Nat} {rows : List (List AV)} {i off : Nat} {row : List AV} {v : AV} {oty : TypeId} {rows' : List (List AV)}
    (hw : wantedA ops T ⟨none, .store t x y, ty, pos, es, gd⟩ = some true) (hx : ev st T x = some (.cptr o s i off)) (hy : ev st T y = some v) (ho : st.obj o = some (.cells oty s rows)) (hr : rows[i]? = some row)
    (hv : storable v = true) (hsz : Nat.beq v.cells.length sz = true) (hle : Nat.ble (off + v.cells.length) row.length = true) (he : rows.set i (rowSet row off v.cells) = rows')
    (k : AOps P n ops rest K E T (st.set o (.cells oty s rows'))) : AOps P n ops (⟨none, .store t x y, ty, pos, es, gd⟩ :: rest) K E T st := by
  refine AOps.step (v := .lit undef) hw rfl _ ?_ k
  intro g w a hs hk
  have h1 := ev_R hs hk hx
  have h2 := ev_R hs hk hy
  generalize hux : a.eval x = ux at h1
  generalize huy : a.eval y = uy at h2
  subst he
  have hle' := Nat.ble_le hle
  obtain ⟨c1, c2, c3, c4⟩ := storable_cells h2 hv
  cases h1 with
  | cptr _ _ _ _ b m hb =>
    obtain ⟨_, ⟨arr, ha, hasz, hml, hl, h1', hc⟩, _⟩ := hs.objOf ho hb
    have hil : i < rows.length := (List.getElem?_eq_some_iff.1 hr).1
    have hrl : row.length = s := hl row (List.mem_of_getElem? hr)
    have hfit : i * s + off + uy.cells.toList.length ≤ arr.size := by
      have := Nat.mul_le_mul_right s (show i + 1 ≤ rows.length from hil)
      rw [Nat.add_mul, Nat.one_mul] at this
      simp only [Array.length_toList]
      omega
    have hst := run_storeCells_at P b (i * s + off) oty uy.cells.toList 0 arr w ha (by simpa using hfit) (fun v hv => c4 v (by simpa using hv))
    simp only [Nat.add_zero] at hst
    generalize harr' : (arr.toList.take (i * s + off) ++ uy.cells.toList ++ arr.toList.drop (i * s + off + uy.cells.toList.length)).toArray = arr' at hst
    have hsize' : arr'.size = m := by
      rw [← harr', ← hasz]
      simp only [Array.length_toList] at hfit
      simp
      omega
    obtain ⟨he', hs'⟩ := hs.write (c' := .cells oty s (rows.set i (rowSet row off v.cells))) ho hb (w.setRow b arr') (by simp) rfl rfl rfl (fun k hk => setRow_other w b k arr' hk) (fun he' => by
      refine ⟨arr', setRow_heap w b arr arr' oty (0, 0) ha, hsize', by simpa using hml, ?_, ?_, ?_⟩
      · intro r hr'
        rcases List.mem_or_eq_of_mem_set hr' with h | h
        · exact hl r h
        · rw [h, rowSet_length hle', hrl]
      · intro r hr'
        rcases List.mem_or_eq_of_mem_set hr' with h | h
        · exact h1' r h
        · subst h
          intro c hcm
          simp only [rowSet, List.mem_append] at hcm
          rcases hcm with (h | h) | h
          · exact h1' row (List.mem_of_getElem? hr) c (List.mem_of_mem_take h)
          · exact c2 c h
          · exact h1' row (List.mem_of_getElem? hr) c (List.mem_of_mem_drop h)
      · intro i' j r c hr' hcj
        -- the flat index
        have hjl : j < s := by
          have h3 : j < r.length := (List.getElem?_eq_some_iff.1 hcj).1
          rcases List.mem_or_eq_of_mem_set (List.mem_of_getElem? hr') with h | h
          · rw [hl r h] at h3; exact h3
          · rw [h, rowSet_length hle', hrl] at h3; exact h3
        have hi'l : i' < rows.length := by
          have := (List.getElem?_eq_some_iff.1 hr').1
          simpa using this
        have flat : ∀ q : Nat, arr'[q]? = if q < i * s + off then arr[q]? else if q < i * s + off + uy.cells.size then uy.cells[q - (i * s + off)]? else arr[q]? := by
          intro q
          rw [← harr']
          simp only [List.getElem?_toArray, List.append_assoc]
          rw [List.getElem?_append]
          simp only [List.length_take, Array.length_toList]
          have hmin : min (i * s + off) arr.size = i * s + off := by simp only [Array.length_toList] at hfit; omega
          rw [hmin]
          by_cases hq : q < i * s + off
          · rw [if_pos hq, if_pos hq, List.getElem?_take_of_lt hq, Array.getElem?_toList]
          · rw [if_neg hq, if_neg hq, List.getElem?_append]
            simp only [Array.length_toList]
            by_cases hq2 : q < i * s + off + uy.cells.size
            · rw [if_pos (by omega), if_pos hq2, Array.getElem?_toList]
            · rw [if_neg (by omega), if_neg hq2, List.getElem?_drop, Array.getElem?_toList]
              congr 1
              omega
        by_cases hii : i' = i
        · subst hii
          rw [List.getElem?_set_self hil] at hr'
          simp only [Option.some.injEq] at hr'
          subst hr'
          simp only [rowSet, List.append_assoc] at hcj
          rw [List.getElem?_append] at hcj
          simp only [List.length_take] at hcj
          have hmin : min off row.length = off := by omega
          rw [hmin] at hcj
          rw [flat]
          by_cases hjo : j < off
          · rw [if_pos hjo, List.getElem?_take_of_lt hjo] at hcj
            rw [if_pos (by omega)]
            obtain ⟨u, hu1, hu2⟩ := hc i' j row c hr hcj
            exact ⟨u, hu1, hu2.ext he'⟩
          · rw [if_neg hjo, List.getElem?_append] at hcj
            rw [if_neg (by omega)]
            by_cases hj2 : j - off < v.cells.length
            · rw [if_pos hj2] at hcj
              rw [if_pos (by omega)]
              have hlt : i' * s + j - (i' * s + off) < uy.cells.size := by omega
              have e : i' * s + j - (i' * s + off) = j - off := by omega
              refine ⟨uy.cells[i' * s + j - (i' * s + off)], by simp [hlt], ?_⟩
              exact (c3 (j - off) c _ hcj (by rw [← e]; simp [hlt])).ext he'
            · rw [if_neg hj2, List.getElem?_drop] at hcj
              rw [if_neg (by omega)]
              have e : off + v.cells.length + (j - off - v.cells.length) = j := by omega
              rw [e] at hcj
              obtain ⟨u, hu1, hu2⟩ := hc i' j row c hr hcj
              exact ⟨u, hu1, hu2.ext he'⟩
        · rw [List.getElem?_set_ne (Ne.symm hii)] at hr'
          obtain ⟨u, hu1, hu2⟩ := hc i' j r c hr' hcj
          refine ⟨u, ?_, hu2.ext he'⟩
          rw [flat]
          -- another row's cell
          have hout : i' * s + j < i * s + off ∨ i * s + off + uy.cells.size ≤ i' * s + j := by
            rcases Nat.lt_or_gt_of_ne hii with h | h
            · left
              have := Nat.mul_le_mul_right s (show i' + 1 ≤ i from h)
              rw [Nat.add_mul, Nat.one_mul] at this
              omega
            · right
              have := Nat.mul_le_mul_right s (show i + 1 ≤ i' from h)
              rw [Nat.add_mul, Nat.one_mul] at this
              omega
          rcases hout with h | h
          · rw [if_pos h]; exact hu1
          · rw [if_neg (by omega), if_neg (by omega)]; exact hu1)
    have hcs : uy.cells.size = sz := by rw [← c1]; exact Nat.eq_of_beq_eq_true hsz
    refine ⟨undef, g, w.setRow b arr', .inr ⟨?_, rfl⟩, he', hs', .lit _⟩
    simp [execOp, hux, huy, Instr.storeAt, Instr.sureAddr, storeVar, run_size (P := P) (t := t) w, hcs, hst]

end
end Go.AM
