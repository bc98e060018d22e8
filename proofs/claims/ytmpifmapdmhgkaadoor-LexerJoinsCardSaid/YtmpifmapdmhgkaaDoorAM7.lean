/- Rules for boxes, literals, make, append, reslicing and freezing. No conditions: definitions and lemmas only. -/
import Derived.Test.YtmpifmapdmhgkaaDoorAM6
import Derived.Laws.MakeOwn
namespace Go.AM
open Go.RowKit (Below)

section
variable {P : Program} {n : Nat} {K : Post} {E : EPost} {T : Tmps} {st : St} {ops : Array Oper} {rest : List Oper}
variable {ty : TypeId} {pos : String} {es : Array Edge} {gd : Option (Nat × Bool)} {d : Tmp} {x y : Operand} {dd : Option Tmp}

/-- A step whose outcome is chosen by the ghost. -/
theorem AOps.stepAny {o : Oper} (hg : goes ops n T o = some d)
    (h : ∀ g w a, Sim g w st → Known g w T a → ∃ rv g' w' v st1, (execOp a.eval o).run P w = .ok (.value rv) w' ∧ Ext g w g' w' ∧ Sim g' w' st1 ∧ R g' w' v rv ∧ AOps P n ops rest K E ((d, v) :: T) st1) :
    AOps P n ops (o :: rest) K E T st := by
  obtain ⟨hw, hd, hok⟩ := goes_some hg
  intro g w a hs hk hn
  obtain ⟨rv, g', w', v, st1, hrun, he, hs', hR, k⟩ := h g w a hs hk
  have h2 := k g' w' (a.put o.dst rv) hs' (by rw [hd]; exact (hk.ext he).put (fun t ht => hn ▸ dstOk_lt (hd ▸ hok) t ht) hR) (by rw [Act.size_put]; exact hn)
  rw [Act.defers_put] at h2
  unfold wpList
  rw [wanted_of hk hw, if_pos rfl]
  left
  unfold Oper.wp
  rw [hrun]
  exact wpList_mono (fun _ _ _ q => QOf.ext he q) rest _ _ h2

/-- A step of the ghost alone. -/
theorem AOps.ghost (h : ∀ g w a, Sim g w st → Known g w T a → ∃ g' T1 st1, Ext g w g' w ∧ Sim g' w st1 ∧ Known g' w T1 a ∧ AOps P n ops rest K E T1 st1) : AOps P n ops rest K E T st := by
  intro g w a hs hk hn
  obtain ⟨g', T1, st1, he, hs', hk', k⟩ := h g w a hs hk
  exact wpList_mono (fun _ _ _ q => QOf.ext he q) rest _ _ (k g' w a hs' hk' hn)

theorem AWP.ghost {c : Code} (h : ∀ g w a, Sim g w st → Known g w T a → ∃ g' T1 st1, Ext g w g' w ∧ Sim g' w st1 ∧ Known g' w T1 a ∧ AWP P n c K E T1 st1) : AWP P n c K E T st := by
  intro g w a hs hk hn
  obtain ⟨g', T1, st1, he, hs', hk', k⟩ := h g w a hs hk
  exact Code.wp_mono (fun _ _ _ q => QOf.ext he q) (k g' w a hs' hk' hn)

theorem Known.cons {g : G} {w : World} {a : Act} {t : Nat} {v : AV} {rv : Value} (hk : Known g w T a) (h1 : a.tmps[t]? = some rv) (h2 : R g w v rv) : Known g w ((t, v) :: T) a := by
  intro i u hu
  rw [Tmps.get_cons] at hu
  by_cases hi : t = i
  · subst hi; simp at hu; subst hu; exact ⟨rv, h1, h2⟩
  · rw [if_neg hi] at hu; exact hk i u hu

theorem TokAt.mkOwn {g : G} {k : Nat} {e : TypeId} {b : Option Nat} {off len cap sz sz' : Nat} (h0 : off = 0) (h : g.tok k = some (b, len, cap, e, sz')) (h1 : b ≠ none → sz' = sz) : TokAt g (.own k e) b off len cap sz := ⟨h0, sz', h1, h⟩

/-- A nil slice in a temporary gets a token. -/
theorem AWP.nilTok {c : Code} (t : Nat) (e : TypeId) (sz' : Nat) {sz : Nat} (ht : T.get t = some (.view sz [] .nil)) (h : ∀ tk, st.tok tk = false → AWP P n c K E ((t, .view sz' [] (.own tk e)) :: T) (st.addTok tk)) : AWP P n c K E T st :=
  AWP.ghost fun g w a hs hk => by
    obtain ⟨rv, h1, h2⟩ := hk t _ ht
    obtain ⟨g', he, hs', htk, hf⟩ := hs.nilTok e
    have hrv : rv = .slice none 0 0 := by
      cases h2 with
      | vnil => rfl
      | view _ _ _ _ _ _ _ _ _ _ _ ht' => simp [TokAt] at ht'
    subst hrv
    exact ⟨g', _, _, he, hs', (hk.ext he).cons h1 (.vnil _ _ (TokAt.mkOwn rfl htk (fun h => absurd rfl h))), h g.next hf⟩

theorem AOps.nilTok (t : Nat) (e : TypeId) (sz' : Nat) {sz : Nat} (ht : T.get t = some (.view sz [] .nil)) (h : ∀ tk, st.tok tk = false → AOps P n ops rest K E ((t, .view sz' [] (.own tk e)) :: T) (st.addTok tk)) : AOps P n ops rest K E T st :=
  AOps.ghost fun g w a hs hk => by
    obtain ⟨rv, h1, h2⟩ := hk t _ ht
    obtain ⟨g', he, hs', htk, hf⟩ := hs.nilTok e
    have hrv : rv = .slice none 0 0 := by
      cases h2 with
      | vnil => rfl
      | view _ _ _ _ _ _ _ _ _ _ _ ht' => simp [TokAt] at ht'
    subst hrv
    exact ⟨g', _, _, he, hs', (hk.ext he).cons h1 (.vnil _ _ (TokAt.mkOwn rfl htk (fun h => absurd rfl h))), h g.next hf⟩

/-- A slice of a mutable object is frozen. -/
theorem R.frozen {g : G} {w : World} (hs : Sim g w st) {o sz lo len : Nat} {oty : TypeId} {rows : List (List AV)} (ho : st.obj o = some (.cells oty sz rows)) (hl : lo + len ≤ rows.length) {rv : Value} (h : R g w (.msl o sz lo len) rv) :
    ∃ g', Ext g w g' w ∧ Sim g' w (st.drop o) ∧ R g' w (.view sz ((rows.drop lo).take len) .shared) rv := by
  cases h with
  | msl _ _ _ _ cap b m hb hc hm hs' =>
    obtain ⟨g', he, hsim, himm⟩ := hs.freeze ho hb
    obtain ⟨_, ⟨arr, ha, hsz, hml, hlr, h1, hcell⟩, _⟩ := hs.objOf ho hb
    refine ⟨g', he, hsim, ?_⟩
    have hlen : ((rows.drop lo).take len).length = len := by simp; omega
    have key := R.view (g := g') (w := w) sz ((rows.drop lo).take len) .shared b (lo * sz) cap (fun i j => arr.getD (lo * sz + (i * sz + j)) undef) (by rw [hlen]; exact hc) hm
      (fun row hr => hlr row (List.mem_of_mem_drop (List.mem_of_mem_take hr))) (fun row hr => h1 row (List.mem_of_mem_drop (List.mem_of_mem_take hr))) trivial
      (fun i j hi hj => by
        rw [hlen] at hi
        refine ⟨himm _, ?_⟩
        have h1 : i < len := hi
        have h2 : (lo + i) * sz + j < rows.length * sz := mul_add_lt (by omega) hj
        rw [Nat.add_mul] at h2
        rw [cell_of_row w b _ arr oty (0, 0) ha, Array.getD_eq_getD_getElem?, Array.getElem?_eq_getElem (by omega)]
        rfl)
      (fun i j row c hr hcj => by
        have hi : i < len := by
          have := (List.getElem?_eq_some_iff.1 hr).1
          rw [hlen] at this
          exact this
        rw [List.getElem?_take_of_lt hi, List.getElem?_drop] at hr
        obtain ⟨v, hv1, hv2⟩ := hcell (lo + i) j row c hr hcj
        rw [Nat.add_mul, Nat.add_assoc] at hv1
        rw [Array.getD_eq_getD_getElem?, hv1]
        exact hv2.ext he)
    rw [hlen] at key
    exact key

theorem AWP.freeze {c : Code} (t : Nat) {o sz lo len : Nat} {oty : TypeId} {rows : List (List AV)} (ht : T.get t = some (.msl o sz lo len)) (ho : st.obj o = some (.cells oty sz rows)) (hl : lo + len ≤ rows.length)
    (h : AWP P n c K E ((t, .view sz ((rows.drop lo).take len) .shared) :: T) (st.drop o)) : AWP P n c K E T st :=
  AWP.ghost fun g w a hs hk => by
    obtain ⟨rv, h1, h2⟩ := hk t _ ht
    obtain ⟨g', he, hs', hR⟩ := h2.frozen hs ho hl
    exact ⟨g', _, _, he, hs', (hk.ext he).cons h1 hR, h⟩
theorem AOps.freeze (t : Nat) {o sz lo len : Nat} {oty : TypeId} {rows : List (List AV)} (ht : T.get t = some (.msl o sz lo len)) (ho : st.obj o = some (.cells oty sz rows)) (hl : lo + len ≤ rows.length)
    (h : AOps P n ops rest K E ((t, .view sz ((rows.drop lo).take len) .shared) :: T) (st.drop o)) : AOps P n ops rest K E T st :=
  AOps.ghost fun g w a hs hk => by
    obtain ⟨rv, h1, h2⟩ := hk t _ ht
    obtain ⟨g', he, hs', hR⟩ := h2.frozen hs ho hl
    exact ⟨g', _, _, he, hs', (hk.ext he).cons h1 hR, h⟩

/-- A box. -/
theorem bx {t : TypeId} {v : AV} {sz : Nat} (hg : goes ops n T ⟨dd, .box t x, ty, pos, es, gd⟩ = some d) (hx : ev st T x = some v) (hv : storable v = true) (hsz : v.cells.length = sz)
    (k : ∀ o, st.obj o = none → AOps P n ops rest K E ((d, .cptr o sz 0 0) :: T) (st.set o (.cells t sz [v.cells]))) : AOps P n ops (⟨dd, .box t x, ty, pos, es, gd⟩ :: rest) K E T st :=
  AOps.stepAny hg fun g w a hs hk => by
    have h1 := ev_R hs hk hx
    generalize hux : a.eval x = ux at h1
    obtain ⟨c1, c2, c3, c4⟩ := storable_cells h1 hv
    subst hsz
    obtain ⟨g', he, hs', hob, hnone⟩ := hs.newObj (.cells ux.cells t) (.cells t v.cells.length [v.cells]) v.cells.length (fun g' he => ⟨ux.cells, heap_alloc_new w _, c1.symm, by simp, by simp, by simpa using c2, fun i j row c hr hc => by
      cases i with
      | zero =>
        simp only [List.getElem?_cons_zero, Option.some.injEq] at hr
        subst hr
        have hj : j < ux.cells.size := by rw [← c1]; exact (List.getElem?_eq_some_iff.1 hc).1
        exact ⟨ux.cells[j], by simp [hj], (c3 j c _ hc (by simp [hj])).ext he⟩
      | succ i => simp at hr⟩)
    refine ⟨.pointer (some ⟨w.heap.size, 0, none⟩), g', w.alloc (.cells ux.cells t), _, _, ?_, he, hs', ?_, k g.next hnone⟩
    · simp [execOp, hux, Instr.box, newVar, newRow]
    · have := R.cptr (w := w.alloc (.cells ux.cells t)) g.next v.cells.length 0 0 w.heap.size v.cells.length hob
      simpa using this

/-! ### Literals -/

/-- Parts laid into cells. -/
def afill (place : Nat → Option (Nat × Nat)) (cells : List AV) : List (Nat × AV) → Option (List AV)
  | [] => some cells
  | (i, v) :: rest => match place i with
    | none => none
    | some (off, size) => bif Nat.beq v.cells.length size && Nat.ble (off + size) cells.length && storable v then afill place (rowSet cells off v.cells) rest else none

theorem foldl_set (vs : List Value) (off : Nat) : ∀ (k : Nat) (cells : Array Value), off + k + vs.length ≤ cells.size →
    ((vs.zipIdx k).foldl (fun cs (c, j) => cs.setIfInBounds (off + j) c) cells).toList = cells.toList.take (off + k) ++ vs ++ cells.toList.drop (off + k + vs.length) := by
  induction vs with
  | nil => intro k cells h; simp
  | cons v vs ih =>
    intro k cells h
    simp only [List.zipIdx_cons, List.foldl_cons]
    rw [ih (k + 1) _ (by simp at h ⊢; omega)]
    have e := list_seg_step cells.toList (off + k) v vs (by simp at h ⊢; omega)
    simpa [Array.toList_setIfInBounds, Nat.add_assoc] using e

theorem afill_run {g : G} {w : World} {place : Nat → Option (Nat × Nat)} : ∀ (parts : List (Nat × AV)) (rparts : List (Nat × Value)) (cells : List AV) (rcells : Array Value) (cs : List AV), afill place cells parts = some cs →
    parts.length = rparts.length → (∀ (k : Nat) p q, parts[k]? = some p → rparts[k]? = some q → p.1 = q.1 ∧ R g w p.2 q.2) →
    cells.length = rcells.size → (∀ c ∈ cells, c.one = true) → (∀ (i : Nat) c v, cells[i]? = some c → rcells[i]? = some v → R g w c v) →
    ∃ rcs, Instr.fill place rcells rparts = some rcs ∧ cs.length = rcs.size ∧ (∀ c ∈ cs, c.one = true) ∧ ∀ (i : Nat) c v, cs[i]? = some c → rcs[i]? = some v → R g w c v
  | [], rparts, cells, rcells, cs, h, hl, _, h1, h2, h3 => by
    have : rparts = [] := List.eq_nil_of_length_eq_zero (by simpa using hl.symm)
    subst this
    simp only [afill, Option.some.injEq] at h
    subst h
    exact ⟨rcells, rfl, h1, h2, h3⟩
  | (i, v) :: parts, [], _, _, _, _, hl, _, _, _, _ => by simp at hl
  | (i, v) :: parts, (i', rv) :: rparts, cells, rcells, cs, h, hl, hp, h1, h2, h3 => by
    obtain ⟨e1, e2⟩ := hp 0 _ _ rfl rfl
    simp only at e1 e2
    subst e1
    unfold afill at h
    cases hpl : place i with
    | none => simp [hpl] at h
    | some os =>
      obtain ⟨off, size⟩ := os
      simp only [hpl] at h
      cases hc : (Nat.beq v.cells.length size && Nat.ble (off + size) cells.length && storable v) with
      | false => simp [hc] at h
      | true =>
        simp only [hc, cond_true] at h
        simp only [Bool.and_eq_true] at hc
        obtain ⟨⟨ha, hb⟩, hst⟩ := hc
        have ha' := Nat.eq_of_beq_eq_true ha
        have hb' := Nat.ble_le hb
        obtain ⟨c1, c2, c3, c4⟩ := storable_cells e2 hst
        have hsz : rv.cells.size = size := by omega
        have hfold := foldl_set rv.cells.toList off 0 rcells (by simp; omega)
        simp only [Nat.add_zero, Array.length_toList] at hfold
        have hzip : (rv.cells.zipIdx.foldl (fun cs (c, j) => cs.setIfInBounds (off + j) c) rcells).toList = rcells.toList.take off ++ rv.cells.toList ++ rcells.toList.drop (off + rv.cells.size) := by
          rw [← hfold, ← Array.foldl_toList, Array.toList_zipIdx]
        obtain ⟨rcs, hf, r2⟩ := afill_run parts rparts (rowSet cells off v.cells) (rv.cells.zipIdx.foldl (fun cs (c, j) => cs.setIfInBounds (off + j) c) rcells) cs h (by simpa using hl)
          (fun k p q hk hq => hp (k + 1) p q (by simpa using hk) (by simpa using hq))
          (by rw [rowSet_length (by omega), h1, ← Array.length_toList (xs := Array.foldl _ _ _), hzip]; simp; omega)
          (fun c hcm => by
            simp only [rowSet, List.mem_append] at hcm
            rcases hcm with (hcm | hcm) | hcm
            · exact h2 c (List.mem_of_mem_take hcm)
            · exact c2 c hcm
            · exact h2 c (List.mem_of_mem_drop hcm))
          (fun j c u hcj huj => by
            rw [← Array.getElem?_toList, hzip] at huj
            simp only [rowSet, List.append_assoc] at hcj huj
            rw [List.getElem?_append] at hcj huj
            simp only [List.length_take, Array.length_toList] at hcj huj
            have m1 : min off cells.length = off := by omega
            have m2 : min off rcells.size = off := by omega
            rw [m1] at hcj
            rw [m2] at huj
            by_cases hj : j < off
            · rw [if_pos hj, List.getElem?_take_of_lt hj] at hcj huj
              exact h3 j c u hcj (by simpa using huj)
            · rw [if_neg hj, List.getElem?_append] at hcj huj
              simp only [Array.length_toList] at huj
              by_cases hj2 : j - off < v.cells.length
              · rw [if_pos hj2] at hcj
                rw [if_pos (by omega)] at huj
                exact c3 _ c u hcj (by simpa using huj)
              · rw [if_neg hj2, List.getElem?_drop] at hcj
                rw [if_neg (by omega), List.getElem?_drop] at huj
                have e : off + v.cells.length + (j - off - v.cells.length) = j := by omega
                have e' : off + rv.cells.size + (j - off - rv.cells.size) = j := by omega
                rw [e] at hcj
                rw [e'] at huj
                exact h3 j c u hcj (by simpa using huj))
        refine ⟨rcs, ?_, r2⟩
        unfold Instr.fill
        simp only [hpl]
        rw [if_neg (by simp; omega)]
        exact hf

theorem afill_length {place : Nat → Option (Nat × Nat)} : ∀ (parts : List (Nat × AV)) (cells cs : List AV), afill place cells parts = some cs → cs.length = cells.length
  | [], cells, cs, h => by simp only [afill, Option.some.injEq] at h; rw [h]
  | (i, v) :: parts, cells, cs, h => by
    unfold afill at h
    cases hpl : place i with
    | none => simp [hpl] at h
    | some os =>
      obtain ⟨off, size⟩ := os
      simp only [hpl] at h
      cases hc : (Nat.beq v.cells.length size && Nat.ble (off + size) cells.length && storable v) with
      | false => simp [hc] at h
      | true =>
        simp only [hc, cond_true] at h
        simp only [Bool.and_eq_true] at hc
        have ha' := Nat.eq_of_beq_eq_true hc.1.1
        have hb' := Nat.ble_le hc.1.2
        rw [afill_length parts _ cs h, rowSet_length (by omega)]

/-- A token of a block is made. -/
theorem Sim.ownTok {g : G} {w : World} (hs : Sim g w st) (e : TypeId) (b len cap sz : Nat) (cur : Array Value) (hb : w.heap[b]? = some (.cells cur e (0, 0))) (hbase : g.base ≤ b) (hsz : 0 < sz) (hlc : len ≤ cap) (hm : cap ≤ maxLen) (hcur : cur.size = cap * sz)
    (himm : ∀ i, len * sz ≤ i → ¬ g.imm b i) (htoks : ∀ t b' r, st.tok t = true → g.tok t = some (some b', r) → b' ≠ b) (hobjs : ∀ o c b' m, st.obj o = some c → g.obj o = some (b', m) → b' ≠ b) :
    ∃ g', Ext g w g' w ∧ Sim g' w (st.addTok g.next) ∧ g'.tok g.next = some (some b, len, cap, e, sz) ∧ st.tok g.next = false := by
  let g' : G := { g with next := g.next + 1, tok := fun t => if t = g.next then some (some b, len, cap, e, sz) else g.tok t }
  have hfr := hs.fresh g.next (Nat.le_refl _)
  have hnew : g'.tok g.next = some (some b, len, cap, e, sz) := by show (if _ then _ else _) = _; rw [if_pos rfl]
  have hold : ∀ t, t ≠ g.next → g'.tok t = g.tok t := fun t h => by show (if _ then _ else _) = _; rw [if_neg h]
  have he : Ext g w g' w := ⟨rfl, Nat.le_succ _, fun _ _ h => h, fun _ _ _ => rfl, fun _ _ h => h, fun t r h => (hold t (fun e' => by rw [e', hfr.2] at h; cases h)).trans h, Below.refl _ _⟩
  have hf : st.tok g.next = false := by
    cases h : st.tok g.next with
    | false => rfl
    | true => have := hs.tok_lt h; omega
  have hcase : ∀ t, (st.addTok g.next).tok t = true → t = g.next ∨ (t ≠ g.next ∧ st.tok t = true) := by
    intro t h
    simp only [St.addTok] at h
    split at h
    · rename_i e; exact .inl e
    · rename_i e; exact .inr ⟨e, h⟩
  refine ⟨g', he, ⟨hs.base, fun o c hc => ?_, hs.inj, fun t ht => ?_, ?_, ?_, hs.immlt, hs.objlt, ?_, ?_, fun gi row h => (hs.globs gi row h).ext he⟩, hnew, hf⟩
  · obtain ⟨b, m, h1, h2, h3, h4⟩ := hs.objs o c hc
    exact ⟨b, m, h1, h2, h3.mono he rfl, h4⟩
  · rcases hcase t ht with rfl | ⟨hne, ht⟩
    · exact ⟨_, hnew, hbase, hsz, hlc, hm, ⟨cur, hb, hcur⟩, himm⟩
    · obtain ⟨⟨b', len, cap, e, size⟩, h1, h2⟩ := hs.toks t ht
      refine ⟨_, (hold t hne).trans h1, ?_⟩
      cases b' with
      | none => exact h2
      | some b' => exact h2
  · intro t o c b' r m ht hc h1
    rcases hcase t ht with rfl | ⟨hne, ht⟩
    · rw [hnew] at h1; cases h1; exact fun h => hobjs o c _ m hc h rfl
    · rw [hold t hne] at h1; exact hs.tobj t o c b' r m ht hc h1
  · intro t t' b' r r' ht ht' h1 h1'
    rcases hcase t ht with rfl | ⟨hne, ht⟩
    · rw [hnew] at h1
      cases h1
      rcases hcase t' ht' with rfl | ⟨hne', ht'⟩
      · rfl
      · rw [hold t' hne'] at h1'; exact absurd rfl (htoks t' _ r' ht' h1')
    · rcases hcase t' ht' with rfl | ⟨hne', ht'⟩
      · rw [hnew] at h1'; cases h1'; rw [hold t hne] at h1; exact absurd rfl (htoks t _ r ht h1)
      · rw [hold t hne] at h1; rw [hold t' hne'] at h1'
        exact hs.tinj t t' b' r r' ht ht' h1 h1'
  · intro t b' r h
    by_cases hne : t = g.next
    · subst hne; rw [hnew] at h; cases h; exact (Array.getElem?_eq_some_iff.1 hb).1
    · rw [hold t hne] at h; exact hs.toklt t b' r h
  · intro k hk
    have hk' : g.next + 1 ≤ k := hk
    exact ⟨(hs.fresh k (by omega)).1, (hold k (by omega)).trans (hs.fresh k (by omega)).2⟩

/-- A new block whose first rows are known, with a token of its spare room. -/
theorem Sim.newView {g : G} {w : World} (hs : Sim g w st) (e : TypeId) (sz cap : Nat) (rows : List (List AV)) (arr : Array Value) (hsz : 0 < sz) (hlc : rows.length ≤ cap) (hm : cap ≤ maxLen) (harr : arr.size = cap * sz)
    (hl : ∀ row ∈ rows, row.length = sz) (h1 : ∀ row ∈ rows, ∀ c ∈ row, c.one = true) (hc : ∀ (i j : Nat) row c, rows[i]? = some row → row[j]? = some c → ∃ v, arr[i * sz + j]? = some v ∧ R g w c v) :
    ∃ g' tk, Ext g w g' (w.alloc (.cells arr e)) ∧ Sim g' (w.alloc (.cells arr e)) (st.addTok tk) ∧ R g' (w.alloc (.cells arr e)) (.view sz rows (.own tk e)) (.slice (some ⟨w.heap.size, 0, none⟩) rows.length cap) ∧ st.tok tk = false ∧ tk = g.next := by
  obtain ⟨g1, he1, hs1, himm, hobj, htok, hnext, hbase⟩ := hs.newImm (.cells arr e) (fun i => i < rows.length * sz)
  obtain ⟨g2, he2, hs2, htk, hf2⟩ := hs1.ownTok e w.heap.size rows.length cap sz arr (heap_alloc_new w _) (by rw [hbase]; exact hs.base) hsz hlc hm harr (fun i hi h => by rw [himm] at h; omega)
    (fun t b r ht h1 hb => by rw [htok] at h1; have := hs.toklt t b r h1; omega) (fun o c b m ho h1 hb => by rw [hobj] at h1; have := hs.objlt o b m h1; omega)
  refine ⟨g2, g1.next, he1.trans he2, hs2, ?_, hf2, hnext⟩
  have hmul := Nat.mul_le_mul_right sz hlc
  exact R.view (g := g2) (w := w.alloc (.cells arr e)) sz rows (.own g1.next e) w.heap.size 0 cap (fun i j => arr.getD (i * sz + j) undef) hlc hm hl h1 (TokAt.mkOwn rfl htk (fun _ => rfl))
    (fun i j hi hj => by
      have hlt := mul_add_lt hi hj
      refine ⟨he2.imm _ _ ((himm _).2 (by omega)), ?_⟩
      rw [cell_of_row _ w.heap.size _ arr e (0, 0) (heap_alloc_new w _), Array.getD_eq_getD_getElem?, Nat.zero_add, Array.getElem?_eq_getElem (by omega)]
      rfl)
    (fun i j row c hr hcj => by
      obtain ⟨v, hv, hR⟩ := hc i j row c hr hcj
      rw [Array.getD_eq_getD_getElem?, hv]
      exact hR.ext (he1.trans he2))

theorem flatten_replicate_get {l : List AV} (hl : 0 < l.length) : ∀ (k i : Nat), i < k * l.length → ((List.replicate k l).flatten)[i]? = l[i % l.length]?
  | 0, i, h => by simp at h
  | k + 1, i, h => by
    rw [List.replicate_succ, List.flatten_cons, List.getElem?_append]
    by_cases hlt : i < l.length
    · rw [if_pos hlt, Nat.mod_eq_of_lt hlt]
    · rw [if_neg hlt, flatten_replicate_get hl k (i - l.length) (by rw [Nat.add_mul, Nat.one_mul] at h; omega)]
      congr 1
      exact (Nat.mod_eq_sub_mod (by omega)).symm

def evParts (st : St) (T : Tmps) : List (Nat × Operand) → Option (List (Nat × AV))
  | [] => some []
  | (i, x) :: r => match ev st T x, evParts st T r with
    | some v, some vs => some ((i, v) :: vs)
    | _, _ => none

theorem evParts_R {g : G} {w : World} {a : Act} (hs : Sim g w st) (hk : Known g w T a) : ∀ (ps : List (Nat × Operand)) (vs : List (Nat × AV)), evParts st T ps = some vs →
    vs.length = (ps.map fun (i, x) => (i, a.eval x)).length ∧ ∀ (k : Nat) p q, vs[k]? = some p → (ps.map fun (i, x) => (i, a.eval x))[k]? = some q → p.1 = q.1 ∧ R g w p.2 q.2
  | [], vs, h => by simp [evParts] at h; subst h; exact ⟨rfl, fun k p q hp => by simp at hp⟩
  | (i, x) :: r, vs, h => by
    unfold evParts at h
    cases h1 : ev st T x with
    | none => simp [h1] at h
    | some u =>
      cases h2 : evParts st T r with
      | none => simp [h1, h2] at h
      | some us =>
        simp [h1, h2] at h
        subst h
        obtain ⟨hl, hr⟩ := evParts_R hs hk r us h2
        refine ⟨by simpa using hl, fun k p q hp hq => ?_⟩
        cases k with
        | zero => simp at hp hq; subst hp; subst hq; exact ⟨rfl, ev_R hs hk h1⟩
        | succ k => exact hr k p q (by simpa using hp) (by simpa using hq)

/-- The places of a struct's fields: offset and size. -/
class Places (P : Program) (fs : Array Field) (pl : outParam (List (Nat × Nat))) : Prop where
  raw : fs.toList.mapM (fun f => (P.info? f.type).map fun i => (f.offset, i.size)) = some pl

/-- A struct literal. -/
theorem bds {t : TypeId} {fs : Array Field} {pl : List (Nat × Nat)} {sz by_ : Nat} {z : Value} {parts : Array (Nat × Operand)} {vs : List (Nat × AV)} {cs : List AV} [hu : Und P t (.struct fs)] [hi : Inf P t sz by_ z] (hg : goes ops n T ⟨dd, .build t parts, ty, pos, es, gd⟩ = some d)
    [hpl : Places P fs pl] (hz : zok sz z = true) (he : evParts st T parts.toList = some vs) (hf : afill (pl[·]?) (zrow z) vs = some cs)
    (k : AOps P n ops rest K E ((d, .agg cs) :: T) st) : AOps P n ops (⟨dd, .build t parts, ty, pos, es, gd⟩ :: rest) K E T st := by
  obtain ⟨hw, hd, hok⟩ := goes_some hg
  simp only at hd
  subst hd
  refine AOps.pure hw hok (.agg cs) (fun g w a hs hk => ?_) k
  obtain ⟨z1, z2, z3, z4⟩ := zok_spec hz
  obtain ⟨hl, hr⟩ := evParts_R hs hk _ _ he
  obtain ⟨rcs, h1, h2, h3, h4⟩ := afill_run (g := g) (w := w) vs (parts.toList.map fun (i, x) => (i, a.eval x)) (zrow z) z.cells cs hf hl hr (by rw [z3, z1]) z4
    (fun i c v hc hv => by obtain ⟨v', h5, h6⟩ := zrow_get hc g w; rw [h5] at hv; cases hv; exact h6)
  refine ⟨.agg rcs, ?_, .agg _ _ h2 h3 h4⟩
  obtain ⟨inf, i1, i2, i3, i4⟩ := hi.out
  have hb : P.built t (parts.map fun (i, x) => (i, a.eval x)).toList = some rcs := by
    simp only [Program.built, i1, hu.out, i4, hpl.raw]
    rw [Array.toList_map]
    simpa using h1
  simp [execOp, run_build w t _ rcs hb]

/-- An array literal. -/
theorem bda {t e : TypeId} {len : Nat} {sz by_ esz eby : Nat} {z ez : Value} {parts : Array (Nat × Operand)} {vs : List (Nat × AV)} {cs : List AV} [hu : Und P t (.array len e)] [hi : Inf P t sz by_ z] [hie : Inf P e esz eby ez] (hg : goes ops n T ⟨dd, .build t parts, ty, pos, es, gd⟩ = some d)
    (hz : zok sz z = true) (he : evParts st T parts.toList = some vs) (hf : afill (fun i => some (i * esz, esz)) (zrow z) vs = some cs)
    (k : AOps P n ops rest K E ((d, .agg cs) :: T) st) : AOps P n ops (⟨dd, .build t parts, ty, pos, es, gd⟩ :: rest) K E T st := by
  obtain ⟨hw, hd, hok⟩ := goes_some hg
  simp only at hd
  subst hd
  refine AOps.pure hw hok (.agg cs) (fun g w a hs hk => ?_) k
  obtain ⟨z1, z2, z3, z4⟩ := zok_spec hz
  obtain ⟨hl, hr⟩ := evParts_R hs hk _ _ he
  obtain ⟨rcs, h1, h2, h3, h4⟩ := afill_run (g := g) (w := w) vs (parts.toList.map fun (i, x) => (i, a.eval x)) (zrow z) z.cells cs hf hl hr (by rw [z3, z1]) z4
    (fun i c v hc hv => by obtain ⟨v', h5, h6⟩ := zrow_get hc g w; rw [h5] at hv; cases hv; exact h6)
  refine ⟨.agg rcs, ?_, .agg _ _ h2 h3 h4⟩
  obtain ⟨inf, i1, i2, i3, i4⟩ := hi.out
  obtain ⟨einf, j1, j2, j3, j4⟩ := hie.out
  have hb : P.built t (parts.map fun (i, x) => (i, a.eval x)).toList = some rcs := by
    simp only [Program.built, i1, hu.out, i4, j1, j2]
    rw [Array.toList_map]
    exact h1
  simp [execOp, run_build w t _ rcs hb]

/-- Cells in rows. -/
def chunk (sz : Nat) : Nat → List AV → List (List AV)
  | 0, _ => []
  | k + 1, l => l.take sz :: chunk sz k (l.drop sz)

theorem length_chunk (sz : Nat) : ∀ (k : Nat) (l : List AV), (chunk sz k l).length = k
  | 0, _ => rfl
  | k + 1, l => by simp [chunk, length_chunk sz k]

theorem chunk_get (sz : Nat) : ∀ (k : Nat) (l : List AV) (i : Nat) row, (chunk sz k l)[i]? = some row → row = (l.drop (i * sz)).take sz
  | 0, l, i, row, h => by simp [chunk] at h
  | k + 1, l, 0, row, h => by simp [chunk] at h; simp [h]
  | k + 1, l, i + 1, row, h => by
    simp only [chunk, List.getElem?_cons_succ] at h
    rw [chunk_get sz k _ i row h, List.drop_drop]
    congr 2
    rw [Nat.add_mul, Nat.one_mul, Nat.add_comm]

theorem run_buildSlice {t e : TypeId} {len sz eby : Nat} {ez : Value} [hu : Und P t (.slice e)] [hie : Inf P e sz eby ez] (hsm : len * sz ≤ 16777216) (parts : Array (Nat × Value)) (rcs : Array Value) (w : World)
    (hf : Instr.fill (fun i => some (i * sz, sz)) ((Array.range (len * sz)).map (ez.cells[· % ez.cells.size]!)) parts.toList = some rcs) :
    (Instr.buildSlice t len parts).run P w = .ok (.slice (some ⟨w.heap.size, 0, none⟩) len len) (w.alloc (.cells rcs e)) := by
  have hlt : ¬ (len * sz > 16777216) := by omega
  unfold Instr.buildSlice
  simp only [Sem.run_bind, run_und (P := P) (t := t) w, Result.andThen_ok, run_size (P := P) (t := e) w]
  by_cases h0 : len * sz = 0
  · have e0 : ((Array.range (len * sz)).map (ez.cells[· % ez.cells.size]!)) = #[] := by rw [h0]; simp
    rw [e0] at hf
    have e1 : ((Array.range (len * sz)).map fun i => (#[] : Array Value)[i % (#[] : Array Value).size]!) = #[] := by rw [h0]; simp
    rw [if_neg hlt, if_pos h0]
    simp only [Sem.run_bind, Sem.run_pure, Result.andThen_ok, e1, hf, newRow, run_newObj, World.alloc_eq]
  · rw [if_neg hlt, if_neg h0]
    simp only [Sem.run_bind, Sem.run_pure, Result.andThen_ok, run_zero (P := P) (t := e) w, hf, newRow, run_newObj, World.alloc_eq]

/-- A slice literal, with a token. -/
theorem bs {t e : TypeId} {len : Nat} {esz eby : Nat} {ez : Value} {parts : Array (Nat × Operand)} {vs : List (Nat × AV)} {cs : List AV} [hu : Und P t (.slice e)] [hie : Inf P e (esz + 1) eby ez] (hg : goes ops n T ⟨dd, .buildSlice t len parts, ty, pos, es, gd⟩ = some d)
    (hz : zok (esz + 1) ez = true) (hsm : Nat.ble (len * (esz + 1)) 16777216 = true) (he : evParts st T parts.toList = some vs) (hf : afill (fun i => some (i * (esz + 1), esz + 1)) ((List.replicate len (zrow ez)).flatten) vs = some cs)
    (k : ∀ tk, st.tok tk = false → AOps P n ops rest K E ((d, .view (esz + 1) (chunk (esz + 1) len cs) (.own tk e)) :: T) (st.addTok tk)) : AOps P n ops (⟨dd, .buildSlice t len parts, ty, pos, es, gd⟩ :: rest) K E T st := by
  refine AOps.stepAny hg fun g w a hs hk => ?_
  obtain ⟨z1, z2, z3, z4⟩ := zok_spec hz
  obtain ⟨hl, hr⟩ := evParts_R hs hk _ _ he
  have hsm' := Nat.ble_le hsm
  have hfl : ((List.replicate len (zrow ez)).flatten).length = len * (esz + 1) := by simp [z3]
  obtain ⟨rcs, f1, f2, f3, f4⟩ := afill_run (g := g) (w := w) vs (parts.toList.map fun (i, x) => (i, a.eval x)) _ ((Array.range (len * (esz + 1))).map (ez.cells[· % ez.cells.size]!)) cs hf hl hr (by rw [hfl]; simp)
    (fun c hc => by
      simp only [List.mem_flatten, List.mem_replicate] at hc
      obtain ⟨l, ⟨_, rfl⟩, h⟩ := hc
      exact z4 c h)
    (fun i c v hc hv => by
      have hi : i < len * (esz + 1) := by rw [← hfl]; exact (List.getElem?_eq_some_iff.1 hc).1
      rw [flatten_replicate_get (by rw [z3]; omega) len i (by rw [z3]; exact hi), z3] at hc
      obtain ⟨u, h1, h2⟩ := zrow_get hc g w
      simp only [Array.getElem?_map, Array.getElem?_range, hi, if_true, Option.map_some, Option.some.injEq, z1] at hv
      rw [getElem!_def, h1] at hv
      simp only at hv
      rw [← hv]
      exact h2)
  have hrcs : rcs.size = len * (esz + 1) := by
    rw [← f2, afill_length vs _ cs hf, hfl]
  have hlen := length_chunk (esz + 1) len cs
  have hcsl : cs.length = len * (esz + 1) := by rw [f2, hrcs]
  have hrow : ∀ i row, (chunk (esz + 1) len cs)[i]? = some row → i < len ∧ row = (cs.drop (i * (esz + 1))).take (esz + 1) := fun i row h =>
    ⟨by have := (List.getElem?_eq_some_iff.1 h).1; rwa [hlen] at this, chunk_get (esz + 1) len cs i row h⟩
  have hlm : len ≤ maxLen := by have h9 := Nat.le_mul_of_pos_right len (show 0 < esz + 1 by omega); unfold maxLen; omega
  obtain ⟨g', tk, het, hs', hR, hf2, _⟩ := hs.newView e (esz + 1) len (chunk (esz + 1) len cs) rcs (Nat.succ_pos _) (by rw [hlen]; exact Nat.le_refl _) hlm hrcs
    (fun row hr => by
      obtain ⟨i, hi, rfl⟩ := List.getElem_of_mem hr
      obtain ⟨h1, h2⟩ := hrow i _ (List.getElem?_eq_getElem hi)
      rw [h2]
      have := Nat.mul_le_mul_right (esz + 1) (show i + 1 ≤ len from h1)
      rw [Nat.add_mul, Nat.one_mul] at this
      simp; omega)
    (fun row hr c hc => by
      obtain ⟨i, hi, rfl⟩ := List.getElem_of_mem hr
      obtain ⟨_, h2⟩ := hrow i _ (List.getElem?_eq_getElem hi)
      rw [h2] at hc
      exact f3 c (List.mem_of_mem_drop (List.mem_of_mem_take hc)))
    (fun i j row c hr hc => by
      obtain ⟨h1, rfl⟩ := hrow i row hr
      have hj : j < esz + 1 := by
        have := (List.getElem?_eq_some_iff.1 hc).1
        simp at this; omega
      rw [List.getElem?_take_of_lt hj, List.getElem?_drop] at hc
      have hlt := mul_add_lt h1 hj
      exact ⟨rcs[i * (esz + 1) + j]'(by omega), by simp [show i * (esz + 1) + j < rcs.size by omega], f4 _ c _ hc (by simp [show i * (esz + 1) + j < rcs.size by omega])⟩)
  rw [hlen] at hR
  refine ⟨.slice (some ⟨w.heap.size, 0, none⟩) len len, g', w.alloc (.cells rcs e), _, _, ?_, het, hs', hR, k tk hf2⟩
  have := run_buildSlice (P := P) (t := t) (e := e) (len := len) hsm' (parts.map fun (i, x) => (i, a.eval x)) rcs w (by rw [Array.toList_map]; exact f1)
  simp [execOp, this]

end
end Go.AM
