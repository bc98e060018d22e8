/- Rules for make, append and reslicing. No conditions: definitions and lemmas only. -/
import Derived.Test.YtmpifmapdmhgkaaDoorAM7
namespace Go.AM
open Go.RowKit (Below)

section
variable {P : Program} {n : Nat} {K : Post} {E : EPost} {T : Tmps} {st : St} {ops : Array Oper} {rest : List Oper}
variable {ty : TypeId} {pos : String} {es : Array Edge} {gd : Option (Nat × Bool)} {d : Tmp} {x y : Operand} {dd : Option Tmp}

theorem replicate_get {α : Type} {a b : α} {n i : Nat} (h : (List.replicate n a)[i]? = some b) : i < n ∧ b = a := by
  rw [List.getElem?_replicate] at h
  split at h
  · rename_i hi; exact ⟨hi, (Option.some.inj h).symm⟩
  · cases h

/-- make, as a mutable object. -/
theorem mk {t e : TypeId} {esz by_ : Nat} {ez : Value} [hu : Und P t (.slice e)] [hie : Inf P e (esz + 1) by_ ez] {k k' : IntKind} {len cap : Nat} (hg : goes ops n T ⟨dd, .makeSlice t x y, ty, pos, es, gd⟩ = some d)
    (hx : ev st T x = some (.int k (len : Int))) (hy : ev st T y = some (.int k' (cap : Int))) (hz : zok (esz + 1) ez = true) (hlc : len ≤ cap) (hb : cap * by_ ≤ 140737488355328) (hc : cap < 9223372036854775808)
    (kk : ∀ o, st.obj o = none → AOps P n ops rest K E ((d, .msl o (esz + 1) 0 len) :: T) (st.set o (.cells e (esz + 1) (List.replicate cap (zrow ez))))) : AOps P n ops (⟨dd, .makeSlice t x y, ty, pos, es, gd⟩ :: rest) K E T st := by
  refine AOps.stepAny hg fun g w a hs hk => ?_
  obtain ⟨z1, z2, z3, z4⟩ := zok_spec hz
  have h1 := ev_R hs hk hx
  have h2 := ev_R hs hk hy
  generalize hux : a.eval x = ux at h1
  generalize huy : a.eval y = uy at h2
  cases h1
  cases h2
  obtain ⟨inf, i1, i2, i3, i4⟩ := hie.out
  have hrun := run_make (P := P) w t e inf ez hu.out i1 i4 k k' len cap (by omega) (by omega) (by
    rw [i3]
    have : ((cap * by_ : Nat) : Int) ≤ 140737488355328 := Int.ofNat_le.2 hb
    rw [Int.natCast_mul, Int.mul_comm] at this
    exact Int.le_trans this (by decide)) (by omega)
  simp only [Int.toNat_natCast, i2] at hrun
  obtain ⟨g', he, hs', hob, hnone⟩ := hs.newObj (.cells (madeCells ez.cells (cap * (esz + 1))) e) (.cells e (esz + 1) (List.replicate cap (zrow ez))) (cap * (esz + 1))
    (fun g' _ => ⟨_, heap_alloc_new w _, size_madeCells _ _, by simp, fun row hr => by rw [(List.mem_replicate.1 hr).2, z3], fun row hr => by rw [(List.mem_replicate.1 hr).2]; exact z4, fun i j row c hr hc => by
      obtain ⟨hi, rfl⟩ := replicate_get hr
      have hj : j < esz + 1 := by rw [← z3]; exact (List.getElem?_eq_some_iff.1 hc).1
      have hlt := mul_add_lt hi hj
      obtain ⟨v, h1, h2⟩ := zrow_get hc g' (w.alloc (.cells (madeCells ez.cells (cap * (esz + 1))) e))
      refine ⟨v, ?_, h2⟩
      have hmod : (i * (esz + 1) + j) % (esz + 1) = j := by rw [Nat.mul_comm, Nat.mul_add_mod, Nat.mod_eq_of_lt hj]
      simp only [madeCells, Array.getElem?_map, Array.getElem?_range, hlt, if_true, Option.map_some, Option.some.injEq, z1, hmod]
      rw [getElem!_def, h1]⟩)
  refine ⟨.slice (some ⟨w.heap.size, 0, none⟩) len cap, g', _, _, _, by simp only [execOp, hux, huy, Sem.run_bind, hrun, Sem.run_pure, Result.andThen_ok], he, hs', ?_, kk g.next hnone⟩
  have := R.msl (w := w.alloc (.cells (madeCells ez.cells (cap * (esz + 1))) e)) g.next (esz + 1) 0 len cap w.heap.size (cap * (esz + 1)) hob hlc (by unfold maxLen; omega) (by simp)
  simpa using this

/-! ### Append -/

/-- The cells of a slice, as a list. -/
def flatV (f : Nat → Nat → Value) (len sz : Nat) : List Value := (List.range (len * sz)).map fun q => f (q / sz) (q % sz)

theorem flatV_length (f : Nat → Nat → Value) (len sz : Nat) : (flatV f len sz).length = len * sz := by simp [flatV]
theorem flatV_get {f : Nat → Nat → Value} {len sz q : Nat} {v : Value} (h : (flatV f len sz)[q]? = some v) : q < len * sz ∧ v = f (q / sz) (q % sz) := by
  have hq : q < len * sz := by rw [← flatV_length f len sz]; exact (List.getElem?_eq_some_iff.1 h).1
  simp only [flatV, List.getElem?_map, List.getElem?_range hq, Option.map_some, Option.some.injEq] at h
  exact ⟨hq, h.symm⟩
theorem flatV_at (f : Nat → Nat → Value) {len sz i j : Nat} (hi : i < len) (hj : j < sz) : (flatV f len sz)[i * sz + j]? = some (f i j) := by
  have hlt := mul_add_lt hi hj
  have hsz : 0 < sz := by omega
  simp only [flatV, List.getElem?_map, List.getElem?_range hlt, Option.map_some, Option.some.injEq]
  rw [Nat.mul_comm i sz, Nat.mul_add_div hsz, Nat.mul_add_mod, Nat.div_eq_of_lt hj, Nat.mod_eq_of_lt hj, Nat.add_zero]

theorem mem_flatV {f : Nat → Nat → Value} {len sz : Nat} {u : Value} (h : u ∈ flatV f len sz) : ∃ i j, i < len ∧ j < sz ∧ u = f i j := by
  obtain ⟨q, hq, rfl⟩ := List.getElem_of_mem h
  obtain ⟨h1, h2⟩ := flatV_get (List.getElem?_eq_getElem hq)
  have hsz : 0 < sz := by
    rcases Nat.eq_zero_or_pos sz with h | h
    · subst h; simp at h1
    · exact h
  exact ⟨q / sz, q % sz, by rwa [Nat.div_lt_iff_lt_mul hsz], Nat.mod_lt _ hsz, h2⟩

/-- The source of an append: what it holds. -/
theorem src_of {g : G} {w : World} {sz : Nat} {rows : List (List AV)} {tk : Tok} {rv : Value} (h : R g w (.view sz rows tk) rv) :
    ∃ base cap f, rv = .slice base rows.length cap ∧ (base = none → rows = [] ∧ cap = 0) ∧ (∀ (i j : Nat) row c, rows[i]? = some row → row[j]? = some c → R g w c (f i j)) ∧ (∀ row ∈ rows, row.length = sz) ∧ (∀ row ∈ rows, ∀ c ∈ row, c.one = true) ∧
      (∀ b, base = some b → ∀ (q : Nat) v, (flatV f rows.length sz)[q]? = some v → w.cell? (b.add q) = some v) ∧ (∀ u ∈ flatV f rows.length sz, u.oneCell' = true) := by
  cases h with
  | vnil _ _ ht => exact ⟨none, 0, fun _ _ => undef, rfl, fun _ => ⟨rfl, rfl⟩, (fun i j row c hr => by simp at hr), (fun row hr => by simp at hr), (fun row hr => by simp at hr), (fun b h => by cases h), fun u hu => by simp [flatV] at hu⟩
  | vemp _ ad => exact ⟨some ad, 0, fun _ _ => undef, rfl, (fun h => by cases h), (fun i j row c hr => by simp at hr), (fun row hr => by simp at hr), (fun row hr => by simp at hr), (fun b h q v hq => by simp [flatV] at hq), fun u hu => by simp [flatV] at hu⟩
  | view _ _ _ b off cap f hc hm hsz h1 ht himm hh =>
    refine ⟨some ⟨b, off, none⟩, cap, f, rfl, fun h => (by cases h), hh, hsz, h1, fun b' hb q v hq => ?_, fun u hu => ?_⟩
    · cases hb
      obtain ⟨h2, rfl⟩ := flatV_get hq
      have hsz' : 0 < sz := by
        rcases Nat.eq_zero_or_pos sz with h | h
        · subst h; simp at h2
        · exact h
      have := (himm (q / sz) (q % sz) (by rwa [Nat.div_lt_iff_lt_mul hsz']) (Nat.mod_lt _ hsz')).2
      rw [Nat.mul_comm (q / sz) sz, Nat.div_add_mod] at this
      rw [addr_add]
      exact this
    · obtain ⟨i, j, hi, hj, rfl⟩ := mem_flatV hu
      have hr := List.getElem?_eq_getElem hi
      have hjl : j < rows[i].length := by rw [hsz _ (List.getElem_mem hi)]; exact hj
      exact (hh i j _ _ hr (List.getElem?_eq_getElem hjl)).one (h1 _ (List.getElem_mem hi) _ (List.getElem_mem hjl))

/-- Where what was appended lies in the new block. -/
theorem appended_get {g : G} {w : World} {sz : Nat} {rows rows2 : List (List AV)} {f f2 : Nat → Nat → Value} (hl : ∀ row ∈ rows, row.length = sz) (hl2 : ∀ row ∈ rows2, row.length = sz)
    (h : ∀ (i j : Nat) row c, rows[i]? = some row → row[j]? = some c → R g w c (f i j)) (h2 : ∀ (i j : Nat) row c, rows2[i]? = some row → row[j]? = some c → R g w c (f2 i j)) (more : List Value) :
    ∀ (i j : Nat) row c, (rows ++ rows2)[i]? = some row → row[j]? = some c → ∃ v, (flatV f rows.length sz ++ flatV f2 rows2.length sz ++ more)[i * sz + j]? = some v ∧ R g w c v := by
  intro i j row c hr hc
  by_cases hi : i < rows.length
  · rw [List.getElem?_append_left hi] at hr
    have hj : j < sz := by rw [← hl row (List.mem_of_getElem? hr)]; exact (List.getElem?_eq_some_iff.1 hc).1
    have hlt := mul_add_lt hi hj
    refine ⟨f i j, ?_, h i j row c hr hc⟩
    rw [List.append_assoc, List.getElem?_append_left (by rw [flatV_length]; exact hlt)]
    exact flatV_at f hi hj
  · rw [List.getElem?_append_right (by omega)] at hr
    have hi2 : i - rows.length < rows2.length := (List.getElem?_eq_some_iff.1 hr).1
    have hj : j < sz := by rw [← hl2 row (List.mem_of_getElem? hr)]; exact (List.getElem?_eq_some_iff.1 hc).1
    have hlt := mul_add_lt hi2 hj
    refine ⟨f2 (i - rows.length) j, ?_, h2 _ j row c hr hc⟩
    have e : i * sz + j = rows.length * sz + ((i - rows.length) * sz + j) := by
      rw [← Nat.add_assoc, ← Nat.add_mul]
      congr 2
      omega
    rw [e, List.append_assoc, List.getElem?_append_right (by rw [flatV_length]; omega), flatV_length, Nat.add_sub_cancel_left, List.getElem?_append_left (by rw [flatV_length]; exact hlt)]
    exact flatV_at f2 hi2 hj

theorem run_append_nothing {t e : TypeId} {sz by_ : Nat} {ez : Value} [hu : Und P t (.slice e)] [hie : Inf P e sz by_ ez] {ty : TypeId} (base : Option Addr) (len cap : Nat) (hlc : len ≤ cap) (b2 : Option Addr) (c2 : Nat) (w : World) :
    (Builtin.append_ #[t, t] ty #[.slice base len cap, .slice b2 0 c2]).run P w = .ok (.slice base len cap) w := by
  cases base with
  | none => cases b2 <;> simp [Builtin.append_, run_und (P := P) (t := t) w, run_size (P := P) (t := e) w, Builtin.lenOf, hlc, Builtin.firstCells, loadCells, loadCellsFrom]
  | some a => cases b2 <;> simp [Builtin.append_, run_und (P := P) (t := t) w, run_size (P := P) (t := e) w, Builtin.lenOf, hlc, Builtin.firstCells, loadCells, loadCellsFrom, storeCells]

/-- A block that is neither an object nor a token's is written above what is immutable. -/
theorem Sim.writeFree {g : G} {w : World} (hs : Sim g w st) (b k : Nat) (cur arr : Array Value) (e : TypeId) (hb : w.heap[b]? = some (.cells cur e (0, 0))) (hbase : g.base ≤ b) (himm : ∀ i, g.imm b i → i < k) (hsame : ∀ i, i < k → arr[i]? = cur[i]?)
    (htoks : ∀ t b' r, st.tok t = true → g.tok t = some (some b', r) → b' ≠ b) (hobjs : ∀ o c b' m, st.obj o = some c → g.obj o = some (b', m) → b' ≠ b) : Ext g w g (w.setRow b arr) ∧ Sim g (w.setRow b arr) st := by
  have hoth : ∀ k, k ≠ b → (w.setRow b arr).heap[k]? = w.heap[k]? := fun k hk => setRow_other w b k arr hk
  have he : Ext g w g (w.setRow b arr) := by
    refine ⟨rfl, Nat.le_refl _, fun _ _ h => h, fun b' i h => ?_, fun _ _ h => h, fun _ _ h => h, ⟨rfl, rfl, rfl, by simp, fun j hj => hoth j (by omega)⟩⟩
    by_cases hbb : b' = b
    · subst hbb
      rw [cell_of_row _ b' i arr e (0, 0) (setRow_heap w b' cur arr e (0, 0) hb), cell_of_row w b' i cur e (0, 0) hb]
      exact hsame i (himm i h)
    · exact World.cell?_of_block (w := w) (hoth b' hbb)
  refine ⟨he, by simp; exact hs.base, fun o c hc => ?_, hs.inj, fun t ht => ?_, hs.tobj, hs.tinj, fun b i h => by simp; exact hs.immlt b i h, fun o b m h => by simp; exact hs.objlt o b m h, fun t b r h => by simp; exact hs.toklt t b r h, hs.fresh, fun gi row h => (hs.globs gi row h).ext he⟩
  · obtain ⟨b', m, h1, h2, h3, h4⟩ := hs.objs o c hc
    exact ⟨b', m, h1, h2, h3.mono he (hoth b' (hobjs o c b' m hc h1)), h4⟩
  · obtain ⟨⟨b', len, cap, e', size⟩, h1, h2⟩ := hs.toks t ht
    refine ⟨_, h1, ?_⟩
    cases b' with
    | none => exact h2
    | some b' =>
      obtain ⟨a1, a2, a3, a4, ⟨cur', a5, a6⟩, a7⟩ := h2
      exact ⟨a1, a2, a3, a4, ⟨cur', (hoth b' (htoks t b' _ ht h1)).trans a5, a6⟩, a7⟩

/-- More of such a block never changes again. -/
theorem Sim.immMore {g : G} {w : World} (hs : Sim g w st) (b : Nat) (p : Nat → Prop) (hlt : b < w.heap.size) (htoks : ∀ t b' r, st.tok t = true → g.tok t = some (some b', r) → b' ≠ b) (hobjs : ∀ o c b' m, st.obj o = some c → g.obj o = some (b', m) → b' ≠ b) :
    ∃ g', Ext g w g' w ∧ Sim g' w st ∧ (∀ i, g'.imm b i ↔ g.imm b i ∨ p i) ∧ g'.obj = g.obj ∧ g'.tok = g.tok ∧ g'.next = g.next ∧ g'.base = g.base := by
  let g' : G := { g with imm := fun k i => g.imm k i ∨ (k = b ∧ p i) }
  have he : Ext g w g' w := ⟨rfl, Nat.le_refl _, fun _ _ h => .inl h, fun _ _ _ => rfl, fun _ _ h => h, fun _ _ h => h, Below.refl _ _⟩
  refine ⟨g', he, ⟨hs.base, fun o c hc => ?_, hs.inj, fun t ht => ?_, hs.tobj, hs.tinj, ?_, hs.objlt, hs.toklt, hs.fresh, fun gi row h => (hs.globs gi row h).ext he⟩, fun i => ⟨fun h => h.imp id (fun h => h.2), fun h => h.imp id (fun h => ⟨rfl, h⟩)⟩, rfl, rfl, rfl, rfl⟩
  · obtain ⟨b', m, h1, h2, h3, h4⟩ := hs.objs o c hc
    refine ⟨b', m, h1, h2, h3.mono he rfl, fun i hi => ?_⟩
    rcases hi with hi | ⟨hi, _⟩
    · exact h4 i hi
    · exact hobjs o c b' m hc h1 hi
  · obtain ⟨⟨b', len, cap, e', size⟩, h1, h2⟩ := hs.toks t ht
    refine ⟨_, h1, ?_⟩
    cases b' with
    | none => exact h2
    | some b' =>
      obtain ⟨a1, a2, a3, a4, a5, a7⟩ := h2
      refine ⟨a1, a2, a3, a4, a5, fun i hi hi' => ?_⟩
      rcases hi' with hi' | ⟨hi', _⟩
      · exact a7 i hi hi'
      · exact htoks t b' _ ht h1 hi'
  · intro k i hi
    rcases hi with hi | ⟨hi, _⟩
    · exact hs.immlt k i hi
    · omega

/-- What an append does: the outcome is a view of all rows, with a token. -/
theorem append_view {g : G} {w : World} (hs : Sim g w st) {t e : TypeId} {sz by_ : Nat} {ez : Value} [hu : Und P t (.slice e)] [hie : Inf P e sz by_ ez] (hsz : 0 < sz) (hz : zok sz ez = true) {ty : TypeId} {rows rows2 : List (List AV)} {tk : Nat} {tk2 : Tok} {ux uy : Value}
    (h1 : R g w (.view sz rows (.own tk e)) ux) (h2 : R g w (.view sz rows2 tk2) uy) (htk : st.tok tk = true) (hb : (rows.length + rows2.length) * by_ ≤ 140737488355328) (hm : rows.length + rows2.length ≤ maxLen) :
    ∃ v w' g' tk', (Builtin.append_ #[t, t] ty #[ux, uy]).run P w = .ok v w' ∧ Ext g w g' w' ∧ Sim g' w' ((st.untok tk).addTok tk') ∧ R g' w' (.view sz (rows ++ rows2) (.own tk' e)) v ∧ st.tok tk' = false := by
  obtain ⟨z1, z2, z3, z4⟩ := zok_spec hz
  obtain ⟨inf, i1, i2, i3, i4⟩ := hie.out
  obtain ⟨base2, cap2, f2, rfl, hnil2, hR2, hl2, h12, hcell2, hone2⟩ := src_of h2
  have hm64 : rows.length + rows2.length ≤ 9223372036854775807 := by simp only [maxLen] at hm; omega
  have hs0 := hs.le (StLe.untok (st := st) tk)
  have hnew : ∀ {tk' : Nat}, tk' ≠ tk → (st.untok tk).tok tk' = false → st.tok tk' = false := by
    intro tk' hne h
    simp only [St.untok, hne, if_false] at h
    exact h
  have hlt := hs.tok_lt htk
  subst i2
  cases h1 with
  | vnil _ _ ht =>
    simp only [List.length_nil, Nat.zero_add, List.nil_append] at *
    by_cases h0 : rows2.length = 0
    · have h00 : rows2 = [] := List.eq_nil_of_length_eq_zero h0
      subst h00
      obtain ⟨g', he, hs', htk', hf⟩ := hs0.nilTok e
      exact ⟨_, w, g', g.next, run_append_nothing none 0 0 (Nat.le_refl _) base2 cap2 w, he, hs', .vnil _ _ (TokAt.mkOwn rfl htk' (fun h => absurd rfl h)), hnew (by omega) hf⟩
    · obtain ⟨ad, rfl⟩ : ∃ ad, base2 = some ad := by
        cases base2 with
        | none => exact absurd (by rw [(hnil2 rfl).1]; rfl) h0
        | some ad => exact ⟨ad, rfl⟩
      have hr := run_append_nil (P := P) w t ty e inf ez hu.out i1 i4 ad rows2.length cap2 (flatV f2 rows2.length inf.size) (flatV_length _ _ _) (hcell2 ad rfl) (by omega) (by omega) (by rw [i3]; omega)
      have hge := grownCap_ge w rows2.length 0 e
      have hgm := grownCap_le_maxLen w rows2.length 0 e (by simpa using hm)
      obtain ⟨hed, hsd⟩ := hs0.draw
      obtain ⟨g', tk', he, hs', hR, hf, htn⟩ := hsd.newView e inf.size (grownCap w rows2.length 0 e) rows2 ((flatV f2 rows2.length inf.size).toArray ++ Builtin.zeroCells ez.cells (grownCap w rows2.length 0 e - rows2.length)) hsz hge hgm
        (by simp only [Array.size_append, List.size_toArray, flatV_length, size_zeroCells, z1, ← Nat.add_mul]; congr 1; omega) hl2 h12
        (fun i j row c hr hc => by
          obtain ⟨v, hv, hR⟩ := appended_get (g := g) (w := w) (rows := []) (f := f2) (fun row hr => by simp at hr) hl2 (fun i j row c hr => by simp at hr) hR2 (Builtin.zeroCells ez.cells (grownCap w rows2.length 0 e - rows2.length)).toList i j row c (by simpa using hr) hc
          refine ⟨v, ?_, hR.ext hed⟩
          rw [← Array.getElem?_toList]
          simpa [flatV] using hv)
      have hne : tk' ≠ tk := by omega
      exact ⟨_, _, g', tk', hr, hed.trans he, hs', hR, hnew hne hf⟩
  | view _ _ _ b off cap f hc hmx hl h1x ht himm hh =>
    obtain ⟨rfl, sz', hszeq, htk'⟩ := ht
    have hsz' := hszeq (by simp)
    subst hsz'
    obtain ⟨hbase, _, _, _, ⟨cur, hcur, hcs⟩, hnimm⟩ := hs.tokOf htk htk'
    have htoks : ∀ t b' r, (st.untok tk).tok t = true → g.tok t = some (some b', r) → b' ≠ b := by
      intro t b' r ht h1 e
      subst e
      simp only [St.untok] at ht
      split at ht
      · cases ht
      · rename_i hne; exact hne (hs.tinj t tk b' r _ ht htk h1 htk')
    have hobjs : ∀ o c b' m, (st.untok tk).obj o = some c → g.obj o = some (b', m) → b' ≠ b := fun o c b' m hc h1 e => hs.tobj tk o c b _ m htk hc htk' (e ▸ h1)
    have hblt : b < w.heap.size := (Array.getElem?_eq_some_iff.1 hcur).1
    by_cases h0 : rows2.length = 0
    · have h00 : rows2 = [] := List.eq_nil_of_length_eq_zero h0
      subst h00
      obtain ⟨g', he, hs', htk2, hf⟩ := hs0.ownTok e b rows.length cap inf.size cur hcur hbase hsz hc hmx hcs hnimm htoks hobjs
      refine ⟨_, w, g', g.next, run_append_nothing (some ⟨b, 0, none⟩) rows.length cap hc base2 cap2 w, he, hs', ?_, hnew (by omega) hf⟩
      rw [List.append_nil]
      exact .view _ _ _ b 0 cap f hc hmx hl h1x (TokAt.mkOwn rfl htk2 (fun _ => rfl)) (fun i j hi hj => ⟨he.imm _ _ (himm i j hi hj).1, (himm i j hi hj).2⟩) (fun i j row c hr hcj => (hh i j row c hr hcj).ext he)
    · obtain ⟨ad, rfl⟩ : ∃ ad, base2 = some ad := by
        cases base2 with
        | none => exact absurd (by rw [(hnil2 rfl).1]; rfl) h0
        | some ad => exact ⟨ad, rfl⟩
      have hlen : (rows ++ rows2).length = rows.length + rows2.length := List.length_append
      by_cases hroom : rows.length + rows2.length ≤ cap
      · -- in place
        have hfit : rows.length * inf.size + (flatV f2 rows2.length inf.size).length ≤ cur.size := by rw [flatV_length, hcs, ← Nat.add_mul]; exact Nat.mul_le_mul_right _ hroom
        have hr := run_append_room (P := P) w t ty e inf hu.out i1 b rows.length cap cur hcur ad rows2.length cap2 (flatV f2 rows2.length inf.size) (flatV_length _ _ _) (hcell2 ad rfl) hone2 hroom hfit
        rw [flatV_length] at hfit hr
        generalize harr : (cur.toList.take (rows.length * inf.size) ++ flatV f2 rows2.length inf.size ++ cur.toList.drop (rows.length * inf.size + rows2.length * inf.size)).toArray = arr at hr
        have hmin : min (rows.length * inf.size) cur.size = rows.length * inf.size := by omega
        have hlow : ∀ i, i < rows.length * inf.size → arr[i]? = cur[i]? := by
          intro i hi
          rw [← harr, List.getElem?_toArray, List.append_assoc, List.getElem?_append_left (by simp; omega), List.getElem?_take_of_lt hi, Array.getElem?_toList]
        have hmid : ∀ q, q < rows2.length * inf.size → arr[rows.length * inf.size + q]? = (flatV f2 rows2.length inf.size)[q]? := by
          intro q hq
          rw [← harr, List.getElem?_toArray, List.append_assoc, List.getElem?_append_right (by simp; omega)]
          simp only [List.length_take, Array.length_toList, hmin]
          rw [Nat.add_sub_cancel_left, List.getElem?_append_left (by rw [flatV_length]; exact hq)]
        have hasz : arr.size = cap * inf.size := by
          rw [← harr, ← hcs]
          simp only [List.size_toArray, List.length_append, List.length_take, List.length_drop, Array.length_toList, flatV_length]
          omega
        obtain ⟨he1, hs1⟩ := hs0.writeFree b (rows.length * inf.size) cur arr e hcur hbase (fun i h => by
          rcases Nat.lt_or_ge i (rows.length * inf.size) with h' | h'
          · exact h'
          · exact absurd h (hnimm i h')) hlow htoks hobjs
        obtain ⟨g2, he2, hs2, himm2, hobj2, htok2, hnext2, hbase2⟩ := hs1.immMore b (fun i => i < (rows.length + rows2.length) * inf.size) (by simpa using hblt) htoks hobjs
        obtain ⟨g3, he3, hs3, htk3, hf3⟩ := hs2.ownTok e b (rows.length + rows2.length) cap inf.size arr (setRow_heap w b cur arr e (0, 0) hcur) (by rw [hbase2]; exact hbase) hsz hroom hmx hasz
          (fun i hi h => by
            rw [himm2] at h
            rcases h with h | h
            · exact hnimm i (by rw [Nat.add_mul] at hi; omega) h
            · omega)
          (fun t b' r ht h1 => htoks t b' r ht (by rw [htok2] at h1; exact h1)) (fun o c b' m ho h1 => hobjs o c b' m ho (by rw [hobj2] at h1; exact h1))
        have het := he1.trans (he2.trans he3)
        refine ⟨_, _, g3, g2.next, hr, het, hs3, ?_, hnew (by omega) hf3⟩
        rw [← hlen]
        have hcellrow : ∀ q, (w.setRow b arr).cell? ⟨b, q, none⟩ = arr[q]? := fun q => cell_of_row _ b q arr e (0, 0) (setRow_heap w b cur arr e (0, 0) hcur)
        refine R.view (g := g3) (w := w.setRow b arr) inf.size (rows ++ rows2) (.own g2.next e) b 0 cap (fun i j => arr.getD (i * inf.size + j) undef) (by rw [hlen]; exact hroom) hmx
          (fun row hr => by rcases List.mem_append.1 hr with h | h; exact hl row h; exact hl2 row h) (fun row hr => by rcases List.mem_append.1 hr with h | h; exact h1x row h; exact h12 row h)
          (TokAt.mkOwn rfl (by rw [hlen]; exact htk3) (fun _ => rfl)) (fun i j hi hj => ?_) (fun i j row c hr hcj => ?_)
        · rw [hlen] at hi
          have hlt := mul_add_lt hi hj
          have hle := Nat.mul_le_mul_right inf.size hroom
          refine ⟨he3.imm _ _ ((himm2 _).2 (.inr (by omega))), ?_⟩
          rw [Nat.zero_add, hcellrow, Array.getD_eq_getD_getElem?, Array.getElem?_eq_getElem (by omega)]
          rfl
        · rw [Array.getD_eq_getD_getElem?]
          by_cases hi : i < rows.length
          · rw [List.getElem?_append_left hi] at hr
            have hj : j < inf.size := by rw [← hl row (List.mem_of_getElem? hr)]; exact (List.getElem?_eq_some_iff.1 hcj).1
            have h9 := (himm i j hi hj).2
            rw [Nat.zero_add, cell_of_row w b _ cur e (0, 0) hcur] at h9
            rw [hlow _ (mul_add_lt hi hj), h9]
            exact (hh i j row c hr hcj).ext het
          · rw [List.getElem?_append_right (by omega)] at hr
            have hi2 : i - rows.length < rows2.length := (List.getElem?_eq_some_iff.1 hr).1
            have hj : j < inf.size := by rw [← hl2 row (List.mem_of_getElem? hr)]; exact (List.getElem?_eq_some_iff.1 hcj).1
            have e9 : i * inf.size + j = rows.length * inf.size + ((i - rows.length) * inf.size + j) := by
              rw [← Nat.add_assoc, ← Nat.add_mul]
              congr 2
              omega
            rw [e9, hmid _ (mul_add_lt hi2 hj), flatV_at f2 hi2 hj]
            exact (hR2 _ j row c hr hcj).ext het
      · -- a new block
        have holds : ∀ (q : Nat) v, (flatV f rows.length inf.size)[q]? = some v → w.cell? ((⟨b, 0, none⟩ : Addr).add q) = some v := by
          intro q v hq
          obtain ⟨h2', rfl⟩ := flatV_get hq
          have := (himm (q / inf.size) (q % inf.size) (by rwa [Nat.div_lt_iff_lt_mul hsz]) (Nat.mod_lt _ hsz)).2
          rw [Nat.mul_comm (q / inf.size) inf.size, Nat.div_add_mod] at this
          rw [addr_add]
          exact this
        have hr := run_append_grow (P := P) w t ty e inf ez hu.out i1 i4 ⟨b, 0, none⟩ rows.length cap (flatV f rows.length inf.size) (flatV_length _ _ _) holds ad rows2.length cap2 (flatV f2 rows2.length inf.size) (flatV_length _ _ _) (hcell2 ad rfl) (by omega) (by omega)
          (growslice_fits (by omega) (by rw [i3]; exact hb))
        have hge := grownCap_ge w (rows.length + rows2.length) cap e
        have hgm := grownCap_le_maxLen w (rows.length + rows2.length) cap e hm
        obtain ⟨hed, hsd⟩ := hs0.draw
        obtain ⟨g', tk', he, hs', hR, hf, htn⟩ := hsd.newView e inf.size (grownCap w (rows.length + rows2.length) cap e) (rows ++ rows2)
          ((flatV f rows.length inf.size).toArray ++ (flatV f2 rows2.length inf.size).toArray ++ Builtin.zeroCells ez.cells (grownCap w (rows.length + rows2.length) cap e - (rows.length + rows2.length))) hsz (by rw [hlen]; exact hge) hgm
          (by simp only [Array.size_append, List.size_toArray, flatV_length, size_zeroCells, z1, ← Nat.add_mul]; congr 1; omega)
          (fun row hr => by rcases List.mem_append.1 hr with h | h; exact hl row h; exact hl2 row h) (fun row hr => by rcases List.mem_append.1 hr with h | h; exact h1x row h; exact h12 row h)
          (fun i j row c hr hcj => by
            obtain ⟨v, hv, hR⟩ := appended_get (g := g) (w := w) (f := f) (f2 := f2) hl hl2 hh hR2 (Builtin.zeroCells ez.cells (grownCap w (rows.length + rows2.length) cap e - (rows.length + rows2.length))).toList i j row c hr hcj
            refine ⟨v, ?_, hR.ext hed⟩
            rw [← Array.getElem?_toList]
            simpa using hv)
        rw [hlen] at hR
        exact ⟨_, _, g', tk', hr, hed.trans he, hs', hR, hnew (by omega) hf⟩

/-- append to a slice whose spare room is ours. -/
theorem ap {t e : TypeId} {sz by_ : Nat} {ez : Value} [hu : Und P t (.slice e)] [hie : Inf P e (sz + 1) by_ ez] {rows rows2 : List (List AV)} {tk : Nat} {tk2 : Tok}
    (hg : goes ops n T ⟨dd, .call ⟨.builtin .append, #[x, y], #[t, t]⟩, ty, pos, es, gd⟩ = some d) (hx : ev st T x = some (.view (sz + 1) rows (.own tk e))) (hy : ev st T y = some (.view (sz + 1) rows2 tk2)) (htk : st.tok tk = true)
    (hz : zok (sz + 1) ez = true) (hb : (rows.length + rows2.length) * by_ ≤ 140737488355328) (hm : rows.length + rows2.length ≤ maxLen)
    (k : ∀ tk', st.tok tk' = false → AOps P n ops rest K E ((d, .view (sz + 1) (rows ++ rows2) (.own tk' e)) :: T) ((st.untok tk).addTok tk')) :
    AOps P n ops (⟨dd, .call ⟨.builtin .append, #[x, y], #[t, t]⟩, ty, pos, es, gd⟩ :: rest) K E T st := by
  refine AOps.stepAny hg fun g w a hs hk => ?_
  have h1 := ev_R hs hk hx
  have h2 := ev_R hs hk hy
  generalize hux : a.eval x = ux at h1
  generalize huy : a.eval y = uy at h2
  obtain ⟨v, w', g', tk', hr, he, hs', hR, hf⟩ := append_view (P := P) hs (t := t) (ty := ty) (Nat.succ_pos sz) hz h1 h2 htk hb hm
  exact ⟨v, g', w', _, _, by simp [execOp, resolve, invoke, builtin, hux, huy, hr], he, hs', hR, k tk' hf⟩

/-- append to nil. -/
theorem apn {t e : TypeId} {sz by_ s0 : Nat} {ez : Value} [hu : Und P t (.slice e)] [hie : Inf P e (sz + 1) by_ ez] {rows2 : List (List AV)} {tk2 : Tok}
    (hg : goes ops n T ⟨dd, .call ⟨.builtin .append, #[x, y], #[t, t]⟩, ty, pos, es, gd⟩ = some d) (hx : ev st T x = some (.view s0 [] .nil)) (hy : ev st T y = some (.view (sz + 1) rows2 tk2))
    (hz : zok (sz + 1) ez = true) (hb : rows2.length * by_ ≤ 140737488355328) (hm : rows2.length ≤ maxLen)
    (k : ∀ tk', st.tok tk' = false → AOps P n ops rest K E ((d, .view (sz + 1) rows2 (.own tk' e)) :: T) (st.addTok tk')) :
    AOps P n ops (⟨dd, .call ⟨.builtin .append, #[x, y], #[t, t]⟩, ty, pos, es, gd⟩ :: rest) K E T st := by
  refine AOps.stepAny hg fun g w a hs hk => ?_
  have h1 := ev_R hs hk hx
  have h2 := ev_R hs hk hy
  generalize hux : a.eval x = ux at h1
  generalize huy : a.eval y = uy at h2
  obtain ⟨g1, he1, hs1, htk1, hf1⟩ := hs.nilTok e
  have hrv : ux = .slice none 0 0 := by
    cases h1 with
    | vnil => rfl
    | view _ _ _ _ _ _ _ _ _ _ _ ht' => simp [TokAt] at ht'
  subst hrv
  obtain ⟨v, w', g', tk', hr, he, hs', hR, hf⟩ := append_view (P := P) hs1 (t := t) (ty := ty) (rows := []) (tk := g.next) (Nat.succ_pos sz) hz (.vnil _ _ (TokAt.mkOwn rfl htk1 (fun h => absurd rfl h))) (h2.ext he1) (St.tok_addTok _ _) (by simpa using hb) (by simpa using hm)
  have hne : tk' ≠ g.next := by intro e'; rw [e', St.tok_addTok] at hf; cases hf
  have hf' : st.tok tk' = false := by simpa [St.addTok, hne] using hf
  have hst : StLe (((st.addTok g.next).untok g.next).addTok tk') (st.addTok tk') := ⟨fun _ _ h => h, fun t ht => by
    simp only [St.addTok, St.untok] at ht ⊢
    by_cases h1 : t = tk'
    · simp [h1]
    · simp only [h1, if_false] at ht ⊢
      by_cases h2 : t = g.next
      · subst h2; rw [hf1] at ht; cases ht
      · simp [h2, ht], rfl⟩
  exact ⟨v, g', w', _, _, by simp [execOp, resolve, invoke, builtin, hux, huy, hr], he1.trans he, hs'.le hst, by simpa using hR, k tk' hf'⟩

end
end Go.AM
