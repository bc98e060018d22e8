/- The abstract values of the walk, the relation between them and the model's values in a world, and how it is kept as the world goes on. No conditions: definitions and lemmas only. -/
import Derived.WalkKit
import Derived.Laws.CopyRow
import Derived.Laws.AppendOwn
import Derived.Below
namespace Go.AM
open Go.RowKit (Below)

/-- What may be appended to a slice: nothing is known, it is nil, or its spare room is ours (token t, element type e). -/
inductive Tok where
  | shared
  | nil
  | own (t : Nat) (e : TypeId)

inductive AV where
  | int (k : IntKind) (n : Int)
  | bool (b : Bool)
  | str (l : List UInt8)
  | lit (v : Value)
  | agg (cs : List AV)
  | tuple (vs : List AV)
  | view (sz : Nat) (rows : List (List AV)) (t : Tok)
  | eptr (sz : Nat) (rows : List (List AV)) (i off : Nat)
  | cptr (o sz i off : Nat)
  | msl (o sz lo len : Nat)
  | iter (o : Nat)
  | amap (o : Nat)
  | iface (t : TypeId) (v : AV)
  | func (fn : Fn) (first captured : List AV)

/-- Does it fill one cell? -/
def AV.one : AV → Bool
  | .agg _ | .tuple _ => false
  | .lit v => v.oneCell'
  | _ => true

def AV.cells : AV → List AV
  | .agg cs => cs
  | v => [v]

/-- The ghost: which cells never change again, which block an object is, which slice a token stands for. -/
structure G where
  base : Nat
  next : Nat
  imm : Nat → Nat → Prop
  obj : Nat → Option (Nat × Nat)
  tok : Nat → Option (Option Nat × Nat × Nat × TypeId × Nat)

/-- The tokens of a slice that starts at the head of block b. -/
def TokAt (g : G) (t : Tok) (b : Option Nat) (off len cap sz : Nat) : Prop :=
  match t with
  | .shared => True
  | .nil => b = none
  | .own k e => off = 0 ∧ ∃ sz', (b ≠ none → sz' = sz) ∧ g.tok k = some (b, len, cap, e, sz')

inductive R (g : G) (w : World) : AV → Value → Prop
  | int (k : IntKind) (n : Int) : R g w (.int k n) (.int k n)
  | bool (b : Bool) : R g w (.bool b) (.bool b)
  | str (l : List UInt8) : R g w (.str l) (.string ⟨⟨l⟩⟩)
  | lit (v : Value) : R g w (.lit v) v
  | agg (cs : List AV) (vs : Array Value) (hl : cs.length = vs.size) (h1 : ∀ c ∈ cs, c.one = true)
      (h : ∀ (i : Nat) c v, cs[i]? = some c → vs[i]? = some v → R g w c v) : R g w (.agg cs) (.agg vs)
  | tuple (cs : List AV) (vs : Array Value) (hl : cs.length = vs.size)
      (h : ∀ (i : Nat) c v, cs[i]? = some c → vs[i]? = some v → R g w c v) : R g w (.tuple cs) (.tuple vs)
  | vnil (sz : Nat) (t : Tok) (ht : TokAt g t none 0 0 0 sz) : R g w (.view sz [] t) (.slice none 0 0)
  | vemp (sz : Nat) (a : Addr) : R g w (.view sz [] .shared) (.slice (some a) 0 0)
  | view (sz : Nat) (rows : List (List AV)) (t : Tok) (b off cap : Nat) (f : Nat → Nat → Value) (hc : rows.length ≤ cap) (hm : cap ≤ maxLen)
      (hsz : ∀ row ∈ rows, row.length = sz) (h1 : ∀ row ∈ rows, ∀ c ∈ row, c.one = true) (ht : TokAt g t (some b) off rows.length cap sz)
      (himm : ∀ i j, i < rows.length → j < sz → g.imm b (off + (i * sz + j)) ∧ w.cell? ⟨b, off + (i * sz + j), none⟩ = some (f i j))
      (h : ∀ (i j : Nat) row c, rows[i]? = some row → row[j]? = some c → R g w c (f i j)) :
      R g w (.view sz rows t) (.slice (some ⟨b, off, none⟩) rows.length cap)
  | eptr (sz : Nat) (rows : List (List AV)) (i0 o : Nat) (b off : Nat) (f : Nat → Nat → Value)
      (hsz : ∀ row ∈ rows, row.length = sz) (h1 : ∀ row ∈ rows, ∀ c ∈ row, c.one = true)
      (himm : ∀ i j, i < rows.length → j < sz → g.imm b (off + (i * sz + j)) ∧ w.cell? ⟨b, off + (i * sz + j), none⟩ = some (f i j))
      (h : ∀ (i j : Nat) row c, rows[i]? = some row → row[j]? = some c → R g w c (f i j)) :
      R g w (.eptr sz rows i0 o) (.pointer (some ⟨b, off + (i0 * sz + o), none⟩))
  | cptr (o sz i off b m : Nat) (hb : g.obj o = some (b, m)) : R g w (.cptr o sz i off) (.pointer (some ⟨b, i * sz + off, none⟩))
  | msl (o sz lo len cap b m : Nat) (hb : g.obj o = some (b, m)) (hc : len ≤ cap) (hm : cap ≤ maxLen) (hs : (lo + cap) * sz ≤ m) : R g w (.msl o sz lo len) (.slice (some ⟨b, lo * sz, none⟩) len cap)
  | iter (o b m : Nat) (hb : g.obj o = some (b, m)) : R g w (.iter o) (.pointer (some ⟨b, 0, none⟩))
  | amap (o b m : Nat) (hb : g.obj o = some (b, m)) : R g w (.amap o) (.map (some b))
  | iface (t : TypeId) (a : AV) (v : Value) (h : R g w a v) : R g w (.iface t a) (.iface t v)
  | func (fn : Fn) (cs ds : List AV) (vs us : Array Value) (hl : cs.length = vs.size) (hl' : ds.length = us.size)
      (h : ∀ (i : Nat) c v, cs[i]? = some c → vs[i]? = some v → R g w c v)
      (h' : ∀ (i : Nat) c v, ds[i]? = some c → us[i]? = some v → R g w c v) : R g w (.func fn cs ds) (.func fn vs us)

/-- How the ghost and the world go on. -/
structure Ext (g : G) (w : World) (g' : G) (w' : World) : Prop where
  base : g'.base = g.base
  next : g.next ≤ g'.next
  imm : ∀ b i, g.imm b i → g'.imm b i
  cell : ∀ b i, g.imm b i → w'.cell? ⟨b, i, none⟩ = w.cell? ⟨b, i, none⟩
  obj : ∀ o b, g.obj o = some b → g'.obj o = some b
  tok : ∀ t r, g.tok t = some r → g'.tok t = some r
  below : Below g.base w w'

theorem Ext.refl (g : G) (w : World) : Ext g w g w := ⟨rfl, Nat.le_refl _, fun _ _ h => h, fun _ _ _ => rfl, fun _ _ h => h, fun _ _ h => h, Below.refl _ _⟩

theorem Ext.trans {g g1 g2 : G} {w w1 w2 : World} (h : Ext g w g1 w1) (k : Ext g1 w1 g2 w2) : Ext g w g2 w2 where
  base := k.base.trans h.base
  next := Nat.le_trans h.next k.next
  imm := fun b i hi => k.imm b i (h.imm b i hi)
  cell := fun b i hi => (k.cell b i (h.imm b i hi)).trans (h.cell b i hi)
  obj := fun o b hb => k.obj o b (h.obj o b hb)
  tok := fun t r hr => k.tok t r (h.tok t r hr)
  below := h.below.trans (h.base ▸ k.below)

theorem TokAt.ext {g g' : G} {w w' : World} {t : Tok} {b : Option Nat} {off len cap sz : Nat} (h : TokAt g t b off len cap sz) (e : Ext g w g' w') : TokAt g' t b off len cap sz := by
  cases t with
  | shared => trivial
  | nil => exact h
  | own k ty => obtain ⟨h1, sz', h2, h3⟩ := h; exact ⟨h1, sz', h2, e.tok _ _ h3⟩

theorem R.ext {g g' : G} {w w' : World} {a : AV} {v : Value} (h : R g w a v) (e : Ext g w g' w') : R g' w' a v := by
  induction h with
  | int => exact .int _ _
  | bool => exact .bool _
  | str => exact .str _
  | lit => exact .lit _
  | agg cs vs hl h1 _ ih => exact .agg _ _ hl h1 ih
  | tuple cs vs hl _ ih => exact .tuple _ _ hl ih
  | vnil sz t ht => exact .vnil _ _ (ht.ext e)
  | vemp sz a => exact .vemp _ _
  | view sz rows t b off cap f hc hm hsz h1 ht himm _ ih =>
    exact .view sz rows t b off cap f hc hm hsz h1 (ht.ext e) (fun i j hi hj => ⟨e.imm _ _ (himm i j hi hj).1, (e.cell _ _ (himm i j hi hj).1).trans (himm i j hi hj).2⟩) ih
  | eptr sz rows i0 o b off f hsz h1 himm _ ih =>
    exact .eptr sz rows i0 o b off f hsz h1 (fun i j hi hj => ⟨e.imm _ _ (himm i j hi hj).1, (e.cell _ _ (himm i j hi hj).1).trans (himm i j hi hj).2⟩) ih
  | cptr o sz i off b m hb => exact .cptr _ _ _ _ _ _ (e.obj _ _ hb)
  | msl o sz lo len cap b m hb hc hm hs => exact .msl _ _ _ _ _ _ _ (e.obj _ _ hb) hc hm hs
  | iter o b m hb => exact .iter _ _ _ (e.obj _ _ hb)
  | amap o b m hb => exact .amap _ _ _ (e.obj _ _ hb)
  | iface t a v _ ih => exact .iface _ _ _ ih
  | func fn cs ds vs us hl hl' _ _ ih ih' => exact .func _ _ _ _ _ hl hl' ih ih'

theorem R.one {g : G} {w : World} {a : AV} {v : Value} (h : R g w a v) (h1 : a.one = true) : v.oneCell' = true := by
  cases h <;> first | rfl | exact h1 | (simp [AV.one] at h1)

/-- The cells of a value are those of its abstract value. -/
theorem R.cells {g : G} {w : World} {a : AV} {v : Value} (h : R g w a v) (hn : ∀ x, a ≠ .lit x) : a.cells.length = v.cells.size ∧ (∀ (i : Nat) c u, a.cells[i]? = some c → v.cells[i]? = some u → R g w c u) := by
  have one : ∀ {a : AV} {v : Value}, R g w a v → a.cells = [a] → v.cells = #[v] → a.cells.length = v.cells.size ∧ (∀ (i : Nat) c u, a.cells[i]? = some c → v.cells[i]? = some u → R g w c u) := by
    intro a v h ha hv
    rw [ha, hv]
    refine ⟨rfl, fun i c u h1 h2 => ?_⟩
    cases i with
    | zero => simp at h1 h2; subst h1; subst h2; exact h
    | succ i => simp at h1
  cases h with
  | lit v => exact absurd rfl (hn v)
  | agg cs vs hl h1 hh => exact ⟨hl, hh⟩
  | int k n => exact one (.int k n) rfl rfl
  | bool b => exact one (.bool b) rfl rfl
  | str l => exact one (.str l) rfl rfl
  | tuple cs vs hl hh => exact one (.tuple cs vs hl hh) rfl rfl
  | vnil sz t ht => exact one (.vnil sz t ht) rfl rfl
  | vemp sz a => exact one (.vemp sz a) rfl rfl
  | view sz rows t b off cap f hc hm hsz h1 ht himm hh => exact one (.view sz rows t b off cap f hc hm hsz h1 ht himm hh) rfl rfl
  | eptr sz rows i0 o b off f hsz h1 himm hh => exact one (.eptr sz rows i0 o b off f hsz h1 himm hh) rfl rfl
  | cptr o sz i off b m hb => exact one (.cptr o sz i off b m hb) rfl rfl
  | msl o sz lo len cap b m hb hc hm hs => exact one (.msl o sz lo len cap b m hb hc hm hs) rfl rfl
  | iter o b m hb => exact one (.iter o b m hb) rfl rfl
  | amap o b m hb => exact one (.amap o b m hb) rfl rfl
  | iface t a v hh => exact one (.iface t a v hh) rfl rfl
  | func fn cs ds vs us hl hl' hh hh' => exact one (.func fn cs ds vs us hl hl' hh hh') rfl rfl

/-! ### Weakening -/

/-- v' says no more than v. -/
inductive Le : AV → AV → Prop
  | refl (v : AV) : Le v v
  | shared (sz : Nat) (rows : List (List AV)) (t : Tok) : Le (.view sz rows t) (.view sz rows .shared)
  | nil (sz sz' : Nat) : Le (.view sz [] .nil) (.view sz' [] .nil)
  | nilShared (sz sz' : Nat) : Le (.view sz [] .nil) (.view sz' [] .shared)
  | agg (cs cs' : List AV) (hl : cs.length = cs'.length) (h1 : ∀ c ∈ cs', c.one = true) (h : ∀ (i : Nat) c c', cs[i]? = some c → cs'[i]? = some c' → Le c c') : Le (.agg cs) (.agg cs')
  | tuple (cs cs' : List AV) (hl : cs.length = cs'.length) (h : ∀ (i : Nat) c c', cs[i]? = some c → cs'[i]? = some c' → Le c c') : Le (.tuple cs) (.tuple cs')
  | iface (t : TypeId) (a a' : AV) (h : Le a a') : Le (.iface t a) (.iface t a')
  | view (sz : Nat) (rows rows' : List (List AV)) (t : Tok) (hl : rows.length = rows'.length) (h1 : ∀ row ∈ rows', ∀ c ∈ row, c.one = true)
      (hl2 : ∀ (i : Nat) row row', rows[i]? = some row → rows'[i]? = some row' → row.length = row'.length)
      (h : ∀ (i j : Nat) row row' c c', rows[i]? = some row → rows'[i]? = some row' → row[j]? = some c → row'[j]? = some c' → Le c c') : Le (.view sz rows t) (.view sz rows' t)
  | trans (a b c : AV) (h : Le a b) (k : Le b c) : Le a c

theorem R.le {g : G} {w : World} {a a' : AV} (hle : Le a a') : ∀ {v : Value}, R g w a v → R g w a' v := by
  induction hle with
  | refl v => exact fun h => h
  | shared sz rows t =>
    intro v h
    cases h with
    | vnil _ _ ht => exact .vnil _ _ trivial
    | vemp => exact .vemp _ _
    | view _ _ _ b off cap f hc hm hsz h1 ht himm hh => exact .view _ _ _ b off cap f hc hm hsz h1 trivial himm hh
  | nil sz sz' =>
    intro v h
    cases h with
    | vnil _ _ ht => exact .vnil _ _ rfl
    | view _ _ _ b off cap f hc hm hsz h1 ht himm hh => simp [TokAt] at ht
  | nilShared sz sz' =>
    intro v h
    cases h with
    | vnil _ _ ht => exact .vnil _ _ trivial
    | view _ _ _ b off cap f hc hm hsz h1 ht himm hh => simp [TokAt] at ht
  | agg cs cs' hl h1 _ ih =>
    intro v h
    cases h with
    | agg _ vs hl' _ hh =>
      refine .agg _ vs (hl ▸ hl') h1 fun i c' v hc' hv => ?_
      have : i < cs.length := by rw [hl]; exact (List.getElem?_eq_some_iff.1 hc').1
      exact ih i _ _ (List.getElem?_eq_getElem this) hc' (hh i _ v (List.getElem?_eq_getElem this) hv)
  | tuple cs cs' hl _ ih =>
    intro v h
    cases h with
    | tuple _ vs hl' hh =>
      refine .tuple _ vs (hl ▸ hl') fun i c' v hc' hv => ?_
      have : i < cs.length := by rw [hl]; exact (List.getElem?_eq_some_iff.1 hc').1
      exact ih i _ _ (List.getElem?_eq_getElem this) hc' (hh i _ v (List.getElem?_eq_getElem this) hv)
  | iface t a a' _ ih =>
    intro v h
    cases h with
    | iface _ _ v hh => exact .iface _ _ _ (ih hh)
  | view sz rows rows' t hl h1 hl2 _ ih =>
    intro v h
    cases h with
    | vnil _ _ ht =>
      have : rows' = [] := List.eq_nil_of_length_eq_zero (by simpa using hl.symm)
      subst this
      exact .vnil _ _ ht
    | vemp _ ad =>
      have : rows' = [] := List.eq_nil_of_length_eq_zero (by simpa using hl.symm)
      subst this
      exact .vemp _ _
    | view _ _ _ b off cap f hc hm hsz _ ht himm hh =>
      have e : rows.length = rows'.length := hl
      rw [e]
      refine .view sz rows' t b off cap f (e ▸ hc) hm ?_ h1 (e ▸ ht) (fun i j hi hj => himm i j (e ▸ hi) hj) ?_
      · intro row' hrow'
        obtain ⟨i, hi, rfl⟩ := List.getElem_of_mem hrow'
        have hlt : i < rows.length := by omega
        rw [← hl2 i rows[i] rows'[i] (List.getElem?_eq_getElem hlt) (List.getElem?_eq_getElem hi)]
        exact hsz _ (List.getElem_mem hlt)
      · intro i j row' c' hr hc'
        have hi : i < rows'.length := (List.getElem?_eq_some_iff.1 hr).1
        have hlt : i < rows.length := by omega
        have hj : j < row'.length := (List.getElem?_eq_some_iff.1 hc').1
        have hjl : j < rows[i].length := by rw [hl2 i rows[i] row' (List.getElem?_eq_getElem hlt) hr]; exact hj
        exact ih i j _ _ _ _ (List.getElem?_eq_getElem hlt) hr (List.getElem?_eq_getElem hjl) hc' (hh i j _ _ (List.getElem?_eq_getElem hlt) (List.getElem?_eq_getElem hjl))
  | trans a b c _ _ ih ih' => exact fun h => ih' (ih h)

end Go.AM
