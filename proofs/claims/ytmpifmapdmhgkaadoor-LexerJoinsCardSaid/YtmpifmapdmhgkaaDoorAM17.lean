/- Slices inside structs are frozen; calls with frozen arguments whose outcome is new. No conditions: definitions and lemmas only. -/
import Derived.Test.YtmpifmapdmhgkaaDoorAM16
import Derived.Test.YtmpifmapdmhgkaaDoorAM11
namespace Go.AM
open Go.RowKit (Below)

section
variable {P : Program} {n : Nat} {K : Post} {E : EPost} {T : Tmps} {st : St} {ops : Array Oper} {rest : List Oper}

/-- A slice in a struct is frozen. -/
theorem R.frozenAgg {g : G} {w : World} (hs : Sim g w st) {cs : List AV} {i o sz lo len : Nat} {oty : TypeId} {rows : List (List AV)} (hi : cs[i]? = some (.msl o sz lo len)) (ho : st.obj o = some (.cells oty sz rows)) (hl : lo + len ≤ rows.length) {rv : Value} (h : R g w (.agg cs) rv) :
    ∃ g', Ext g w g' w ∧ Sim g' w (st.drop o) ∧ R g' w (.agg (cs.set i (.view sz ((rows.drop lo).take len) .shared))) rv := by
  cases h with
  | agg _ vs hl' h1 hh =>
    have hilt := (List.getElem?_eq_some_iff.1 hi).1
    have hiv : i < vs.size := hl' ▸ hilt
    obtain ⟨g', he, hs', hR⟩ := (hh i _ vs[i] hi (by simp [hiv])).frozen hs ho hl
    refine ⟨g', he, hs', .agg _ _ (by simp [hl']) ?_ ?_⟩
    · intro c hc
      rcases List.mem_or_eq_of_mem_set hc with h | rfl
      · exact h1 _ h
      · rfl
    · intro j c v hc hv
      rw [List.getElem?_set] at hc
      split at hc
      · rename_i e
        subst e
        cases hc
        rw [Array.getElem?_eq_getElem hiv] at hv
        cases hv
        exact hR
      · exact (hh j c v hc hv).ext he

theorem AOps.freezeIn (t i : Nat) {cs : List AV} {o sz lo len : Nat} {oty : TypeId} {rows : List (List AV)} (ht : T.get t = some (.agg cs)) (hi : cs[i]? = some (.msl o sz lo len)) (ho : st.obj o = some (.cells oty sz rows)) (hl : lo + len ≤ rows.length)
    (h : AOps P n ops rest K E ((t, .agg (cs.set i (.view sz ((rows.drop lo).take len) .shared))) :: T) (st.drop o)) : AOps P n ops rest K E T st :=
  AOps.ghost fun g w a hs hk => by
    obtain ⟨rv, h1, h2⟩ := hk t _ ht
    obtain ⟨g', he, hs', hR⟩ := h2.frozenAgg hs hi ho hl
    exact ⟨g', _, _, he, hs', (hk.ext he).cons h1 hR, h⟩

/-- No token, no object. -/
inductive Still : AV → Prop
  | int (k : IntKind) (n : Int) : Still (.int k n)
  | bool (b : Bool) : Still (.bool b)
  | str (l : List UInt8) : Still (.str l)
  | lit (v : Value) : Still (.lit v)
  | agg (cs : List AV) (h : ∀ c ∈ cs, Still c) : Still (.agg cs)
  | view (sz : Nat) (rows : List (List AV)) (h : ∀ row ∈ rows, ∀ c ∈ row, Still c) : Still (.view sz rows .shared)
  | nil (sz : Nat) : Still (.view sz [] .nil)

theorem cell_lt {w : World} {b i : Nat} {v : Value} (h : w.cell? ⟨b, i, none⟩ = some v) : b < w.heap.size := by
  rcases Nat.lt_or_ge b w.heap.size with h' | h'
  · exact h'
  · simp [World.cell?, Array.getElem?_eq_none h'] at h

theorem R.toG0 {g : G} {w : World} {a : AV} {v : Value} (h : R g w a v) : Still a → R (G0 w) w a v := by
  induction h with
  | int => exact fun _ => .int _ _
  | bool => exact fun _ => .bool _
  | str => exact fun _ => .str _
  | lit => exact fun _ => .lit _
  | agg cs vs hl h1 _ ih =>
    intro hs
    cases hs with
    | agg _ hs => exact .agg _ _ hl h1 fun i c v hc hv => ih i c v hc hv (hs c (List.mem_of_getElem? hc))
  | tuple => intro hs; cases hs
  | vnil sz t ht =>
    intro hs
    cases hs with
    | view => exact .vnil _ _ trivial
    | nil => exact .vnil _ _ rfl
  | vemp => exact fun _ => .vemp _ _
  | view sz rows t b off cap f hc hm hsz h1 ht himm _ ih =>
    intro hs
    have key : ∀ t', TokAt (G0 w) t' (some b) off rows.length cap sz → (∀ row ∈ rows, ∀ c ∈ row, Still c) → R (G0 w) w (.view sz rows t') (.slice (some ⟨b, off, none⟩) rows.length cap) := fun t' ht' hst =>
      .view sz rows t' b off cap f hc hm hsz h1 ht' (fun i j hi hj => ⟨cell_lt (himm i j hi hj).2, (himm i j hi hj).2⟩) fun i j row c hr hcj => ih i j row c hr hcj (hst row (List.mem_of_getElem? hr) c (List.mem_of_getElem? hcj))
    cases hs with
    | view _ _ hst => exact key _ trivial hst
    | nil => cases ht
  | eptr => intro hs; cases hs
  | cptr => intro hs; cases hs
  | msl => intro hs; cases hs
  | iter => intro hs; cases hs
  | amap => intro hs; cases hs
  | iface => intro hs; cases hs
  | func => intro hs; cases hs

/-- What is the same in whatever world. -/
inductive Solid : AV → Prop
  | int (k : IntKind) (n : Int) : Solid (.int k n)
  | bool (b : Bool) : Solid (.bool b)
  | str (l : List UInt8) : Solid (.str l)
  | lit (v : Value) : Solid (.lit v)
  | nil (sz : Nat) : Solid (.view sz [] .nil)

theorem Solid.R {a : AV} (hs : Solid a) {g g' : G} {w w' : World} {v : Value} (h : R g w a v) : R g' w' a v := by
  cases hs with
  | int => cases h; exact .int _ _
  | bool => cases h; exact .bool _
  | str => cases h; exact .str _
  | lit => cases h; exact .lit _
  | nil sz =>
    cases h with
    | vnil => exact .vnil _ _ rfl
    | view _ _ _ b off cap f hc hm hsz h1 ht himm hh => cases ht

/-- What a call made anew, or what is the same everywhere. -/
inductive Fresh (st : St) : AV → AV → Prop
  | solid (v : AV) (h : Solid v) : Fresh st v v
  | own (sz : Nat) (rows : List (List AV)) (tk : Nat) (e : TypeId) (ht : st.tok tk = true) (h : ∀ row ∈ rows, ∀ c ∈ row, Solid c) : Fresh st (.view sz rows (.own tk e)) (.view sz rows .shared)
  | tuple (cs cs' : List AV) (hl : cs.length = cs'.length) (h : ∀ (i : Nat) c c', cs[i]? = some c → cs'[i]? = some c' → Fresh st c c') : Fresh st (.tuple cs) (.tuple cs')

/-- The ghost behind a call that was made with all frozen. -/
def G.over (g : G) (w w' : World) (g' : G) : G := { g with imm := fun b i => g.imm b i ∨ (w.heap.size ≤ b ∧ b < w'.heap.size ∧ g'.imm b i) }

theorem Fresh.R {g g' : G} {w w' : World} {st' : St} (hs' : Sim g' w' st') (hb : g'.base = w.heap.size) {v v2 : AV} (hf : Fresh st' v v2) : ∀ {rv : Value}, R g' w' v rv → R (g.over w w' g') w' v2 rv := by
  induction hf with
  | solid v h => exact fun hr => h.R hr
  | own sz rows tk e ht h =>
    intro rv hr
    obtain ⟨r, hr1, hr2⟩ := hs'.toks tk ht
    cases hr with
    | vnil => exact .vnil _ _ trivial
    | view _ _ _ b off cap f hc hm hsz h1 htk himm hh =>
      obtain ⟨_, sz', _, htok⟩ := htk
      rw [hr1] at htok
      cases htok
      obtain ⟨hbase, _, _, _, ⟨cur, hcur, _⟩, _⟩ := hr2
      have hlt : b < w'.heap.size := hs'.toklt tk b _ hr1
      refine .view sz rows .shared b off cap f hc hm hsz h1 trivial (fun i j hi hj => ⟨.inr ⟨hb ▸ hbase, hlt, (himm i j hi hj).1⟩, (himm i j hi hj).2⟩) ?_
      intro i j row c hrow hcj
      exact (h row (List.mem_of_getElem? hrow) c (List.mem_of_getElem? hcj)).R (hh i j row c hrow hcj)
  | tuple cs cs' hl _ ih =>
    intro rv hr
    cases hr with
    | tuple _ vs hl' hh =>
      refine .tuple _ vs (hl ▸ hl') fun i c' v hc' hv => ?_
      have : i < cs.length := by rw [hl]; exact (List.getElem?_eq_some_iff.1 hc').1
      exact ih i _ _ (List.getElem?_eq_getElem this) hc' (hh i _ v (List.getElem?_eq_getElem this) hv)

theorem Sim.over {g g' : G} {w w' : World} (hs : Sim g w st) {st' : St} (_hs' : Sim g' w' st') (hb : Below w.heap.size w w') : Ext g w (g.over w w' g') w' ∧ Sim (g.over w w' g') w' st := by
  have hsz : w.heap.size ≤ w'.heap.size := hb.size
  have he : Ext g w (g.over w w' g') w' := {
    base := rfl
    next := Nat.le_refl _
    imm := fun b i h => .inl h
    cell := fun b i h => hb.cell (p := ⟨b, i, none⟩) (hs.immlt b i h)
    obj := fun o b h => h
    tok := fun t r h => h
    below := hb.mono hs.base }
  have hblk : ∀ b, b < w.heap.size → w'.heap[b]? = w.heap[b]? := fun b h => hb.block b h
  have himm : ∀ b i, b < w.heap.size → ¬ g.imm b i → ¬ (g.over w w' g').imm b i := fun b i h h1 h2 => by
    rcases h2 with h2 | ⟨h2, _⟩
    · exact h1 h2
    · omega
  refine ⟨he, ?_⟩
  exact {
    base := Nat.le_trans hs.base hsz
    objs := fun o c hc => by
      obtain ⟨b, m, h1, h2, h3, h4⟩ := hs.objs o c hc
      have hlt := hs.objlt o b m h1
      exact ⟨b, m, h1, h2, h3.mono he (hblk b hlt), fun i => himm b i hlt (h4 i)⟩
    inj := hs.inj
    toks := fun t ht => by
      obtain ⟨r, h1, h2⟩ := hs.toks t ht
      refine ⟨r, h1, ?_⟩
      obtain ⟨b, len, cap, e, size⟩ := r
      cases b with
      | none => exact h2
      | some b =>
        have hlt := hs.toklt t b _ h1
        obtain ⟨a1, a2, a3, a4, ⟨cur, a5, a6⟩, a7⟩ := h2
        exact ⟨a1, a2, a3, a4, ⟨cur, (hblk b hlt).trans a5, a6⟩, fun i hi => himm b i hlt (a7 i hi)⟩
    tobj := hs.tobj
    tinj := hs.tinj
    immlt := fun b i h => by
      rcases h with h | ⟨_, h, _⟩
      · exact Nat.lt_of_lt_of_le (hs.immlt b i h) hsz
      · exact h
    objlt := fun o b m h => Nat.lt_of_lt_of_le (hs.objlt o b m h) hsz
    toklt := fun t b r h => Nat.lt_of_lt_of_le (hs.toklt t b r h) hsz
    fresh := hs.fresh
    globs := fun gi row h => (hs.globs gi row h).ext he }

def St.bare : St := { obj := fun _ => none, tok := fun _ => false, glob := [] }

/-- A contract for a call whose arguments are frozen as long as it runs. -/
theorem ACalls.fz {f : FuncId} {avs avs' : List AV} {Rt : AV → St → Prop} {Rt2 : AV → Prop} (hc : ACalls P f avs' St.bare Rt (fun _ _ => False))
    (hz : ∀ g w (rargs : Array Value), Sim g w st → avs.length = rargs.size → (∀ (i : Nat) c v, avs[i]? = some c → rargs[i]? = some v → R g w c v) →
      ∃ g', avs'.length = rargs.size ∧ ∀ (i : Nat) c v, avs'[i]? = some c → rargs[i]? = some v → R g' w c v ∧ Still c)
    (hf : ∀ v st', Rt v st' → ∃ v2, Fresh st' v v2 ∧ Rt2 v2) : ACalls P f avs st (fun v st' => Rt2 v ∧ st' = st) (fun _ _ => False) := by
  intro g w rargs hs hl ha
  obtain ⟨g1, hl1, h1⟩ := hz g w rargs hs hl ha
  refine (hc (G0 w) w rargs (Sim0 w [] (fun gi row h => by cases h)) hl1 fun i c v hc hv => (h1 i c v hc hv).1.toG0 (h1 i c v hc hv).2).mono fun e w' ⟨g', st', he, hs', hq⟩ => ?_
  have hb : Below w.heap.size w w' := he.below
  obtain ⟨he2, hs2⟩ := hs.over hs' hb
  refine ⟨_, st, he2, hs2, ?_⟩
  cases e with
  | returned rv =>
    obtain ⟨v, hR, hRt⟩ := hq
    obtain ⟨v2, hfr, hv2⟩ := hf v st' hRt
    exact ⟨v2, hfr.R hs' he.base hR, hv2, rfl⟩
  | panicked ch => obtain ⟨_, _, _, _, h⟩ := hq; exact h.elim
  | outgrown => exact hq.elim

/-- A result that lies in a variable. -/
theorem resC {t : Tmp} {ty oty : TypeId} {td : TypeDesc} {sz by_ : Nat} {z : Value} {o s i off : Nat} {rows : List (List AV)} {row : List AV} {v : AV} {r : List ResultVar} {vs : List AV} [hu : Und P ty td] [hi : Inf P ty sz by_ z]
    (ht : T.get t = some (.cptr o s i off)) (ho : st.obj o = some (.cells oty s rows)) (hr : rows[i]? = some row) (hv : sel (aggD td) sz row off = some v) (h : resA P st T r = some vs) : resA P st T (.cell t ty :: r) = some (v :: vs) := by
  obtain ⟨inf, h1, h2, _⟩ := hi.out
  unfold resA
  simp only [ht, hu.out, h1, h, ho, nbeq_self, cond_true, hr, h2, hv]

theorem resCW {t : Tmp} {ty oty : TypeId} {td : TypeDesc} {sz by_ : Nat} {z : Value} {o s i : Nat} {rows : List (List AV)} {row : List AV} {r : List ResultVar} {vs : List AV} [hu : Und P ty td] [hi : Inf P ty sz by_ z]
    (ht : T.get t = some (.cptr o s i 0)) (ho : st.obj o = some (.cells oty s rows)) (hr : rows[i]? = some row) (ha : aggD td = true) (hl : Nat.beq sz row.length = true) (h : resA P st T r = some vs) : resA P st T (.cell t ty :: r) = some (.agg row :: vs) :=
  resC ht ho hr (by rw [ha]; exact sel_all hl) h

/-- A contract that says less. -/
theorem ACalls.le {f : FuncId} {args : List AV} {Rt Rt' : AV → St → Prop} (h : ACalls P f args st Rt (fun _ _ => False)) (h1 : ∀ v st', Rt v st' → ∃ v2 st2, Le v v2 ∧ StLe st' st2 ∧ Rt' v2 st2) : ACalls P f args st Rt' (fun _ _ => False) :=
  fun g w rargs hs hl ha => (h g w rargs hs hl ha).mono fun e w' ⟨g', st', he, hs', hq⟩ => by
    cases e with
    | returned rv =>
      obtain ⟨v, x1, x2⟩ := hq
      obtain ⟨v2, st2, y1, y2, y3⟩ := h1 v st' x2
      exact ⟨g', st2, he, hs'.le y2, v2, x1.le y1, y3⟩
    | panicked ch => obtain ⟨_, _, _, _, x⟩ := hq; exact x.elim
    | outgrown => exact hq.elim

end
end Go.AM
