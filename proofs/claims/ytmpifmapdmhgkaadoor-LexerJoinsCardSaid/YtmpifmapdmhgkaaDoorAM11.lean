/- From the readings that a claim gives to abstract values, and back to what a claim asks of the end. No conditions: definitions and lemmas only. -/
import Derived.Test.YtmpifmapdmhgkaaDoorAM10
import Derived.ProofKit
import Derived.DataReads
import Derived.Carry
import Derived.OpenShut
namespace Go.AM
open Go.RowKit (Below)

/-- Cells of a type, as abstract values. -/
def HasTy (P : Program) : Nat → TypeId → List AV → Prop
  | 0, _, _ => False
  | n + 1, t, cs => match P.underlying t with
    | some .bool => ∃ b, cs = [.bool b]
    | some (.int k) => ∃ x, cs = [.int k x] ∧ (Lit.int k x).wf = true
    | some .string => ∃ l : List UInt8, cs = [.str l] ∧ l.length ≤ maxLen
    | some (.slice e) => ∃ rows : List (List AV), cs = [.view (P.cellsOf e) rows .shared] ∧ rows.length ≤ maxLen ∧ ∀ row ∈ rows, HasTy P n e row
    | some (.struct fs) => cs.length = P.cellsOf t ∧ ∀ f ∈ fs.toList, HasTy P n f.type ((cs.drop f.offset).take (P.cellsOf f.type))
    | some (.array m e) => cs.length = P.cellsOf t ∧ ∀ i, i < m → HasTy P n e ((cs.drop (i * P.cellsOf e)).take (P.cellsOf e))
    | _ => False

/-- Lists of cells, related one by one. -/
structure RL (g : G) (w : World) (as : List AV) (vs : List Value) : Prop where
  len : as.length = vs.length
  one : ∀ c ∈ as, c.one = true
  rel : ∀ (i : Nat) c v, as[i]? = some c → vs[i]? = some v → R g w c v

theorem RL.nil (g : G) (w : World) : RL g w [] [] := ⟨rfl, (fun c h => by cases h), (fun i c v h => by simp at h)⟩
theorem RL.append {g : G} {w : World} {as bs : List AV} {vs us : List Value} (h : RL g w as vs) (k : RL g w bs us) : RL g w (as ++ bs) (vs ++ us) := by
  refine ⟨by rw [List.length_append, List.length_append, h.len, k.len], fun c hc => (List.mem_append.1 hc).elim (h.one c) (k.one c), fun i c v hc hv => ?_⟩
  by_cases hi : i < as.length
  · rw [List.getElem?_append_left hi] at hc
    rw [List.getElem?_append_left (by rw [← h.len]; exact hi)] at hv
    exact h.rel i c v hc hv
  · rw [List.getElem?_append_right (by omega)] at hc
    rw [List.getElem?_append_right (by have := h.len; omega), ← h.len] at hv
    exact k.rel _ c v hc hv
theorem RL.single {g : G} {w : World} {a : AV} {v : Value} (h1 : a.one = true) (h : R g w a v) : RL g w [a] [v] :=
  ⟨rfl, fun c hc => by simp at hc; subst hc; exact h1, fun i c u hc hu => by
    cases i with
    | zero => simp at hc hu; subst hc; subst hu; exact h
    | succ i => simp at hc⟩

/-- Do fields of these offsets and sizes lie one behind the other from here on, to the end? -/
def contig : Nat → List (Nat × Nat) → Nat → Bool
  | o, [], e => Nat.beq o e
  | o, (off, sz) :: r, e => Nat.beq o off && contig (o + sz) r e

/-- Is a type of the plain kinds, its parts in S? -/
def kindOk (P : Program) (S : List TypeId) (t : TypeId) : Bool :=
  match P.underlying t with
  | some .bool | some (.int _) | some .string => Nat.beq (P.cellsOf t) 1
  | some (.slice e) => Nat.beq (P.cellsOf t) 1 && S.contains e && Nat.ble 1 (P.cellsOf e)
  | some (.struct fs) => contig 0 (fs.toList.map fun f => (f.offset, P.cellsOf f.type)) (P.cellsOf t) && fs.toList.all fun f => S.contains f.type
  | some (.array m e) => Nat.beq (m * P.cellsOf e) (P.cellsOf t) && S.contains e
  | _ => false

/-- The ghost at the beginning: all that there is stays as it is. -/
def G0 (w : World) : G := { base := w.heap.size, next := 0, imm := fun b _ => b < w.heap.size, obj := fun _ => none, tok := fun _ => none }

theorem Sim0 (w : World) (globs : List (Nat × List AV)) (h : ∀ gi row, (gi, row) ∈ globs → R (G0 w) w (.eptr row.length [row] 0 0) (.pointer (some ⟨gi, 0, none⟩))) :
    Sim (G0 w) w { obj := fun _ => none, tok := fun _ => false, glob := globs } where
  base := Nat.le_refl _
  objs := fun o c hc => by cases hc
  inj := fun o o' c c' b m m' hc => by cases hc
  toks := fun t ht => by cases ht
  tobj := fun t o c b r m ht => by cases ht
  tinj := fun t t' b r r' ht => by cases ht
  immlt := fun b i h => h
  objlt := fun o b m h => by cases h
  toklt := fun t b r h => by cases h
  fresh := fun n _ => ⟨rfl, rfl⟩
  globs := h

section
variable {H : Type} {enc : TypeId × Value → H} {P : Program}

theorem cells?_get {w : World} {base : Nat} {a : Addr} {n : Nat} {cs : List Value} (h : w.cells? base a n = some cs) : cs.length = n ∧ ∀ i, i < n → w.cell? (a.add i) = cs[i]? := by
  unfold World.cells? at h
  split at h
  · have hl := mapM_some_length h
    simp at hl
    refine ⟨hl, fun i hi => ?_⟩
    have := mapM_some_get h i i (by simp [hi])
    exact this
  · cases h

theorem choose_rows {p : Nat → List AV → Prop} : ∀ (n : Nat), (∀ i, i < n → ∃ row, p i row) → ∃ rows : List (List AV), rows.length = n ∧ ∀ i row, rows[i]? = some row → p i row
  | 0, _ => ⟨[], rfl, fun i row h => by simp at h⟩
  | n + 1, h => by
    obtain ⟨rows, h1, h2⟩ := choose_rows n fun i hi => h i (by omega)
    obtain ⟨row, hr⟩ := h n (by omega)
    refine ⟨rows ++ [row], by simp [h1], fun i r hi => ?_⟩
    by_cases hin : i < n
    · rw [List.getElem?_append_left (by omega)] at hi; exact h2 i r hi
    · rw [List.getElem?_append_right (by omega)] at hi
      have : i = n := by
        have := (List.getElem?_eq_some_iff.1 hi).1
        simp at this; omega
      subst this
      simp [h1] at hi
      subst hi
      exact hr

/-- Segments one behind the other, each told: the whole is told. -/
theorem segs_R {g : G} {w : World} {p : Nat × Nat × TypeId → List AV → Prop} {cs : List Value} : ∀ (l : List (Nat × Nat × TypeId)) (o : Nat), contig o (l.map fun x => (x.1, x.2.1)) cs.length = true →
    (∀ x ∈ l, ∃ as, p x as ∧ RL g w as ((cs.drop x.1).take x.2.1)) → (∀ x ∈ l, ((cs.drop x.1).take x.2.1).length = x.2.1) →
    ∃ as, RL g w as (cs.drop o) ∧ ∀ x ∈ l, o ≤ x.1 ∧ p x ((as.drop (x.1 - o)).take x.2.1)
  | [], o, h, _, _ => by
    have := Nat.eq_of_beq_eq_true h
    subst this
    exact ⟨[], by simp; exact .nil g w, fun x hx => by cases hx⟩
  | (off, sz, t) :: r, o, h, hp, hl => by
    simp only [List.map_cons, contig, Bool.and_eq_true] at h
    have ho := Nat.eq_of_beq_eq_true h.1
    subst ho
    obtain ⟨as1, h1, h2⟩ := hp (o, sz, t) (by simp)
    have hlen := hl (o, sz, t) (by simp)
    obtain ⟨as2, h3, h4⟩ := segs_R r (o + sz) h.2 (fun x hx => hp x (List.mem_cons_of_mem _ hx)) (fun x hx => hl x (List.mem_cons_of_mem _ hx))
    have hsplit : cs.drop o = (cs.drop o).take sz ++ cs.drop (o + sz) := by
      rw [← List.drop_drop, List.take_append_drop]
    have hl1 : as1.length = sz := h2.len.trans hlen
    refine ⟨as1 ++ as2, by rw [hsplit]; exact h2.append h3, fun x hx => ?_⟩
    rcases List.mem_cons.1 hx with rfl | hx
    · refine ⟨Nat.le_refl _, ?_⟩
      simp only [Nat.sub_self, List.drop_zero]
      rw [List.take_append_of_le_length (by omega), List.take_of_length_le (by omega)]
      exact h1
    · obtain ⟨h5, h6⟩ := h4 x hx
      refine ⟨by omega, ?_⟩
      have e : x.1 - o = as1.length + (x.1 - (o + sz)) := by omega
      rw [e, ← List.drop_drop, List.drop_left]
      exact h6

theorem contig_le : ∀ (l : List (Nat × Nat)) (o e : Nat), contig o l e = true → o ≤ e ∧ ∀ x ∈ l, x.1 + x.2 ≤ e
  | [], o, e, h => ⟨by have := Nat.eq_of_beq_eq_true h; omega, fun x hx => by cases hx⟩
  | (off, sz) :: r, o, e, h => by
    simp only [contig, Bool.and_eq_true] at h
    have ho := Nat.eq_of_beq_eq_true h.1
    obtain ⟨h1, h2⟩ := contig_le r (o + sz) e h.2
    refine ⟨by omega, fun x hx => ?_⟩
    rcases List.mem_cons.1 hx with rfl | hx
    · simp only; omega
    · exact h2 x hx

theorem contig_range (s : Nat) : ∀ (n k : Nat), contig (k * s) ((List.range' k n).map fun i => (i * s, s)) ((k + n) * s) = true
  | 0, k => by simp [contig]
  | n + 1, k => by
    rw [List.range'_succ, List.map_cons, contig]
    have := contig_range s n (k + 1)
    rw [Nat.add_mul, Nat.one_mul] at this
    rw [show k + (n + 1) = k + 1 + n by omega, this]
    simp

theorem trod_R {S : List TypeId} (hS : ∀ t ∈ S, kindOk P S t = true) {w : World} {sp : Nat → Bool} (hsp : ∀ b, sp b = true) : ∀ (fuel : Nat) (t : TypeId) (cs : List Value) (d : DataW H) (ps : List MemPlace), t ∈ S →
    DataW.trod enc P w 0 sp true fuel t cs = some (d, ps) → ∃ as, HasTy P fuel t as ∧ RL (G0 w) w as cs
  | 0, t, cs, d, ps, _, h => by cases h
  | fuel + 1, t, cs, d, ps, ht, h => by
    have hk := hS t ht
    have ih := fun t cs d ps => trod_R hS (w := w) hsp fuel t cs d ps
    have h0 := h
    unfold DataW.trod at h
    unfold HasTy
    unfold kindOk at hk
    cases hu : P.underlying t with
    | none => rw [hu] at hk; cases hk
    | some td =>
      rw [hu] at h hk
      cases td <;> simp only [Bool.false_eq_true] at hk
      case bool =>
        split at h <;> first | (cases h; done) | skip
        all_goals (try (rename_i heq _; cases heq; done))
        all_goals (try (rename_i heq; cases heq; done))
        rename_i b heq
        exact ⟨[.bool b], ⟨b, rfl⟩, .single rfl (.bool b)⟩
      case int k =>
        split at h <;> first | (cases h; done) | skip
        all_goals (try (rename_i heq _; cases heq; done))
        all_goals (try (rename_i heq; cases heq; done))
        rename_i k1 k' x heq
        cases heq
        split at h
        · rename_i hc
          obtain ⟨rfl, hwf⟩ := hc
          exact ⟨[.int k' x], ⟨x, rfl, hwf⟩, .single rfl (.int k' x)⟩
        · cases h
      case string =>
        split at h <;> first | (cases h; done) | skip
        all_goals (try (rename_i heq _; cases heq; done))
        all_goals (try (rename_i heq; cases heq; done))
        rename_i s heq
        split at h
        · rename_i hc
          obtain ⟨⟨l⟩⟩ := s
          exact ⟨[.str l], ⟨l, rfl, hc⟩, .single rfl (.str l)⟩
        · cases h
      case slice e =>
        simp only [Bool.and_eq_true] at hk
        obtain ⟨⟨_, heS⟩, hes⟩ := hk
        have heS' : e ∈ S := by simpa using heS
        have hs1 := Nat.ble_le hes
        split at h <;> first | (cases h; done) | skip
        all_goals (try (rename_i heq _; cases heq; done))
        all_goals (try (rename_i heq; cases heq; done))
        · exact ⟨[.view (P.cellsOf e) [] .shared], ⟨[], rfl, Nat.zero_le _, fun row hr => by cases hr⟩, .single rfl (.vnil _ _ trivial)⟩
        · rename_i e' a len cap heq
          cases heq
          simp only at h
          split at h
          · rename_i hc
            obtain ⟨_, hlc, hcm⟩ := hc
            obtain ⟨elems, h1, h2⟩ := Option.bind_eq_some_iff.1 h
            rw [hsp, if_pos rfl] at h2
            obtain ⟨rest, h3, _⟩ := Option.map_eq_some_iff.1 h2
            have hl1 := mapM_some_length h1
            have hl3 := mapM_some_length h3
            simp only [List.length_range] at hl1 hl3
            -- one element
            have elem : ∀ q, q < cap → ∃ cells x, w.cells? 0 (a.add (q * P.cellsOf e)) (P.cellsOf e) = some cells ∧ DataW.trod enc P w 0 sp true fuel e cells = some x := by
              intro q hq
              have hx : ∃ x, (w.cells? 0 (a.add (q * P.cellsOf e)) (P.cellsOf e)).bind (DataW.trod enc P w 0 sp true fuel e) = some x := by
                by_cases hql : q < len
                · have := mapM_some_get h1 q q (List.getElem?_range hql)
                  rw [List.getElem?_eq_getElem (by omega)] at this
                  exact ⟨_, this⟩
                · have := mapM_some_get h3 (q - len) (q - len) (List.getElem?_range (by omega))
                  rw [List.getElem?_eq_getElem (by omega)] at this
                  rw [show len + (q - len) = q by omega] at this
                  exact ⟨_, this⟩
              obtain ⟨x, hx⟩ := hx
              obtain ⟨cells, h4, h5⟩ := Option.bind_eq_some_iff.1 hx
              exact ⟨cells, x, h4, h5⟩
            by_cases hcap : cap = 0
            · subst hcap
              have : len = 0 := by omega
              subst this
              exact ⟨[.view (P.cellsOf e) [] .shared], ⟨[], rfl, Nat.zero_le _, fun row hr => by cases hr⟩, .single rfl (.vemp _ _)⟩
            · have hspot : a.spot = none ∧ a.block < w.heap.size := by
                obtain ⟨cells, x, h4, _⟩ := elem 0 (by omega)
                obtain ⟨h6, h7⟩ := cells?_get h4
                have h8 := h7 0 hs1
                rw [List.getElem?_eq_getElem (by omega)] at h8
                simp only [Nat.zero_mul, Addr.add_zero'] at h8
                exact ⟨World.cell?_spot h8, block_lt_of_cell h8⟩
              obtain ⟨b, off, spot⟩ := a
              obtain ⟨rfl, hb⟩ := hspot
              simp only at hb
              obtain ⟨rows, hrl, hrows⟩ := choose_rows (p := fun i row => ∃ cells, w.cells? 0 ((⟨b, off, none⟩ : Addr).add (i * P.cellsOf e)) (P.cellsOf e) = some cells ∧ HasTy P fuel e row ∧ RL (G0 w) w row cells) len (fun i hi => by
                obtain ⟨cells, ⟨dx, px⟩, h4, h5⟩ := elem i (by omega)
                obtain ⟨as, h6, h7⟩ := ih e cells dx px heS' h5
                exact ⟨as, cells, h4, h6, h7⟩)
              have hcellat : ∀ i row, rows[i]? = some row → row.length = P.cellsOf e ∧ ∀ j, j < P.cellsOf e → ∃ v, w.cell? ⟨b, off + (i * P.cellsOf e + j), none⟩ = some v ∧ ∀ c, row[j]? = some c → R (G0 w) w c v := by
                intro i row hr
                obtain ⟨cells, h4, _, h7⟩ := hrows i row hr
                obtain ⟨h8, h9⟩ := cells?_get h4
                refine ⟨h7.len.trans h8, fun j hj => ?_⟩
                have := h9 j hj
                rw [addr_add, addr_add, Nat.add_assoc, List.getElem?_eq_getElem (by omega)] at this
                exact ⟨_, this, fun c hc => h7.rel j c _ hc (List.getElem?_eq_getElem (by omega))⟩
              refine ⟨[.view (P.cellsOf e) rows .shared], ⟨rows, rfl, by omega, fun row hr => ?_⟩, .single rfl ?_⟩
              · obtain ⟨i, hi, rfl⟩ := List.getElem_of_mem hr
                obtain ⟨_, _, h6, _⟩ := hrows i _ (List.getElem?_eq_getElem hi)
                exact h6
              · rw [← hrl]
                refine R.view _ rows .shared b off cap (fun i j => (w.cell? ⟨b, off + (i * P.cellsOf e + j), none⟩).getD undef) (by omega) hcm (fun row hr => ?_) (fun row hr => ?_) trivial (fun i j hi hj => ⟨hb, ?_⟩) (fun i j row c hr hc => ?_)
                · obtain ⟨i, hi, rfl⟩ := List.getElem_of_mem hr
                  exact (hcellat i _ (List.getElem?_eq_getElem hi)).1
                · obtain ⟨i, hi, rfl⟩ := List.getElem_of_mem hr
                  obtain ⟨_, _, _, h7⟩ := hrows i _ (List.getElem?_eq_getElem hi)
                  exact h7.one
                · obtain ⟨v, h1, _⟩ := (hcellat i _ (List.getElem?_eq_getElem hi)).2 j hj
                  rw [h1]; rfl
                · obtain ⟨hl, hh⟩ := hcellat i row hr
                  have hj : j < P.cellsOf e := by rw [← hl]; exact (List.getElem?_eq_some_iff.1 hc).1
                  obtain ⟨v, h1, h2⟩ := hh j hj
                  rw [h1]
                  exact h2 c hc
          · cases h
      case array m e =>
        simp only [Bool.and_eq_true] at hk
        obtain ⟨hsz, heS⟩ := hk
        have heS' : e ∈ S := by simpa using heS
        have hsz' := Nat.eq_of_beq_eq_true hsz
        clear h
        obtain ⟨xs, m0, hm0, _, hlen, hxl, h1⟩ := DataW.trod_array hu h0
        obtain rfl : fuel = m0 := by omega
        · skip
          have hcont : contig 0 (((List.range m).map fun i => (i * P.cellsOf e, P.cellsOf e, e)).map fun x => (x.1, x.2.1)) cs.length = true := by
            rw [List.map_map, hlen, ← hsz']
            have := contig_range (P.cellsOf e) m 0
            rw [Nat.zero_mul, Nat.zero_add] at this
            rw [List.range_eq_range']
            exact this
          obtain ⟨_, hle⟩ := contig_le _ _ _ hcont
          obtain ⟨as, h2, h3⟩ := segs_R (g := G0 w) (w := w) (p := fun x as => HasTy P fuel x.2.2 as) (cs := cs) _ 0 hcont (fun x hx => by
            simp only [List.mem_map, List.mem_range] at hx
            obtain ⟨i, hi, rfl⟩ := hx
            have := h1 i hi
            rw [List.getElem?_eq_getElem (by omega)] at this
            exact ih e _ _ _ heS' this) (fun x hx => by
            have := hle (x.1, x.2.1) (List.mem_map.2 ⟨x, hx, rfl⟩)
            simp only at this
            simp; omega)
          rw [List.drop_zero] at h2
          refine ⟨as, ⟨h2.len.trans hlen, fun i hi => ?_⟩, h2⟩
          have := (h3 (i * P.cellsOf e, P.cellsOf e, e) (List.mem_map.2 ⟨i, by simp [hi], rfl⟩)).2
          simpa using this
      case struct fs =>
        simp only [Bool.and_eq_true] at hk
        obtain ⟨hcont0, hall⟩ := hk
        clear h
        obtain ⟨xs, m0, hm0, _, hlen, hxl, h1⟩ := DataW.trod_struct hu h0
        obtain rfl : fuel = m0 := by omega
        · skip
          have hcont : contig 0 ((fs.toList.map fun f => (f.offset, P.cellsOf f.type, f.type)).map fun x => (x.1, x.2.1)) cs.length = true := by
            rw [List.map_map, hlen]
            exact hcont0
          obtain ⟨_, hle⟩ := contig_le _ _ _ hcont
          obtain ⟨as, h2, h3⟩ := segs_R (g := G0 w) (w := w) (p := fun x as => HasTy P fuel x.2.2 as) (cs := cs) _ 0 hcont (fun x hx => by
            simp only [List.mem_map] at hx
            obtain ⟨f, hf, rfl⟩ := hx
            obtain ⟨i, hi, rfl⟩ := List.getElem_of_mem hf
            have := h1 i _ (by rw [← Array.getElem?_toList]; exact List.getElem?_eq_getElem hi)
            rw [List.getElem?_eq_getElem (by simp at hi; omega)] at this
            have hfS : (fs.toList[i]).type ∈ S := by
              have := List.all_eq_true.1 hall _ (List.getElem_mem hi)
              simpa using this
            exact ih _ _ _ _ hfS this) (fun x hx => by
            have := hle (x.1, x.2.1) (List.mem_map.2 ⟨x, hx, rfl⟩)
            simp only at this
            simp; omega)
          rw [List.drop_zero] at h2
          refine ⟨as, ⟨h2.len.trans hlen, fun f hf => ?_⟩, h2⟩
          have := (h3 (f.offset, P.cellsOf f.type, f.type) (List.mem_map.2 ⟨f, hf, rfl⟩)).2
          simpa using this

end
end Go.AM
