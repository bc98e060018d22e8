/- Laid variables: what they hold, out of the premise that lays them; a law's contract where variables are laid. No conditions: definitions and lemmas only. -/
import Derived.Test.YtmpifmapdmhgkaaDoorAM12
import Derived.LaidLaws
import Derived.LaidHandle
import Derived.ChangeVars
namespace Go.AM
open Go.RowKit (Below shut_bool)
open Go.ChangeShapes Go.WideShapes Go.ChangeAt

mutual
/-- The cells that a plain datum reads off. -/
def litRow : DataW Unit → Option (List AV)
  | .lit (.int k n) => some [.int k n]
  | .lit (.bool b) => some [.bool b]
  | .lit (.string l) => some [.str l]
  | .agg ds => litRows ds
  | _ => none
def litRows : List (DataW Unit) → Option (List AV)
  | [] => some []
  | d :: ds => match litRow d, litRows ds with
    | some a, some b => some (a ++ b)
    | _, _ => none
end

theorem segs_lit {g : G} {w : World} {cs : List Value} : ∀ (l : List (Nat × Nat)) (o : Nat) (ds : List (DataW Unit)) (row : List AV), contig o l cs.length = true → ds.length = l.length →
    (∀ (i : Nat) x d r, l[i]? = some x → ds[i]? = some d → litRow d = some r → RL g w r ((cs.drop x.1).take x.2)) → litRows ds = some row → RL g w row (cs.drop o)
  | [], o, [], row, h, _, _, hr => by
    have := Nat.eq_of_beq_eq_true h
    subst this
    unfold litRows at hr
    cases hr
    rw [List.drop_length]
    exact .nil g w
  | [], _, _ :: _, _, _, hl, _, _ => by cases hl
  | _ :: _, _, [], _, _, hl, _, _ => by cases hl
  | (off, sz) :: l, o, d :: ds, row, h, hl, hp, hr => by
    simp only [contig, Bool.and_eq_true] at h
    have ho := Nat.eq_of_beq_eq_true h.1
    subst ho
    unfold litRows at hr
    split at hr
    · rename_i a b ha hb
      cases hr
      have h1 := hp 0 (o, sz) d a rfl rfl ha
      have h2 := segs_lit l (o + sz) ds b h.2 (by simpa using hl) (fun i x d r h1 h2 h3 => hp (i + 1) x d r (by simpa using h1) (by simpa using h2) h3) hb
      have hsplit : cs.drop o = (cs.drop o).take sz ++ cs.drop (o + sz) := by
        rw [← List.drop_drop, List.take_append_drop]
      rw [hsplit]
      exact h1.append h2
    · cases hr

theorem trod_lit {P : Program} {enc : TypeId × Value → Unit} {S : List TypeId} (hS : ∀ t ∈ S, kindOk P S t = true) {w : World} {sp : Nat → Bool} {held : Bool} : ∀ (fuel : Nat) (t : TypeId) (cs : List Value) (d : DataW Unit) (ps : List MemPlace) (row : List AV), t ∈ S →
    DataW.trod enc P w 0 sp held fuel t cs = some (d, ps) → litRow d = some row → RL (G0 w) w row cs
  | 0, t, cs, d, ps, row, _, h, _ => by cases h
  | fuel + 1, t, cs, d, ps, row, ht, h, hr => by
    have hk := hS t ht
    have ih := fun t cs d ps row => trod_lit hS (w := w) (sp := sp) (enc := enc) (held := held) fuel t cs d ps row
    have h0 := h
    unfold DataW.trod at h
    unfold kindOk at hk
    cases hu : P.underlying t with
    | none => rw [hu] at hk; cases hk
    | some td =>
      rw [hu] at h hk
      cases td <;> simp only [Bool.false_eq_true] at hk
      case bool =>
        split at h <;> first | (cases h; done) | skip
        all_goals (try (rename_i heq _; cases heq; done))
        all_goals (try (rename_i heq; cases heq; done))
        cases h
        unfold litRow at hr
        cases hr
        exact .single rfl (.bool _)
      case int k =>
        split at h <;> first | (cases h; done) | skip
        all_goals (try (rename_i heq _; cases heq; done))
        all_goals (try (rename_i heq; cases heq; done))
        rename_i k1 k' x heq
        cases heq
        split at h
        · rename_i hc
          obtain ⟨rfl, hwf⟩ := hc
          cases h
          unfold litRow at hr
          cases hr
          exact .single rfl (.int _ _)
        · cases h
      case string =>
        split at h <;> first | (cases h; done) | skip
        all_goals (try (rename_i heq _; cases heq; done))
        all_goals (try (rename_i heq; cases heq; done))
        rename_i s heq
        split at h
        · cases h
          unfold litRow at hr
          cases hr
          obtain ⟨⟨l⟩⟩ := s
          exact .single rfl (.str l)
        · cases h
      case slice e =>
        split at h <;> first | (cases h; done) | skip
        all_goals (try (rename_i heq _; cases heq; done))
        all_goals (try (rename_i heq; cases heq; done))
        · cases h
          unfold litRow at hr
          cases hr
        · simp only at h
          split at h
          · obtain ⟨elems, h1, h2⟩ := Option.bind_eq_some_iff.1 h
            obtain ⟨rest, h3, h4⟩ := Option.map_eq_some_iff.1 h2
            cases h4
            unfold litRow at hr
            cases hr
          · cases h
      case array m e =>
        simp only [Bool.and_eq_true] at hk
        obtain ⟨hsz, heS⟩ := hk
        have heS' : e ∈ S := by simpa using heS
        have hsz' := Nat.eq_of_beq_eq_true hsz
        clear h
        obtain ⟨xs, m0, hm0, hx, hlen, hxl, h1⟩ := DataW.trod_array hu h0
        obtain rfl : fuel = m0 := by omega
        cases hx
        unfold litRow at hr
        have hcont : contig 0 ((List.range m).map fun i => (i * P.cellsOf e, P.cellsOf e)) cs.length = true := by
          rw [hlen, ← hsz']
          have := contig_range (P.cellsOf e) m 0
          rw [Nat.zero_mul, Nat.zero_add] at this
          rw [List.range_eq_range']
          exact this
        have := segs_lit (g := G0 w) (w := w) (cs := cs) _ 0 _ row hcont (by simp [hxl]) (fun i x d r hl hd hr => by
          simp only [List.getElem?_map, Option.map_eq_some_iff] at hl hd
          obtain ⟨j, hj, rfl⟩ := hl
          obtain ⟨y, hy, rfl⟩ := hd
          have hj' := List.getElem?_eq_some_iff.1 hj
          obtain ⟨hj1, hj2⟩ := hj'
          simp only [List.getElem_range] at hj2
          subst hj2
          have h2 := h1 i (by simpa using hj1)
          rw [hy] at h2
          exact ih e _ y.1 y.2 r heS' h2 hr) hr
        rwa [List.drop_zero] at this
      case struct fs =>
        simp only [Bool.and_eq_true] at hk
        obtain ⟨hcont0, hall⟩ := hk
        clear h
        obtain ⟨xs, m0, hm0, hx, hlen, hxl, h1⟩ := DataW.trod_struct hu h0
        obtain rfl : fuel = m0 := by omega
        cases hx
        unfold litRow at hr
        have hcont : contig 0 (fs.toList.map fun f => (f.offset, P.cellsOf f.type)) cs.length = true := by
          rw [hlen]
          exact hcont0
        have := segs_lit (g := G0 w) (w := w) (cs := cs) _ 0 _ row hcont (by simp [hxl]) (fun i x d r hl hd hr => by
          simp only [List.getElem?_map, Option.map_eq_some_iff] at hl hd
          obtain ⟨f, hf, rfl⟩ := hl
          obtain ⟨y, hy, rfl⟩ := hd
          have h2 := h1 i f (by rw [← Array.getElem?_toList]; exact hf)
          rw [hy] at h2
          have hfS : f.type ∈ S := by
            have := List.all_eq_true.1 hall f (List.mem_of_getElem? hf)
            simpa using this
          exact ih _ _ y.1 y.2 r hfS h2 hr) hr
        rwa [List.drop_zero] at this

theorem laid_find {P : Program} {w : World} : ∀ {laid : List (String × DataW Unit)} {ps : List MemPlace}, DataW.LaidVars P w laid ps → ∀ n d, (n, d) ∈ laid →
    ∃ g t cs fuel p, P.globalNamed n = some g ∧ (P.globals[g]?).map (·.type) = some t ∧ w.var? P n = some cs ∧ DataW.trod (fun _ => ()) P w 0 (fun _ => true) false fuel t cs.toList = some (d, p)
  | [], _, _, n, d, h => by cases h
  | (n0, d0) :: r, ps, hL, n, d, h => by
    obtain ⟨g, t, cs, fuel, p, q, h1, h2, h3, h4, h5, _⟩ := hL
    rcases List.mem_cons.1 h with h | h
    · cases h
      exact ⟨g, t, cs, fuel, p, h1, h2, h3, h4⟩
    · exact laid_find h5 n d h

/-- A laid variable's row. -/
theorem laid_row {P : Program} {S : List TypeId} (hS : ∀ t ∈ S, kindOk P S t = true) {w : World} {laid : List (String × DataW Unit)} (hl : laidMet P laid w) {n : String} {d : DataW Unit} {row : List AV} {gi : Nat} {t : TypeId} (hm : (n, d) ∈ laid)
    (hd : litRow d = some row) (hg : P.globalNamed n = some gi) (ht : (P.globals[gi]?).map (·.type) = some t) (htS : t ∈ S) (hne : row ≠ []) :
    R (G0 w) w (.eptr row.length [row] 0 0) (.pointer (some ⟨gi, 0, none⟩)) := by
  obtain ⟨ps, hL, _⟩ := hl
  obtain ⟨g, t', cs, fuel, p, h1, h2, h3, h4⟩ := laid_find hL n d hm
  obtain rfl := Option.some.inj (h1.symm.trans hg)
  obtain rfl := Option.some.inj (h2.symm.trans ht)
  have hR := trod_lit hS fuel _ _ _ _ row htS h4 hd
  have hcell := fun i => World.var?_cell h1 h3 i
  have hlen : row.length = cs.size := by simpa using hR.len
  have h0 : 0 < row.length := List.length_pos_iff.2 hne
  have hb : g < w.heap.size := by
    have := hcell 0
    rw [Array.getElem?_eq_getElem (by omega)] at this
    exact block_lt_of_cell this
  have := R.eptr (g := G0 w) (w := w) row.length [row] 0 0 g 0 (fun _ j => (cs[j]?).getD undef) (by simp) (by simpa using hR.one) (fun i j hi hj => ⟨hb, by
    have hi0 : i = 0 := by simpa using hi
    subst hi0
    rw [Nat.zero_mul, Nat.zero_add, Nat.zero_add, hcell j, Array.getElem?_eq_getElem (by omega)]
    rfl⟩) (fun i j row' c hr hc => by
    have hi0 : i = 0 ∧ row' = row := by
      cases i with
      | zero => simp at hr; exact ⟨rfl, hr.symm⟩
      | succ i => simp at hr
    obtain ⟨rfl, rfl⟩ := hi0
    have hj : j < row'.length := (List.getElem?_eq_some_iff.1 hc).1
    have hj2 : j < cs.size := by omega
    rw [Array.getElem?_eq_getElem hj2]
    exact hR.rel j c _ hc (by simp [hj2]))
  simpa using this

end Go.AM
