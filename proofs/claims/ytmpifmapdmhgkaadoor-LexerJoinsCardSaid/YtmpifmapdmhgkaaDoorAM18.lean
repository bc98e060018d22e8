/- Loads of single cells, and slices of slices that are only read. No conditions: lemmas only. -/
import Derived.Test.YtmpifmapdmhgkaaDoorAM17
namespace Go.AM
section
variable {P : Program} {n : Nat} {K : Post} {E : EPost} {T : Tmps} {st : St} {ops : Array Oper} {rest : List Oper}
variable {d : Tmp} {dd : Option Tmp} {x y : Operand} {ty : TypeId} {pos : String} {es : Array Edge} {gd : Option (Nat × Bool)}

theorem sel_one {row : List AV} {sz off : Nat} {v : AV} (h : row[off]? = some v) : sel false sz row off = some v := h

/-- A load of one cell of an object. -/
theorem lcS {t : TypeId} {td : TypeDesc} [hu : Und P t td] {sz by_ : Nat} {zz : Value} [hi : Inf P t sz by_ zz] {o s : Nat} {rows : List (List AV)} {i off : Nat} {row : List AV} {v : AV}
    (hg : goes ops n T ⟨dd, .load t x, ty, pos, es, gd⟩ = some d) (ha : aggD td = false) (hx : ev st T x = some (.cptr o s i off)) {oty : TypeId} (ho : st.obj o = some (.cells oty s rows)) (hr : rows[i]? = some row) (hv : row[off]? = some v)
    (k : AOps P n ops rest K E ((d, v) :: T) st) : AOps P n ops (⟨dd, .load t x, ty, pos, es, gd⟩ :: rest) K E T st :=
  lc hg hx ho hr (by rw [ha]; exact sel_one hv) k

/-- A load of one cell that never changes. -/
theorem leS {t : TypeId} {td : TypeDesc} [hu : Und P t td] {sz by_ : Nat} {zz : Value} [hi : Inf P t sz by_ zz] {s : Nat} {rows : List (List AV)} {i off : Nat} {row : List AV} {v : AV}
    (hg : goes ops n T ⟨dd, .load t x, ty, pos, es, gd⟩ = some d) (ha : aggD td = false) (hx : ev st T x = some (.eptr s rows i off)) (hr : rows[i]? = some row) (hv : row[off]? = some v)
    (k : AOps P n ops rest K E ((d, v) :: T) st) : AOps P n ops (⟨dd, .load t x, ty, pos, es, gd⟩ :: rest) K E T st :=
  le hg hx hr (by rw [ha]; exact sel_one hv) k

/-- A part of a slice that is only read. -/
theorem R.sliced {g : G} {w : World} {sz : Nat} {rows : List (List AV)} {tk : Tok} {rv : Value} (h : R g w (.view sz rows tk) rv) {lo hi : Nat} (h1 : lo ≤ hi) (h2 : hi ≤ rows.length) :
    ∃ base cap, rv = .slice base rows.length cap ∧ rows.length ≤ cap ∧ R g w (.view sz ((rows.drop lo).take (hi - lo)) .shared) (_root_.Go.sliced base lo hi cap sz) := by
  cases h with
  | vnil =>
    have : lo = 0 := by simp at h2; omega
    subst this
    have : hi = 0 := by simpa using h2
    subst this
    exact ⟨none, 0, rfl, Nat.le_refl _, .vnil _ _ trivial⟩
  | vemp _ a =>
    have : lo = 0 := by simp at h2; omega
    subst this
    have : hi = 0 := by simpa using h2
    subst this
    refine ⟨some a, 0, rfl, Nat.le_refl _, ?_⟩
    simp only [_root_.Go.sliced, if_true, Nat.sub_zero]
    exact .vemp _ _
  | view _ _ _ b off cap f hc hm hsz h1' ht himm hh =>
    refine ⟨some ⟨b, off, none⟩, cap, rfl, hc, ?_⟩
    by_cases hcl : cap = lo
    · have e1 : hi - lo = 0 := by omega
      simp only [_root_.Go.sliced, hcl, if_true, e1, List.take_zero, Nat.sub_self]
      exact .vemp _ _
    · have hlen : ((rows.drop lo).take (hi - lo)).length = hi - lo := by simp; omega
      have key := R.view (g := g) (w := w) sz ((rows.drop lo).take (hi - lo)) .shared b (off + lo * sz) (cap - lo) (fun i j => f (lo + i) j) (by rw [hlen]; omega) (by omega)
        (fun row hr => hsz row (List.mem_of_mem_drop (List.mem_of_mem_take hr))) (fun row hr => h1' row (List.mem_of_mem_drop (List.mem_of_mem_take hr))) trivial
        (fun i j hi' hj => by
          rw [hlen] at hi'
          have := himm (lo + i) j (by omega) hj
          rw [Nat.add_mul] at this
          rw [show off + lo * sz + (i * sz + j) = off + (lo * sz + i * sz + j) by omega]
          exact this)
        (fun i j row c hr hcj => by
          have hi' : i < hi - lo := by
            have := (List.getElem?_eq_some_iff.1 hr).1
            rw [hlen] at this
            exact this
          rw [List.getElem?_take_of_lt hi', List.getElem?_drop] at hr
          exact hh (lo + i) j row c hr hcj)
      rw [hlen] at key
      simp only [_root_.Go.sliced, hcl, if_false, Option.map_some, addr_add]
      exact key

/-- s[lo:hi], s[:hi] and s[lo:] of a slice that is only read. -/
theorem sv2 {t e : TypeId} [hu : Und P t (.slice e)] {sz by_ : Nat} {ez : Value} [hie : Inf P e sz by_ ez] {z : Operand} {rows : List (List AV)} {tk : Tok} {a b : Nat} {k k' : IntKind}
    (hg : goes ops n T ⟨dd, .slice t x (some y) (some z) none, ty, pos, es, gd⟩ = some d) (hx : ev st T x = some (.view sz rows tk)) (hy : ev st T y = some (.int k (a : Int))) (hz : ev st T z = some (.int k' (b : Int))) (hab : a ≤ b) (hb : b ≤ rows.length)
    (kk : AOps P n ops rest K E ((d, .view sz ((rows.drop a).take (b - a)) .shared) :: T) st) : AOps P n ops (⟨dd, .slice t x (some y) (some z) none, ty, pos, es, gd⟩ :: rest) K E T st := by
  obtain ⟨hw, hd, hok⟩ := goes_some hg
  simp only at hd
  subst hd
  refine AOps.pure hw hok _ (fun g w a' hs hk => ?_) kk
  have h1 := ev_R hs hk hx
  have h2 := ev_R hs hk hy
  have h3 := ev_R hs hk hz
  generalize hux : a'.eval x = ux at h1
  generalize huy : a'.eval y = uy at h2
  generalize huz : a'.eval z = uz at h3
  cases h2
  cases h3
  obtain ⟨base, cap, rfl, hc, hR⟩ := h1.sliced hab hb
  have he : P.elem t = e := by simp [Program.elem, hu.out]
  have hr := run_slice_lh (P := P) w t base rows.length cap (by rw [he]; exact hu.out) k k' a b (by omega) (by omega) (by omega)
  refine ⟨_, ?_, hR⟩
  simp [execOp, hux, huy, huz, run_sliceAt_slice (P := P) w t _ _ _ _ (by rw [he]; exact hu.out), hr, he, run_size (P := P) (t := e) w]

theorem svh {t e : TypeId} [hu : Und P t (.slice e)] {sz by_ : Nat} {ez : Value} [hie : Inf P e sz by_ ez] {rows : List (List AV)} {tk : Tok} {b : Nat} {k : IntKind}
    (hg : goes ops n T ⟨dd, .slice t x none (some y) none, ty, pos, es, gd⟩ = some d) (hx : ev st T x = some (.view sz rows tk)) (hy : ev st T y = some (.int k (b : Int))) (hb : b ≤ rows.length)
    (kk : AOps P n ops rest K E ((d, .view sz (rows.take b) .shared) :: T) st) : AOps P n ops (⟨dd, .slice t x none (some y) none, ty, pos, es, gd⟩ :: rest) K E T st := by
  obtain ⟨hw, hd, hok⟩ := goes_some hg
  simp only at hd
  subst hd
  refine AOps.pure hw hok _ (fun g w a' hs hk => ?_) kk
  have h1 := ev_R hs hk hx
  have h2 := ev_R hs hk hy
  generalize hux : a'.eval x = ux at h1
  generalize huy : a'.eval y = uy at h2
  cases h2
  obtain ⟨base, cap, rfl, hc, hR⟩ := h1.sliced (Nat.zero_le b) hb
  rw [List.drop_zero, Nat.sub_zero] at hR
  have he : P.elem t = e := by simp [Program.elem, hu.out]
  have hr := run_slice_h (P := P) w t base rows.length cap (by rw [he]; exact hu.out) k b (by omega) (by omega)
  refine ⟨_, ?_, hR⟩
  simp [execOp, hux, huy, run_sliceAt_slice (P := P) w t _ _ _ _ (by rw [he]; exact hu.out), hr, he, run_size (P := P) (t := e) w]

theorem svl {t e : TypeId} [hu : Und P t (.slice e)] {sz by_ : Nat} {ez : Value} [hie : Inf P e sz by_ ez] {rows : List (List AV)} {tk : Tok} {a : Nat} {k : IntKind}
    (hg : goes ops n T ⟨dd, .slice t x (some y) none none, ty, pos, es, gd⟩ = some d) (hx : ev st T x = some (.view sz rows tk)) (hy : ev st T y = some (.int k (a : Int))) (ha : a ≤ rows.length)
    (kk : AOps P n ops rest K E ((d, .view sz (rows.drop a) .shared) :: T) st) : AOps P n ops (⟨dd, .slice t x (some y) none none, ty, pos, es, gd⟩ :: rest) K E T st := by
  obtain ⟨hw, hd, hok⟩ := goes_some hg
  simp only at hd
  subst hd
  refine AOps.pure hw hok _ (fun g w a' hs hk => ?_) kk
  have h1 := ev_R hs hk hx
  have h2 := ev_R hs hk hy
  generalize hux : a'.eval x = ux at h1
  generalize huy : a'.eval y = uy at h2
  cases h2
  obtain ⟨base, cap, rfl, hc, hR⟩ := h1.sliced ha (Nat.le_refl _)
  rw [List.take_of_length_le (by simp)] at hR
  have he : P.elem t = e := by simp [Program.elem, hu.out]
  have hr := run_slice_l (P := P) w t base rows.length cap (by rw [he]; exact hu.out) k a (by omega) (by omega)
  refine ⟨_, ?_, hR⟩
  simp [execOp, hux, huy, run_sliceAt_slice (P := P) w t _ _ _ _ (by rw [he]; exact hu.out), hr, he, run_size (P := P) (t := e) w]

end
end Go.AM
