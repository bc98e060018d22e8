/- Rules for the operations that change nothing, for calls and for a function's body. No conditions: lemmas only. -/
import Derived.Test.YtmpifmapdmhgkaaDoorAM2
import Derived.Laws.Strings
import Derived.Laws.Tables
import Derived.Laws.Unary
namespace Go.AM
open Go.RowKit (Below)

/-- What a type is, as the program's tables tell. -/
class Und (P : Program) (t : TypeId) (d : outParam TypeDesc) : Prop where
  out : P.underlying t = some d

class Inf (P : Program) (t : TypeId) (sz bytes : outParam Nat) (z : outParam Value) : Prop where
  raw : (P.info? t).map (fun i => (i.size, i.bytes, i.zero)) = some (sz, bytes, some z)

theorem Inf.out {P : Program} {t : TypeId} {sz bytes : Nat} {z : Value} (h : Inf P t sz bytes z) : ∃ i, P.info? t = some i ∧ i.size = sz ∧ i.bytes = bytes ∧ i.zero = some z := by
  have h1 := h.raw
  cases hi : P.info? t with
  | none => rw [hi] at h1; cases h1
  | some i =>
    rw [hi] at h1
    simp only [Option.map_some, Option.some.injEq, Prod.mk.injEq] at h1
    exact ⟨i, rfl, h1.1, h1.2.1, h1.2.2⟩

theorem run_und {P : Program} {t : TypeId} {d : TypeDesc} [h : Und P t d] (w : World) : (underlying t).run P w = .ok d w := run_underlying h.out w

theorem run_size {P : Program} {t : TypeId} {sz b : Nat} {z : Value} [h : Inf P t sz b z] (w : World) : (sizeOf t).run P w = .ok sz w := by
  obtain ⟨i, h1, h2, _⟩ := h.out
  simp [sizeOf, typeInfo, h1, h2]

theorem run_zero {P : Program} {t : TypeId} {sz b : Nat} {z : Value} [h : Inf P t sz b z] (w : World) : (zeroValue t).run P w = .ok z w := by
  obtain ⟨i, h1, _, _, h4⟩ := h.out
  simp [zeroValue, typeInfo, h1, h4]

def aggD : TypeDesc → Bool
  | .struct _ | .array _ _ => true
  | _ => false

theorem run_isAgg {P : Program} {t : TypeId} {d : TypeDesc} [h : Und P t d] (w : World) : (isAgg t).run P w = .ok (aggD d) w := by
  unfold isAgg
  rw [Sem.run_bind, run_und w]
  cases d <;> rfl

/-- Cells of a row as a variable's value. -/
def sel (agg : Bool) (sz : Nat) (row : List AV) (off : Nat) : Option AV :=
  bif agg then (bif Nat.ble (off + sz) row.length then some (.agg ((row.drop off).take sz)) else none) else row[off]?

theorem addr_add (b o n : Nat) : (⟨b, o, none⟩ : Addr).add n = ⟨b, o + n, none⟩ := Addr.add_lit b o n

theorem Nat.ble_le {a b : Nat} (h : Nat.ble a b = true) : a ≤ b := Nat.le_of_ble_eq_true h

theorem mul_add_lt {i j sz n : Nat} (hi : i < n) (hj : j < sz) : i * sz + j < n * sz := by
  have h : (i + 1) * sz ≤ n * sz := Nat.mul_le_mul_right sz hi
  rw [Nat.add_mul, Nat.one_mul] at h
  omega

/-- Reading a variable out of cells that hold a row. -/
theorem load_row {P : Program} {g : G} {w : World} {t : TypeId} {d : TypeDesc} {sz by_ : Nat} {z : Value} [Und P t d] [Inf P t sz by_ z] {b o : Nat} {row : List AV} {off : Nat} {v : AV}
    (h1 : ∀ c ∈ row, c.one = true) (hcell : ∀ (j : Nat) c, row[j]? = some c → ∃ rv, w.cell? ⟨b, o + j, none⟩ = some rv ∧ R g w c rv) (hs : sel (aggD d) sz row off = some v) :
    ∃ rv, (loadVar t ⟨b, o + off, none⟩).run P w = .ok rv w ∧ R g w v rv := by
  unfold sel at hs
  cases ha : aggD d with
  | false =>
    simp only [ha, cond_false] at hs
    obtain ⟨rv, h2, h3⟩ := hcell off v hs
    refine ⟨rv, ?_, h3⟩
    simp [loadVar, run_isAgg w, ha, h2]
  | true =>
    simp only [ha, cond_true] at hs
    cases hl : Nat.ble (off + sz) row.length with
    | false => simp [hl] at hs
    | true =>
      have hle := Nat.ble_le hl
      simp only [hl, cond_true, Option.some.injEq] at hs
      subst hs
      -- the cells, chosen
      have hex : ∀ j, j < row.length → ∃ rv, w.cell? ⟨b, o + j, none⟩ = some rv ∧ R g w (row.getD j (.bool false)) rv := fun j hj =>
        let ⟨rv, h2, h3⟩ := hcell j (row.getD j (.bool false)) (by simp [List.getD, List.getElem?_eq_getElem hj])
        ⟨rv, h2, h3⟩
      refine ⟨.agg ((List.range sz).map fun j => (w.cell? ⟨b, o + off + j, none⟩).getD undef).toArray, ?_, ?_⟩
      · have hl2 := run_loadCells (P := P) w ⟨b, o + off, none⟩ sz (fun j => (w.cell? ⟨b, o + off + j, none⟩).getD undef) (fun j hj => by
          obtain ⟨rv, h2, _⟩ := hex (off + j) (by omega)
          rw [addr_add, Nat.add_assoc, h2]
          rfl)
        simp [loadVar, run_isAgg w, ha, run_size w, hl2]
      · refine .agg _ _ (by simp; omega) (fun c hc => h1 c (List.mem_of_mem_drop (List.mem_of_mem_take hc))) ?_
        intro i c rv hc hv
        have hi : i < sz := by
          have := (List.getElem?_eq_some_iff.1 hc).1
          simp at this
          omega
        rw [List.getElem?_take_of_lt hi, List.getElem?_drop] at hc
        obtain ⟨rv', h2, h3⟩ := hcell (off + i) c hc
        simp [hi, Nat.add_assoc, h2] at hv
        subst hv
        exact h3

section
variable {P : Program} {n : Nat} {K : Post} {E : EPost} {T : Tmps} {st : St} {ops : Array Oper} {rest : List Oper}
variable {d : Tmp} {x y z : Operand} {ty : TypeId} {pos : String} {es : Array Edge} {gd : Option (Nat × Bool)}

theorem AOps.move {v : AV} (hw : wantedA ops T ⟨some d, .move x, ty, pos, es, gd⟩ = some true) (hd : dstOk (some d) n = true) (hx : ev st T x = some v)
    (h : AOps P n ops rest K E ((d, v) :: T) st) : AOps P n ops (⟨some d, .move x, ty, pos, es, gd⟩ :: rest) K E T st :=
  AOps.pure hw hd v (fun _ _ a hs hk => ⟨a.eval x, rfl, ev_R hs hk hx⟩) h

theorem AOps.assign {v : AV} (hw : wantedA ops T ⟨some d, .assign x, ty, pos, es, gd⟩ = some true) (hd : dstOk (some d) n = true) (hx : ev st T x = some v)
    (h : AOps P n ops rest K E ((d, v) :: T) st) : AOps P n ops (⟨some d, .assign x, ty, pos, es, gd⟩ :: rest) K E T st :=
  AOps.pure hw hd v (fun _ _ a hs hk => ⟨a.eval x, rfl, ev_R hs hk hx⟩) h

theorem AOps.pick_true {v : AV} {c a' b' : Operand} (hw : wantedA ops T ⟨some d, .pick c a' b', ty, pos, es, gd⟩ = some true) (hd : dstOk (some d) n = true) (hc : ev st T c = some (.bool true)) (hx : ev st T a' = some v)
    (h : AOps P n ops rest K E ((d, v) :: T) st) : AOps P n ops (⟨some d, .pick c a' b', ty, pos, es, gd⟩ :: rest) K E T st :=
  AOps.pure hw hd v (fun g w a hs hk => by
    have h1 := ev_R hs hk hc
    generalize hu : a.eval c = u at h1
    cases h1
    exact ⟨a.eval a', by simp [execOp, hu, asBool], ev_R hs hk hx⟩) h

theorem AOps.pick_false {v : AV} {c a' b' : Operand} (hw : wantedA ops T ⟨some d, .pick c a' b', ty, pos, es, gd⟩ = some true) (hd : dstOk (some d) n = true) (hc : ev st T c = some (.bool false)) (hx : ev st T b' = some v)
    (h : AOps P n ops rest K E ((d, v) :: T) st) : AOps P n ops (⟨some d, .pick c a' b', ty, pos, es, gd⟩ :: rest) K E T st :=
  AOps.pure hw hd v (fun g w a hs hk => by
    have h1 := ev_R hs hk hc
    generalize hu : a.eval c = u at h1
    cases h1
    exact ⟨a.eval b', by simp [execOp, hu, asBool], ev_R hs hk hx⟩) h

/-! integers -/

theorem AOps.int2 {bo : BinOp} {t u : TypeId} {k : IntKind} {a b : Int} {v : AV} {rv : Value} (hbin : ∀ w, (binOp bo t (.int k a) (.int k b)).run P w = .ok rv w) (hR : ∀ g w, R g w v rv)
    (hw : wantedA ops T ⟨some d, .binOp bo t x y u, ty, pos, es, gd⟩ = some true) (hd : dstOk (some d) n = true)
    (hx : ev st T x = some (.int k a)) (hy : ev st T y = some (.int k b))
    (h : AOps P n ops rest K E ((d, v) :: T) st) : AOps P n ops (⟨some d, .binOp bo t x y u, ty, pos, es, gd⟩ :: rest) K E T st :=
  AOps.pure hw hd v (fun g w a' hs hk => by
    have h1 := ev_R hs hk hx
    have h2 := ev_R hs hk hy
    generalize hu : a'.eval x = u1 at h1
    generalize hv : a'.eval y = u2 at h2
    cases h1
    cases h2
    exact ⟨rv, by simp [execOp, hu, hv, eqGuard_at_int, hbin], hR g w⟩) h

theorem AOps.lss {t u : TypeId} {k : IntKind} {a b : Int} (hw : wantedA ops T ⟨some d, .binOp .lss t x y u, ty, pos, es, gd⟩ = some true) (hd : dstOk (some d) n = true)
    (hx : ev st T x = some (.int k a)) (hy : ev st T y = some (.int k b))
    (h : AOps P n ops rest K E ((d, .bool (decide (a < b))) :: T) st) : AOps P n ops (⟨some d, .binOp .lss t x y u, ty, pos, es, gd⟩ :: rest) K E T st :=
  AOps.int2 (fun w => by rw [binOp_lss]; rfl) (fun _ _ => .bool _) hw hd hx hy h
theorem AOps.leq {t u : TypeId} {k : IntKind} {a b : Int} (hw : wantedA ops T ⟨some d, .binOp .leq t x y u, ty, pos, es, gd⟩ = some true) (hd : dstOk (some d) n = true)
    (hx : ev st T x = some (.int k a)) (hy : ev st T y = some (.int k b))
    (h : AOps P n ops rest K E ((d, .bool (decide (a ≤ b))) :: T) st) : AOps P n ops (⟨some d, .binOp .leq t x y u, ty, pos, es, gd⟩ :: rest) K E T st :=
  AOps.int2 (fun w => by rw [binOp_leq]; rfl) (fun _ _ => .bool _) hw hd hx hy h
theorem AOps.gtr {t u : TypeId} {k : IntKind} {a b : Int} (hw : wantedA ops T ⟨some d, .binOp .gtr t x y u, ty, pos, es, gd⟩ = some true) (hd : dstOk (some d) n = true)
    (hx : ev st T x = some (.int k a)) (hy : ev st T y = some (.int k b))
    (h : AOps P n ops rest K E ((d, .bool (decide (b < a))) :: T) st) : AOps P n ops (⟨some d, .binOp .gtr t x y u, ty, pos, es, gd⟩ :: rest) K E T st :=
  AOps.int2 (fun w => by rw [binOp_gtr]; rfl) (fun _ _ => .bool _) hw hd hx hy h
theorem AOps.geq {t u : TypeId} {k : IntKind} {a b : Int} (hw : wantedA ops T ⟨some d, .binOp .geq t x y u, ty, pos, es, gd⟩ = some true) (hd : dstOk (some d) n = true)
    (hx : ev st T x = some (.int k a)) (hy : ev st T y = some (.int k b))
    (h : AOps P n ops rest K E ((d, .bool (decide (b ≤ a))) :: T) st) : AOps P n ops (⟨some d, .binOp .geq t x y u, ty, pos, es, gd⟩ :: rest) K E T st :=
  AOps.int2 (fun w => by rw [binOp_geq]; rfl) (fun _ _ => .bool _) hw hd hx hy h
theorem AOps.eql {t u : TypeId} {k : IntKind} {a b : Int} (hw : wantedA ops T ⟨some d, .binOp .eql t x y u, ty, pos, es, gd⟩ = some true) (hd : dstOk (some d) n = true)
    (hx : ev st T x = some (.int k a)) (hy : ev st T y = some (.int k b))
    (h : AOps P n ops rest K E ((d, .bool (decide (a = b))) :: T) st) : AOps P n ops (⟨some d, .binOp .eql t x y u, ty, pos, es, gd⟩ :: rest) K E T st :=
  AOps.int2 (rv := .bool (decide (a = b))) (fun w => by rw [binOp_eql, Sem.run_pure, show (a == b) = decide (a = b) from by rw [Bool.eq_iff_iff]; simp]) (fun _ _ => .bool _) hw hd hx hy h
theorem AOps.neq {t u : TypeId} {k : IntKind} {a b : Int} (hw : wantedA ops T ⟨some d, .binOp .neq t x y u, ty, pos, es, gd⟩ = some true) (hd : dstOk (some d) n = true)
    (hx : ev st T x = some (.int k a)) (hy : ev st T y = some (.int k b))
    (h : AOps P n ops rest K E ((d, .bool (decide (a ≠ b))) :: T) st) : AOps P n ops (⟨some d, .binOp .neq t x y u, ty, pos, es, gd⟩ :: rest) K E T st :=
  AOps.int2 (rv := .bool (decide (a ≠ b))) (fun w => by rw [binOp_neq, Sem.run_pure, show (a != b) = decide (a ≠ b) from by rw [Bool.eq_iff_iff]; simp]) (fun _ _ => .bool _) hw hd hx hy h

theorem AOps.add {t u : TypeId} {k : IntKind} {a b c : Int} (hw : wantedA ops T ⟨some d, .binOp .add t x y u, ty, pos, es, gd⟩ = some true) (hd : dstOk (some d) n = true)
    (hx : ev st T x = some (.int k a)) (hy : ev st T y = some (.int k b)) (hc : k.wrap (a + b) = c)
    (h : AOps P n ops rest K E ((d, .int k c) :: T) st) : AOps P n ops (⟨some d, .binOp .add t x y u, ty, pos, es, gd⟩ :: rest) K E T st :=
  AOps.int2 (fun w => by rw [binOp_add]; simp only [Op.intArith, hc]; rfl) (fun _ _ => .int _ _) hw hd hx hy h
theorem AOps.sub {t u : TypeId} {k : IntKind} {a b c : Int} (hw : wantedA ops T ⟨some d, .binOp .sub t x y u, ty, pos, es, gd⟩ = some true) (hd : dstOk (some d) n = true)
    (hx : ev st T x = some (.int k a)) (hy : ev st T y = some (.int k b)) (hc : k.wrap (a - b) = c)
    (h : AOps P n ops rest K E ((d, .int k c) :: T) st) : AOps P n ops (⟨some d, .binOp .sub t x y u, ty, pos, es, gd⟩ :: rest) K E T st :=
  AOps.int2 (fun w => by rw [binOp_sub]; simp only [Op.intArith, hc]; rfl) (fun _ _ => .int _ _) hw hd hx hy h
theorem AOps.mul {t u : TypeId} {k : IntKind} {a b c : Int} (hw : wantedA ops T ⟨some d, .binOp .mul t x y u, ty, pos, es, gd⟩ = some true) (hd : dstOk (some d) n = true)
    (hx : ev st T x = some (.int k a)) (hy : ev st T y = some (.int k b)) (hc : k.wrap (a * b) = c)
    (h : AOps P n ops rest K E ((d, .int k c) :: T) st) : AOps P n ops (⟨some d, .binOp .mul t x y u, ty, pos, es, gd⟩ :: rest) K E T st :=
  AOps.int2 (fun w => by rw [binOp_mul]; simp only [Op.intArith, hc]; rfl) (fun _ _ => .int _ _) hw hd hx hy h
theorem AOps.quo {t u : TypeId} {k : IntKind} {a b c : Int} (hw : wantedA ops T ⟨some d, .binOp .quo t x y u, ty, pos, es, gd⟩ = some true) (hd : dstOk (some d) n = true)
    (hx : ev st T x = some (.int k a)) (hy : ev st T y = some (.int k b)) (h0 : b ≠ 0) (hc : k.wrap (a.tdiv b) = c)
    (h : AOps P n ops rest K E ((d, .int k c) :: T) st) : AOps P n ops (⟨some d, .binOp .quo t x y u, ty, pos, es, gd⟩ :: rest) K E T st :=
  AOps.int2 (fun w => by rw [binOp_quo]; simp only [Op.intDiv, h0, if_false, hc]; rfl) (fun _ _ => .int _ _) hw hd hx hy h
theorem AOps.rem {t u : TypeId} {k : IntKind} {a b c : Int} (hw : wantedA ops T ⟨some d, .binOp .rem t x y u, ty, pos, es, gd⟩ = some true) (hd : dstOk (some d) n = true)
    (hx : ev st T x = some (.int k a)) (hy : ev st T y = some (.int k b)) (h0 : b ≠ 0) (hc : a.tmod b = c)
    (h : AOps P n ops rest K E ((d, .int k c) :: T) st) : AOps P n ops (⟨some d, .binOp .rem t x y u, ty, pos, es, gd⟩ :: rest) K E T st :=
  AOps.int2 (fun w => by rw [binOp_rem]; simp only [Op.intDiv, h0, if_false, hc]; rfl) (fun _ _ => .int _ _) hw hd hx hy h
theorem AOps.bits {bo : BinOp} {t u : TypeId} {k : IntKind} {a b c : Int} (hbo : bo = .and ∨ bo = .or ∨ bo = .xor) (hw : wantedA ops T ⟨some d, .binOp bo t x y u, ty, pos, es, gd⟩ = some true) (hd : dstOk (some d) n = true)
    (hx : ev st T x = some (.int k a)) (hy : ev st T y = some (.int k b)) (hc : bits bo k a b = c)
    (h : AOps P n ops rest K E ((d, .int k c) :: T) st) : AOps P n ops (⟨some d, .binOp bo t x y u, ty, pos, es, gd⟩ :: rest) K E T st :=
  AOps.int2 (fun w => by rcases hbo with rfl | rfl | rfl <;> (first | rw [binOp_and] | rw [binOp_or] | rw [binOp_xor]) <;> (first | rw [intBits_and] | rw [intBits_or] | rw [intBits_xor]) <;> rw [hc] <;> rfl) (fun _ _ => .int _ _) hw hd hx hy h

theorem AOps.not {t : TypeId} {b : Bool} (hw : wantedA ops T ⟨some d, .unOp .not t x, ty, pos, es, gd⟩ = some true) (hd : dstOk (some d) n = true)
    (hx : ev st T x = some (.bool b)) (h : AOps P n ops rest K E ((d, .bool (!b)) :: T) st) : AOps P n ops (⟨some d, .unOp .not t x, ty, pos, es, gd⟩ :: rest) K E T st :=
  AOps.pure hw hd _ (fun g w a hs hk => by
    have h1 := ev_R hs hk hx
    generalize hu : a.eval x = u at h1
    cases h1
    exact ⟨.bool (!b), by simp [execOp, hu, unary_not], .bool _⟩) h
theorem AOps.not_dec {t : TypeId} {p : Prop} {_ : Decidable p} (hw : wantedA ops T ⟨some d, .unOp .not t x, ty, pos, es, gd⟩ = some true) (hd : dstOk (some d) n = true)
    (hx : ev st T x = some (.bool (decide p))) (h : AOps P n ops rest K E ((d, .bool (decide (¬ p))) :: T) st) : AOps P n ops (⟨some d, .unOp .not t x, ty, pos, es, gd⟩ :: rest) K E T st :=
  AOps.not hw hd hx (by rw [show (!decide p) = decide (¬ p) from by simp]; exact h)
theorem AOps.neg {t : TypeId} {k : IntKind} {a c : Int} (hw : wantedA ops T ⟨some d, .unOp .neg t x, ty, pos, es, gd⟩ = some true) (hd : dstOk (some d) n = true)
    (hx : ev st T x = some (.int k a)) (hc : k.wrap (0 - a) = c) (h : AOps P n ops rest K E ((d, .int k c) :: T) st) : AOps P n ops (⟨some d, .unOp .neg t x, ty, pos, es, gd⟩ :: rest) K E T st :=
  AOps.pure hw hd _ (fun g w a' hs hk => by
    have h1 := ev_R hs hk hx
    generalize hu : a'.eval x = u at h1
    cases h1
    exact ⟨.int k c, by simp only [execOp, hu, unary_neg, Op.intArith, hc]; simp, .int _ _⟩) h

theorem AOps.convInt {t u : TypeId} {ds : TypeDesc} {k k' : IntKind} [Und P t ds] [hu : Und P u (.int k')] {a c : Int} (hw : wantedA ops T ⟨some d, .convert t u x, ty, pos, es, gd⟩ = some true) (hd : dstOk (some d) n = true)
    (hx : ev st T x = some (.int k a)) (hc : k'.wrap a = c) (h : AOps P n ops rest K E ((d, .int k' c) :: T) st) : AOps P n ops (⟨some d, .convert t u x, ty, pos, es, gd⟩ :: rest) K E T st :=
  AOps.pure hw hd _ (fun g w a' hs hk => by
    have h1 := ev_R hs hk hx
    generalize hu : a'.eval x = u at h1
    cases h1
    exact ⟨.int k' c, by simp [execOp, hu, convert, run_und (P := P) (t := t) w, run_und (P := P) (t := u) w, Conv.intToInt, hc], .int _ _⟩) h

/-! booleans and strings -/

theorem run_equalIn_bool (dp : Nat) {t : TypeId} [hu : Und P t .bool] (a b : Bool) (w : World) : (Op.equalIn (dp + 1) t (.bool a) (.bool b)).run P w = .ok (a == b) w := by
  simp only [Op.equalIn, Sem.run_bind, run_und (P := P) (t := t) w, Result.andThen_ok, Sem.run_pure]

theorem run_equal_bool {t : TypeId} [hu : Und P t .bool] (a b : Bool) (w : World) : (Op.equal t (.bool a) (.bool b)).run P w = .ok (a == b) w := by
  unfold Op.equal Op.maxDepth
  exact run_equalIn_bool 9999 a b w

theorem AOps.boolEql {t u : TypeId} [hu : Und P t .bool] {a b : Bool} (hw : wantedA ops T ⟨some d, .binOp .eql t x y u, ty, pos, es, gd⟩ = some true) (hd : dstOk (some d) n = true)
    (hx : ev st T x = some (.bool a)) (hy : ev st T y = some (.bool b))
    (h : AOps P n ops rest K E ((d, .bool (decide (a = b))) :: T) st) : AOps P n ops (⟨some d, .binOp .eql t x y u, ty, pos, es, gd⟩ :: rest) K E T st :=
  AOps.pure hw hd _ (fun g w a' hs hk => by
    have h1 := ev_R hs hk hx
    have h2 := ev_R hs hk hy
    generalize hu : a'.eval x = u1 at h1
    generalize hv : a'.eval y = u2 at h2
    cases h1
    cases h2
    exact ⟨.bool (a == b), by simp only [execOp, hu, hv, eqGuard_at_bool, binOp, Sem.run_bind, run_equal_bool (P := P) (t := t), Sem.run_pure, Result.andThen_ok], by rw [show (a == b) = decide (a = b) from by cases a <;> cases b <;> rfl]; exact .bool _⟩) h
theorem AOps.boolNeq {t u : TypeId} [hu : Und P t .bool] {a b : Bool} (hw : wantedA ops T ⟨some d, .binOp .neq t x y u, ty, pos, es, gd⟩ = some true) (hd : dstOk (some d) n = true)
    (hx : ev st T x = some (.bool a)) (hy : ev st T y = some (.bool b))
    (h : AOps P n ops rest K E ((d, .bool (decide (a ≠ b))) :: T) st) : AOps P n ops (⟨some d, .binOp .neq t x y u, ty, pos, es, gd⟩ :: rest) K E T st :=
  AOps.pure hw hd _ (fun g w a' hs hk => by
    have h1 := ev_R hs hk hx
    have h2 := ev_R hs hk hy
    generalize hu : a'.eval x = u1 at h1
    generalize hv : a'.eval y = u2 at h2
    cases h1
    cases h2
    exact ⟨.bool (!(a == b)), by simp only [execOp, hu, hv, eqGuard_at_bool, binOp, Sem.run_bind, run_equal_bool (P := P) (t := t), Sem.run_pure, Result.andThen_ok], by rw [show (!(a == b)) = decide (a ≠ b) from by cases a <;> cases b <;> rfl]; exact .bool _⟩) h

theorem AOps.str2 {bo : BinOp} {t u : TypeId} {a b : List UInt8} {v : AV} {rv : Value} (hbin : ∀ w, (binOp bo t (.string ⟨⟨a⟩⟩) (.string ⟨⟨b⟩⟩)).run P w = .ok rv w) (hR : ∀ g w, R g w v rv)
    (hw : wantedA ops T ⟨some d, .binOp bo t x y u, ty, pos, es, gd⟩ = some true) (hd : dstOk (some d) n = true)
    (hx : ev st T x = some (.str a)) (hy : ev st T y = some (.str b))
    (h : AOps P n ops rest K E ((d, v) :: T) st) : AOps P n ops (⟨some d, .binOp bo t x y u, ty, pos, es, gd⟩ :: rest) K E T st :=
  AOps.pure hw hd v (fun g w a' hs hk => by
    have h1 := ev_R hs hk hx
    have h2 := ev_R hs hk hy
    generalize hu : a'.eval x = u1 at h1
    generalize hv : a'.eval y = u2 at h2
    cases h1
    cases h2
    exact ⟨rv, by simp [execOp, hu, hv, eqGuard_at_string, hbin], hR g w⟩) h

theorem AOps.strEql {t u : TypeId} {a b : List UInt8} (hw : wantedA ops T ⟨some d, .binOp .eql t x y u, ty, pos, es, gd⟩ = some true) (hd : dstOk (some d) n = true)
    (hx : ev st T x = some (.str a)) (hy : ev st T y = some (.str b))
    (h : AOps P n ops rest K E ((d, .bool (decide (a = b))) :: T) st) : AOps P n ops (⟨some d, .binOp .eql t x y u, ty, pos, es, gd⟩ :: rest) K E T st :=
  AOps.str2 (rv := .bool (decide (a = b))) (fun w => by rw [binOp_string_eql, Sem.run_pure, ByteArray.toList_mk, ByteArray.toList_mk, show (a == b) = decide (a = b) from by rw [Bool.eq_iff_iff]; simp]) (fun _ _ => .bool _) hw hd hx hy h
theorem AOps.strNeq {t u : TypeId} {a b : List UInt8} (hw : wantedA ops T ⟨some d, .binOp .neq t x y u, ty, pos, es, gd⟩ = some true) (hd : dstOk (some d) n = true)
    (hx : ev st T x = some (.str a)) (hy : ev st T y = some (.str b))
    (h : AOps P n ops rest K E ((d, .bool (decide (a ≠ b))) :: T) st) : AOps P n ops (⟨some d, .binOp .neq t x y u, ty, pos, es, gd⟩ :: rest) K E T st :=
  AOps.str2 (rv := .bool (decide (a ≠ b))) (fun w => by rw [binOp_string_neq, Sem.run_pure, ByteArray.toList_mk, ByteArray.toList_mk, show (!(a == b)) = decide (a ≠ b) from by rw [Bool.eq_iff_iff]; simp]) (fun _ _ => .bool _) hw hd hx hy h
theorem AOps.strAdd {t u : TypeId} {a b : List UInt8} (hw : wantedA ops T ⟨some d, .binOp .add t x y u, ty, pos, es, gd⟩ = some true) (hd : dstOk (some d) n = true)
    (hx : ev st T x = some (.str a)) (hy : ev st T y = some (.str b)) (hl : a.length + b.length ≤ 9223372036854775807)
    (h : AOps P n ops rest K E ((d, .str (a ++ b)) :: T) st) : AOps P n ops (⟨some d, .binOp .add t x y u, ty, pos, es, gd⟩ :: rest) K E T st :=
  AOps.str2 (rv := .string ⟨⟨a ++ b⟩⟩) (fun w => by
    have h1 : (⟨⟨a⟩⟩ : ByteArray).size = a.length := rfl
    have h2 : (⟨⟨b⟩⟩ : ByteArray).size = b.length := rfl
    have h3 : (⟨⟨a⟩⟩ : ByteArray) ++ ⟨⟨b⟩⟩ = ⟨⟨a ++ b⟩⟩ := by
      apply ByteArray.ext
      rw [ByteArray.data_append]
      apply Array.ext'
      simp
    rw [binOp_string_add]
    simp only [Op.stringOp, h1, h2, IntKind.max_i64]
    rw [if_neg (by omega), h3]
    rfl) (fun _ _ => .str _) hw hd hx hy h

theorem AOps.strIndex {t : TypeId} [hu : Und P t .string] {l : List UInt8} {k : IntKind} {i : Int} {m : Nat} {c : UInt8} (hw : wantedA ops T ⟨some d, .index t x y, ty, pos, es, gd⟩ = some true) (hd : dstOk (some d) n = true)
    (hx : ev st T x = some (.str l)) (hy : ev st T y = some (.int k i)) (hi : i = m) (hc : l[m]? = some c)
    (h : AOps P n ops rest K E ((d, .int .u8 c.toNat) :: T) st) : AOps P n ops (⟨some d, .index t x y, ty, pos, es, gd⟩ :: rest) K E T st :=
  AOps.pure hw hd _ (fun g w a' hs hk => by
    have h1 := ev_R hs hk hx
    have h2 := ev_R hs hk hy
    generalize hu' : a'.eval x = u1 at h1
    generalize hv : a'.eval y = u2 at h2
    cases h1
    cases h2
    subst hi
    have hlt : m < l.length := (List.getElem?_eq_some_iff.1 hc).1
    have hs : (⟨⟨l⟩⟩ : ByteArray).size = l.length := rfl
    have hg : (⟨⟨l⟩⟩ : ByteArray)[m]'(by rw [hs]; exact hlt) = c := by
      have := (List.getElem?_eq_some_iff.1 hc).2
      exact this
    refine ⟨.int .u8 c.toNat, ?_, .int _ _⟩
    simp only [execOp, hu', hv, Sem.run_bind, run_index_string w t _ k _ hu.out, hs]
    rw [dif_pos (by omega)]
    simp [hg]) h

/-! pointers and slices -/

theorem AOps.fieldAddr {t : TypeId} {fs : Array Field} [hu : Und P t (.struct fs)] {f : Nat} {fld : Field} {sz by_ : Nat} {zz : Value} {p q : AV}
    (hw : wantedA ops T ⟨some d, .fieldAddr t x f, ty, pos, es, gd⟩ = some true) (hd : dstOk (some d) n = true) (hf : fs[f]? = some fld) [hi : Inf P fld.type sz by_ zz] (h0 : sz ≠ 0)
    (hx : ev st T x = some p) (hp : (∃ s rows i off, p = .eptr s rows i off ∧ q = .eptr s rows i (off + fld.offset)) ∨ (∃ o s i off, p = .cptr o s i off ∧ q = .cptr o s i (off + fld.offset)))
    (h : AOps P n ops rest K E ((d, q) :: T) st) : AOps P n ops (⟨some d, .fieldAddr t x f, ty, pos, es, gd⟩ :: rest) K E T st :=
  AOps.pure hw hd q (fun g w a' hs hk => by
    have h1 := ev_R hs hk hx
    generalize hu' : a'.eval x = u1 at h1
    have run : ∀ (b o : Nat), (Instr.fieldAt t (.pointer (some ⟨b, o, none⟩)) f).run P w = .ok (.pointer (some ⟨b, o + fld.offset, none⟩)) w := by
      intro b o
      simp [Instr.fieldAt, run_und (P := P) (t := t) w, hf, Instr.sureAddr, fieldPlace, run_size (P := P) (t := fld.type) w, h0, addr_add]
    rcases hp with ⟨s, rows, i, off, rfl, rfl⟩ | ⟨o, s, i, off, rfl, rfl⟩
    · cases h1 with
      | eptr _ _ _ _ b off' ff hsz h1' himm hh =>
        refine ⟨.pointer (some ⟨b, off' + (i * s + off) + fld.offset, none⟩), by simp only [execOp, hu', Sem.run_bind, run, Sem.run_pure, Result.andThen_ok], ?_⟩
        have := R.eptr s rows i (off + fld.offset) b off' ff hsz h1' himm hh
        simpa [Nat.add_assoc] using this
    · cases h1 with
      | cptr _ _ _ _ b m' hb =>
        refine ⟨.pointer (some ⟨b, i * s + off + fld.offset, none⟩), by simp only [execOp, hu', Sem.run_bind, run, Sem.run_pure, Result.andThen_ok], ?_⟩
        have := R.cptr (w := w) o s i (off + fld.offset) b m' hb
        simpa [Nat.add_assoc] using this) h

theorem AOps.indexView {t e : TypeId} [hu : Und P t (.slice e)] {sz by_ : Nat} {zz : Value} [hi : Inf P e sz by_ zz] {rows : List (List AV)} {tk : Tok} {k : IntKind} {i : Int} {m : Nat}
    (hw : wantedA ops T ⟨some d, .indexAddr t x y, ty, pos, es, gd⟩ = some true) (hd : dstOk (some d) n = true)
    (hx : ev st T x = some (.view sz rows tk)) (hy : ev st T y = some (.int k i)) (hm : i = m) (hlt : m < rows.length)
    (h : AOps P n ops rest K E ((d, .eptr sz rows m 0) :: T) st) : AOps P n ops (⟨some d, .indexAddr t x y, ty, pos, es, gd⟩ :: rest) K E T st :=
  AOps.pure hw hd _ (fun g w a' hs hk => by
    have h1 := ev_R hs hk hx
    have h2 := ev_R hs hk hy
    generalize hu' : a'.eval x = u1 at h1
    generalize hv : a'.eval y = u2 at h2
    subst hm
    cases h2
    cases h1 with
    | vnil => simp at hlt
    | vemp => simp at hlt
    | view _ _ _ b off cap f hc _ hsz h1' ht himm hh =>
      refine ⟨.pointer (some ⟨b, off + (m * sz + 0), none⟩), ?_, .eptr _ _ _ _ _ _ f hsz h1' himm hh⟩
      have hc : (0 : Int) ≤ m ∧ (m : Int) < rows.length := by omega
      simp [execOp, hu', hv, Instr.indexAt, asIntOf, run_und (P := P) (t := t) w, hlt, run_size (P := P) (t := e) w, addr_add]) h

theorem AOps.indexMsl {t e : TypeId} [hu : Und P t (.slice e)] {sz by_ : Nat} {zz : Value} [hi : Inf P e sz by_ zz] {o lo len : Nat} {k : IntKind} {i : Int} {m : Nat}
    (hw : wantedA ops T ⟨some d, .indexAddr t x y, ty, pos, es, gd⟩ = some true) (hd : dstOk (some d) n = true)
    (hx : ev st T x = some (.msl o sz lo len)) (hy : ev st T y = some (.int k i)) (hm : i = m) (hlt : m < len)
    (h : AOps P n ops rest K E ((d, .cptr o sz (lo + m) 0) :: T) st) : AOps P n ops (⟨some d, .indexAddr t x y, ty, pos, es, gd⟩ :: rest) K E T st :=
  AOps.pure hw hd _ (fun g w a' hs hk => by
    have h1 := ev_R hs hk hx
    have h2 := ev_R hs hk hy
    generalize hu' : a'.eval x = u1 at h1
    generalize hv : a'.eval y = u2 at h2
    subst hm
    cases h2
    cases h1 with
    | msl _ _ _ _ cap b m' hb hc hm' hs' =>
      refine ⟨.pointer (some ⟨b, (lo + m) * sz + 0, none⟩), ?_, .cptr _ _ _ _ _ _ hb⟩
      simp [execOp, hu', hv, Instr.indexAt, asIntOf, run_und (P := P) (t := t) w, hlt, run_size (P := P) (t := e) w, addr_add, Nat.add_mul]) h

/-- An element of an array variable. -/
theorem AOps.indexArr {t e : TypeId} {len : Nat} [hu : Und P t (.array len e)] {sz by_ : Nat} {zz : Value} [hi : Inf P e sz by_ zz] {k : IntKind} {i : Int} {m : Nat} {p q : AV}
    (hw : wantedA ops T ⟨some d, .indexAddr t x y, ty, pos, es, gd⟩ = some true) (hd : dstOk (some d) n = true)
    (hx : ev st T x = some p) (hy : ev st T y = some (.int k i)) (hm : i = m) (hlt : m < len)
    (hp : (∃ s rows i off, p = .eptr s rows i off ∧ q = .eptr s rows i (off + m * sz)) ∨ (∃ o s i off, p = .cptr o s i off ∧ q = .cptr o s i (off + m * sz)))
    (h : AOps P n ops rest K E ((d, q) :: T) st) : AOps P n ops (⟨some d, .indexAddr t x y, ty, pos, es, gd⟩ :: rest) K E T st :=
  AOps.pure hw hd _ (fun g w a' hs hk => by
    have h1 := ev_R hs hk hx
    have h2 := ev_R hs hk hy
    generalize hu' : a'.eval x = u1 at h1
    generalize hv : a'.eval y = u2 at h2
    subst hm
    cases h2
    have run : ∀ (b o : Nat), (Instr.indexAt t (.pointer (some ⟨b, o, none⟩)) (.int k m)).run P w = .ok (.pointer (some ⟨b, o + m * sz, none⟩)) w := by
      intro b o
      simp [Instr.indexAt, asIntOf, Instr.sureAddr, run_und (P := P) (t := t) w, hlt, run_size (P := P) (t := e) w, addr_add]
    rcases hp with ⟨s, rows, i, off, rfl, rfl⟩ | ⟨o, s, i, off, rfl, rfl⟩
    · cases h1 with
      | eptr _ _ _ _ b off' ff hsz h1' himm hh =>
        refine ⟨.pointer (some ⟨b, off' + (i * s + off) + m * sz, none⟩), by simp only [execOp, hu', hv, Sem.run_bind, run, Sem.run_pure, Result.andThen_ok], ?_⟩
        have := R.eptr s rows i (off + m * sz) b off' ff hsz h1' himm hh
        simpa [Nat.add_assoc] using this
    · cases h1 with
      | cptr _ _ _ _ b m' hb =>
        refine ⟨.pointer (some ⟨b, i * s + off + m * sz, none⟩), by simp only [execOp, hu', hv, Sem.run_bind, run, Sem.run_pure, Result.andThen_ok], ?_⟩
        have := R.cptr (w := w) o s i (off + m * sz) b m' hb
        simpa [Nat.add_assoc] using this) h

theorem AOps.loadE {t : TypeId} {td : TypeDesc} [hu : Und P t td] {sz by_ : Nat} {zz : Value} [hi : Inf P t sz by_ zz] {s : Nat} {rows : List (List AV)} {i off : Nat} {row : List AV} {v : AV}
    (hw : wantedA ops T ⟨some d, .load t x, ty, pos, es, gd⟩ = some true) (hd : dstOk (some d) n = true)
    (hx : ev st T x = some (.eptr s rows i off)) (hr : rows[i]? = some row) (hv : sel (aggD td) sz row off = some v)
    (h : AOps P n ops rest K E ((d, v) :: T) st) : AOps P n ops (⟨some d, .load t x, ty, pos, es, gd⟩ :: rest) K E T st :=
  AOps.pure hw hd v (fun g w a' hs hk => by
    have h1 := ev_R hs hk hx
    generalize hu' : a'.eval x = u1 at h1
    cases h1 with
    | eptr _ _ _ _ b off' ff hsz h1' himm hh =>
      have hil : i < rows.length := (List.getElem?_eq_some_iff.1 hr).1
      have hrl : row.length = s := hsz row (List.mem_of_getElem? hr)
      obtain ⟨rv, h2, h3⟩ := load_row (P := P) (g := g) (w := w) (t := t) (b := b) (o := off' + i * s) (row := row) (h1' row (List.mem_of_getElem? hr))
        (fun j c hj => ⟨ff i j, by
          have hjl : j < s := hrl ▸ (List.getElem?_eq_some_iff.1 hj).1
          have := (himm i j hil hjl).2
          rwa [← Nat.add_assoc] at this, hh i j row c hr hj⟩) hv
      exact ⟨rv, by simp only [execOp, hu', Instr.loadAt, Instr.sureAddr, ← Nat.add_assoc]; simp [h2], h3⟩) h

theorem AOps.loadC {t : TypeId} {td : TypeDesc} [hu : Und P t td] {sz by_ : Nat} {zz : Value} [hi : Inf P t sz by_ zz] {o s : Nat} {rows : List (List AV)} {i off : Nat} {row : List AV} {v : AV}
    (hw : wantedA ops T ⟨some d, .load t x, ty, pos, es, gd⟩ = some true) (hd : dstOk (some d) n = true)
    (hx : ev st T x = some (.cptr o s i off)) {oty : TypeId} (ho : st.obj o = some (.cells oty s rows)) (hr : rows[i]? = some row) (hv : sel (aggD td) sz row off = some v)
    (h : AOps P n ops rest K E ((d, v) :: T) st) : AOps P n ops (⟨some d, .load t x, ty, pos, es, gd⟩ :: rest) K E T st :=
  AOps.pure hw hd v (fun g w a' hs hk => by
    have h1 := ev_R hs hk hx
    generalize hu' : a'.eval x = u1 at h1
    cases h1 with
    | cptr _ _ _ _ b m' hb =>
      obtain ⟨_, ⟨arr, ha, hsz, _, hl, h1', hc⟩, _⟩ := hs.objOf ho hb
      obtain ⟨rv, h2, h3⟩ := load_row (P := P) (g := g) (w := w) (t := t) (b := b) (o := i * s) (row := row) (h1' row (List.mem_of_getElem? hr))
        (fun j c hj => by
          obtain ⟨v, hv1, hv2⟩ := hc i j row c hr hj
          exact ⟨v, by rw [cell_of_row w b _ arr oty (0, 0) ha]; exact hv1, hv2⟩) hv
      exact ⟨rv, by simp [execOp, hu', Instr.loadAt, Instr.sureAddr, h2], h3⟩) h

theorem AOps.nilCheck {p : AV} (hw : wantedA ops T ⟨some d, .nilCheck x, ty, pos, es, gd⟩ = some true) (hd : dstOk (some d) n = true)
    (hx : ev st T x = some p) (hp : (∃ s rows i off, p = .eptr s rows i off) ∨ (∃ o s i off, p = .cptr o s i off))
    (h : AOps P n ops rest K E ((d, p) :: T) st) : AOps P n ops (⟨some d, .nilCheck x, ty, pos, es, gd⟩ :: rest) K E T st :=
  AOps.pure hw hd p (fun g w a' hs hk => by
    have h1 := ev_R hs hk hx
    generalize hu' : a'.eval x = u1 at h1
    refine ⟨u1, ?_, h1⟩
    rcases hp with ⟨s, rows, i, off, rfl⟩ | ⟨o, s, i, off, rfl⟩ <;> cases h1 <;> simp [execOp, hu'])
    h

theorem AOps.extract {vs : List AV} {i : Nat} {v : AV} (hw : wantedA ops T ⟨some d, .extract x i, ty, pos, es, gd⟩ = some true) (hd : dstOk (some d) n = true)
    (hx : ev st T x = some (.tuple vs)) (hv : vs[i]? = some v)
    (h : AOps P n ops rest K E ((d, v) :: T) st) : AOps P n ops (⟨some d, .extract x i, ty, pos, es, gd⟩ :: rest) K E T st :=
  AOps.pure hw hd v (fun g w a' hs hk => by
    have h1 := ev_R hs hk hx
    generalize hu' : a'.eval x = u1 at h1
    cases h1 with
    | tuple _ us hl hh =>
      have hi : i < us.size := hl ▸ (List.getElem?_eq_some_iff.1 hv).1
      exact ⟨us[i], by simp [execOp, hu', Instr.extract, hi], hh i v _ hv (by simp [hi])⟩) h

/-- A part of a struct value. -/
theorem AOps.field {t : TypeId} {fs : Array Field} [hu : Und P t (.struct fs)] {f : Nat} {fld : Field} {td : TypeDesc} {sz by_ : Nat} {zz : Value} {cs : List AV} {v : AV}
    (hw : wantedA ops T ⟨some d, .field t x f, ty, pos, es, gd⟩ = some true) (hd : dstOk (some d) n = true) (hf : fs[f]? = some fld) [hq : Und P fld.type td] [hi : Inf P fld.type sz by_ zz]
    (hx : ev st T x = some (.agg cs)) (hv : sel (aggD td) sz cs fld.offset = some v)
    (h : AOps P n ops rest K E ((d, v) :: T) st) : AOps P n ops (⟨some d, .field t x f, ty, pos, es, gd⟩ :: rest) K E T st :=
  AOps.pure hw hd v (fun g w a' hs hk => by
    have h1 := ev_R hs hk hx
    generalize hu' : a'.eval x = u1 at h1
    cases h1 with
    | agg _ us hl h1' hh =>
      unfold sel at hv
      cases ha : aggD td with
      | false =>
        simp only [ha, cond_false] at hv
        have hi : fld.offset < us.size := hl ▸ (List.getElem?_eq_some_iff.1 hv).1
        exact ⟨us[fld.offset], by simp [execOp, hu', Instr.field, run_und (P := P) (t := t) w, hf, asAgg, part, run_isAgg (P := P) (t := fld.type) w, ha, hi], hh _ v _ hv (by simp [hi])⟩
      | true =>
        simp only [ha, cond_true] at hv
        cases hle : Nat.ble (fld.offset + sz) cs.length with
        | false => simp [hle] at hv
        | true =>
          have hle' := Nat.ble_le hle
          simp only [hle, cond_true, Option.some.injEq] at hv
          subst hv
          refine ⟨.agg (us.extract fld.offset (fld.offset + sz)), by simp [execOp, hu', Instr.field, run_und (P := P) (t := t) w, hf, asAgg, part, run_isAgg (P := P) (t := fld.type) w, ha, run_size (P := P) (t := fld.type) w], ?_⟩
          refine .agg _ _ (by simp; omega) (fun c hc => h1' c (List.mem_of_mem_drop (List.mem_of_mem_take hc))) ?_
          intro i c rv hc hv
          have hi : i < sz := by
            have := (List.getElem?_eq_some_iff.1 hc).1
            simp at this
            omega
          rw [List.getElem?_take_of_lt hi, List.getElem?_drop] at hc
          refine hh _ c rv hc ?_
          rw [Array.getElem?_extract] at hv
          split at hv
          · exact hv
          · cases hv) h

/-! lengths -/

theorem AOps.lenView {t u : TypeId} {e : TypeId} [hu : Und P t (.slice e)] {sz : Nat} {rows : List (List AV)} {tk : Tok}
    (hw : wantedA ops T ⟨some d, .call ⟨.builtin .len, #[x], #[t]⟩, u, pos, es, gd⟩ = some true) (hd : dstOk (some d) n = true) (hx : ev st T x = some (.view sz rows tk))
    (h : AOps P n ops rest K E ((d, .int .i64 rows.length) :: T) st) : AOps P n ops (⟨some d, .call ⟨.builtin .len, #[x], #[t]⟩, u, pos, es, gd⟩ :: rest) K E T st :=
  AOps.pure hw hd _ (fun g w a' hs hk => by
    have h1 := ev_R hs hk hx
    generalize hu' : a'.eval x = u1 at h1
    cases h1 with
    | vemp => exact ⟨goInt 0, by simp [execOp, resolve, invoke, builtin, hu', Builtin.len_, run_und (P := P) (t := t) w], .int _ _⟩
    | vnil => exact ⟨goInt 0, by simp [execOp, resolve, invoke, builtin, hu', Builtin.len_, run_und (P := P) (t := t) w], .int _ _⟩
    | view => exact ⟨goInt rows.length, by simp [execOp, resolve, invoke, builtin, hu', Builtin.len_, run_und (P := P) (t := t) w], .int _ _⟩) h

theorem AOps.lenMsl {t u : TypeId} {e : TypeId} [hu : Und P t (.slice e)] {o sz lo len : Nat}
    (hw : wantedA ops T ⟨some d, .call ⟨.builtin .len, #[x], #[t]⟩, u, pos, es, gd⟩ = some true) (hd : dstOk (some d) n = true) (hx : ev st T x = some (.msl o sz lo len))
    (h : AOps P n ops rest K E ((d, .int .i64 len) :: T) st) : AOps P n ops (⟨some d, .call ⟨.builtin .len, #[x], #[t]⟩, u, pos, es, gd⟩ :: rest) K E T st :=
  AOps.pure hw hd _ (fun g w a' hs hk => by
    have h1 := ev_R hs hk hx
    generalize hu' : a'.eval x = u1 at h1
    cases h1 with
    | msl => exact ⟨goInt len, by simp [execOp, resolve, invoke, builtin, hu', Builtin.len_, run_und (P := P) (t := t) w], .int _ _⟩) h

theorem AOps.lenStr {t u : TypeId} [hu : Und P t .string] {l : List UInt8}
    (hw : wantedA ops T ⟨some d, .call ⟨.builtin .len, #[x], #[t]⟩, u, pos, es, gd⟩ = some true) (hd : dstOk (some d) n = true) (hx : ev st T x = some (.str l))
    (h : AOps P n ops rest K E ((d, .int .i64 l.length) :: T) st) : AOps P n ops (⟨some d, .call ⟨.builtin .len, #[x], #[t]⟩, u, pos, es, gd⟩ :: rest) K E T st :=
  AOps.pure hw hd _ (fun g w a' hs hk => by
    have h1 := ev_R hs hk hx
    generalize hu' : a'.eval x = u1 at h1
    cases h1 with
    | str => exact ⟨goInt l.length, by simp [execOp, resolve, invoke, builtin, hu', Builtin.len_, run_und (P := P) (t := t) w]; rfl, .int _ _⟩) h

theorem AOps.min2 {u t1 t2 : TypeId} {k : IntKind} {a b : Int}
    (hw : wantedA ops T ⟨some d, .call ⟨.builtin .min, #[x, y], #[t1, t2]⟩, u, pos, es, gd⟩ = some true) (hd : dstOk (some d) n = true) (hx : ev st T x = some (.int k a)) (hy : ev st T y = some (.int k b))
    (h : AOps P n ops rest K E ((d, .int k (min a b)) :: T) st) : AOps P n ops (⟨some d, .call ⟨.builtin .min, #[x, y], #[t1, t2]⟩, u, pos, es, gd⟩ :: rest) K E T st :=
  AOps.pure hw hd _ (fun g w a' hs hk => by
    have h1 := ev_R hs hk hx
    have h2 := ev_R hs hk hy
    generalize hu' : a'.eval x = u1 at h1
    generalize hv' : a'.eval y = u2 at h2
    cases h1
    cases h2
    refine ⟨.int k (if b < a then b else a), by simp [execOp, resolve, invoke, builtin, hu', hv', Builtin.min_, Builtin.min2], ?_⟩
    rw [show (min a b : Int) = if b < a then b else a from by split <;> omega]
    exact .int _ _) h

/-! slices of slices and strings -/

theorem list_extract_eq (l : List UInt8) (a b : Nat) : (⟨⟨l⟩⟩ : ByteArray).extract a b = ⟨⟨(l.drop a).take (b - a)⟩⟩ := by
  apply ByteArray.ext
  rw [ByteArray.data_extract]
  apply Array.ext'
  simp [List.extract_eq_take_drop]

theorem AOps.sliceStr {t : TypeId} [hu : Und P t .string] {l : List UInt8} {lo hi : Option Operand} {a b : Nat}
    (hw : wantedA ops T ⟨some d, .slice t x lo hi none, ty, pos, es, gd⟩ = some true) (hd : dstOk (some d) n = true) (hx : ev st T x = some (.str l))
    (hlo : (lo = none ∧ a = 0) ∨ ∃ y k, lo = some y ∧ ev st T y = some (.int k (a : Int))) (hhi : (hi = none ∧ b = l.length) ∨ ∃ y k, hi = some y ∧ ev st T y = some (.int k (b : Int))) (hab : a ≤ b) (hb : b ≤ l.length)
    (h : AOps P n ops rest K E ((d, .str ((l.drop a).take (b - a))) :: T) st) : AOps P n ops (⟨some d, .slice t x lo hi none, ty, pos, es, gd⟩ :: rest) K E T st :=
  AOps.pure hw hd _ (fun g w a' hs hk => by
    have h1 := ev_R hs hk hx
    generalize hu' : a'.eval x = u1 at h1
    cases h1
    have hsz : (⟨⟨l⟩⟩ : ByteArray).size = l.length := rfl
    refine ⟨.string ((⟨⟨l⟩⟩ : ByteArray).extract a b), ?_, by rw [list_extract_eq]; exact .str _⟩
    have hlo' : ∀ w, (match lo.map a'.eval with | some v => Instr.sliceBound v b .sliceB | none => (Pure.pure 0 : Sem Nat)).run P w = .ok a w := by
      intro w
      rcases hlo with ⟨rfl, rfl⟩ | ⟨y, k, rfl, hy⟩
      · rfl
      · have h2 := ev_R hs hk hy
        generalize hv : a'.eval y = u2 at h2
        cases h2
        simp only [Option.map_some, hv]
        rw [run_sliceBound w k a b .sliceB (by omega) (by omega)]
        simp
    have hhi' : ∀ w, (match hi.map a'.eval with | some v => Instr.sliceBound v l.length .sliceAlen | none => (Pure.pure l.length : Sem Nat)).run P w = .ok b w := by
      intro w
      rcases hhi with ⟨rfl, rfl⟩ | ⟨y, k, rfl, hy⟩
      · rfl
      · have h2 := ev_R hs hk hy
        generalize hv : a'.eval y = u2 at h2
        cases h2
        simp only [Option.map_some, hv]
        rw [run_sliceBound w k b l.length .sliceAlen (by omega) (by omega)]
        simp
    have hb3 : (Instr.sliceBounds false l.length l.length (lo.map a'.eval) (hi.map a'.eval) none).run P w = .ok (a, b, l.length) w := by
      unfold Instr.sliceBounds
      simp only [Sem.run_bind, Sem.run_pure, Result.andThen_ok]
      have e1 := hhi' w
      have e2 := hlo' w
      cases hx1 : hi.map a'.eval with
      | none =>
        rw [hx1] at e1
        simp only [Sem.run_pure, Result.ok.injEq, and_true] at e1
        subst e1
        cases hx2 : lo.map a'.eval with
        | none => rw [hx2] at e2; simp at e2; simp [e2]
        | some v => rw [hx2] at e2; simp [e2]
      | some v1 =>
        rw [hx1] at e1
        cases hx2 : lo.map a'.eval with
        | none => rw [hx2] at e2; simp at e2; simp [e1, e2]
        | some v => rw [hx2] at e2; simp [e1, e2]
    simp [execOp, hu', Instr.sliceAt, run_und (P := P) (t := t) w, Instr.slice, hsz, hb3]) h

end
end Go.AM
