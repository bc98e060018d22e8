/- Short rules: one evaluator for the operations that ask nothing, and rules whose premises are closed by rfl. No conditions: definitions and lemmas only. -/
import Derived.Test.YtmpifmapdmhgkaaDoorAM4
namespace Go.AM
open Go.RowKit (Below)

def kindEq : IntKind → IntKind → Bool
  | .i8, .i8 | .i16, .i16 | .i32, .i32 | .i64, .i64 | .u8, .u8 | .u16, .u16 | .u32, .u32 | .u64, .u64 => true
  | _, _ => false

theorem kindEq_eq {j k : IntKind} (h : kindEq j k = true) : j = k := by cases j <;> cases k <;> first | rfl | (simp [kindEq] at h)

/-- Comparisons. -/
def cmpA (bo : BinOp) (x y : Option AV) : Option AV :=
  match x, y with
  | some (.int j a), some (.int k b) => bif kindEq j k then (match bo with
    | .lss => some (.bool (decide (a < b)))
    | .leq => some (.bool (decide (a ≤ b)))
    | .gtr => some (.bool (decide (b < a)))
    | .geq => some (.bool (decide (b ≤ a)))
    | .eql => some (.bool (decide (a = b)))
    | .neq => some (.bool (decide (a ≠ b)))
    | _ => none) else none
  | some (.str a), some (.str b) => match bo with
    | .eql => some (.bool (decide (a = b)))
    | .neq => some (.bool (decide (a ≠ b)))
    | _ => none
  | _, _ => none

def valA (st : St) (T : Tmps) : Op → Option AV
  | .move x | .assign x => ev st T x
  | .pick c a b => match ev st T c with
    | some (.bool true) => ev st T a
    | some (.bool false) => ev st T b
    | _ => none
  | .binOp bo _ x y _ => cmpA bo (ev st T x) (ev st T y)
  | .unOp .not _ x => match ev st T x with
    | some (.bool b) => some (.bool (!b))
    | _ => none
  | .extract x i => match ev st T x with
    | some (.tuple vs) => vs[i]?
    | _ => none
  | .nilCheck x => match ev st T x with
    | some (.eptr s rows i off) => some (.eptr s rows i off)
    | some (.cptr o s i off) => some (.cptr o s i off)
    | _ => none
  | _ => none

def dstA (n : Nat) : Option Tmp → Option Tmp
  | some d => bif Nat.blt d n then some d else none
  | none => none

theorem dstA_some {n : Nat} {o : Option Tmp} {d : Tmp} (h : dstA n o = some d) : o = some d ∧ dstOk o n = true := by
  cases o with
  | none => cases h
  | some t =>
    simp only [dstA] at h
    cases hb : Nat.blt t n with
    | false => rw [hb] at h; cases h
    | true => rw [hb] at h; cases h; exact ⟨rfl, hb⟩

/-- Where an operation that is wanted puts its value. -/
def goes (ops : Array Oper) (n : Nat) (T : Tmps) (o : Oper) : Option Tmp :=
  match wantedA ops T o with
  | some true => dstA n o.dst
  | _ => none

theorem goes_some {ops : Array Oper} {n : Nat} {T : Tmps} {o : Oper} {d : Tmp} (h : goes ops n T o = some d) : wantedA ops T o = some true ∧ o.dst = some d ∧ dstOk o.dst n = true := by
  unfold goes at h
  split at h
  · rename_i hw
    exact ⟨hw, dstA_some h⟩
  · cases h

section
variable {P : Program} {n : Nat} {K : Post} {E : EPost} {T : Tmps} {st : St} {ops : Array Oper} {rest : List Oper}

theorem cmpA_run {bo : BinOp} {g : G} {w : World} {t : TypeId} {x y : Operand} {a : Act} {vx vy v : AV} (hx : R g w vx (a.eval x)) (hy : R g w vy (a.eval y)) (h : cmpA bo (some vx) (some vy) = some v) :
    ∃ rv, (do eqGuard bo t x y (a.eval x) (a.eval y); binOp bo t (a.eval x) (a.eval y) : Sem Value).run P w = .ok rv w ∧ R g w v rv := by
  unfold cmpA at h
  split at h
  · rename_i j p k q e1 e2
    simp only [Option.some.injEq] at e1 e2
    subst e1 e2
    generalize hux : a.eval x = ux at hx
    generalize huy : a.eval y = uy at hy
    cases hx
    cases hy
    cases hk : kindEq j k with
    | false => rw [hk] at h; cases h
    | true =>
      rw [hk] at h
      have := kindEq_eq hk
      subst this
      cases bo <;> simp only [cond_true, Option.some.injEq, reduceCtorEq] at h <;> subst h
      · exact ⟨.bool (p == q), by simp only [eqGuard_at_int, binOp_eql, Sem.run_bind, Sem.run_pure, Result.andThen_ok], by rw [show (p == q) = decide (p = q) from by rw [Bool.eq_iff_iff]; simp]; exact .bool _⟩
      · exact ⟨.bool (p != q), by simp only [eqGuard_at_int, binOp_neq, Sem.run_bind, Sem.run_pure, Result.andThen_ok], by rw [show (p != q) = decide (p ≠ q) from by rw [Bool.eq_iff_iff]; simp]; exact .bool _⟩
      · exact ⟨_, by simp only [eqGuard_at_int, binOp_lss, Sem.run_bind, Sem.run_pure, Result.andThen_ok], .bool _⟩
      · exact ⟨_, by simp only [eqGuard_at_int, binOp_leq, Sem.run_bind, Sem.run_pure, Result.andThen_ok], .bool _⟩
      · exact ⟨_, by simp only [eqGuard_at_int, binOp_gtr, Sem.run_bind, Sem.run_pure, Result.andThen_ok], .bool _⟩
      · exact ⟨_, by simp only [eqGuard_at_int, binOp_geq, Sem.run_bind, Sem.run_pure, Result.andThen_ok], .bool _⟩
  · rename_i p q e1 e2
    simp only [Option.some.injEq] at e1 e2
    subst e1 e2
    generalize hux : a.eval x = ux at hx
    generalize huy : a.eval y = uy at hy
    cases hx
    cases hy
    cases bo <;> simp only [Option.some.injEq, reduceCtorEq] at h <;> subst h
    · exact ⟨.bool (p == q), by simp only [eqGuard_at_string, binOp_string_eql, Sem.run_bind, Sem.run_pure, Result.andThen_ok, ByteArray.toList_mk], by rw [show (p == q) = decide (p = q) from by rw [Bool.eq_iff_iff]; simp]; exact .bool _⟩
    · exact ⟨.bool (!(p == q)), by simp only [eqGuard_at_string, binOp_string_neq, Sem.run_bind, Sem.run_pure, Result.andThen_ok, ByteArray.toList_mk], by rw [show (!(p == q)) = decide (p ≠ q) from by rw [Bool.eq_iff_iff]; simp]; exact .bool _⟩
  · cases h

theorem valA_run {o : Oper} {v : AV} (h : valA st T o.op = some v) {g : G} {w : World} {a : Act} (hs : Sim g w st) (hk : Known g w T a) : ∃ rv, (execOp a.eval o).run P w = .ok (.value rv) w ∧ R g w v rv := by
  unfold execOp
  cases ho : o.op <;> simp only [ho, valA, reduceCtorEq] at h ⊢
  case move x => exact ⟨_, rfl, ev_R hs hk h⟩
  case assign x => exact ⟨_, rfl, ev_R hs hk h⟩
  case pick c x y =>
    split at h
    · rename_i hc
      have h1 := ev_R hs hk hc
      generalize hu : a.eval c = u at h1
      cases h1
      exact ⟨a.eval x, by simp [asBool], ev_R hs hk h⟩
    · rename_i hc
      have h1 := ev_R hs hk hc
      generalize hu : a.eval c = u at h1
      cases h1
      exact ⟨a.eval y, by simp [asBool], ev_R hs hk h⟩
    · cases h
  case binOp bo t x y u =>
    cases hx : ev st T x with
    | none => rw [hx] at h; simp [cmpA] at h
    | some vx =>
      cases hy : ev st T y with
      | none => rw [hx, hy] at h; cases vx <;> simp [cmpA] at h
      | some vy =>
        rw [hx, hy] at h
        obtain ⟨rv, h1, h2⟩ := cmpA_run (P := P) (t := t) (x := x) (y := y) (ev_R hs hk hx) (ev_R hs hk hy) h
        refine ⟨rv, ?_, h2⟩
        rw [Sem.run_bind, h1]
        rfl
  case unOp uo t x =>
    cases uo <;> simp only [reduceCtorEq] at h
    split at h
    · rename_i b hx
      have h1 := ev_R hs hk hx
      generalize hu : a.eval x = u at h1
      cases h1
      simp only [Option.some.injEq] at h
      subst h
      exact ⟨.bool (!b), by simp [unary_not], .bool _⟩
    · cases h
  case extract x i =>
    split at h
    · rename_i vs hx
      have h1 := ev_R hs hk hx
      generalize hu : a.eval x = u at h1
      cases h1 with
      | tuple _ us hl hh =>
        have hi : i < us.size := hl ▸ (List.getElem?_eq_some_iff.1 h).1
        exact ⟨us[i], by simp [Instr.extract, hi], hh i v _ h (by simp [hi])⟩
    · cases h
  case nilCheck x =>
    split at h
    · rename_i s rows i off hx
      have h1 := ev_R hs hk hx
      generalize hu : a.eval x = u at h1
      simp only [Option.some.injEq] at h
      subst h
      refine ⟨u, ?_, h1⟩
      cases h1; rfl
    · rename_i o' s i off hx
      have h1 := ev_R hs hk hx
      generalize hu : a.eval x = u at h1
      simp only [Option.some.injEq] at h
      subst h
      refine ⟨u, ?_, h1⟩
      cases h1; rfl
    · cases h

def step1 (ops : Array Oper) (n : Nat) (st : St) (T : Tmps) (o : Oper) : Option (Tmp × AV) :=
  match goes ops n T o, valA st T o.op with
  | some d, some v => some (d, v)
  | _, _ => none

/-- An operation that asks nothing. -/
theorem sm {o : Oper} {d : Tmp} {v : AV} (h : step1 ops n st T o = some (d, v)) (k : AOps P n ops rest K E ((d, v) :: T) st) : AOps P n ops (o :: rest) K E T st := by
  unfold step1 at h
  split at h
  · rename_i d' v' hg hv
    simp only [Option.some.injEq, Prod.mk.injEq] at h
    obtain ⟨rfl, rfl⟩ := h
    obtain ⟨hw, hd, hok⟩ := goes_some hg
    exact AOps.pure hw hok v' (fun g w a hs hk => valA_run hv hs hk) (by rw [hd]; exact k)
  · cases h

def step0 (ops : Array Oper) (n : Nat) (T : Tmps) (o : Oper) : Option Tmp :=
  match wantedA ops T o with
  | some false => dstA n o.dst
  | _ => none

/-- An operation whose guard is false. -/
theorem uw {o : Oper} {d : Tmp} (h : step0 ops n T o = some d) (k : AOps P n ops rest K E ((d, .lit undef) :: T) st) : AOps P n ops (o :: rest) K E T st := by
  unfold step0 at h
  split at h
  · rename_i hw
    obtain ⟨hd, hok⟩ := dstA_some h
    exact AOps.unwanted hw hok (by rw [hd]; exact k)
  · cases h

variable {ty : TypeId} {pos : String} {es : Array Edge} {gd : Option (Nat × Bool)} {d : Tmp} {x y : Operand}

def ptrA (off : Nat) : Option AV → Option AV
  | some (.eptr s rows i o) => some (.eptr s rows i (o + off))
  | some (.cptr o s i f) => some (.cptr o s i (f + off))
  | _ => none

theorem ptrA_some {off : Nat} {p : Option AV} {q : AV} (h : ptrA off p = some q) : ∃ p', p = some p' ∧
    ((∃ s rows i o, p' = .eptr s rows i o ∧ q = .eptr s rows i (o + off)) ∨ (∃ o s i f, p' = .cptr o s i f ∧ q = .cptr o s i (f + off))) := by
  unfold ptrA at h
  split at h
  · simp only [Option.some.injEq] at h; exact ⟨_, rfl, .inl ⟨_, _, _, _, rfl, h.symm⟩⟩
  · simp only [Option.some.injEq] at h; exact ⟨_, rfl, .inr ⟨_, _, _, _, rfl, h.symm⟩⟩
  · cases h

/-- A field of a struct type: where it lies, its type. -/
class Fld (P : Program) (t : TypeId) (f : Nat) (off : outParam Nat) (ft : outParam TypeId) : Prop where
  out : ∃ fs fld, P.underlying t = some (.struct fs) ∧ fs[f]? = some fld ∧ fld.offset = off ∧ fld.type = ft

/-- The address of a field. -/
theorem fa {dd : Option Tmp} {t ft : TypeId} {f off : Nat} [hf : Fld P t f off ft] {sz by_ : Nat} {zz : Value} [hi : Inf P ft (sz + 1) by_ zz] {q : AV} (hg : goes ops n T ⟨dd, .fieldAddr t x f, ty, pos, es, gd⟩ = some d)
    (hx : ptrA off (ev st T x) = some q)
    (k : AOps P n ops rest K E ((d, q) :: T) st) : AOps P n ops (⟨dd, .fieldAddr t x f, ty, pos, es, gd⟩ :: rest) K E T st := by
  obtain ⟨hw, hd, hok⟩ := goes_some hg
  simp only at hd
  subst hd
  obtain ⟨fs, fld, hu, hfl, rfl, rfl⟩ := hf.out
  haveI : Und P t (.struct fs) := ⟨hu⟩
  obtain ⟨p, h1, h2⟩ := ptrA_some hx
  exact AOps.fieldAddr hw hok hfl (by omega) h1 h2 k

/-- A load through a pointer into cells that never change. -/
theorem le {dd : Option Tmp} {t : TypeId} {td : TypeDesc} [hu : Und P t td] {sz by_ : Nat} {zz : Value} [hi : Inf P t sz by_ zz] {s : Nat} {rows : List (List AV)} {i off : Nat} {row : List AV} {v : AV}
    (hg : goes ops n T ⟨dd, .load t x, ty, pos, es, gd⟩ = some d) (hx : ev st T x = some (.eptr s rows i off)) (hr : rows[i]? = some row) (hv : sel (aggD td) sz row off = some v)
    (k : AOps P n ops rest K E ((d, v) :: T) st) : AOps P n ops (⟨dd, .load t x, ty, pos, es, gd⟩ :: rest) K E T st := by
  obtain ⟨hw, hd, hok⟩ := goes_some hg
  simp only at hd
  subst hd
  exact AOps.loadE hw hok hx hr hv k

/-- A load through a pointer into an object. -/
theorem lc {dd : Option Tmp} {t : TypeId} {td : TypeDesc} [hu : Und P t td] {sz by_ : Nat} {zz : Value} [hi : Inf P t sz by_ zz] {o s : Nat} {rows : List (List AV)} {i off : Nat} {row : List AV} {v : AV}
    (hg : goes ops n T ⟨dd, .load t x, ty, pos, es, gd⟩ = some d) (hx : ev st T x = some (.cptr o s i off)) {oty : TypeId} (ho : st.obj o = some (.cells oty s rows)) (hr : rows[i]? = some row) (hv : sel (aggD td) sz row off = some v)
    (k : AOps P n ops rest K E ((d, v) :: T) st) : AOps P n ops (⟨dd, .load t x, ty, pos, es, gd⟩ :: rest) K E T st := by
  obtain ⟨hw, hd, hok⟩ := goes_some hg
  simp only at hd
  subst hd
  exact AOps.loadC hw hok hx ho hr hv k

/-- The address of a slice's element. -/
theorem ix {dd : Option Tmp} {t e : TypeId} [hu : Und P t (.slice e)] {sz by_ : Nat} {zz : Value} [hi : Inf P e sz by_ zz] {rows : List (List AV)} {tk : Tok} {k : IntKind} {i : Int} {m : Nat}
    (hg : goes ops n T ⟨dd, .indexAddr t x y, ty, pos, es, gd⟩ = some d) (hx : ev st T x = some (.view sz rows tk)) (hy : ev st T y = some (.int k i)) (hm : i = m) (hlt : m < rows.length)
    (kk : AOps P n ops rest K E ((d, .eptr sz rows m 0) :: T) st) : AOps P n ops (⟨dd, .indexAddr t x y, ty, pos, es, gd⟩ :: rest) K E T st := by
  obtain ⟨hw, hd, hok⟩ := goes_some hg
  simp only at hd
  subst hd
  exact AOps.indexView hw hok hx hy hm hlt kk

theorem ixm {dd : Option Tmp} {t e : TypeId} [hu : Und P t (.slice e)] {sz by_ : Nat} {zz : Value} [hi : Inf P e sz by_ zz] {o lo len : Nat} {k : IntKind} {i : Int} {m : Nat}
    (hg : goes ops n T ⟨dd, .indexAddr t x y, ty, pos, es, gd⟩ = some d) (hx : ev st T x = some (.msl o sz lo len)) (hy : ev st T y = some (.int k i)) (hm : i = m) (hlt : m < len)
    (kk : AOps P n ops rest K E ((d, .cptr o sz (lo + m) 0) :: T) st) : AOps P n ops (⟨dd, .indexAddr t x y, ty, pos, es, gd⟩ :: rest) K E T st := by
  obtain ⟨hw, hd, hok⟩ := goes_some hg
  simp only at hd
  subst hd
  exact AOps.indexMsl hw hok hx hy hm hlt kk

/-- The address of an array's element. -/
theorem ixa {dd : Option Tmp} {t e : TypeId} {len : Nat} [hu : Und P t (.array len e)] {sz by_ : Nat} {zz : Value} [hi : Inf P e sz by_ zz] {k : IntKind} {i : Int} {m : Nat} {q : AV}
    (hg : goes ops n T ⟨dd, .indexAddr t x y, ty, pos, es, gd⟩ = some d) (hy : ev st T y = some (.int k i)) (hm : i = m) (hlt : m < len) (hx : ptrA (m * sz) (ev st T x) = some q)
    (kk : AOps P n ops rest K E ((d, q) :: T) st) : AOps P n ops (⟨dd, .indexAddr t x y, ty, pos, es, gd⟩ :: rest) K E T st := by
  obtain ⟨hw, hd, hok⟩ := goes_some hg
  simp only at hd
  subst hd
  obtain ⟨p, h1, h2⟩ := ptrA_some hx
  exact AOps.indexArr hw hok h1 hy hm hlt h2 kk

theorem fd {dd : Option Tmp} {t ft : TypeId} {f off : Nat} [hf : Fld P t f off ft] {td : TypeDesc} {sz by_ : Nat} {zz : Value} {cs : List AV} {v : AV} [hq : Und P ft td] [hi : Inf P ft sz by_ zz]
    (hg : goes ops n T ⟨dd, .field t x f, ty, pos, es, gd⟩ = some d)
    (hx : ev st T x = some (.agg cs)) (hv : sel (aggD td) sz cs off = some v)
    (k : AOps P n ops rest K E ((d, v) :: T) st) : AOps P n ops (⟨dd, .field t x f, ty, pos, es, gd⟩ :: rest) K E T st := by
  obtain ⟨hw, hd, hok⟩ := goes_some hg
  simp only at hd
  subst hd
  obtain ⟨fs, fld, hu, hfl, rfl, rfl⟩ := hf.out
  haveI : Und P t (.struct fs) := ⟨hu⟩
  exact AOps.field hw hok hfl hx hv k

theorem lnv {dd : Option Tmp} {t u : TypeId} {e : TypeId} [hu : Und P t (.slice e)] {sz : Nat} {rows : List (List AV)} {tk : Tok}
    (hg : goes ops n T ⟨dd, .call ⟨.builtin .len, #[x], #[t]⟩, u, pos, es, gd⟩ = some d) (hx : ev st T x = some (.view sz rows tk))
    (k : AOps P n ops rest K E ((d, .int .i64 rows.length) :: T) st) : AOps P n ops (⟨dd, .call ⟨.builtin .len, #[x], #[t]⟩, u, pos, es, gd⟩ :: rest) K E T st := by
  obtain ⟨hw, hd, hok⟩ := goes_some hg
  simp only at hd
  subst hd
  exact AOps.lenView hw hok hx k
theorem lnm {dd : Option Tmp} {t u : TypeId} {e : TypeId} [hu : Und P t (.slice e)] {o sz lo len : Nat}
    (hg : goes ops n T ⟨dd, .call ⟨.builtin .len, #[x], #[t]⟩, u, pos, es, gd⟩ = some d) (hx : ev st T x = some (.msl o sz lo len))
    (k : AOps P n ops rest K E ((d, .int .i64 len) :: T) st) : AOps P n ops (⟨dd, .call ⟨.builtin .len, #[x], #[t]⟩, u, pos, es, gd⟩ :: rest) K E T st := by
  obtain ⟨hw, hd, hok⟩ := goes_some hg
  simp only at hd
  subst hd
  exact AOps.lenMsl hw hok hx k
theorem lns {dd : Option Tmp} {t u : TypeId} [hu : Und P t .string] {l : List UInt8}
    (hg : goes ops n T ⟨dd, .call ⟨.builtin .len, #[x], #[t]⟩, u, pos, es, gd⟩ = some d) (hx : ev st T x = some (.str l))
    (k : AOps P n ops rest K E ((d, .int .i64 l.length) :: T) st) : AOps P n ops (⟨dd, .call ⟨.builtin .len, #[x], #[t]⟩, u, pos, es, gd⟩ :: rest) K E T st := by
  obtain ⟨hw, hd, hok⟩ := goes_some hg
  simp only at hd
  subst hd
  exact AOps.lenStr hw hok hx k
theorem mn {dd : Option Tmp} {u t1 t2 : TypeId} {k : IntKind} {a b : Int}
    (hg : goes ops n T ⟨dd, .call ⟨.builtin .min, #[x, y], #[t1, t2]⟩, u, pos, es, gd⟩ = some d) (hx : ev st T x = some (.int k a)) (hy : ev st T y = some (.int k b))
    (h : AOps P n ops rest K E ((d, .int k (min a b)) :: T) st) : AOps P n ops (⟨dd, .call ⟨.builtin .min, #[x, y], #[t1, t2]⟩, u, pos, es, gd⟩ :: rest) K E T st := by
  obtain ⟨hw, hd, hok⟩ := goes_some hg
  simp only at hd
  subst hd
  exact AOps.min2 hw hok hx hy h

/-! sums that stay in range -/

theorem wrap64 {a : Int} (h : -9223372036854775808 ≤ a ∧ a < 9223372036854775808) : IntKind.i64.wrap a = a := by
  simp only [IntKind.wrap, IntKind.bits, IntKind.signed]
  simp
  split <;> omega

/-- A sum of two numbers that are not negative. -/
theorem adn {dd : Option Tmp} {t u : TypeId} {a b : Nat} (hg : goes ops n T ⟨dd, .binOp .add t x y u, ty, pos, es, gd⟩ = some d)
    (hx : ev st T x = some (.int .i64 (a : Int))) (hy : ev st T y = some (.int .i64 (b : Int))) (hc : a + b < 9223372036854775808)
    (k : AOps P n ops rest K E ((d, .int .i64 ((a + b : Nat) : Int)) :: T) st) : AOps P n ops (⟨dd, .binOp .add t x y u, ty, pos, es, gd⟩ :: rest) K E T st := by
  obtain ⟨hw, hd, hok⟩ := goes_some hg
  simp only at hd
  subst hd
  exact AOps.add hw hok hx hy (by rw [wrap64 (by omega)]; omega) k
theorem ad {dd : Option Tmp} {t u : TypeId} {a b : Int} (hg : goes ops n T ⟨dd, .binOp .add t x y u, ty, pos, es, gd⟩ = some d)
    (hx : ev st T x = some (.int .i64 a)) (hy : ev st T y = some (.int .i64 b)) (hc : -9223372036854775808 ≤ a + b ∧ a + b < 9223372036854775808)
    (k : AOps P n ops rest K E ((d, .int .i64 (a + b)) :: T) st) : AOps P n ops (⟨dd, .binOp .add t x y u, ty, pos, es, gd⟩ :: rest) K E T st := by
  obtain ⟨hw, hd, hok⟩ := goes_some hg
  simp only at hd
  subst hd
  exact AOps.add hw hok hx hy (wrap64 hc) k
theorem sb {dd : Option Tmp} {t u : TypeId} {a b : Int} (hg : goes ops n T ⟨dd, .binOp .sub t x y u, ty, pos, es, gd⟩ = some d)
    (hx : ev st T x = some (.int .i64 a)) (hy : ev st T y = some (.int .i64 b)) (hc : -9223372036854775808 ≤ a - b ∧ a - b < 9223372036854775808)
    (k : AOps P n ops rest K E ((d, .int .i64 (a - b)) :: T) st) : AOps P n ops (⟨dd, .binOp .sub t x y u, ty, pos, es, gd⟩ :: rest) K E T st := by
  obtain ⟨hw, hd, hok⟩ := goes_some hg
  simp only at hd
  subst hd
  exact AOps.sub hw hok hx hy (wrap64 hc) k
/-- A difference that is not negative. -/
theorem sbn {dd : Option Tmp} {t u : TypeId} {a b : Nat} (hg : goes ops n T ⟨dd, .binOp .sub t x y u, ty, pos, es, gd⟩ = some d)
    (hx : ev st T x = some (.int .i64 (a : Int))) (hy : ev st T y = some (.int .i64 (b : Int))) (hc : b ≤ a ∧ a < 9223372036854775808)
    (k : AOps P n ops rest K E ((d, .int .i64 ((a - b : Nat) : Int)) :: T) st) : AOps P n ops (⟨dd, .binOp .sub t x y u, ty, pos, es, gd⟩ :: rest) K E T st := by
  obtain ⟨hw, hd, hok⟩ := goes_some hg
  simp only at hd
  subst hd
  exact AOps.sub hw hok hx hy (by rw [wrap64 (by omega)]; omega) k
theorem ml {dd : Option Tmp} {t u : TypeId} {a b : Int} (hg : goes ops n T ⟨dd, .binOp .mul t x y u, ty, pos, es, gd⟩ = some d)
    (hx : ev st T x = some (.int .i64 a)) (hy : ev st T y = some (.int .i64 b)) (hc : -9223372036854775808 ≤ a * b ∧ a * b < 9223372036854775808)
    (k : AOps P n ops rest K E ((d, .int .i64 (a * b)) :: T) st) : AOps P n ops (⟨dd, .binOp .mul t x y u, ty, pos, es, gd⟩ :: rest) K E T st := by
  obtain ⟨hw, hd, hok⟩ := goes_some hg
  simp only at hd
  subst hd
  exact AOps.mul hw hok hx hy (wrap64 hc) k
theorem rm {dd : Option Tmp} {t u : TypeId} {kk : IntKind} {a b : Int} (hg : goes ops n T ⟨dd, .binOp .rem t x y u, ty, pos, es, gd⟩ = some d)
    (hx : ev st T x = some (.int kk a)) (hy : ev st T y = some (.int kk b)) (hc : b ≠ 0)
    (k : AOps P n ops rest K E ((d, .int kk (a.tmod b)) :: T) st) : AOps P n ops (⟨dd, .binOp .rem t x y u, ty, pos, es, gd⟩ :: rest) K E T st := by
  obtain ⟨hw, hd, hok⟩ := goes_some hg
  simp only at hd
  subst hd
  exact AOps.rem hw hok hx hy hc rfl k
theorem qu {dd : Option Tmp} {t u : TypeId} {a b : Int} (hg : goes ops n T ⟨dd, .binOp .quo t x y u, ty, pos, es, gd⟩ = some d)
    (hx : ev st T x = some (.int .i64 a)) (hy : ev st T y = some (.int .i64 b)) (h0 : b ≠ 0) (hc : -9223372036854775808 ≤ a.tdiv b ∧ a.tdiv b < 9223372036854775808)
    (k : AOps P n ops rest K E ((d, .int .i64 (a.tdiv b)) :: T) st) : AOps P n ops (⟨dd, .binOp .quo t x y u, ty, pos, es, gd⟩ :: rest) K E T st := by
  obtain ⟨hw, hd, hok⟩ := goes_some hg
  simp only at hd
  subst hd
  exact AOps.quo hw hok hx hy h0 (wrap64 hc) k

/-! control -/

theorem rg {id : Nat} {l : List Oper} (h : AOps P n l.toArray l K E T st) : AWP P n (.region id l.toArray false) K E T st := AWP.region_lit h
theorem nl {o : Array Oper} (h : K T st) : AOps P n o [] K E T st := AOps.nil h
/-- A sequence, what holds in between of the shape of some x. -/
theorem cut {c c' : Code} {α : Type} (sh : α → Tmps) (ss : α → St) (inv : α → Prop) (h : AWP P n c (fun T' st' => ∃ y, inv y ∧ TLe T' (sh y) ∧ StLe st' (ss y)) E T st)
    (k : ∀ y, inv y → AWP P n c' K E (sh y) (ss y)) : AWP P n (.seq c c') K E T st :=
  AWP.seq (AWP.mono h (fun _ _ ⟨y, h1, h2, h3⟩ => AWP.weaken h2 h3 (k y h1)) (fun _ _ _ he => he))

theorem blk_hit {id : Nat} {K : Post} {E : EPost} {T : Tmps} {st : St} (h : K T st) : blk id K E (.exit id) T st := by
  simp only [blk, nbeq_self, cond_true]; exact h
theorem blk_miss {id i : Nat} {K : Post} {E : EPost} {T : Tmps} {st : St} (hi : Nat.beq i id = false) (h : E (.exit i) T st) : blk id K E (.exit i) T st := by
  simp only [blk, hi, cond_false]; exact h
theorem blk_ret {id : Nat} {K : Post} {E : EPost} {T : Tmps} {st : St} (h : E .ret T st) : blk id K E .ret T st := h

end
end Go.AM
