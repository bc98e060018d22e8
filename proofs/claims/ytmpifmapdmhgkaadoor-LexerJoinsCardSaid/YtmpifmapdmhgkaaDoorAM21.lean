/- Structs and arrays of numbers, truth values and strings, compared. No conditions: definitions and lemmas only. -/
import Derived.Test.YtmpifmapdmhgkaaDoorAM20
import Derived.Laws.StructEq
import Derived.ChangeKeysEq
namespace Go.AM
open Go.RowKit (Below)

inductive Sh where
  | kI (k : IntKind)
  | kB
  | kS

/-- The cells of a type that holds plain cells alone. -/
def flatFields (P : Program) (F : TypeId → Option (List Sh)) : Nat → List Field → Option (List Sh)
  | _, [] => some []
  | off, f :: fs => match F f.type, (P.info? f.type).map (·.size) with
    | some sh, some sz => bif Nat.beq f.offset off && Nat.beq sz sh.length && f.name != "_" then (flatFields P F (off + sh.length) fs).map (sh ++ ·) else none
    | _, _ => none

def flatTy (P : Program) : Nat → TypeId → Option (List Sh)
  | 0, _ => none
  | d + 1, t => match P.underlying t with
    | some (.int k) => some [.kI k]
    | some .bool => some [.kB]
    | some .string => some [.kS]
    | some (.struct fs) => bif P.stoodInHeld t then none else flatFields P (flatTy P d) 0 fs.toList
    | some (.array n e) => match flatTy P d e, (P.info? e).map (·.size) with
      | some sh, some sz => bif Nat.beq sz sh.length then some (List.replicate n sh).flatten else none
      | _, _ => none
    | _ => none

def fit1 : Sh → AV → Bool
  | .kI k, .int k' _ => kindEq k k'
  | .kB, .bool _ => true
  | .kS, .str _ => true
  | _, _ => false
def fits : List Sh → List AV → Bool
  | [], [] => true
  | s :: ss, c :: cs => fit1 s c && fits ss cs
  | _, _ => false

def avEq : AV → AV → Bool
  | .int _ a, .int _ b => decide (a = b)
  | .bool a, .bool b => a == b
  | .str a, .str b => decide (a = b)
  | _, _ => false
def cellsEq : List AV → List AV → Bool
  | [], [] => true
  | a :: as, b :: bs => avEq a b && cellsEq as bs
  | _, _ => false

theorem fits_length : ∀ {ss : List Sh} {cs : List AV}, fits ss cs = true → cs.length = ss.length
  | [], [], _ => rfl
  | [], _ :: _, h => by cases h
  | _ :: _, [], h => by cases h
  | s :: ss, c :: cs, h => by
    simp only [fits, Bool.and_eq_true] at h
    simp [fits_length h.2]

theorem fits_append : ∀ {s1 s2 : List Sh} {cs : List AV}, fits (s1 ++ s2) cs = true → fits s1 (cs.take s1.length) = true ∧ fits s2 (cs.drop s1.length) = true
  | [], s2, cs, h => ⟨by simp [fits], h⟩
  | s :: s1, s2, [], h => by cases h
  | s :: s1, s2, c :: cs, h => by
    simp only [List.cons_append, fits, Bool.and_eq_true] at h
    obtain ⟨h1, h2⟩ := fits_append h.2
    exact ⟨by simp [fits, h.1, h1], by simpa using h2⟩

theorem cellsEq_split : ∀ (n : Nat) (cs ds : List AV), cs.length = ds.length → cellsEq cs ds = (cellsEq (cs.take n) (ds.take n) && cellsEq (cs.drop n) (ds.drop n))
  | 0, cs, ds, _ => by simp [cellsEq]
  | n + 1, [], [], _ => rfl
  | n + 1, [], d :: ds, h => by simp at h
  | n + 1, c :: cs, [], h => by simp at h
  | n + 1, c :: cs, d :: ds, h => by
    simp only [List.take_succ_cons, List.drop_succ_cons, cellsEq, Bool.and_assoc]
    rw [cellsEq_split n cs ds (by simpa using h)]

section
variable {P : Program}

/-- A value out of cells. -/
def mkV (P : Program) (t : TypeId) (vs : List Value) : Value :=
  match P.underlying t with
  | some (.struct _) | some (.array _ _) => .agg vs.toArray
  | _ => vs.headD undef

/-- Cells, one by one. -/
def Rl (g : G) (w : World) (cs : List AV) (vs : List Value) : Prop := cs.length = vs.length ∧ ∀ (i : Nat) c v, cs[i]? = some c → vs[i]? = some v → R g w c v

theorem Rl.take {g : G} {w : World} {cs : List AV} {vs : List Value} (h : Rl g w cs vs) (n : Nat) : Rl g w (cs.take n) (vs.take n) :=
  ⟨by simp [h.1], fun i c v hc hv => by
    rw [List.getElem?_take] at hc hv
    split at hc
    · rename_i hi
      rw [if_pos hi] at hv
      exact h.2 i c v hc hv
    · cases hc⟩
theorem Rl.drop {g : G} {w : World} {cs : List AV} {vs : List Value} (h : Rl g w cs vs) (n : Nat) : Rl g w (cs.drop n) (vs.drop n) :=
  ⟨by simp [h.1], fun i c v hc hv => by
    rw [List.getElem?_drop] at hc hv
    exact h.2 _ c v hc hv⟩

theorem run_part (w : World) {t : TypeId} {d : Nat} {sh : List Sh} (hf : flatTy P d t = some sh) (hsz : (P.info? t).map (·.size) = some sh.length) (vs : List Value) (off : Nat) (hl : off + sh.length ≤ vs.length) :
    (part t vs.toArray off).run P w = .ok (mkV P t ((vs.drop off).take sh.length)) w := by
  obtain ⟨inf, hi, hs⟩ := Option.map_eq_some_iff.1 hsz
  have hsize : (sizeOf t).run P w = .ok sh.length w := by simp [sizeOf, typeInfo, hi, hs]
  have hagg : ∀ fs, (P.underlying t = some (.struct fs) ∨ ∃ n e, P.underlying t = some (.array n e)) → (isAgg t).run P w = .ok true w := by
    intro fs h
    rcases h with h | ⟨n, e, h⟩ <;> simp [isAgg, run_underlying h]
  cases d with
  | zero => cases hf
  | succ d =>
    unfold flatTy at hf
    unfold mkV
    have one : ∀ td, P.underlying t = some td → aggD td = false → sh.length = 1 → (part t vs.toArray off).run P w = .ok (((vs.drop off).take sh.length).headD undef) w := by
      intro td hu ha h1
      have hag : (isAgg t).run P w = .ok false w := by
        haveI : Und P t td := ⟨hu⟩
        rw [run_isAgg w, ha]
      have hlt : off < vs.length := by omega
      have hget : vs.toArray[off]? = some vs[off] := by simp [hlt]
      have hd : ((vs.drop off).take sh.length).headD undef = vs[off] := by
        rw [h1, List.drop_eq_getElem_cons hlt]
        rfl
      rw [hd]
      simp [part, hag, hget]
    have many : (isAgg t).run P w = .ok true w → (part t vs.toArray off).run P w = .ok (.agg ((vs.drop off).take sh.length).toArray) w := by
      intro ha
      simp [part, ha, hsize]
    split at hf
    · rename_i k hu; cases hf; rw [hu]; exact one _ hu rfl rfl
    · rename_i hu; cases hf; rw [hu]; exact one _ hu rfl rfl
    · rename_i hu; cases hf; rw [hu]; exact one _ hu rfl rfl
    · rename_i fs hu; rw [hu]; exact many (hagg fs (.inl hu))
    · rename_i n e hu; rw [hu]; exact many (hagg #[] (.inr ⟨n, e, hu⟩))
    · cases hf

theorem avEq_run (w : World) {d : Nat} {t : TypeId} {s : Sh} (hf : flatTy P (d + 1) t = some [s]) (hu : ∀ fs, P.underlying t ≠ some (.struct fs)) (hu' : ∀ n e, P.underlying t ≠ some (.array n e)) {g : G} {a b : AV} {x y : Value} (hx : R g w a x) (hy : R g w b y) (ha : fit1 s a = true) (hb : fit1 s b = true) :
    (Op.equalIn (d + 1) t x y).run P w = .ok (avEq a b) w := by
  unfold flatTy at hf
  split at hf
  · rename_i k h
    cases hf
    cases a <;> simp only [fit1, Bool.false_eq_true] at ha
    cases b <;> simp only [fit1, Bool.false_eq_true] at hb
    have e1 := kindEq_eq ha
    have e2 := kindEq_eq hb
    subst e1 e2
    cases hx
    cases hy
    rw [run_equalIn_int w d t _ _ _ _ h]
    simp only [avEq]
    congr 1
  · rename_i h
    cases hf
    cases a <;> simp only [fit1, Bool.false_eq_true] at ha
    cases b <;> simp only [fit1, Bool.false_eq_true] at hb
    cases hx
    cases hy
    rw [run_equalIn_bool' w d t _ _ h]
    rfl
  · rename_i h
    cases hf
    cases a <;> simp only [fit1, Bool.false_eq_true] at ha
    cases b <;> simp only [fit1, Bool.false_eq_true] at hb
    cases hx
    cases hy
    rw [run_equalIn_string w d t _ _ h]
    simp only [avEq, ByteArray.toList_mk]
    congr 1
    rw [Bool.eq_iff_iff]
    simp
  · rename_i fs h; exact absurd h (hu fs)
  · rename_i n e h; exact absurd h (hu' n e)
  · cases hf

theorem eqFields_run (w : World) {d : Nat} {g : G} (ih : ∀ t sh, flatTy P d t = some sh → ∀ (cs ds : List AV) (xs ys : List Value), Rl g w cs xs → Rl g w ds ys → fits sh cs = true → fits sh ds = true → (Op.equalIn d t (mkV P t xs) (mkV P t ys)).run P w = .ok (cellsEq cs ds) w)
    {cs ds : List AV} {xs ys : List Value} (hx : Rl g w cs xs) (hy : Rl g w ds ys) (hcd : cs.length = ds.length) : ∀ (fs : List Field) (off : Nat) (sh : List Sh), flatFields P (flatTy P d) off fs = some sh → off ≤ cs.length → fits sh (cs.drop off) = true → fits sh (ds.drop off) = true →
    (Op.eqFields d xs.toArray ys.toArray fs).run P w = .ok (cellsEq (cs.drop off) (ds.drop off)) w
  | [], off, sh, h, _, h1, h2 => by
    cases h
    have e1 := List.eq_nil_of_length_eq_zero (fits_length h1)
    have e2 := List.eq_nil_of_length_eq_zero (fits_length h2)
    rw [e1, e2]
    rfl
  | f :: fs, off, sh, h, hoff, h1, h2 => by
    unfold flatFields at h
    cases hF : flatTy P d f.type with
    | none => rw [hF] at h; cases h
    | some s1 =>
      cases hS : (P.info? f.type).map (·.size) with
      | none => rw [hF, hS] at h; cases h
      | some sz =>
        simp only [hF, hS] at h
        cases hc : (Nat.beq f.offset off && Nat.beq sz s1.length && f.name != "_") with
        | false => rw [hc] at h; cases h
        | true =>
          rw [hc, cond_true] at h
          simp only [Bool.and_eq_true] at hc
          obtain ⟨⟨c1, c2⟩, c3⟩ := hc
          have c1 := Nat.eq_of_beq_eq_true c1
          have c2 := Nat.eq_of_beq_eq_true c2
          have c3 : f.name ≠ "_" := by simpa using c3
          obtain ⟨s2, hs2, rfl⟩ := Option.map_eq_some_iff.1 h
          obtain ⟨p1, p2⟩ := fits_append h1
          obtain ⟨q1, q2⟩ := fits_append h2
          rw [List.drop_drop] at p2 q2
          have hl1 := fits_length p1
          have hl := fits_length h1
          simp only [List.length_take, List.length_drop, List.length_append] at hl hl1
          have hp1 := run_part (P := P) w hF (c2 ▸ hS) xs off (by rw [← hx.1]; omega)
          have hp2 := run_part (P := P) w hF (c2 ▸ hS) ys off (by rw [← hy.1]; omega)
          have he := ih _ _ hF _ _ _ _ ((hx.drop off).take s1.length) ((hy.drop off).take s1.length) p1 q1
          have hr := eqFields_run w ih hx hy hcd fs (off + s1.length) s2 hs2 (by omega) p2 q2
          rw [cellsEq_split s1.length (cs.drop off) (ds.drop off) (by simp [hcd])]
          rw [List.drop_drop, List.drop_drop]
          simp only [Op.eqFields, c3, ne_eq, not_false_eq_true, if_true, c1, Sem.run_bind, hp1, hp2, he, Result.andThen_ok]
          cases hb : cellsEq ((cs.drop off).take s1.length) ((ds.drop off).take s1.length) with
          | false => simp
          | true => simpa using hr

theorem eqItems_run (w : World) {d : Nat} {g : G} {e : TypeId} {s1 : List Sh} (hF : flatTy P d e = some s1) (hS : (P.info? e).map (·.size) = some s1.length) (ih : ∀ (cs ds : List AV) (xs ys : List Value), Rl g w cs xs → Rl g w ds ys → fits s1 cs = true → fits s1 ds = true → (Op.equalIn d e (mkV P e xs) (mkV P e ys)).run P w = .ok (cellsEq cs ds) w)
    {cs ds : List AV} {xs ys : List Value} (hx : Rl g w cs xs) (hy : Rl g w ds ys) (hcd : cs.length = ds.length) : ∀ (j k : Nat), k * s1.length ≤ cs.length → fits (List.replicate j s1).flatten (cs.drop (k * s1.length)) = true → fits (List.replicate j s1).flatten (ds.drop (k * s1.length)) = true →
    (Op.eqItems d e s1.length xs.toArray ys.toArray (List.range' k j)).run P w = .ok (cellsEq (cs.drop (k * s1.length)) (ds.drop (k * s1.length))) w
  | 0, k, _, h1, h2 => by
    have e1 := List.eq_nil_of_length_eq_zero (fits_length h1)
    have e2 := List.eq_nil_of_length_eq_zero (fits_length h2)
    rw [e1, e2]
    rfl
  | j + 1, k, hk, h1, h2 => by
    rw [List.replicate_succ, List.flatten_cons] at h1 h2
    obtain ⟨p1, p2⟩ := fits_append h1
    obtain ⟨q1, q2⟩ := fits_append h2
    rw [List.drop_drop] at p2 q2
    have e : k * s1.length + s1.length = (k + 1) * s1.length := by rw [Nat.add_mul, Nat.one_mul]
    rw [e] at p2 q2
    have hl1 := fits_length p1
    have hl := fits_length h1
    simp only [List.length_take, List.length_drop, List.length_append] at hl hl1
    have hp1 := run_part (P := P) w hF hS xs (k * s1.length) (by rw [← hx.1]; omega)
    have hp2 := run_part (P := P) w hF hS ys (k * s1.length) (by rw [← hy.1]; omega)
    have he := ih _ _ _ _ ((hx.drop (k * s1.length)).take s1.length) ((hy.drop (k * s1.length)).take s1.length) p1 q1
    have hr := eqItems_run w hF hS ih hx hy hcd j (k + 1) (by omega) p2 q2
    rw [cellsEq_split s1.length (cs.drop (k * s1.length)) (ds.drop (k * s1.length)) (by simp [hcd])]
    rw [List.drop_drop, List.drop_drop, e]
    simp only [List.range'_succ, Op.eqItems, Sem.run_bind, hp1, hp2, he, Result.andThen_ok]
    cases hb : cellsEq ((cs.drop (k * s1.length)).take s1.length) ((ds.drop (k * s1.length)).take s1.length) with
    | false => simp
    | true => simpa using hr

theorem flat_eq : ∀ (d : Nat) (t : TypeId) (sh : List Sh), flatTy P d t = some sh → ∀ (g : G) (w : World) (cs ds : List AV) (xs ys : List Value), Rl g w cs xs → Rl g w ds ys → fits sh cs = true → fits sh ds = true →
    (Op.equalIn d t (mkV P t xs) (mkV P t ys)).run P w = .ok (cellsEq cs ds) w
  | 0, t, sh, h => by cases h
  | d + 1, t, sh, h => by
    intro g w cs ds xs ys hx hy h1 h2
    have h0 := h
    unfold flatTy at h
    have one : ∀ s, sh = [s] → (∀ fs, P.underlying t ≠ some (.struct fs)) → (∀ n e, P.underlying t ≠ some (.array n e)) → (Op.equalIn (d + 1) t (mkV P t xs) (mkV P t ys)).run P w = .ok (cellsEq cs ds) w := by
      intro s hs hu hu'
      subst hs
      match cs, fits_length h1, h1 with
      | [a], _, h1 =>
        match ds, fits_length h2, h2 with
        | [b], _, h2 =>
          have hxl : xs.length = 1 := hx.1.symm
          have hyl : ys.length = 1 := hy.1.symm
          match xs, hxl with
          | [x], _ =>
            match ys, hyl with
            | [y], _ =>
              have e : ∀ v, mkV P t [v] = v := by
                intro v
                unfold mkV
                split
                · rename_i fs h; exact absurd h (hu fs)
                · rename_i n e h; exact absurd h (hu' n e)
                · rfl
              rw [e, e]
              simp only [fits, Bool.and_true] at h1 h2
              rw [avEq_run w h0 hu hu' (hx.2 0 a x rfl rfl) (hy.2 0 b y rfl rfl) h1 h2]
              simp [cellsEq]
    split at h
    · rename_i k hu; cases h; exact one _ rfl (by simp [hu]) (by simp [hu])
    · rename_i hu; cases h; exact one _ rfl (by simp [hu]) (by simp [hu])
    · rename_i hu; cases h; exact one _ rfl (by simp [hu]) (by simp [hu])
    · rename_i fs hu
      cases hst : P.stoodInHeld t with
      | true => rw [hst] at h; cases h
      | false =>
        rw [hst, cond_false] at h
        have hfs : P.fieldsOf t = fs := by simp [Program.fieldsOf, hu]
        have hmk : ∀ vs, mkV P t vs = .agg vs.toArray := fun vs => by unfold mkV; rw [hu]
        rw [hmk, hmk, run_equalIn_struct w d t _ _ (by rw [hfs]; exact hu) hst, hfs]
        exact eqFields_run w (fun t sh hf cs ds xs ys => flat_eq d t sh hf g w cs ds xs ys) hx hy (by rw [fits_length h1, fits_length h2]) fs.toList 0 sh h (Nat.zero_le _) h1 h2
    · rename_i n e hu
      cases hF : flatTy P d e with
      | none => rw [hF] at h; cases h
      | some s1 =>
        cases hS : (P.info? e).map (·.size) with
        | none => rw [hF, hS] at h; cases h
        | some sz =>
          simp only [hF, hS] at h
          cases hc : Nat.beq sz s1.length with
          | false => rw [hc] at h; cases h
          | true =>
            rw [hc, cond_true] at h
            cases h
            have hc := Nat.eq_of_beq_eq_true hc
            subst hc
            have hmk : ∀ vs, mkV P t vs = .agg vs.toArray := fun vs => by unfold mkV; rw [hu]
            obtain ⟨inf, hi, hs⟩ := Option.map_eq_some_iff.1 hS
            have hco : P.cellsOf e = s1.length := by simp [Program.cellsOf, hi, hs]
            rw [hmk, hmk, run_equalIn_array w d _ _ hu hi, hco, List.range_eq_range']
            have := eqItems_run w hF hS (fun cs ds xs ys => flat_eq d e s1 hF g w cs ds xs ys) hx hy (by rw [fits_length h1, fits_length h2]) n 0 (by simp) (by simpa using h1) (by simpa using h2)
            simpa using this
    · cases h

/-- A type of plain cells that may be compared. -/
class FlatT (P : Program) (t : TypeId) (sh : outParam (List Sh)) : Prop where
  out : flatTy P 10000 t = some sh
  guard : P.eqGuardType P.depth t = false
  agg : (match P.underlying t with | some (.struct _) | some (.array _ _) => true | _ => false) = true

variable {n : Nat} {K : Post} {E : EPost} {T : Tmps} {st : St} {ops : Array Oper} {rest : List Oper}
variable {d : Tmp} {dd : Option Tmp} {x y z : Operand} {ty : TypeId} {pos : String} {es : Array Edge} {gd : Option (Nat × Bool)}

theorem flat_run {t : TypeId} {sh : List Sh} [h : FlatT P t sh] {g : G} {w : World} {cs ds : List AV} {xs ys : Array Value} (hx : R g w (.agg cs) (.agg xs)) (hy : R g w (.agg ds) (.agg ys)) (h1 : fits sh cs = true) (h2 : fits sh ds = true) :
    (Op.equalIn 10000 t (.agg xs) (.agg ys)).run P w = .ok (cellsEq cs ds) w := by
  have hmk : ∀ vs : Array Value, mkV P t vs.toList = .agg vs := fun vs => by
    have := h.agg
    unfold mkV
    split at this
    · simp
    · simp
    · cases this
  have := flat_eq 10000 t sh h.out g w cs ds xs.toList ys.toList (by
    cases hx with
    | agg _ _ hl _ hh => exact ⟨by simpa using hl, fun i c v hc hv => hh i c v hc (by simpa using hv)⟩) (by
    cases hy with
    | agg _ _ hl _ hh => exact ⟨by simpa using hl, fun i c v hc hv => hh i c v hc (by simpa using hv)⟩) h1 h2
  rwa [hmk, hmk] at this

/-- Are two structs the same? -/
theorem eqA {t u : TypeId} {sh : List Sh} [h : FlatT P t sh] {cs ds : List AV} (hg : goes ops n T ⟨dd, .binOp .eql t x y u, ty, pos, es, gd⟩ = some d) (hx : ev st T x = some (.agg cs)) (hy : ev st T y = some (.agg ds))
    (h1 : fits sh cs = true) (h2 : fits sh ds = true) (k : AOps P n ops rest K E ((d, .bool (cellsEq cs ds)) :: T) st) : AOps P n ops (⟨dd, .binOp .eql t x y u, ty, pos, es, gd⟩ :: rest) K E T st := by
  obtain ⟨hw, hd, hok⟩ := goes_some hg
  simp only at hd
  subst hd
  refine AOps.pure hw hok _ (fun g w a hs hk => ?_) k
  have q1 := ev_R hs hk hx
  have q2 := ev_R hs hk hy
  generalize hux : a.eval x = ux at q1
  generalize huy : a.eval y = uy at q2
  cases q1 with
  | agg _ xs hl1 ho1 hh1 =>
    cases q2 with
    | agg _ ys hl2 ho2 hh2 =>
      have := flat_run (P := P) (t := t) (.agg _ _ hl1 ho1 hh1) (.agg _ _ hl2 ho2 hh2) h1 h2
      refine ⟨.bool (cellsEq cs ds), ?_, .bool _⟩
      simp only [execOp, hux, huy, Sem.run_bind, run_eqGuard_agg w .eql t x y xs ys h.guard, run_eql_struct, this, Result.andThen_ok, Sem.run_pure]
theorem neA {t u : TypeId} {sh : List Sh} [h : FlatT P t sh] {cs ds : List AV} (hg : goes ops n T ⟨dd, .binOp .neq t x y u, ty, pos, es, gd⟩ = some d) (hx : ev st T x = some (.agg cs)) (hy : ev st T y = some (.agg ds))
    (h1 : fits sh cs = true) (h2 : fits sh ds = true) (k : AOps P n ops rest K E ((d, .bool (!cellsEq cs ds)) :: T) st) : AOps P n ops (⟨dd, .binOp .neq t x y u, ty, pos, es, gd⟩ :: rest) K E T st := by
  obtain ⟨hw, hd, hok⟩ := goes_some hg
  simp only at hd
  subst hd
  refine AOps.pure hw hok _ (fun g w a hs hk => ?_) k
  have q1 := ev_R hs hk hx
  have q2 := ev_R hs hk hy
  generalize hux : a.eval x = ux at q1
  generalize huy : a.eval y = uy at q2
  cases q1 with
  | agg _ xs hl1 ho1 hh1 =>
    cases q2 with
    | agg _ ys hl2 ho2 hh2 =>
      have := flat_run (P := P) (t := t) (.agg _ _ hl1 ho1 hh1) (.agg _ _ hl2 ho2 hh2) h1 h2
      refine ⟨.bool (!cellsEq cs ds), ?_, .bool _⟩
      simp only [execOp, hux, huy, Sem.run_bind, run_eqGuard_agg w .neq t x y xs ys h.guard, run_neq_struct, this, Result.andThen_ok, Sem.run_pure]

end
end Go.AM
