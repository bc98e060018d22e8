/- Rules that shorten the walks: variables that are written once, tests, contracts that leave the state as it was. No conditions: lemmas only. -/
import Derived.Test.YtmpifmapdmhgkaaDoorAM10
namespace Go.AM
open Go.RowKit (Below)

section
variable {P : Program} {n : Nat} {K : Post} {E : EPost} {T : Tmps} {st : St} {ops : Array Oper} {rest : List Oper}
variable {ty : TypeId} {pos : String} {es : Array Edge} {gd : Option (Nat × Bool)} {d : Tmp} {x y : Operand} {dd : Option Tmp}

/-- An object that is written no more. -/
theorem R.frozenC {g : G} {w : World} (hs : Sim g w st) {o sz i off : Nat} {oty : TypeId} {rows : List (List AV)} (ho : st.obj o = some (.cells oty sz rows)) {rv : Value} (h : R g w (.cptr o sz i off) rv) :
    ∃ g', Ext g w g' w ∧ Sim g' w (st.drop o) ∧ R g' w (.eptr sz rows i off) rv := by
  cases h with
  | cptr _ _ _ _ b m hb =>
    obtain ⟨g', he, hsim, himm⟩ := hs.freeze ho hb
    obtain ⟨_, ⟨arr, ha, hsz, hml, hlr, h1, hcell⟩, _⟩ := hs.objOf ho hb
    refine ⟨g', he, hsim, ?_⟩
    have key := R.eptr (g := g') (w := w) sz rows i off b 0 (fun i j => arr.getD (i * sz + j) undef) hlr h1
      (fun i j hi hj => by
        refine ⟨himm _, ?_⟩
        have h2 : i * sz + j < rows.length * sz := mul_add_lt hi hj
        rw [cell_of_row w b _ arr oty (0, 0) ha, Array.getD_eq_getD_getElem?, Nat.zero_add, Array.getElem?_eq_getElem (by omega)]
        rfl)
      (fun i j row c hr hcj => by
        obtain ⟨v, hv1, hv2⟩ := hcell i j row c hr hcj
        rw [Array.getD_eq_getD_getElem?, hv1]
        exact hv2.ext he)
    rw [Nat.zero_add] at key
    exact key

theorem StLe.ofNew {st : St} {o : Nat} {c : AObj} (h : st.obj o = none) : StLe ((st.set o c).drop o) st :=
  ⟨fun p x hp => by
    have : p ≠ o := St.ne_of_new h hp
    rw [St.obj_drop_ne this, St.obj_set_ne this]; exact hp, fun _ h => h, rfl⟩

/-- A new variable, of which no more than its only value is of interest. -/
theorem AOps.fz (t : Nat) {o s i off : Nat} {oty : TypeId} {rows : List (List AV)} (ht : T.get t = some (.cptr o s i off)) (ho : st.obj o = none)
    (h : AOps P n ops rest K E ((t, .eptr s rows i off) :: T) st) : AOps P n ops rest K E T (st.set o (.cells oty s rows)) :=
  AOps.ghost fun g w a hs hk => by
    obtain ⟨rv, h1, h2⟩ := hk t _ ht
    obtain ⟨g', he, hs', hR⟩ := h2.frozenC hs (St.obj_set _ _ _)
    exact ⟨g', _, _, he, hs'.le (StLe.ofNew ho), (hk.ext he).cons h1 hR, h⟩

/-- A box whose content stays. -/
theorem bxe {t : TypeId} {v : AV} {sz : Nat} (hg : goes ops n T ⟨dd, .box t x, ty, pos, es, gd⟩ = some d) (hx : ev st T x = some v) (hv : storable v = true) (hsz : v.cells.length = sz)
    (k : AOps P n ops rest K E ((d, .eptr sz [v.cells] 0 0) :: T) st) : AOps P n ops (⟨dd, .box t x, ty, pos, es, gd⟩ :: rest) K E T st := by
  refine bx hg hx hv hsz fun o ho => ?_
  refine AOps.fz d (by rw [Tmps.get_cons, if_pos rfl]) ho ?_
  refine AOps.weaken (T' := (d, .eptr sz [v.cells] 0 0) :: T) ?_ (.refl _) k
  intro i v' hi
  rw [Tmps.get_cons] at hi
  rw [Tmps.get_cons, Tmps.get_cons]
  by_cases h : d = i
  · rw [if_pos h] at hi ⊢
    exact ⟨_, rfl, by cases hi; exact .refl _⟩
  · rw [if_neg h] at hi ⊢
    rw [if_neg h]
    exact ⟨_, hi, .refl _⟩

/-- alloc; store; and nothing is written any more. -/
theorem AOps.fz2 (t : Nat) {o s i off : Nat} {oty : TypeId} {c : AObj} {rows : List (List AV)} (ht : T.get t = some (.cptr o s i off)) (ho : st.obj o = none)
    (h : AOps P n ops rest K E ((t, .eptr s rows i off) :: T) st) : AOps P n ops rest K E T ((st.set o c).set o (.cells oty s rows)) := by
  rw [St.set_set]
  exact AOps.fz t ht ho h

/-- A literal of a slice that is not appended to. -/
theorem bsh {t e : TypeId} {len : Nat} {esz eby : Nat} {ez : Value} {parts : Array (Nat × Operand)} {vs : List (Nat × AV)} {cs : List AV} [hu : Und P t (.slice e)] [hie : Inf P e (esz + 1) eby ez] (hg : goes ops n T ⟨dd, .buildSlice t len parts, ty, pos, es, gd⟩ = some d)
    (hz : zok (esz + 1) ez = true) (hsm : Nat.ble (len * (esz + 1)) 16777216 = true) (he : evParts st T parts.toList = some vs) (hf : afill (fun i => some (i * (esz + 1), esz + 1)) ((List.replicate len (zrow ez)).flatten) vs = some cs)
    (k : AOps P n ops rest K E ((d, .view (esz + 1) (chunk (esz + 1) len cs) .shared) :: T) st) : AOps P n ops (⟨dd, .buildSlice t len parts, ty, pos, es, gd⟩ :: rest) K E T st := by
  refine bs hg hz hsm he hf fun tk htk => ?_
  refine AOps.weaken (T' := (d, .view (esz + 1) (chunk (esz + 1) len cs) .shared) :: T) ?_ (StLe.addTok _ (.refl _)) k
  intro i v' hi
  rw [Tmps.get_cons] at hi ⊢
  by_cases h : d = i
  · rw [if_pos h] at hi ⊢
    cases hi
    exact ⟨_, rfl, .shared _ _ _⟩
  · rw [if_neg h] at hi ⊢
    exact ⟨_, hi, .refl _⟩

theorem rowSet_all {row cs : List AV} (h : cs.length = row.length) : rowSet row 0 cs = cs := by
  simp [rowSet, h]

/-- A literal of a slice with one element, not appended to. -/
theorem bs1 {t e : TypeId} {esz eby : Nat} {ez : Value} {v : AV} [hu : Und P t (.slice e)] [hie : Inf P e (esz + 1) eby ez] (hg : goes ops n T ⟨dd, .buildSlice t 1 #[(0, x)], ty, pos, es, gd⟩ = some d)
    (hz : zok (esz + 1) ez = true) (hsm : Nat.ble (1 * (esz + 1)) 16777216 = true) (hx : ev st T x = some v) (hl : Nat.beq v.cells.length (esz + 1) = true) (hv : storable v = true)
    (k : AOps P n ops rest K E ((d, .view (esz + 1) [v.cells] .shared) :: T) st) : AOps P n ops (⟨dd, .buildSlice t 1 #[(0, x)], ty, pos, es, gd⟩ :: rest) K E T st := by
  have hl' := Nat.eq_of_beq_eq_true hl
  obtain ⟨z1, z2, z3, z4⟩ := zok_spec hz
  have hr : rowSet (zrow ez) 0 v.cells = v.cells := rowSet_all (by rw [hl', z3])
  refine bsh (vs := [(0, v)]) (cs := v.cells) hg hz hsm (by simp [evParts, hx]) ?_ ?_
  · simp only [List.replicate_one, List.flatten_cons, List.flatten_nil, List.append_nil, afill, Nat.zero_mul, hl', nbeq_self, hv, z3, Nat.zero_add, Nat.ble_self_eq_true, Bool.and_self, cond_true, hr]
  · have : chunk (esz + 1) 1 v.cells = [v.cells] := by simp [chunk, ← hl']
    rw [this]
    exact k

/-- A literal of a slice with one element, that may be appended to. -/
theorem bs1o {t e : TypeId} {esz eby : Nat} {ez : Value} {v : AV} [hu : Und P t (.slice e)] [hie : Inf P e (esz + 1) eby ez] (hg : goes ops n T ⟨dd, .buildSlice t 1 #[(0, x)], ty, pos, es, gd⟩ = some d)
    (hz : zok (esz + 1) ez = true) (hsm : Nat.ble (1 * (esz + 1)) 16777216 = true) (hx : ev st T x = some v) (hl : Nat.beq v.cells.length (esz + 1) = true) (hv : storable v = true)
    (k : ∀ tk, st.tok tk = false → AOps P n ops rest K E ((d, .view (esz + 1) [v.cells] (.own tk e)) :: T) (st.addTok tk)) : AOps P n ops (⟨dd, .buildSlice t 1 #[(0, x)], ty, pos, es, gd⟩ :: rest) K E T st := by
  have hl' := Nat.eq_of_beq_eq_true hl
  obtain ⟨z1, z2, z3, z4⟩ := zok_spec hz
  have hr : rowSet (zrow ez) 0 v.cells = v.cells := rowSet_all (by rw [hl', z3])
  refine bs (vs := [(0, v)]) (cs := v.cells) hg hz hsm (by simp [evParts, hx]) ?_ fun tk htk => ?_
  · simp only [List.replicate_one, List.flatten_cons, List.flatten_nil, List.append_nil, afill, Nat.zero_mul, hl', nbeq_self, hv, z3, Nat.zero_add, Nat.ble_self_eq_true, Bool.and_self, cond_true, hr]
  · have : chunk (esz + 1) 1 v.cells = [v.cells] := by simp [chunk, ← hl']
    rw [this]
    exact k tk htk

theorem sel_all {row : List AV} {sz : Nat} (h : Nat.beq sz row.length = true) : sel true sz row 0 = some (.agg row) := by
  have := Nat.eq_of_beq_eq_true h
  subst this
  simp [sel, Nat.ble_self_eq_true]

/-- A load of a whole row. -/
theorem leW {t : TypeId} {td : TypeDesc} [hu : Und P t td] {sz by_ : Nat} {zz : Value} [hi : Inf P t sz by_ zz] {s : Nat} {rows : List (List AV)} {i : Nat} {row : List AV}
    (hg : goes ops n T ⟨dd, .load t x, ty, pos, es, gd⟩ = some d) (ha : aggD td = true) (hx : ev st T x = some (.eptr s rows i 0)) (hr : rows[i]? = some row) (hl : Nat.beq sz row.length = true)
    (k : AOps P n ops rest K E ((d, .agg row) :: T) st) : AOps P n ops (⟨dd, .load t x, ty, pos, es, gd⟩ :: rest) K E T st :=
  le hg hx hr (by rw [ha]; exact sel_all hl) k

theorem lcW {t : TypeId} {td : TypeDesc} [hu : Und P t td] {sz by_ : Nat} {zz : Value} [hi : Inf P t sz by_ zz] {o s : Nat} {rows : List (List AV)} {i : Nat} {row : List AV}
    (hg : goes ops n T ⟨dd, .load t x, ty, pos, es, gd⟩ = some d) (ha : aggD td = true) (hx : ev st T x = some (.cptr o s i 0)) {oty : TypeId} (ho : st.obj o = some (.cells oty s rows)) (hr : rows[i]? = some row) (hl : Nat.beq sz row.length = true)
    (k : AOps P n ops rest K E ((d, .agg row) :: T) st) : AOps P n ops (⟨dd, .load t x, ty, pos, es, gd⟩ :: rest) K E T st :=
  lc hg hx ho hr (by rw [ha]; exact sel_all hl) k

/-- A store into the object that was written last. -/
theorem sos {t : TypeId} {sz by_ : Nat} {zz : Value} [hi : Inf P t sz by_ zz] {o s : Nat} {rows : List (List AV)} {i off : Nat} {row : List AV} {v : AV} {oty : TypeId} {rows' : List (List AV)}
    (hw : wantedA ops T ⟨none, .store t x y, ty, pos, es, gd⟩ = some true) (hx : ev (st.set o (.cells oty s rows)) T x = some (.cptr o s i off)) (hy : ev (st.set o (.cells oty s rows)) T y = some v) (hr : rows[i]? = some row)
    (hv : storable v = true) (hsz : Nat.beq v.cells.length sz = true) (hle : Nat.ble (off + v.cells.length) row.length = true) (he : rows.set i (rowSet row off v.cells) = rows')
    (k : AOps P n ops rest K E T (st.set o (.cells oty s rows'))) : AOps P n ops (⟨none, .store t x y, ty, pos, es, gd⟩ :: rest) K E T (st.set o (.cells oty s rows)) :=
  so hw hx hy (St.obj_set _ _ _) hr hv hsz hle he (by rw [St.set_set]; exact k)

/-- A store of a whole variable. -/
theorem soV {t : TypeId} {sz by_ : Nat} {zz : Value} [hi : Inf P t sz by_ zz] {o s : Nat} {row : List AV} {v : AV} {oty : TypeId}
    (hw : wantedA ops T ⟨none, .store t x y, ty, pos, es, gd⟩ = some true) (hx : ev (st.set o (.cells oty s [row])) T x = some (.cptr o s 0 0)) (hy : ev (st.set o (.cells oty s [row])) T y = some v)
    (hv : storable v = true) (hsz : Nat.beq v.cells.length sz = true) (hle : Nat.beq v.cells.length row.length = true)
    (k : AOps P n ops rest K E T (st.set o (.cells oty s [v.cells]))) : AOps P n ops (⟨none, .store t x y, ty, pos, es, gd⟩ :: rest) K E T (st.set o (.cells oty s [row])) := by
  have h := Nat.eq_of_beq_eq_true hle
  refine sos (row := row) hw hx hy rfl hv hsz (by rw [Nat.zero_add, h]; exact Nat.ble_self_eq_true _) ?_ k
  rw [rowSet_all h]
  rfl

/-- A variable that is new, gets its value, and keeps it. -/
theorem soN (t' : Nat) {t : TypeId} {sz by_ : Nat} {zz : Value} [hi : Inf P t sz by_ zz] {o s : Nat} {row : List AV} {v : AV} {oty : TypeId}
    (hw : wantedA ops T ⟨none, .store t (.tmp t') y, ty, pos, es, gd⟩ = some true) (hx : T.get t' = some (.cptr o s 0 0)) (hy : ev (st.set o (.cells oty s [row])) T y = some v)
    (hv : storable v = true) (hsz : Nat.beq v.cells.length sz = true) (hle : Nat.beq v.cells.length row.length = true) (ho : st.obj o = none)
    (k : AOps P n ops rest K E ((t', .eptr s [v.cells] 0 0) :: T) st) : AOps P n ops (⟨none, .store t (.tmp t') y, ty, pos, es, gd⟩ :: rest) K E T (st.set o (.cells oty s [row])) :=
  soV hw hx hy hv hsz hle (AOps.fz t' hx ho k)

/-- What is known in between, told outright. -/
theorem seqk {c c' : Code} (T' : Tmps) (st' : St) (h : AWP P n c (fun T1 st1 => TLe T1 T' ∧ StLe st1 st') E T st) (k : AWP P n c' K E T' st') : AWP P n (.seq c c') K E T st :=
  AWP.seq (AWP.mono h (fun _ _ ⟨h2, h3⟩ => AWP.weaken h2 h3 k) (fun _ _ _ he => he))

/-- A test: of all that its region writes, one value is of interest. -/
theorem tst {c c' : Code} (d : Nat) (v : AV) (h : AWP P n c (fun T1 st1 => TLe T1 ((d, v) :: T) ∧ StLe st1 st) E T st) (k : AWP P n c' K E ((d, v) :: T) st) : AWP P n (.seq c c') K E T st :=
  seqk _ _ h k

theorem tstk {c c' : Code} (d : Nat) (v : AV) (h : AWP P n c (fun T1 st1 => TLe T1 ((d, v) :: T) ∧ StLe st1 st) E T st) (k : AWP P n c' K E ((d, v) :: T) st) : AWP P n c (AWP P n c' K E) E T st :=
  AWP.mono h (fun _ _ ⟨h2, h3⟩ => AWP.weaken h2 h3 k) (fun _ _ _ he => he)

theorem TLe.consE {T T' : Tmps} {i : Nat} {v v' : AV} (h : T.get i = some v) (e : v = v') (ht : TLe T T') : TLe T ((i, v') :: T') := e ▸ TLe.cons' h ht

/-- A contract whose end says of the state no more than is asked. -/
theorem ACalls.ofBody {f : FuncId} {fn : Func} {c : Code} {args : List AV} {Rt RP : AV → St → Prop} (hf : P.funcs[f]? = some fn) (hb : fn.body = some c) (hn : fn.ntmps = n) (hl : Nat.ble args.length n = true)
    (h : AWP P n c (fun T' st' => ∃ vs v st1, resA P st' T' fn.results.toList = some vs ∧ Le (packA vs) v ∧ StLe st' st1 ∧ Rt v st1)
      (fun e T' st' => match e with
        | .ret => ∃ vs v st1, resA P st' T' fn.results.toList = some vs ∧ Le (packA vs) v ∧ StLe st' st1 ∧ Rt v st1
        | .panic pv => ∃ st1, StLe st' st1 ∧ RP pv st1
        | .exit _ => False) (zipFrom 0 args) st) : ACalls P f args st Rt RP := by
  have key := ACalls.of_body (P := P) (Rt := fun v st' => ∃ st1, StLe st' st1 ∧ Rt v st1) (RP := fun v st' => ∃ st1, StLe st' st1 ∧ RP v st1) hf hb hn (Nat.ble_le hl) (AWP.mono h
    (fun T' st' ⟨vs, v, st1, h1, h2, h3, h4⟩ => ⟨vs, v, h1, h2, st1, h3, h4⟩)
    (fun e T' st' he => by
      cases e with
      | ret => obtain ⟨vs, v, st1, h1, h2, h3, h4⟩ := he; exact ⟨vs, v, h1, h2, st1, h3, h4⟩
      | panic pv => exact he
      | exit id => exact he))
  intro g w rargs hs hlen ha
  refine (key g w rargs hs hlen ha).mono fun e w' ⟨g', st', he, hs', hq⟩ => ?_
  cases e with
  | returned rv => obtain ⟨v, x1, st1, x2, x3⟩ := hq; exact ⟨g', st1, he, hs'.le x2, v, x1, x3⟩
  | panicked ch => obtain ⟨pv, v, x1, x2, st1, x3, x4⟩ := hq; exact ⟨g', st1, he, hs'.le x3, pv, v, x1, x2, x4⟩
  | outgrown => exact hq.elim

/-- One more. -/
theorem inc {t u : TypeId} {a : Nat} (hg : goes ops n T ⟨dd, .binOp .add t x y u, ty, pos, es, gd⟩ = some d)
    (hx : ev st T x = some (.int .i64 (a : Int))) (hy : ev st T y = some (.int .i64 1)) (hc : a < 9223372036854775807)
    (k : AOps P n ops rest K E ((d, .int .i64 ((a + 1 : Nat) : Int)) :: T) st) : AOps P n ops (⟨dd, .binOp .add t x y u, ty, pos, es, gd⟩ :: rest) K E T st :=
  adn (b := 1) hg hx hy (by omega) k

/-- A call. -/
theorem cl {f : FuncId} [hf : GoFun P f] {args : Array Operand} {tys : Array TypeId} {avs : List AV} {Rt : AV → St → Prop}
    (hg : goes ops n T ⟨dd, .call ⟨.value (.func f), args, tys⟩, ty, pos, es, gd⟩ = some d) (ha : evs st T args.toList = some avs)
    (hc : ACalls P f avs st Rt (fun _ _ => False)) (h : ∀ v st', Rt v st' → AOps P n ops rest K E ((d, v) :: T) st') :
    AOps P n ops (⟨dd, .call ⟨.value (.func f), args, tys⟩, ty, pos, es, gd⟩ :: rest) K E T st := by
  obtain ⟨hw, hd, hok⟩ := goes_some hg
  simp only at hd
  subst hd
  exact AOps.callFn hw hok ha hc h (fun _ _ h => h.elim)

/-- A call that answers X and leaves the state alone. -/
theorem cle {f : FuncId} [hf : GoFun P f] {args : Array Operand} {tys : Array TypeId} {avs : List AV} {X : AV}
    (hg : goes ops n T ⟨dd, .call ⟨.value (.func f), args, tys⟩, ty, pos, es, gd⟩ = some d) (ha : evs st T args.toList = some avs)
    (hc : ACalls P f avs st (fun v st' => v = X ∧ st' = st) (fun _ _ => False)) (h : AOps P n ops rest K E ((d, X) :: T) st) :
    AOps P n ops (⟨dd, .call ⟨.value (.func f), args, tys⟩, ty, pos, es, gd⟩ :: rest) K E T st :=
  cl hg ha hc (by rintro _ _ ⟨rfl, rfl⟩; exact h)

theorem AOps.splitB (t : Nat) {b : Bool} (hc : T.get t = some (.bool b)) (ht : b = true → AOps P n ops rest K E ((t, .bool true) :: T) st) (hf : b = false → AOps P n ops rest K E ((t, .bool false) :: T) st) : AOps P n ops rest K E T st :=
  AOps.split (p := b = true) t (by rw [hc]; cases b <;> rfl) ht (fun h => hf (by simpa using h))

theorem tl0 {T : Tmps} : TLe T [] := TLe.nil T
theorem tl1 {T : Tmps} {i0 : Nat} {v0 : AV} (h0 : T.get i0 = some v0) : TLe T [(i0, v0)] := TLe.cons' h0 (TLe.nil T)
theorem tl2 {T : Tmps} {i0 i1 : Nat} {v0 v1 : AV} (h0 : T.get i0 = some v0) (h1 : T.get i1 = some v1) : TLe T [(i0, v0), (i1, v1)] := TLe.cons' h0 (TLe.cons' h1 (TLe.nil T))
theorem tl3 {T : Tmps} {i0 i1 i2 : Nat} {v0 v1 v2 : AV} (h0 : T.get i0 = some v0) (h1 : T.get i1 = some v1) (h2 : T.get i2 = some v2) : TLe T [(i0, v0), (i1, v1), (i2, v2)] := TLe.cons' h0 (TLe.cons' h1 (TLe.cons' h2 (TLe.nil T)))
theorem tl4 {T : Tmps} {i0 i1 i2 i3 : Nat} {v0 v1 v2 v3 : AV} (h0 : T.get i0 = some v0) (h1 : T.get i1 = some v1) (h2 : T.get i2 = some v2) (h3 : T.get i3 = some v3) : TLe T [(i0, v0), (i1, v1), (i2, v2), (i3, v3)] := TLe.cons' h0 (TLe.cons' h1 (TLe.cons' h2 (TLe.cons' h3 (TLe.nil T))))
theorem tl5 {T : Tmps} {i0 i1 i2 i3 i4 : Nat} {v0 v1 v2 v3 v4 : AV} (h0 : T.get i0 = some v0) (h1 : T.get i1 = some v1) (h2 : T.get i2 = some v2) (h3 : T.get i3 = some v3) (h4 : T.get i4 = some v4) : TLe T [(i0, v0), (i1, v1), (i2, v2), (i3, v3), (i4, v4)] := TLe.cons' h0 (TLe.cons' h1 (TLe.cons' h2 (TLe.cons' h3 (TLe.cons' h4 (TLe.nil T)))))
theorem tl6 {T : Tmps} {i0 i1 i2 i3 i4 i5 : Nat} {v0 v1 v2 v3 v4 v5 : AV} (h0 : T.get i0 = some v0) (h1 : T.get i1 = some v1) (h2 : T.get i2 = some v2) (h3 : T.get i3 = some v3) (h4 : T.get i4 = some v4) (h5 : T.get i5 = some v5) : TLe T [(i0, v0), (i1, v1), (i2, v2), (i3, v3), (i4, v4), (i5, v5)] := TLe.cons' h0 (TLe.cons' h1 (TLe.cons' h2 (TLe.cons' h3 (TLe.cons' h4 (TLe.cons' h5 (TLe.nil T))))))
theorem tl7 {T : Tmps} {i0 i1 i2 i3 i4 i5 i6 : Nat} {v0 v1 v2 v3 v4 v5 v6 : AV} (h0 : T.get i0 = some v0) (h1 : T.get i1 = some v1) (h2 : T.get i2 = some v2) (h3 : T.get i3 = some v3) (h4 : T.get i4 = some v4) (h5 : T.get i5 = some v5) (h6 : T.get i6 = some v6) : TLe T [(i0, v0), (i1, v1), (i2, v2), (i3, v3), (i4, v4), (i5, v5), (i6, v6)] := TLe.cons' h0 (TLe.cons' h1 (TLe.cons' h2 (TLe.cons' h3 (TLe.cons' h4 (TLe.cons' h5 (TLe.cons' h6 (TLe.nil T)))))))
theorem tl8 {T : Tmps} {i0 i1 i2 i3 i4 i5 i6 i7 : Nat} {v0 v1 v2 v3 v4 v5 v6 v7 : AV} (h0 : T.get i0 = some v0) (h1 : T.get i1 = some v1) (h2 : T.get i2 = some v2) (h3 : T.get i3 = some v3) (h4 : T.get i4 = some v4) (h5 : T.get i5 = some v5) (h6 : T.get i6 = some v6) (h7 : T.get i7 = some v7) : TLe T [(i0, v0), (i1, v1), (i2, v2), (i3, v3), (i4, v4), (i5, v5), (i6, v6), (i7, v7)] := TLe.cons' h0 (TLe.cons' h1 (TLe.cons' h2 (TLe.cons' h3 (TLe.cons' h4 (TLe.cons' h5 (TLe.cons' h6 (TLe.cons' h7 (TLe.nil T))))))))
theorem tl9 {T : Tmps} {i0 i1 i2 i3 i4 i5 i6 i7 i8 : Nat} {v0 v1 v2 v3 v4 v5 v6 v7 v8 : AV} (h0 : T.get i0 = some v0) (h1 : T.get i1 = some v1) (h2 : T.get i2 = some v2) (h3 : T.get i3 = some v3) (h4 : T.get i4 = some v4) (h5 : T.get i5 = some v5) (h6 : T.get i6 = some v6) (h7 : T.get i7 = some v7) (h8 : T.get i8 = some v8) : TLe T [(i0, v0), (i1, v1), (i2, v2), (i3, v3), (i4, v4), (i5, v5), (i6, v6), (i7, v7), (i8, v8)] := TLe.cons' h0 (TLe.cons' h1 (TLe.cons' h2 (TLe.cons' h3 (TLe.cons' h4 (TLe.cons' h5 (TLe.cons' h6 (TLe.cons' h7 (TLe.cons' h8 (TLe.nil T)))))))))
theorem tl10 {T : Tmps} {i0 i1 i2 i3 i4 i5 i6 i7 i8 i9 : Nat} {v0 v1 v2 v3 v4 v5 v6 v7 v8 v9 : AV} (h0 : T.get i0 = some v0) (h1 : T.get i1 = some v1) (h2 : T.get i2 = some v2) (h3 : T.get i3 = some v3) (h4 : T.get i4 = some v4) (h5 : T.get i5 = some v5) (h6 : T.get i6 = some v6) (h7 : T.get i7 = some v7) (h8 : T.get i8 = some v8) (h9 : T.get i9 = some v9) : TLe T [(i0, v0), (i1, v1), (i2, v2), (i3, v3), (i4, v4), (i5, v5), (i6, v6), (i7, v7), (i8, v8), (i9, v9)] := TLe.cons' h0 (TLe.cons' h1 (TLe.cons' h2 (TLe.cons' h3 (TLe.cons' h4 (TLe.cons' h5 (TLe.cons' h6 (TLe.cons' h7 (TLe.cons' h8 (TLe.cons' h9 (TLe.nil T))))))))))
theorem tl11 {T : Tmps} {i0 i1 i2 i3 i4 i5 i6 i7 i8 i9 i10 : Nat} {v0 v1 v2 v3 v4 v5 v6 v7 v8 v9 v10 : AV} (h0 : T.get i0 = some v0) (h1 : T.get i1 = some v1) (h2 : T.get i2 = some v2) (h3 : T.get i3 = some v3) (h4 : T.get i4 = some v4) (h5 : T.get i5 = some v5) (h6 : T.get i6 = some v6) (h7 : T.get i7 = some v7) (h8 : T.get i8 = some v8) (h9 : T.get i9 = some v9) (h10 : T.get i10 = some v10) : TLe T [(i0, v0), (i1, v1), (i2, v2), (i3, v3), (i4, v4), (i5, v5), (i6, v6), (i7, v7), (i8, v8), (i9, v9), (i10, v10)] := TLe.cons' h0 (TLe.cons' h1 (TLe.cons' h2 (TLe.cons' h3 (TLe.cons' h4 (TLe.cons' h5 (TLe.cons' h6 (TLe.cons' h7 (TLe.cons' h8 (TLe.cons' h9 (TLe.cons' h10 (TLe.nil T)))))))))))
theorem tl12 {T : Tmps} {i0 i1 i2 i3 i4 i5 i6 i7 i8 i9 i10 i11 : Nat} {v0 v1 v2 v3 v4 v5 v6 v7 v8 v9 v10 v11 : AV} (h0 : T.get i0 = some v0) (h1 : T.get i1 = some v1) (h2 : T.get i2 = some v2) (h3 : T.get i3 = some v3) (h4 : T.get i4 = some v4) (h5 : T.get i5 = some v5) (h6 : T.get i6 = some v6) (h7 : T.get i7 = some v7) (h8 : T.get i8 = some v8) (h9 : T.get i9 = some v9) (h10 : T.get i10 = some v10) (h11 : T.get i11 = some v11) : TLe T [(i0, v0), (i1, v1), (i2, v2), (i3, v3), (i4, v4), (i5, v5), (i6, v6), (i7, v7), (i8, v8), (i9, v9), (i10, v10), (i11, v11)] := TLe.cons' h0 (TLe.cons' h1 (TLe.cons' h2 (TLe.cons' h3 (TLe.cons' h4 (TLe.cons' h5 (TLe.cons' h6 (TLe.cons' h7 (TLe.cons' h8 (TLe.cons' h9 (TLe.cons' h10 (TLe.cons' h11 (TLe.nil T))))))))))))
theorem tl13 {T : Tmps} {i0 i1 i2 i3 i4 i5 i6 i7 i8 i9 i10 i11 i12 : Nat} {v0 v1 v2 v3 v4 v5 v6 v7 v8 v9 v10 v11 v12 : AV} (h0 : T.get i0 = some v0) (h1 : T.get i1 = some v1) (h2 : T.get i2 = some v2) (h3 : T.get i3 = some v3) (h4 : T.get i4 = some v4) (h5 : T.get i5 = some v5) (h6 : T.get i6 = some v6) (h7 : T.get i7 = some v7) (h8 : T.get i8 = some v8) (h9 : T.get i9 = some v9) (h10 : T.get i10 = some v10) (h11 : T.get i11 = some v11) (h12 : T.get i12 = some v12) : TLe T [(i0, v0), (i1, v1), (i2, v2), (i3, v3), (i4, v4), (i5, v5), (i6, v6), (i7, v7), (i8, v8), (i9, v9), (i10, v10), (i11, v11), (i12, v12)] := TLe.cons' h0 (TLe.cons' h1 (TLe.cons' h2 (TLe.cons' h3 (TLe.cons' h4 (TLe.cons' h5 (TLe.cons' h6 (TLe.cons' h7 (TLe.cons' h8 (TLe.cons' h9 (TLe.cons' h10 (TLe.cons' h11 (TLe.cons' h12 (TLe.nil T)))))))))))))
theorem tl14 {T : Tmps} {i0 i1 i2 i3 i4 i5 i6 i7 i8 i9 i10 i11 i12 i13 : Nat} {v0 v1 v2 v3 v4 v5 v6 v7 v8 v9 v10 v11 v12 v13 : AV} (h0 : T.get i0 = some v0) (h1 : T.get i1 = some v1) (h2 : T.get i2 = some v2) (h3 : T.get i3 = some v3) (h4 : T.get i4 = some v4) (h5 : T.get i5 = some v5) (h6 : T.get i6 = some v6) (h7 : T.get i7 = some v7) (h8 : T.get i8 = some v8) (h9 : T.get i9 = some v9) (h10 : T.get i10 = some v10) (h11 : T.get i11 = some v11) (h12 : T.get i12 = some v12) (h13 : T.get i13 = some v13) : TLe T [(i0, v0), (i1, v1), (i2, v2), (i3, v3), (i4, v4), (i5, v5), (i6, v6), (i7, v7), (i8, v8), (i9, v9), (i10, v10), (i11, v11), (i12, v12), (i13, v13)] := TLe.cons' h0 (TLe.cons' h1 (TLe.cons' h2 (TLe.cons' h3 (TLe.cons' h4 (TLe.cons' h5 (TLe.cons' h6 (TLe.cons' h7 (TLe.cons' h8 (TLe.cons' h9 (TLe.cons' h10 (TLe.cons' h11 (TLe.cons' h12 (TLe.cons' h13 (TLe.nil T))))))))))))))

theorem rets {Rt : AV → St → Prop} {fn : Func} {T' : Tmps} {st' : St} {vs : List AV} {v : AV} {st1 : St} (h : resA P st' T' fn.results.toList = some vs) (hl : Le (packA vs) v) (hs : StLe st' st1) (hR : Rt v st1) :
    ∃ vs v st1, resA P st' T' fn.results.toList = some vs ∧ Le (packA vs) v ∧ StLe st' st1 ∧ Rt v st1 := ⟨vs, v, st1, h, hl, hs, hR⟩

end
end Go.AM
