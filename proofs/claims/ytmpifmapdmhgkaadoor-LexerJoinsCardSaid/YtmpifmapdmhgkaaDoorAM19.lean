/- Strings, numbers of all kinds, calls of function values, elements of array values. No conditions: lemmas only. -/
import Derived.Test.YtmpifmapdmhgkaaDoorAM18
import Derived.Laws.IdiomStrings
import Derived.Laws.BytesArg
namespace Go.AM
open Go.RowKit (Below)

section
variable {P : Program} {n : Nat} {K : Post} {E : EPost} {T : Tmps} {st : St} {ops : Array Oper} {rest : List Oper}
variable {d : Tmp} {dd : Option Tmp} {x y z : Operand} {ty : TypeId} {pos : String} {es : Array Edge} {gd : Option (Nat × Bool)}

/-- A byte of a string. -/
theorem sx {t : TypeId} [hu : Und P t .string] {l : List UInt8} {k : IntKind} {i : Int} {m : Nat} {c : UInt8} (hg : goes ops n T ⟨dd, .index t x y, ty, pos, es, gd⟩ = some d)
    (hx : ev st T x = some (.str l)) (hy : ev st T y = some (.int k i)) (hi : i = m) (hc : l[m]? = some c)
    (h : AOps P n ops rest K E ((d, .int .u8 c.toNat) :: T) st) : AOps P n ops (⟨dd, .index t x y, ty, pos, es, gd⟩ :: rest) K E T st := by
  obtain ⟨hw, hd, hok⟩ := goes_some hg
  simp only at hd
  subst hd
  exact AOps.strIndex hw hok hx hy hi hc h

/-- s[a:], s[:b], s[a:b]. -/
theorem ssl {t : TypeId} [hu : Und P t .string] {l : List UInt8} {k : IntKind} {a : Nat} (hg : goes ops n T ⟨dd, .slice t x (some y) none none, ty, pos, es, gd⟩ = some d)
    (hx : ev st T x = some (.str l)) (hy : ev st T y = some (.int k (a : Int))) (ha : a ≤ l.length)
    (h : AOps P n ops rest K E ((d, .str (l.drop a)) :: T) st) : AOps P n ops (⟨dd, .slice t x (some y) none none, ty, pos, es, gd⟩ :: rest) K E T st := by
  obtain ⟨hw, hd, hok⟩ := goes_some hg
  simp only at hd
  subst hd
  refine AOps.sliceStr (a := a) (b := l.length) hw hok hx (.inr ⟨y, k, rfl, hy⟩) (.inl ⟨rfl, rfl⟩) ha (Nat.le_refl _) ?_
  rw [List.take_of_length_le (by simp)]
  exact h
theorem ssh {t : TypeId} [hu : Und P t .string] {l : List UInt8} {k : IntKind} {b : Nat} (hg : goes ops n T ⟨dd, .slice t x none (some y) none, ty, pos, es, gd⟩ = some d)
    (hx : ev st T x = some (.str l)) (hy : ev st T y = some (.int k (b : Int))) (hb : b ≤ l.length)
    (h : AOps P n ops rest K E ((d, .str (l.take b)) :: T) st) : AOps P n ops (⟨dd, .slice t x none (some y) none, ty, pos, es, gd⟩ :: rest) K E T st := by
  obtain ⟨hw, hd, hok⟩ := goes_some hg
  simp only at hd
  subst hd
  refine AOps.sliceStr (a := 0) (b := b) hw hok hx (.inl ⟨rfl, rfl⟩) (.inr ⟨y, k, rfl, hy⟩) (Nat.zero_le _) hb ?_
  rw [List.drop_zero, Nat.sub_zero]
  exact h
theorem ss2 {t : TypeId} [hu : Und P t .string] {l : List UInt8} {k k' : IntKind} {a b : Nat} (hg : goes ops n T ⟨dd, .slice t x (some y) (some z) none, ty, pos, es, gd⟩ = some d)
    (hx : ev st T x = some (.str l)) (hy : ev st T y = some (.int k (a : Int))) (hz : ev st T z = some (.int k' (b : Int))) (hab : a ≤ b) (hb : b ≤ l.length)
    (h : AOps P n ops rest K E ((d, .str ((l.drop a).take (b - a))) :: T) st) : AOps P n ops (⟨dd, .slice t x (some y) (some z) none, ty, pos, es, gd⟩ :: rest) K E T st := by
  obtain ⟨hw, hd, hok⟩ := goes_some hg
  simp only at hd
  subst hd
  exact AOps.sliceStr hw hok hx (.inr ⟨y, k, rfl, hy⟩) (.inr ⟨z, k', rfl, hz⟩) hab hb h

/-- Two strings, one behind the other. -/
theorem sad {t u : TypeId} {a b : List UInt8} (hg : goes ops n T ⟨dd, .binOp .add t x y u, ty, pos, es, gd⟩ = some d)
    (hx : ev st T x = some (.str a)) (hy : ev st T y = some (.str b)) (hl : a.length + b.length ≤ 9223372036854775807)
    (h : AOps P n ops rest K E ((d, .str (a ++ b)) :: T) st) : AOps P n ops (⟨dd, .binOp .add t x y u, ty, pos, es, gd⟩ :: rest) K E T st := by
  obtain ⟨hw, hd, hok⟩ := goes_some hg
  simp only at hd
  subst hd
  exact AOps.strAdd hw hok hx hy hl h

/-- Sums, differences and products of any kind. -/
theorem adk {t u : TypeId} {k : IntKind} {a b c : Int} (hg : goes ops n T ⟨dd, .binOp .add t x y u, ty, pos, es, gd⟩ = some d)
    (hx : ev st T x = some (.int k a)) (hy : ev st T y = some (.int k b)) (hc : k.wrap (a + b) = c)
    (h : AOps P n ops rest K E ((d, .int k c) :: T) st) : AOps P n ops (⟨dd, .binOp .add t x y u, ty, pos, es, gd⟩ :: rest) K E T st := by
  obtain ⟨hw, hd, hok⟩ := goes_some hg
  simp only at hd
  subst hd
  exact AOps.add hw hok hx hy hc h
theorem sbk {t u : TypeId} {k : IntKind} {a b c : Int} (hg : goes ops n T ⟨dd, .binOp .sub t x y u, ty, pos, es, gd⟩ = some d)
    (hx : ev st T x = some (.int k a)) (hy : ev st T y = some (.int k b)) (hc : k.wrap (a - b) = c)
    (h : AOps P n ops rest K E ((d, .int k c) :: T) st) : AOps P n ops (⟨dd, .binOp .sub t x y u, ty, pos, es, gd⟩ :: rest) K E T st := by
  obtain ⟨hw, hd, hok⟩ := goes_some hg
  simp only at hd
  subst hd
  exact AOps.sub hw hok hx hy hc h
theorem mlk {t u : TypeId} {k : IntKind} {a b c : Int} (hg : goes ops n T ⟨dd, .binOp .mul t x y u, ty, pos, es, gd⟩ = some d)
    (hx : ev st T x = some (.int k a)) (hy : ev st T y = some (.int k b)) (hc : k.wrap (a * b) = c)
    (h : AOps P n ops rest K E ((d, .int k c) :: T) st) : AOps P n ops (⟨dd, .binOp .mul t x y u, ty, pos, es, gd⟩ :: rest) K E T st := by
  obtain ⟨hw, hd, hok⟩ := goes_some hg
  simp only at hd
  subst hd
  exact AOps.mul hw hok hx hy hc h
theorem quk {t u : TypeId} {k : IntKind} {a b c : Int} (hg : goes ops n T ⟨dd, .binOp .quo t x y u, ty, pos, es, gd⟩ = some d)
    (hx : ev st T x = some (.int k a)) (hy : ev st T y = some (.int k b)) (h0 : b ≠ 0) (hc : k.wrap (a.tdiv b) = c)
    (h : AOps P n ops rest K E ((d, .int k c) :: T) st) : AOps P n ops (⟨dd, .binOp .quo t x y u, ty, pos, es, gd⟩ :: rest) K E T st := by
  obtain ⟨hw, hd, hok⟩ := goes_some hg
  simp only at hd
  subst hd
  exact AOps.quo hw hok hx hy h0 hc h
theorem ngk {t : TypeId} {k : IntKind} {a c : Int} (hg : goes ops n T ⟨dd, .unOp .neg t x, ty, pos, es, gd⟩ = some d)
    (hx : ev st T x = some (.int k a)) (hc : k.wrap (0 - a) = c)
    (h : AOps P n ops rest K E ((d, .int k c) :: T) st) : AOps P n ops (⟨dd, .unOp .neg t x, ty, pos, es, gd⟩ :: rest) K E T st := by
  obtain ⟨hw, hd, hok⟩ := goes_some hg
  simp only at hd
  subst hd
  exact AOps.neg hw hok hx hc h
/-- A number as another kind. -/
theorem cv {t u : TypeId} {ds : TypeDesc} {k k' : IntKind} [Und P t ds] [hu : Und P u (.int k')] {a c : Int} (hg : goes ops n T ⟨dd, .convert t u x, ty, pos, es, gd⟩ = some d)
    (hx : ev st T x = some (.int k a)) (hc : k'.wrap a = c) (h : AOps P n ops rest K E ((d, .int k' c) :: T) st) : AOps P n ops (⟨dd, .convert t u x, ty, pos, es, gd⟩ :: rest) K E T st := by
  obtain ⟨hw, hd, hok⟩ := goes_some hg
  simp only at hd
  subst hd
  exact AOps.convInt hw hok hx hc h

/-- Bytes. -/
def brow8 (b : UInt8) : List AV := [.int .u8 b.toNat]

/-- Bytes as a string. -/
theorem cbs {t u e : TypeId} [hut : Und P t (.slice e)] [hue : Und P e (.int .u8)] [huu : Und P u .string] {l : List UInt8} {tk : Tok} (hg : goes ops n T ⟨dd, .convert t u x, ty, pos, es, gd⟩ = some d)
    (hx : ev st T x = some (.view 1 (l.map brow8) tk)) (h : AOps P n ops rest K E ((d, .str l) :: T) st) : AOps P n ops (⟨dd, .convert t u x, ty, pos, es, gd⟩ :: rest) K E T st := by
  obtain ⟨hw, hd, hok⟩ := goes_some hg
  simp only at hd
  subst hd
  refine AOps.pure hw hok _ (fun g w a hs hk => ?_) h
  have h1 := ev_R hs hk hx
  generalize hux : a.eval x = ux at h1
  have hex : ∀ v, (convert t u ux).run P w = .ok v w → (execOp a.eval ⟨some d, .convert t u x, ty, pos, es, gd⟩).run P w = .ok (.value v) w := by
    intro v hv
    simp only [execOp, hux, Sem.run_bind, hv, Result.andThen_ok, Sem.run_pure]
  generalize hr : l.map brow8 = rows at h1
  have hlen : rows.length = l.length := by rw [← hr]; simp
  cases h1 with
  | vnil =>
    have : l = [] := List.eq_nil_of_length_eq_zero (by simpa using hlen.symm)
    subst this
    exact ⟨_, hex _ (run_convert_bytes_nil w t e hut.out hue.out 0 0 u huu.out), .str []⟩
  | vemp _ ad =>
    have : l = [] := List.eq_nil_of_length_eq_zero (by simpa using hlen.symm)
    subst this
    exact ⟨_, hex _ (run_convert_bytes_back w t u e ad 0 [] hut.out hue.out huu.out (fun j hj => by simp at hj)), .str []⟩
  | view _ _ _ b off cap f hc hm hsz h1' ht himm hh =>
    have := run_convert_bytes_back (P := P) w t u e ⟨b, off, none⟩ cap l hut.out hue.out huu.out (fun j hj => by
      have h2 := (himm j 0 (by omega) (by omega)).2
      rw [Nat.mul_one, Nat.add_zero] at h2
      rw [addr_add, h2]
      have hrow : rows[j]? = some (brow8 l[j]) := by rw [← hr]; simp [hj]
      have h3 := hh j 0 _ _ hrow rfl
      generalize f j 0 = q at h3
      cases h3
      rfl)
    rw [← hlen] at this
    exact ⟨_, hex _ this, .str l⟩

/-- A call of a function value. -/
theorem AOps.callV {d : Option Tmp} {f : FuncId} [hf : GoFun P f] {args : Array Operand} {tys : Array TypeId} {avs : List AV} {Rt RP : AV → St → Prop} (hx : ev st T x = some (.func (.func f) [] []))
    (hw : wantedA ops T ⟨d, .call ⟨.value x, args, tys⟩, ty, pos, es, gd⟩ = some true) (hd : dstOk d n = true) (ha : evs st T args.toList = some avs)
    (hc : ACalls P f avs st Rt RP) (h : ∀ v st', Rt v st' → AOps P n ops rest K E (T.put d v) st') (hp : ∀ v st', RP v st' → E (.panic v) T st') :
    AOps P n ops (⟨d, .call ⟨.value x, args, tys⟩, ty, pos, es, gd⟩ :: rest) K E T st := by
  intro g w a hs hk hn
  obtain ⟨hl, hr⟩ := evs_R hs hk _ _ ha
  obtain ⟨fn, h1, h2, h3⟩ := hf.out
  have hxR := ev_R hs hk hx
  generalize hux : a.eval x = ux at hxR
  have hux' : ux = .func (.func f) #[] #[] := by
    cases hxR with
    | func _ _ _ vs us hl1 hl2 _ _ =>
      have e1 : vs = #[] := Array.eq_empty_of_size_eq_zero (by simpa using hl1.symm)
      have e2 : us = #[] := Array.eq_empty_of_size_eq_zero (by simpa using hl2.symm)
      rw [e1, e2]
  subst hux'
  have hcall := hc g w (args.map a.eval) hs (by simpa using hl) (fun i c v hc hv => hr i c v hc (by simpa using hv))
  unfold wpList
  rw [wanted_of hk hw, if_pos rfl]
  left
  have hrun : (execOp a.eval ⟨d, .call ⟨.value x, args, tys⟩, ty, pos, es, gd⟩).run P w = .ok (.enter f (args.map a.eval)) w := by
    have h2' : ¬ fn.body = none := by intro e; simp [e] at h2
    have h3' : ¬ fn.name = "runtime.NumGoroutine" := by simpa using h3
    simp [execOp, resolve, hux, Deferred.ofValue, invoke, callFunc, h1, h2', h3']
  unfold Oper.wp
  rw [hrun]
  simp only [Oper.upon]
  refine hcall.mono fun e w' ⟨g', st', he, hs', hq⟩ => ?_
  cases e with
  | returned rv =>
    obtain ⟨v, hR, hRt⟩ := hq
    have h4 := h v st' hRt g' w' (a.put d rv) hs' ((hk.ext he).put (fun t ht => hn ▸ dstOk_lt hd t ht) hR) (by rw [Act.size_put]; exact hn)
    rw [Act.defers_put] at h4
    exact wpList_mono (fun _ _ _ q => QOf.ext he q) rest _ _ h4
  | panicked ch =>
    obtain ⟨pv, v, x1, x2, x3⟩ := hq
    exact ⟨hn, rfl, g', T, st', he, hs', hk.ext he, pv, v, x1, x2, hp pv st' x3⟩
  | outgrown => exact hq.elim

/-- A call of a function value that answers X and leaves the state alone. -/
theorem clv {f : FuncId} [hf : GoFun P f] {args : Array Operand} {tys : Array TypeId} {avs : List AV} {X : AV}
    (hg : goes ops n T ⟨dd, .call ⟨.value x, args, tys⟩, ty, pos, es, gd⟩ = some d) (hx : ev st T x = some (.func (.func f) [] [])) (ha : evs st T args.toList = some avs)
    (hc : ACalls P f avs st (fun v st' => v = X ∧ st' = st) (fun _ _ => False)) (h : AOps P n ops rest K E ((d, X) :: T) st) :
    AOps P n ops (⟨dd, .call ⟨.value x, args, tys⟩, ty, pos, es, gd⟩ :: rest) K E T st := by
  obtain ⟨hw, hd, hok⟩ := goes_some hg
  simp only at hd
  subst hd
  refine AOps.callV hx hw hok ha hc (fun v st' ⟨h1, h2⟩ => ?_) (fun _ _ h => h.elim)
  subst h1 h2
  exact h

/-- An element of an array value. -/
theorem ixg {t e : TypeId} {td : TypeDesc} {len sz by_ : Nat} {zz : Value} {cs : List AV} {k : IntKind} {i : Int} {m : Nat} {v : AV} [hu : Und P t (.array len e)] [hq : Und P e td] [hi : Inf P e sz by_ zz]
    (hg : goes ops n T ⟨dd, .index t x y, ty, pos, es, gd⟩ = some d) (ha : aggD td = false) (hx : ev st T x = some (.agg cs)) (hy : ev st T y = some (.int k i)) (hm : i = m) (hlt : m < len) (hv : cs[m * sz]? = some v)
    (h : AOps P n ops rest K E ((d, v) :: T) st) : AOps P n ops (⟨dd, .index t x y, ty, pos, es, gd⟩ :: rest) K E T st := by
  obtain ⟨hw, hd, hok⟩ := goes_some hg
  simp only at hd
  subst hd
  refine AOps.pure hw hok v (fun g w a hs hk => ?_) h
  have h1 := ev_R hs hk hx
  have h2 := ev_R hs hk hy
  generalize hux : a.eval x = ux at h1
  generalize huy : a.eval y = uy at h2
  subst hm
  cases h2
  cases h1 with
  | agg _ us hl h1' hh =>
    have hlt' : m * sz < us.size := hl ▸ (List.getElem?_eq_some_iff.1 hv).1
    refine ⟨us[m * sz], ?_, hh _ v _ hv (by simp [hlt'])⟩
    simp [execOp, hux, huy, Instr.index, asIntOf, run_und (P := P) (t := t) w, hlt, run_size (P := P) (t := e) w, part, run_isAgg (P := P) (t := e) w, ha, hlt']

end
end Go.AM
