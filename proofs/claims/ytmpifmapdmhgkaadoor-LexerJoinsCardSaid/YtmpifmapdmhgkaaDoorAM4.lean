/- Rules for calls and for a function's body. No conditions: lemmas only. -/
import Derived.Test.YtmpifmapdmhgkaaDoorAM3
import Derived.Laws.Strings
import Derived.Laws.Tables
import Derived.Laws.Unary
namespace Go.AM
open Go.RowKit (Below)

section
variable {P : Program} {n : Nat} {K : Post} {E : EPost} {T : Tmps} {st : St} {ops : Array Oper} {rest : List Oper}
variable {d : Tmp} {x y z : Operand} {ty : TypeId} {pos : String} {es : Array Edge} {gd : Option (Nat × Bool)}

/-! calls -/

def ACalls (P : Program) (f : FuncId) (args : List AV) (st : St) (Rt RP : AV → St → Prop) : Prop :=
  ∀ g w (rargs : Array Value), Sim g w st → args.length = rargs.size → (∀ (i : Nat) c v, args[i]? = some c → rargs[i]? = some v → R g w c v) →
    Calls P f rargs w fun e w' => ∃ g' st', Ext g w g' w' ∧ Sim g' w' st' ∧ match e with
      | .returned rv => ∃ v, R g' w' v rv ∧ Rt v st'
      | .panicked ch => ∃ pv v, ch = [{ v := v, recovered := false }] ∧ R g' w' pv v ∧ RP pv st'
      | .outgrown => False

theorem ACalls.mono {f : FuncId} {args : List AV} {Rt RP Rt' RP' : AV → St → Prop} (h : ACalls P f args st Rt RP) (h1 : ∀ v st, Rt v st → Rt' v st) (h2 : ∀ v st, RP v st → RP' v st) : ACalls P f args st Rt' RP' :=
  fun g w rargs hs hl ha => (h g w rargs hs hl ha).mono fun e w' ⟨g', st', he, hs', hq⟩ => ⟨g', st', he, hs', by
    cases e with
    | returned rv => obtain ⟨v, x1, x2⟩ := hq; exact ⟨v, x1, h1 _ _ x2⟩
    | panicked ch => obtain ⟨pv, v, x1, x2, x3⟩ := hq; exact ⟨pv, v, x1, x2, h2 _ _ x3⟩
    | outgrown => exact hq⟩

/-- A function that has a body of its own. -/
class GoFun (P : Program) (f : FuncId) : Prop where
  out : ∃ fn, P.funcs[f]? = some fn ∧ fn.body.isNone = false ∧ (fn.name == "runtime.NumGoroutine") = false

def evs (st : St) (T : Tmps) : List Operand → Option (List AV)
  | [] => some []
  | x :: r => match ev st T x, evs st T r with
    | some v, some vs => some (v :: vs)
    | _, _ => none

theorem evs_R {g : G} {w : World} {a : Act} (hs : Sim g w st) (hk : Known g w T a) : ∀ (xs : List Operand) (vs : List AV), evs st T xs = some vs →
    vs.length = xs.length ∧ ∀ (i : Nat) c v, vs[i]? = some c → (xs.map a.eval)[i]? = some v → R g w c v
  | [], vs, h => by simp [evs] at h; subst h; exact ⟨rfl, fun i c v hc => by simp at hc⟩
  | x :: r, vs, h => by
    unfold evs at h
    cases h1 : ev st T x with
    | none => simp [h1] at h
    | some u =>
      cases h2 : evs st T r with
      | none => simp [h1, h2] at h
      | some us =>
        simp [h1, h2] at h
        subst h
        obtain ⟨hl, hr⟩ := evs_R hs hk r us h2
        refine ⟨by simp [hl], fun i c v hc hv => ?_⟩
        cases i with
        | zero => simp at hc hv; subst hc; subst hv; exact ev_R hs hk h1
        | succ i => exact hr i c v (by simpa using hc) (by simpa using hv)

theorem AOps.callFn {d : Option Tmp} {f : FuncId} [hf : GoFun P f] {args : Array Operand} {tys : Array TypeId} {avs : List AV} {Rt RP : AV → St → Prop}
    (hw : wantedA ops T ⟨d, .call ⟨.value (.func f), args, tys⟩, ty, pos, es, gd⟩ = some true) (hd : dstOk d n = true) (ha : evs st T args.toList = some avs)
    (hc : ACalls P f avs st Rt RP) (h : ∀ v st', Rt v st' → AOps P n ops rest K E (T.put d v) st') (hp : ∀ v st', RP v st' → E (.panic v) T st') :
    AOps P n ops (⟨d, .call ⟨.value (.func f), args, tys⟩, ty, pos, es, gd⟩ :: rest) K E T st := by
  intro g w a hs hk hn
  obtain ⟨hl, hr⟩ := evs_R hs hk _ _ ha
  obtain ⟨fn, h1, h2, h3⟩ := hf.out
  have hcall := hc g w (args.map a.eval) hs (by simpa using hl) (fun i c v hc hv => hr i c v hc (by simpa using hv))
  unfold wpList
  rw [wanted_of hk hw, if_pos rfl]
  left
  have hrun : (execOp a.eval ⟨d, .call ⟨.value (.func f), args, tys⟩, ty, pos, es, gd⟩).run P w = .ok (.enter f (args.map a.eval)) w := by
    have h2' : ¬ fn.body = none := by intro e; simp [e] at h2
    have h3' : ¬ fn.name = "runtime.NumGoroutine" := by simpa using h3
    simp [execOp, resolve, Act.eval, Deferred.ofValue, invoke, callFunc, h1, h2', h3']
  unfold Oper.wp
  rw [hrun]
  simp only [Oper.upon]
  refine hcall.mono fun e w' ⟨g', st', he, hs', hq⟩ => ?_
  cases e with
  | returned rv =>
    obtain ⟨v, hR, hRt⟩ := hq
    have h4 := h v st' hRt g' w' (a.put d rv) hs' ((hk.ext he).put (fun t ht => hn ▸ dstOk_lt hd t ht) hR) (by rw [Act.size_put]; exact hn)
    rw [Act.defers_put] at h4
    exact wpList_mono (fun _ _ _ q => QOf.ext he q) rest _ _ h4
  | panicked ch =>
    obtain ⟨pv, v, x1, x2, x3⟩ := hq
    exact ⟨hn, rfl, g', T, st', he, hs', hk.ext he, pv, v, x1, x2, hp pv st' x3⟩
  | outgrown => exact hq.elim

/-! the body of a function -/

def zipFrom : Nat → List AV → Tmps
  | _, [] => []
  | i, v :: r => (i, v) :: zipFrom (i + 1) r

theorem get_zipFrom : ∀ (l : List AV) (i j : Nat) v, (zipFrom i l).get j = some v → i ≤ j ∧ l[j - i]? = some v
  | [], i, j, v, h => by cases h
  | u :: r, i, j, v, h => by
    rw [zipFrom, Tmps.get_cons] at h
    by_cases hi : i = j
    · subst hi; simp at h; subst h; simp
    · rw [if_neg hi] at h
      obtain ⟨h1, h2⟩ := get_zipFrom r (i + 1) j v h
      refine ⟨by omega, ?_⟩
      rw [show j - i = (j - (i + 1)) + 1 by omega]
      simpa using h2

/-- What a function hands back, by its result variables. -/
def resA (P : Program) (st : St) (T : Tmps) : List ResultVar → Option (List AV)
  | [] => some []
  | .tmp t :: r => match T.get t, resA P st T r with
    | some v, some vs => some (v :: vs)
    | _, _ => none
  | .cell t ty :: r => match T.get t, P.underlying ty, P.info? ty, resA P st T r with
    | some (.cptr o s i off), some td, some inf, some vs => match st.obj o with
      | some (.cells _ s' rows) => bif Nat.beq s s' then (match rows[i]? with
        | some row => match sel (aggD td) inf.size row off with
          | some v => some (v :: vs)
          | none => none
        | none => none) else none
      | _ => none
    | _, _, _, _ => none

def packA : List AV → AV
  | [v] => v
  | vs => .tuple vs

def resM (tmps : Array Value) : ResultVar → Sem Value
  | .tmp t => Pure.pure (tmps.getD t undef)
  | .cell a t => do loadVar t (← asAddr (tmps.getD a undef))

theorem results_eq (fn : Func) (tmps : Array Value) : results fn tmps = (do let vs ← fn.results.mapM (resM tmps); Pure.pure (if h : vs.size = 1 then vs[0] else .tuple vs)) := by
  unfold results
  have e : (fun r : ResultVar => match r with
    | .tmp t => (Pure.pure (tmps.getD t undef) : Sem Value)
    | .cell a t => do loadVar t (← asAddr (tmps.getD a undef))) = resM tmps := by
    funext r
    cases r <;> rfl
  exact congrArg (fun f => (do let vs ← fn.results.mapM f; Pure.pure (if h : vs.size = 1 then vs[0] else .tuple vs) : Sem Value)) e

theorem resA_R {g : G} {w : World} {a : Act} (hs : Sim g w st) (hk : Known g w T a) : ∀ (rs : List ResultVar) (vs : List AV), resA P st T rs = some vs →
    ∃ rvs : List Value, (rs.mapM (resM a.tmps)).run P w = .ok rvs w ∧ vs.length = rvs.length ∧ ∀ (i : Nat) c v, vs[i]? = some c → rvs[i]? = some v → R g w c v
  | [], vs, h => by simp [resA] at h; subst h; exact ⟨[], by simp, rfl, fun i c v hc => by simp at hc⟩
  | .tmp t :: r, vs, h => by
    unfold resA at h
    cases h1 : T.get t with
    | none => simp [h1] at h
    | some u =>
      cases h2 : resA P st T r with
      | none => simp [h1, h2] at h
      | some us =>
        simp [h1, h2] at h
        subst h
        obtain ⟨rvs, hrun, hl, hr⟩ := resA_R hs hk r us h2
        obtain ⟨rv, h3, h4⟩ := hk t u h1
        refine ⟨rv :: rvs, ?_, by simp [hl], fun i c v hc hv => ?_⟩
        · simp only [List.mapM_cons, resM, Sem.run_bind, Sem.run_pure, Result.andThen_ok, hrun, Array.getD_eq_getD_getElem?, h3, Option.getD_some]
        · cases i with
          | zero => simp at hc hv; subst hc; subst hv; exact h4
          | succ i => exact hr i c v (by simpa using hc) (by simpa using hv)
  | .cell t ty :: r, vs, h => by
    unfold resA at h
    cases h1 : T.get t with
    | none => simp [h1] at h
    | some u =>
      cases hu : P.underlying ty with
      | none => cases u <;> simp [h1, hu] at h
      | some td =>
        cases hi : P.info? ty with
        | none => cases u <;> simp [h1, hu, hi] at h
        | some inf =>
          cases h2 : resA P st T r with
          | none => cases u <;> simp [h1, hu, hi, h2] at h
          | some us =>
            cases u <;> simp [h1, hu, hi, h2] at h
            rename_i o s i off
            cases ho : st.obj o with
            | none => simp [ho] at h
            | some c =>
              cases c <;> simp [ho] at h
              rename_i oty s' rows
              cases hss : Nat.beq s s' with
              | false => simp [hss] at h
              | true =>
                have hse := Nat.eq_of_beq_eq_true hss
                subst hse
                simp at h
                cases hr : rows[i]? with
                | none => simp [hr] at h
                | some row =>
                  simp only [hr] at h
                  cases hv : sel (aggD td) inf.size row off with
                  | none => simp [hv] at h
                  | some v =>
                    simp [hv] at h
                    subst h
                    obtain ⟨rvs, hrun, hl, hrr⟩ := resA_R hs hk r us h2
                    obtain ⟨rp, h3, h4⟩ := hk t _ h1
                    cases h4 with
                    | cptr _ _ _ _ b m' hb =>
                      obtain ⟨_, ⟨arr, ha, hsz, _, hl', h1', hc⟩, _⟩ := hs.objOf ho hb
                      obtain ⟨rv, h5, h6⟩ : ∃ rv, (loadVar ty ⟨b, i * s + off, none⟩).run P w = .ok rv w ∧ R g w v rv := by
                        haveI : Und P ty td := ⟨hu⟩
                        -- the size alone is asked: a zero value is not
                        unfold sel at hv
                        have hcell : ∀ (j : Nat) c, row[j]? = some c → ∃ rv, w.cell? ⟨b, i * s + j, none⟩ = some rv ∧ R g w c rv := fun j c hj => by
                          obtain ⟨v, hv1, hv2⟩ := hc i j row c hr hj
                          exact ⟨v, by rw [cell_of_row w b _ arr oty (0, 0) ha]; exact hv1, hv2⟩
                        cases hagg : aggD td with
                        | false =>
                          simp only [hagg, cond_false] at hv
                          obtain ⟨rv, h2', h3'⟩ := hcell off v hv
                          exact ⟨rv, by simp [loadVar, run_isAgg (P := P) (t := ty) w, hagg, h2'], h3'⟩
                        | true =>
                          simp only [hagg, cond_true] at hv
                          cases hble : Nat.ble (off + inf.size) row.length with
                          | false => simp [hble] at hv
                          | true =>
                            have hle := Nat.ble_le hble
                            simp only [hble, cond_true, Option.some.injEq] at hv
                            subst hv
                            refine ⟨.agg ((List.range inf.size).map fun j => (w.cell? ⟨b, i * s + off + j, none⟩).getD undef).toArray, ?_, ?_⟩
                            · have hl2 := run_loadCells (P := P) w ⟨b, i * s + off, none⟩ inf.size (fun j => (w.cell? ⟨b, i * s + off + j, none⟩).getD undef) (fun j hj => by
                                obtain ⟨rv, h2', _⟩ := hcell (off + j) row[off + j] (List.getElem?_eq_getElem (by omega))
                                rw [addr_add, Nat.add_assoc, h2']
                                rfl)
                              simp [loadVar, run_isAgg (P := P) (t := ty) w, hagg, sizeOf, typeInfo, hi, hl2]
                            · refine .agg _ _ (by simp; omega) (fun c hc => h1' row (List.mem_of_getElem? hr) c (List.mem_of_mem_drop (List.mem_of_mem_take hc))) ?_
                              intro k c rv hc hv
                              have hk : k < inf.size := by
                                have := (List.getElem?_eq_some_iff.1 hc).1
                                simp at this
                                omega
                              rw [List.getElem?_take_of_lt hk, List.getElem?_drop] at hc
                              obtain ⟨rv', h2', h3'⟩ := hcell (off + k) c hc
                              simp [hk, Nat.add_assoc, h2'] at hv
                              subst hv
                              exact h3'
                      refine ⟨rv :: rvs, ?_, by simp [hl], fun i c v hc hv => ?_⟩
                      · simp only [List.mapM_cons, resM, Sem.run_bind, Array.getD_eq_getD_getElem?, h3, Option.getD_some, asAddr, Sem.run_pure, Result.andThen_ok, h5, hrun]
                      · cases i with
                        | zero => simp at hc hv; subst hc; subst hv; exact h6
                        | succ i => exact hrr i c v (by simpa using hc) (by simpa using hv)

theorem results_R {fn : Func} {g : G} {w : World} {a : Act} (hs : Sim g w st) (hk : Known g w T a) {vs : List AV} (h : resA P st T fn.results.toList = some vs) :
    ∃ rv, (results fn a.tmps).run P w = .ok rv w ∧ R g w (packA vs) rv := by
  obtain ⟨rvs, hrun, hl, hr⟩ := resA_R hs hk _ _ h
  have hrun' : (fn.results.mapM (resM a.tmps)).run P w = .ok rvs.toArray w := by
    rw [Array.mapM_eq_mapM_toList, Sem.run_map, hrun]
    rfl
  refine ⟨if h : rvs.toArray.size = 1 then rvs.toArray[0] else .tuple rvs.toArray, ?_, ?_⟩
  · rw [results_eq, Sem.run_bind, hrun']
    rfl
  · match vs, rvs, hl, hr with
    | [], [], _, hr => exact .tuple _ _ rfl (fun i c v hc => by simp at hc)
    | [v], [rv], _, hr => exact hr 0 v rv rfl rfl
    | v :: v' :: vs, rv :: rv' :: rvs, hl, hr =>
      simp only [List.size_toArray, List.length_cons, Nat.add_eq_right, Nat.add_eq_zero_iff, Nat.succ_ne_self, and_false, ↓reduceDIte, packA]
      exact .tuple _ _ (by simpa using hl) (fun i c v hc hv => hr i c v hc (by simpa using hv))

/-- A function's contract out of its body. -/
theorem ACalls.of_body {f : FuncId} {fn : Func} {c : Code} {args : List AV} {Rt RP : AV → St → Prop} (hf : P.funcs[f]? = some fn) (hb : fn.body = some c) (hn : fn.ntmps = n) (hl : args.length ≤ n)
    (h : AWP P n c (fun T' st' => ∃ vs v, resA P st' T' fn.results.toList = some vs ∧ Le (packA vs) v ∧ Rt v st')
      (fun e T' st' => match e with
        | .ret => ∃ vs v, resA P st' T' fn.results.toList = some vs ∧ Le (packA vs) v ∧ Rt v st'
        | .panic pv => RP pv st'
        | .exit _ => False) (zipFrom 0 args) st) : ACalls P f args st Rt RP := by
  intro g w rargs hs hlen ha
  refine calls_of_wp hf hb (Code.wp_mono (fun e a' w' hq => ?_) (h g w { tmps := rargs ++ Array.replicate (fn.ntmps - rargs.size) undef, defers := [] } hs ?_ ?_))
  · obtain ⟨h1, h2, g', T', st', h3, h4, h5, h6⟩ := hq
    have ret : (∃ vs v, resA P st' T' fn.results.toList = some vs ∧ Le (packA vs) v ∧ Rt v st') → ∃ v, (results fn a'.tmps).run P w' = .ok v w' ∧
        ∃ g' st', Ext g w g' w' ∧ Sim g' w' st' ∧ ∃ u, R g' w' u v ∧ Rt u st' := by
      rintro ⟨vs, v, hr, hle, hRt⟩
      obtain ⟨rv, hrun, hR⟩ := results_R (fn := fn) h4 h5 hr
      exact ⟨rv, hrun, g', st', h3, h4, v, hR.le hle, hRt⟩
    cases e with
    | normal => exact ⟨h2, ret h6⟩
    | ret => exact ⟨h2, ret h6⟩
    | panic ch => exact ⟨h2, g', st', h3, h4, h6⟩
    | exit id => exact h6.elim
    | goto l => exact h6.elim
    | outgrown => exact h6.elim
  · intro i v hv
    obtain ⟨_, h2⟩ := get_zipFrom args 0 i v hv
    have hi : i < rargs.size := by rw [← hlen]; exact (List.getElem?_eq_some_iff.1 h2).1
    refine ⟨rargs[i], ?_, ha i v _ h2 (by simp [hi])⟩
    rw [Array.getElem?_append_left hi]
    simp [hi]
  · simp; omega

end
end Go.AM
