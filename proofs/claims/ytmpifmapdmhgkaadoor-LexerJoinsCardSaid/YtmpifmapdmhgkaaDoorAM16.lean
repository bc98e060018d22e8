/- Comparisons with nil, and of truth values. No conditions: lemmas only. -/
import Derived.Test.YtmpifmapdmhgkaaDoorAM15
import Derived.Laws.Cover3
import Derived.Laws.Small
namespace Go.AM
open Go.RowKit (Below)

section
variable {P : Program} {n : Nat} {K : Post} {E : EPost} {T : Tmps} {st : St} {ops : Array Oper} {rest : List Oper}
variable {ty : TypeId} {pos : String} {es : Array Edge} {gd : Option (Nat × Bool)} {d : Tmp} {x y : Operand} {dd : Option Tmp}

/-- Is a nil slice nil? -/
theorem eqn {t e u : TypeId} [hu : Und P t (.slice e)] {sz : Nat}
    (hg : goes ops n T ⟨dd, .binOp .eql t x (.const (.slice none 0 0)) u, ty, pos, es, gd⟩ = some d) (hx : ev st T x = some (.view sz [] .nil))
    (k : AOps P n ops rest K E ((d, .bool true) :: T) st) : AOps P n ops (⟨dd, .binOp .eql t x (.const (.slice none 0 0)) u, ty, pos, es, gd⟩ :: rest) K E T st := by
  obtain ⟨hw, hd, hok⟩ := goes_some hg
  simp only at hd
  subst hd
  refine AOps.pure hw hok _ (fun g w a hs hk => ?_) k
  have h1 := ev_R hs hk hx
  generalize hux : a.eval x = ux at h1
  have hrv : ux = .slice none 0 0 := by
    cases h1 with
    | vnil => rfl
    | view _ _ _ _ _ _ _ _ _ _ _ ht' => simp [TokAt] at ht'
  subst hrv
  refine ⟨.bool true, ?_, .bool _⟩
  have hc : a.eval (.const (.slice none 0 0)) = .slice none 0 0 := rfl
  simp [execOp, hux, hc, eqGuard, binOp, run_equal_slice_nil w t e none 0 0 hu.out]

/-- Are two truth values the same? -/
theorem eqb {t u : TypeId} [hu : Und P t .bool] {p q : Bool}
    (hg : goes ops n T ⟨dd, .binOp .eql t x y u, ty, pos, es, gd⟩ = some d) (hx : ev st T x = some (.bool p)) (hy : ev st T y = some (.bool q))
    (k : AOps P n ops rest K E ((d, .bool (p == q)) :: T) st) : AOps P n ops (⟨dd, .binOp .eql t x y u, ty, pos, es, gd⟩ :: rest) K E T st := by
  obtain ⟨hw, hd, hok⟩ := goes_some hg
  simp only at hd
  subst hd
  refine AOps.pure hw hok _ (fun g w a hs hk => ?_) k
  have h1 := ev_R hs hk hx
  have h2 := ev_R hs hk hy
  generalize hux : a.eval x = ux at h1
  generalize huy : a.eval y = uy at h2
  cases h1
  cases h2
  refine ⟨.bool (p == q), ?_, .bool _⟩
  simp [execOp, hux, huy, eqGuard, run_eql_bool w t p q hu.out]
theorem neb {t u : TypeId} [hu : Und P t .bool] {p q : Bool}
    (hg : goes ops n T ⟨dd, .binOp .neq t x y u, ty, pos, es, gd⟩ = some d) (hx : ev st T x = some (.bool p)) (hy : ev st T y = some (.bool q))
    (k : AOps P n ops rest K E ((d, .bool (!(p == q))) :: T) st) : AOps P n ops (⟨dd, .binOp .neq t x y u, ty, pos, es, gd⟩ :: rest) K E T st := by
  obtain ⟨hw, hd, hok⟩ := goes_some hg
  simp only at hd
  subst hd
  refine AOps.pure hw hok _ (fun g w a hs hk => ?_) k
  have h1 := ev_R hs hk hx
  have h2 := ev_R hs hk hy
  generalize hux : a.eval x = ux at h1
  generalize huy : a.eval y = uy at h2
  cases h1
  cases h2
  refine ⟨.bool (!(p == q)), ?_, .bool _⟩
  simp [execOp, hux, huy, eqGuard, run_neq_bool w t p q hu.out]

/-- What is known in between, told outright; behind a step of a sequence. -/
theorem midk {c c' : Code} (T' : Tmps) (st' : St) (h : AWP P n c (fun T1 st1 => TLe T1 T' ∧ StLe st1 st') E T st) (k : AWP P n c' K E T' st') : AWP P n c (AWP P n c' K E) E T st :=
  AWP.mono h (fun _ _ ⟨h2, h3⟩ => AWP.weaken h2 h3 k) (fun _ _ _ he => he)

end
end Go.AM
