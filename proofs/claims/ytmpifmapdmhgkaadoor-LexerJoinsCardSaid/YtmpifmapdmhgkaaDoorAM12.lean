/- A law's contract out of its abstract walk. No conditions: definitions and lemmas only. -/
import Derived.Test.YtmpifmapdmhgkaaDoorAM11
import Derived.RowKit
namespace Go.AM
open Go.RowKit (Below shut_bool)
open Go.ChangeShapes Go.WideShapes Go.ChangeAt

/-- An argument of a type. -/
def ArgTy (P : Program) (t : TypeId) (a : AV) : Prop := ∃ fuel cs, HasTy P fuel t cs ∧ ((∃ td, P.underlying t = some td ∧ aggD td = true ∧ a = .agg cs) ∨ (∃ td, P.underlying t = some td ∧ aggD td = false ∧ cs = [a]))

section
variable {H : Type} {enc : TypeId × Value → H} {P : Program}

theorem HasTy.one {fuel : Nat} {t : TypeId} {cs : List AV} (h : HasTy P fuel t cs) {td : TypeDesc} (hu : P.underlying t = some td) (ha : aggD td = false) : ∃ a, cs = [a] ∧ a.cells = [a] := by
  cases fuel with
  | zero => exact h.elim
  | succ fuel =>
    unfold HasTy at h
    rw [hu] at h
    cases td <;> simp only [aggD, reduceCtorEq] at h ha
    case bool => obtain ⟨b, rfl⟩ := h; exact ⟨_, rfl, rfl⟩
    case int k => obtain ⟨x, rfl, _⟩ := h; exact ⟨_, rfl, rfl⟩
    case string => obtain ⟨l, rfl, _⟩ := h; exact ⟨_, rfl, rfl⟩
    case slice e => obtain ⟨rows, rfl, _⟩ := h; exact ⟨_, rfl, rfl⟩

theorem arg_R {S : List TypeId} (hS : ∀ t ∈ S, kindOk P S t = true) {W : World} {t : TypeId} {v : Value} {d : DataW H} {p : List MemPlace} {base : Nat} (ht : t ∈ S) (hok : Value.okWide P W .any base t v)
    (h : DataW.Trod enc P W 0 (fun _ => true) true t v d p) : ∃ a, R (G0 W) W a v ∧ ArgTy P t a := by
  obtain ⟨fuel, hf⟩ := h
  obtain ⟨as, h1, h2⟩ := trod_R hS (fun _ => rfl) fuel t _ d p ht hf
  have hk := hS t ht
  cases hu : P.underlying t with
  | none => unfold kindOk at hk; rw [hu] at hk; cases hk
  | some td =>
    cases ha : aggD td with
    | true =>
      have hv : ∃ cs, v = .agg cs := by
        unfold Value.okWide at hok
        rw [hu] at hok
        cases td <;> simp only [aggD, Bool.false_eq_true] at ha hok
        · obtain ⟨cs, h, _⟩ := hok; exact ⟨cs, h⟩
        · obtain ⟨cs, h, _⟩ := hok; exact ⟨cs, h⟩
      obtain ⟨cs, rfl⟩ := hv
      refine ⟨.agg as, .agg as cs (by rw [h2.len]; rfl) h2.one (fun i c v hc hv => h2.rel i c v hc (by simpa [Value.cells] using hv)), fuel, as, h1, .inl ⟨td, hu, ha, rfl⟩⟩
    | false =>
      obtain ⟨a, rfl, hc⟩ := h1.one hu ha
      have hl := h2.len
      -- one cell
      have hv : v.cells = #[v] := by
        cases v <;> first | rfl | skip
        rename_i cs
        exfalso
        unfold Value.okWide at hok
        rw [hu] at hok
        unfold Cell.okWide Cell.ok at hok
        cases td <;> simp only [aggD, reduceCtorEq] at ha hok <;> (try (rw [hu] at hok; simp at hok)) <;> (try (simp [hu] at hok))
      refine ⟨a, h2.rel 0 a v rfl (by rw [hv]; rfl), fuel, [a], h1, .inr ⟨td, hu, ha, rfl⟩⟩

theorem args_R {S : List TypeId} (hS : ∀ t ∈ S, kindOk P S t = true) {W : World} {base : Nat} : ∀ (ts : List TypeId) (vs : List Value) (ds : List (DataW H)) (p : List MemPlace), (∀ t ∈ ts, t ∈ S) → (∀ (j : Nat) t v, ts[j]? = some t → vs[j]? = some v → Value.okWide P W .any base t v) →
    DataW.TrodAll enc P W 0 (fun _ => true) true ts vs ds p → ∃ as : List AV, as.length = vs.length ∧ ts.length = vs.length ∧ ds.length = ts.length ∧ (∀ (i : Nat) a v, as[i]? = some a → vs[i]? = some v → R (G0 W) W a v) ∧ ∀ (i : Nat) t a, ts[i]? = some t → as[i]? = some a → ArgTy P t a
  | [], [], [], p, _, _, _ => ⟨[], rfl, rfl, rfl, fun i a v h => by simp at h, fun i t a h => by simp at h⟩
  | t :: ts, v :: vs, d :: ds, p, hts, hok, h => by
    obtain ⟨p1, q1, h1, h2, _⟩ := h
    obtain ⟨a, ha, hta⟩ := arg_R hS (hts t (by simp)) (hok 0 t v rfl rfl) h1
    obtain ⟨as, l1, l2, l3, hr, ht⟩ := args_R hS ts vs ds q1 (fun t ht => hts t (List.mem_cons_of_mem _ ht)) (fun j t v h1 h2 => hok (j + 1) t v (by simpa using h1) (by simpa using h2)) h2
    refine ⟨a :: as, by simp [l1], by simp [l2], by simp [l3], fun i a' v' h1 h2 => ?_, fun i t' a' h1 h2 => ?_⟩
    · cases i with
      | zero => simp at h1 h2; subst h1; subst h2; exact ha
      | succ i => exact hr i a' v' (by simpa using h1) (by simpa using h2)
    · cases i with
      | zero => simp at h1 h2; subst h1; subst h2; exact hta
      | succ i => exact ht i t' a' (by simpa using h1) (by simpa using h2)
  | [], _ :: _, _, _, _, _, h => h.elim
  | [], [], _ :: _, _, _, _, h => h.elim
  | _ :: _, [], _, _, _, _, h => h.elim
  | _ :: _, _ :: _, [], _, _, _, h => h.elim

theorem TrodAll.below (hl : laidOutB P = true) {W W' : World} (hb : Below W.heap.size W W') : ∀ (ts : List TypeId) (vs : List Value) (ds : List (DataW H)) (p : List MemPlace), (∀ t ∈ ts, P.readableRec t = true ∧ t < P.types.size) → (∀ x ∈ p, x.block < W.heap.size) →
    DataW.TrodAll enc P W 0 (fun _ => true) true ts vs ds p → DataW.TrodAll enc P W' 0 (fun b => decide (b < W.heap.size)) true ts vs ds p
  | [], [], [], p, _, _, h => h
  | t :: ts, v :: vs, d :: ds, p, hts, hlt, h => by
    obtain ⟨p1, q1, h1, h2, rfl⟩ := h
    exact ⟨p1, q1, Below.trod hl (hts t (by simp)).1 (hts t (by simp)).2 h1 hb (fun x hx => hlt x (List.mem_append_left _ hx)), TrodAll.below hl hb ts vs ds q1 (fun t ht => hts t (List.mem_cons_of_mem _ ht)) (fun x hx => hlt x (List.mem_append_right _ hx)) h2, rfl⟩
  | [], _ :: _, _, _, _, _, h => h.elim
  | [], [], _ :: _, _, _, _, h => h.elim
  | _ :: _, [], _, _, _, _, h => h.elim
  | _ :: _, _ :: _, [], _, _, _, h => h.elim

/-- The contract of a law: its abstract walk answers true whatever the arguments. -/
theorem law_contract {s : ChangeSpec} {fn : Func} {f : FuncId} {tb : TypeId} {S : List TypeId} (globs : List (Nat × List AV)) (hl : laidOutB P = true) (hS : ∀ t ∈ S, kindOk P S t = true) (hparams : ∀ t ∈ fn.params.toList, t ∈ S ∧ P.readableRec t = true ∧ t < P.types.size)
    (hvars : s.vars = []) (hfn : ∀ ds : List (DataW H), ds.length = fn.params.size → s.fn H ds = { results := [.lit (.bool true)], args := ds }) (hres : fn.resultTypes = #[tb]) (hb : P.underlying tb = some .bool)
    (W : World) (base : Nat) (args : Array Value) (ds gs : List (DataW H)) (before : List MemPlace)
    (hval : ∀ (j : Nat) t v, fn.params[j]? = some t → args[j]? = some v → Value.okWide P W .any base t v)
    (hW : DataW.Whole enc P fn.params.toList s.vars false W args.toList ds gs before)
    (hglob : ∀ gi row, (gi, row) ∈ globs → R (G0 W) W (.eptr row.length [row] 0 0) (.pointer (some ⟨gi, 0, none⟩)))
    (walk : ∀ as : List AV, as.length = fn.params.size → (∀ (i : Nat) t a, fn.params[i]? = some t → as[i]? = some a → ArgTy P t a) →
      ACalls P f as { obj := fun _ => none, tok := fun _ => false, glob := globs } (fun v _ => v = .bool true) (fun _ _ => False)) :
    Calls P f args W fun e W' => ∃ v, e = .returned v ∧ s.post enc P fn false true false false W args v W' := by
  have hW' := hW
  obtain ⟨p, q, hA, hV, rfl, _, _⟩ := hW
  obtain ⟨as, l1, l2, l3, hR, hT⟩ := args_R hS fn.params.toList args.toList ds p (fun t ht => (hparams t ht).1) (fun j t v h1 h2 => hval j t v (by simpa using h1) (by simpa using h2)) hA
  rw [hvars] at hV
  obtain ⟨rfl, rfl⟩ := trodVars_none hV
  have hlen : as.length = fn.params.size := by rw [l1, ← l2]; simp
  have hcall := walk as hlen (fun i t a h1 h2 => hT i t a (by simpa using h1) h2) (G0 W) W args (Sim0 W globs hglob) (by rw [l1]; simp) (fun i c v h1 h2 => hR i c v h1 (by simpa using h2))
  refine hcall.mono fun e W' ⟨g', st', he, _, hq⟩ => ?_
  cases e with
  | panicked ch => obtain ⟨_, _, _, _, h⟩ := hq; exact h.elim
  | outgrown => exact hq.elim
  | returned rv =>
    obtain ⟨v, hRv, rfl⟩ := hq
    have hrv : rv = .bool true := by cases hRv; rfl
    subst hrv
    have hbelow : Below W.heap.size W W' := he.below
    have hsp := hfn (ds ++ []) (by simp; rw [l3]; simp)
    refine ⟨_, rfl, ds, [], p ++ [], [], p ++ [], [], hW', ?_, ?_, ?_, hbelow.frame _, fun h => by cases h⟩
    · rw [hsp, hres]
      exact trodAll_cons_mk (shut_bool hb true) trodAll_mk0
    · rw [hsp, List.append_nil, List.append_nil]
      exact TrodAll.below hl hbelow _ _ _ _ (fun t ht => (hparams t ht).2) (fun x hx => hW'.lt x (by simpa using hx)) hA
    · rw [hsp, hvars]
      rfl

end
end Go.AM
