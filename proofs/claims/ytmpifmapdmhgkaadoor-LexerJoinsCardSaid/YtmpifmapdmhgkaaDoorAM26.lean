/- A law's contract, the arguments no larger than memory. No conditions: definitions and lemmas only. -/
import Derived.Test.YtmpifmapdmhgkaaDoorAM25
namespace Go.AM
open Go.RowKit (Below shut_bool)
open Go.ChangeShapes Go.WideShapes Go.ChangeAt

/-- An argument that memory can hold. -/
def Small (P : Program) (t : TypeId) : AV → Prop
  | .str l => l.length ≤ 140737488351232
  | .view _ rows _ => match P.underlying t with
    | some (.slice e) => rows.length * P.bytesOf e ≤ 140737488351232
    | _ => True
  | _ => True

theorem small_ints {P : Program} {t e : TypeId} {l : List Int} {f : Int → List AV} {sz : Nat} {tk : Tok} (hu : P.underlying t = some (.slice e)) (hb : P.bytesOf e = 8) (h : Small P t (.view sz (l.map f) tk)) : l.length ≤ 17592186043904 := by
  unfold Small at h
  rw [hu] at h
  simp only [hb, List.length_map] at h
  omega

section
variable {H : Type} {enc : TypeId × Value → H} {P : Program}

theorem trodAll_get {W : World} {sp : Nat → Bool} {held : Bool} : ∀ {ts : List TypeId} {vs : List Value} {ds : List (DataW H)} {p : List MemPlace}, DataW.TrodAll enc P W 0 sp held ts vs ds p →
    ∀ (i : Nat) t v d, ts[i]? = some t → vs[i]? = some v → ds[i]? = some d → ∃ q, DataW.Trod enc P W 0 sp held t v d q
  | [], _, _, _, _, i, t, v, d, h, _, _ => by simp at h
  | _ :: _, [], _, _, _, i, t, v, d, _, h, _ => by simp at h
  | _ :: _, _ :: _, [], _, _, i, t, v, d, _, _, h => by simp at h
  | t0 :: ts, v0 :: vs, d0 :: ds, p, h, i, t, v, d, h1, h2, h3 => by
    obtain ⟨p1, q1, k1, k2, _⟩ := h
    cases i with
    | zero => simp at h1 h2 h3; subst h1; subst h2; subst h3; exact ⟨_, k1⟩
    | succ i => exact trodAll_get k2 i t v d (by simpa using h1) (by simpa using h2) (by simpa using h3)

theorem weights_get {us : List TypeId} {gs : List (DataW H)} {p : Nat → Bool} : ∀ {ts : List TypeId} {ds : List (DataW H)}, ts.length = ds.length → (DataW.weightsEach P (ts ++ us) (ds ++ gs)).all p = true →
    ∀ (i : Nat) t d, ts[i]? = some t → ds[i]? = some d → (d.weights P t).all p = true
  | [], _, _, _, i, t, d, h, _ => by simp at h
  | _ :: _, [], h, _, _, _, _, _, _ => by cases h
  | t0 :: ts, d0 :: ds, hl, h, i, t, d, h1, h2 => by
    rw [List.cons_append, List.cons_append] at h
    unfold DataW.weightsEach at h
    rw [List.all_append, Bool.and_eq_true] at h
    cases i with
    | zero => simp at h1 h2; subst h1; subst h2; exact h.1
    | succ i => exact weights_get (by simpa using hl) h.2 i t d (by simpa using h1) (by simpa using h2)

theorem arg_small {W : World} {sp : Nat → Bool} {t : TypeId} {v : Value} {d : DataW H} {p : List MemPlace} {a : AV} {g : G} (ht : DataW.Trod enc P W 0 sp true t v d p) (hR : R g W a v) (hty : ArgTy P t a)
    (hw : (d.weights P t).all (· ≤ reachBytes) = true) : Small P t a := by
  obtain ⟨fuel, h⟩ := ht
  cases fuel with
  | zero => cases h
  | succ fuel =>
    obtain ⟨f0, cs, k1, k2⟩ := hty
    cases a with
    | str l =>
      rcases k2 with ⟨td, _, _, k3⟩ | ⟨td, hu, ha, _⟩
      · cases k3
      · cases hR
        unfold DataW.trod at h
        rw [hu] at h
        cases td <;> simp only [aggD, reduceCtorEq] at ha <;> simp [Value.cells] at h
        obtain ⟨_, rfl, _⟩ := h
        simp only [DataW.weights, List.all_cons, List.all_nil, Bool.and_true, decide_eq_true_eq] at hw
        exact hw
    | view sz rows tk =>
      rcases k2 with ⟨td, _, _, k3⟩ | ⟨td, hu, ha, _⟩
      · cases k3
      · unfold Small
        rw [hu]
        cases td <;> first | trivial | skip
        rename_i e
        simp only
        cases hR with
        | vnil => simp
        | vemp => simp
        | view _ _ _ b off cap f hc hm =>
          unfold DataW.trod at h
          rw [hu] at h
          simp only [Value.cells] at h
          split at h
          · obtain ⟨elems, h1, h2⟩ := Option.bind_eq_some_iff.1 h
            obtain ⟨rest, h3, h4⟩ := Option.map_eq_some_iff.1 h2
            have hl := mapM_some_length h1
            simp only [List.length_range] at hl
            cases h4
            unfold DataW.weights at hw
            rw [hu] at hw
            simp only [List.all_cons, List.length_map, Bool.and_eq_true, decide_eq_true_eq] at hw
            have := hw.1
            rw [hl] at this
            exact Nat.le_trans (Nat.mul_le_mul_right _ (Nat.le_add_right _ _)) this
          · cases h
    | _ => trivial

/-- The contract of a law: its abstract walk answers true whatever the arguments. -/
theorem law_contractS {s : ChangeSpec} {fn : Func} {f : FuncId} {tb : TypeId} {S : List TypeId} (globs : List (Nat × List AV)) (hl : laidOutB P = true) (hS : ∀ t ∈ S, kindOk P S t = true) (hparams : ∀ t ∈ fn.params.toList, t ∈ S ∧ P.readableRec t = true ∧ t < P.types.size)
    (hvars : s.vars = []) (hfn : ∀ ds : List (DataW H), ds.length = fn.params.size → s.fn H ds = { results := [.lit (.bool true)], args := ds }) (hres : fn.resultTypes = #[tb]) (hb : P.underlying tb = some .bool)
    (W : World) (base : Nat) (args : Array Value) (ds gs : List (DataW H)) (before : List MemPlace)
    (hval : ∀ (j : Nat) t v, fn.params[j]? = some t → args[j]? = some v → Value.okWide P W .any base t v)
    (hW : DataW.Whole enc P fn.params.toList s.vars false W args.toList ds gs before)
    {us : List TypeId} (hwt : (DataW.weightsEach P (fn.params.toList ++ us) (ds ++ gs)).all (· ≤ reachBytes) = true)
    (hglob : ∀ gi row, (gi, row) ∈ globs → R (G0 W) W (.eptr row.length [row] 0 0) (.pointer (some ⟨gi, 0, none⟩)))
    (walk : ∀ as : List AV, as.length = fn.params.size → (∀ (i : Nat) t a, fn.params[i]? = some t → as[i]? = some a → ArgTy P t a) → (∀ (i : Nat) t a, fn.params[i]? = some t → as[i]? = some a → Small P t a) →
      ACalls P f as { obj := fun _ => none, tok := fun _ => false, glob := globs } (fun v _ => v = .bool true) (fun _ _ => False)) :
    Calls P f args W fun e W' => ∃ v, e = .returned v ∧ s.post enc P fn false true false false W args v W' := by
  have hW' := hW
  obtain ⟨p, q, hA, hV, rfl, _, _⟩ := hW
  obtain ⟨as, l1, l2, l3, hR, hT⟩ := args_R hS fn.params.toList args.toList ds p (fun t ht => (hparams t ht).1) (fun j t v h1 h2 => hval j t v (by simpa using h1) (by simpa using h2)) hA
  rw [hvars] at hV
  obtain ⟨rfl, rfl⟩ := trodVars_none hV
  have hlen : as.length = fn.params.size := by rw [l1, ← l2]; simp
  have hsm : ∀ (i : Nat) t a, fn.params[i]? = some t → as[i]? = some a → Small P t a := by
    intro i t a h1 h2
    have h1' : fn.params.toList[i]? = some t := by simpa using h1
    have hi : i < fn.params.toList.length := (List.getElem?_eq_some_iff.1 h1').1
    have hv : args.toList[i]? = some (args.toList[i]'(by omega)) := List.getElem?_eq_getElem _
    have hd : ds[i]? = some (ds[i]'(by omega)) := List.getElem?_eq_getElem _
    obtain ⟨q, hq⟩ := trodAll_get hA i t _ _ h1' hv hd
    exact arg_small hq (hR i a _ h2 hv) (hT i t a h1' h2) (weights_get (by omega) hwt i t _ h1' hd)
  have hcall := walk as hlen (fun i t a h1 h2 => hT i t a (by simpa using h1) h2) hsm (G0 W) W args (Sim0 W globs hglob) (by rw [l1]; simp) (fun i c v h1 h2 => hR i c v h1 (by simpa using h2))
  refine hcall.mono fun e W' ⟨g', st', he, _, hq⟩ => ?_
  cases e with
  | panicked ch => obtain ⟨_, _, _, _, h⟩ := hq; exact h.elim
  | outgrown => exact hq.elim
  | returned rv =>
    obtain ⟨v, hRv, rfl⟩ := hq
    have hrv : rv = .bool true := by cases hRv; rfl
    subst hrv
    have hbelow : Below W.heap.size W W' := he.below
    have hsp := hfn (ds ++ []) (by simp; rw [l3]; simp)
    refine ⟨_, rfl, ds, [], p ++ [], [], p ++ [], [], hW', ?_, ?_, ?_, hbelow.frame _, fun h => by cases h⟩
    · rw [hsp, hres]
      exact trodAll_cons_mk (shut_bool hb true) trodAll_mk0
    · rw [hsp, List.append_nil, List.append_nil]
      exact TrodAll.below hl hbelow _ _ _ _ (fun t ht => (hparams t ht).2) (fun x hx => hW'.lt x (by simpa using hx)) hA
    · rw [hsp, hvars]
      rfl

end
end Go.AM
