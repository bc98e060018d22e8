/- Many slices with spare room of their own, side by side. No conditions: definitions and lemmas only. -/
import Derived.Test.YtmpifmapdmhgkaaDoorAM14
namespace Go.AM
open Go.RowKit (Below)

/-- A slice of its own, or nil. -/
def slot (sz : Nat) (e : TypeId) (rows : List (List AV)) : Option Nat → AV
  | none => .view 0 [] .nil
  | some k => .view sz rows (.own k e)

def St.toks (st : St) (L : List (Option Nat)) : St := { st with tok := fun t => decide (some t ∈ L) || st.tok t }

structure TokL (st : St) (L : List (Option Nat)) : Prop where
  one : ∀ (i j t : Nat), L[i]? = some (some t) → L[j]? = some (some t) → i = j
  fresh : ∀ (i t : Nat), L[i]? = some (some t) → st.tok t = false

theorem TokL.none (st : St) (m : Nat) : TokL st (List.replicate m none) where
  one := fun i j t h => by simp [List.getElem?_replicate] at h
  fresh := fun i t h => by simp [List.getElem?_replicate] at h

theorem St.toks_none (st : St) (m : Nat) : st.toks (List.replicate m none) = st := by
  cases st
  simp [St.toks, List.mem_replicate]

theorem St.toks_tok {st : St} {L : List (Option Nat)} {i t : Nat} (h : L[i]? = some (some t)) : (st.toks L).tok t = true := by
  simp [St.toks, List.mem_of_getElem? h]

theorem TokL.set {st : St} {L : List (Option Nat)} (h : TokL st L) {k' : Nat} (hf : (st.toks L).tok k' = false) (i : Nat) : TokL st (L.set i (some k')) := by
  simp only [St.toks, Bool.or_eq_false_iff, decide_eq_false_iff_not] at hf
  have key : ∀ (j t : Nat), (L.set i (some k'))[j]? = some (some t) → (j = i ∧ t = k') ∨ (j ≠ i ∧ L[j]? = some (some t)) := by
    intro j t hj
    rw [List.getElem?_set] at hj
    split at hj
    · rename_i e
      split at hj
      · simp only [Option.some.injEq] at hj; exact .inl ⟨e.symm, hj.symm⟩
      · cases hj
    · rename_i e; exact .inr ⟨fun h => e h.symm, hj⟩
  refine ⟨fun j1 j2 t h1 h2 => ?_, fun j t hj => ?_⟩
  · rcases key j1 t h1 with ⟨e1, e2⟩ | ⟨e1, e2⟩ <;> rcases key j2 t h2 with ⟨e3, e4⟩ | ⟨e3, e4⟩
    · omega
    · subst e2; exact absurd (List.mem_of_getElem? e4) hf.1
    · subst e4; exact absurd (List.mem_of_getElem? e2) hf.1
    · exact h.one j1 j2 t e2 e4
  · rcases key j t hj with ⟨_, rfl⟩ | ⟨_, e2⟩
    · exact hf.2
    · exact h.fresh j t e2

theorem StLe.toksSet {st : St} {L : List (Option Nat)} (h : TokL st L) {i : Nat} {o : Option Nat} (ho : L[i]? = some o) (k' : Nat) :
    StLe ((match o with | none => st.toks L | some k => (st.toks L).untok k).addTok k') (st.toks (L.set i (some k'))) := by
  refine ⟨fun p c hp => by cases o <;> exact hp, fun t ht => ?_, by cases o <;> rfl⟩
  simp only [St.toks, Bool.or_eq_true, decide_eq_true_eq] at ht
  have hold : t ≠ k' → (∃ j, j ≠ i ∧ L[j]? = some (some t)) ∨ st.tok t = true := by
    intro hne
    rcases ht with ht | ht
    · obtain ⟨j, hj⟩ := List.getElem?_of_mem ht
      rw [List.getElem?_set] at hj
      split at hj
      · split at hj
        · simp only [Option.some.injEq] at hj; exact absurd hj.symm hne
        · cases hj
      · rename_i e; exact .inl ⟨j, fun h => e h.symm, hj⟩
    · exact .inr ht
  by_cases hk : t = k'
  · subst hk; cases o <;> simp [St.addTok]
  · have hin : (st.toks L).tok t = true := by
      rcases hold hk with ⟨j, _, hj⟩ | h'
      · exact St.toks_tok hj
      · simp [St.toks, h']
    cases o with
    | none => simp only [St.addTok, hk, if_false]; exact hin
    | some k =>
      simp only [St.addTok, St.untok, hk, if_false]
      have hne : t ≠ k := by
        rintro rfl
        rcases hold hk with ⟨j, hji, hj⟩ | h'
        · exact hji (h.one j i t hj ho)
        · rw [h.fresh i t ho] at h'; cases h'
      simp only [hne, if_false]
      exact hin

section
variable {P : Program} {n : Nat} {K : Post} {E : EPost} {T : Tmps} {st : St} {ops : Array Oper} {rest : List Oper}
variable {ty : TypeId} {pos : String} {es : Array Edge} {gd : Option (Nat × Bool)} {d : Tmp} {x y : Operand} {dd : Option Tmp}

/-- append to one of many. -/
theorem apx {t e : TypeId} {sz by_ : Nat} {ez : Value} [hu : Und P t (.slice e)] [hie : Inf P e (sz + 1) by_ ez] {L : List (Option Nat)} {o : Option Nat} {rows rows2 : List (List AV)} {tk2 : Tok} (i : Nat)
    (hg : goes ops n T ⟨dd, .call ⟨.builtin .append, #[x, y], #[t, t]⟩, ty, pos, es, gd⟩ = some d) (hx : ev (st.toks L) T x = some (slot (sz + 1) e rows o)) (hy : ev (st.toks L) T y = some (.view (sz + 1) rows2 tk2))
    (hL : TokL st L) (hi : L[i]? = some o) (hr : o = none → rows = [])
    (hz : zok (sz + 1) ez = true) (hb : (rows.length + rows2.length) * by_ ≤ 140737488355328) (hm : rows.length + rows2.length ≤ maxLen)
    (k : ∀ k', TokL st (L.set i (some k')) → AOps P n ops rest K E ((d, .view (sz + 1) (rows ++ rows2) (.own k' e)) :: T) (st.toks (L.set i (some k')))) :
    AOps P n ops (⟨dd, .call ⟨.builtin .append, #[x, y], #[t, t]⟩, ty, pos, es, gd⟩ :: rest) K E T (st.toks L) := by
  cases o with
  | none =>
    have hr' := hr rfl
    subst hr'
    refine apn hg hx hy hz (by simpa using hb) (by simpa using hm) fun k' hk' => ?_
    exact AOps.weaken (TLe.refl _) (StLe.toksSet hL hi k') (by simpa using k k' (hL.set hk' i))
  | some k0 =>
    refine ap hg hx hy (St.toks_tok hi) hz hb hm fun k' hk' => ?_
    exact AOps.weaken (TLe.refl _) (StLe.toksSet hL hi k') (k k' (hL.set hk' i))

end
end Go.AM
