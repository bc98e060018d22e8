/- The steps of a region that draws its order, out of the rules for a region that does not. No conditions: lemmas only. -/
import Derived.Test.YtmpifmapdmhgkaaDoorAM9
namespace Go.AM
open Go.RowKit (Below)

section
variable {P : Program} {n : Nat} {T : Tmps} {st : St} {ops : Array Oper}

theorem wp_put {o : Oper} {a : Act} {w : World} {K1 K2 : Act → World → Prop} {Q1 Q2 : Exit → Act → World → Prop} (h : o.wp P a w K1 Q1)
    (hk : ∀ a' w', a'.defers = a.defers → K1 a' w' → (∃ rv, a' = a.put o.dst rv) → K2 a' w') (hd : ∀ a' w', K1 a' w' → a'.defers = a.defers) (hq : ∀ e a w, e ≠ .normal → Q1 e a w → Q2 e a w) : o.wp P a w K2 Q2 := by
  unfold Oper.wp at h ⊢
  generalize (execOp a.eval o).run P w = r at h
  cases r with
  | ok x w' =>
    cases x <;> simp only [Oper.upon] at h ⊢
    case value v => exact hk _ _ (Act.defers_put _ _ _) h ⟨v, rfl⟩
    case skip => exact hk _ _ (Act.defers_put _ _ _) h ⟨undef, rfl⟩
    case defer d =>
      have := hd _ _ h
      rw [Act.defers_put] at this
      simp at this
    case enter f args =>
      refine h.mono fun e w'' he => ?_
      cases e with
      | returned v => exact hk _ _ (Act.defers_put _ _ _) he ⟨v, rfl⟩
      | panicked ch => exact hq _ _ _ (by simp) he
      | outgrown => obtain ⟨a, w, h2⟩ := he; exact ⟨a, w, hq _ _ _ (by simp) h2⟩
    case row => exact h.mono fun v w'' hv => hk _ _ (Act.defers_put _ _ _) hv ⟨v, rfl⟩
  | halt x w' => cases x <;> simp only [Oper.upon] at h ⊢ <;> exact hq _ _ _ (by simp) h

theorem AOps.single {o : Oper} {d : Tmp} (hd : o.dst = some d) (hdn : d < n) {v : AV → St → Prop} (h : AOps P n ops [o] (fun T' st' => ∃ u, T' = (d, u) :: T ∧ v u st') (fun _ _ _ => False) T st) (hw : wantedA ops T o = some true)
    {g : G} {w : World} {a : Act} (hs : Sim g w st) (hk : Known g w T a) (K' : Act → World → Prop) (Q' : Exit → Act → World → Prop)
    (hK : ∀ rv g' w' u st', Ext g w g' w' → Sim g' w' st' → R g' w' u rv → v u st' → K' (a.put o.dst rv) w') (hn : a.tmps.size = n) : o.wp P a w K' Q' := by
  have h1 := h g w a hs hk hn
  unfold wpList at h1
  rw [wanted_of hk hw, if_pos rfl] at h1
  rcases h1 with h1 | ⟨_, h1⟩
  · refine wp_put h1 (fun a' w' hda hq ⟨rv, hrv⟩ => ?_) (fun a' w' hq => hq.2.1) (fun e a' w' hne hq => ?_)
    · obtain ⟨h2, h3, g', T', st', h4, h5, h6, u, hT, hv⟩ := hq
      subst hT
      subst hrv
      obtain ⟨ru, h7, h8⟩ := h6 d u (by rw [Tmps.get_cons, if_pos rfl])
      rw [hd] at h7
      simp only [Act.put, Array.getElem?_setIfInBounds] at h7
      simp [hn, hdn] at h7
      subst h7
      exact hK rv g' w' u st' h4 h5 h8 hv
    · obtain ⟨_, _, g', T', st', _, _, _, h6⟩ := hq
      cases e with
      | normal => exact absurd rfl hne
      | exit id => exact h6.elim
      | ret => exact h6.elim
      | panic ch => obtain ⟨_, _, _, _, h7⟩ := h6; exact h7.elim
      | goto l => exact h6.elim
      | outgrown => exact h6.elim
  · exact absurd h1 LetsOut.not_QOf

/-- A quiet step. -/
theorem dq {e : Nat} {Φ : AV → St → Prop} {i : Nat} {o : Oper} {r : List Oper} {d : Tmp} {v : AV} {k : Tmps → Prop} (hi : Nat.beq i e = false) (hd : dstA n o.dst = some d) (hw : wantedA ops (see ops o T) o = some true)
    (h : ∀ st', StLe st' st.notok → AOps P n ops [o] (fun T' st'' => ∃ u, T' = (d, u) :: see ops o T ∧ (u = v ∧ st'' = st')) (fun _ _ _ => False) (see ops o T) st')
    (hr : DRun P n st ops e Φ (i + 1) r ((d, v) :: T) k) : DRun P n st ops e Φ i (o :: r) T k := by
  obtain ⟨hd1, hd2⟩ := dstA_some hd
  unfold DRun
  rw [hi, cond_false]
  have hdn : d < n := dstOk_lt hd2 d hd1
  refine ⟨d, v, hd1, by simpa using hdn, .inl ⟨hw, ?_⟩, hr⟩
  intro st' g w a K' Q' hle hs hk hn hK
  exact AOps.single hd1 hdn (h st' hle) hw hs hk K' Q' (fun rv g' w' u st'' he hs' hR hu => by obtain ⟨rfl, rfl⟩ := hu; exact hK rv g' w' he hs' hR) hn

/-- An operation whose guard is false. -/
theorem du {e : Nat} {Φ : AV → St → Prop} {i : Nat} {o : Oper} {r : List Oper} {d : Tmp} {k : Tmps → Prop} (hi : Nat.beq i e = false) (hd : dstA n o.dst = some d) (hw : wantedA ops (see ops o T) o = some false)
    (hr : DRun P n st ops e Φ (i + 1) r ((d, .lit undef) :: T) k) : DRun P n st ops e Φ i (o :: r) T k := by
  obtain ⟨hd1, hd2⟩ := dstA_some hd
  unfold DRun
  rw [hi, cond_false]
  exact ⟨d, _, hd1, by simpa using dstOk_lt hd2 d hd1, .inr ⟨hw, rfl⟩, hr⟩

/-- The step that changes the state. -/
theorem de {e : Nat} {Φ : AV → St → Prop} {i : Nat} {o : Oper} {r : List Oper} {d : Tmp} {k : Tmps → Prop} (hi : Nat.beq i e = true) (hd : dstA n o.dst = some d) (hw : wantedA ops (see ops o T) o = some true)
    (h : AOps P n ops [o] (fun T' st'' => ∃ u, T' = (d, u) :: see ops o T ∧ (Φ u st'' ∧ StLe st'' st.notok)) (fun _ _ _ => False) (see ops o T) st)
    (hr : DRun P n st ops e Φ (i + 1) r T k) : DRun P n st ops e Φ i (o :: r) T k := by
  obtain ⟨hd1, hd2⟩ := dstA_some hd
  unfold DRun
  rw [hi, cond_true]
  have hdn : d < n := dstOk_lt hd2 d hd1
  refine ⟨d, hd1, by simpa using hdn, hw, ?_, hr⟩
  intro g w a K' Q' hs hk hn hK
  exact AOps.single hd1 hdn h hw hs hk K' Q' (fun rv g' w' u st'' he hs' hR hu => hK rv g' w' u st'' he hs' hR hu.1 hu.2) hn

theorem dn {e : Nat} {Φ : AV → St → Prop} {i : Nat} {k : Tmps → Prop} (h : k T) : DRun P n st ops e Φ i [] T k := h

/-- A quiet step that asks nothing. -/
theorem ds {e : Nat} {Φ : AV → St → Prop} {i : Nat} {o : Oper} {r : List Oper} {d : Tmp} {v : AV} {k : Tmps → Prop} (hi : Nat.beq i e = false) (hs : step1 ops n st (see ops o T) o = some (d, v))
    (hr : DRun P n st ops e Φ (i + 1) r ((d, v) :: T) k) : DRun P n st ops e Φ i (o :: r) T k := by
  have hgo : goes ops n (see ops o T) o = some d := by
    unfold step1 at hs
    split at hs
    · rename_i h1 h2; cases hs; exact h1
    · cases hs
  obtain ⟨hw, hd, hok⟩ := goes_some hgo
  refine dq hi (by rw [hd] at hok ⊢; show (bif Nat.blt d n then some d else none) = some d; rw [show Nat.blt d n = true from hok]; rfl) hw (fun st' hle => ?_) hr
  have hev : ∀ x, ev st' (see ops o T) x = ev st (see ops o T) x := fun x => by
    cases x <;> simp [ev, St.row]
    have : st'.glob = st.glob := hle.glob.symm
    rw [this]
  have hval : valA st' (see ops o T) o.op = valA st (see ops o T) o.op := by
    cases o.op <;> simp only [valA, hev]
  refine sm (d := d) (v := v) ?_ (nl ⟨v, rfl, rfl, rfl⟩)
  unfold step1 at hs ⊢
  rw [hval]
  exact hs

end
end Go.AM
