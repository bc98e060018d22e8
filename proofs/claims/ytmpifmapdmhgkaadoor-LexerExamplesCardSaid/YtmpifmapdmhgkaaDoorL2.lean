/- The walk of prefix. No conditions: lemmas only. -/
import Derived.Test.YtmpifmapdmhgkaaDoorL1
namespace Go.Proofs
open Go.AM

theorem tw_len {q : UInt8 → Bool} {l : List UInt8} : ∀ {p : Nat}, (∀ j, j < p → ∃ b, l[j]? = some b ∧ q b = true) → ((∃ c, l[p]? = some c ∧ q c = false) ∨ l.length ≤ p) → p ≤ l.length → (l.takeWhile q).length = p := by
  induction l with
  | nil => intro p _ _ h; simp at h; simp [h]
  | cons a l ih =>
    intro p h1 h2 h3
    cases p with
    | zero =>
      rcases h2 with ⟨c, hc, hq⟩ | h
      · cases hc
        simp [hq]
      · simp at h
    | succ p =>
      obtain ⟨b, hb, hq⟩ := h1 0 (by omega)
      cases hb
      rw [List.takeWhile_cons, hq, if_pos rfl, List.length_cons]
      rw [ih (p := p) (fun j hj => h1 (j + 1) (by omega)) (by
        rcases h2 with ⟨c, hc, hq⟩ | h
        · exact .inl ⟨c, hc, hq⟩
        · exact .inr (by simpa using h)) (by simpa using h3)]

set_option maxHeartbeats 1000000 in
theorem prefix_ok (l : List UInt8) (f : Nat) [GoFun Tryd.prog f] (acc : Nat → Bool) (hacc : ∀ r, 128 ≤ r → acc r = acc 128) (st : St)
    (hf : ∀ (r : Nat) (st : St), ACalls Tryd.prog f [.int .i32 (r : Int)] st (fun v st' => v = .bool (acc r) ∧ st' = st) (fun _ _ => False)) :
    ACalls Tryd.prog 32 [.str l, .func (.func f) [] []] st (fun v st' => v = .int .i64 ((l.takeWhile fun c => acc c.toNat).length : Int) ∧ st' = st) (fun _ _ => False) := by
  refine ACalls.ofBody Tryd.func32 rfl Tryd.ntmps32 rfl ?_
  repeat (first | refine nl ?_ | refine AWP.seq ?_ | refine rg ?_ | refine AWP.skip ?_ | refine AWP.block ?_ | refine sm rfl ?_ | refine uw rfl ?_ | refine fa rfl rfl ?_ | refine leW rfl rfl rfl rfl rfl ?_ | refine leW rfl rfl rfl (by assumption) rfl ?_ | refine lcW rfl rfl rfl (St.obj_set _ _ _) rfl rfl ?_ | refine le rfl rfl rfl rfl ?_ | refine le rfl rfl (by assumption) rfl ?_ | refine lnv rfl rfl ?_ | refine lnm rfl rfl ?_ | refine lns rfl rfl ?_ | refine ix rfl rfl rfl rfl (by assumption) ?_ | refine ixm rfl rfl rfl rfl (by assumption) ?_ | refine lc rfl rfl (St.obj_set _ _ _) rfl rfl ?_ | refine lc rfl rfl (St.obj_set _ _ _) (by assumption) rfl ?_ | refine lc rfl rfl (by assumption) rfl rfl ?_ | refine lc rfl rfl (by assumption) (by assumption) rfl ?_ | refine inc rfl rfl rfl (by omega) ?_ | refine adn rfl rfl rfl (by omega) ?_ | refine bs1 rfl rfl rfl rfl rfl rfl ?_ | refine bxe rfl rfl rfl rfl ?_ | refine eqn rfl rfl ?_ | refine eqb rfl rfl rfl ?_ | refine neb rfl rfl rfl ?_ | refine sx rfl rfl rfl rfl (by assumption) ?_ | refine ssl rfl rfl rfl (by omega) ?_ | refine ssh rfl rfl rfl (by omega) ?_)
  refine rgs rfl rfl fun o ho => ?_
  repeat (first | refine nl ?_ | refine AWP.seq ?_ | refine rg ?_ | refine AWP.skip ?_ | refine AWP.block ?_ | refine sm rfl ?_ | refine uw rfl ?_ | refine fa rfl rfl ?_ | refine leW rfl rfl rfl rfl rfl ?_ | refine leW rfl rfl rfl (by assumption) rfl ?_ | refine lcW rfl rfl rfl (St.obj_set _ _ _) rfl rfl ?_ | refine le rfl rfl rfl rfl ?_ | refine le rfl rfl (by assumption) rfl ?_ | refine lnv rfl rfl ?_ | refine lnm rfl rfl ?_ | refine lns rfl rfl ?_ | refine ix rfl rfl rfl rfl (by assumption) ?_ | refine ixm rfl rfl rfl rfl (by assumption) ?_ | refine lc rfl rfl (St.obj_set _ _ _) rfl rfl ?_ | refine lc rfl rfl (St.obj_set _ _ _) (by assumption) rfl ?_ | refine lc rfl rfl (by assumption) rfl rfl ?_ | refine lc rfl rfl (by assumption) (by assumption) rfl ?_ | refine inc rfl rfl rfl (by omega) ?_ | refine adn rfl rfl rfl (by omega) ?_ | refine bs1 rfl rfl rfl rfl rfl rfl ?_ | refine bxe rfl rfl rfl rfl ?_ | refine eqn rfl rfl ?_ | refine eqb rfl rfl rfl ?_ | refine neb rfl rfl rfl ?_ | refine sx rfl rfl rfl rfl (by assumption) ?_ | refine ssl rfl rfl rfl (by omega) ?_ | refine ssh rfl rfl rfl (by omega) ?_)
  refine AWP.loop (α := Nat) (fun _ => [(8, .iter o), (0, .str l), (1, .func (.func f) [] [])]) (fun p => st.set o (.iter l p)) (fun p => p ≤ l.length ∧ ∀ j, j < p → ∃ b, l[j]? = some b ∧ acc b.toNat = true) (fun p => l.length - p) 0 ⟨Nat.zero_le _, fun j hj => by omega⟩ (tl3 rfl rfl rfl) (.refl _) ?_
  rintro p ⟨hp, hall⟩
  repeat (first | refine nl ?_ | refine AWP.seq ?_ | refine AWP.skip ?_ | refine AWP.block ?_)
  refine rg ?_
  rcases Nat.lt_or_ge p l.length with hlt | hge
  · have hc : l[p]? = some l[p] := List.getElem?_eq_getElem hlt
    refine nxu rfl rfl (St.obj_set _ _ _) hc fun r w hch => ?_
    rw [St.set_set]
    repeat (first | refine nl ?_ | refine AWP.seq ?_ | refine rg ?_ | refine AWP.skip ?_ | refine AWP.block ?_ | refine sm rfl ?_ | refine uw rfl ?_ | refine fa rfl rfl ?_ | refine leW rfl rfl rfl rfl rfl ?_ | refine leW rfl rfl rfl (by assumption) rfl ?_ | refine lcW rfl rfl rfl (St.obj_set _ _ _) rfl rfl ?_ | refine le rfl rfl rfl rfl ?_ | refine le rfl rfl (by assumption) rfl ?_ | refine lnv rfl rfl ?_ | refine lnm rfl rfl ?_ | refine lns rfl rfl ?_ | refine ix rfl rfl rfl rfl (by assumption) ?_ | refine ixm rfl rfl rfl rfl (by assumption) ?_ | refine lc rfl rfl (St.obj_set _ _ _) rfl rfl ?_ | refine lc rfl rfl (St.obj_set _ _ _) (by assumption) rfl ?_ | refine lc rfl rfl (by assumption) rfl rfl ?_ | refine lc rfl rfl (by assumption) (by assumption) rfl ?_ | refine inc rfl rfl rfl (by omega) ?_ | refine adn rfl rfl rfl (by omega) ?_ | refine bs1 rfl rfl rfl rfl rfl rfl ?_ | refine bxe rfl rfl rfl rfl ?_ | refine eqn rfl rfl ?_ | refine eqb rfl rfl rfl ?_ | refine neb rfl rfl rfl ?_ | refine sx rfl rfl rfl rfl (by assumption) ?_ | refine ssl rfl rfl rfl (by omega) ?_ | refine ssh rfl rfl rfl (by omega) ?_)
    refine AWP.cond_true rfl (AWP.skip ?_)
    repeat (first | refine nl ?_ | refine AWP.seq ?_ | refine rg ?_ | refine AWP.skip ?_ | refine AWP.block ?_ | refine sm rfl ?_ | refine uw rfl ?_ | refine fa rfl rfl ?_ | refine leW rfl rfl rfl rfl rfl ?_ | refine leW rfl rfl rfl (by assumption) rfl ?_ | refine lcW rfl rfl rfl (St.obj_set _ _ _) rfl rfl ?_ | refine le rfl rfl rfl rfl ?_ | refine le rfl rfl (by assumption) rfl ?_ | refine lnv rfl rfl ?_ | refine lnm rfl rfl ?_ | refine lns rfl rfl ?_ | refine ix rfl rfl rfl rfl (by assumption) ?_ | refine ixm rfl rfl rfl rfl (by assumption) ?_ | refine lc rfl rfl (St.obj_set _ _ _) rfl rfl ?_ | refine lc rfl rfl (St.obj_set _ _ _) (by assumption) rfl ?_ | refine lc rfl rfl (by assumption) rfl rfl ?_ | refine lc rfl rfl (by assumption) (by assumption) rfl ?_ | refine inc rfl rfl rfl (by omega) ?_ | refine adn rfl rfl rfl (by omega) ?_ | refine bs1 rfl rfl rfl rfl rfl rfl ?_ | refine bxe rfl rfl rfl rfl ?_ | refine eqn rfl rfl ?_ | refine eqb rfl rfl rfl ?_ | refine neb rfl rfl rfl ?_ | refine sx rfl rfl rfl rfl (by assumption) ?_ | refine ssl rfl rfl rfl (by omega) ?_ | refine ssh rfl rfl rfl (by omega) ?_)
    refine clv rfl rfl rfl (hf r _) ?_
    repeat (first | refine nl ?_ | refine AWP.seq ?_ | refine rg ?_ | refine AWP.skip ?_ | refine AWP.block ?_ | refine sm rfl ?_ | refine uw rfl ?_ | refine fa rfl rfl ?_ | refine leW rfl rfl rfl rfl rfl ?_ | refine leW rfl rfl rfl (by assumption) rfl ?_ | refine lcW rfl rfl rfl (St.obj_set _ _ _) rfl rfl ?_ | refine le rfl rfl rfl rfl ?_ | refine le rfl rfl (by assumption) rfl ?_ | refine lnv rfl rfl ?_ | refine lnm rfl rfl ?_ | refine lns rfl rfl ?_ | refine ix rfl rfl rfl rfl (by assumption) ?_ | refine ixm rfl rfl rfl rfl (by assumption) ?_ | refine lc rfl rfl (St.obj_set _ _ _) rfl rfl ?_ | refine lc rfl rfl (St.obj_set _ _ _) (by assumption) rfl ?_ | refine lc rfl rfl (by assumption) rfl rfl ?_ | refine lc rfl rfl (by assumption) (by assumption) rfl ?_ | refine inc rfl rfl rfl (by omega) ?_ | refine adn rfl rfl rfl (by omega) ?_ | refine bs1 rfl rfl rfl rfl rfl rfl ?_ | refine bxe rfl rfl rfl rfl ?_ | refine eqn rfl rfl ?_ | refine eqb rfl rfl rfl ?_ | refine neb rfl rfl rfl ?_ | refine sx rfl rfl rfl rfl (by assumption) ?_ | refine ssl rfl rfl rfl (by omega) ?_ | refine ssh rfl rfl rfl (by omega) ?_)
    have hpos := hch.pos
    have hle := hch.le
    have hre : acc r = acc (l[p]).toNat := by
      rcases Nat.lt_or_ge (l[p]).toNat 128 with h | h
      · rw [(hch.low h).1]
      · rw [hacc r (hch.high h).1, hacc _ h]
    refine AWP.cond_bool rfl (fun hb => ?_) (fun hb => AWP.skip ?_)
    · have hb' : acc (l[p]).toNat = false := by rw [← hre]; simpa using hb
      repeat (first | refine nl ?_ | refine AWP.seq ?_ | refine rg ?_ | refine AWP.skip ?_ | refine AWP.block ?_ | refine sm rfl ?_ | refine uw rfl ?_ | refine fa rfl rfl ?_ | refine leW rfl rfl rfl rfl rfl ?_ | refine leW rfl rfl rfl (by assumption) rfl ?_ | refine lcW rfl rfl rfl (St.obj_set _ _ _) rfl rfl ?_ | refine le rfl rfl rfl rfl ?_ | refine le rfl rfl (by assumption) rfl ?_ | refine lnv rfl rfl ?_ | refine lnm rfl rfl ?_ | refine lns rfl rfl ?_ | refine ix rfl rfl rfl rfl (by assumption) ?_ | refine ixm rfl rfl rfl rfl (by assumption) ?_ | refine lc rfl rfl (St.obj_set _ _ _) rfl rfl ?_ | refine lc rfl rfl (St.obj_set _ _ _) (by assumption) rfl ?_ | refine lc rfl rfl (by assumption) rfl rfl ?_ | refine lc rfl rfl (by assumption) (by assumption) rfl ?_ | refine inc rfl rfl rfl (by omega) ?_ | refine adn rfl rfl rfl (by omega) ?_ | refine bs1 rfl rfl rfl rfl rfl rfl ?_ | refine bxe rfl rfl rfl rfl ?_ | refine eqn rfl rfl ?_ | refine eqb rfl rfl rfl ?_ | refine neb rfl rfl rfl ?_ | refine sx rfl rfl rfl rfl (by assumption) ?_ | refine ssl rfl rfl rfl (by omega) ?_ | refine ssh rfl rfl rfl (by omega) ?_)
      refine AWP.ret (rets rfl (.refl _) (StLe.new ho (.refl _)) ⟨?_, rfl⟩)
      rw [tw_len (q := fun c => acc c.toNat) hall (.inl ⟨_, hc, hb'⟩) hp]
      rfl
    · have hb' : acc (l[p]).toNat = true := by rw [← hre]; simpa using hb
      refine ⟨p + w, ⟨hle, fun j hj => ?_⟩, by omega, (tl3 rfl rfl rfl), .refl _⟩
      rcases Nat.lt_or_ge j p with h | h
      · exact hall j h
      · rcases Nat.lt_or_ge (l[p]).toNat 128 with h' | h'
        · have := (hch.low h').2
          have : j = p := by omega
          subst this
          exact ⟨_, hc, hb'⟩
        · obtain ⟨b, hb1, hb2⟩ := (hch.high h').2 j h hj
          refine ⟨b, hb1, ?_⟩
          rw [hacc _ hb2, ← hacc _ h', hb']
  · refine nxe rfl rfl (St.obj_set _ _ _) hge ?_
    repeat (first | refine nl ?_ | refine AWP.seq ?_ | refine rg ?_ | refine AWP.skip ?_ | refine AWP.block ?_ | refine sm rfl ?_ | refine uw rfl ?_ | refine fa rfl rfl ?_ | refine leW rfl rfl rfl rfl rfl ?_ | refine leW rfl rfl rfl (by assumption) rfl ?_ | refine lcW rfl rfl rfl (St.obj_set _ _ _) rfl rfl ?_ | refine le rfl rfl rfl rfl ?_ | refine le rfl rfl (by assumption) rfl ?_ | refine lnv rfl rfl ?_ | refine lnm rfl rfl ?_ | refine lns rfl rfl ?_ | refine ix rfl rfl rfl rfl (by assumption) ?_ | refine ixm rfl rfl rfl rfl (by assumption) ?_ | refine lc rfl rfl (St.obj_set _ _ _) rfl rfl ?_ | refine lc rfl rfl (St.obj_set _ _ _) (by assumption) rfl ?_ | refine lc rfl rfl (by assumption) rfl rfl ?_ | refine lc rfl rfl (by assumption) (by assumption) rfl ?_ | refine inc rfl rfl rfl (by omega) ?_ | refine adn rfl rfl rfl (by omega) ?_ | refine bs1 rfl rfl rfl rfl rfl rfl ?_ | refine bxe rfl rfl rfl rfl ?_ | refine eqn rfl rfl ?_ | refine eqb rfl rfl rfl ?_ | refine neb rfl rfl rfl ?_ | refine sx rfl rfl rfl rfl (by assumption) ?_ | refine ssl rfl rfl rfl (by omega) ?_ | refine ssh rfl rfl rfl (by omega) ?_)
    refine AWP.cond_false rfl (AWP.exit (blk_hit ?_))
    repeat (first | refine nl ?_ | refine AWP.seq ?_ | refine rg ?_ | refine AWP.skip ?_ | refine AWP.block ?_ | refine sm rfl ?_ | refine uw rfl ?_ | refine fa rfl rfl ?_ | refine leW rfl rfl rfl rfl rfl ?_ | refine leW rfl rfl rfl (by assumption) rfl ?_ | refine lcW rfl rfl rfl (St.obj_set _ _ _) rfl rfl ?_ | refine le rfl rfl rfl rfl ?_ | refine le rfl rfl (by assumption) rfl ?_ | refine lnv rfl rfl ?_ | refine lnm rfl rfl ?_ | refine lns rfl rfl ?_ | refine ix rfl rfl rfl rfl (by assumption) ?_ | refine ixm rfl rfl rfl rfl (by assumption) ?_ | refine lc rfl rfl (St.obj_set _ _ _) rfl rfl ?_ | refine lc rfl rfl (St.obj_set _ _ _) (by assumption) rfl ?_ | refine lc rfl rfl (by assumption) rfl rfl ?_ | refine lc rfl rfl (by assumption) (by assumption) rfl ?_ | refine inc rfl rfl rfl (by omega) ?_ | refine adn rfl rfl rfl (by omega) ?_ | refine bs1 rfl rfl rfl rfl rfl rfl ?_ | refine bxe rfl rfl rfl rfl ?_ | refine eqn rfl rfl ?_ | refine eqb rfl rfl rfl ?_ | refine neb rfl rfl rfl ?_ | refine sx rfl rfl rfl rfl (by assumption) ?_ | refine ssl rfl rfl rfl (by omega) ?_ | refine ssh rfl rfl rfl (by omega) ?_)
    refine AWP.ret (rets rfl (.refl _) (StLe.new ho (.refl _)) ⟨?_, rfl⟩)
    rw [tw_len (q := fun c => acc c.toNat) hall (.inr hge) hp]
    have : p = l.length := by omega
    rw [this]
    rfl
end Go.Proofs
