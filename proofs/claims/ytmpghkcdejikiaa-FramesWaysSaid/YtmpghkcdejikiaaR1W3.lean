/- The walk of the reference's Route. No conditions: lemmas only. -/
import Derived.Test.YtmpghkcdejikiaaR1W2
namespace Go.Proofs
open Go.AM

def routeV (r : List Site × Int) : AV := .tuple [.view 6 (r.1.map siteRow) .shared, .int .i64 r.2]

theorem Le.pair {a a' b : AV} (h : Le a a') : Le (.tuple [a, b]) (.tuple [a', b]) := by
  refine .tuple _ _ rfl fun i c c' hc hc' => ?_
  match i with
  | 0 => simp at hc hc'; subst hc; subst hc'; exact h
  | 1 => simp at hc hc'; subst hc; subst hc'; exact .refl _
  | i + 2 => simp at hc

set_option maxHeartbeats 4000000 in
theorem refRoute_ok (ps : List (List Site)) (hs : Small ps) (a b : Int) (st : St) :
    ACalls Try.prog 7 [dbg ps, .int .i64 a, .int .i64 b] st (fun v st' => v = routeV (route ps a b) ∧ st' = st) (fun _ _ => False) := by
  have hfew := hs.few
  have hpl : (ps.map procRow).length = ps.length := List.length_map ..
  refine ACalls.ofBody Try.func7 rfl Try.ntmps7 rfl ?_
  repeat (first | refine nl ?_ | refine AWP.seq ?_ | refine AWP.skip ?_ | refine AWP.block ?_)
  refine rg ?_
  repeat (first | refine sm rfl ?_ | refine uw rfl ?_ | refine fa rfl rfl ?_ | refine leW rfl rfl rfl rfl rfl ?_ | refine leW rfl rfl rfl (by assumption) rfl ?_ | refine lcW rfl rfl rfl (St.obj_set _ _ _) rfl rfl ?_ | refine le rfl rfl rfl rfl ?_ | refine le rfl rfl (by assumption) rfl ?_ | refine lnv rfl rfl ?_ | refine lnm rfl rfl ?_ | refine ix rfl rfl rfl rfl (by assumption) ?_ | refine ixm rfl rfl rfl rfl (by assumption) ?_ | refine lc rfl rfl (St.obj_set _ _ _) rfl rfl ?_ | refine lc rfl rfl (St.obj_set _ _ _) (by assumption) rfl ?_ | refine lc rfl rfl (by assumption) rfl rfl ?_ | refine lc rfl rfl (by assumption) (by assumption) rfl ?_ | refine inc rfl rfl rfl (by omega) ?_ | refine bs1 rfl rfl rfl rfl rfl rfl ?_ | refine bxe rfl rfl rfl rfl ?_ | refine eqn rfl rfl ?_ | refine eqb rfl rfl rfl ?_ | refine neb rfl rfl rfl ?_)
  repeat (first | refine nl ?_ | refine AWP.seq ?_ | refine AWP.skip ?_ | refine AWP.block ?_)
  refine rg ?_
  repeat (first | refine sm rfl ?_ | refine uw rfl ?_ | refine fa rfl rfl ?_ | refine leW rfl rfl rfl rfl rfl ?_ | refine leW rfl rfl rfl (by assumption) rfl ?_ | refine lcW rfl rfl rfl (St.obj_set _ _ _) rfl rfl ?_ | refine le rfl rfl rfl rfl ?_ | refine le rfl rfl (by assumption) rfl ?_ | refine lnv rfl rfl ?_ | refine lnm rfl rfl ?_ | refine ix rfl rfl rfl rfl (by assumption) ?_ | refine ixm rfl rfl rfl rfl (by assumption) ?_ | refine lc rfl rfl (St.obj_set _ _ _) rfl rfl ?_ | refine lc rfl rfl (St.obj_set _ _ _) (by assumption) rfl ?_ | refine lc rfl rfl (by assumption) rfl rfl ?_ | refine lc rfl rfl (by assumption) (by assumption) rfl ?_ | refine inc rfl rfl rfl (by omega) ?_ | refine bs1 rfl rfl rfl rfl rfl rfl ?_ | refine bxe rfl rfl rfl rfl ?_ | refine eqn rfl rfl ?_ | refine eqb rfl rfl rfl ?_ | refine neb rfl rfl rfl ?_)
  repeat (first | refine nl ?_ | refine AWP.seq ?_ | refine AWP.skip ?_ | refine AWP.block ?_)
  refine AWP.weaken (tl6 (i0 := 1) (i1 := 2) (i2 := 3) (i3 := 6) (i4 := 7) (i5 := 8) rfl rfl rfl rfl rfl rfl) (.refl _) ?_
  refine tstk 34 (.bool (bad ps a b)) (rg ?_) ?_
  · repeat (first | refine sm rfl ?_ | refine uw rfl ?_ | refine fa rfl rfl ?_ | refine leW rfl rfl rfl rfl rfl ?_ | refine leW rfl rfl rfl (by assumption) rfl ?_ | refine lcW rfl rfl rfl (St.obj_set _ _ _) rfl rfl ?_ | refine le rfl rfl rfl rfl ?_ | refine le rfl rfl (by assumption) rfl ?_ | refine lnv rfl rfl ?_ | refine lnm rfl rfl ?_ | refine ix rfl rfl rfl rfl (by assumption) ?_ | refine ixm rfl rfl rfl rfl (by assumption) ?_ | refine lc rfl rfl (St.obj_set _ _ _) rfl rfl ?_ | refine lc rfl rfl (St.obj_set _ _ _) (by assumption) rfl ?_ | refine lc rfl rfl (by assumption) rfl rfl ?_ | refine lc rfl rfl (by assumption) (by assumption) rfl ?_ | refine inc rfl rfl rfl (by omega) ?_ | refine bs1 rfl rfl rfl rfl rfl rfl ?_ | refine bxe rfl rfl rfl rfl ?_ | refine eqn rfl rfl ?_ | refine eqb rfl rfl rfl ?_ | refine neb rfl rfl rfl ?_)
    refine AOps.split 21 rfl (fun h1 => ?_) (fun h1 => ?_)
    · repeat (first | refine sm rfl ?_ | refine uw rfl ?_ | refine fa rfl rfl ?_ | refine leW rfl rfl rfl rfl rfl ?_ | refine leW rfl rfl rfl (by assumption) rfl ?_ | refine lcW rfl rfl rfl (St.obj_set _ _ _) rfl rfl ?_ | refine le rfl rfl rfl rfl ?_ | refine le rfl rfl (by assumption) rfl ?_ | refine lnv rfl rfl ?_ | refine lnm rfl rfl ?_ | refine ix rfl rfl rfl rfl (by assumption) ?_ | refine ixm rfl rfl rfl rfl (by assumption) ?_ | refine lc rfl rfl (St.obj_set _ _ _) rfl rfl ?_ | refine lc rfl rfl (St.obj_set _ _ _) (by assumption) rfl ?_ | refine lc rfl rfl (by assumption) rfl rfl ?_ | refine lc rfl rfl (by assumption) (by assumption) rfl ?_ | refine inc rfl rfl rfl (by omega) ?_ | refine bs1 rfl rfl rfl rfl rfl rfl ?_ | refine bxe rfl rfl rfl rfl ?_ | refine eqn rfl rfl ?_ | refine eqb rfl rfl rfl ?_ | refine neb rfl rfl rfl ?_)
      exact nl ⟨TLe.consE rfl (by simp [bad, h1, absV, abs1]) (tl6 rfl rfl rfl rfl rfl rfl), .refl _⟩
    · repeat (first | refine sm rfl ?_ | refine uw rfl ?_ | refine fa rfl rfl ?_ | refine leW rfl rfl rfl rfl rfl ?_ | refine leW rfl rfl rfl (by assumption) rfl ?_ | refine lcW rfl rfl rfl (St.obj_set _ _ _) rfl rfl ?_ | refine le rfl rfl rfl rfl ?_ | refine le rfl rfl (by assumption) rfl ?_ | refine lnv rfl rfl ?_ | refine lnm rfl rfl ?_ | refine ix rfl rfl rfl rfl (by assumption) ?_ | refine ixm rfl rfl rfl rfl (by assumption) ?_ | refine lc rfl rfl (St.obj_set _ _ _) rfl rfl ?_ | refine lc rfl rfl (St.obj_set _ _ _) (by assumption) rfl ?_ | refine lc rfl rfl (by assumption) rfl rfl ?_ | refine lc rfl rfl (by assumption) (by assumption) rfl ?_ | refine inc rfl rfl rfl (by omega) ?_ | refine bs1 rfl rfl rfl rfl rfl rfl ?_ | refine bxe rfl rfl rfl rfl ?_ | refine eqn rfl rfl ?_ | refine eqb rfl rfl rfl ?_ | refine neb rfl rfl rfl ?_)
      refine AOps.split 26 rfl (fun h2 => ?_) (fun h2 => ?_)
      · repeat (first | refine sm rfl ?_ | refine uw rfl ?_ | refine fa rfl rfl ?_ | refine leW rfl rfl rfl rfl rfl ?_ | refine leW rfl rfl rfl (by assumption) rfl ?_ | refine lcW rfl rfl rfl (St.obj_set _ _ _) rfl rfl ?_ | refine le rfl rfl rfl rfl ?_ | refine le rfl rfl (by assumption) rfl ?_ | refine lnv rfl rfl ?_ | refine lnm rfl rfl ?_ | refine ix rfl rfl rfl rfl (by assumption) ?_ | refine ixm rfl rfl rfl rfl (by assumption) ?_ | refine lc rfl rfl (St.obj_set _ _ _) rfl rfl ?_ | refine lc rfl rfl (St.obj_set _ _ _) (by assumption) rfl ?_ | refine lc rfl rfl (by assumption) rfl rfl ?_ | refine lc rfl rfl (by assumption) (by assumption) rfl ?_ | refine inc rfl rfl rfl (by omega) ?_ | refine bs1 rfl rfl rfl rfl rfl rfl ?_ | refine bxe rfl rfl rfl rfl ?_ | refine eqn rfl rfl ?_ | refine eqb rfl rfl rfl ?_ | refine neb rfl rfl rfl ?_)
        exact nl ⟨TLe.consE rfl (by simp [bad, h1, absV, abs1]; simp at h2; omega) (tl6 rfl rfl rfl rfl rfl rfl), .refl _⟩
      · repeat (first | refine sm rfl ?_ | refine uw rfl ?_ | refine fa rfl rfl ?_ | refine leW rfl rfl rfl rfl rfl ?_ | refine leW rfl rfl rfl (by assumption) rfl ?_ | refine lcW rfl rfl rfl (St.obj_set _ _ _) rfl rfl ?_ | refine le rfl rfl rfl rfl ?_ | refine le rfl rfl (by assumption) rfl ?_ | refine lnv rfl rfl ?_ | refine lnm rfl rfl ?_ | refine ix rfl rfl rfl rfl (by assumption) ?_ | refine ixm rfl rfl rfl rfl (by assumption) ?_ | refine lc rfl rfl (St.obj_set _ _ _) rfl rfl ?_ | refine lc rfl rfl (St.obj_set _ _ _) (by assumption) rfl ?_ | refine lc rfl rfl (by assumption) rfl rfl ?_ | refine lc rfl rfl (by assumption) (by assumption) rfl ?_ | refine inc rfl rfl rfl (by omega) ?_ | refine bs1 rfl rfl rfl rfl rfl rfl ?_ | refine bxe rfl rfl rfl rfl ?_ | refine eqn rfl rfl ?_ | refine eqb rfl rfl rfl ?_ | refine neb rfl rfl rfl ?_)
        refine AOps.split 30 rfl (fun h3 => ?_) (fun h3 => ?_)
        · repeat (first | refine sm rfl ?_ | refine uw rfl ?_ | refine fa rfl rfl ?_ | refine leW rfl rfl rfl rfl rfl ?_ | refine leW rfl rfl rfl (by assumption) rfl ?_ | refine lcW rfl rfl rfl (St.obj_set _ _ _) rfl rfl ?_ | refine le rfl rfl rfl rfl ?_ | refine le rfl rfl (by assumption) rfl ?_ | refine lnv rfl rfl ?_ | refine lnm rfl rfl ?_ | refine ix rfl rfl rfl rfl (by assumption) ?_ | refine ixm rfl rfl rfl rfl (by assumption) ?_ | refine lc rfl rfl (St.obj_set _ _ _) rfl rfl ?_ | refine lc rfl rfl (St.obj_set _ _ _) (by assumption) rfl ?_ | refine lc rfl rfl (by assumption) rfl rfl ?_ | refine lc rfl rfl (by assumption) (by assumption) rfl ?_ | refine inc rfl rfl rfl (by omega) ?_ | refine bs1 rfl rfl rfl rfl rfl rfl ?_ | refine bxe rfl rfl rfl rfl ?_ | refine eqn rfl rfl ?_ | refine eqb rfl rfl rfl ?_ | refine neb rfl rfl rfl ?_)
          exact nl ⟨TLe.consE rfl (by simp [bad, h1, h3, absV, abs1]) (tl6 rfl rfl rfl rfl rfl rfl), .refl _⟩
        · repeat (first | refine sm rfl ?_ | refine uw rfl ?_ | refine fa rfl rfl ?_ | refine leW rfl rfl rfl rfl rfl ?_ | refine leW rfl rfl rfl (by assumption) rfl ?_ | refine lcW rfl rfl rfl (St.obj_set _ _ _) rfl rfl ?_ | refine le rfl rfl rfl rfl ?_ | refine le rfl rfl (by assumption) rfl ?_ | refine lnv rfl rfl ?_ | refine lnm rfl rfl ?_ | refine ix rfl rfl rfl rfl (by assumption) ?_ | refine ixm rfl rfl rfl rfl (by assumption) ?_ | refine lc rfl rfl (St.obj_set _ _ _) rfl rfl ?_ | refine lc rfl rfl (St.obj_set _ _ _) (by assumption) rfl ?_ | refine lc rfl rfl (by assumption) rfl rfl ?_ | refine lc rfl rfl (by assumption) (by assumption) rfl ?_ | refine inc rfl rfl rfl (by omega) ?_ | refine bs1 rfl rfl rfl rfl rfl rfl ?_ | refine bxe rfl rfl rfl rfl ?_ | refine eqn rfl rfl ?_ | refine eqb rfl rfl rfl ?_ | refine neb rfl rfl rfl ?_)
          exact nl ⟨TLe.consE rfl (by simp [bad, h1, h3]; simp at h2; omega) (tl6 rfl rfl rfl rfl rfl rfl), .refl _⟩
  · refine AWP.cond_bool rfl (fun hb => ?_) (fun hb => ?_)
    · repeat (first | refine nl ?_ | refine AWP.seq ?_ | refine AWP.skip ?_ | refine AWP.block ?_)
      refine rg ?_
      repeat (first | refine sm rfl ?_ | refine uw rfl ?_ | refine fa rfl rfl ?_ | refine leW rfl rfl rfl rfl rfl ?_ | refine leW rfl rfl rfl (by assumption) rfl ?_ | refine lcW rfl rfl rfl (St.obj_set _ _ _) rfl rfl ?_ | refine le rfl rfl rfl rfl ?_ | refine le rfl rfl (by assumption) rfl ?_ | refine lnv rfl rfl ?_ | refine lnm rfl rfl ?_ | refine ix rfl rfl rfl rfl (by assumption) ?_ | refine ixm rfl rfl rfl rfl (by assumption) ?_ | refine lc rfl rfl (St.obj_set _ _ _) rfl rfl ?_ | refine lc rfl rfl (St.obj_set _ _ _) (by assumption) rfl ?_ | refine lc rfl rfl (by assumption) rfl rfl ?_ | refine lc rfl rfl (by assumption) (by assumption) rfl ?_ | refine inc rfl rfl rfl (by omega) ?_ | refine bs1 rfl rfl rfl rfl rfl rfl ?_ | refine bxe rfl rfl rfl rfl ?_ | refine eqn rfl rfl ?_ | refine eqb rfl rfl rfl ?_ | refine neb rfl rfl rfl ?_)
      repeat (first | refine nl ?_ | refine AWP.seq ?_ | refine AWP.skip ?_ | refine AWP.block ?_)
      refine AWP.ret (rets rfl (Le.pair (.nilShared 0 6)) (.refl _) ⟨?_, rfl⟩)
      rw [route, hb]
      rfl
    · have hb' := hb
      simp only [bad, Bool.or_eq_false_iff, decide_eq_false_iff_not] at hb'
      obtain ⟨f0, rfl⟩ := Int.eq_ofNat_of_zero_le (show 0 ≤ a by omega)
      obtain ⟨t, rfl⟩ := Int.eq_ofNat_of_zero_le (show 0 ≤ b by omega)
      have hf0 : f0 < ps.length := by omega
      have ht : t < ps.length := by omega
      have hroute : route ps f0 t = bif lv ps t ps.length f0 then follow ps t (ps.length + 1) f0 [] else ([], 0) := by
        rw [route, hb]
        rfl
      have hil : ((inn ps t).map brow).length = ps.length := by simp [inn_length]
      have hfl : f0 < ((inn ps t).map brow).length := by omega
      have hfr : ((inn ps t).map brow)[f0]? = some (brow (lv ps t ps.length f0)) := by rw [List.getElem?_map, inn_get hf0]; rfl
      repeat (first | refine nl ?_ | refine AWP.seq ?_ | refine AWP.skip ?_ | refine AWP.block ?_)
      refine rg ?_
      repeat (first | refine sm rfl ?_ | refine uw rfl ?_ | refine fa rfl rfl ?_ | refine leW rfl rfl rfl rfl rfl ?_ | refine leW rfl rfl rfl (by assumption) rfl ?_ | refine lcW rfl rfl rfl (St.obj_set _ _ _) rfl rfl ?_ | refine le rfl rfl rfl rfl ?_ | refine le rfl rfl (by assumption) rfl ?_ | refine lnv rfl rfl ?_ | refine lnm rfl rfl ?_ | refine ix rfl rfl rfl rfl (by assumption) ?_ | refine ixm rfl rfl rfl rfl (by assumption) ?_ | refine lc rfl rfl (St.obj_set _ _ _) rfl rfl ?_ | refine lc rfl rfl (St.obj_set _ _ _) (by assumption) rfl ?_ | refine lc rfl rfl (by assumption) rfl rfl ?_ | refine lc rfl rfl (by assumption) (by assumption) rfl ?_ | refine inc rfl rfl rfl (by omega) ?_ | refine bs1 rfl rfl rfl rfl rfl rfl ?_ | refine bxe rfl rfl rfl rfl ?_ | refine eqn rfl rfl ?_ | refine eqb rfl rfl rfl ?_ | refine neb rfl rfl rfl ?_)
      refine cle rfl rfl (reaching_ok ps hs t ht st) ?_
      repeat (first | refine nl ?_ | refine AWP.seq ?_ | refine rg ?_ | refine AWP.skip ?_ | refine AWP.block ?_ | refine sm rfl ?_ | refine uw rfl ?_ | refine fa rfl rfl ?_ | refine leW rfl rfl rfl rfl rfl ?_ | refine leW rfl rfl rfl (by assumption) rfl ?_ | refine lcW rfl rfl rfl (St.obj_set _ _ _) rfl rfl ?_ | refine le rfl rfl rfl rfl ?_ | refine le rfl rfl (by assumption) rfl ?_ | refine lnv rfl rfl ?_ | refine lnm rfl rfl ?_ | refine ix rfl rfl rfl rfl (by assumption) ?_ | refine ixm rfl rfl rfl rfl (by assumption) ?_ | refine lc rfl rfl (St.obj_set _ _ _) rfl rfl ?_ | refine lc rfl rfl (St.obj_set _ _ _) (by assumption) rfl ?_ | refine lc rfl rfl (by assumption) rfl rfl ?_ | refine lc rfl rfl (by assumption) (by assumption) rfl ?_ | refine inc rfl rfl rfl (by omega) ?_ | refine bs1 rfl rfl rfl rfl rfl rfl ?_ | refine bxe rfl rfl rfl rfl ?_ | refine eqn rfl rfl ?_ | refine eqb rfl rfl rfl ?_ | refine neb rfl rfl rfl ?_)
      refine AWP.cond_bool rfl (fun hlv => ?_) (fun hlv => ?_)
      · repeat (first | refine nl ?_ | refine AWP.seq ?_ | refine AWP.skip ?_ | refine AWP.block ?_)
        refine rg ?_
        repeat (first | refine sm rfl ?_ | refine uw rfl ?_ | refine fa rfl rfl ?_ | refine leW rfl rfl rfl rfl rfl ?_ | refine leW rfl rfl rfl (by assumption) rfl ?_ | refine lcW rfl rfl rfl (St.obj_set _ _ _) rfl rfl ?_ | refine le rfl rfl rfl rfl ?_ | refine le rfl rfl (by assumption) rfl ?_ | refine lnv rfl rfl ?_ | refine lnm rfl rfl ?_ | refine ix rfl rfl rfl rfl (by assumption) ?_ | refine ixm rfl rfl rfl rfl (by assumption) ?_ | refine lc rfl rfl (St.obj_set _ _ _) rfl rfl ?_ | refine lc rfl rfl (St.obj_set _ _ _) (by assumption) rfl ?_ | refine lc rfl rfl (by assumption) rfl rfl ?_ | refine lc rfl rfl (by assumption) (by assumption) rfl ?_ | refine inc rfl rfl rfl (by omega) ?_ | refine bs1 rfl rfl rfl rfl rfl rfl ?_ | refine bxe rfl rfl rfl rfl ?_ | refine eqn rfl rfl ?_ | refine eqb rfl rfl rfl ?_ | refine neb rfl rfl rfl ?_)
        repeat (first | refine nl ?_ | refine AWP.seq ?_ | refine AWP.skip ?_ | refine AWP.block ?_)
        refine AWP.ret (rets rfl (Le.pair (.nilShared 0 6)) (.refl _) ⟨?_, rfl⟩)
        rw [hroute, show lv ps t ps.length f0 = false by simpa using hlv]
        rfl
      · have hlv' : lv ps t ps.length f0 = true := by simpa using hlv
        rw [hlv', cond_true] at hroute
        repeat (first | refine nl ?_ | refine AWP.seq ?_ | refine AWP.skip ?_ | refine AWP.block ?_)
        refine rg ?_
        repeat (first | refine sm rfl ?_ | refine uw rfl ?_ | refine fa rfl rfl ?_ | refine leW rfl rfl rfl rfl rfl ?_ | refine leW rfl rfl rfl (by assumption) rfl ?_ | refine lcW rfl rfl rfl (St.obj_set _ _ _) rfl rfl ?_ | refine le rfl rfl rfl rfl ?_ | refine le rfl rfl (by assumption) rfl ?_ | refine lnv rfl rfl ?_ | refine lnm rfl rfl ?_ | refine ix rfl rfl rfl rfl (by assumption) ?_ | refine ixm rfl rfl rfl rfl (by assumption) ?_ | refine lc rfl rfl (St.obj_set _ _ _) rfl rfl ?_ | refine lc rfl rfl (St.obj_set _ _ _) (by assumption) rfl ?_ | refine lc rfl rfl (by assumption) rfl rfl ?_ | refine lc rfl rfl (by assumption) (by assumption) rfl ?_ | refine inc rfl rfl rfl (by omega) ?_ | refine bs1 rfl rfl rfl rfl rfl rfl ?_ | refine bxe rfl rfl rfl rfl ?_ | refine eqn rfl rfl ?_ | refine eqb rfl rfl rfl ?_ | refine neb rfl rfl rfl ?_)
        repeat (first | refine nl ?_ | refine AWP.seq ?_ | refine AWP.skip ?_ | refine AWP.block ?_)
        refine AWP.nilTok 10 47 6 rfl fun tk0 htk0 => ?_
        repeat (first | refine nl ?_ | refine AWP.seq ?_ | refine rg ?_ | refine AWP.skip ?_ | refine AWP.block ?_ | refine sm rfl ?_ | refine uw rfl ?_ | refine fa rfl rfl ?_ | refine leW rfl rfl rfl rfl rfl ?_ | refine leW rfl rfl rfl (by assumption) rfl ?_ | refine lcW rfl rfl rfl (St.obj_set _ _ _) rfl rfl ?_ | refine le rfl rfl rfl rfl ?_ | refine le rfl rfl (by assumption) rfl ?_ | refine lnv rfl rfl ?_ | refine lnm rfl rfl ?_ | refine ix rfl rfl rfl rfl (by assumption) ?_ | refine ixm rfl rfl rfl rfl (by assumption) ?_ | refine lc rfl rfl (St.obj_set _ _ _) rfl rfl ?_ | refine lc rfl rfl (St.obj_set _ _ _) (by assumption) rfl ?_ | refine lc rfl rfl (by assumption) rfl rfl ?_ | refine lc rfl rfl (by assumption) (by assumption) rfl ?_ | refine inc rfl rfl rfl (by omega) ?_ | refine bs1 rfl rfl rfl rfl rfl rfl ?_ | refine bxe rfl rfl rfl rfl ?_ | refine eqn rfl rfl ?_ | refine eqb rfl rfl rfl ?_ | refine neb rfl rfl rfl ?_)
        refine AWP.loop (α := Nat × Nat × List Site × Nat)
          (fun x => [(12, .int .i64 x.1), (11, .int .i64 x.2.1), (10, .view 6 (x.2.2.1.map siteRow) (.own x.2.2.2 47)), (9, .view 1 ((inn ps t).map brow) .shared), (8, .int .i64 ps.length), (2, .int .i64 t), (3, .eptr 5 [dbgCells ps] 0 0)])
          (fun x => st.addTok x.2.2.2) (fun x => x.1 ≤ ps.length + 1 ∧ x.2.1 < ps.length ∧ route ps f0 t = follow ps t (ps.length + 1 - x.1) x.2.1 x.2.2.1 ∧ x.2.2.1.length = x.1 ∧ st.tok x.2.2.2 = false)
          (fun x => ps.length + 1 - x.1) (0, f0, [], tk0) ⟨Nat.zero_le _, hf0, hroute, rfl, htk0⟩
          (TLe.cons' rfl (TLe.cons' rfl (TLe.cons' rfl (TLe.cons' rfl (TLe.consE rfl (by rw [← hpl]) (tl2 rfl rfl)))))) (.refl _) ?_
        rintro ⟨k, f, out, tk⟩ ⟨hk, hf, hfo, hol, htk⟩
        repeat (first | refine nl ?_ | refine AWP.seq ?_ | refine rg ?_ | refine AWP.skip ?_ | refine AWP.block ?_ | refine sm rfl ?_ | refine uw rfl ?_ | refine fa rfl rfl ?_ | refine leW rfl rfl rfl rfl rfl ?_ | refine leW rfl rfl rfl (by assumption) rfl ?_ | refine lcW rfl rfl rfl (St.obj_set _ _ _) rfl rfl ?_ | refine le rfl rfl rfl rfl ?_ | refine le rfl rfl (by assumption) rfl ?_ | refine lnv rfl rfl ?_ | refine lnm rfl rfl ?_ | refine ix rfl rfl rfl rfl (by assumption) ?_ | refine ixm rfl rfl rfl rfl (by assumption) ?_ | refine lc rfl rfl (St.obj_set _ _ _) rfl rfl ?_ | refine lc rfl rfl (St.obj_set _ _ _) (by assumption) rfl ?_ | refine lc rfl rfl (by assumption) rfl rfl ?_ | refine lc rfl rfl (by assumption) (by assumption) rfl ?_ | refine inc rfl rfl rfl (by omega) ?_ | refine bs1 rfl rfl rfl rfl rfl rfl ?_ | refine bxe rfl rfl rfl rfl ?_ | refine eqn rfl rfl ?_ | refine eqb rfl rfl rfl ?_ | refine neb rfl rfl rfl ?_)
        refine AWP.cond_dec rfl (fun h => AWP.skip ?_) (fun h => AWP.exit (blk_hit ?_))
        · have hk' : k ≤ ps.length := by simpa using h
          refine AWP.weaken (tl7 (i0 := 12) (i1 := 11) (i2 := 10) (i3 := 9) (i4 := 8) (i5 := 2) (i6 := 3) rfl rfl rfl rfl rfl rfl rfl) (.refl _) ?_
          repeat (first | refine nl ?_ | refine AWP.seq ?_ | refine AWP.skip ?_ | refine AWP.block ?_)
          refine rg ?_
          repeat (first | refine sm rfl ?_ | refine uw rfl ?_ | refine fa rfl rfl ?_ | refine leW rfl rfl rfl rfl rfl ?_ | refine leW rfl rfl rfl (by assumption) rfl ?_ | refine lcW rfl rfl rfl (St.obj_set _ _ _) rfl rfl ?_ | refine le rfl rfl rfl rfl ?_ | refine le rfl rfl (by assumption) rfl ?_ | refine lnv rfl rfl ?_ | refine lnm rfl rfl ?_ | refine ix rfl rfl rfl rfl (by assumption) ?_ | refine ixm rfl rfl rfl rfl (by assumption) ?_ | refine lc rfl rfl (St.obj_set _ _ _) rfl rfl ?_ | refine lc rfl rfl (St.obj_set _ _ _) (by assumption) rfl ?_ | refine lc rfl rfl (by assumption) rfl rfl ?_ | refine lc rfl rfl (by assumption) (by assumption) rfl ?_ | refine inc rfl rfl rfl (by omega) ?_ | refine bs1 rfl rfl rfl rfl rfl rfl ?_ | refine bxe rfl rfl rfl rfl ?_ | refine eqn rfl rfl ?_ | refine eqb rfl rfl rfl ?_ | refine neb rfl rfl rfl ?_)
          refine nl (AWP.nilTok 13 47 6 rfl fun tk1 htk1 => ?_)
          repeat (first | refine nl ?_ | refine AWP.seq ?_ | refine AWP.skip ?_ | refine AWP.block ?_)
          refine rg ?_
          repeat (first | refine sm rfl ?_ | refine uw rfl ?_ | refine fa rfl rfl ?_ | refine leW rfl rfl rfl rfl rfl ?_ | refine leW rfl rfl rfl (by assumption) rfl ?_ | refine lcW rfl rfl rfl (St.obj_set _ _ _) rfl rfl ?_ | refine le rfl rfl rfl rfl ?_ | refine le rfl rfl (by assumption) rfl ?_ | refine lnv rfl rfl ?_ | refine lnm rfl rfl ?_ | refine ix rfl rfl rfl rfl (by assumption) ?_ | refine ixm rfl rfl rfl rfl (by assumption) ?_ | refine lc rfl rfl (St.obj_set _ _ _) rfl rfl ?_ | refine lc rfl rfl (St.obj_set _ _ _) (by assumption) rfl ?_ | refine lc rfl rfl (by assumption) rfl rfl ?_ | refine lc rfl rfl (by assumption) (by assumption) rfl ?_ | refine inc rfl rfl rfl (by omega) ?_ | refine bs1 rfl rfl rfl rfl rfl rfl ?_ | refine bxe rfl rfl rfl rfl ?_ | refine eqn rfl rfl ?_ | refine eqb rfl rfl rfl ?_ | refine neb rfl rfl rfl ?_)
          refine cle rfl rfl (tails_ok ps hs f ps[f] (List.getElem?_eq_getElem hf) _) ?_
          have htl : ps[f].filter (isTail ps.length) = tls ps f := by simp [tls, hf]
          have hsize : (tls ps f).length ≤ 1000 := by
            rw [← htl]
            exact Nat.le_trans (List.length_filter_le _ _) (hs.each _ (List.getElem_mem hf))
          rw [htl]
          repeat (first | refine nl ?_ | refine AWP.seq ?_ | refine rg ?_ | refine AWP.skip ?_ | refine AWP.block ?_ | refine sm rfl ?_ | refine uw rfl ?_ | refine fa rfl rfl ?_ | refine leW rfl rfl rfl rfl rfl ?_ | refine leW rfl rfl rfl (by assumption) rfl ?_ | refine lcW rfl rfl rfl (St.obj_set _ _ _) rfl rfl ?_ | refine le rfl rfl rfl rfl ?_ | refine le rfl rfl (by assumption) rfl ?_ | refine lnv rfl rfl ?_ | refine lnm rfl rfl ?_ | refine ix rfl rfl rfl rfl (by assumption) ?_ | refine ixm rfl rfl rfl rfl (by assumption) ?_ | refine lc rfl rfl (St.obj_set _ _ _) rfl rfl ?_ | refine lc rfl rfl (St.obj_set _ _ _) (by assumption) rfl ?_ | refine lc rfl rfl (by assumption) rfl rfl ?_ | refine lc rfl rfl (by assumption) (by assumption) rfl ?_ | refine inc rfl rfl rfl (by omega) ?_ | refine bs1 rfl rfl rfl rfl rfl rfl ?_ | refine bxe rfl rfl rfl rfl ?_ | refine eqn rfl rfl ?_ | refine eqb rfl rfl rfl ?_ | refine neb rfl rfl rfl ?_)
          refine AWP.loop (α := Nat × Nat)
            (fun x => [(15, .int .i64 x.1), (13, .view 6 ((((tls ps f).take x.1).filter fun s => lv ps t ps.length s.2.1.toNat).map siteRow) (.own x.2 47)), (14, .view 6 ((tls ps f).map siteRow) .shared),
              (12, .int .i64 k), (11, .int .i64 f), (10, .view 6 (out.map siteRow) (.own tk 47)), (9, .view 1 ((inn ps t).map brow) .shared), (8, .int .i64 ps.length), (2, .int .i64 t), (3, .eptr 5 [dbgCells ps] 0 0)])
            (fun x => (st.addTok tk).addTok x.2) (fun x => x.1 ≤ (tls ps f).length ∧ (st.addTok tk).tok x.2 = false)
            (fun x => (tls ps f).length - x.1) (0, tk1) ⟨Nat.zero_le _, htk1⟩
            (tl10 rfl rfl rfl rfl rfl rfl rfl rfl rfl rfl) (.refl _) ?_
          rintro ⟨i, tk2⟩ ⟨hi, htk2⟩
          repeat (first | refine nl ?_ | refine AWP.seq ?_ | refine rg ?_ | refine AWP.skip ?_ | refine AWP.block ?_ | refine sm rfl ?_ | refine uw rfl ?_ | refine fa rfl rfl ?_ | refine leW rfl rfl rfl rfl rfl ?_ | refine leW rfl rfl rfl (by assumption) rfl ?_ | refine lcW rfl rfl rfl (St.obj_set _ _ _) rfl rfl ?_ | refine le rfl rfl rfl rfl ?_ | refine le rfl rfl (by assumption) rfl ?_ | refine lnv rfl rfl ?_ | refine lnm rfl rfl ?_ | refine ix rfl rfl rfl rfl (by assumption) ?_ | refine ixm rfl rfl rfl rfl (by assumption) ?_ | refine lc rfl rfl (St.obj_set _ _ _) rfl rfl ?_ | refine lc rfl rfl (St.obj_set _ _ _) (by assumption) rfl ?_ | refine lc rfl rfl (by assumption) rfl rfl ?_ | refine lc rfl rfl (by assumption) (by assumption) rfl ?_ | refine inc rfl rfl rfl (by omega) ?_ | refine bs1 rfl rfl rfl rfl rfl rfl ?_ | refine bxe rfl rfl rfl rfl ?_ | refine eqn rfl rfl ?_ | refine eqb rfl rfl rfl ?_ | refine neb rfl rfl rfl ?_)
          refine AWP.cond_dec rfl (fun h => AWP.skip ?_) (fun h => AWP.exit (blk_hit ?_))
          · have hi' : i < (tls ps f).length := by simpa using h
            obtain ⟨_, hcm, hclt⟩ := tls_lt (List.getElem_mem hi')
            have hsl : i < ((tls ps f).map siteRow).length := by simpa using hi'
            have hsite : ((tls ps f).map siteRow)[i]? = some (siteRow (tls ps f)[i]) := by simp [hi']
            have hcl : ((tls ps f)[i]).2.1.toNat < ((inn ps t).map brow).length := by omega
            have hcr : ((inn ps t).map brow)[((tls ps f)[i]).2.1.toNat]? = some (brow (lv ps t ps.length ((tls ps f)[i]).2.1.toNat)) := by rw [List.getElem?_map, inn_get hclt]; rfl
            refine AWP.weaken (tl10 (i0 := 15) (i1 := 13) (i2 := 14) (i3 := 12) (i4 := 11) (i5 := 10) (i6 := 9) (i7 := 8) (i8 := 2) (i9 := 3) rfl rfl rfl rfl rfl rfl rfl rfl rfl rfl) (.refl _) ?_
            repeat (first | refine nl ?_ | refine AWP.seq ?_ | refine rg ?_ | refine AWP.skip ?_ | refine AWP.block ?_ | refine sm rfl ?_ | refine uw rfl ?_ | refine fa rfl rfl ?_ | refine leW rfl rfl rfl rfl rfl ?_ | refine leW rfl rfl rfl (by assumption) rfl ?_ | refine lcW rfl rfl rfl (St.obj_set _ _ _) rfl rfl ?_ | refine le rfl rfl rfl rfl ?_ | refine le rfl rfl (by assumption) rfl ?_ | refine lnv rfl rfl ?_ | refine lnm rfl rfl ?_ | refine ix rfl rfl rfl rfl (by assumption) ?_ | refine ixm rfl rfl rfl rfl (by assumption) ?_ | refine lc rfl rfl (St.obj_set _ _ _) rfl rfl ?_ | refine lc rfl rfl (St.obj_set _ _ _) (by assumption) rfl ?_ | refine lc rfl rfl (by assumption) rfl rfl ?_ | refine lc rfl rfl (by assumption) (by assumption) rfl ?_ | refine inc rfl rfl rfl (by omega) ?_ | refine bs1 rfl rfl rfl rfl rfl rfl ?_ | refine bxe rfl rfl rfl rfl ?_ | refine eqn rfl rfl ?_ | refine eqb rfl rfl rfl ?_ | refine neb rfl rfl rfl ?_)
            refine ix rfl rfl rfl hcm hcl ?_
            repeat (first | refine nl ?_ | refine AWP.seq ?_ | refine rg ?_ | refine AWP.skip ?_ | refine AWP.block ?_ | refine sm rfl ?_ | refine uw rfl ?_ | refine fa rfl rfl ?_ | refine leW rfl rfl rfl rfl rfl ?_ | refine leW rfl rfl rfl (by assumption) rfl ?_ | refine lcW rfl rfl rfl (St.obj_set _ _ _) rfl rfl ?_ | refine le rfl rfl rfl rfl ?_ | refine le rfl rfl (by assumption) rfl ?_ | refine lnv rfl rfl ?_ | refine lnm rfl rfl ?_ | refine ix rfl rfl rfl rfl (by assumption) ?_ | refine ixm rfl rfl rfl rfl (by assumption) ?_ | refine lc rfl rfl (St.obj_set _ _ _) rfl rfl ?_ | refine lc rfl rfl (St.obj_set _ _ _) (by assumption) rfl ?_ | refine lc rfl rfl (by assumption) rfl rfl ?_ | refine lc rfl rfl (by assumption) (by assumption) rfl ?_ | refine inc rfl rfl rfl (by omega) ?_ | refine bs1 rfl rfl rfl rfl rfl rfl ?_ | refine bxe rfl rfl rfl rfl ?_ | refine eqn rfl rfl ?_ | refine eqb rfl rfl rfl ?_ | refine neb rfl rfl rfl ?_)
            refine AWP.cond_bool rfl (fun hb => rg ?_) (fun hb => AWP.skip ?_)
            · repeat (first | refine sm rfl ?_ | refine uw rfl ?_ | refine fa rfl rfl ?_ | refine leW rfl rfl rfl rfl rfl ?_ | refine leW rfl rfl rfl (by assumption) rfl ?_ | refine lcW rfl rfl rfl (St.obj_set _ _ _) rfl rfl ?_ | refine le rfl rfl rfl rfl ?_ | refine le rfl rfl (by assumption) rfl ?_ | refine lnv rfl rfl ?_ | refine lnm rfl rfl ?_ | refine ix rfl rfl rfl rfl (by assumption) ?_ | refine ixm rfl rfl rfl rfl (by assumption) ?_ | refine lc rfl rfl (St.obj_set _ _ _) rfl rfl ?_ | refine lc rfl rfl (St.obj_set _ _ _) (by assumption) rfl ?_ | refine lc rfl rfl (by assumption) rfl rfl ?_ | refine lc rfl rfl (by assumption) (by assumption) rfl ?_ | refine inc rfl rfl rfl (by omega) ?_ | refine bs1 rfl rfl rfl rfl rfl rfl ?_ | refine bxe rfl rfl rfl rfl ?_ | refine eqn rfl rfl ?_ | refine eqb rfl rfl rfl ?_ | refine neb rfl rfl rfl ?_)
              have hlen : (((((tls ps f).take i).filter fun s => lv ps t ps.length s.2.1.toNat).map siteRow)).length ≤ 1000 := by
                have := List.length_filter_le (fun s : Site => lv ps t ps.length s.2.1.toNat) ((tls ps f).take i)
                have := List.length_take_le i (tls ps f)
                simp only [List.length_map]
                omega
              refine ap rfl rfl rfl (St.tok_addTok _ _) rfl (by simp only [List.length_cons, List.length_nil]; omega) (by simp only [List.length_cons, List.length_nil, maxLen]; omega) fun tk' htk' => ?_
              repeat (first | refine nl ?_ | refine AWP.seq ?_ | refine rg ?_ | refine AWP.skip ?_ | refine AWP.block ?_ | refine sm rfl ?_ | refine uw rfl ?_ | refine fa rfl rfl ?_ | refine leW rfl rfl rfl rfl rfl ?_ | refine leW rfl rfl rfl (by assumption) rfl ?_ | refine lcW rfl rfl rfl (St.obj_set _ _ _) rfl rfl ?_ | refine le rfl rfl rfl rfl ?_ | refine le rfl rfl (by assumption) rfl ?_ | refine lnv rfl rfl ?_ | refine lnm rfl rfl ?_ | refine ix rfl rfl rfl rfl (by assumption) ?_ | refine ixm rfl rfl rfl rfl (by assumption) ?_ | refine lc rfl rfl (St.obj_set _ _ _) rfl rfl ?_ | refine lc rfl rfl (St.obj_set _ _ _) (by assumption) rfl ?_ | refine lc rfl rfl (by assumption) rfl rfl ?_ | refine lc rfl rfl (by assumption) (by assumption) rfl ?_ | refine inc rfl rfl rfl (by omega) ?_ | refine bs1 rfl rfl rfl rfl rfl rfl ?_ | refine bxe rfl rfl rfl rfl ?_ | refine eqn rfl rfl ?_ | refine eqb rfl rfl rfl ?_ | refine neb rfl rfl rfl ?_)
              refine ⟨(i + 1, tk'), ⟨hi', St.tok_of_add htk'⟩, by simp only; omega, ?_, StLe.reTok htk2 tk'⟩
              refine TLe.cons' rfl (TLe.consE rfl ?_ (tl8 rfl rfl rfl rfl rfl rfl rfl rfl))
              simp only [List.take_add_one, List.getElem?_eq_getElem hi', Option.toList_some, List.filter_append, List.filter_cons, hb, if_true, List.filter_nil, List.map_append, List.map_cons, List.map_nil, AV.cells]
            · repeat (first | refine nl ?_ | refine AWP.seq ?_ | refine rg ?_ | refine AWP.skip ?_ | refine AWP.block ?_ | refine sm rfl ?_ | refine uw rfl ?_ | refine fa rfl rfl ?_ | refine leW rfl rfl rfl rfl rfl ?_ | refine leW rfl rfl rfl (by assumption) rfl ?_ | refine lcW rfl rfl rfl (St.obj_set _ _ _) rfl rfl ?_ | refine le rfl rfl rfl rfl ?_ | refine le rfl rfl (by assumption) rfl ?_ | refine lnv rfl rfl ?_ | refine lnm rfl rfl ?_ | refine ix rfl rfl rfl rfl (by assumption) ?_ | refine ixm rfl rfl rfl rfl (by assumption) ?_ | refine lc rfl rfl (St.obj_set _ _ _) rfl rfl ?_ | refine lc rfl rfl (St.obj_set _ _ _) (by assumption) rfl ?_ | refine lc rfl rfl (by assumption) rfl rfl ?_ | refine lc rfl rfl (by assumption) (by assumption) rfl ?_ | refine inc rfl rfl rfl (by omega) ?_ | refine bs1 rfl rfl rfl rfl rfl rfl ?_ | refine bxe rfl rfl rfl rfl ?_ | refine eqn rfl rfl ?_ | refine eqb rfl rfl rfl ?_ | refine neb rfl rfl rfl ?_)
              refine ⟨(i + 1, tk2), ⟨hi', htk2⟩, by simp only; omega, ?_, .refl _⟩
              refine TLe.cons' rfl (TLe.consE rfl ?_ (tl8 rfl rfl rfl rfl rfl rfl rfl rfl))
              simp only [List.take_add_one, List.getElem?_eq_getElem hi', Option.toList_some, List.filter_append, List.filter_cons, hb, List.filter_nil, Bool.false_eq_true, if_false, List.append_nil]
          · have hi' : i = (tls ps f).length := by
              have : ¬ i < (tls ps f).length := by simpa using h
              simp only at hi
              omega
            subst hi'
            have hnx : ((tls ps f).take (tls ps f).length).filter (fun s => lv ps t ps.length s.2.1.toNat) = nxt ps t f := by rw [List.take_length]; rfl
            rw [hnx]
            have hnl : (nxt ps t f).length ≤ 1000 := Nat.le_trans (List.length_filter_le _ _) hsize
            have hfol : follow ps t (ps.length + 1 - k) f out = if f = t then (if nxt ps t f = [] then (out, 1) else ([], 2)) else match nxt ps t f with
                | [s] => follow ps t (ps.length - k) s.2.1.toNat (out ++ [s])
                | _ => ([], 2) := by
              rw [show ps.length + 1 - k = (ps.length - k) + 1 by omega]
              rfl
            rw [hfol] at hfo
            refine AWP.weaken (T' := [(13, .view 6 ((nxt ps t f).map siteRow) .shared), (12, .int .i64 k), (11, .int .i64 f), (10, .view 6 (out.map siteRow) (.own tk 47)), (9, .view 1 ((inn ps t).map brow) .shared), (8, .int .i64 ps.length), (2, .int .i64 t), (3, .eptr 5 [dbgCells ps] 0 0)])
              (TLe.cons rfl (.shared _ _ _) (tl7 rfl rfl rfl rfl rfl rfl rfl)) (StLe.addTok _ (.refl _)) ?_
            generalize hns : nxt ps t f = ns at hfo hnl
            have hnsl : (ns.map siteRow).length = ns.length := List.length_map ..
            refine AWP.seq (AWP.seq ?_)
            refine tstk 80 (.bool (decide (f = t ∧ ns = []))) (rg ?_) ?_
            · repeat (first | refine sm rfl ?_ | refine uw rfl ?_ | refine fa rfl rfl ?_ | refine leW rfl rfl rfl rfl rfl ?_ | refine leW rfl rfl rfl (by assumption) rfl ?_ | refine lcW rfl rfl rfl (St.obj_set _ _ _) rfl rfl ?_ | refine le rfl rfl rfl rfl ?_ | refine le rfl rfl (by assumption) rfl ?_ | refine lnv rfl rfl ?_ | refine lnm rfl rfl ?_ | refine ix rfl rfl rfl rfl (by assumption) ?_ | refine ixm rfl rfl rfl rfl (by assumption) ?_ | refine lc rfl rfl (St.obj_set _ _ _) rfl rfl ?_ | refine lc rfl rfl (St.obj_set _ _ _) (by assumption) rfl ?_ | refine lc rfl rfl (by assumption) rfl rfl ?_ | refine lc rfl rfl (by assumption) (by assumption) rfl ?_ | refine inc rfl rfl rfl (by omega) ?_ | refine bs1 rfl rfl rfl rfl rfl rfl ?_ | refine bxe rfl rfl rfl rfl ?_ | refine eqn rfl rfl ?_ | refine eqb rfl rfl rfl ?_ | refine neb rfl rfl rfl ?_)
              refine AOps.split 76 rfl (fun h1 => ?_) (fun h1 => ?_)
              · repeat (first | refine sm rfl ?_ | refine uw rfl ?_ | refine fa rfl rfl ?_ | refine leW rfl rfl rfl rfl rfl ?_ | refine leW rfl rfl rfl (by assumption) rfl ?_ | refine lcW rfl rfl rfl (St.obj_set _ _ _) rfl rfl ?_ | refine le rfl rfl rfl rfl ?_ | refine le rfl rfl (by assumption) rfl ?_ | refine lnv rfl rfl ?_ | refine lnm rfl rfl ?_ | refine ix rfl rfl rfl rfl (by assumption) ?_ | refine ixm rfl rfl rfl rfl (by assumption) ?_ | refine lc rfl rfl (St.obj_set _ _ _) rfl rfl ?_ | refine lc rfl rfl (St.obj_set _ _ _) (by assumption) rfl ?_ | refine lc rfl rfl (by assumption) rfl rfl ?_ | refine lc rfl rfl (by assumption) (by assumption) rfl ?_ | refine inc rfl rfl rfl (by omega) ?_ | refine bs1 rfl rfl rfl rfl rfl rfl ?_ | refine bxe rfl rfl rfl rfl ?_ | refine eqn rfl rfl ?_ | refine eqb rfl rfl rfl ?_ | refine neb rfl rfl rfl ?_)
                exact nl ⟨TLe.consE rfl (by simp [show f = t by omega]) (tl8 rfl rfl rfl rfl rfl rfl rfl rfl), .refl _⟩
              · repeat (first | refine sm rfl ?_ | refine uw rfl ?_ | refine fa rfl rfl ?_ | refine leW rfl rfl rfl rfl rfl ?_ | refine leW rfl rfl rfl (by assumption) rfl ?_ | refine lcW rfl rfl rfl (St.obj_set _ _ _) rfl rfl ?_ | refine le rfl rfl rfl rfl ?_ | refine le rfl rfl (by assumption) rfl ?_ | refine lnv rfl rfl ?_ | refine lnm rfl rfl ?_ | refine ix rfl rfl rfl rfl (by assumption) ?_ | refine ixm rfl rfl rfl rfl (by assumption) ?_ | refine lc rfl rfl (St.obj_set _ _ _) rfl rfl ?_ | refine lc rfl rfl (St.obj_set _ _ _) (by assumption) rfl ?_ | refine lc rfl rfl (by assumption) rfl rfl ?_ | refine lc rfl rfl (by assumption) (by assumption) rfl ?_ | refine inc rfl rfl rfl (by omega) ?_ | refine bs1 rfl rfl rfl rfl rfl rfl ?_ | refine bxe rfl rfl rfl rfl ?_ | refine eqn rfl rfl ?_ | refine eqb rfl rfl rfl ?_ | refine neb rfl rfl rfl ?_)
                exact nl ⟨TLe.consE rfl (by simp [show ¬ f = t by omega, absV, abs1]) (tl8 rfl rfl rfl rfl rfl rfl rfl rfl), .refl _⟩
            · refine AWP.cond_dec rfl (fun hc => ?_) (fun hc => ?_)
              · repeat (first | refine nl ?_ | refine AWP.seq ?_ | refine AWP.skip ?_ | refine AWP.block ?_)
                refine rg ?_
                repeat (first | refine sm rfl ?_ | refine uw rfl ?_ | refine fa rfl rfl ?_ | refine leW rfl rfl rfl rfl rfl ?_ | refine leW rfl rfl rfl (by assumption) rfl ?_ | refine lcW rfl rfl rfl (St.obj_set _ _ _) rfl rfl ?_ | refine le rfl rfl rfl rfl ?_ | refine le rfl rfl (by assumption) rfl ?_ | refine lnv rfl rfl ?_ | refine lnm rfl rfl ?_ | refine ix rfl rfl rfl rfl (by assumption) ?_ | refine ixm rfl rfl rfl rfl (by assumption) ?_ | refine lc rfl rfl (St.obj_set _ _ _) rfl rfl ?_ | refine lc rfl rfl (St.obj_set _ _ _) (by assumption) rfl ?_ | refine lc rfl rfl (by assumption) rfl rfl ?_ | refine lc rfl rfl (by assumption) (by assumption) rfl ?_ | refine inc rfl rfl rfl (by omega) ?_ | refine bs1 rfl rfl rfl rfl rfl rfl ?_ | refine bxe rfl rfl rfl rfl ?_ | refine eqn rfl rfl ?_ | refine eqb rfl rfl rfl ?_ | refine neb rfl rfl rfl ?_)
                repeat (first | refine nl ?_ | refine AWP.seq ?_ | refine AWP.skip ?_ | refine AWP.block ?_)
                refine AWP.ret (rets rfl (Le.pair (.shared _ _ _)) (StLe.addTok _ (.refl _)) ⟨?_, rfl⟩)
                rw [hfo, if_pos hc.1, if_pos hc.2]
                rfl
              · refine AWP.skip ?_
                refine AWP.weaken (tl8 (i0 := 13) (i1 := 12) (i2 := 11) (i3 := 10) (i4 := 9) (i5 := 8) (i6 := 2) (i7 := 3) rfl rfl rfl rfl rfl rfl rfl rfl) (.refl _) ?_
                refine AWP.seq (AWP.seq ?_)
                refine tstk 89 (.bool (decide (f = t ∨ ns.length ≠ 1))) (rg ?_) ?_
                · repeat (first | refine sm rfl ?_ | refine uw rfl ?_ | refine fa rfl rfl ?_ | refine leW rfl rfl rfl rfl rfl ?_ | refine leW rfl rfl rfl (by assumption) rfl ?_ | refine lcW rfl rfl rfl (St.obj_set _ _ _) rfl rfl ?_ | refine le rfl rfl rfl rfl ?_ | refine le rfl rfl (by assumption) rfl ?_ | refine lnv rfl rfl ?_ | refine lnm rfl rfl ?_ | refine ix rfl rfl rfl rfl (by assumption) ?_ | refine ixm rfl rfl rfl rfl (by assumption) ?_ | refine lc rfl rfl (St.obj_set _ _ _) rfl rfl ?_ | refine lc rfl rfl (St.obj_set _ _ _) (by assumption) rfl ?_ | refine lc rfl rfl (by assumption) rfl rfl ?_ | refine lc rfl rfl (by assumption) (by assumption) rfl ?_ | refine inc rfl rfl rfl (by omega) ?_ | refine bs1 rfl rfl rfl rfl rfl rfl ?_ | refine bxe rfl rfl rfl rfl ?_ | refine eqn rfl rfl ?_ | refine eqb rfl rfl rfl ?_ | refine neb rfl rfl rfl ?_)
                  refine AOps.split 85 rfl (fun h1 => ?_) (fun h1 => ?_)
                  · repeat (first | refine sm rfl ?_ | refine uw rfl ?_ | refine fa rfl rfl ?_ | refine leW rfl rfl rfl rfl rfl ?_ | refine leW rfl rfl rfl (by assumption) rfl ?_ | refine lcW rfl rfl rfl (St.obj_set _ _ _) rfl rfl ?_ | refine le rfl rfl rfl rfl ?_ | refine le rfl rfl (by assumption) rfl ?_ | refine lnv rfl rfl ?_ | refine lnm rfl rfl ?_ | refine ix rfl rfl rfl rfl (by assumption) ?_ | refine ixm rfl rfl rfl rfl (by assumption) ?_ | refine lc rfl rfl (St.obj_set _ _ _) rfl rfl ?_ | refine lc rfl rfl (St.obj_set _ _ _) (by assumption) rfl ?_ | refine lc rfl rfl (by assumption) rfl rfl ?_ | refine lc rfl rfl (by assumption) (by assumption) rfl ?_ | refine inc rfl rfl rfl (by omega) ?_ | refine bs1 rfl rfl rfl rfl rfl rfl ?_ | refine bxe rfl rfl rfl rfl ?_ | refine eqn rfl rfl ?_ | refine eqb rfl rfl rfl ?_ | refine neb rfl rfl rfl ?_)
                    exact nl ⟨TLe.consE rfl (by simp [show f = t by omega, absV, abs1]) (tl8 rfl rfl rfl rfl rfl rfl rfl rfl), .refl _⟩
                  · repeat (first | refine sm rfl ?_ | refine uw rfl ?_ | refine fa rfl rfl ?_ | refine leW rfl rfl rfl rfl rfl ?_ | refine leW rfl rfl rfl (by assumption) rfl ?_ | refine lcW rfl rfl rfl (St.obj_set _ _ _) rfl rfl ?_ | refine le rfl rfl rfl rfl ?_ | refine le rfl rfl (by assumption) rfl ?_ | refine lnv rfl rfl ?_ | refine lnm rfl rfl ?_ | refine ix rfl rfl rfl rfl (by assumption) ?_ | refine ixm rfl rfl rfl rfl (by assumption) ?_ | refine lc rfl rfl (St.obj_set _ _ _) rfl rfl ?_ | refine lc rfl rfl (St.obj_set _ _ _) (by assumption) rfl ?_ | refine lc rfl rfl (by assumption) rfl rfl ?_ | refine lc rfl rfl (by assumption) (by assumption) rfl ?_ | refine inc rfl rfl rfl (by omega) ?_ | refine bs1 rfl rfl rfl rfl rfl rfl ?_ | refine bxe rfl rfl rfl rfl ?_ | refine eqn rfl rfl ?_ | refine eqb rfl rfl rfl ?_ | refine neb rfl rfl rfl ?_)
                    exact nl ⟨TLe.consE rfl (by simp [show ¬ f = t by omega]; omega) (tl8 rfl rfl rfl rfl rfl rfl rfl rfl), .refl _⟩
                · refine AWP.cond_dec rfl (fun hd => ?_) (fun hd => ?_)
                  · repeat (first | refine nl ?_ | refine AWP.seq ?_ | refine AWP.skip ?_ | refine AWP.block ?_)
                    refine rg ?_
                    repeat (first | refine sm rfl ?_ | refine uw rfl ?_ | refine fa rfl rfl ?_ | refine leW rfl rfl rfl rfl rfl ?_ | refine leW rfl rfl rfl (by assumption) rfl ?_ | refine lcW rfl rfl rfl (St.obj_set _ _ _) rfl rfl ?_ | refine le rfl rfl rfl rfl ?_ | refine le rfl rfl (by assumption) rfl ?_ | refine lnv rfl rfl ?_ | refine lnm rfl rfl ?_ | refine ix rfl rfl rfl rfl (by assumption) ?_ | refine ixm rfl rfl rfl rfl (by assumption) ?_ | refine lc rfl rfl (St.obj_set _ _ _) rfl rfl ?_ | refine lc rfl rfl (St.obj_set _ _ _) (by assumption) rfl ?_ | refine lc rfl rfl (by assumption) rfl rfl ?_ | refine lc rfl rfl (by assumption) (by assumption) rfl ?_ | refine inc rfl rfl rfl (by omega) ?_ | refine bs1 rfl rfl rfl rfl rfl rfl ?_ | refine bxe rfl rfl rfl rfl ?_ | refine eqn rfl rfl ?_ | refine eqb rfl rfl rfl ?_ | refine neb rfl rfl rfl ?_)
                    repeat (first | refine nl ?_ | refine AWP.seq ?_ | refine AWP.skip ?_ | refine AWP.block ?_)
                    refine AWP.ret (rets rfl (Le.pair (.nilShared 0 6)) (StLe.addTok _ (.refl _)) ⟨?_, rfl⟩)
                    rw [hfo]
                    by_cases h1 : f = t
                    · rw [if_pos h1, if_neg (fun h2 => hc ⟨h1, h2⟩)]
                      rfl
                    · rw [if_neg h1]
                      have h2 : ns.length ≠ 1 := by
                        rcases hd with h | h
                        · exact absurd h h1
                        · exact h
                      match ns, h2 with
                      | [], _ => rfl
                      | [_], h => exact absurd rfl h
                      | _ :: _ :: _, _ => rfl
                  · have h1 : ¬ f = t := fun h => hd (.inl h)
                    have h2 : ns.length = 1 := Classical.byContradiction fun h => hd (.inr h)
                    obtain ⟨s, rfl⟩ : ∃ s, ns = [s] := by
                      match ns, h2 with
                      | [s], _ => exact ⟨s, rfl⟩
                    rw [if_neg h1] at hfo
                    obtain ⟨hsc, hslt, _⟩ := nxt_lt (t := t) (f := f) (s := s) (by rw [hns]; simp)
                    have hl0 : 0 < ([s].map siteRow).length := by simp
                    have hol' : out.length = k := hol
                    have hom : (out.map siteRow).length ≤ 1000 := by simp only [List.length_map]; omega
                    repeat (first | refine nl ?_ | refine AWP.seq ?_ | refine AWP.skip ?_ | refine AWP.block ?_)
                    refine rg ?_
                    repeat (first | refine sm rfl ?_ | refine uw rfl ?_ | refine fa rfl rfl ?_ | refine leW rfl rfl rfl rfl rfl ?_ | refine leW rfl rfl rfl (by assumption) rfl ?_ | refine lcW rfl rfl rfl (St.obj_set _ _ _) rfl rfl ?_ | refine le rfl rfl rfl rfl ?_ | refine le rfl rfl (by assumption) rfl ?_ | refine lnv rfl rfl ?_ | refine lnm rfl rfl ?_ | refine ix rfl rfl rfl rfl (by assumption) ?_ | refine ixm rfl rfl rfl rfl (by assumption) ?_ | refine lc rfl rfl (St.obj_set _ _ _) rfl rfl ?_ | refine lc rfl rfl (St.obj_set _ _ _) (by assumption) rfl ?_ | refine lc rfl rfl (by assumption) rfl rfl ?_ | refine lc rfl rfl (by assumption) (by assumption) rfl ?_ | refine inc rfl rfl rfl (by omega) ?_ | refine bs1 rfl rfl rfl rfl rfl rfl ?_ | refine bxe rfl rfl rfl rfl ?_ | refine eqn rfl rfl ?_ | refine eqb rfl rfl rfl ?_ | refine neb rfl rfl rfl ?_)
                    repeat (first | refine nl ?_ | refine AWP.seq ?_ | refine AWP.skip ?_ | refine AWP.block ?_)
                    refine ap rfl rfl rfl (St.tok_addTok _ _) rfl (by simp only [List.length_cons, List.length_nil]; omega) (by simp only [List.length_cons, List.length_nil, maxLen]; omega) fun tk' htk' => ?_
                    repeat (first | refine nl ?_ | refine AWP.seq ?_ | refine rg ?_ | refine AWP.skip ?_ | refine AWP.block ?_ | refine sm rfl ?_ | refine uw rfl ?_ | refine fa rfl rfl ?_ | refine leW rfl rfl rfl rfl rfl ?_ | refine leW rfl rfl rfl (by assumption) rfl ?_ | refine lcW rfl rfl rfl (St.obj_set _ _ _) rfl rfl ?_ | refine le rfl rfl rfl rfl ?_ | refine le rfl rfl (by assumption) rfl ?_ | refine lnv rfl rfl ?_ | refine lnm rfl rfl ?_ | refine ix rfl rfl rfl rfl (by assumption) ?_ | refine ixm rfl rfl rfl rfl (by assumption) ?_ | refine lc rfl rfl (St.obj_set _ _ _) rfl rfl ?_ | refine lc rfl rfl (St.obj_set _ _ _) (by assumption) rfl ?_ | refine lc rfl rfl (by assumption) rfl rfl ?_ | refine lc rfl rfl (by assumption) (by assumption) rfl ?_ | refine inc rfl rfl rfl (by omega) ?_ | refine bs1 rfl rfl rfl rfl rfl rfl ?_ | refine bxe rfl rfl rfl rfl ?_ | refine eqn rfl rfl ?_ | refine eqb rfl rfl rfl ?_ | refine neb rfl rfl rfl ?_)
                    refine ⟨(k + 1, s.2.1.toNat, out ++ [s], tk'), ⟨by simp only; omega, hslt, ?_, by simp [hol'], St.tok_of_add htk'⟩, by simp only; omega, ?_, StLe.reTok htk tk'⟩
                    · rw [hfo, show ps.length + 1 - (k + 1) = ps.length - k by omega]
                    · refine TLe.cons' rfl (TLe.consE rfl ?_ (TLe.consE rfl ?_ (tl4 rfl rfl rfl rfl)))
                      · exact congrArg _ hsc
                      · simp only [List.map_append, List.map_cons, List.map_nil, AV.cells]
        · have hk' : k = ps.length + 1 := by
            have : ¬ (k : Int) ≤ ps.length := h
            simp only at hk
            omega
          subst hk'
          repeat (first | refine nl ?_ | refine AWP.seq ?_ | refine rg ?_ | refine AWP.skip ?_ | refine AWP.block ?_ | refine sm rfl ?_ | refine uw rfl ?_ | refine fa rfl rfl ?_ | refine leW rfl rfl rfl rfl rfl ?_ | refine leW rfl rfl rfl (by assumption) rfl ?_ | refine lcW rfl rfl rfl (St.obj_set _ _ _) rfl rfl ?_ | refine le rfl rfl rfl rfl ?_ | refine le rfl rfl (by assumption) rfl ?_ | refine lnv rfl rfl ?_ | refine lnm rfl rfl ?_ | refine ix rfl rfl rfl rfl (by assumption) ?_ | refine ixm rfl rfl rfl rfl (by assumption) ?_ | refine lc rfl rfl (St.obj_set _ _ _) rfl rfl ?_ | refine lc rfl rfl (St.obj_set _ _ _) (by assumption) rfl ?_ | refine lc rfl rfl (by assumption) rfl rfl ?_ | refine lc rfl rfl (by assumption) (by assumption) rfl ?_ | refine inc rfl rfl rfl (by omega) ?_ | refine bs1 rfl rfl rfl rfl rfl rfl ?_ | refine bxe rfl rfl rfl rfl ?_ | refine eqn rfl rfl ?_ | refine eqb rfl rfl rfl ?_ | refine neb rfl rfl rfl ?_)
          refine AWP.ret (rets rfl (Le.pair (.nilShared 0 6)) (StLe.addTok _ (.refl _)) ⟨?_, rfl⟩)
          rw [hfo, Nat.sub_self]
          rfl
end Go.Proofs
