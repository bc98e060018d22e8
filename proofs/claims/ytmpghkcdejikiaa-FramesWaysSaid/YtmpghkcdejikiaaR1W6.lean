/- The walk of Route. No conditions: lemmas only. -/
import Derived.Test.YtmpghkcdejikiaaR1W5
import Derived.Test.YtmpghkcdejikiaaAM17
namespace Go.Proofs
open Go.AM

def good (ps : List (List Site)) (t : Nat) (s : Site) : Bool := isTail ps.length s && lv ps t ps.length s.2.1.toNat

theorem nxt_eq (ps : List (List Site)) (t f : Nat) (hf : f < ps.length) : ps[f].filter (good ps t) = nxt ps t f := by
  simp only [nxt, tls, List.getElem?_eq_getElem hf, Option.getD_some, List.filter_filter]
  refine List.filter_congr fun s _ => ?_
  rw [good, Bool.and_comm]

/-- What Route hands back: a slice of its own, or nil. -/
def RouteO (st : St) (r : List Site × Int) (v : AV) (st' : St) : Prop :=
  (∃ tk, st.tok tk = false ∧ v = .tuple [.view 6 (r.1.map siteRow) (.own tk 47), .int .i64 r.2] ∧ st' = st.addTok tk) ∨ (r.1 = [] ∧ v = .tuple [nv, .int .i64 r.2] ∧ st' = st)

set_option maxHeartbeats 4000000 in
theorem route_own (ps : List (List Site)) (hs : Small ps) (a b : Int) (st : St) :
    ACalls Try.prog 6 [dbg ps, .int .i64 a, .int .i64 b] st (fun v st' => RouteO st (route ps a b) v st') (fun _ _ => False) := by
  have hfew := hs.few
  have hpl : (ps.map procRow).length = ps.length := List.length_map ..
  refine ACalls.ofBody Try.func6 rfl Try.ntmps6 rfl ?_
  repeat (first | refine nl ?_ | refine AWP.seq ?_ | refine AWP.skip ?_ | refine AWP.block ?_)
  refine rg ?_
  repeat (first | refine sm rfl ?_ | refine uw rfl ?_ | refine fa rfl rfl ?_ | refine leW rfl rfl rfl rfl rfl ?_ | refine leW rfl rfl rfl (by assumption) rfl ?_ | refine lcW rfl rfl rfl (St.obj_set _ _ _) rfl rfl ?_ | refine le rfl rfl rfl rfl ?_ | refine le rfl rfl (by assumption) rfl ?_ | refine lnv rfl rfl ?_ | refine lnm rfl rfl ?_ | refine ix rfl rfl rfl rfl (by assumption) ?_ | refine ixm rfl rfl rfl rfl (by assumption) ?_ | refine lc rfl rfl (St.obj_set _ _ _) rfl rfl ?_ | refine lc rfl rfl (St.obj_set _ _ _) (by assumption) rfl ?_ | refine lc rfl rfl (by assumption) rfl rfl ?_ | refine lc rfl rfl (by assumption) (by assumption) rfl ?_ | refine inc rfl rfl rfl (by omega) ?_ | refine bs1 rfl rfl rfl rfl rfl rfl ?_ | refine bxe rfl rfl rfl rfl ?_ | refine eqn rfl rfl ?_ | refine eqb rfl rfl rfl ?_ | refine neb rfl rfl rfl ?_)
  repeat (first | refine nl ?_ | refine AWP.seq ?_ | refine AWP.skip ?_ | refine AWP.block ?_)
  refine AWP.weaken (tl5 (i0 := 1) (i1 := 2) (i2 := 3) (i3 := 6) (i4 := 7) rfl rfl rfl rfl rfl) (.refl _) ?_
  refine tstk 34 (.bool (bad ps a b)) (rg ?_) ?_
  · repeat (first | refine sm rfl ?_ | refine uw rfl ?_ | refine fa rfl rfl ?_ | refine leW rfl rfl rfl rfl rfl ?_ | refine leW rfl rfl rfl (by assumption) rfl ?_ | refine lcW rfl rfl rfl (St.obj_set _ _ _) rfl rfl ?_ | refine le rfl rfl rfl rfl ?_ | refine le rfl rfl (by assumption) rfl ?_ | refine lnv rfl rfl ?_ | refine lnm rfl rfl ?_ | refine ix rfl rfl rfl rfl (by assumption) ?_ | refine ixm rfl rfl rfl rfl (by assumption) ?_ | refine lc rfl rfl (St.obj_set _ _ _) rfl rfl ?_ | refine lc rfl rfl (St.obj_set _ _ _) (by assumption) rfl ?_ | refine lc rfl rfl (by assumption) rfl rfl ?_ | refine lc rfl rfl (by assumption) (by assumption) rfl ?_ | refine inc rfl rfl rfl (by omega) ?_ | refine bs1 rfl rfl rfl rfl rfl rfl ?_ | refine bxe rfl rfl rfl rfl ?_ | refine eqn rfl rfl ?_ | refine eqb rfl rfl rfl ?_ | refine neb rfl rfl rfl ?_)
    refine AOps.split 17 rfl (fun h1 => ?_) (fun h1 => ?_)
    · repeat (first | refine sm rfl ?_ | refine uw rfl ?_ | refine fa rfl rfl ?_ | refine leW rfl rfl rfl rfl rfl ?_ | refine leW rfl rfl rfl (by assumption) rfl ?_ | refine lcW rfl rfl rfl (St.obj_set _ _ _) rfl rfl ?_ | refine le rfl rfl rfl rfl ?_ | refine le rfl rfl (by assumption) rfl ?_ | refine lnv rfl rfl ?_ | refine lnm rfl rfl ?_ | refine ix rfl rfl rfl rfl (by assumption) ?_ | refine ixm rfl rfl rfl rfl (by assumption) ?_ | refine lc rfl rfl (St.obj_set _ _ _) rfl rfl ?_ | refine lc rfl rfl (St.obj_set _ _ _) (by assumption) rfl ?_ | refine lc rfl rfl (by assumption) rfl rfl ?_ | refine lc rfl rfl (by assumption) (by assumption) rfl ?_ | refine inc rfl rfl rfl (by omega) ?_ | refine bs1 rfl rfl rfl rfl rfl rfl ?_ | refine bxe rfl rfl rfl rfl ?_ | refine eqn rfl rfl ?_ | refine eqb rfl rfl rfl ?_ | refine neb rfl rfl rfl ?_)
      exact nl ⟨TLe.consE rfl (by simp [bad, h1, absV, abs1]) (tl5 rfl rfl rfl rfl rfl), .refl _⟩
    · repeat (first | refine sm rfl ?_ | refine uw rfl ?_ | refine fa rfl rfl ?_ | refine leW rfl rfl rfl rfl rfl ?_ | refine leW rfl rfl rfl (by assumption) rfl ?_ | refine lcW rfl rfl rfl (St.obj_set _ _ _) rfl rfl ?_ | refine le rfl rfl rfl rfl ?_ | refine le rfl rfl (by assumption) rfl ?_ | refine lnv rfl rfl ?_ | refine lnm rfl rfl ?_ | refine ix rfl rfl rfl rfl (by assumption) ?_ | refine ixm rfl rfl rfl rfl (by assumption) ?_ | refine lc rfl rfl (St.obj_set _ _ _) rfl rfl ?_ | refine lc rfl rfl (St.obj_set _ _ _) (by assumption) rfl ?_ | refine lc rfl rfl (by assumption) rfl rfl ?_ | refine lc rfl rfl (by assumption) (by assumption) rfl ?_ | refine inc rfl rfl rfl (by omega) ?_ | refine bs1 rfl rfl rfl rfl rfl rfl ?_ | refine bxe rfl rfl rfl rfl ?_ | refine eqn rfl rfl ?_ | refine eqb rfl rfl rfl ?_ | refine neb rfl rfl rfl ?_)
      refine AOps.split 24 rfl (fun h2 => ?_) (fun h2 => ?_)
      · repeat (first | refine sm rfl ?_ | refine uw rfl ?_ | refine fa rfl rfl ?_ | refine leW rfl rfl rfl rfl rfl ?_ | refine leW rfl rfl rfl (by assumption) rfl ?_ | refine lcW rfl rfl rfl (St.obj_set _ _ _) rfl rfl ?_ | refine le rfl rfl rfl rfl ?_ | refine le rfl rfl (by assumption) rfl ?_ | refine lnv rfl rfl ?_ | refine lnm rfl rfl ?_ | refine ix rfl rfl rfl rfl (by assumption) ?_ | refine ixm rfl rfl rfl rfl (by assumption) ?_ | refine lc rfl rfl (St.obj_set _ _ _) rfl rfl ?_ | refine lc rfl rfl (St.obj_set _ _ _) (by assumption) rfl ?_ | refine lc rfl rfl (by assumption) rfl rfl ?_ | refine lc rfl rfl (by assumption) (by assumption) rfl ?_ | refine inc rfl rfl rfl (by omega) ?_ | refine bs1 rfl rfl rfl rfl rfl rfl ?_ | refine bxe rfl rfl rfl rfl ?_ | refine eqn rfl rfl ?_ | refine eqb rfl rfl rfl ?_ | refine neb rfl rfl rfl ?_)
        exact nl ⟨TLe.consE rfl (by rw [hpl] at h2; simp [bad, h2, absV, abs1]) (tl5 rfl rfl rfl rfl rfl), .refl _⟩
      · repeat (first | refine sm rfl ?_ | refine uw rfl ?_ | refine fa rfl rfl ?_ | refine leW rfl rfl rfl rfl rfl ?_ | refine leW rfl rfl rfl (by assumption) rfl ?_ | refine lcW rfl rfl rfl (St.obj_set _ _ _) rfl rfl ?_ | refine le rfl rfl rfl rfl ?_ | refine le rfl rfl (by assumption) rfl ?_ | refine lnv rfl rfl ?_ | refine lnm rfl rfl ?_ | refine ix rfl rfl rfl rfl (by assumption) ?_ | refine ixm rfl rfl rfl rfl (by assumption) ?_ | refine lc rfl rfl (St.obj_set _ _ _) rfl rfl ?_ | refine lc rfl rfl (St.obj_set _ _ _) (by assumption) rfl ?_ | refine lc rfl rfl (by assumption) rfl rfl ?_ | refine lc rfl rfl (by assumption) (by assumption) rfl ?_ | refine inc rfl rfl rfl (by omega) ?_ | refine bs1 rfl rfl rfl rfl rfl rfl ?_ | refine bxe rfl rfl rfl rfl ?_ | refine eqn rfl rfl ?_ | refine eqb rfl rfl rfl ?_ | refine neb rfl rfl rfl ?_)
        refine AOps.split 28 rfl (fun h3 => ?_) (fun h3 => ?_)
        · repeat (first | refine sm rfl ?_ | refine uw rfl ?_ | refine fa rfl rfl ?_ | refine leW rfl rfl rfl rfl rfl ?_ | refine leW rfl rfl rfl (by assumption) rfl ?_ | refine lcW rfl rfl rfl (St.obj_set _ _ _) rfl rfl ?_ | refine le rfl rfl rfl rfl ?_ | refine le rfl rfl (by assumption) rfl ?_ | refine lnv rfl rfl ?_ | refine lnm rfl rfl ?_ | refine ix rfl rfl rfl rfl (by assumption) ?_ | refine ixm rfl rfl rfl rfl (by assumption) ?_ | refine lc rfl rfl (St.obj_set _ _ _) rfl rfl ?_ | refine lc rfl rfl (St.obj_set _ _ _) (by assumption) rfl ?_ | refine lc rfl rfl (by assumption) rfl rfl ?_ | refine lc rfl rfl (by assumption) (by assumption) rfl ?_ | refine inc rfl rfl rfl (by omega) ?_ | refine bs1 rfl rfl rfl rfl rfl rfl ?_ | refine bxe rfl rfl rfl rfl ?_ | refine eqn rfl rfl ?_ | refine eqb rfl rfl rfl ?_ | refine neb rfl rfl rfl ?_)
          exact nl ⟨TLe.consE rfl (by simp [bad, h3, absV, abs1]) (tl5 rfl rfl rfl rfl rfl), .refl _⟩
        · repeat (first | refine sm rfl ?_ | refine uw rfl ?_ | refine fa rfl rfl ?_ | refine leW rfl rfl rfl rfl rfl ?_ | refine leW rfl rfl rfl (by assumption) rfl ?_ | refine lcW rfl rfl rfl (St.obj_set _ _ _) rfl rfl ?_ | refine le rfl rfl rfl rfl ?_ | refine le rfl rfl (by assumption) rfl ?_ | refine lnv rfl rfl ?_ | refine lnm rfl rfl ?_ | refine ix rfl rfl rfl rfl (by assumption) ?_ | refine ixm rfl rfl rfl rfl (by assumption) ?_ | refine lc rfl rfl (St.obj_set _ _ _) rfl rfl ?_ | refine lc rfl rfl (St.obj_set _ _ _) (by assumption) rfl ?_ | refine lc rfl rfl (by assumption) rfl rfl ?_ | refine lc rfl rfl (by assumption) (by assumption) rfl ?_ | refine inc rfl rfl rfl (by omega) ?_ | refine bs1 rfl rfl rfl rfl rfl rfl ?_ | refine bxe rfl rfl rfl rfl ?_ | refine eqn rfl rfl ?_ | refine eqb rfl rfl rfl ?_ | refine neb rfl rfl rfl ?_)
          exact nl ⟨TLe.consE rfl (by rw [hpl] at h2; simp [bad, h1, h2, h3]) (tl5 rfl rfl rfl rfl rfl), .refl _⟩
  · refine AWP.cond_bool rfl (fun hb => ?_) (fun hb => ?_)
    · repeat (first | refine nl ?_ | refine AWP.seq ?_ | refine AWP.skip ?_ | refine AWP.block ?_)
      refine rg ?_
      repeat (first | refine sm rfl ?_ | refine uw rfl ?_ | refine fa rfl rfl ?_ | refine leW rfl rfl rfl rfl rfl ?_ | refine leW rfl rfl rfl (by assumption) rfl ?_ | refine lcW rfl rfl rfl (St.obj_set _ _ _) rfl rfl ?_ | refine le rfl rfl rfl rfl ?_ | refine le rfl rfl (by assumption) rfl ?_ | refine lnv rfl rfl ?_ | refine lnm rfl rfl ?_ | refine ix rfl rfl rfl rfl (by assumption) ?_ | refine ixm rfl rfl rfl rfl (by assumption) ?_ | refine lc rfl rfl (St.obj_set _ _ _) rfl rfl ?_ | refine lc rfl rfl (St.obj_set _ _ _) (by assumption) rfl ?_ | refine lc rfl rfl (by assumption) rfl rfl ?_ | refine lc rfl rfl (by assumption) (by assumption) rfl ?_ | refine inc rfl rfl rfl (by omega) ?_ | refine bs1 rfl rfl rfl rfl rfl rfl ?_ | refine bxe rfl rfl rfl rfl ?_ | refine eqn rfl rfl ?_ | refine eqb rfl rfl rfl ?_ | refine neb rfl rfl rfl ?_)
      repeat (first | refine nl ?_ | refine AWP.seq ?_ | refine AWP.skip ?_ | refine AWP.block ?_)
      refine AWP.ret (rets rfl (.refl _) (.refl _) (.inr ?_))
      rw [route, hb]
      exact ⟨rfl, rfl, rfl⟩
    · have hb' := hb
      simp only [bad, Bool.or_eq_false_iff, decide_eq_false_iff_not] at hb'
      obtain ⟨f0, rfl⟩ := Int.eq_ofNat_of_zero_le (show 0 ≤ a by omega)
      obtain ⟨t, rfl⟩ := Int.eq_ofNat_of_zero_le (show 0 ≤ b by omega)
      have hf0 : f0 < ps.length := by omega
      have ht : t < ps.length := by omega
      have hroute : route ps f0 t = bif lv ps t ps.length f0 then follow ps t (ps.length + 1) f0 [] else ([], 0) := by
        rw [route, hb]
        rfl
      have hil : ((inn ps t).map brow).length = ps.length := by simp [inn_length]
      have hfl : f0 < ((inn ps t).map brow).length := by omega
      have hfr : ((inn ps t).map brow)[f0]? = some (brow (lv ps t ps.length f0)) := by rw [List.getElem?_map, inn_get hf0]; rfl
      repeat (first | refine nl ?_ | refine AWP.seq ?_ | refine AWP.skip ?_ | refine AWP.block ?_)
      refine rg ?_
      repeat (first | refine sm rfl ?_ | refine uw rfl ?_ | refine fa rfl rfl ?_ | refine leW rfl rfl rfl rfl rfl ?_ | refine leW rfl rfl rfl (by assumption) rfl ?_ | refine lcW rfl rfl rfl (St.obj_set _ _ _) rfl rfl ?_ | refine le rfl rfl rfl rfl ?_ | refine le rfl rfl (by assumption) rfl ?_ | refine lnv rfl rfl ?_ | refine lnm rfl rfl ?_ | refine ix rfl rfl rfl rfl (by assumption) ?_ | refine ixm rfl rfl rfl rfl (by assumption) ?_ | refine lc rfl rfl (St.obj_set _ _ _) rfl rfl ?_ | refine lc rfl rfl (St.obj_set _ _ _) (by assumption) rfl ?_ | refine lc rfl rfl (by assumption) rfl rfl ?_ | refine lc rfl rfl (by assumption) (by assumption) rfl ?_ | refine inc rfl rfl rfl (by omega) ?_ | refine bs1 rfl rfl rfl rfl rfl rfl ?_ | refine bxe rfl rfl rfl rfl ?_ | refine eqn rfl rfl ?_ | refine eqb rfl rfl rfl ?_ | refine neb rfl rfl rfl ?_)
      refine cle rfl rfl (leading_ok ps hs t ht st) ?_
      repeat (first | refine nl ?_ | refine AWP.seq ?_ | refine rg ?_ | refine AWP.skip ?_ | refine AWP.block ?_ | refine sm rfl ?_ | refine uw rfl ?_ | refine fa rfl rfl ?_ | refine leW rfl rfl rfl rfl rfl ?_ | refine leW rfl rfl rfl (by assumption) rfl ?_ | refine lcW rfl rfl rfl (St.obj_set _ _ _) rfl rfl ?_ | refine le rfl rfl rfl rfl ?_ | refine le rfl rfl (by assumption) rfl ?_ | refine lnv rfl rfl ?_ | refine lnm rfl rfl ?_ | refine ix rfl rfl rfl rfl (by assumption) ?_ | refine ixm rfl rfl rfl rfl (by assumption) ?_ | refine lc rfl rfl (St.obj_set _ _ _) rfl rfl ?_ | refine lc rfl rfl (St.obj_set _ _ _) (by assumption) rfl ?_ | refine lc rfl rfl (by assumption) rfl rfl ?_ | refine lc rfl rfl (by assumption) (by assumption) rfl ?_ | refine inc rfl rfl rfl (by omega) ?_ | refine bs1 rfl rfl rfl rfl rfl rfl ?_ | refine bxe rfl rfl rfl rfl ?_ | refine eqn rfl rfl ?_ | refine eqb rfl rfl rfl ?_ | refine neb rfl rfl rfl ?_)
      refine AWP.cond_bool rfl (fun hlv => ?_) (fun hlv => ?_)
      · repeat (first | refine nl ?_ | refine AWP.seq ?_ | refine AWP.skip ?_ | refine AWP.block ?_)
        refine rg ?_
        repeat (first | refine sm rfl ?_ | refine uw rfl ?_ | refine fa rfl rfl ?_ | refine leW rfl rfl rfl rfl rfl ?_ | refine leW rfl rfl rfl (by assumption) rfl ?_ | refine lcW rfl rfl rfl (St.obj_set _ _ _) rfl rfl ?_ | refine le rfl rfl rfl rfl ?_ | refine le rfl rfl (by assumption) rfl ?_ | refine lnv rfl rfl ?_ | refine lnm rfl rfl ?_ | refine ix rfl rfl rfl rfl (by assumption) ?_ | refine ixm rfl rfl rfl rfl (by assumption) ?_ | refine lc rfl rfl (St.obj_set _ _ _) rfl rfl ?_ | refine lc rfl rfl (St.obj_set _ _ _) (by assumption) rfl ?_ | refine lc rfl rfl (by assumption) rfl rfl ?_ | refine lc rfl rfl (by assumption) (by assumption) rfl ?_ | refine inc rfl rfl rfl (by omega) ?_ | refine bs1 rfl rfl rfl rfl rfl rfl ?_ | refine bxe rfl rfl rfl rfl ?_ | refine eqn rfl rfl ?_ | refine eqb rfl rfl rfl ?_ | refine neb rfl rfl rfl ?_)
        repeat (first | refine nl ?_ | refine AWP.seq ?_ | refine AWP.skip ?_ | refine AWP.block ?_)
        refine AWP.ret (rets rfl (.refl _) (.refl _) (.inr ?_))
        rw [hroute, show lv ps t ps.length f0 = false by simpa using hlv]
        exact ⟨rfl, rfl, rfl⟩
      · have hlv' : lv ps t ps.length f0 = true := by simpa using hlv
        rw [hlv', cond_true] at hroute
        repeat (first | refine nl ?_ | refine AWP.seq ?_ | refine AWP.skip ?_ | refine AWP.block ?_)
        refine rg ?_
        repeat (first | refine sm rfl ?_ | refine uw rfl ?_ | refine fa rfl rfl ?_ | refine leW rfl rfl rfl rfl rfl ?_ | refine leW rfl rfl rfl (by assumption) rfl ?_ | refine lcW rfl rfl rfl (St.obj_set _ _ _) rfl rfl ?_ | refine le rfl rfl rfl rfl ?_ | refine le rfl rfl (by assumption) rfl ?_ | refine lnv rfl rfl ?_ | refine lnm rfl rfl ?_ | refine ix rfl rfl rfl rfl (by assumption) ?_ | refine ixm rfl rfl rfl rfl (by assumption) ?_ | refine lc rfl rfl (St.obj_set _ _ _) rfl rfl ?_ | refine lc rfl rfl (St.obj_set _ _ _) (by assumption) rfl ?_ | refine lc rfl rfl (by assumption) rfl rfl ?_ | refine lc rfl rfl (by assumption) (by assumption) rfl ?_ | refine inc rfl rfl rfl (by omega) ?_ | refine bs1 rfl rfl rfl rfl rfl rfl ?_ | refine bxe rfl rfl rfl rfl ?_ | refine eqn rfl rfl ?_ | refine eqb rfl rfl rfl ?_ | refine neb rfl rfl rfl ?_)
        repeat (first | refine nl ?_ | refine AWP.seq ?_ | refine AWP.skip ?_ | refine AWP.block ?_)
        refine AWP.nilTok 9 47 6 rfl fun tk0 htk0 => ?_
        repeat (first | refine nl ?_ | refine AWP.seq ?_ | refine rg ?_ | refine AWP.skip ?_ | refine AWP.block ?_ | refine sm rfl ?_ | refine uw rfl ?_ | refine fa rfl rfl ?_ | refine leW rfl rfl rfl rfl rfl ?_ | refine leW rfl rfl rfl (by assumption) rfl ?_ | refine lcW rfl rfl rfl (St.obj_set _ _ _) rfl rfl ?_ | refine le rfl rfl rfl rfl ?_ | refine le rfl rfl (by assumption) rfl ?_ | refine lnv rfl rfl ?_ | refine lnm rfl rfl ?_ | refine ix rfl rfl rfl rfl (by assumption) ?_ | refine ixm rfl rfl rfl rfl (by assumption) ?_ | refine lc rfl rfl (St.obj_set _ _ _) rfl rfl ?_ | refine lc rfl rfl (St.obj_set _ _ _) (by assumption) rfl ?_ | refine lc rfl rfl (by assumption) rfl rfl ?_ | refine lc rfl rfl (by assumption) (by assumption) rfl ?_ | refine inc rfl rfl rfl (by omega) ?_ | refine bs1 rfl rfl rfl rfl rfl rfl ?_ | refine bxe rfl rfl rfl rfl ?_ | refine eqn rfl rfl ?_ | refine eqb rfl rfl rfl ?_ | refine neb rfl rfl rfl ?_)
        refine AWP.loop (α := Nat × Nat × List Site × Nat)
          (fun x => [(10, .int .i64 x.2.1), (9, .view 6 (x.2.2.1.map siteRow) (.own x.2.2.2 47)), (8, .view 1 ((inn ps t).map brow) .shared), (2, .int .i64 t), (3, .eptr 5 [dbgCells ps] 0 0)])
          (fun x => st.addTok x.2.2.2) (fun x => x.1 ≤ ps.length ∧ x.2.1 < ps.length ∧ route ps f0 t = follow ps t (ps.length + 1 - x.1) x.2.1 x.2.2.1 ∧ lv ps t (ps.length - x.1) x.2.1 = true ∧ x.2.2.1.length = x.1 ∧ st.tok x.2.2.2 = false)
          (fun x => ps.length + 1 - x.1) (0, f0, [], tk0) ⟨Nat.zero_le _, hf0, hroute, hlv', rfl, htk0⟩
          (tl5 rfl rfl rfl rfl rfl) (.refl _) ?_
        rintro ⟨k, f, out, tk⟩ ⟨hk, hf, hfo, hlk, hol, htk⟩
        have hrow : (ps.map procRow)[f]? = some (procRow ps[f]) := by simp [hf]
        have hlt : f < (ps.map procRow).length := by rw [hpl]; exact hf
        have hss : ps[f].length ≤ 1000 := hs.each _ (List.getElem_mem hf)
        repeat (first | refine nl ?_ | refine AWP.seq ?_ | refine AWP.skip ?_ | refine AWP.block ?_)
        refine rg ?_
        repeat (first | refine sm rfl ?_ | refine uw rfl ?_ | refine fa rfl rfl ?_ | refine leW rfl rfl rfl rfl rfl ?_ | refine leW rfl rfl rfl (by assumption) rfl ?_ | refine lcW rfl rfl rfl (St.obj_set _ _ _) rfl rfl ?_ | refine le rfl rfl rfl rfl ?_ | refine le rfl rfl (by assumption) rfl ?_ | refine lnv rfl rfl ?_ | refine lnm rfl rfl ?_ | refine ix rfl rfl rfl rfl (by assumption) ?_ | refine ixm rfl rfl rfl rfl (by assumption) ?_ | refine lc rfl rfl (St.obj_set _ _ _) rfl rfl ?_ | refine lc rfl rfl (St.obj_set _ _ _) (by assumption) rfl ?_ | refine lc rfl rfl (by assumption) rfl rfl ?_ | refine lc rfl rfl (by assumption) (by assumption) rfl ?_ | refine inc rfl rfl rfl (by omega) ?_ | refine bs1 rfl rfl rfl rfl rfl rfl ?_ | refine bxe rfl rfl rfl rfl ?_ | refine eqn rfl rfl ?_ | refine eqb rfl rfl rfl ?_ | refine neb rfl rfl rfl ?_)
        repeat (first | refine nl ?_ | refine AWP.seq ?_ | refine AWP.skip ?_ | refine AWP.block ?_)
        refine rg ?_
        repeat (first | refine sm rfl ?_ | refine uw rfl ?_ | refine fa rfl rfl ?_ | refine leW rfl rfl rfl rfl rfl ?_ | refine leW rfl rfl rfl (by assumption) rfl ?_ | refine lcW rfl rfl rfl (St.obj_set _ _ _) rfl rfl ?_ | refine le rfl rfl rfl rfl ?_ | refine le rfl rfl (by assumption) rfl ?_ | refine lnv rfl rfl ?_ | refine lnm rfl rfl ?_ | refine ix rfl rfl rfl rfl (by assumption) ?_ | refine ixm rfl rfl rfl rfl (by assumption) ?_ | refine lc rfl rfl (St.obj_set _ _ _) rfl rfl ?_ | refine lc rfl rfl (St.obj_set _ _ _) (by assumption) rfl ?_ | refine lc rfl rfl (by assumption) rfl rfl ?_ | refine lc rfl rfl (by assumption) (by assumption) rfl ?_ | refine inc rfl rfl rfl (by omega) ?_ | refine bs1 rfl rfl rfl rfl rfl rfl ?_ | refine bxe rfl rfl rfl rfl ?_ | refine eqn rfl rfl ?_ | refine eqb rfl rfl rfl ?_ | refine neb rfl rfl rfl ?_)
        repeat (first | refine nl ?_ | refine AWP.seq ?_ | refine AWP.skip ?_ | refine AWP.block ?_)
        refine midk [(11, .int .i64 (if f = t then 1 else 0)), (10, .int .i64 f), (9, .view 6 (out.map siteRow) (.own tk 47)), (8, .view 1 ((inn ps t).map brow) .shared), (2, .int .i64 t), (3, .eptr 5 [dbgCells ps] 0 0)] (st.addTok tk) ?_ ?_
        · refine AWP.cond_dec rfl (fun h => ?_) (fun h => ?_)
          · repeat (first | refine nl ?_ | refine AWP.seq ?_ | refine AWP.skip ?_ | refine AWP.block ?_)
            refine rg ?_
            repeat (first | refine sm rfl ?_ | refine uw rfl ?_ | refine fa rfl rfl ?_ | refine leW rfl rfl rfl rfl rfl ?_ | refine leW rfl rfl rfl (by assumption) rfl ?_ | refine lcW rfl rfl rfl (St.obj_set _ _ _) rfl rfl ?_ | refine le rfl rfl rfl rfl ?_ | refine le rfl rfl (by assumption) rfl ?_ | refine lnv rfl rfl ?_ | refine lnm rfl rfl ?_ | refine ix rfl rfl rfl rfl (by assumption) ?_ | refine ixm rfl rfl rfl rfl (by assumption) ?_ | refine lc rfl rfl (St.obj_set _ _ _) rfl rfl ?_ | refine lc rfl rfl (St.obj_set _ _ _) (by assumption) rfl ?_ | refine lc rfl rfl (by assumption) rfl rfl ?_ | refine lc rfl rfl (by assumption) (by assumption) rfl ?_ | refine inc rfl rfl rfl (by omega) ?_ | refine bs1 rfl rfl rfl rfl rfl rfl ?_ | refine bxe rfl rfl rfl rfl ?_ | refine eqn rfl rfl ?_ | refine eqb rfl rfl rfl ?_ | refine neb rfl rfl rfl ?_)
            repeat (first | refine nl ?_ | refine AWP.seq ?_ | refine AWP.skip ?_ | refine AWP.block ?_)
            exact ⟨TLe.consE rfl (by have h' : (f : Int) = t := h; rw [if_pos (show f = t by omega)]; rfl) (tl5 rfl rfl rfl rfl rfl), .refl _⟩
          · refine AWP.skip ?_
            exact ⟨TLe.consE rfl (by have h' : ¬ (f : Int) = t := h; rw [if_neg (show ¬ f = t by omega)]; rfl) (tl5 rfl rfl rfl rfl rfl), .refl _⟩
        · repeat (first | refine nl ?_ | refine AWP.seq ?_ | refine AWP.skip ?_ | refine AWP.block ?_)
          refine rg ?_
          refine al rfl rfl fun o12 ho12 => ?_
          repeat (first | refine nl ?_ | refine AWP.seq ?_ | refine rg ?_ | refine AWP.skip ?_ | refine AWP.block ?_ | refine sm rfl ?_ | refine uw rfl ?_ | refine fa rfl rfl ?_ | refine leW rfl rfl rfl rfl rfl ?_ | refine leW rfl rfl rfl (by assumption) rfl ?_ | refine lcW rfl rfl rfl (St.obj_set _ _ _) rfl rfl ?_ | refine le rfl rfl rfl rfl ?_ | refine le rfl rfl (by assumption) rfl ?_ | refine lnv rfl rfl ?_ | refine lnm rfl rfl ?_ | refine ix rfl rfl rfl rfl (by assumption) ?_ | refine ixm rfl rfl rfl rfl (by assumption) ?_ | refine lc rfl rfl (St.obj_set _ _ _) rfl rfl ?_ | refine lc rfl rfl (St.obj_set _ _ _) (by assumption) rfl ?_ | refine lc rfl rfl (by assumption) rfl rfl ?_ | refine lc rfl rfl (by assumption) (by assumption) rfl ?_ | refine inc rfl rfl rfl (by omega) ?_ | refine bs1 rfl rfl rfl rfl rfl rfl ?_ | refine bxe rfl rfl rfl rfl ?_ | refine eqn rfl rfl ?_ | refine eqb rfl rfl rfl ?_ | refine neb rfl rfl rfl ?_)
          have hzr : zrow (.agg #[.int .i64 0, .int .i64 0, .int .i64 0, .int .i64 0, .bool false, .slice none 0 0]) = siteRow (0, 0, false) := rfl
          refine AWP.loop (α := Nat)
            (fun i => [(54, .int .i64 i), (53, .int .i64 ps[f].length), (52, .view 6 (ps[f].map siteRow) .shared), (12, .cptr o12 6 0 0),
              (11, .int .i64 (((if f = t then 1 else 0) + ((ps[f].take i).filter (good ps t)).length : Nat) : Int)), (10, .int .i64 f), (9, .view 6 (out.map siteRow) (.own tk 47)), (8, .view 1 ((inn ps t).map brow) .shared), (2, .int .i64 t), (3, .eptr 5 [dbgCells ps] 0 0)])
            (fun i => (st.addTok tk).set o12 (.cells 47 6 [siteRow (((ps[f].take i).filter (good ps t)).getLastD (0, 0, false))]))
            (fun i => i ≤ ps[f].length) (fun i => ps[f].length - i) 0 (Nat.zero_le _)
            (TLe.cons' rfl (TLe.consE rfl (by rw [List.length_map]) (TLe.cons' rfl (TLe.cons' rfl (TLe.consE rfl (by simp only [List.take_zero, List.filter_nil, List.length_nil, Nat.add_zero]; split <;> rfl) (tl5 rfl rfl rfl rfl rfl)))))) (.refl _) ?_
          rintro i hi
          repeat (first | refine nl ?_ | refine AWP.seq ?_ | refine rg ?_ | refine AWP.skip ?_ | refine AWP.block ?_ | refine sm rfl ?_ | refine uw rfl ?_ | refine fa rfl rfl ?_ | refine leW rfl rfl rfl rfl rfl ?_ | refine leW rfl rfl rfl (by assumption) rfl ?_ | refine lcW rfl rfl rfl (St.obj_set _ _ _) rfl rfl ?_ | refine le rfl rfl rfl rfl ?_ | refine le rfl rfl (by assumption) rfl ?_ | refine lnv rfl rfl ?_ | refine lnm rfl rfl ?_ | refine ix rfl rfl rfl rfl (by assumption) ?_ | refine ixm rfl rfl rfl rfl (by assumption) ?_ | refine lc rfl rfl (St.obj_set _ _ _) rfl rfl ?_ | refine lc rfl rfl (St.obj_set _ _ _) (by assumption) rfl ?_ | refine lc rfl rfl (by assumption) rfl rfl ?_ | refine lc rfl rfl (by assumption) (by assumption) rfl ?_ | refine inc rfl rfl rfl (by omega) ?_ | refine bs1 rfl rfl rfl rfl rfl rfl ?_ | refine bxe rfl rfl rfl rfl ?_ | refine eqn rfl rfl ?_ | refine eqb rfl rfl rfl ?_ | refine neb rfl rfl rfl ?_)
          refine AWP.cond_dec rfl (fun h => AWP.skip ?_) (fun h => AWP.exit (blk_hit ?_))
          · have hi' : i < ps[f].length := by simpa using h
            have hsl : i < (ps[f].map siteRow).length := by simpa using hi'
            have hsite : (ps[f].map siteRow)[i]? = some (siteRow ps[f][i]) := by simp [hi']
            refine AWP.weaken (tl10 (i0 := 54) (i1 := 53) (i2 := 52) (i3 := 12) (i4 := 11) (i5 := 10) (i6 := 9) (i7 := 8) (i8 := 2) (i9 := 3) rfl rfl rfl rfl rfl rfl rfl rfl rfl rfl) (.refl _) ?_
            repeat (first | refine nl ?_ | refine AWP.seq ?_ | refine rg ?_ | refine AWP.skip ?_ | refine AWP.block ?_ | refine sm rfl ?_ | refine uw rfl ?_ | refine fa rfl rfl ?_ | refine leW rfl rfl rfl rfl rfl ?_ | refine leW rfl rfl rfl (by assumption) rfl ?_ | refine lcW rfl rfl rfl (St.obj_set _ _ _) rfl rfl ?_ | refine le rfl rfl rfl rfl ?_ | refine le rfl rfl (by assumption) rfl ?_ | refine lnv rfl rfl ?_ | refine lnm rfl rfl ?_ | refine ix rfl rfl rfl rfl (by assumption) ?_ | refine ixm rfl rfl rfl rfl (by assumption) ?_ | refine lc rfl rfl (St.obj_set _ _ _) rfl rfl ?_ | refine lc rfl rfl (St.obj_set _ _ _) (by assumption) rfl ?_ | refine lc rfl rfl (by assumption) rfl rfl ?_ | refine lc rfl rfl (by assumption) (by assumption) rfl ?_ | refine inc rfl rfl rfl (by omega) ?_ | refine bs1 rfl rfl rfl rfl rfl rfl ?_ | refine bxe rfl rfl rfl rfl ?_ | refine eqn rfl rfl ?_ | refine eqb rfl rfl rfl ?_ | refine neb rfl rfl rfl ?_)
            refine al rfl rfl fun o14 ho14 => ?_
            refine soN 14 rfl rfl rfl rfl rfl rfl ho14 (nl ?_)
            refine AWP.weaken (tl11 (i0 := 14) (i1 := 54) (i2 := 53) (i3 := 52) (i4 := 12) (i5 := 11) (i6 := 10) (i7 := 9) (i8 := 8) (i9 := 2) (i10 := 3) rfl rfl rfl rfl rfl rfl rfl rfl rfl rfl rfl) (.refl _) ?_
            generalize hs0 : ps[f][i] = s at hsite
            refine tst 79 (.bool (good ps t s)) (rg ?_) ?_
            · repeat (first | refine sm rfl ?_ | refine uw rfl ?_ | refine fa rfl rfl ?_ | refine leW rfl rfl rfl rfl rfl ?_ | refine leW rfl rfl rfl (by assumption) rfl ?_ | refine lcW rfl rfl rfl (St.obj_set _ _ _) rfl rfl ?_ | refine le rfl rfl rfl rfl ?_ | refine le rfl rfl (by assumption) rfl ?_ | refine lnv rfl rfl ?_ | refine lnm rfl rfl ?_ | refine ix rfl rfl rfl rfl (by assumption) ?_ | refine ixm rfl rfl rfl rfl (by assumption) ?_ | refine lc rfl rfl (St.obj_set _ _ _) rfl rfl ?_ | refine lc rfl rfl (St.obj_set _ _ _) (by assumption) rfl ?_ | refine lc rfl rfl (by assumption) rfl rfl ?_ | refine lc rfl rfl (by assumption) (by assumption) rfl ?_ | refine inc rfl rfl rfl (by omega) ?_ | refine bs1 rfl rfl rfl rfl rfl rfl ?_ | refine bxe rfl rfl rfl rfl ?_ | refine eqn rfl rfl ?_ | refine eqb rfl rfl rfl ?_ | refine neb rfl rfl rfl ?_)
              refine AOps.splitB 60 rfl (fun ht => ?_) (fun ht => ?_)
              · repeat (first | refine sm rfl ?_ | refine uw rfl ?_ | refine fa rfl rfl ?_ | refine leW rfl rfl rfl rfl rfl ?_ | refine leW rfl rfl rfl (by assumption) rfl ?_ | refine lcW rfl rfl rfl (St.obj_set _ _ _) rfl rfl ?_ | refine le rfl rfl rfl rfl ?_ | refine le rfl rfl (by assumption) rfl ?_ | refine lnv rfl rfl ?_ | refine lnm rfl rfl ?_ | refine ix rfl rfl rfl rfl (by assumption) ?_ | refine ixm rfl rfl rfl rfl (by assumption) ?_ | refine lc rfl rfl (St.obj_set _ _ _) rfl rfl ?_ | refine lc rfl rfl (St.obj_set _ _ _) (by assumption) rfl ?_ | refine lc rfl rfl (by assumption) rfl rfl ?_ | refine lc rfl rfl (by assumption) (by assumption) rfl ?_ | refine inc rfl rfl rfl (by omega) ?_ | refine bs1 rfl rfl rfl rfl rfl rfl ?_ | refine bxe rfl rfl rfl rfl ?_ | refine eqn rfl rfl ?_ | refine eqb rfl rfl rfl ?_ | refine neb rfl rfl rfl ?_)
                refine AOps.split 65 rfl (fun h0 => ?_) (fun h0 => ?_)
                · repeat (first | refine sm rfl ?_ | refine uw rfl ?_ | refine fa rfl rfl ?_ | refine leW rfl rfl rfl rfl rfl ?_ | refine leW rfl rfl rfl (by assumption) rfl ?_ | refine lcW rfl rfl rfl (St.obj_set _ _ _) rfl rfl ?_ | refine le rfl rfl rfl rfl ?_ | refine le rfl rfl (by assumption) rfl ?_ | refine lnv rfl rfl ?_ | refine lnm rfl rfl ?_ | refine ix rfl rfl rfl rfl (by assumption) ?_ | refine ixm rfl rfl rfl rfl (by assumption) ?_ | refine lc rfl rfl (St.obj_set _ _ _) rfl rfl ?_ | refine lc rfl rfl (St.obj_set _ _ _) (by assumption) rfl ?_ | refine lc rfl rfl (by assumption) rfl rfl ?_ | refine lc rfl rfl (by assumption) (by assumption) rfl ?_ | refine inc rfl rfl rfl (by omega) ?_ | refine bs1 rfl rfl rfl rfl rfl rfl ?_ | refine bxe rfl rfl rfl rfl ?_ | refine eqn rfl rfl ?_ | refine eqb rfl rfl rfl ?_ | refine neb rfl rfl rfl ?_)
                  refine AOps.split 73 rfl (fun h1 => ?_) (fun h1 => ?_)
                  · repeat (first | refine sm rfl ?_ | refine uw rfl ?_ | refine fa rfl rfl ?_ | refine leW rfl rfl rfl rfl rfl ?_ | refine leW rfl rfl rfl (by assumption) rfl ?_ | refine lcW rfl rfl rfl (St.obj_set _ _ _) rfl rfl ?_ | refine le rfl rfl rfl rfl ?_ | refine le rfl rfl (by assumption) rfl ?_ | refine lnv rfl rfl ?_ | refine lnm rfl rfl ?_ | refine ix rfl rfl rfl rfl (by assumption) ?_ | refine ixm rfl rfl rfl rfl (by assumption) ?_ | refine lc rfl rfl (St.obj_set _ _ _) rfl rfl ?_ | refine lc rfl rfl (St.obj_set _ _ _) (by assumption) rfl ?_ | refine lc rfl rfl (by assumption) rfl rfl ?_ | refine lc rfl rfl (by assumption) (by assumption) rfl ?_ | refine inc rfl rfl rfl (by omega) ?_ | refine bs1 rfl rfl rfl rfl rfl rfl ?_ | refine bxe rfl rfl rfl rfl ?_ | refine eqn rfl rfl ?_ | refine eqb rfl rfl rfl ?_ | refine neb rfl rfl rfl ?_)
                    obtain ⟨c, hc⟩ := Int.eq_ofNat_of_zero_le (show 0 ≤ s.2.1 from h0)
                    have hcl : c < ps.length := by omega
                    have hcl' : c < ((inn ps t).map brow).length := by omega
                    have hcr : ((inn ps t).map brow)[c]? = some (brow (lv ps t ps.length c)) := by rw [List.getElem?_map, inn_get hcl]; rfl
                    refine ix rfl rfl rfl hc hcl' ?_
                    repeat (first | refine sm rfl ?_ | refine uw rfl ?_ | refine fa rfl rfl ?_ | refine leW rfl rfl rfl rfl rfl ?_ | refine leW rfl rfl rfl (by assumption) rfl ?_ | refine lcW rfl rfl rfl (St.obj_set _ _ _) rfl rfl ?_ | refine le rfl rfl rfl rfl ?_ | refine le rfl rfl (by assumption) rfl ?_ | refine lnv rfl rfl ?_ | refine lnm rfl rfl ?_ | refine ix rfl rfl rfl rfl (by assumption) ?_ | refine ixm rfl rfl rfl rfl (by assumption) ?_ | refine lc rfl rfl (St.obj_set _ _ _) rfl rfl ?_ | refine lc rfl rfl (St.obj_set _ _ _) (by assumption) rfl ?_ | refine lc rfl rfl (by assumption) rfl rfl ?_ | refine lc rfl rfl (by assumption) (by assumption) rfl ?_ | refine inc rfl rfl rfl (by omega) ?_ | refine bs1 rfl rfl rfl rfl rfl rfl ?_ | refine bxe rfl rfl rfl rfl ?_ | refine eqn rfl rfl ?_ | refine eqb rfl rfl rfl ?_ | refine neb rfl rfl rfl ?_)
                    exact nl ⟨TLe.consE rfl (by simp [good, isTail, ht, hc, hcl]) (tl11 rfl rfl rfl rfl rfl rfl rfl rfl rfl rfl rfl), .refl _⟩
                  · repeat (first | refine sm rfl ?_ | refine uw rfl ?_ | refine fa rfl rfl ?_ | refine leW rfl rfl rfl rfl rfl ?_ | refine leW rfl rfl rfl (by assumption) rfl ?_ | refine lcW rfl rfl rfl (St.obj_set _ _ _) rfl rfl ?_ | refine le rfl rfl rfl rfl ?_ | refine le rfl rfl (by assumption) rfl ?_ | refine lnv rfl rfl ?_ | refine lnm rfl rfl ?_ | refine ix rfl rfl rfl rfl (by assumption) ?_ | refine ixm rfl rfl rfl rfl (by assumption) ?_ | refine lc rfl rfl (St.obj_set _ _ _) rfl rfl ?_ | refine lc rfl rfl (St.obj_set _ _ _) (by assumption) rfl ?_ | refine lc rfl rfl (by assumption) rfl rfl ?_ | refine lc rfl rfl (by assumption) (by assumption) rfl ?_ | refine inc rfl rfl rfl (by omega) ?_ | refine bs1 rfl rfl rfl rfl rfl rfl ?_ | refine bxe rfl rfl rfl rfl ?_ | refine eqn rfl rfl ?_ | refine eqb rfl rfl rfl ?_ | refine neb rfl rfl rfl ?_)
                    have h1' : ¬ s.2.1 < (ps.map procRow).length := h1
                    exact nl ⟨TLe.consE rfl (by rw [hpl] at h1'; simp [good, isTail, ht, h1', absV, abs1]) (tl11 rfl rfl rfl rfl rfl rfl rfl rfl rfl rfl rfl), .refl _⟩
                · repeat (first | refine sm rfl ?_ | refine uw rfl ?_ | refine fa rfl rfl ?_ | refine leW rfl rfl rfl rfl rfl ?_ | refine leW rfl rfl rfl (by assumption) rfl ?_ | refine lcW rfl rfl rfl (St.obj_set _ _ _) rfl rfl ?_ | refine le rfl rfl rfl rfl ?_ | refine le rfl rfl (by assumption) rfl ?_ | refine lnv rfl rfl ?_ | refine lnm rfl rfl ?_ | refine ix rfl rfl rfl rfl (by assumption) ?_ | refine ixm rfl rfl rfl rfl (by assumption) ?_ | refine lc rfl rfl (St.obj_set _ _ _) rfl rfl ?_ | refine lc rfl rfl (St.obj_set _ _ _) (by assumption) rfl ?_ | refine lc rfl rfl (by assumption) rfl rfl ?_ | refine lc rfl rfl (by assumption) (by assumption) rfl ?_ | refine inc rfl rfl rfl (by omega) ?_ | refine bs1 rfl rfl rfl rfl rfl rfl ?_ | refine bxe rfl rfl rfl rfl ?_ | refine eqn rfl rfl ?_ | refine eqb rfl rfl rfl ?_ | refine neb rfl rfl rfl ?_)
                  have h0' : ¬ 0 ≤ s.2.1 := h0
                  exact nl ⟨TLe.consE rfl (by simp [good, isTail, ht, h0', absV, abs1]) (tl11 rfl rfl rfl rfl rfl rfl rfl rfl rfl rfl rfl), .refl _⟩
              · repeat (first | refine sm rfl ?_ | refine uw rfl ?_ | refine fa rfl rfl ?_ | refine leW rfl rfl rfl rfl rfl ?_ | refine leW rfl rfl rfl (by assumption) rfl ?_ | refine lcW rfl rfl rfl (St.obj_set _ _ _) rfl rfl ?_ | refine le rfl rfl rfl rfl ?_ | refine le rfl rfl (by assumption) rfl ?_ | refine lnv rfl rfl ?_ | refine lnm rfl rfl ?_ | refine ix rfl rfl rfl rfl (by assumption) ?_ | refine ixm rfl rfl rfl rfl (by assumption) ?_ | refine lc rfl rfl (St.obj_set _ _ _) rfl rfl ?_ | refine lc rfl rfl (St.obj_set _ _ _) (by assumption) rfl ?_ | refine lc rfl rfl (by assumption) rfl rfl ?_ | refine lc rfl rfl (by assumption) (by assumption) rfl ?_ | refine inc rfl rfl rfl (by omega) ?_ | refine bs1 rfl rfl rfl rfl rfl rfl ?_ | refine bxe rfl rfl rfl rfl ?_ | refine eqn rfl rfl ?_ | refine eqb rfl rfl rfl ?_ | refine neb rfl rfl rfl ?_)
                exact nl ⟨TLe.consE rfl (by simp [good, isTail, ht, absV, abs1]) (tl11 rfl rfl rfl rfl rfl rfl rfl rfl rfl rfl rfl), .refl _⟩
            · have htake : (ps[f].take (i + 1)).filter (good ps t) = (ps[f].take i).filter (good ps t) ++ (bif good ps t s then [s] else []) := by
                rw [List.take_add_one, List.getElem?_eq_getElem hi', hs0, List.filter_append]
                cases hg : good ps t s <;> simp [hg]
              have hcl : ((ps[f].take i).filter (good ps t)).length ≤ 1000 := Nat.le_trans (List.length_filter_le _ _) (by simp only [List.length_take]; omega)
              refine AWP.cond_bool rfl (fun hb => ?_) (fun hb => AWP.skip ?_)
              · rw [hb, cond_true] at htake
                repeat (first | refine nl ?_ | refine AWP.seq ?_ | refine AWP.skip ?_ | refine AWP.block ?_)
                refine rg ?_
                repeat (first | refine sm rfl ?_ | refine uw rfl ?_ | refine fa rfl rfl ?_ | refine leW rfl rfl rfl rfl rfl ?_ | refine leW rfl rfl rfl (by assumption) rfl ?_ | refine lcW rfl rfl rfl (St.obj_set _ _ _) rfl rfl ?_ | refine le rfl rfl rfl rfl ?_ | refine le rfl rfl (by assumption) rfl ?_ | refine lnv rfl rfl ?_ | refine lnm rfl rfl ?_ | refine ix rfl rfl rfl rfl (by assumption) ?_ | refine ixm rfl rfl rfl rfl (by assumption) ?_ | refine lc rfl rfl (St.obj_set _ _ _) rfl rfl ?_ | refine lc rfl rfl (St.obj_set _ _ _) (by assumption) rfl ?_ | refine lc rfl rfl (by assumption) rfl rfl ?_ | refine lc rfl rfl (by assumption) (by assumption) rfl ?_ | refine inc rfl rfl rfl (by omega) ?_ | refine bs1 rfl rfl rfl rfl rfl rfl ?_ | refine bxe rfl rfl rfl rfl ?_ | refine eqn rfl rfl ?_ | refine eqb rfl rfl rfl ?_ | refine neb rfl rfl rfl ?_)
                refine inc rfl rfl rfl (by split <;> omega) ?_
                repeat (first | refine nl ?_ | refine AWP.seq ?_ | refine rg ?_ | refine AWP.skip ?_ | refine AWP.block ?_ | refine sm rfl ?_ | refine uw rfl ?_ | refine fa rfl rfl ?_ | refine leW rfl rfl rfl rfl rfl ?_ | refine leW rfl rfl rfl (by assumption) rfl ?_ | refine lcW rfl rfl rfl (St.obj_set _ _ _) rfl rfl ?_ | refine le rfl rfl rfl rfl ?_ | refine le rfl rfl (by assumption) rfl ?_ | refine lnv rfl rfl ?_ | refine lnm rfl rfl ?_ | refine ix rfl rfl rfl rfl (by assumption) ?_ | refine ixm rfl rfl rfl rfl (by assumption) ?_ | refine lc rfl rfl (St.obj_set _ _ _) rfl rfl ?_ | refine lc rfl rfl (St.obj_set _ _ _) (by assumption) rfl ?_ | refine lc rfl rfl (by assumption) rfl rfl ?_ | refine lc rfl rfl (by assumption) (by assumption) rfl ?_ | refine inc rfl rfl rfl (by omega) ?_ | refine bs1 rfl rfl rfl rfl rfl rfl ?_ | refine bxe rfl rfl rfl rfl ?_ | refine eqn rfl rfl ?_ | refine eqb rfl rfl rfl ?_ | refine neb rfl rfl rfl ?_)
                have hlast : ((ps[f].take (i + 1)).filter (good ps t)).getLastD (0, 0, false) = s := by rw [htake]; simp
                refine soV rfl rfl rfl rfl rfl rfl ?_
                repeat (first | refine nl ?_ | refine AWP.seq ?_ | refine rg ?_ | refine AWP.skip ?_ | refine AWP.block ?_ | refine sm rfl ?_ | refine uw rfl ?_ | refine fa rfl rfl ?_ | refine leW rfl rfl rfl rfl rfl ?_ | refine leW rfl rfl rfl (by assumption) rfl ?_ | refine lcW rfl rfl rfl (St.obj_set _ _ _) rfl rfl ?_ | refine le rfl rfl rfl rfl ?_ | refine le rfl rfl (by assumption) rfl ?_ | refine lnv rfl rfl ?_ | refine lnm rfl rfl ?_ | refine ix rfl rfl rfl rfl (by assumption) ?_ | refine ixm rfl rfl rfl rfl (by assumption) ?_ | refine lc rfl rfl (St.obj_set _ _ _) rfl rfl ?_ | refine lc rfl rfl (St.obj_set _ _ _) (by assumption) rfl ?_ | refine lc rfl rfl (by assumption) rfl rfl ?_ | refine lc rfl rfl (by assumption) (by assumption) rfl ?_ | refine inc rfl rfl rfl (by omega) ?_ | refine bs1 rfl rfl rfl rfl rfl rfl ?_ | refine bxe rfl rfl rfl rfl ?_ | refine eqn rfl rfl ?_ | refine eqb rfl rfl rfl ?_ | refine neb rfl rfl rfl ?_)
                refine ⟨i + 1, hi', by omega, ?_, ?_⟩
                · refine TLe.cons' rfl (TLe.cons' rfl (TLe.cons' rfl (TLe.cons' rfl (TLe.consE rfl ?_ (tl5 rfl rfl rfl rfl rfl)))))
                  rw [htake, List.length_append, List.length_singleton, Nat.add_assoc]
                · rw [hlast]
                  exact .refl _
              · rw [hb, cond_false, List.append_nil] at htake
                repeat (first | refine nl ?_ | refine AWP.seq ?_ | refine rg ?_ | refine AWP.skip ?_ | refine AWP.block ?_ | refine sm rfl ?_ | refine uw rfl ?_ | refine fa rfl rfl ?_ | refine leW rfl rfl rfl rfl rfl ?_ | refine leW rfl rfl rfl (by assumption) rfl ?_ | refine lcW rfl rfl rfl (St.obj_set _ _ _) rfl rfl ?_ | refine le rfl rfl rfl rfl ?_ | refine le rfl rfl (by assumption) rfl ?_ | refine lnv rfl rfl ?_ | refine lnm rfl rfl ?_ | refine ix rfl rfl rfl rfl (by assumption) ?_ | refine ixm rfl rfl rfl rfl (by assumption) ?_ | refine lc rfl rfl (St.obj_set _ _ _) rfl rfl ?_ | refine lc rfl rfl (St.obj_set _ _ _) (by assumption) rfl ?_ | refine lc rfl rfl (by assumption) rfl rfl ?_ | refine lc rfl rfl (by assumption) (by assumption) rfl ?_ | refine inc rfl rfl rfl (by omega) ?_ | refine bs1 rfl rfl rfl rfl rfl rfl ?_ | refine bxe rfl rfl rfl rfl ?_ | refine eqn rfl rfl ?_ | refine eqb rfl rfl rfl ?_ | refine neb rfl rfl rfl ?_)
                refine ⟨i + 1, hi', by omega, ?_, ?_⟩
                · exact tl10 rfl rfl rfl rfl (by rw [htake]; rfl) rfl rfl rfl rfl rfl
                · rw [htake]
                  exact .refl _
          · have hi' : i = ps[f].length := by
              have : ¬ i < ps[f].length := by simpa using h
              omega
            subst hi'
            rw [List.take_length, nxt_eq ps t f hf]
            have hfol : follow ps t (ps.length + 1 - k) f out = if f = t then (if nxt ps t f = [] then (out, 1) else ([], 2)) else match nxt ps t f with
                | [s] => follow ps t (ps.length - k) s.2.1.toNat (out ++ [s])
                | _ => ([], 2) := by
              rw [show ps.length + 1 - k = (ps.length - k) + 1 by simp only at hk; omega]
              rfl
            simp only at hfo hlk hk hf hol htk
            rw [hfol] at hfo
            have hnl : (nxt ps t f).length ≤ 1000 := by rw [← nxt_eq ps t f hf]; exact Nat.le_trans (List.length_filter_le _ _) hss
            refine AWP.weaken (tl7 (i0 := 12) (i1 := 11) (i2 := 10) (i3 := 9) (i4 := 8) (i5 := 2) (i6 := 3) rfl rfl rfl rfl rfl rfl rfl) (.refl _) ?_
            have hnx1 : f ≠ t → nxt ps t f ≠ [] := by
              intro hft he
              have hkk : ps.length - k ≠ 0 := by
                intro h0
                rw [h0, lv] at hlk
                exact hft (by simpa using hlk)
              obtain ⟨j, hj⟩ : ∃ j, ps.length - k = j + 1 := ⟨ps.length - k - 1, by omega⟩
              rw [hj] at hlk
              obtain ⟨s, hs1, hs2⟩ := lv_next hft hlk
              have : s ∈ nxt ps t f := by
                simp only [nxt, List.mem_filter]
                exact ⟨hs1, lv_le hs2 (by omega)⟩
              rw [he] at this
              cases this
            have hnx2 : ∀ s, f ≠ t → nxt ps t f = [s] → lv ps t (ps.length - (k + 1)) s.2.1.toNat = true := by
              intro s hft he
              have hkk : ps.length - k ≠ 0 := by
                intro h0
                rw [h0, lv] at hlk
                exact hft (by simpa using hlk)
              obtain ⟨j, hj⟩ : ∃ j, ps.length - k = j + 1 := ⟨ps.length - k - 1, by omega⟩
              rw [hj] at hlk
              obtain ⟨s', hs1, hs2⟩ := lv_next hft hlk
              have hm : s' ∈ nxt ps t f := by
                simp only [nxt, List.mem_filter]
                exact ⟨hs1, lv_le hs2 (by omega)⟩
              rw [he, List.mem_singleton] at hm
              subst hm
              rw [show ps.length - (k + 1) = j by omega]
              exact hs2
            have hkt : f ≠ t → k < ps.length := by
              intro hft
              rcases Nat.lt_or_ge k ps.length with h1 | h1
              · exact h1
              · rw [show ps.length - k = 0 by omega, lv] at hlk
                exact absurd (by simpa using hlk) hft
            have hsb : ∀ s, s ∈ nxt ps t f → s.2.1 = (s.2.1.toNat : Int) ∧ s.2.1.toNat < ps.length := fun s hm => ⟨(nxt_lt hm).1, (nxt_lt hm).2.1⟩
            generalize nxt ps t f = ns at hfo hnl hnx1 hnx2 hsb
            repeat (first | refine nl ?_ | refine AWP.seq ?_ | refine AWP.skip ?_ | refine AWP.block ?_)
            refine rg ?_
            repeat (first | refine sm rfl ?_ | refine uw rfl ?_ | refine fa rfl rfl ?_ | refine leW rfl rfl rfl rfl rfl ?_ | refine leW rfl rfl rfl (by assumption) rfl ?_ | refine lcW rfl rfl rfl (St.obj_set _ _ _) rfl rfl ?_ | refine le rfl rfl rfl rfl ?_ | refine le rfl rfl (by assumption) rfl ?_ | refine lnv rfl rfl ?_ | refine lnm rfl rfl ?_ | refine ix rfl rfl rfl rfl (by assumption) ?_ | refine ixm rfl rfl rfl rfl (by assumption) ?_ | refine lc rfl rfl (St.obj_set _ _ _) rfl rfl ?_ | refine lc rfl rfl (St.obj_set _ _ _) (by assumption) rfl ?_ | refine lc rfl rfl (by assumption) rfl rfl ?_ | refine lc rfl rfl (by assumption) (by assumption) rfl ?_ | refine inc rfl rfl rfl (by omega) ?_ | refine bs1 rfl rfl rfl rfl rfl rfl ?_ | refine bxe rfl rfl rfl rfl ?_ | refine eqn rfl rfl ?_ | refine eqb rfl rfl rfl ?_ | refine neb rfl rfl rfl ?_)
            repeat (first | refine nl ?_ | refine AWP.seq ?_ | refine AWP.skip ?_ | refine AWP.block ?_)
            refine AWP.cond_dec rfl (fun hc => ?_) (fun hc => AWP.skip ?_)
            · have hc' : 1 < (if f = t then 1 else 0) + ns.length := by exact Int.ofNat_lt.1 hc
              repeat (first | refine nl ?_ | refine AWP.seq ?_ | refine AWP.skip ?_ | refine AWP.block ?_)
              refine rg ?_
              repeat (first | refine sm rfl ?_ | refine uw rfl ?_ | refine fa rfl rfl ?_ | refine leW rfl rfl rfl rfl rfl ?_ | refine leW rfl rfl rfl (by assumption) rfl ?_ | refine lcW rfl rfl rfl (St.obj_set _ _ _) rfl rfl ?_ | refine le rfl rfl rfl rfl ?_ | refine le rfl rfl (by assumption) rfl ?_ | refine lnv rfl rfl ?_ | refine lnm rfl rfl ?_ | refine ix rfl rfl rfl rfl (by assumption) ?_ | refine ixm rfl rfl rfl rfl (by assumption) ?_ | refine lc rfl rfl (St.obj_set _ _ _) rfl rfl ?_ | refine lc rfl rfl (St.obj_set _ _ _) (by assumption) rfl ?_ | refine lc rfl rfl (by assumption) rfl rfl ?_ | refine lc rfl rfl (by assumption) (by assumption) rfl ?_ | refine inc rfl rfl rfl (by omega) ?_ | refine bs1 rfl rfl rfl rfl rfl rfl ?_ | refine bxe rfl rfl rfl rfl ?_ | refine eqn rfl rfl ?_ | refine eqb rfl rfl rfl ?_ | refine neb rfl rfl rfl ?_)
              repeat (first | refine nl ?_ | refine AWP.seq ?_ | refine AWP.skip ?_ | refine AWP.block ?_)
              have hres : route ps f0 t = ([], 2) := by
                rw [hfo]
                by_cases h1 : f = t
                · rw [if_pos h1] at hc' ⊢
                  rw [if_neg (by rintro rfl; simp at hc')]
                · rw [if_neg h1] at hc' ⊢
                  match ns, hc' with
                  | [], _ => rfl
                  | [_], h => simp at h
                  | _ :: _ :: _, _ => rfl
              refine AWP.ret (rets rfl (.refl _) (StLe.new ho12 (StLe.addTok _ (.refl _))) (.inr ?_))
              rw [hres]
              exact ⟨rfl, rfl, rfl⟩
            · have hc' : (if f = t then 1 else 0) + ns.length ≤ 1 := by
                have : ¬ 1 < (if f = t then 1 else 0) + ns.length := fun h => hc (Int.ofNat_lt.2 h)
                omega
              repeat (first | refine nl ?_ | refine AWP.seq ?_ | refine AWP.skip ?_ | refine AWP.block ?_)
              refine rg ?_
              repeat (first | refine sm rfl ?_ | refine uw rfl ?_ | refine fa rfl rfl ?_ | refine leW rfl rfl rfl rfl rfl ?_ | refine leW rfl rfl rfl (by assumption) rfl ?_ | refine lcW rfl rfl rfl (St.obj_set _ _ _) rfl rfl ?_ | refine le rfl rfl rfl rfl ?_ | refine le rfl rfl (by assumption) rfl ?_ | refine lnv rfl rfl ?_ | refine lnm rfl rfl ?_ | refine ix rfl rfl rfl rfl (by assumption) ?_ | refine ixm rfl rfl rfl rfl (by assumption) ?_ | refine lc rfl rfl (St.obj_set _ _ _) rfl rfl ?_ | refine lc rfl rfl (St.obj_set _ _ _) (by assumption) rfl ?_ | refine lc rfl rfl (by assumption) rfl rfl ?_ | refine lc rfl rfl (by assumption) (by assumption) rfl ?_ | refine inc rfl rfl rfl (by omega) ?_ | refine bs1 rfl rfl rfl rfl rfl rfl ?_ | refine bxe rfl rfl rfl rfl ?_ | refine eqn rfl rfl ?_ | refine eqb rfl rfl rfl ?_ | refine neb rfl rfl rfl ?_)
              repeat (first | refine nl ?_ | refine AWP.seq ?_ | refine AWP.skip ?_ | refine AWP.block ?_)
              refine AWP.cond_dec rfl (fun hd => ?_) (fun hd => AWP.skip ?_)
              · have hft : f = t := Int.ofNat_inj.1 hd
                repeat (first | refine nl ?_ | refine AWP.seq ?_ | refine AWP.skip ?_ | refine AWP.block ?_)
                refine rg ?_
                repeat (first | refine sm rfl ?_ | refine uw rfl ?_ | refine fa rfl rfl ?_ | refine leW rfl rfl rfl rfl rfl ?_ | refine leW rfl rfl rfl (by assumption) rfl ?_ | refine lcW rfl rfl rfl (St.obj_set _ _ _) rfl rfl ?_ | refine le rfl rfl rfl rfl ?_ | refine le rfl rfl (by assumption) rfl ?_ | refine lnv rfl rfl ?_ | refine lnm rfl rfl ?_ | refine ix rfl rfl rfl rfl (by assumption) ?_ | refine ixm rfl rfl rfl rfl (by assumption) ?_ | refine lc rfl rfl (St.obj_set _ _ _) rfl rfl ?_ | refine lc rfl rfl (St.obj_set _ _ _) (by assumption) rfl ?_ | refine lc rfl rfl (by assumption) rfl rfl ?_ | refine lc rfl rfl (by assumption) (by assumption) rfl ?_ | refine inc rfl rfl rfl (by omega) ?_ | refine bs1 rfl rfl rfl rfl rfl rfl ?_ | refine bxe rfl rfl rfl rfl ?_ | refine eqn rfl rfl ?_ | refine eqb rfl rfl rfl ?_ | refine neb rfl rfl rfl ?_)
                repeat (first | refine nl ?_ | refine AWP.seq ?_ | refine AWP.skip ?_ | refine AWP.block ?_)
                refine AWP.ret (rets rfl (.refl _) (StLe.new ho12 (.refl _)) (.inl ⟨tk, htk, ?_, rfl⟩))
                rw [hfo, if_pos hft]
                rw [if_pos hft] at hc'
                rw [if_pos (List.eq_nil_of_length_eq_zero (by omega))]
                rfl
              · have hft : f ≠ t := fun e => hd (Int.ofNat_inj.2 e)
                rw [if_neg hft] at hc'
                obtain ⟨s, rfl⟩ : ∃ s, ns = [s] := by
                  match ns, hc', hnx1 hft with
                  | [], _, h => exact absurd rfl h
                  | [s], _, _ => exact ⟨s, rfl⟩
                  | _ :: _ :: _, h, _ => simp at h
                obtain ⟨hsc, hslt⟩ := hsb s (by simp)
                have hk2 := hkt hft
                have hl2 := hnx2 s hft rfl
                rw [if_neg hft] at hfo
                have hom : (out.map siteRow).length ≤ 1000 := by simp only [List.length_map]; omega
                repeat (first | refine nl ?_ | refine AWP.seq ?_ | refine AWP.skip ?_ | refine AWP.block ?_)
                refine rg ?_
                repeat (first | refine sm rfl ?_ | refine uw rfl ?_ | refine fa rfl rfl ?_ | refine leW rfl rfl rfl rfl rfl ?_ | refine leW rfl rfl rfl (by assumption) rfl ?_ | refine lcW rfl rfl rfl (St.obj_set _ _ _) rfl rfl ?_ | refine le rfl rfl rfl rfl ?_ | refine le rfl rfl (by assumption) rfl ?_ | refine lnv rfl rfl ?_ | refine lnm rfl rfl ?_ | refine ix rfl rfl rfl rfl (by assumption) ?_ | refine ixm rfl rfl rfl rfl (by assumption) ?_ | refine lc rfl rfl (St.obj_set _ _ _) rfl rfl ?_ | refine lc rfl rfl (St.obj_set _ _ _) (by assumption) rfl ?_ | refine lc rfl rfl (by assumption) rfl rfl ?_ | refine lc rfl rfl (by assumption) (by assumption) rfl ?_ | refine inc rfl rfl rfl (by omega) ?_ | refine bs1 rfl rfl rfl rfl rfl rfl ?_ | refine bxe rfl rfl rfl rfl ?_ | refine eqn rfl rfl ?_ | refine eqb rfl rfl rfl ?_ | refine neb rfl rfl rfl ?_)
                refine cle rfl rfl (clone_ok _) ?_
                repeat (first | refine sm rfl ?_ | refine uw rfl ?_ | refine fa rfl rfl ?_ | refine leW rfl rfl rfl rfl rfl ?_ | refine leW rfl rfl rfl (by assumption) rfl ?_ | refine lcW rfl rfl rfl (St.obj_set _ _ _) rfl rfl ?_ | refine le rfl rfl rfl rfl ?_ | refine le rfl rfl (by assumption) rfl ?_ | refine lnv rfl rfl ?_ | refine lnm rfl rfl ?_ | refine ix rfl rfl rfl rfl (by assumption) ?_ | refine ixm rfl rfl rfl rfl (by assumption) ?_ | refine lc rfl rfl (St.obj_set _ _ _) rfl rfl ?_ | refine lc rfl rfl (St.obj_set _ _ _) (by assumption) rfl ?_ | refine lc rfl rfl (by assumption) rfl rfl ?_ | refine lc rfl rfl (by assumption) (by assumption) rfl ?_ | refine inc rfl rfl rfl (by omega) ?_ | refine bs1 rfl rfl rfl rfl rfl rfl ?_ | refine bxe rfl rfl rfl rfl ?_ | refine eqn rfl rfl ?_ | refine eqb rfl rfl rfl ?_ | refine neb rfl rfl rfl ?_)
                refine sos (rows' := [siteRow s]) rfl rfl rfl rfl rfl rfl rfl rfl ?_
                have hl0 : ([siteRow s]).length = 1 := rfl
                repeat (first | refine nl ?_ | refine AWP.seq ?_ | refine AWP.skip ?_ | refine AWP.block ?_)
                refine rg ?_
                repeat (first | refine sm rfl ?_ | refine uw rfl ?_ | refine fa rfl rfl ?_ | refine leW rfl rfl rfl rfl rfl ?_ | refine leW rfl rfl rfl (by assumption) rfl ?_ | refine lcW rfl rfl rfl (St.obj_set _ _ _) rfl rfl ?_ | refine le rfl rfl rfl rfl ?_ | refine le rfl rfl (by assumption) rfl ?_ | refine lnv rfl rfl ?_ | refine lnm rfl rfl ?_ | refine ix rfl rfl rfl rfl (by assumption) ?_ | refine ixm rfl rfl rfl rfl (by assumption) ?_ | refine lc rfl rfl (St.obj_set _ _ _) rfl rfl ?_ | refine lc rfl rfl (St.obj_set _ _ _) (by assumption) rfl ?_ | refine lc rfl rfl (by assumption) rfl rfl ?_ | refine lc rfl rfl (by assumption) (by assumption) rfl ?_ | refine inc rfl rfl rfl (by omega) ?_ | refine bs1 rfl rfl rfl rfl rfl rfl ?_ | refine bxe rfl rfl rfl rfl ?_ | refine eqn rfl rfl ?_ | refine eqb rfl rfl rfl ?_ | refine neb rfl rfl rfl ?_)
                refine ap rfl rfl rfl (St.tok_addTok _ _) rfl (by simp only [List.length_cons, List.length_nil]; omega) (by simp only [List.length_cons, List.length_nil, maxLen]; omega) fun tk' htk' => ?_
                repeat (first | refine sm rfl ?_ | refine uw rfl ?_ | refine fa rfl rfl ?_ | refine leW rfl rfl rfl rfl rfl ?_ | refine leW rfl rfl rfl (by assumption) rfl ?_ | refine lcW rfl rfl rfl (St.obj_set _ _ _) rfl rfl ?_ | refine le rfl rfl rfl rfl ?_ | refine le rfl rfl (by assumption) rfl ?_ | refine lnv rfl rfl ?_ | refine lnm rfl rfl ?_ | refine ix rfl rfl rfl rfl (by assumption) ?_ | refine ixm rfl rfl rfl rfl (by assumption) ?_ | refine lc rfl rfl (St.obj_set _ _ _) rfl rfl ?_ | refine lc rfl rfl (St.obj_set _ _ _) (by assumption) rfl ?_ | refine lc rfl rfl (by assumption) rfl rfl ?_ | refine lc rfl rfl (by assumption) (by assumption) rfl ?_ | refine inc rfl rfl rfl (by omega) ?_ | refine bs1 rfl rfl rfl rfl rfl rfl ?_ | refine bxe rfl rfl rfl rfl ?_ | refine eqn rfl rfl ?_ | refine eqb rfl rfl rfl ?_ | refine neb rfl rfl rfl ?_)
                repeat (first | refine nl ?_ | refine AWP.seq ?_ | refine AWP.skip ?_ | refine AWP.block ?_)
                refine rg ?_
                repeat (first | refine sm rfl ?_ | refine uw rfl ?_ | refine fa rfl rfl ?_ | refine leW rfl rfl rfl rfl rfl ?_ | refine leW rfl rfl rfl (by assumption) rfl ?_ | refine lcW rfl rfl rfl (St.obj_set _ _ _) rfl rfl ?_ | refine le rfl rfl rfl rfl ?_ | refine le rfl rfl (by assumption) rfl ?_ | refine lnv rfl rfl ?_ | refine lnm rfl rfl ?_ | refine ix rfl rfl rfl rfl (by assumption) ?_ | refine ixm rfl rfl rfl rfl (by assumption) ?_ | refine lc rfl rfl (St.obj_set _ _ _) rfl rfl ?_ | refine lc rfl rfl (St.obj_set _ _ _) (by assumption) rfl ?_ | refine lc rfl rfl (by assumption) rfl rfl ?_ | refine lc rfl rfl (by assumption) (by assumption) rfl ?_ | refine inc rfl rfl rfl (by omega) ?_ | refine bs1 rfl rfl rfl rfl rfl rfl ?_ | refine bxe rfl rfl rfl rfl ?_ | refine eqn rfl rfl ?_ | refine eqb rfl rfl rfl ?_ | refine neb rfl rfl rfl ?_)
                refine nl ⟨(k + 1, s.2.1.toNat, out ++ [s], tk'), ⟨hk2, hslt, ?_, hl2, by simp [hol], St.tok_of_add htk'⟩, by simp only; omega, ?_, StLe.new (st := ((st.addTok tk).untok tk).addTok tk') ho12 (StLe.reTok htk tk')⟩
                · rw [hfo, show ps.length + 1 - (k + 1) = ps.length - k by omega]
                · refine TLe.consE rfl ?_ (TLe.consE rfl ?_ (tl3 rfl rfl rfl))
                  · exact congrArg _ hsc
                  · simp only [List.map_append, List.map_cons, List.map_nil, AV.cells]
theorem route_ok (ps : List (List Site)) (hs : Small ps) (a b : Int) (st : St) :
    ACalls Try.prog 6 [dbg ps, .int .i64 a, .int .i64 b] st (fun v st' => v = routeV (route ps a b) ∧ st' = st) (fun _ _ => False) := by
  refine (route_own ps hs a b st).le fun v st' h => ?_
  rcases h with ⟨tk, _, rfl, rfl⟩ | ⟨h, rfl, rfl⟩
  · exact ⟨_, _, Le.pair (.shared _ _ _), StLe.addTok _ (.refl _), rfl, rfl⟩
  · refine ⟨_, _, Le.pair (.nilShared 0 6), .refl _, ?_, rfl⟩
    rw [routeV, h]
    rfl
end Go.Proofs
