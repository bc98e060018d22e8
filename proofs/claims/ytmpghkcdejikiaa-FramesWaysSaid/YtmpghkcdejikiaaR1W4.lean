/- The walk of leading. No conditions: lemmas only. -/
import Derived.Test.YtmpghkcdejikiaaR1W3
import Derived.Test.YtmpghkcdejikiaaR1L2
namespace Go.Proofs
open Go.AM

set_option maxHeartbeats 4000000 in
theorem leading_ok (ps : List (List Site)) (hs : Small ps) (t : Nat) (ht : t < ps.length) (st : St) :
    ACalls Try.prog 12 [dbg ps, .int .i64 t] st (fun v st' => v = .view 1 ((inn ps t).map brow) .shared ∧ st' = st) (fun _ _ => False) := by
  have hfew := hs.few
  have hpl : (ps.map procRow).length = ps.length := List.length_map ..
  refine ACalls.ofBody Try.func12 rfl Try.ntmps12 rfl ?_
  repeat (first | refine nl ?_ | refine AWP.seq ?_ | refine rg ?_ | refine AWP.skip ?_ | refine AWP.block ?_ | refine sm rfl ?_ | refine uw rfl ?_ | refine fa rfl rfl ?_ | refine leW rfl rfl rfl rfl rfl ?_ | refine leW rfl rfl rfl (by assumption) rfl ?_ | refine lcW rfl rfl rfl (St.obj_set _ _ _) rfl rfl ?_ | refine le rfl rfl rfl rfl ?_ | refine le rfl rfl (by assumption) rfl ?_ | refine lnv rfl rfl ?_ | refine lnm rfl rfl ?_ | refine ix rfl rfl rfl rfl (by assumption) ?_ | refine ixm rfl rfl rfl rfl (by assumption) ?_ | refine lc rfl rfl (St.obj_set _ _ _) rfl rfl ?_ | refine lc rfl rfl (St.obj_set _ _ _) (by assumption) rfl ?_ | refine lc rfl rfl (by assumption) rfl rfl ?_ | refine lc rfl rfl (by assumption) (by assumption) rfl ?_ | refine inc rfl rfl rfl (by omega) ?_ | refine bs1 rfl rfl rfl rfl rfl rfl ?_ | refine bxe rfl rfl rfl rfl ?_)
  refine mk (k := .i64) (k' := .i64) (len := (ps.map procRow).length) (cap := (ps.map procRow).length) rfl rfl rfl rfl (Nat.le_refl _) (by omega) (by omega) fun o ho => ?_
  repeat (first | refine nl ?_ | refine AWP.seq ?_ | refine rg ?_ | refine AWP.skip ?_ | refine AWP.block ?_ | refine sm rfl ?_ | refine uw rfl ?_ | refine fa rfl rfl ?_ | refine leW rfl rfl rfl rfl rfl ?_ | refine leW rfl rfl rfl (by assumption) rfl ?_ | refine lcW rfl rfl rfl (St.obj_set _ _ _) rfl rfl ?_ | refine le rfl rfl rfl rfl ?_ | refine le rfl rfl (by assumption) rfl ?_ | refine lnv rfl rfl ?_ | refine lnm rfl rfl ?_ | refine ix rfl rfl rfl rfl (by assumption) ?_ | refine ixm rfl rfl rfl rfl (by assumption) ?_ | refine lc rfl rfl (St.obj_set _ _ _) rfl rfl ?_ | refine lc rfl rfl (St.obj_set _ _ _) (by assumption) rfl ?_ | refine lc rfl rfl (by assumption) rfl rfl ?_ | refine lc rfl rfl (by assumption) (by assumption) rfl ?_ | refine inc rfl rfl rfl (by omega) ?_ | refine bs1 rfl rfl rfl rfl rfl rfl ?_ | refine bxe rfl rfl rfl rfl ?_)
  refine AWP.loop (α := Nat × List (List Nat × Option Nat))
    (fun x => [(22, .int .i64 x.1), (21, .int .i64 ps.length), (20, .view 11 (ps.map procRow) .shared), (5, .msl o 1 0 ps.length), (2, .eptr 5 [dbgCells ps] 0 0), (1, .int .i64 t)])
    (fun x => (st.set o (.cells 58 1 (x.2.map crow))).toks (x.2.map (·.2))) (fun x => x.1 ≤ ps.length ∧ CInv ps x.1 [] x.2 ∧ TokL st (x.2.map (·.2)) ∧ ∀ c ∈ x.2, c.1.length ≤ 1000 * x.1) (fun x => ps.length - x.1)
    (0, List.replicate ps.length ([], none)) ⟨Nat.zero_le _, CInv.start ps, by rw [List.map_replicate]; exact TokL.none _ _, fun c hc => by rw [(List.mem_replicate.1 hc).2]; exact Nat.zero_le _⟩
    (TLe.cons' rfl (TLe.consE rfl (by rw [hpl]) (TLe.cons' rfl (TLe.consE rfl (by rw [hpl]) (tl2 rfl rfl))))) (by
      rw [List.map_replicate, List.map_replicate, St.toks_none, hpl]
      exact .refl _) ?_
  rintro ⟨f, X⟩ ⟨hf, hC, hL, hB⟩
  repeat (first | refine nl ?_ | refine AWP.seq ?_ | refine rg ?_ | refine AWP.skip ?_ | refine AWP.block ?_ | refine sm rfl ?_ | refine uw rfl ?_ | refine fa rfl rfl ?_ | refine leW rfl rfl rfl rfl rfl ?_ | refine leW rfl rfl rfl (by assumption) rfl ?_ | refine lcW rfl rfl rfl (St.obj_set _ _ _) rfl rfl ?_ | refine le rfl rfl rfl rfl ?_ | refine le rfl rfl (by assumption) rfl ?_ | refine lnv rfl rfl ?_ | refine lnm rfl rfl ?_ | refine ix rfl rfl rfl rfl (by assumption) ?_ | refine ixm rfl rfl rfl rfl (by assumption) ?_ | refine lc rfl rfl (St.obj_set _ _ _) rfl rfl ?_ | refine lc rfl rfl (St.obj_set _ _ _) (by assumption) rfl ?_ | refine lc rfl rfl (by assumption) rfl rfl ?_ | refine lc rfl rfl (by assumption) (by assumption) rfl ?_ | refine inc rfl rfl rfl (by omega) ?_ | refine bs1 rfl rfl rfl rfl rfl rfl ?_ | refine bxe rfl rfl rfl rfl ?_)
  refine AWP.cond_dec rfl (fun h => AWP.skip ?_) (fun h => AWP.exit (blk_hit ?_))
  · have hf' : f < ps.length := by simpa using h
    have hfl : f < (ps.map procRow).length := by omega
    have hrow : (ps.map procRow)[f]? = some (procRow ps[f]) := by simp [hf']
    have hss : ps[f].length ≤ 1000 := hs.each _ (List.getElem_mem hf')
    refine AWP.weaken (tl6 (i0 := 22) (i1 := 21) (i2 := 20) (i3 := 5) (i4 := 2) (i5 := 1) rfl rfl rfl rfl rfl rfl) (.refl _) ?_
    repeat (first | refine nl ?_ | refine AWP.seq ?_ | refine rg ?_ | refine AWP.skip ?_ | refine AWP.block ?_ | refine sm rfl ?_ | refine uw rfl ?_ | refine fa rfl rfl ?_ | refine leW rfl rfl rfl rfl rfl ?_ | refine leW rfl rfl rfl (by assumption) rfl ?_ | refine lcW rfl rfl rfl (St.obj_set _ _ _) rfl rfl ?_ | refine le rfl rfl rfl rfl ?_ | refine le rfl rfl (by assumption) rfl ?_ | refine lnv rfl rfl ?_ | refine lnm rfl rfl ?_ | refine ix rfl rfl rfl rfl (by assumption) ?_ | refine ixm rfl rfl rfl rfl (by assumption) ?_ | refine lc rfl rfl (St.obj_set _ _ _) rfl rfl ?_ | refine lc rfl rfl (St.obj_set _ _ _) (by assumption) rfl ?_ | refine lc rfl rfl (by assumption) rfl rfl ?_ | refine lc rfl rfl (by assumption) (by assumption) rfl ?_ | refine inc rfl rfl rfl (by omega) ?_ | refine bs1 rfl rfl rfl rfl rfl rfl ?_ | refine bxe rfl rfl rfl rfl ?_)
    refine al rfl rfl fun o7 ho7 => ?_
    repeat (first | refine nl ?_ | refine AWP.seq ?_ | refine rg ?_ | refine AWP.skip ?_ | refine AWP.block ?_ | refine sm rfl ?_ | refine uw rfl ?_ | refine fa rfl rfl ?_ | refine leW rfl rfl rfl rfl rfl ?_ | refine leW rfl rfl rfl (by assumption) rfl ?_ | refine lcW rfl rfl rfl (St.obj_set _ _ _) rfl rfl ?_ | refine le rfl rfl rfl rfl ?_ | refine le rfl rfl (by assumption) rfl ?_ | refine lnv rfl rfl ?_ | refine lnm rfl rfl ?_ | refine ix rfl rfl rfl rfl (by assumption) ?_ | refine ixm rfl rfl rfl rfl (by assumption) ?_ | refine lc rfl rfl (St.obj_set _ _ _) rfl rfl ?_ | refine lc rfl rfl (St.obj_set _ _ _) (by assumption) rfl ?_ | refine lc rfl rfl (by assumption) rfl rfl ?_ | refine lc rfl rfl (by assumption) (by assumption) rfl ?_ | refine inc rfl rfl rfl (by omega) ?_ | refine bs1 rfl rfl rfl rfl rfl rfl ?_ | refine bxe rfl rfl rfl rfl ?_)
    refine soN 7 rfl rfl rfl rfl rfl rfl ho7 ?_
    repeat (first | refine nl ?_ | refine AWP.seq ?_ | refine rg ?_ | refine AWP.skip ?_ | refine AWP.block ?_ | refine sm rfl ?_ | refine uw rfl ?_ | refine fa rfl rfl ?_ | refine leW rfl rfl rfl rfl rfl ?_ | refine leW rfl rfl rfl (by assumption) rfl ?_ | refine lcW rfl rfl rfl (St.obj_set _ _ _) rfl rfl ?_ | refine le rfl rfl rfl rfl ?_ | refine le rfl rfl (by assumption) rfl ?_ | refine lnv rfl rfl ?_ | refine lnm rfl rfl ?_ | refine ix rfl rfl rfl rfl (by assumption) ?_ | refine ixm rfl rfl rfl rfl (by assumption) ?_ | refine lc rfl rfl (St.obj_set _ _ _) rfl rfl ?_ | refine lc rfl rfl (St.obj_set _ _ _) (by assumption) rfl ?_ | refine lc rfl rfl (by assumption) rfl rfl ?_ | refine lc rfl rfl (by assumption) (by assumption) rfl ?_ | refine inc rfl rfl rfl (by omega) ?_ | refine bs1 rfl rfl rfl rfl rfl rfl ?_ | refine bxe rfl rfl rfl rfl ?_)
    refine AWP.loop (α := Nat × List (List Nat × Option Nat))
      (fun x => [(30, .int .i64 x.1), (29, .int .i64 ps[f].length), (28, .view 6 (ps[f].map siteRow) .shared), (6, .int .i64 f), (22, .int .i64 f), (21, .int .i64 ps.length), (20, .view 11 (ps.map procRow) .shared), (5, .msl o 1 0 ps.length), (2, .eptr 5 [dbgCells ps] 0 0), (1, .int .i64 t)])
      (fun x => (st.set o (.cells 58 1 (x.2.map crow))).toks (x.2.map (·.2)))
      (fun x => x.1 ≤ ps[f].length ∧ CInv ps f (((ps[f].take x.1).filter (isTail ps.length)).map fun s => s.2.1.toNat) x.2 ∧ TokL st (x.2.map (·.2)) ∧ ∀ c ∈ x.2, c.1.length ≤ 1000 * f + x.1) (fun x => ps[f].length - x.1)
      (0, X) ⟨Nat.zero_le _, hC, hL, hB⟩
      (TLe.cons' rfl (TLe.consE rfl (by rw [List.length_map]) (tl8 rfl rfl rfl rfl rfl rfl rfl rfl))) (.refl _) ?_
    rintro ⟨i, X⟩ ⟨hi, hC, hL, hB⟩
    repeat (first | refine nl ?_ | refine AWP.seq ?_ | refine rg ?_ | refine AWP.skip ?_ | refine AWP.block ?_ | refine sm rfl ?_ | refine uw rfl ?_ | refine fa rfl rfl ?_ | refine leW rfl rfl rfl rfl rfl ?_ | refine leW rfl rfl rfl (by assumption) rfl ?_ | refine lcW rfl rfl rfl (St.obj_set _ _ _) rfl rfl ?_ | refine le rfl rfl rfl rfl ?_ | refine le rfl rfl (by assumption) rfl ?_ | refine lnv rfl rfl ?_ | refine lnm rfl rfl ?_ | refine ix rfl rfl rfl rfl (by assumption) ?_ | refine ixm rfl rfl rfl rfl (by assumption) ?_ | refine lc rfl rfl (St.obj_set _ _ _) rfl rfl ?_ | refine lc rfl rfl (St.obj_set _ _ _) (by assumption) rfl ?_ | refine lc rfl rfl (by assumption) rfl rfl ?_ | refine lc rfl rfl (by assumption) (by assumption) rfl ?_ | refine inc rfl rfl rfl (by omega) ?_ | refine bs1 rfl rfl rfl rfl rfl rfl ?_ | refine bxe rfl rfl rfl rfl ?_)
    refine AWP.cond_dec rfl (fun h => AWP.skip ?_) (fun h => AWP.exit (blk_hit ?_))
    · have hi' : i < ps[f].length := by simpa using h
      have hsite : (ps[f].map siteRow)[i]? = some (siteRow ps[f][i]) := by simp [hi']
      have hsl : i < (ps[f].map siteRow).length := by simpa using hi'
      refine AWP.weaken (tl10 (i0 := 30) (i1 := 29) (i2 := 28) (i3 := 6) (i4 := 22) (i5 := 21) (i6 := 20) (i7 := 5) (i8 := 2) (i9 := 1) rfl rfl rfl rfl rfl rfl rfl rfl rfl rfl) (.refl _) ?_
      repeat (first | refine nl ?_ | refine AWP.seq ?_ | refine rg ?_ | refine AWP.skip ?_ | refine AWP.block ?_ | refine sm rfl ?_ | refine uw rfl ?_ | refine fa rfl rfl ?_ | refine leW rfl rfl rfl rfl rfl ?_ | refine leW rfl rfl rfl (by assumption) rfl ?_ | refine lcW rfl rfl rfl (St.obj_set _ _ _) rfl rfl ?_ | refine le rfl rfl rfl rfl ?_ | refine le rfl rfl (by assumption) rfl ?_ | refine lnv rfl rfl ?_ | refine lnm rfl rfl ?_ | refine ix rfl rfl rfl rfl (by assumption) ?_ | refine ixm rfl rfl rfl rfl (by assumption) ?_ | refine lc rfl rfl (St.obj_set _ _ _) rfl rfl ?_ | refine lc rfl rfl (St.obj_set _ _ _) (by assumption) rfl ?_ | refine lc rfl rfl (by assumption) rfl rfl ?_ | refine lc rfl rfl (by assumption) (by assumption) rfl ?_ | refine inc rfl rfl rfl (by omega) ?_ | refine bs1 rfl rfl rfl rfl rfl rfl ?_ | refine bxe rfl rfl rfl rfl ?_)
      refine al rfl rfl fun o9 ho9 => ?_
      refine soN 9 rfl rfl rfl rfl rfl rfl ho9 (nl ?_)
      refine AWP.weaken (tl11 (i0 := 9) (i1 := 30) (i2 := 29) (i3 := 28) (i4 := 6) (i5 := 22) (i6 := 21) (i7 := 20) (i8 := 5) (i9 := 2) (i10 := 1) rfl rfl rfl rfl rfl rfl rfl rfl rfl rfl rfl) (.refl _) ?_
      refine tst 48 (.bool (isTail ps.length ps[f][i])) (rg ?_) ?_
      · refine fa rfl rfl ?_
        refine le rfl rfl rfl rfl ?_
        refine sm rfl ?_
        refine AOps.splitB 36 rfl (fun ht => ?_) (fun ht => ?_)
        · refine fa rfl rfl ?_
          refine le rfl rfl rfl rfl ?_
          refine sm rfl ?_
          refine sm rfl ?_
          refine sm rfl ?_
          refine AOps.split 41 rfl (fun h0 => ?_) (fun h0 => ?_)
          · repeat (first | refine sm rfl ?_ | refine uw rfl ?_ | refine fa rfl rfl ?_ | refine leW rfl rfl rfl rfl rfl ?_ | refine leW rfl rfl rfl (by assumption) rfl ?_ | refine lcW rfl rfl rfl (St.obj_set _ _ _) rfl rfl ?_ | refine le rfl rfl rfl rfl ?_ | refine le rfl rfl (by assumption) rfl ?_ | refine lnv rfl rfl ?_ | refine lnm rfl rfl ?_ | refine ix rfl rfl rfl rfl (by assumption) ?_ | refine ixm rfl rfl rfl rfl (by assumption) ?_ | refine lc rfl rfl (St.obj_set _ _ _) rfl rfl ?_ | refine lc rfl rfl (St.obj_set _ _ _) (by assumption) rfl ?_ | refine lc rfl rfl (by assumption) rfl rfl ?_ | refine lc rfl rfl (by assumption) (by assumption) rfl ?_ | refine inc rfl rfl rfl (by omega) ?_ | refine bs1 rfl rfl rfl rfl rfl rfl ?_ | refine bxe rfl rfl rfl rfl ?_)
            exact nl ⟨TLe.consE rfl (by simp [isTail, ht, h0]) (tl11 rfl rfl rfl rfl rfl rfl rfl rfl rfl rfl rfl), .refl _⟩
          · repeat (first | refine sm rfl ?_ | refine uw rfl ?_ | refine fa rfl rfl ?_ | refine leW rfl rfl rfl rfl rfl ?_ | refine leW rfl rfl rfl (by assumption) rfl ?_ | refine lcW rfl rfl rfl (St.obj_set _ _ _) rfl rfl ?_ | refine le rfl rfl rfl rfl ?_ | refine le rfl rfl (by assumption) rfl ?_ | refine lnv rfl rfl ?_ | refine lnm rfl rfl ?_ | refine ix rfl rfl rfl rfl (by assumption) ?_ | refine ixm rfl rfl rfl rfl (by assumption) ?_ | refine lc rfl rfl (St.obj_set _ _ _) rfl rfl ?_ | refine lc rfl rfl (St.obj_set _ _ _) (by assumption) rfl ?_ | refine lc rfl rfl (by assumption) rfl rfl ?_ | refine lc rfl rfl (by assumption) (by assumption) rfl ?_ | refine inc rfl rfl rfl (by omega) ?_ | refine bs1 rfl rfl rfl rfl rfl rfl ?_ | refine bxe rfl rfl rfl rfl ?_)
            exact nl ⟨TLe.consE rfl (by simp [isTail, ht, h0, absV, abs1]) (tl11 rfl rfl rfl rfl rfl rfl rfl rfl rfl rfl rfl), .refl _⟩
        · repeat (first | refine sm rfl ?_ | refine uw rfl ?_ | refine fa rfl rfl ?_ | refine leW rfl rfl rfl rfl rfl ?_ | refine leW rfl rfl rfl (by assumption) rfl ?_ | refine lcW rfl rfl rfl (St.obj_set _ _ _) rfl rfl ?_ | refine le rfl rfl rfl rfl ?_ | refine le rfl rfl (by assumption) rfl ?_ | refine lnv rfl rfl ?_ | refine lnm rfl rfl ?_ | refine ix rfl rfl rfl rfl (by assumption) ?_ | refine ixm rfl rfl rfl rfl (by assumption) ?_ | refine lc rfl rfl (St.obj_set _ _ _) rfl rfl ?_ | refine lc rfl rfl (St.obj_set _ _ _) (by assumption) rfl ?_ | refine lc rfl rfl (by assumption) rfl rfl ?_ | refine lc rfl rfl (by assumption) (by assumption) rfl ?_ | refine inc rfl rfl rfl (by omega) ?_ | refine bs1 rfl rfl rfl rfl rfl rfl ?_ | refine bxe rfl rfl rfl rfl ?_)
          exact nl ⟨TLe.consE rfl (by simp [isTail, ht, absV, abs1]) (tl11 rfl rfl rfl rfl rfl rfl rfl rfl rfl rfl rfl), .refl _⟩
      · refine AWP.cond_bool rfl (fun hb => ?_) (fun hb => AWP.skip ?_)
        · have hb' := hb
          simp only [isTail, Bool.and_eq_true, decide_eq_true_eq] at hb'
          obtain ⟨c, hc⟩ := Int.eq_ofNat_of_zero_le hb'.2.1
          have hcl : c < ps.length := by omega
          have hcX : c < X.length := by rw [hC.len]; exact hcl
          have hXc : X[c]? = some X[c] := List.getElem?_eq_getElem hcX
          have hXrow : (X.map crow)[0 + c]? = some (crow X[c]) := by rw [Nat.zero_add]; simp [hcX]
          have hLc : (X.map (·.2))[c]? = some X[c].2 := by simp [hcX]
          have hBc := hB X[c] (List.getElem_mem hcX)
          have hobj : ((st.set o (.cells 58 1 (X.map crow))).toks (X.map (·.2))).obj o = some (.cells 58 1 (X.map crow)) := St.obj_set _ _ _
          have hobj' : ((st.set o (.cells 58 1 (X.map crow))).toks (X.map (·.2))).notok.obj o = some (.cells 58 1 (X.map crow)) := St.obj_set _ _ _
          refine AWP.draw rfl 11 10 (fun u st1 => ∃ k', TokL (st.set o (.cells 58 1 (X.map crow))) ((X.map (·.2)).set c (some k')) ∧ u = .view 1 (X[c].1.map irow ++ [irow f]) (.own k' 3) ∧ st1 = (st.set o (.cells 58 1 (X.map crow))).toks ((X.map (·.2)).set c (some k'))) rfl ?_
          repeat (first | refine ds rfl rfl ?_ | refine du rfl rfl rfl ?_ | refine dq rfl rfl rfl (fun st1 hle => leW rfl rfl rfl rfl rfl (nl ⟨_, rfl, rfl, rfl⟩)) ?_ | refine dq rfl rfl rfl (fun st1 hle => leW rfl rfl rfl (by assumption) rfl (nl ⟨_, rfl, rfl, rfl⟩)) ?_ | refine dq rfl rfl rfl (fun st1 hle => le rfl rfl rfl rfl (nl ⟨_, rfl, rfl, rfl⟩)) ?_ | refine dq rfl rfl rfl (fun st1 hle => le rfl rfl (by assumption) rfl (nl ⟨_, rfl, rfl, rfl⟩)) ?_ | refine dq rfl rfl rfl (fun st1 hle => fa rfl rfl (nl ⟨_, rfl, rfl, rfl⟩)) ?_ | refine dq rfl rfl rfl (fun st1 hle => lnv rfl rfl (nl ⟨_, rfl, rfl, rfl⟩)) ?_ | refine dq rfl rfl rfl (fun st1 hle => lnm rfl rfl (nl ⟨_, rfl, rfl, rfl⟩)) ?_ | refine dq rfl rfl rfl (fun st1 hle => ix rfl rfl rfl rfl (by assumption) (nl ⟨_, rfl, rfl, rfl⟩)) ?_ | refine dq rfl rfl rfl (fun st1 hle => ixm rfl rfl rfl rfl (by assumption) (nl ⟨_, rfl, rfl, rfl⟩)) ?_ | refine dq rfl rfl rfl (fun st1 hle => lc rfl rfl (hle.obj _ _ (by assumption)) rfl rfl (nl ⟨_, rfl, rfl, rfl⟩)) ?_ | refine dq rfl rfl rfl (fun st1 hle => lc rfl rfl (hle.obj _ _ (by assumption)) (by assumption) rfl (nl ⟨_, rfl, rfl, rfl⟩)) ?_ | refine dq rfl rfl rfl (fun st1 hle => bs1 rfl rfl rfl rfl rfl rfl (nl ⟨_, rfl, rfl, rfl⟩)) ?_)
          refine dq rfl rfl rfl (fun st1 hle => ixm rfl rfl rfl hc hcl (nl ⟨_, rfl, rfl, rfl⟩)) ?_
          refine dq rfl rfl rfl (fun st1 hle => lc rfl rfl (hle.obj _ _ hobj') hXrow rfl (nl ⟨_, rfl, rfl, rfl⟩)) ?_
          repeat (first | refine ds rfl rfl ?_ | refine du rfl rfl rfl ?_ | refine dq rfl rfl rfl (fun st1 hle => leW rfl rfl rfl rfl rfl (nl ⟨_, rfl, rfl, rfl⟩)) ?_ | refine dq rfl rfl rfl (fun st1 hle => leW rfl rfl rfl (by assumption) rfl (nl ⟨_, rfl, rfl, rfl⟩)) ?_ | refine dq rfl rfl rfl (fun st1 hle => le rfl rfl rfl rfl (nl ⟨_, rfl, rfl, rfl⟩)) ?_ | refine dq rfl rfl rfl (fun st1 hle => le rfl rfl (by assumption) rfl (nl ⟨_, rfl, rfl, rfl⟩)) ?_ | refine dq rfl rfl rfl (fun st1 hle => fa rfl rfl (nl ⟨_, rfl, rfl, rfl⟩)) ?_ | refine dq rfl rfl rfl (fun st1 hle => lnv rfl rfl (nl ⟨_, rfl, rfl, rfl⟩)) ?_ | refine dq rfl rfl rfl (fun st1 hle => lnm rfl rfl (nl ⟨_, rfl, rfl, rfl⟩)) ?_ | refine dq rfl rfl rfl (fun st1 hle => ix rfl rfl rfl rfl (by assumption) (nl ⟨_, rfl, rfl, rfl⟩)) ?_ | refine dq rfl rfl rfl (fun st1 hle => ixm rfl rfl rfl rfl (by assumption) (nl ⟨_, rfl, rfl, rfl⟩)) ?_ | refine dq rfl rfl rfl (fun st1 hle => lc rfl rfl (hle.obj _ _ (by assumption)) rfl rfl (nl ⟨_, rfl, rfl, rfl⟩)) ?_ | refine dq rfl rfl rfl (fun st1 hle => lc rfl rfl (hle.obj _ _ (by assumption)) (by assumption) rfl (nl ⟨_, rfl, rfl, rfl⟩)) ?_ | refine dq rfl rfl rfl (fun st1 hle => bs1 rfl rfl rfl rfl rfl rfl (nl ⟨_, rfl, rfl, rfl⟩)) ?_)
          refine de rfl rfl rfl (apx c rfl rfl rfl (TokL.set' hL) hLc (fun h => by rw [hC.nil c _ hXc h]; rfl) rfl (by simp only [List.length_map, List.length_cons, List.length_nil]; omega) (by simp only [List.length_map, List.length_cons, List.length_nil, maxLen]; omega) fun k' hk' => nl ⟨_, rfl, ⟨k', hk', rfl, rfl⟩, ⟨fun _ _ h => h, (fun _ h => nomatch h), rfl⟩⟩) ?_
          refine dn ⟨fun h => absurd h (by decide), fun _ v st1 d hd ⟨k', hk', hv, hst⟩ => ?_⟩
          cases hd
          subst hv
          subst hst
          refine ixm rfl rfl rfl hc hcl ?_
          have hset : (X.map crow).set (0 + c) (rowSet (crow X[c]) 0 (AV.view 1 (X[c].1.map irow ++ [irow f]) (.own k' 3)).cells) = (X.set c (X[c].1 ++ [f], some k')).map crow := by
            rw [← crow_set]
            simp only [crow, slot, List.map_append, List.map_cons, List.map_nil]
            rfl
          refine so rfl rfl rfl (St.obj_set _ _ _) hXrow rfl rfl rfl hset ?_
          have hC' := hC.step (k' := k') hXc
          rw [St.toks_set]
          repeat (first | refine nl ?_ | refine AWP.seq ?_ | refine rg ?_ | refine AWP.skip ?_ | refine AWP.block ?_ | refine sm rfl ?_ | refine uw rfl ?_ | refine fa rfl rfl ?_ | refine leW rfl rfl rfl rfl rfl ?_ | refine leW rfl rfl rfl (by assumption) rfl ?_ | refine lcW rfl rfl rfl (St.obj_set _ _ _) rfl rfl ?_ | refine le rfl rfl rfl rfl ?_ | refine le rfl rfl (by assumption) rfl ?_ | refine lnv rfl rfl ?_ | refine lnm rfl rfl ?_ | refine ix rfl rfl rfl rfl (by assumption) ?_ | refine ixm rfl rfl rfl rfl (by assumption) ?_ | refine lc rfl rfl (St.obj_set _ _ _) rfl rfl ?_ | refine lc rfl rfl (St.obj_set _ _ _) (by assumption) rfl ?_ | refine lc rfl rfl (by assumption) rfl rfl ?_ | refine lc rfl rfl (by assumption) (by assumption) rfl ?_ | refine inc rfl rfl rfl (by omega) ?_ | refine bs1 rfl rfl rfl rfl rfl rfl ?_ | refine bxe rfl rfl rfl rfl ?_)
          refine ⟨(i + 1, X.set c (X[c].1 ++ [f], some k')), ⟨hi', ?_, ?_, ?_⟩, by simp only; omega, tl10 rfl rfl rfl rfl rfl rfl rfl rfl rfl rfl, ?_⟩
          · have hcn : ps[f][i].2.1.toNat = c := by omega
            simp only [List.take_add_one, List.getElem?_eq_getElem hi', Option.toList_some, List.filter_append, List.filter_cons, hb, if_true, List.filter_nil, List.map_append, List.map_cons, List.map_nil, hcn]
            exact hC'
          · rw [List.map_set]
            exact TokL.same hk'
          · intro y hy
            rcases List.mem_or_eq_of_mem_set hy with h | rfl
            · have := hB y h
              simp only at this ⊢
              omega
            · simp only [List.length_append, List.length_cons, List.length_nil]
              simp only at hBc
              omega
          · simp only [List.map_set]
            exact .refl _
        · repeat (first | refine nl ?_ | refine AWP.seq ?_ | refine rg ?_ | refine AWP.skip ?_ | refine AWP.block ?_ | refine sm rfl ?_ | refine uw rfl ?_ | refine fa rfl rfl ?_ | refine leW rfl rfl rfl rfl rfl ?_ | refine leW rfl rfl rfl (by assumption) rfl ?_ | refine lcW rfl rfl rfl (St.obj_set _ _ _) rfl rfl ?_ | refine le rfl rfl rfl rfl ?_ | refine le rfl rfl (by assumption) rfl ?_ | refine lnv rfl rfl ?_ | refine lnm rfl rfl ?_ | refine ix rfl rfl rfl rfl (by assumption) ?_ | refine ixm rfl rfl rfl rfl (by assumption) ?_ | refine lc rfl rfl (St.obj_set _ _ _) rfl rfl ?_ | refine lc rfl rfl (St.obj_set _ _ _) (by assumption) rfl ?_ | refine lc rfl rfl (by assumption) rfl rfl ?_ | refine lc rfl rfl (by assumption) (by assumption) rfl ?_ | refine inc rfl rfl rfl (by omega) ?_ | refine bs1 rfl rfl rfl rfl rfl rfl ?_ | refine bxe rfl rfl rfl rfl ?_)
          refine ⟨(i + 1, X), ⟨hi', ?_, hL, fun y hy => by have := hB y hy; simp only at this ⊢; omega⟩, by simp only; omega, tl10 rfl rfl rfl rfl rfl rfl rfl rfl rfl rfl, .refl _⟩
          simp only [List.take_add_one, List.getElem?_eq_getElem hi', Option.toList_some, List.filter_append, List.filter_cons, hb, List.filter_nil, Bool.false_eq_true, if_false, List.append_nil]
          exact hC
    · have hi' : i = ps[f].length := by
        have : ¬ i < ps[f].length := by simpa using h
        simp only at hi
        omega
      subst hi'
      have hed : ((ps[f].take ps[f].length).filter (isTail ps.length)).map (fun s : Site => s.2.1.toNat) = edge ps f := by
        simp [edge, tls, hf']
      rw [hed] at hC
      repeat (first | refine nl ?_ | refine AWP.seq ?_ | refine rg ?_ | refine AWP.skip ?_ | refine AWP.block ?_ | refine sm rfl ?_ | refine uw rfl ?_ | refine fa rfl rfl ?_ | refine leW rfl rfl rfl rfl rfl ?_ | refine leW rfl rfl rfl (by assumption) rfl ?_ | refine lcW rfl rfl rfl (St.obj_set _ _ _) rfl rfl ?_ | refine le rfl rfl rfl rfl ?_ | refine le rfl rfl (by assumption) rfl ?_ | refine lnv rfl rfl ?_ | refine lnm rfl rfl ?_ | refine ix rfl rfl rfl rfl (by assumption) ?_ | refine ixm rfl rfl rfl rfl (by assumption) ?_ | refine lc rfl rfl (St.obj_set _ _ _) rfl rfl ?_ | refine lc rfl rfl (St.obj_set _ _ _) (by assumption) rfl ?_ | refine lc rfl rfl (by assumption) rfl rfl ?_ | refine lc rfl rfl (by assumption) (by assumption) rfl ?_ | refine inc rfl rfl rfl (by omega) ?_ | refine bs1 rfl rfl rfl rfl rfl rfl ?_ | refine bxe rfl rfl rfl rfl ?_)
      exact ⟨(f + 1, X), ⟨hf', hC.next, hL, fun y hy => by have := hB y hy; simp only at this ⊢; omega⟩, by simp only; omega, tl6 rfl rfl rfl rfl rfl rfl, .refl _⟩
  · have hf' : f = ps.length := by
      have : ¬ f < ps.length := by simpa using h
      simp only at hf
      omega
    subst hf'
    have hXl : (X.map crow).length = ps.length := by rw [List.length_map]; exact hC.len
    have hSl : (X.map srow).length = ps.length := by rw [List.length_map]; exact hC.len
    refine AWP.freeze 5 rfl (St.obj_set _ _ _) (by rw [Nat.zero_add, hXl]; exact Nat.le_refl _) ?_
    rw [show ((X.map crow).drop 0).take ps.length = X.map crow from by rw [List.drop_zero, List.take_of_length_le (by rw [hXl]; exact Nat.le_refl _)]]
    refine AWP.weaken (T' := [(5, .view 1 (X.map srow) .shared), (2, .eptr 5 [dbgCells ps] 0 0), (1, .int .i64 t)]) (TLe.cons rfl (crow_le hC.nil) (tl2 rfl rfl)) (StLe.toksDrop ho) ?_
    repeat (first | refine nl ?_ | refine AWP.seq ?_ | refine rg ?_ | refine AWP.skip ?_ | refine AWP.block ?_ | refine sm rfl ?_ | refine uw rfl ?_ | refine fa rfl rfl ?_ | refine leW rfl rfl rfl rfl rfl ?_ | refine leW rfl rfl rfl (by assumption) rfl ?_ | refine lcW rfl rfl rfl (St.obj_set _ _ _) rfl rfl ?_ | refine le rfl rfl rfl rfl ?_ | refine le rfl rfl (by assumption) rfl ?_ | refine lnv rfl rfl ?_ | refine lnm rfl rfl ?_ | refine ix rfl rfl rfl rfl (by assumption) ?_ | refine ixm rfl rfl rfl rfl (by assumption) ?_ | refine lc rfl rfl (St.obj_set _ _ _) rfl rfl ?_ | refine lc rfl rfl (St.obj_set _ _ _) (by assumption) rfl ?_ | refine lc rfl rfl (by assumption) rfl rfl ?_ | refine lc rfl rfl (by assumption) (by assumption) rfl ?_ | refine inc rfl rfl rfl (by omega) ?_ | refine bs1 rfl rfl rfl rfl rfl rfl ?_ | refine bxe rfl rfl rfl rfl ?_)
    refine mk (k := .i64) (k' := .i64) (len := (ps.map procRow).length) (cap := (ps.map procRow).length) rfl rfl rfl rfl (Nat.le_refl _) (by omega) (by omega) fun o2 ho2 => ?_
    have htl : t < (ps.map procRow).length := by omega
    have hz : (List.replicate (ps.map procRow).length (zrow (.bool false)))[t]? = some [.bool false] := by rw [List.getElem?_replicate, if_pos htl]; rfl
    repeat (first | refine nl ?_ | refine AWP.seq ?_ | refine rg ?_ | refine AWP.skip ?_ | refine AWP.block ?_ | refine sm rfl ?_ | refine uw rfl ?_ | refine fa rfl rfl ?_ | refine leW rfl rfl rfl rfl rfl ?_ | refine leW rfl rfl rfl (by assumption) rfl ?_ | refine lcW rfl rfl rfl (St.obj_set _ _ _) rfl rfl ?_ | refine le rfl rfl rfl rfl ?_ | refine le rfl rfl (by assumption) rfl ?_ | refine lnv rfl rfl ?_ | refine lnm rfl rfl ?_ | refine ix rfl rfl rfl rfl (by assumption) ?_ | refine ixm rfl rfl rfl rfl (by assumption) ?_ | refine lc rfl rfl (St.obj_set _ _ _) rfl rfl ?_ | refine lc rfl rfl (St.obj_set _ _ _) (by assumption) rfl ?_ | refine lc rfl rfl (by assumption) rfl rfl ?_ | refine lc rfl rfl (by assumption) (by assumption) rfl ?_ | refine inc rfl rfl rfl (by omega) ?_ | refine bs1 rfl rfl rfl rfl rfl rfl ?_ | refine bxe rfl rfl rfl rfl ?_)
    refine sos rfl rfl rfl (by rw [Nat.zero_add]; exact hz) rfl rfl rfl rfl ?_
    have h0 : (List.replicate (ps.map procRow).length (zrow (.bool false))).set (0 + t) (rowSet [.bool false] 0 (absV (.bool true)).cells) = ((List.replicate ps.length false).set t true).map brow := by
      rw [Nat.zero_add, List.map_set, List.map_replicate, hpl]
      rfl
    rw [h0]
    repeat (first | refine nl ?_ | refine AWP.seq ?_ | refine AWP.skip ?_ | refine AWP.block ?_)
    refine rg ?_
    refine sm rfl ?_
    refine bso rfl rfl rfl rfl rfl rfl fun o3 ho3 => ?_
    have hne3 : o3 ≠ o2 := by rintro rfl; rw [St.obj_set] at ho3; cases ho3
    have hn3 : st.obj o3 = none := by rwa [St.obj_set_ne hne3] at ho3
    repeat (first | refine nl ?_ | refine AWP.seq ?_ | refine rg ?_ | refine AWP.skip ?_ | refine AWP.block ?_ | refine sm rfl ?_ | refine uw rfl ?_ | refine fa rfl rfl ?_ | refine leW rfl rfl rfl rfl rfl ?_ | refine leW rfl rfl rfl (by assumption) rfl ?_ | refine lcW rfl rfl rfl (St.obj_set _ _ _) rfl rfl ?_ | refine le rfl rfl rfl rfl ?_ | refine le rfl rfl (by assumption) rfl ?_ | refine lnv rfl rfl ?_ | refine lnm rfl rfl ?_ | refine ix rfl rfl rfl rfl (by assumption) ?_ | refine ixm rfl rfl rfl rfl (by assumption) ?_ | refine lc rfl rfl (St.obj_set _ _ _) rfl rfl ?_ | refine lc rfl rfl (St.obj_set _ _ _) (by assumption) rfl ?_ | refine lc rfl rfl (by assumption) rfl rfl ?_ | refine lc rfl rfl (by assumption) (by assumption) rfl ?_ | refine inc rfl rfl rfl (by omega) ?_ | refine bs1 rfl rfl rfl rfl rfl rfl ?_ | refine bxe rfl rfl rfl rfl ?_)
    refine AWP.loop (α := List Nat × List Nat × List Bool × Nat)
      (fun x => [(11, .msl x.2.2.2 1 0 x.1.length), (10, .msl o2 1 0 ps.length), (5, .view 1 (X.map srow) .shared), (2, .eptr 5 [dbgCells ps] 0 0)])
      (fun x => (st.set o2 (.cells 4 1 (x.2.2.1.map brow))).set x.2.2.2 (.cells 3 1 ((x.1 ++ x.2.1).map irow)))
      (fun x => DInv ps t x.2.2.1 x.1 none ∧ x.2.2.2 ≠ o2 ∧ st.obj x.2.2.2 = none) (fun x => 2 * x.2.2.1.count false + x.1.length)
      ([t], [], (List.replicate ps.length false).set t true, o3) ⟨DInv.start ht, hne3, hn3⟩
      (TLe.cons' rfl (TLe.consE rfl (by rw [hpl]) (tl2 rfl rfl))) (.refl _) ?_
    rintro ⟨S, Gb, bs, o3⟩ ⟨hD, hne3, hn3⟩
    repeat (first | refine nl ?_ | refine AWP.seq ?_ | refine rg ?_ | refine AWP.skip ?_ | refine AWP.block ?_ | refine sm rfl ?_ | refine uw rfl ?_ | refine fa rfl rfl ?_ | refine leW rfl rfl rfl rfl rfl ?_ | refine leW rfl rfl rfl (by assumption) rfl ?_ | refine lcW rfl rfl rfl (St.obj_set _ _ _) rfl rfl ?_ | refine le rfl rfl rfl rfl ?_ | refine le rfl rfl (by assumption) rfl ?_ | refine lnv rfl rfl ?_ | refine lnm rfl rfl ?_ | refine ix rfl rfl rfl rfl (by assumption) ?_ | refine ixm rfl rfl rfl rfl (by assumption) ?_ | refine lc rfl rfl (St.obj_set _ _ _) rfl rfl ?_ | refine lc rfl rfl (St.obj_set _ _ _) (by assumption) rfl ?_ | refine lc rfl rfl (by assumption) rfl rfl ?_ | refine lc rfl rfl (by assumption) (by assumption) rfl ?_ | refine inc rfl rfl rfl (by omega) ?_ | refine bs1 rfl rfl rfl rfl rfl rfl ?_ | refine bxe rfl rfl rfl rfl ?_)
    refine AWP.cond_dec rfl (fun h => AWP.skip ?_) (fun h => AWP.exit (blk_hit ?_))
    · have hS : S ≠ [] := by
        rintro rfl
        simp at h
      obtain ⟨S', f, rfl⟩ : ∃ S' f, S = S' ++ [f] := ⟨S.dropLast, S.getLast hS, (List.dropLast_concat_getLast hS).symm⟩
      have hfb : bs[f]? = some true := hD.stack f (by simp)
      have hfn : f < ps.length := by rw [← hD.len]; exact (List.getElem?_eq_some_iff.1 hfb).1
      have hfX : f < X.length := by rw [hC.len]; exact hfn
      have hSlen : (S' ++ [f]).length = S'.length + 1 := by simp
      have hSz := hD.size
      have hpop := hD.pop
      have hfrow : (((S' ++ [f]) ++ Gb).map irow)[0 + S'.length]? = some (irow f) := by
        rw [Nat.zero_add, List.map_append, List.map_append, List.append_assoc, List.getElem?_append_right (by simp)]
        simp
      have hft : f < (X.map srow).length := by omega
      have hfs : (X.map srow)[f]? = some (srow X[f]) := by simp [hfX]
      have hXB := hB X[f] (List.getElem_mem hfX)
      simp only at hSz
      rw [hSlen] at *
      refine AWP.weaken (tl4 (i0 := 11) (i1 := 10) (i2 := 5) (i3 := 2) rfl rfl rfl rfl) (.refl _) ?_
      repeat (first | refine nl ?_ | refine AWP.seq ?_ | refine AWP.skip ?_ | refine AWP.block ?_)
      refine rg ?_
      repeat (first | refine sm rfl ?_ | refine uw rfl ?_ | refine fa rfl rfl ?_ | refine leW rfl rfl rfl rfl rfl ?_ | refine leW rfl rfl rfl (by assumption) rfl ?_ | refine lcW rfl rfl rfl (St.obj_set _ _ _) rfl rfl ?_ | refine le rfl rfl rfl rfl ?_ | refine le rfl rfl (by assumption) rfl ?_ | refine lnv rfl rfl ?_ | refine lnm rfl rfl ?_ | refine ix rfl rfl rfl rfl (by assumption) ?_ | refine ixm rfl rfl rfl rfl (by assumption) ?_ | refine lc rfl rfl (St.obj_set _ _ _) rfl rfl ?_ | refine lc rfl rfl (St.obj_set _ _ _) (by assumption) rfl ?_ | refine lc rfl rfl (by assumption) rfl rfl ?_ | refine lc rfl rfl (by assumption) (by assumption) rfl ?_ | refine inc rfl rfl rfl (by omega) ?_ | refine bs1 rfl rfl rfl rfl rfl rfl ?_ | refine bxe rfl rfl rfl rfl ?_)
      refine dec rfl rfl rfl (by omega) ?_
      refine ixm rfl rfl rfl rfl (Nat.lt_succ_self _) ?_
      refine lc rfl rfl (St.obj_set _ _ _) hfrow rfl ?_
      repeat (first | refine sm rfl ?_ | refine uw rfl ?_ | refine fa rfl rfl ?_ | refine leW rfl rfl rfl rfl rfl ?_ | refine leW rfl rfl rfl (by assumption) rfl ?_ | refine lcW rfl rfl rfl (St.obj_set _ _ _) rfl rfl ?_ | refine le rfl rfl rfl rfl ?_ | refine le rfl rfl (by assumption) rfl ?_ | refine lnv rfl rfl ?_ | refine lnm rfl rfl ?_ | refine ix rfl rfl rfl rfl (by assumption) ?_ | refine ixm rfl rfl rfl rfl (by assumption) ?_ | refine lc rfl rfl (St.obj_set _ _ _) rfl rfl ?_ | refine lc rfl rfl (St.obj_set _ _ _) (by assumption) rfl ?_ | refine lc rfl rfl (by assumption) rfl rfl ?_ | refine lc rfl rfl (by assumption) (by assumption) rfl ?_ | refine inc rfl rfl rfl (by omega) ?_ | refine bs1 rfl rfl rfl rfl rfl rfl ?_ | refine bxe rfl rfl rfl rfl ?_)
      repeat (first | refine nl ?_ | refine AWP.seq ?_ | refine AWP.skip ?_ | refine AWP.block ?_)
      refine rg ?_
      repeat (first | refine sm rfl ?_ | refine uw rfl ?_ | refine fa rfl rfl ?_ | refine leW rfl rfl rfl rfl rfl ?_ | refine leW rfl rfl rfl (by assumption) rfl ?_ | refine lcW rfl rfl rfl (St.obj_set _ _ _) rfl rfl ?_ | refine le rfl rfl rfl rfl ?_ | refine le rfl rfl (by assumption) rfl ?_ | refine lnv rfl rfl ?_ | refine lnm rfl rfl ?_ | refine ix rfl rfl rfl rfl (by assumption) ?_ | refine ixm rfl rfl rfl rfl (by assumption) ?_ | refine lc rfl rfl (St.obj_set _ _ _) rfl rfl ?_ | refine lc rfl rfl (St.obj_set _ _ _) (by assumption) rfl ?_ | refine lc rfl rfl (by assumption) rfl rfl ?_ | refine lc rfl rfl (by assumption) (by assumption) rfl ?_ | refine inc rfl rfl rfl (by omega) ?_ | refine bs1 rfl rfl rfl rfl rfl rfl ?_ | refine bxe rfl rfl rfl rfl ?_)
      refine dec rfl rfl rfl (by omega) ?_
      refine slm rfl rfl rfl (Nat.le_succ _) ?_
      repeat (first | refine nl ?_ | refine AWP.seq ?_ | refine rg ?_ | refine AWP.skip ?_ | refine AWP.block ?_ | refine sm rfl ?_ | refine uw rfl ?_ | refine fa rfl rfl ?_ | refine leW rfl rfl rfl rfl rfl ?_ | refine leW rfl rfl rfl (by assumption) rfl ?_ | refine lcW rfl rfl rfl (St.obj_set _ _ _) rfl rfl ?_ | refine le rfl rfl rfl rfl ?_ | refine le rfl rfl (by assumption) rfl ?_ | refine lnv rfl rfl ?_ | refine lnm rfl rfl ?_ | refine ix rfl rfl rfl rfl (by assumption) ?_ | refine ixm rfl rfl rfl rfl (by assumption) ?_ | refine lc rfl rfl (St.obj_set _ _ _) rfl rfl ?_ | refine lc rfl rfl (St.obj_set _ _ _) (by assumption) rfl ?_ | refine lc rfl rfl (by assumption) rfl rfl ?_ | refine lc rfl rfl (by assumption) (by assumption) rfl ?_ | refine inc rfl rfl rfl (by omega) ?_ | refine bs1 rfl rfl rfl rfl rfl rfl ?_ | refine bxe rfl rfl rfl rfl ?_)
      refine AWP.loop (α := Nat × List Nat × List Nat × List Bool × Nat)
        (fun x => [(91, .int .i64 x.1), (90, .int .i64 X[f].1.length), (89, .view 1 (X[f].1.map irow) .shared), (11, .msl x.2.2.2.2 1 0 x.2.1.length), (10, .msl o2 1 0 ps.length), (5, .view 1 (X.map srow) .shared), (2, .eptr 5 [dbgCells ps] 0 0)])
        (fun x => (st.set o2 (.cells 4 1 (x.2.2.2.1.map brow))).set x.2.2.2.2 (.cells 3 1 ((x.2.1 ++ x.2.2.1).map irow)))
        (fun x => x.1 ≤ X[f].1.length ∧ DInv ps t x.2.2.2.1 x.2.1 (some (f, X[f].1.take x.1)) ∧ x.2.2.2.2 ≠ o2 ∧ st.obj x.2.2.2.2 = none ∧ 2 * x.2.2.2.1.count false + x.2.1.length < 2 * bs.count false + (S'.length + 1)) (fun x => X[f].1.length - x.1)
        (0, S', [f] ++ Gb, bs, o3) ⟨Nat.zero_le _, hpop, hne3, hn3, by simp only; omega⟩
        (TLe.cons' rfl (TLe.consE rfl (by rw [List.length_map]) (tl5 rfl rfl rfl rfl rfl))) (by
          simp only [List.append_assoc]
          exact .refl _) ?_
      rintro ⟨i, S, Gb2, bs2, o3⟩ ⟨hi, hD, hne3, hn3, hmu⟩
      repeat (first | refine nl ?_ | refine AWP.seq ?_ | refine rg ?_ | refine AWP.skip ?_ | refine AWP.block ?_ | refine sm rfl ?_ | refine uw rfl ?_ | refine fa rfl rfl ?_ | refine leW rfl rfl rfl rfl rfl ?_ | refine leW rfl rfl rfl (by assumption) rfl ?_ | refine lcW rfl rfl rfl (St.obj_set _ _ _) rfl rfl ?_ | refine le rfl rfl rfl rfl ?_ | refine le rfl rfl (by assumption) rfl ?_ | refine lnv rfl rfl ?_ | refine lnm rfl rfl ?_ | refine ix rfl rfl rfl rfl (by assumption) ?_ | refine ixm rfl rfl rfl rfl (by assumption) ?_ | refine lc rfl rfl (St.obj_set _ _ _) rfl rfl ?_ | refine lc rfl rfl (St.obj_set _ _ _) (by assumption) rfl ?_ | refine lc rfl rfl (by assumption) rfl rfl ?_ | refine lc rfl rfl (by assumption) (by assumption) rfl ?_ | refine inc rfl rfl rfl (by omega) ?_ | refine bs1 rfl rfl rfl rfl rfl rfl ?_ | refine bxe rfl rfl rfl rfl ?_)
      refine AWP.cond_dec rfl (fun h => AWP.skip ?_) (fun h => AWP.exit (blk_hit ?_))
      · have hi' : i < X[f].1.length := by simpa using h
        have hgm : X[f].1[i] ∈ X[f].1 := List.getElem_mem hi'
        have hge : X[f].1[i] < ps.length ∧ f ∈ edge ps X[f].1[i] := by
          have := (hC.mem f X[f] (List.getElem?_eq_getElem hfX) X[f].1[i]).1 hgm
          rcases this with h | ⟨_, h⟩
          · exact h
          · cases h
        generalize hg : X[f].1[i] = g at hge
        have hsl : i < (X[f].1.map irow).length := by simpa using hi'
        have hir : (X[f].1.map irow)[i]? = some (irow g) := by simp [hi', hg]
        have hgb : g < bs2.length := by rw [hD.len]; exact hge.1
        have hgl := hge.1
        have hbr : (bs2.map brow)[0 + g]? = some (brow bs2[g]) := by rw [Nat.zero_add]; simp [hgb]
        have hobj : ((st.set o2 (.cells 4 1 (bs2.map brow))).set o3 (.cells 3 1 ((S ++ Gb2).map irow))).obj o2 = some (.cells 4 1 (bs2.map brow)) := by
          rw [St.obj_set_ne (fun e => hne3 e.symm), St.obj_set]
        have htake : X[f].1.take (i + 1) = X[f].1.take i ++ [g] := by
          rw [List.take_add_one, List.getElem?_eq_getElem hi', hg]
          rfl
        have hsz := hD.size
        refine AWP.weaken (tl7 (i0 := 91) (i1 := 90) (i2 := 89) (i3 := 11) (i4 := 10) (i5 := 5) (i6 := 2) rfl rfl rfl rfl rfl rfl rfl) (.refl _) ?_
        repeat (first | refine nl ?_ | refine AWP.seq ?_ | refine rg ?_ | refine AWP.skip ?_ | refine AWP.block ?_ | refine sm rfl ?_ | refine uw rfl ?_ | refine fa rfl rfl ?_ | refine leW rfl rfl rfl rfl rfl ?_ | refine leW rfl rfl rfl (by assumption) rfl ?_ | refine lcW rfl rfl rfl (St.obj_set _ _ _) rfl rfl ?_ | refine le rfl rfl rfl rfl ?_ | refine le rfl rfl (by assumption) rfl ?_ | refine lnv rfl rfl ?_ | refine lnm rfl rfl ?_ | refine ix rfl rfl rfl rfl (by assumption) ?_ | refine ixm rfl rfl rfl rfl (by assumption) ?_ | refine lc rfl rfl (St.obj_set _ _ _) rfl rfl ?_ | refine lc rfl rfl (St.obj_set _ _ _) (by assumption) rfl ?_ | refine lc rfl rfl (by assumption) rfl rfl ?_ | refine lc rfl rfl (by assumption) (by assumption) rfl ?_ | refine inc rfl rfl rfl (by omega) ?_ | refine bs1 rfl rfl rfl rfl rfl rfl ?_ | refine bxe rfl rfl rfl rfl ?_)
        refine AWP.cond_bool rfl (fun hb => ?_) (fun hb => AWP.skip ?_)
        · have hb' : bs2[g]? = some false := by rw [List.getElem?_eq_getElem hgb]; simpa using hb
          have hcnt := count_set_true hb'
          have hset : (bs2.map brow).set (0 + g) (rowSet (brow bs2[g]) 0 (absV (.bool true)).cells) = (bs2.set g true).map brow := by
            rw [Nat.zero_add, List.map_set]
            rfl
          repeat (first | refine nl ?_ | refine AWP.seq ?_ | refine AWP.skip ?_ | refine AWP.block ?_)
          refine rg ?_
          repeat (first | refine sm rfl ?_ | refine uw rfl ?_ | refine fa rfl rfl ?_ | refine leW rfl rfl rfl rfl rfl ?_ | refine leW rfl rfl rfl (by assumption) rfl ?_ | refine lcW rfl rfl rfl (St.obj_set _ _ _) rfl rfl ?_ | refine le rfl rfl rfl rfl ?_ | refine le rfl rfl (by assumption) rfl ?_ | refine lnv rfl rfl ?_ | refine lnm rfl rfl ?_ | refine ix rfl rfl rfl rfl (by assumption) ?_ | refine ixm rfl rfl rfl rfl (by assumption) ?_ | refine lc rfl rfl (St.obj_set _ _ _) rfl rfl ?_ | refine lc rfl rfl (St.obj_set _ _ _) (by assumption) rfl ?_ | refine lc rfl rfl (by assumption) rfl rfl ?_ | refine lc rfl rfl (by assumption) (by assumption) rfl ?_ | refine inc rfl rfl rfl (by omega) ?_ | refine bs1 rfl rfl rfl rfl rfl rfl ?_ | refine bxe rfl rfl rfl rfl ?_)
          refine so rfl rfl rfl hobj hbr rfl rfl rfl hset ?_
          rw [St.set_inner hne3]
          repeat (first | refine nl ?_ | refine AWP.seq ?_ | refine AWP.skip ?_ | refine AWP.block ?_)
          refine rg ?_
          repeat (first | refine sm rfl ?_ | refine uw rfl ?_ | refine fa rfl rfl ?_ | refine leW rfl rfl rfl rfl rfl ?_ | refine leW rfl rfl rfl (by assumption) rfl ?_ | refine lcW rfl rfl rfl (St.obj_set _ _ _) rfl rfl ?_ | refine le rfl rfl rfl rfl ?_ | refine le rfl rfl (by assumption) rfl ?_ | refine lnv rfl rfl ?_ | refine lnm rfl rfl ?_ | refine ix rfl rfl rfl rfl (by assumption) ?_ | refine ixm rfl rfl rfl rfl (by assumption) ?_ | refine lc rfl rfl (St.obj_set _ _ _) rfl rfl ?_ | refine lc rfl rfl (St.obj_set _ _ _) (by assumption) rfl ?_ | refine lc rfl rfl (by assumption) rfl rfl ?_ | refine lc rfl rfl (by assumption) (by assumption) rfl ?_ | refine inc rfl rfl rfl (by omega) ?_ | refine bs1 rfl rfl rfl rfl rfl rfl ?_ | refine bxe rfl rfl rfl rfl ?_)
          have hvis := hD.visit hb' hge.2
          simp only at hsz
          have htk : ((S ++ Gb2).map irow).take S.length = S.map irow := by rw [List.map_append, List.take_left' (by simp)]
          refine apm rfl rfl rfl (St.obj_set _ _ _) (by simp) (by simp) rfl (by simp only [List.length_cons, List.length_nil]; omega) (by simp only [List.length_cons, List.length_nil, maxLen]; omega) fun o3' ho3' => ?_
          rw [htk]
          have hn3' := St.regrow_none (c := .cells 3 1 ((S ++ Gb2).map irow)) (st := st.set o2 (.cells 4 1 ((bs2.set g true).map brow))) (o := o3) (by rw [St.obj_set_ne hne3]; exact hn3) ho3'
          have hne3' : o3' ≠ o2 := by rintro rfl; rw [St.obj_set] at hn3'; cases hn3'
          have hn3'' : st.obj o3' = none := by rwa [St.obj_set_ne hne3'] at hn3'
          repeat (first | refine nl ?_ | refine AWP.seq ?_ | refine rg ?_ | refine AWP.skip ?_ | refine AWP.block ?_ | refine sm rfl ?_ | refine uw rfl ?_ | refine fa rfl rfl ?_ | refine leW rfl rfl rfl rfl rfl ?_ | refine leW rfl rfl rfl (by assumption) rfl ?_ | refine lcW rfl rfl rfl (St.obj_set _ _ _) rfl rfl ?_ | refine le rfl rfl rfl rfl ?_ | refine le rfl rfl (by assumption) rfl ?_ | refine lnv rfl rfl ?_ | refine lnm rfl rfl ?_ | refine ix rfl rfl rfl rfl (by assumption) ?_ | refine ixm rfl rfl rfl rfl (by assumption) ?_ | refine lc rfl rfl (St.obj_set _ _ _) rfl rfl ?_ | refine lc rfl rfl (St.obj_set _ _ _) (by assumption) rfl ?_ | refine lc rfl rfl (by assumption) rfl rfl ?_ | refine lc rfl rfl (by assumption) (by assumption) rfl ?_ | refine inc rfl rfl rfl (by omega) ?_ | refine bs1 rfl rfl rfl rfl rfl rfl ?_ | refine bxe rfl rfl rfl rfl ?_)
          refine ⟨(i + 1, S ++ [g], [], bs2.set g true, o3'), ⟨hi', by rw [htake]; exact hvis, hne3', hn3'', by simp only [List.length_append, List.length_cons, List.length_nil]; simp only at hmu; omega⟩, by simp only; omega, ?_, ?_⟩
          · exact TLe.cons' rfl (TLe.cons' rfl (TLe.cons' rfl (TLe.consE rfl (by simp) (tl3 rfl rfl rfl))))
          · refine StLe.trans (StLe.regrow (by rw [St.obj_set_ne hne3]; exact hn3)) ?_
            simp only [List.append_nil, List.map_append, List.map_cons, List.map_nil, AV.cells]
            exact .refl _
        · have hb' : bs2[g]? = some true := by rw [List.getElem?_eq_getElem hgb]; simpa using hb
          repeat (first | refine nl ?_ | refine AWP.seq ?_ | refine rg ?_ | refine AWP.skip ?_ | refine AWP.block ?_ | refine sm rfl ?_ | refine uw rfl ?_ | refine fa rfl rfl ?_ | refine leW rfl rfl rfl rfl rfl ?_ | refine leW rfl rfl rfl (by assumption) rfl ?_ | refine lcW rfl rfl rfl (St.obj_set _ _ _) rfl rfl ?_ | refine le rfl rfl rfl rfl ?_ | refine le rfl rfl (by assumption) rfl ?_ | refine lnv rfl rfl ?_ | refine lnm rfl rfl ?_ | refine ix rfl rfl rfl rfl (by assumption) ?_ | refine ixm rfl rfl rfl rfl (by assumption) ?_ | refine lc rfl rfl (St.obj_set _ _ _) rfl rfl ?_ | refine lc rfl rfl (St.obj_set _ _ _) (by assumption) rfl ?_ | refine lc rfl rfl (by assumption) rfl rfl ?_ | refine lc rfl rfl (by assumption) (by assumption) rfl ?_ | refine inc rfl rfl rfl (by omega) ?_ | refine bs1 rfl rfl rfl rfl rfl rfl ?_ | refine bxe rfl rfl rfl rfl ?_)
          exact ⟨(i + 1, S, Gb2, bs2, o3), ⟨hi', by rw [htake]; exact hD.seen hb', hne3, hn3, hmu⟩, by simp only; omega, tl7 rfl rfl rfl rfl rfl rfl rfl, .refl _⟩
      · have hi' : i = X[f].1.length := by
          have : ¬ i < X[f].1.length := by simpa using h
          simp only at hi
          omega
        subst hi'
        rw [List.take_length] at hD
        have hfin := hD.finish (fun g he hg => (hC.mem f X[f] (List.getElem?_eq_getElem hfX) g).2 (.inl ⟨hg, he⟩))
        repeat (first | refine nl ?_ | refine AWP.seq ?_ | refine rg ?_ | refine AWP.skip ?_ | refine AWP.block ?_ | refine sm rfl ?_ | refine uw rfl ?_ | refine fa rfl rfl ?_ | refine leW rfl rfl rfl rfl rfl ?_ | refine leW rfl rfl rfl (by assumption) rfl ?_ | refine lcW rfl rfl rfl (St.obj_set _ _ _) rfl rfl ?_ | refine le rfl rfl rfl rfl ?_ | refine le rfl rfl (by assumption) rfl ?_ | refine lnv rfl rfl ?_ | refine lnm rfl rfl ?_ | refine ix rfl rfl rfl rfl (by assumption) ?_ | refine ixm rfl rfl rfl rfl (by assumption) ?_ | refine lc rfl rfl (St.obj_set _ _ _) rfl rfl ?_ | refine lc rfl rfl (St.obj_set _ _ _) (by assumption) rfl ?_ | refine lc rfl rfl (by assumption) rfl rfl ?_ | refine lc rfl rfl (by assumption) (by assumption) rfl ?_ | refine inc rfl rfl rfl (by omega) ?_ | refine bs1 rfl rfl rfl rfl rfl rfl ?_ | refine bxe rfl rfl rfl rfl ?_)
        exact ⟨(S, Gb2, bs2, o3), ⟨hfin, hne3, hn3⟩, hmu, tl4 rfl rfl rfl rfl, .refl _⟩
    · have hS : S = [] := by
        have : ¬ (0 : Int) < (S.length : Int) := h
        exact List.eq_nil_of_length_eq_zero (by omega)
      subst hS
      obtain rfl := hD.done ht
      refine AWP.freeze 10 rfl (by rw [St.obj_set_ne (fun e => hne3 e.symm), St.obj_set]) (by simp [inn_length]) ?_
      repeat (first | refine nl ?_ | refine AWP.seq ?_ | refine rg ?_ | refine AWP.skip ?_ | refine AWP.block ?_ | refine sm rfl ?_ | refine uw rfl ?_ | refine fa rfl rfl ?_ | refine leW rfl rfl rfl rfl rfl ?_ | refine leW rfl rfl rfl (by assumption) rfl ?_ | refine lcW rfl rfl rfl (St.obj_set _ _ _) rfl rfl ?_ | refine le rfl rfl rfl rfl ?_ | refine le rfl rfl (by assumption) rfl ?_ | refine lnv rfl rfl ?_ | refine lnm rfl rfl ?_ | refine ix rfl rfl rfl rfl (by assumption) ?_ | refine ixm rfl rfl rfl rfl (by assumption) ?_ | refine lc rfl rfl (St.obj_set _ _ _) rfl rfl ?_ | refine lc rfl rfl (St.obj_set _ _ _) (by assumption) rfl ?_ | refine lc rfl rfl (by assumption) rfl rfl ?_ | refine lc rfl rfl (by assumption) (by assumption) rfl ?_ | refine inc rfl rfl rfl (by omega) ?_ | refine bs1 rfl rfl rfl rfl rfl rfl ?_ | refine bxe rfl rfl rfl rfl ?_)
      refine AWP.ret (rets rfl (.refl _) (StLe.two ho2 hn3) ⟨?_, rfl⟩)
      simp only [packA, List.drop_zero, List.take_of_length_le (l := List.map brow (inn ps t)) (i := ps.length) (by simp [inn_length])]
end Go.Proofs
