/- The walk of the reference's reaching. No conditions: lemmas only. -/
import Derived.Test.YtmpghkcdejikiaaR1W1
import Derived.Test.YtmpghkcdejikiaaR1L
namespace Go.Proofs
open Go.AM

theorem StLe.setSet (st : St) (o : Nat) (c c' : AObj) : StLe ((st.set o c).set o c') (st.set o c') := by
  rw [St.set_set]
  exact .refl _

theorem reaching_ok (ps : List (List Site)) (hs : Small ps) (t : Nat) (ht : t < ps.length) (st : St) :
    ACalls Try.prog 14 [dbg ps, .int .i64 t] st (fun v st' => v = .view 1 ((inn ps t).map brow) .shared ∧ st' = st) (fun _ _ => False) := by
  have hfew := hs.few
  have hpl : (ps.map procRow).length = ps.length := List.length_map ..
  refine ACalls.ofBody Try.func14 rfl Try.ntmps14 rfl ?_
  repeat (first | refine nl ?_ | refine AWP.seq ?_ | refine rg ?_ | refine AWP.skip ?_ | refine AWP.block ?_ | refine sm rfl ?_ | refine uw rfl ?_ | refine fa rfl rfl ?_ | refine leW rfl rfl rfl rfl rfl ?_ | refine leW rfl rfl rfl (by assumption) rfl ?_ | refine lcW rfl rfl rfl (St.obj_set _ _ _) rfl rfl ?_ | refine le rfl rfl rfl rfl ?_ | refine le rfl rfl (by assumption) rfl ?_ | refine lnv rfl rfl ?_ | refine lnm rfl rfl ?_ | refine ix rfl rfl rfl rfl (by assumption) ?_ | refine ixm rfl rfl rfl rfl (by assumption) ?_ | refine lc rfl rfl (St.obj_set _ _ _) rfl rfl ?_ | refine lc rfl rfl (St.obj_set _ _ _) (by assumption) rfl ?_ | refine inc rfl rfl rfl (by omega) ?_ | refine bs1 rfl rfl rfl rfl rfl rfl ?_ | refine bxe rfl rfl rfl rfl ?_)
  refine mk (k := .i64) (k' := .i64) (len := (ps.map procRow).length) (cap := (ps.map procRow).length) rfl rfl rfl rfl (Nat.le_refl _) (by omega) (by omega) fun o ho => ?_
  have htl : t < (ps.map procRow).length := by omega
  have hz : (List.replicate (ps.map procRow).length (zrow (.bool false)))[t]? = some [.bool false] := by rw [List.getElem?_replicate, if_pos htl]; rfl
  repeat (first | refine nl ?_ | refine AWP.seq ?_ | refine rg ?_ | refine AWP.skip ?_ | refine AWP.block ?_ | refine sm rfl ?_ | refine uw rfl ?_ | refine fa rfl rfl ?_ | refine leW rfl rfl rfl rfl rfl ?_ | refine leW rfl rfl rfl (by assumption) rfl ?_ | refine lcW rfl rfl rfl (St.obj_set _ _ _) rfl rfl ?_ | refine le rfl rfl rfl rfl ?_ | refine le rfl rfl (by assumption) rfl ?_ | refine lnv rfl rfl ?_ | refine lnm rfl rfl ?_ | refine ix rfl rfl rfl rfl (by assumption) ?_ | refine ixm rfl rfl rfl rfl (by assumption) ?_ | refine lc rfl rfl (St.obj_set _ _ _) rfl rfl ?_ | refine lc rfl rfl (St.obj_set _ _ _) (by assumption) rfl ?_ | refine inc rfl rfl rfl (by omega) ?_ | refine bs1 rfl rfl rfl rfl rfl rfl ?_ | refine bxe rfl rfl rfl rfl ?_)
  refine sos rfl rfl rfl (by rw [Nat.zero_add]; exact hz) rfl rfl rfl rfl ?_
  repeat (first | refine nl ?_ | refine AWP.seq ?_ | refine rg ?_ | refine AWP.skip ?_ | refine AWP.block ?_ | refine sm rfl ?_ | refine uw rfl ?_ | refine fa rfl rfl ?_ | refine leW rfl rfl rfl rfl rfl ?_ | refine leW rfl rfl rfl (by assumption) rfl ?_ | refine lcW rfl rfl rfl (St.obj_set _ _ _) rfl rfl ?_ | refine le rfl rfl rfl rfl ?_ | refine le rfl rfl (by assumption) rfl ?_ | refine lnv rfl rfl ?_ | refine lnm rfl rfl ?_ | refine ix rfl rfl rfl rfl (by assumption) ?_ | refine ixm rfl rfl rfl rfl (by assumption) ?_ | refine lc rfl rfl (St.obj_set _ _ _) rfl rfl ?_ | refine lc rfl rfl (St.obj_set _ _ _) (by assumption) rfl ?_ | refine inc rfl rfl rfl (by omega) ?_ | refine bs1 rfl rfl rfl rfl rfl rfl ?_ | refine bxe rfl rfl rfl rfl ?_)
  have h0 : (List.replicate (ps.map procRow).length (zrow (.bool false))).set (0 + t) (rowSet [.bool false] 0 (absV (.bool true)).cells) = ((List.replicate ps.length false).set t true).map brow := by
    rw [Nat.zero_add, List.map_set, List.map_replicate, hpl]
    rfl
  rw [h0]
  refine AWP.loop (α := Nat × List Bool)
    (fun x => [(5, .msl o 1 0 ps.length), (6, .int .i64 x.1), (2, .eptr 5 [dbgCells ps] 0 0)])
    (fun x => st.set o (.cells 4 1 (x.2.map brow))) (fun x => x.1 ≤ ps.length ∧ RInv ps t x.1 0 x.2) (fun x => ps.length - x.1) (0, (List.replicate ps.length false).set t true) ⟨Nat.zero_le _, RInv.start ht⟩
    (TLe.consE rfl (by rw [hpl]) (tl2 rfl rfl)) (.refl _) ?_
  rintro ⟨k, bs⟩ ⟨hk, hR⟩
  repeat (first | refine nl ?_ | refine AWP.seq ?_ | refine rg ?_ | refine AWP.skip ?_ | refine AWP.block ?_ | refine sm rfl ?_ | refine uw rfl ?_ | refine fa rfl rfl ?_ | refine leW rfl rfl rfl rfl rfl ?_ | refine leW rfl rfl rfl (by assumption) rfl ?_ | refine lcW rfl rfl rfl (St.obj_set _ _ _) rfl rfl ?_ | refine le rfl rfl rfl rfl ?_ | refine le rfl rfl (by assumption) rfl ?_ | refine lnv rfl rfl ?_ | refine lnm rfl rfl ?_ | refine ix rfl rfl rfl rfl (by assumption) ?_ | refine ixm rfl rfl rfl rfl (by assumption) ?_ | refine lc rfl rfl (St.obj_set _ _ _) rfl rfl ?_ | refine lc rfl rfl (St.obj_set _ _ _) (by assumption) rfl ?_ | refine inc rfl rfl rfl (by omega) ?_ | refine bs1 rfl rfl rfl rfl rfl rfl ?_ | refine bxe rfl rfl rfl rfl ?_)
  refine AWP.cond_dec rfl (fun h => AWP.skip ?_) (fun h => AWP.exit (blk_hit ?_))
  · have hk' : k < ps.length := by simpa using h
    refine AWP.weaken (tl3 (i0 := 5) (i1 := 6) (i2 := 2) rfl rfl rfl) (.refl _) ?_
    repeat (first | refine nl ?_ | refine AWP.seq ?_ | refine rg ?_ | refine AWP.skip ?_ | refine AWP.block ?_ | refine sm rfl ?_ | refine uw rfl ?_ | refine fa rfl rfl ?_ | refine leW rfl rfl rfl rfl rfl ?_ | refine leW rfl rfl rfl (by assumption) rfl ?_ | refine lcW rfl rfl rfl (St.obj_set _ _ _) rfl rfl ?_ | refine le rfl rfl rfl rfl ?_ | refine le rfl rfl (by assumption) rfl ?_ | refine lnv rfl rfl ?_ | refine lnm rfl rfl ?_ | refine ix rfl rfl rfl rfl (by assumption) ?_ | refine ixm rfl rfl rfl rfl (by assumption) ?_ | refine lc rfl rfl (St.obj_set _ _ _) rfl rfl ?_ | refine lc rfl rfl (St.obj_set _ _ _) (by assumption) rfl ?_ | refine inc rfl rfl rfl (by omega) ?_ | refine bs1 rfl rfl rfl rfl rfl rfl ?_ | refine bxe rfl rfl rfl rfl ?_)
    refine AWP.loop (α := Nat × List Bool)
      (fun x => [(7, .int .i64 x.1), (5, .msl o 1 0 ps.length), (6, .int .i64 k), (2, .eptr 5 [dbgCells ps] 0 0)])
      (fun x => st.set o (.cells 4 1 (x.2.map brow))) (fun x => x.1 ≤ ps.length ∧ RInv ps t k x.1 x.2) (fun x => ps.length - x.1) (0, bs) ⟨Nat.zero_le _, hR⟩
      (tl4 rfl rfl rfl rfl) (.refl _) ?_
    rintro ⟨f, bs⟩ ⟨hf, hR⟩
    repeat (first | refine nl ?_ | refine AWP.seq ?_ | refine rg ?_ | refine AWP.skip ?_ | refine AWP.block ?_ | refine sm rfl ?_ | refine uw rfl ?_ | refine fa rfl rfl ?_ | refine leW rfl rfl rfl rfl rfl ?_ | refine leW rfl rfl rfl (by assumption) rfl ?_ | refine lcW rfl rfl rfl (St.obj_set _ _ _) rfl rfl ?_ | refine le rfl rfl rfl rfl ?_ | refine le rfl rfl (by assumption) rfl ?_ | refine lnv rfl rfl ?_ | refine lnm rfl rfl ?_ | refine ix rfl rfl rfl rfl (by assumption) ?_ | refine ixm rfl rfl rfl rfl (by assumption) ?_ | refine lc rfl rfl (St.obj_set _ _ _) rfl rfl ?_ | refine lc rfl rfl (St.obj_set _ _ _) (by assumption) rfl ?_ | refine inc rfl rfl rfl (by omega) ?_ | refine bs1 rfl rfl rfl rfl rfl rfl ?_ | refine bxe rfl rfl rfl rfl ?_)
    refine AWP.cond_dec rfl (fun h => AWP.skip ?_) (fun h => AWP.exit (blk_hit ?_))
    · have hf' : f < ps.length := by simpa using h
      refine AWP.weaken (tl4 (i0 := 7) (i1 := 5) (i2 := 6) (i3 := 2) rfl rfl rfl rfl) (.refl _) ?_
      repeat (first | refine nl ?_ | refine AWP.seq ?_ | refine rg ?_ | refine AWP.skip ?_ | refine AWP.block ?_ | refine sm rfl ?_ | refine uw rfl ?_ | refine fa rfl rfl ?_ | refine leW rfl rfl rfl rfl rfl ?_ | refine leW rfl rfl rfl (by assumption) rfl ?_ | refine lcW rfl rfl rfl (St.obj_set _ _ _) rfl rfl ?_ | refine le rfl rfl rfl rfl ?_ | refine le rfl rfl (by assumption) rfl ?_ | refine lnv rfl rfl ?_ | refine lnm rfl rfl ?_ | refine ix rfl rfl rfl rfl (by assumption) ?_ | refine ixm rfl rfl rfl rfl (by assumption) ?_ | refine lc rfl rfl (St.obj_set _ _ _) rfl rfl ?_ | refine lc rfl rfl (St.obj_set _ _ _) (by assumption) rfl ?_ | refine inc rfl rfl rfl (by omega) ?_ | refine bs1 rfl rfl rfl rfl rfl rfl ?_ | refine bxe rfl rfl rfl rfl ?_)
      refine cle rfl rfl (tails_ok ps hs f ps[f] (List.getElem?_eq_getElem hf') _) ?_
      have htl : ps[f].filter (isTail ps.length) = tls ps f := by simp [tls, hf']
      rw [htl]
      repeat (first | refine nl ?_ | refine AWP.seq ?_ | refine rg ?_ | refine AWP.skip ?_ | refine AWP.block ?_ | refine sm rfl ?_ | refine uw rfl ?_ | refine fa rfl rfl ?_ | refine leW rfl rfl rfl rfl rfl ?_ | refine leW rfl rfl rfl (by assumption) rfl ?_ | refine lcW rfl rfl rfl (St.obj_set _ _ _) rfl rfl ?_ | refine le rfl rfl rfl rfl ?_ | refine le rfl rfl (by assumption) rfl ?_ | refine lnv rfl rfl ?_ | refine lnm rfl rfl ?_ | refine ix rfl rfl rfl rfl (by assumption) ?_ | refine ixm rfl rfl rfl rfl (by assumption) ?_ | refine lc rfl rfl (St.obj_set _ _ _) rfl rfl ?_ | refine lc rfl rfl (St.obj_set _ _ _) (by assumption) rfl ?_ | refine inc rfl rfl rfl (by omega) ?_ | refine bs1 rfl rfl rfl rfl rfl rfl ?_ | refine bxe rfl rfl rfl rfl ?_)
      refine AWP.loop (α := Nat × List Bool)
        (fun x => [(9, .int .i64 x.1), (8, .view 6 ((tls ps f).map siteRow) .shared), (7, .int .i64 f), (5, .msl o 1 0 ps.length), (6, .int .i64 k), (2, .eptr 5 [dbgCells ps] 0 0)])
        (fun x => st.set o (.cells 4 1 (x.2.map brow))) (fun x => x.1 ≤ (tls ps f).length ∧ RInv ps t k f x.2 ∧ ∀ j (hj : j < (tls ps f).length), j < x.1 → lv ps t k ((tls ps f)[j]).2.1.toNat = true → x.2[f]? = some true)
        (fun x => (tls ps f).length - x.1) (0, bs) ⟨Nat.zero_le _, hR, fun j _ hj => by omega⟩
        (tl6 rfl rfl rfl rfl rfl rfl) (.refl _) ?_
      rintro ⟨i, bs⟩ ⟨hi, hR, hj⟩
      repeat (first | refine nl ?_ | refine AWP.seq ?_ | refine rg ?_ | refine AWP.skip ?_ | refine AWP.block ?_ | refine sm rfl ?_ | refine uw rfl ?_ | refine fa rfl rfl ?_ | refine leW rfl rfl rfl rfl rfl ?_ | refine leW rfl rfl rfl (by assumption) rfl ?_ | refine lcW rfl rfl rfl (St.obj_set _ _ _) rfl rfl ?_ | refine le rfl rfl rfl rfl ?_ | refine le rfl rfl (by assumption) rfl ?_ | refine lnv rfl rfl ?_ | refine lnm rfl rfl ?_ | refine ix rfl rfl rfl rfl (by assumption) ?_ | refine ixm rfl rfl rfl rfl (by assumption) ?_ | refine lc rfl rfl (St.obj_set _ _ _) rfl rfl ?_ | refine lc rfl rfl (St.obj_set _ _ _) (by assumption) rfl ?_ | refine inc rfl rfl rfl (by omega) ?_ | refine bs1 rfl rfl rfl rfl rfl rfl ?_ | refine bxe rfl rfl rfl rfl ?_)
      refine AWP.cond_dec rfl (fun h => AWP.skip ?_) (fun h => AWP.exit (blk_hit ?_))
      · have hi' : i < (tls ps f).length := by simpa using h
        have hfl : f < bs.length := by rw [hR.len]; exact hf'
        obtain ⟨_, hcm, hclt⟩ := tls_lt (List.getElem_mem hi')
        have hcl : ((tls ps f)[i]).2.1.toNat < bs.length := by rw [hR.len]; exact hclt
        have hce : ((tls ps f)[i]).2.1.toNat ∈ edge ps f := List.mem_map.2 ⟨_, List.getElem_mem hi', rfl⟩
        have hsl : i < ((tls ps f).map siteRow).length := by simpa using hi'
        have hsite : ((tls ps f).map siteRow)[i]? = some (siteRow (tls ps f)[i]) := by simp [hi']
        have hb : (bs.map brow)[0 + f]? = some (brow bs[f]) := by rw [Nat.zero_add]; simp [hfl]
        have hd : (bs.map brow)[0 + ((tls ps f)[i]).2.1.toNat]? = some (brow bs[((tls ps f)[i]).2.1.toNat]) := by rw [Nat.zero_add]; simp [hcl]
        obtain ⟨hR', hk1, hk2⟩ := hR.step hce (List.getElem?_eq_getElem hfl) (List.getElem?_eq_getElem hcl)
        have hend : ∀ v : Bool, v = (bs[f] || bs[((tls ps f)[i]).2.1.toNat]) → (bs.map brow).set (0 + f) (rowSet (brow bs[f]) 0 [.bool v]) = (bs.set f (bs[f] || bs[((tls ps f)[i]).2.1.toNat])).map brow := by
          rintro v rfl
          rw [Nat.zero_add, List.map_set]
          rfl
        have hnew : ∀ j (hj' : j < (tls ps f).length), j < i + 1 → lv ps t k ((tls ps f)[j]).2.1.toNat = true → (bs.set f (bs[f] || bs[((tls ps f)[i]).2.1.toNat]))[f]? = some true := by
          intro j hj' hji hl
          rcases Nat.lt_or_ge j i with h1 | h1
          · exact hk1 (hj j hj' h1 hl)
          · have : j = i := by omega
            subst this
            exact hk2 hl
        have hsize : (tls ps f).length ≤ 1000 := by
          refine Nat.le_trans (List.length_filter_le _ _) ?_
          rw [List.getElem?_eq_getElem hf']
          exact hs.each _ (List.getElem_mem hf')
        refine AWP.weaken (tl6 (i0 := 9) (i1 := 8) (i2 := 7) (i3 := 5) (i4 := 6) (i5 := 2) rfl rfl rfl rfl rfl rfl) (.refl _) ?_
        repeat (first | refine nl ?_ | refine AWP.seq ?_ | refine rg ?_ | refine AWP.skip ?_ | refine AWP.block ?_ | refine sm rfl ?_ | refine uw rfl ?_ | refine fa rfl rfl ?_ | refine leW rfl rfl rfl rfl rfl ?_ | refine leW rfl rfl rfl (by assumption) rfl ?_ | refine lcW rfl rfl rfl (St.obj_set _ _ _) rfl rfl ?_ | refine le rfl rfl rfl rfl ?_ | refine le rfl rfl (by assumption) rfl ?_ | refine lnv rfl rfl ?_ | refine lnm rfl rfl ?_ | refine ix rfl rfl rfl rfl (by assumption) ?_ | refine ixm rfl rfl rfl rfl (by assumption) ?_ | refine lc rfl rfl (St.obj_set _ _ _) rfl rfl ?_ | refine lc rfl rfl (St.obj_set _ _ _) (by assumption) rfl ?_ | refine inc rfl rfl rfl (by omega) ?_ | refine bs1 rfl rfl rfl rfl rfl rfl ?_ | refine bxe rfl rfl rfl rfl ?_)
        refine AOps.splitB 46 rfl (fun hbt => ?_) (fun hbt => ?_)
        · repeat (first | refine sm rfl ?_ | refine uw rfl ?_ | refine fa rfl rfl ?_ | refine leW rfl rfl rfl rfl rfl ?_ | refine leW rfl rfl rfl (by assumption) rfl ?_ | refine lcW rfl rfl rfl (St.obj_set _ _ _) rfl rfl ?_ | refine le rfl rfl rfl rfl ?_ | refine le rfl rfl (by assumption) rfl ?_ | refine lnv rfl rfl ?_ | refine lnm rfl rfl ?_ | refine ix rfl rfl rfl rfl (by assumption) ?_ | refine ixm rfl rfl rfl rfl (by assumption) ?_ | refine lc rfl rfl (St.obj_set _ _ _) rfl rfl ?_ | refine lc rfl rfl (St.obj_set _ _ _) (by assumption) rfl ?_ | refine inc rfl rfl rfl (by omega) ?_ | refine bs1 rfl rfl rfl rfl rfl rfl ?_ | refine bxe rfl rfl rfl rfl ?_)
          refine sos rfl rfl rfl hb rfl rfl rfl rfl ?_
          have he := hend true (by rw [hbt]; simp)
          rw [show (absV (.bool true)).cells = [.bool true] from rfl, he]
          repeat (first | refine nl ?_ | refine AWP.seq ?_ | refine rg ?_ | refine AWP.skip ?_ | refine AWP.block ?_ | refine sm rfl ?_ | refine uw rfl ?_ | refine fa rfl rfl ?_ | refine leW rfl rfl rfl rfl rfl ?_ | refine leW rfl rfl rfl (by assumption) rfl ?_ | refine lcW rfl rfl rfl (St.obj_set _ _ _) rfl rfl ?_ | refine le rfl rfl rfl rfl ?_ | refine le rfl rfl (by assumption) rfl ?_ | refine lnv rfl rfl ?_ | refine lnm rfl rfl ?_ | refine ix rfl rfl rfl rfl (by assumption) ?_ | refine ixm rfl rfl rfl rfl (by assumption) ?_ | refine lc rfl rfl (St.obj_set _ _ _) rfl rfl ?_ | refine lc rfl rfl (St.obj_set _ _ _) (by assumption) rfl ?_ | refine inc rfl rfl rfl (by omega) ?_ | refine bs1 rfl rfl rfl rfl rfl rfl ?_ | refine bxe rfl rfl rfl rfl ?_)
          exact ⟨(i + 1, _), ⟨hi', hR', hnew⟩, by simp only; omega, tl6 rfl rfl rfl rfl rfl rfl, .refl _⟩
        · repeat (first | refine sm rfl ?_ | refine uw rfl ?_ | refine fa rfl rfl ?_ | refine leW rfl rfl rfl rfl rfl ?_ | refine leW rfl rfl rfl (by assumption) rfl ?_ | refine lcW rfl rfl rfl (St.obj_set _ _ _) rfl rfl ?_ | refine le rfl rfl rfl rfl ?_ | refine le rfl rfl (by assumption) rfl ?_ | refine lnv rfl rfl ?_ | refine lnm rfl rfl ?_ | refine ix rfl rfl rfl rfl (by assumption) ?_ | refine ixm rfl rfl rfl rfl (by assumption) ?_ | refine lc rfl rfl (St.obj_set _ _ _) rfl rfl ?_ | refine lc rfl rfl (St.obj_set _ _ _) (by assumption) rfl ?_ | refine inc rfl rfl rfl (by omega) ?_ | refine bs1 rfl rfl rfl rfl rfl rfl ?_ | refine bxe rfl rfl rfl rfl ?_)
          refine ixm rfl rfl rfl hcm hclt ?_
          repeat (first | refine sm rfl ?_ | refine uw rfl ?_ | refine fa rfl rfl ?_ | refine leW rfl rfl rfl rfl rfl ?_ | refine leW rfl rfl rfl (by assumption) rfl ?_ | refine lcW rfl rfl rfl (St.obj_set _ _ _) rfl rfl ?_ | refine le rfl rfl rfl rfl ?_ | refine le rfl rfl (by assumption) rfl ?_ | refine lnv rfl rfl ?_ | refine lnm rfl rfl ?_ | refine ix rfl rfl rfl rfl (by assumption) ?_ | refine ixm rfl rfl rfl rfl (by assumption) ?_ | refine lc rfl rfl (St.obj_set _ _ _) rfl rfl ?_ | refine lc rfl rfl (St.obj_set _ _ _) (by assumption) rfl ?_ | refine inc rfl rfl rfl (by omega) ?_ | refine bs1 rfl rfl rfl rfl rfl rfl ?_ | refine bxe rfl rfl rfl rfl ?_)
          refine sos rfl rfl rfl hb rfl rfl rfl rfl ?_
          have he := hend bs[((tls ps f)[i]).2.1.toNat] (by rw [hbt]; simp)
          rw [show (AV.bool bs[((tls ps f)[i]).2.1.toNat]).cells = [.bool bs[((tls ps f)[i]).2.1.toNat]] from rfl, he]
          repeat (first | refine nl ?_ | refine AWP.seq ?_ | refine rg ?_ | refine AWP.skip ?_ | refine AWP.block ?_ | refine sm rfl ?_ | refine uw rfl ?_ | refine fa rfl rfl ?_ | refine leW rfl rfl rfl rfl rfl ?_ | refine leW rfl rfl rfl (by assumption) rfl ?_ | refine lcW rfl rfl rfl (St.obj_set _ _ _) rfl rfl ?_ | refine le rfl rfl rfl rfl ?_ | refine le rfl rfl (by assumption) rfl ?_ | refine lnv rfl rfl ?_ | refine lnm rfl rfl ?_ | refine ix rfl rfl rfl rfl (by assumption) ?_ | refine ixm rfl rfl rfl rfl (by assumption) ?_ | refine lc rfl rfl (St.obj_set _ _ _) rfl rfl ?_ | refine lc rfl rfl (St.obj_set _ _ _) (by assumption) rfl ?_ | refine inc rfl rfl rfl (by omega) ?_ | refine bs1 rfl rfl rfl rfl rfl rfl ?_ | refine bxe rfl rfl rfl rfl ?_)
          exact ⟨(i + 1, _), ⟨hi', hR', hnew⟩, by simp only; omega, tl6 rfl rfl rfl rfl rfl rfl, .refl _⟩
      · have hi' : i = (tls ps f).length := by
          have : ¬ i < (tls ps f).length := by simpa using h
          simp only at hi
          omega
        subst hi'
        have hR' := hR.next hf' (fun c hc hl => by
          simp only [edge, List.mem_map] at hc
          obtain ⟨s, hs', rfl⟩ := hc
          obtain ⟨j, hj', rfl⟩ := List.getElem_of_mem hs'
          exact hj j hj' hj' hl)
        repeat (first | refine nl ?_ | refine AWP.seq ?_ | refine rg ?_ | refine AWP.skip ?_ | refine AWP.block ?_ | refine sm rfl ?_ | refine uw rfl ?_ | refine fa rfl rfl ?_ | refine leW rfl rfl rfl rfl rfl ?_ | refine leW rfl rfl rfl (by assumption) rfl ?_ | refine lcW rfl rfl rfl (St.obj_set _ _ _) rfl rfl ?_ | refine le rfl rfl rfl rfl ?_ | refine le rfl rfl (by assumption) rfl ?_ | refine lnv rfl rfl ?_ | refine lnm rfl rfl ?_ | refine ix rfl rfl rfl rfl (by assumption) ?_ | refine ixm rfl rfl rfl rfl (by assumption) ?_ | refine lc rfl rfl (St.obj_set _ _ _) rfl rfl ?_ | refine lc rfl rfl (St.obj_set _ _ _) (by assumption) rfl ?_ | refine inc rfl rfl rfl (by omega) ?_ | refine bs1 rfl rfl rfl rfl rfl rfl ?_ | refine bxe rfl rfl rfl rfl ?_)
        exact ⟨(f + 1, _), ⟨hf', hR'⟩, by simp only; omega, tl4 rfl rfl rfl rfl, .refl _⟩
    · have hf' : f = ps.length := by
        have : ¬ f < ps.length := by simpa using h
        simp only at hf
        omega
      subst hf'
      repeat (first | refine nl ?_ | refine AWP.seq ?_ | refine rg ?_ | refine AWP.skip ?_ | refine AWP.block ?_ | refine sm rfl ?_ | refine uw rfl ?_ | refine fa rfl rfl ?_ | refine leW rfl rfl rfl rfl rfl ?_ | refine leW rfl rfl rfl (by assumption) rfl ?_ | refine lcW rfl rfl rfl (St.obj_set _ _ _) rfl rfl ?_ | refine le rfl rfl rfl rfl ?_ | refine le rfl rfl (by assumption) rfl ?_ | refine lnv rfl rfl ?_ | refine lnm rfl rfl ?_ | refine ix rfl rfl rfl rfl (by assumption) ?_ | refine ixm rfl rfl rfl rfl (by assumption) ?_ | refine lc rfl rfl (St.obj_set _ _ _) rfl rfl ?_ | refine lc rfl rfl (St.obj_set _ _ _) (by assumption) rfl ?_ | refine inc rfl rfl rfl (by omega) ?_ | refine bs1 rfl rfl rfl rfl rfl rfl ?_ | refine bxe rfl rfl rfl rfl ?_)
      exact ⟨(k + 1, _), ⟨hk', hR.round⟩, by simp only; omega, tl3 rfl rfl rfl, .refl _⟩
  · have hk' : k = ps.length := by
      have : ¬ k < ps.length := by simpa using h
      simp only at hk
      omega
    subst hk'
    obtain rfl := hR.done ht
    refine AWP.freeze 5 rfl (St.obj_set _ _ _) (by simp [inn_length]) ?_
    repeat (first | refine nl ?_ | refine AWP.seq ?_ | refine rg ?_ | refine AWP.skip ?_ | refine AWP.block ?_ | refine sm rfl ?_ | refine uw rfl ?_ | refine fa rfl rfl ?_ | refine leW rfl rfl rfl rfl rfl ?_ | refine leW rfl rfl rfl (by assumption) rfl ?_ | refine lcW rfl rfl rfl (St.obj_set _ _ _) rfl rfl ?_ | refine le rfl rfl rfl rfl ?_ | refine le rfl rfl (by assumption) rfl ?_ | refine lnv rfl rfl ?_ | refine lnm rfl rfl ?_ | refine ix rfl rfl rfl rfl (by assumption) ?_ | refine ixm rfl rfl rfl rfl (by assumption) ?_ | refine lc rfl rfl (St.obj_set _ _ _) rfl rfl ?_ | refine lc rfl rfl (St.obj_set _ _ _) (by assumption) rfl ?_ | refine inc rfl rfl rfl (by omega) ?_ | refine bs1 rfl rfl rfl rfl rfl rfl ?_ | refine bxe rfl rfl rfl rfl ?_)
    refine AWP.ret (rets rfl (.refl _) (StLe.ofNew ho) ⟨?_, rfl⟩)
    simp only [packA, List.drop_zero, List.take_of_length_le (l := List.map brow (inn ps t)) (i := ps.length) (by simp [inn_length])]
end Go.Proofs
