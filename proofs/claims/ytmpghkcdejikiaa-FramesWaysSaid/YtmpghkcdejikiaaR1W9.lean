/- Route over functions that are changed later; the walk of awake. No conditions: lemmas only. -/
import Derived.Test.YtmpghkcdejikiaaR1W7
namespace Go.Proofs
open Go.AM

def prw (s : AV) : List AV := [.str [], .int .i64 0, .int .i64 0, .int .i64 0, nv, nv, nv, nv, s, nv, nv]

theorem prw_le {S : List AV} {ps : List (List Site)} (hl : S.length = ps.length) (h : ∀ (i : Nat) s p, S[i]? = some s → ps[i]? = some p → Le s (.view 6 (p.map siteRow) .shared)) : Le (.view 11 (S.map prw) .shared) (.view 11 (ps.map procRow) .shared) := by
  refine .view _ _ _ _ (by simp [hl]) ?_ ?_ ?_
  · intro row hr c hc
    simp only [List.mem_map] at hr
    obtain ⟨x, _, rfl⟩ := hr
    simp only [procRow, List.mem_cons, List.not_mem_nil, or_false] at hc
    rcases hc with rfl | rfl | rfl | rfl | rfl | rfl | rfl | rfl | rfl | rfl | rfl <;> rfl
  · intro i row row' hr hr'
    simp only [List.getElem?_map, Option.map_eq_some_iff] at hr hr'
    obtain ⟨x, _, rfl⟩ := hr
    obtain ⟨y, _, rfl⟩ := hr'
    rfl
  · intro i j row row' c c' hr hr' hc hc'
    simp only [List.getElem?_map, Option.map_eq_some_iff] at hr hr'
    obtain ⟨x, hx, rfl⟩ := hr
    obtain ⟨y, hy, rfl⟩ := hr'
    match j with
    | 0 | 1 | 2 | 3 | 4 | 5 | 6 | 7 | 9 | 10 => cases hc; cases hc'; exact .refl _
    | 8 =>
      cases hc
      cases hc'
      exact h i _ y hx hy
    | j + 11 => cases hc

theorem Solid.site {s : Site} {c : AV} (h : c ∈ siteRow s) : Solid c := by
  simp only [siteRow, List.mem_cons, List.not_mem_nil, or_false] at h
  rcases h with rfl | rfl | rfl | rfl | rfl | rfl
  · exact .int _ _
  · exact .int _ _
  · exact .int _ _
  · exact .int _ _
  · exact .bool _
  · exact .nil _

theorem Still.site {s : Site} {c : AV} (h : c ∈ siteRow s) : Still c := by
  simp only [siteRow, List.mem_cons, List.not_mem_nil, or_false] at h
  rcases h with rfl | rfl | rfl | rfl | rfl | rfl
  · exact .int _ _
  · exact .int _ _
  · exact .int _ _
  · exact .int _ _
  · exact .bool _
  · exact .nil _

theorem Still.dbg (ps : List (List Site)) : Still (dbg ps) := by
  refine .agg _ fun c hc => ?_
  simp only [dbgCells, List.mem_cons, List.not_mem_nil, or_false] at hc
  rcases hc with rfl | rfl | rfl | rfl | rfl
  · exact .int _ _
  · exact .int _ _
  · exact .nil _
  · exact .nil _
  · refine .view _ _ fun row hr c hc => ?_
    simp only [List.mem_map] at hr
    obtain ⟨x, _, rfl⟩ := hr
    simp only [procRow, List.mem_cons, List.not_mem_nil, or_false] at hc
    rcases hc with rfl | rfl | rfl | rfl | rfl | rfl | rfl | rfl | rfl | rfl | rfl
    · exact .str _
    · exact .int _ _
    · exact .int _ _
    · exact .int _ _
    · exact .nil _
    · exact .nil _
    · exact .nil _
    · exact .nil _
    · refine .view _ _ fun row hr c hc => ?_
      simp only [List.mem_map] at hr
      obtain ⟨y, _, rfl⟩ := hr
      exact Still.site hc
    · exact .nil _
    · exact .nil _

/-- Route over functions that are changed later. -/
theorem route_at {ps : List (List Site)} (hs : Small ps) (a b : Int) {st : St} {o : Nat} {S : List AV} (ho : st.obj o = some (.cells 44 11 (S.map prw))) (hl : S.length = ps.length)
    (h : ∀ (i : Nat) s p, S[i]? = some s → ps[i]? = some p → Le s (.view 6 (p.map siteRow) .shared)) :
    ACalls Try.prog 6 [.agg [.int .i64 0, .int .i64 0, nv, nv, .msl o 11 0 S.length], .int .i64 a, .int .i64 b] st
      (fun v st' => (∃ x, v = .tuple [x, .int .i64 (route ps a b).2] ∧ ((route ps a b).1 ≠ [] → x = .view 6 ((route ps a b).1.map siteRow) .shared)) ∧ st' = st) (fun _ _ => False) := by
  refine ACalls.fz (avs' := [dbg ps, .int .i64 a, .int .i64 b]) (route_own ps hs a b St.bare) (fun g w rargs hsim hlen hR => ?_) (fun v st' hv => ?_)
  · have h3 : rargs.size = 3 := hlen.symm
    obtain ⟨g', _, _, hR0⟩ := (hR 0 _ rargs[0] rfl (by simp [h3])).frozenAgg hsim (i := 4) rfl ho (by simp)
    have hX : ((S.map prw).drop 0).take S.length = S.map prw := by rw [List.drop_zero, List.take_of_length_le (by simp)]
    rw [hX] at hR0
    have hle : Le (.agg ([.int .i64 0, .int .i64 0, nv, nv, .msl o 11 0 S.length].set 4 (.view 11 (S.map prw) .shared))) (.agg (dbgCells ps)) := by
      refine .agg _ _ rfl ?_ fun k c c' hc hc' => ?_
      · intro c hc
        simp only [dbgCells, List.mem_cons, List.not_mem_nil, or_false] at hc
        rcases hc with rfl | rfl | rfl | rfl | rfl <;> rfl
      · match k with
        | 0 | 1 | 2 | 3 => cases hc; cases hc'; exact .refl _
        | 4 => cases hc; cases hc'; exact prw_le hl h
        | k + 5 => cases hc
    have hR1 : R g' w (dbg ps) rargs[0] := R.le hle hR0
    refine ⟨g', hlen, fun i c v hc hv => ?_⟩
    match i with
    | 0 =>
      cases hc
      rw [Array.getElem?_eq_getElem (by omega)] at hv
      cases hv
      exact ⟨hR1, Still.dbg ps⟩
    | 1 => cases hc; exact ⟨(Solid.int _ _).R (hR 1 _ v rfl hv), .int _ _⟩
    | 2 => cases hc; exact ⟨(Solid.int _ _).R (hR 2 _ v rfl hv), .int _ _⟩
    | i + 3 => cases hc
  · rcases hv with ⟨tk, _, rfl, rfl⟩ | ⟨hn, rfl, rfl⟩
    · refine ⟨.tuple [.view 6 ((route ps a b).1.map siteRow) .shared, .int .i64 (route ps a b).2], .tuple _ _ rfl fun i c c' hc hc' => ?_, _, rfl, fun _ => rfl⟩
      match i with
      | 0 =>
        cases hc
        cases hc'
        refine .own _ _ _ _ (St.tok_addTok _ _) fun row hr c hc => ?_
        simp only [List.mem_map] at hr
        obtain ⟨y, _, rfl⟩ := hr
        exact Solid.site hc
      | 1 => cases hc; cases hc'; exact .solid _ (.int _ _)
      | i + 2 => cases hc
    · refine ⟨.tuple [nv, .int .i64 (route ps a b).2], .tuple _ _ rfl fun i c c' hc hc' => ?_, _, rfl, fun h => absurd hn h⟩
      match i with
      | 0 => cases hc; cases hc'; exact .solid _ (.nil _)
      | 1 => cases hc; cases hc'; exact .solid _ (.int _ _)
      | i + 2 => cases hc

def awakePs : List (List Site) := [[(1, 1, false)], [(5, 2, true)], []]
def awakePs2 : List (List Site) := [[(1, 1, false)], [(5, 2, true), (6, 1, true)], []]

set_option maxHeartbeats 4000000 in
theorem awake_ok (st : St) : ACalls Try.prog 10 [] st (fun v st' => v = .bool true ∧ st' = st) (fun _ _ => False) := by
  refine ACalls.ofBody Try.func10 rfl Try.ntmps10 rfl ?_
  repeat (first | refine nl ?_ | refine AWP.seq ?_ | refine rg ?_ | refine AWP.skip ?_ | refine AWP.block ?_ | refine sm rfl ?_ | refine uw rfl ?_ | refine fa rfl rfl ?_ | refine leW rfl rfl rfl rfl rfl ?_ | refine leW rfl rfl rfl (by assumption) rfl ?_ | refine lcW rfl rfl rfl (St.obj_set _ _ _) rfl rfl ?_ | refine le rfl rfl rfl rfl ?_ | refine le rfl rfl (by assumption) rfl ?_ | refine lnv rfl rfl ?_ | refine lnm rfl rfl ?_ | refine ix rfl rfl rfl rfl (by assumption) ?_ | refine ixm rfl rfl rfl rfl (by assumption) ?_ | refine lc rfl rfl (St.obj_set _ _ _) rfl rfl ?_ | refine lc rfl rfl (St.obj_set _ _ _) (by assumption) rfl ?_ | refine lc rfl rfl (by assumption) rfl rfl ?_ | refine lc rfl rfl (by assumption) (by assumption) rfl ?_ | refine inc rfl rfl rfl (by omega) ?_ | refine bs1 rfl rfl rfl rfl rfl rfl ?_ | refine bxe rfl rfl rfl rfl ?_ | refine eqn rfl rfl ?_ | refine eqb rfl rfl rfl ?_ | refine neb rfl rfl rfl ?_)
  refine mk (k := .i64) (k' := .i64) (len := 3) (cap := 3) rfl rfl rfl rfl (Nat.le_refl _) (by omega) (by omega) fun o ho => ?_
  refine bds (cs := [.int .i64 0, .int .i64 0, nv, nv, .msl o 11 0 3]) rfl rfl rfl rfl ?_
  refine al rfl rfl fun o1 ho1 => ?_
  refine soN 1 rfl rfl rfl rfl rfl rfl ho1 (nl ?_)
  repeat (first | refine nl ?_ | refine AWP.seq ?_ | refine AWP.skip ?_ | refine AWP.block ?_)
  refine rg ?_
  repeat (first | refine sm rfl ?_ | refine uw rfl ?_ | refine fa rfl rfl ?_ | refine leW rfl rfl rfl rfl rfl ?_ | refine leW rfl rfl rfl (by assumption) rfl ?_ | refine lcW rfl rfl rfl (St.obj_set _ _ _) rfl rfl ?_ | refine le rfl rfl rfl rfl ?_ | refine le rfl rfl (by assumption) rfl ?_ | refine lnv rfl rfl ?_ | refine lnm rfl rfl ?_ | refine ix rfl rfl rfl rfl (by assumption) ?_ | refine ixm rfl rfl rfl rfl (by assumption) ?_ | refine lc rfl rfl (St.obj_set _ _ _) rfl rfl ?_ | refine lc rfl rfl (St.obj_set _ _ _) (by assumption) rfl ?_ | refine lc rfl rfl (by assumption) rfl rfl ?_ | refine lc rfl rfl (by assumption) (by assumption) rfl ?_ | refine inc rfl rfl rfl (by omega) ?_ | refine bs1 rfl rfl rfl rfl rfl rfl ?_ | refine bxe rfl rfl rfl rfl ?_ | refine eqn rfl rfl ?_ | refine eqb rfl rfl rfl ?_ | refine neb rfl rfl rfl ?_)
  refine bds (cs := siteRow (1, 1, false)) rfl rfl rfl rfl ?_
  repeat (first | refine sm rfl ?_ | refine uw rfl ?_ | refine fa rfl rfl ?_ | refine leW rfl rfl rfl rfl rfl ?_ | refine leW rfl rfl rfl (by assumption) rfl ?_ | refine lcW rfl rfl rfl (St.obj_set _ _ _) rfl rfl ?_ | refine le rfl rfl rfl rfl ?_ | refine le rfl rfl (by assumption) rfl ?_ | refine lnv rfl rfl ?_ | refine lnm rfl rfl ?_ | refine ix rfl rfl rfl rfl (by assumption) ?_ | refine ixm rfl rfl rfl rfl (by assumption) ?_ | refine lc rfl rfl (St.obj_set _ _ _) rfl rfl ?_ | refine lc rfl rfl (St.obj_set _ _ _) (by assumption) rfl ?_ | refine lc rfl rfl (by assumption) rfl rfl ?_ | refine lc rfl rfl (by assumption) (by assumption) rfl ?_ | refine inc rfl rfl rfl (by omega) ?_ | refine bs1 rfl rfl rfl rfl rfl rfl ?_ | refine bxe rfl rfl rfl rfl ?_ | refine eqn rfl rfl ?_ | refine eqb rfl rfl rfl ?_ | refine neb rfl rfl rfl ?_)
  refine ixm rfl rfl rfl rfl (by decide) ?_
  repeat (first | refine sm rfl ?_ | refine uw rfl ?_ | refine fa rfl rfl ?_ | refine leW rfl rfl rfl rfl rfl ?_ | refine leW rfl rfl rfl (by assumption) rfl ?_ | refine lcW rfl rfl rfl (St.obj_set _ _ _) rfl rfl ?_ | refine le rfl rfl rfl rfl ?_ | refine le rfl rfl (by assumption) rfl ?_ | refine lnv rfl rfl ?_ | refine lnm rfl rfl ?_ | refine ix rfl rfl rfl rfl (by assumption) ?_ | refine ixm rfl rfl rfl rfl (by assumption) ?_ | refine lc rfl rfl (St.obj_set _ _ _) rfl rfl ?_ | refine lc rfl rfl (St.obj_set _ _ _) (by assumption) rfl ?_ | refine lc rfl rfl (by assumption) rfl rfl ?_ | refine lc rfl rfl (by assumption) (by assumption) rfl ?_ | refine inc rfl rfl rfl (by omega) ?_ | refine bs1 rfl rfl rfl rfl rfl rfl ?_ | refine bxe rfl rfl rfl rfl ?_ | refine eqn rfl rfl ?_ | refine eqb rfl rfl rfl ?_ | refine neb rfl rfl rfl ?_)
  refine sos (row := prw nv) (rows' := [prw (.view 6 [siteRow (1, 1, false)] .shared), prw nv, prw nv]) rfl rfl rfl rfl rfl rfl rfl rfl ?_
  repeat (first | refine nl ?_ | refine AWP.seq ?_ | refine rg ?_ | refine AWP.skip ?_ | refine AWP.block ?_ | refine sm rfl ?_ | refine uw rfl ?_ | refine fa rfl rfl ?_ | refine leW rfl rfl rfl rfl rfl ?_ | refine leW rfl rfl rfl (by assumption) rfl ?_ | refine lcW rfl rfl rfl (St.obj_set _ _ _) rfl rfl ?_ | refine le rfl rfl rfl rfl ?_ | refine le rfl rfl (by assumption) rfl ?_ | refine lnv rfl rfl ?_ | refine lnm rfl rfl ?_ | refine ix rfl rfl rfl rfl (by assumption) ?_ | refine ixm rfl rfl rfl rfl (by assumption) ?_ | refine lc rfl rfl (St.obj_set _ _ _) rfl rfl ?_ | refine lc rfl rfl (St.obj_set _ _ _) (by assumption) rfl ?_ | refine lc rfl rfl (by assumption) rfl rfl ?_ | refine lc rfl rfl (by assumption) (by assumption) rfl ?_ | refine inc rfl rfl rfl (by omega) ?_ | refine bs1 rfl rfl rfl rfl rfl rfl ?_ | refine bxe rfl rfl rfl rfl ?_ | refine eqn rfl rfl ?_ | refine eqb rfl rfl rfl ?_ | refine neb rfl rfl rfl ?_)
  refine bds (cs := siteRow (5, 2, true)) rfl rfl rfl rfl ?_
  refine bs1o rfl rfl rfl rfl rfl rfl fun tk htk => ?_
  refine ixm rfl rfl rfl rfl (by decide) ?_
  repeat (first | refine sm rfl ?_ | refine uw rfl ?_ | refine fa rfl rfl ?_ | refine leW rfl rfl rfl rfl rfl ?_ | refine leW rfl rfl rfl (by assumption) rfl ?_ | refine lcW rfl rfl rfl (St.obj_set _ _ _) rfl rfl ?_ | refine le rfl rfl rfl rfl ?_ | refine le rfl rfl (by assumption) rfl ?_ | refine lnv rfl rfl ?_ | refine lnm rfl rfl ?_ | refine ix rfl rfl rfl rfl (by assumption) ?_ | refine ixm rfl rfl rfl rfl (by assumption) ?_ | refine lc rfl rfl (St.obj_set _ _ _) rfl rfl ?_ | refine lc rfl rfl (St.obj_set _ _ _) (by assumption) rfl ?_ | refine lc rfl rfl (by assumption) rfl rfl ?_ | refine lc rfl rfl (by assumption) (by assumption) rfl ?_ | refine inc rfl rfl rfl (by omega) ?_ | refine bs1 rfl rfl rfl rfl rfl rfl ?_ | refine bxe rfl rfl rfl rfl ?_ | refine eqn rfl rfl ?_ | refine eqb rfl rfl rfl ?_ | refine neb rfl rfl rfl ?_)
  refine so (row := prw nv) (rows' := [prw (.view 6 [siteRow (1, 1, false)] .shared), prw (.view 6 [siteRow (5, 2, true)] (.own tk 47)), prw nv]) rfl rfl rfl (St.obj_set _ _ _) rfl rfl rfl rfl rfl ?_
  refine AOps.weaken (T' := [(1, .eptr 5 [[.int .i64 0, .int .i64 0, nv, nv, .msl o 11 0 3]] 0 0)]) (st' := (st.addTok tk).set o (.cells 44 11 ([.view 6 [siteRow (1, 1, false)] .shared, .view 6 [siteRow (5, 2, true)] (.own tk 47), nv].map prw))) (TLe.cons' rfl (TLe.nil _)) (by
    show StLe (((st.addTok tk).set o _).set o _) _
    rw [St.set_set]
    exact .refl _) (nl ?_)
  have hle1 : ∀ (i : Nat) s p, [AV.view 6 [siteRow (1, 1, false)] .shared, .view 6 [siteRow (5, 2, true)] (.own tk 47), nv][i]? = some s → awakePs[i]? = some p → Le s (.view 6 (p.map siteRow) .shared) := by
    intro i s p hs hp
    match i with
    | 0 => cases hs; cases hp; exact .refl _
    | 1 => cases hs; cases hp; exact .shared _ _ _
    | 2 => cases hs; cases hp; exact .nilShared _ _
    | i + 3 => cases hs
  have hsm1 : Small awakePs := ⟨by decide, by decide⟩
  have hsm2 : Small awakePs2 := ⟨by decide, by decide⟩
  have hr1 : route awakePs 1 2 = ([(5, 2, true)], 1) := by decide
  have hr2 : route awakePs 0 2 = ([], 0) := by decide
  have hr3 : route awakePs2 1 2 = ([], 2) := by decide
  repeat (first | refine nl ?_ | refine AWP.seq ?_ | refine AWP.skip ?_ | refine AWP.block ?_)
  refine rg ?_
  repeat (first | refine sm rfl ?_ | refine uw rfl ?_ | refine fa rfl rfl ?_ | refine leW rfl rfl rfl rfl rfl ?_ | refine leW rfl rfl rfl (by assumption) rfl ?_ | refine lcW rfl rfl rfl (St.obj_set _ _ _) rfl rfl ?_ | refine le rfl rfl rfl rfl ?_ | refine le rfl rfl (by assumption) rfl ?_ | refine lnv rfl rfl ?_ | refine lnm rfl rfl ?_ | refine ix rfl rfl rfl rfl (by assumption) ?_ | refine ixm rfl rfl rfl rfl (by assumption) ?_ | refine lc rfl rfl (St.obj_set _ _ _) rfl rfl ?_ | refine lc rfl rfl (St.obj_set _ _ _) (by assumption) rfl ?_ | refine lc rfl rfl (by assumption) rfl rfl ?_ | refine lc rfl rfl (by assumption) (by assumption) rfl ?_ | refine inc rfl rfl rfl (by omega) ?_ | refine bs1 rfl rfl rfl rfl rfl rfl ?_ | refine bxe rfl rfl rfl rfl ?_ | refine eqn rfl rfl ?_ | refine eqb rfl rfl rfl ?_ | refine neb rfl rfl rfl ?_)
  refine cl rfl rfl (route_at hsm1 1 2 (St.obj_set _ _ _) rfl hle1) fun v st' ⟨⟨x, hv, hx⟩, hst⟩ => ?_
  subst hst
  rw [hr1] at hv hx
  subst hv
  obtain rfl := hx (by decide)
  repeat (first | refine nl ?_ | refine AWP.seq ?_ | refine rg ?_ | refine AWP.skip ?_ | refine AWP.block ?_ | refine sm rfl ?_ | refine uw rfl ?_ | refine fa rfl rfl ?_ | refine leW rfl rfl rfl rfl rfl ?_ | refine leW rfl rfl rfl (by assumption) rfl ?_ | refine lcW rfl rfl rfl (St.obj_set _ _ _) rfl rfl ?_ | refine le rfl rfl rfl rfl ?_ | refine le rfl rfl (by assumption) rfl ?_ | refine lnv rfl rfl ?_ | refine lnm rfl rfl ?_ | refine ix rfl rfl rfl rfl (by assumption) ?_ | refine ixm rfl rfl rfl rfl (by assumption) ?_ | refine lc rfl rfl (St.obj_set _ _ _) rfl rfl ?_ | refine lc rfl rfl (St.obj_set _ _ _) (by assumption) rfl ?_ | refine lc rfl rfl (by assumption) rfl rfl ?_ | refine lc rfl rfl (by assumption) (by assumption) rfl ?_ | refine inc rfl rfl rfl (by omega) ?_ | refine bs1 rfl rfl rfl rfl rfl rfl ?_ | refine bxe rfl rfl rfl rfl ?_ | refine eqn rfl rfl ?_ | refine eqb rfl rfl rfl ?_ | refine neb rfl rfl rfl ?_)
  refine cl rfl rfl (route_at hsm1 0 2 (St.obj_set _ _ _) rfl hle1) fun v st' ⟨⟨x, hv, _⟩, hst⟩ => ?_
  subst hst
  rw [hr2] at hv
  subst hv
  repeat (first | refine nl ?_ | refine AWP.seq ?_ | refine rg ?_ | refine AWP.skip ?_ | refine AWP.block ?_ | refine sm rfl ?_ | refine uw rfl ?_ | refine fa rfl rfl ?_ | refine leW rfl rfl rfl rfl rfl ?_ | refine leW rfl rfl rfl (by assumption) rfl ?_ | refine lcW rfl rfl rfl (St.obj_set _ _ _) rfl rfl ?_ | refine le rfl rfl rfl rfl ?_ | refine le rfl rfl (by assumption) rfl ?_ | refine lnv rfl rfl ?_ | refine lnm rfl rfl ?_ | refine ix rfl rfl rfl rfl (by assumption) ?_ | refine ixm rfl rfl rfl rfl (by assumption) ?_ | refine lc rfl rfl (St.obj_set _ _ _) rfl rfl ?_ | refine lc rfl rfl (St.obj_set _ _ _) (by assumption) rfl ?_ | refine lc rfl rfl (by assumption) rfl rfl ?_ | refine lc rfl rfl (by assumption) (by assumption) rfl ?_ | refine inc rfl rfl rfl (by omega) ?_ | refine bs1 rfl rfl rfl rfl rfl rfl ?_ | refine bxe rfl rfl rfl rfl ?_ | refine eqn rfl rfl ?_ | refine eqb rfl rfl rfl ?_ | refine neb rfl rfl rfl ?_)
  have hobj' : ((st.addTok tk).set o (.cells 44 11 ([AV.view 6 [siteRow (1, 1, false)] .shared, .view 6 [siteRow (5, 2, true)] (.own tk 47), nv].map prw))).notok.obj o = some (.cells 44 11 ([AV.view 6 [siteRow (1, 1, false)] .shared, .view 6 [siteRow (5, 2, true)] (.own tk 47), nv].map prw)) := St.obj_set _ _ _
  refine AWP.draw rfl 10 9 (fun u st1 => ∃ k', u = .view 6 ([(5, 2, true), (6, 1, true)].map siteRow) (.own k' 47) ∧ st1 = (((st.addTok tk).set o (.cells 44 11 ([AV.view 6 [siteRow (1, 1, false)] .shared, .view 6 [siteRow (5, 2, true)] (.own tk 47), nv].map prw))).untok tk).addTok k') rfl ?_
  repeat (first | refine ds rfl rfl ?_ | refine du rfl rfl rfl ?_ | refine dq rfl rfl rfl (fun st1 hle => leW rfl rfl rfl rfl rfl (nl ⟨_, rfl, rfl, rfl⟩)) ?_ | refine dq rfl rfl rfl (fun st1 hle => leW rfl rfl rfl (by assumption) rfl (nl ⟨_, rfl, rfl, rfl⟩)) ?_ | refine dq rfl rfl rfl (fun st1 hle => le rfl rfl rfl rfl (nl ⟨_, rfl, rfl, rfl⟩)) ?_ | refine dq rfl rfl rfl (fun st1 hle => le rfl rfl (by assumption) rfl (nl ⟨_, rfl, rfl, rfl⟩)) ?_ | refine dq rfl rfl rfl (fun st1 hle => fa rfl rfl (nl ⟨_, rfl, rfl, rfl⟩)) ?_ | refine dq rfl rfl rfl (fun st1 hle => lnv rfl rfl (nl ⟨_, rfl, rfl, rfl⟩)) ?_ | refine dq rfl rfl rfl (fun st1 hle => lnm rfl rfl (nl ⟨_, rfl, rfl, rfl⟩)) ?_ | refine dq rfl rfl rfl (fun st1 hle => ix rfl rfl rfl rfl (by assumption) (nl ⟨_, rfl, rfl, rfl⟩)) ?_ | refine dq rfl rfl rfl (fun st1 hle => ixm rfl rfl rfl rfl (by assumption) (nl ⟨_, rfl, rfl, rfl⟩)) ?_ | refine dq rfl rfl rfl (fun st1 hle => lc rfl rfl (hle.obj _ _ (by assumption)) rfl rfl (nl ⟨_, rfl, rfl, rfl⟩)) ?_ | refine dq rfl rfl rfl (fun st1 hle => lc rfl rfl (hle.obj _ _ (by assumption)) (by assumption) rfl (nl ⟨_, rfl, rfl, rfl⟩)) ?_ | refine dq rfl rfl rfl (fun st1 hle => bs1 rfl rfl rfl rfl rfl rfl (nl ⟨_, rfl, rfl, rfl⟩)) ?_)
  refine dq rfl rfl rfl (fun st1 hle => ixm rfl rfl rfl rfl (by decide) (nl ⟨_, rfl, rfl, rfl⟩)) ?_
  repeat (first | refine ds rfl rfl ?_ | refine du rfl rfl rfl ?_ | refine dq rfl rfl rfl (fun st1 hle => leW rfl rfl rfl rfl rfl (nl ⟨_, rfl, rfl, rfl⟩)) ?_ | refine dq rfl rfl rfl (fun st1 hle => leW rfl rfl rfl (by assumption) rfl (nl ⟨_, rfl, rfl, rfl⟩)) ?_ | refine dq rfl rfl rfl (fun st1 hle => le rfl rfl rfl rfl (nl ⟨_, rfl, rfl, rfl⟩)) ?_ | refine dq rfl rfl rfl (fun st1 hle => le rfl rfl (by assumption) rfl (nl ⟨_, rfl, rfl, rfl⟩)) ?_ | refine dq rfl rfl rfl (fun st1 hle => fa rfl rfl (nl ⟨_, rfl, rfl, rfl⟩)) ?_ | refine dq rfl rfl rfl (fun st1 hle => lnv rfl rfl (nl ⟨_, rfl, rfl, rfl⟩)) ?_ | refine dq rfl rfl rfl (fun st1 hle => lnm rfl rfl (nl ⟨_, rfl, rfl, rfl⟩)) ?_ | refine dq rfl rfl rfl (fun st1 hle => ix rfl rfl rfl rfl (by assumption) (nl ⟨_, rfl, rfl, rfl⟩)) ?_ | refine dq rfl rfl rfl (fun st1 hle => ixm rfl rfl rfl rfl (by assumption) (nl ⟨_, rfl, rfl, rfl⟩)) ?_ | refine dq rfl rfl rfl (fun st1 hle => lc rfl rfl (hle.obj _ _ (by assumption)) rfl rfl (nl ⟨_, rfl, rfl, rfl⟩)) ?_ | refine dq rfl rfl rfl (fun st1 hle => lc rfl rfl (hle.obj _ _ (by assumption)) (by assumption) rfl (nl ⟨_, rfl, rfl, rfl⟩)) ?_ | refine dq rfl rfl rfl (fun st1 hle => bs1 rfl rfl rfl rfl rfl rfl (nl ⟨_, rfl, rfl, rfl⟩)) ?_)
  refine dq (v := .agg (siteRow (6, 1, true))) rfl rfl rfl (fun st1 hle => bds (cs := siteRow (6, 1, true)) rfl rfl rfl rfl (nl ⟨_, rfl, rfl, rfl⟩)) ?_
  repeat (first | refine ds rfl rfl ?_ | refine du rfl rfl rfl ?_ | refine dq rfl rfl rfl (fun st1 hle => leW rfl rfl rfl rfl rfl (nl ⟨_, rfl, rfl, rfl⟩)) ?_ | refine dq rfl rfl rfl (fun st1 hle => leW rfl rfl rfl (by assumption) rfl (nl ⟨_, rfl, rfl, rfl⟩)) ?_ | refine dq rfl rfl rfl (fun st1 hle => le rfl rfl rfl rfl (nl ⟨_, rfl, rfl, rfl⟩)) ?_ | refine dq rfl rfl rfl (fun st1 hle => le rfl rfl (by assumption) rfl (nl ⟨_, rfl, rfl, rfl⟩)) ?_ | refine dq rfl rfl rfl (fun st1 hle => fa rfl rfl (nl ⟨_, rfl, rfl, rfl⟩)) ?_ | refine dq rfl rfl rfl (fun st1 hle => lnv rfl rfl (nl ⟨_, rfl, rfl, rfl⟩)) ?_ | refine dq rfl rfl rfl (fun st1 hle => lnm rfl rfl (nl ⟨_, rfl, rfl, rfl⟩)) ?_ | refine dq rfl rfl rfl (fun st1 hle => ix rfl rfl rfl rfl (by assumption) (nl ⟨_, rfl, rfl, rfl⟩)) ?_ | refine dq rfl rfl rfl (fun st1 hle => ixm rfl rfl rfl rfl (by assumption) (nl ⟨_, rfl, rfl, rfl⟩)) ?_ | refine dq rfl rfl rfl (fun st1 hle => lc rfl rfl (hle.obj _ _ (by assumption)) rfl rfl (nl ⟨_, rfl, rfl, rfl⟩)) ?_ | refine dq rfl rfl rfl (fun st1 hle => lc rfl rfl (hle.obj _ _ (by assumption)) (by assumption) rfl (nl ⟨_, rfl, rfl, rfl⟩)) ?_ | refine dq rfl rfl rfl (fun st1 hle => bs1 rfl rfl rfl rfl rfl rfl (nl ⟨_, rfl, rfl, rfl⟩)) ?_)
  refine de rfl rfl rfl (ap rfl rfl rfl (St.tok_addTok _ _) rfl (by decide) (by decide) fun k' hk' => nl ⟨_, rfl, ⟨k', rfl, rfl⟩, ⟨fun _ _ h => h, fun _ h => (by cases h), rfl⟩⟩) ?_
  refine dn ⟨fun h => absurd h (by decide), fun _ v st1 d hd ⟨k', hv, hst⟩ => ?_⟩
  cases hd
  subst hv
  subst hst
  repeat (first | refine sm rfl ?_ | refine uw rfl ?_ | refine fa rfl rfl ?_ | refine leW rfl rfl rfl rfl rfl ?_ | refine leW rfl rfl rfl (by assumption) rfl ?_ | refine lcW rfl rfl rfl (St.obj_set _ _ _) rfl rfl ?_ | refine le rfl rfl rfl rfl ?_ | refine le rfl rfl (by assumption) rfl ?_ | refine lnv rfl rfl ?_ | refine lnm rfl rfl ?_ | refine ix rfl rfl rfl rfl (by assumption) ?_ | refine ixm rfl rfl rfl rfl (by assumption) ?_ | refine lc rfl rfl (St.obj_set _ _ _) rfl rfl ?_ | refine lc rfl rfl (St.obj_set _ _ _) (by assumption) rfl ?_ | refine lc rfl rfl (by assumption) rfl rfl ?_ | refine lc rfl rfl (by assumption) (by assumption) rfl ?_ | refine inc rfl rfl rfl (by omega) ?_ | refine bs1 rfl rfl rfl rfl rfl rfl ?_ | refine bxe rfl rfl rfl rfl ?_ | refine eqn rfl rfl ?_ | refine eqb rfl rfl rfl ?_ | refine neb rfl rfl rfl ?_)
  refine ixm rfl rfl rfl rfl (by decide) ?_
  repeat (first | refine sm rfl ?_ | refine uw rfl ?_ | refine fa rfl rfl ?_ | refine leW rfl rfl rfl rfl rfl ?_ | refine leW rfl rfl rfl (by assumption) rfl ?_ | refine lcW rfl rfl rfl (St.obj_set _ _ _) rfl rfl ?_ | refine le rfl rfl rfl rfl ?_ | refine le rfl rfl (by assumption) rfl ?_ | refine lnv rfl rfl ?_ | refine lnm rfl rfl ?_ | refine ix rfl rfl rfl rfl (by assumption) ?_ | refine ixm rfl rfl rfl rfl (by assumption) ?_ | refine lc rfl rfl (St.obj_set _ _ _) rfl rfl ?_ | refine lc rfl rfl (St.obj_set _ _ _) (by assumption) rfl ?_ | refine lc rfl rfl (by assumption) rfl rfl ?_ | refine lc rfl rfl (by assumption) (by assumption) rfl ?_ | refine inc rfl rfl rfl (by omega) ?_ | refine bs1 rfl rfl rfl rfl rfl rfl ?_ | refine bxe rfl rfl rfl rfl ?_ | refine eqn rfl rfl ?_ | refine eqb rfl rfl rfl ?_ | refine neb rfl rfl rfl ?_)
  refine so (row := prw (.view 6 [siteRow (5, 2, true)] (.own tk 47))) (rows' := [AV.view 6 [siteRow (1, 1, false)] .shared, .view 6 ([(5, 2, true), (6, 1, true)].map siteRow) (.own k' 47), nv].map prw) rfl rfl rfl (St.obj_set _ _ _) rfl rfl rfl rfl rfl ?_
  refine AOps.weaken (T' := [(1, .eptr 5 [[.int .i64 0, .int .i64 0, nv, nv, .msl o 11 0 3]] 0 0), (2, .view 6 [siteRow (5, 2, true)] .shared), (3, .int .i64 1), (5, .int .i64 0)]) (st' := (st.addTok k').set o (.cells 44 11 ([.view 6 [siteRow (1, 1, false)] .shared, .view 6 ([(5, 2, true), (6, 1, true)].map siteRow) (.own k' 47), nv].map prw))) (tl4 rfl rfl rfl rfl) (by
    show StLe (((((st.addTok tk).untok tk).addTok k').set o _).set o _) _
    rw [St.set_set]
    exact StLe.set _ _ (StLe.reTok (st := st) htk _)) (nl ?_)
  have hle2 : ∀ (i : Nat) s p, [AV.view 6 [siteRow (1, 1, false)] .shared, .view 6 ([(5, 2, true), (6, 1, true)].map siteRow) (.own k' 47), nv][i]? = some s → awakePs2[i]? = some p → Le s (.view 6 (p.map siteRow) .shared) := by
    intro i s p hs hp
    match i with
    | 0 => cases hs; cases hp; exact .refl _
    | 1 => cases hs; cases hp; exact .shared _ _ _
    | 2 => cases hs; cases hp; exact .nilShared _ _
    | i + 3 => cases hs
  repeat (first | refine nl ?_ | refine AWP.seq ?_ | refine rg ?_ | refine AWP.skip ?_ | refine AWP.block ?_ | refine sm rfl ?_ | refine uw rfl ?_ | refine fa rfl rfl ?_ | refine leW rfl rfl rfl rfl rfl ?_ | refine leW rfl rfl rfl (by assumption) rfl ?_ | refine lcW rfl rfl rfl (St.obj_set _ _ _) rfl rfl ?_ | refine le rfl rfl rfl rfl ?_ | refine le rfl rfl (by assumption) rfl ?_ | refine lnv rfl rfl ?_ | refine lnm rfl rfl ?_ | refine ix rfl rfl rfl rfl (by assumption) ?_ | refine ixm rfl rfl rfl rfl (by assumption) ?_ | refine lc rfl rfl (St.obj_set _ _ _) rfl rfl ?_ | refine lc rfl rfl (St.obj_set _ _ _) (by assumption) rfl ?_ | refine lc rfl rfl (by assumption) rfl rfl ?_ | refine lc rfl rfl (by assumption) (by assumption) rfl ?_ | refine inc rfl rfl rfl (by omega) ?_ | refine bs1 rfl rfl rfl rfl rfl rfl ?_ | refine bxe rfl rfl rfl rfl ?_ | refine eqn rfl rfl ?_ | refine eqb rfl rfl rfl ?_ | refine neb rfl rfl rfl ?_)
  refine cl rfl rfl (route_at hsm2 1 2 (St.obj_set _ _ _) rfl hle2) fun v st' ⟨⟨x, hv, _⟩, hst⟩ => ?_
  subst hst
  rw [hr3] at hv
  subst hv
  repeat (first | refine nl ?_ | refine AWP.seq ?_ | refine rg ?_ | refine AWP.skip ?_ | refine AWP.block ?_ | refine sm rfl ?_ | refine uw rfl ?_ | refine fa rfl rfl ?_ | refine leW rfl rfl rfl rfl rfl ?_ | refine leW rfl rfl rfl (by assumption) rfl ?_ | refine lcW rfl rfl rfl (St.obj_set _ _ _) rfl rfl ?_ | refine le rfl rfl rfl rfl ?_ | refine le rfl rfl (by assumption) rfl ?_ | refine lnv rfl rfl ?_ | refine lnm rfl rfl ?_ | refine ix rfl rfl rfl rfl (by assumption) ?_ | refine ixm rfl rfl rfl rfl (by assumption) ?_ | refine lc rfl rfl (St.obj_set _ _ _) rfl rfl ?_ | refine lc rfl rfl (St.obj_set _ _ _) (by assumption) rfl ?_ | refine lc rfl rfl (by assumption) rfl rfl ?_ | refine lc rfl rfl (by assumption) (by assumption) rfl ?_ | refine inc rfl rfl rfl (by omega) ?_ | refine bs1 rfl rfl rfl rfl rfl rfl ?_ | refine bxe rfl rfl rfl rfl ?_ | refine eqn rfl rfl ?_ | refine eqb rfl rfl rfl ?_ | refine neb rfl rfl rfl ?_)
  refine ix rfl rfl rfl rfl (by decide) ?_
  repeat (first | refine nl ?_ | refine AWP.seq ?_ | refine rg ?_ | refine AWP.skip ?_ | refine AWP.block ?_ | refine sm rfl ?_ | refine uw rfl ?_ | refine fa rfl rfl ?_ | refine leW rfl rfl rfl rfl rfl ?_ | refine leW rfl rfl rfl (by assumption) rfl ?_ | refine lcW rfl rfl rfl (St.obj_set _ _ _) rfl rfl ?_ | refine le rfl rfl rfl rfl ?_ | refine le rfl rfl (by assumption) rfl ?_ | refine lnv rfl rfl ?_ | refine lnm rfl rfl ?_ | refine ix rfl rfl rfl rfl (by assumption) ?_ | refine ixm rfl rfl rfl rfl (by assumption) ?_ | refine lc rfl rfl (St.obj_set _ _ _) rfl rfl ?_ | refine lc rfl rfl (St.obj_set _ _ _) (by assumption) rfl ?_ | refine lc rfl rfl (by assumption) rfl rfl ?_ | refine lc rfl rfl (by assumption) (by assumption) rfl ?_ | refine inc rfl rfl rfl (by omega) ?_ | refine bs1 rfl rfl rfl rfl rfl rfl ?_ | refine bxe rfl rfl rfl rfl ?_ | refine eqn rfl rfl ?_ | refine eqb rfl rfl rfl ?_ | refine neb rfl rfl rfl ?_)
  exact AWP.ret (rets rfl (.refl _) (StLe.new (st := st.addTok k') ho (StLe.addTok _ (.refl _))) ⟨rfl, rfl⟩)
end Go.Proofs
