/- The walk of count. No conditions: lemmas only. -/
import Derived.Test.YtmpghkcdejikiaaR1W10
import Derived.Test.YtmpghkcdejikiaaR1C
import Derived.Test.YtmpghkcdejikiaaAM18
namespace Go.Proofs
open Go.AM

def nrow (A : List Nat) : List AV := A.map fun a => .int .i64 ((min a 3 : Nat) : Int)

theorem nrow_get {A : List Nat} {m : Nat} (h : m < A.length) : (nrow A)[0 + m * 1]? = some (.int .i64 ((min (A.getD m 0) 3 : Nat) : Int)) := by
  simp [nrow, h]

theorem nrow_set {A : List Nat} {m x : Nat} (h : m < A.length) : rowSet (nrow A) (0 + m * 1) [.int .i64 ((min x 3 : Nat) : Int)] = nrow (A.set m x) := by
  simp only [rowSet, nrow, Nat.zero_add, Nat.mul_one, List.length_singleton, List.map_set]
  rw [List.set_eq_take_append_cons_drop, if_pos (by simpa using h)]
  simp

theorem min_add (a b : Nat) : min ((min a 3 : Nat) + (min b 3 : Nat) : Int) 3 = ((min (a + b) 3 : Nat) : Int) := by omega

theorem modify_set (Y : List Nat) (c a : Nat) : Y.modify c (· + a) = Y.set c (Y.getD c 0 + a) := by
  refine List.ext_getElem? fun i => ?_
  rw [List.getElem?_modify, List.getElem?_set]
  by_cases h : c = i
  · subst h
    cases hy : Y[c]? with
    | none =>
      have : ¬ c < Y.length := by
        intro h
        rw [List.getElem?_eq_getElem h] at hy
        cases hy
      simp [this]
    | some y =>
      have : c < Y.length := (List.getElem?_eq_some_iff.1 hy).1
      have hy' : Y[c] = y := (List.getElem?_eq_some_iff.1 hy).2
      simp [this, hy']
  · simp [h]

set_option maxHeartbeats 4000000 in
theorem count_ok (ps : List (List Site)) (hs : Small ps) (hi : Inside ps) (hl : ps.length = 6) (f t k : Nat) (hf : f < 6) (ht : t < 6) (hk : k ≤ 1000) (st : St) :
    ACalls Try.prog 11 [dbg ps, .int .i64 f, .int .i64 t, .int .i64 k] st (fun v st' => v = .int .i64 ((min (wy ps t k f) 3 : Nat) : Int) ∧ st' = st) (fun _ _ => False) := by
  have hpl : (ps.map procRow).length = ps.length := List.length_map ..
  refine ACalls.ofBody Try.func11 rfl Try.ntmps11 rfl ?_
  repeat (first | refine nl ?_ | refine AWP.seq ?_ | refine AWP.skip ?_ | refine AWP.block ?_)
  refine rg ?_
  repeat (first | refine sm rfl ?_ | refine uw rfl ?_ | refine fa rfl rfl ?_ | refine leW rfl rfl rfl rfl rfl ?_ | refine leW rfl rfl rfl (by assumption) rfl ?_ | refine lcW rfl rfl rfl (St.obj_set _ _ _) rfl rfl ?_ | refine le rfl rfl rfl rfl ?_ | refine le rfl rfl (by assumption) rfl ?_ | refine lnv rfl rfl ?_ | refine lnm rfl rfl ?_ | refine ix rfl rfl rfl rfl (by assumption) ?_ | refine ixm rfl rfl rfl rfl (by assumption) ?_ | refine lc rfl rfl (St.obj_set _ _ _) rfl rfl ?_ | refine lc rfl rfl (St.obj_set _ _ _) (by assumption) rfl ?_ | refine lc rfl rfl (by assumption) rfl rfl ?_ | refine lc rfl rfl (by assumption) (by assumption) rfl ?_ | refine inc rfl rfl rfl (by omega) ?_ | refine bs1 rfl rfl rfl rfl rfl rfl ?_ | refine bxe rfl rfl rfl rfl ?_ | refine eqn rfl rfl ?_ | refine eqb rfl rfl rfl ?_ | refine neb rfl rfl rfl ?_)
  repeat (first | refine nl ?_ | refine AWP.seq ?_ | refine rg ?_ | refine AWP.skip ?_ | refine AWP.block ?_ | refine sm rfl ?_ | refine uw rfl ?_ | refine fa rfl rfl ?_ | refine leW rfl rfl rfl rfl rfl ?_ | refine leW rfl rfl rfl (by assumption) rfl ?_ | refine lcW rfl rfl rfl (St.obj_set _ _ _) rfl rfl ?_ | refine le rfl rfl rfl rfl ?_ | refine le rfl rfl (by assumption) rfl ?_ | refine lnv rfl rfl ?_ | refine lnm rfl rfl ?_ | refine ix rfl rfl rfl rfl (by assumption) ?_ | refine ixm rfl rfl rfl rfl (by assumption) ?_ | refine lc rfl rfl (St.obj_set _ _ _) rfl rfl ?_ | refine lc rfl rfl (St.obj_set _ _ _) (by assumption) rfl ?_ | refine lc rfl rfl (by assumption) rfl rfl ?_ | refine lc rfl rfl (by assumption) (by assumption) rfl ?_ | refine inc rfl rfl rfl (by omega) ?_ | refine bs1 rfl rfl rfl rfl rfl rfl ?_ | refine bxe rfl rfl rfl rfl ?_ | refine eqn rfl rfl ?_ | refine eqb rfl rfl rfl ?_ | refine neb rfl rfl rfl ?_)
  refine al rfl rfl fun o9 ho9 => ?_
  repeat (first | refine nl ?_ | refine AWP.seq ?_ | refine rg ?_ | refine AWP.skip ?_ | refine AWP.block ?_ | refine sm rfl ?_ | refine uw rfl ?_ | refine fa rfl rfl ?_ | refine leW rfl rfl rfl rfl rfl ?_ | refine leW rfl rfl rfl (by assumption) rfl ?_ | refine lcW rfl rfl rfl (St.obj_set _ _ _) rfl rfl ?_ | refine le rfl rfl rfl rfl ?_ | refine le rfl rfl (by assumption) rfl ?_ | refine lnv rfl rfl ?_ | refine lnm rfl rfl ?_ | refine ix rfl rfl rfl rfl (by assumption) ?_ | refine ixm rfl rfl rfl rfl (by assumption) ?_ | refine lc rfl rfl (St.obj_set _ _ _) rfl rfl ?_ | refine lc rfl rfl (St.obj_set _ _ _) (by assumption) rfl ?_ | refine lc rfl rfl (by assumption) rfl rfl ?_ | refine lc rfl rfl (by assumption) (by assumption) rfl ?_ | refine inc rfl rfl rfl (by omega) ?_ | refine bs1 rfl rfl rfl rfl rfl rfl ?_ | refine bxe rfl rfl rfl rfl ?_ | refine eqn rfl rfl ?_ | refine eqb rfl rfl rfl ?_ | refine neb rfl rfl rfl ?_)
  refine ixa rfl rfl rfl hf rfl ?_
  refine sos (row := nrow (List.replicate 6 0)) (rows' := [nrow ((List.replicate 6 0).set f 1)]) rfl rfl rfl rfl rfl rfl (Nat.ble_eq_true_of_le (by simp [nrow, absV, abs1, AV.cells]; omega)) (congrArg (fun x => [x]) (nrow_set (x := 1) (by simpa using hf))) ?_
  repeat (first | refine nl ?_ | refine AWP.seq ?_ | refine rg ?_ | refine AWP.skip ?_ | refine AWP.block ?_ | refine sm rfl ?_ | refine uw rfl ?_ | refine fa rfl rfl ?_ | refine leW rfl rfl rfl rfl rfl ?_ | refine leW rfl rfl rfl (by assumption) rfl ?_ | refine lcW rfl rfl rfl (St.obj_set _ _ _) rfl rfl ?_ | refine le rfl rfl rfl rfl ?_ | refine le rfl rfl (by assumption) rfl ?_ | refine lnv rfl rfl ?_ | refine lnm rfl rfl ?_ | refine ix rfl rfl rfl rfl (by assumption) ?_ | refine ixm rfl rfl rfl rfl (by assumption) ?_ | refine lc rfl rfl (St.obj_set _ _ _) rfl rfl ?_ | refine lc rfl rfl (St.obj_set _ _ _) (by assumption) rfl ?_ | refine lc rfl rfl (by assumption) rfl rfl ?_ | refine lc rfl rfl (by assumption) (by assumption) rfl ?_ | refine inc rfl rfl rfl (by omega) ?_ | refine bs1 rfl rfl rfl rfl rfl rfl ?_ | refine bxe rfl rfl rfl rfl ?_ | refine eqn rfl rfl ?_ | refine eqb rfl rfl rfl ?_ | refine neb rfl rfl rfl ?_)
  refine ixa rfl rfl rfl ht rfl ?_
  refine lc rfl rfl (St.obj_set _ _ _) rfl (nrow_get (by simpa using ht)) ?_
  repeat (first | refine nl ?_ | refine AWP.seq ?_ | refine rg ?_ | refine AWP.skip ?_ | refine AWP.block ?_ | refine sm rfl ?_ | refine uw rfl ?_ | refine fa rfl rfl ?_ | refine leW rfl rfl rfl rfl rfl ?_ | refine leW rfl rfl rfl (by assumption) rfl ?_ | refine lcW rfl rfl rfl (St.obj_set _ _ _) rfl rfl ?_ | refine le rfl rfl rfl rfl ?_ | refine le rfl rfl (by assumption) rfl ?_ | refine lnv rfl rfl ?_ | refine lnm rfl rfl ?_ | refine ix rfl rfl rfl rfl (by assumption) ?_ | refine ixm rfl rfl rfl rfl (by assumption) ?_ | refine lc rfl rfl (St.obj_set _ _ _) rfl rfl ?_ | refine lc rfl rfl (St.obj_set _ _ _) (by assumption) rfl ?_ | refine lc rfl rfl (by assumption) rfl rfl ?_ | refine lc rfl rfl (by assumption) (by assumption) rfl ?_ | refine inc rfl rfl rfl (by omega) ?_ | refine bs1 rfl rfl rfl rfl rfl rfl ?_ | refine bxe rfl rfl rfl rfl ?_ | refine eqn rfl rfl ?_ | refine eqb rfl rfl rfl ?_ | refine neb rfl rfl rfl ?_)
  have hN : ps.length = 6 := hl
  have hA0 : (List.replicate 6 0).set f 1 = (List.replicate ps.length 0).set f 1 := by rw [hl]
  rw [hA0]
  generalize hA : (List.replicate ps.length 0).set f 1 = A
  have hAl : A.length = ps.length := by rw [← hA]; simp
  have hit := iterT_wy hi (t := t) (by rw [hl]; exact hf) k
  rw [hA] at hit
  refine AWP.loop (α := Nat) (fun j => [(11, .int .i64 j), (10, .int .i64 ((min (iterT ps t A (A.getD t 0) j).2 3 : Nat) : Int)), (9, .cptr o9 6 0 0), (3, .int .i64 k), (2, .int .i64 t), (4, .eptr 5 [dbgCells ps] 0 0)])
    (fun j => st.set o9 (.cells 56 6 [nrow (iterT ps t A (A.getD t 0) j).1])) (fun j => j ≤ k) (fun j => k - j) 0 (Nat.zero_le _) (tl6 rfl rfl rfl rfl rfl rfl) (.refl _) ?_
  intro j hj
  repeat (first | refine nl ?_ | refine AWP.seq ?_ | refine rg ?_ | refine AWP.skip ?_ | refine AWP.block ?_ | refine sm rfl ?_ | refine uw rfl ?_ | refine fa rfl rfl ?_ | refine leW rfl rfl rfl rfl rfl ?_ | refine leW rfl rfl rfl (by assumption) rfl ?_ | refine lcW rfl rfl rfl (St.obj_set _ _ _) rfl rfl ?_ | refine le rfl rfl rfl rfl ?_ | refine le rfl rfl (by assumption) rfl ?_ | refine lnv rfl rfl ?_ | refine lnm rfl rfl ?_ | refine ix rfl rfl rfl rfl (by assumption) ?_ | refine ixm rfl rfl rfl rfl (by assumption) ?_ | refine lc rfl rfl (St.obj_set _ _ _) rfl rfl ?_ | refine lc rfl rfl (St.obj_set _ _ _) (by assumption) rfl ?_ | refine lc rfl rfl (by assumption) rfl rfl ?_ | refine lc rfl rfl (by assumption) (by assumption) rfl ?_ | refine inc rfl rfl rfl (by omega) ?_ | refine bs1 rfl rfl rfl rfl rfl rfl ?_ | refine bxe rfl rfl rfl rfl ?_ | refine eqn rfl rfl ?_ | refine eqb rfl rfl rfl ?_ | refine neb rfl rfl rfl ?_)
  refine AWP.cond_dec rfl (fun h => AWP.skip ?_) (fun h => AWP.exit (blk_hit ?_))
  · have hj' : j < k := by exact Int.ofNat_lt.1 h
    have hBl := iterT_length ps t A (A.getD t 0) hAl j
    have hsucc := iterT_succ ps t A (A.getD t 0) j
    generalize iterT ps t A (A.getD t 0) j = B at hBl hsucc
    obtain ⟨B, nn⟩ := B
    simp only at hBl hsucc
    repeat (first | refine nl ?_ | refine AWP.seq ?_ | refine AWP.skip ?_ | refine AWP.block ?_)
    refine rg ?_
    refine al rfl rfl fun o12 ho12 => ?_
    have hne : o12 ≠ o9 := by rintro rfl; rw [St.obj_set] at ho12; cases ho12
    repeat (first | refine nl ?_ | refine AWP.seq ?_ | refine rg ?_ | refine AWP.skip ?_ | refine AWP.block ?_ | refine sm rfl ?_ | refine uw rfl ?_ | refine fa rfl rfl ?_ | refine leW rfl rfl rfl rfl rfl ?_ | refine leW rfl rfl rfl (by assumption) rfl ?_ | refine lcW rfl rfl rfl (St.obj_set _ _ _) rfl rfl ?_ | refine le rfl rfl rfl rfl ?_ | refine le rfl rfl (by assumption) rfl ?_ | refine lnv rfl rfl ?_ | refine lnm rfl rfl ?_ | refine ix rfl rfl rfl rfl (by assumption) ?_ | refine ixm rfl rfl rfl rfl (by assumption) ?_ | refine lc rfl rfl (St.obj_set _ _ _) rfl rfl ?_ | refine lc rfl rfl (St.obj_set _ _ _) (by assumption) rfl ?_ | refine lc rfl rfl (by assumption) rfl rfl ?_ | refine lc rfl rfl (by assumption) (by assumption) rfl ?_ | refine inc rfl rfl rfl (by omega) ?_ | refine bs1 rfl rfl rfl rfl rfl rfl ?_ | refine bxe rfl rfl rfl rfl ?_ | refine eqn rfl rfl ?_ | refine eqb rfl rfl rfl ?_ | refine neb rfl rfl rfl ?_)
    refine AWP.loop (α := Nat) (fun g => [(13, .int .i64 g), (12, .cptr o12 6 0 0), (11, .int .i64 j), (10, .int .i64 ((min nn 3 : Nat) : Int)), (9, .cptr o9 6 0 0), (3, .int .i64 k), (2, .int .i64 t), (4, .eptr 5 [dbgCells ps] 0 0)])
      (fun g => (st.set o9 (.cells 56 6 [nrow B])).set o12 (.cells 56 6 [nrow (nextT ps B g)])) (fun g => g ≤ 6) (fun g => 6 - g) 0 (Nat.zero_le _) (tl8 rfl rfl rfl rfl rfl rfl rfl rfl) (by
        simp only [nextT, List.range_zero, List.foldl_nil, hl]
        exact .refl _) ?_
    intro g hg
    repeat (first | refine nl ?_ | refine AWP.seq ?_ | refine rg ?_ | refine AWP.skip ?_ | refine AWP.block ?_ | refine sm rfl ?_ | refine uw rfl ?_ | refine fa rfl rfl ?_ | refine leW rfl rfl rfl rfl rfl ?_ | refine leW rfl rfl rfl (by assumption) rfl ?_ | refine lcW rfl rfl rfl (St.obj_set _ _ _) rfl rfl ?_ | refine le rfl rfl rfl rfl ?_ | refine le rfl rfl (by assumption) rfl ?_ | refine lnv rfl rfl ?_ | refine lnm rfl rfl ?_ | refine ix rfl rfl rfl rfl (by assumption) ?_ | refine ixm rfl rfl rfl rfl (by assumption) ?_ | refine lc rfl rfl (St.obj_set _ _ _) rfl rfl ?_ | refine lc rfl rfl (St.obj_set _ _ _) (by assumption) rfl ?_ | refine lc rfl rfl (by assumption) rfl rfl ?_ | refine lc rfl rfl (by assumption) (by assumption) rfl ?_ | refine inc rfl rfl rfl (by omega) ?_ | refine bs1 rfl rfl rfl rfl rfl rfl ?_ | refine bxe rfl rfl rfl rfl ?_ | refine eqn rfl rfl ?_ | refine eqb rfl rfl rfl ?_ | refine neb rfl rfl rfl ?_)
    refine AWP.cond_dec rfl (fun h => AWP.skip ?_) (fun h => AWP.exit (blk_hit ?_))
    · have hg' : g < 6 := by have : (g : Int) < 6 := h; omega
      have hgp : g < ps.length := by omega
      have hgl : g < (ps.map procRow).length := by omega
      have hrow : (ps.map procRow)[g]? = some (procRow ps[g]) := by simp [hgp]
      have hss : ps[g].length ≤ 1000 := hs.each _ (List.getElem_mem hgp)
      have hXl := nextT_length ps B g
      have hnx := nextT_succ ps B g
      rw [List.getElem?_eq_getElem hgp, Option.getD_some] at hnx
      generalize nextT ps B g = X at hXl hnx
      repeat (first | refine nl ?_ | refine AWP.seq ?_ | refine rg ?_ | refine AWP.skip ?_ | refine AWP.block ?_ | refine sm rfl ?_ | refine uw rfl ?_ | refine fa rfl rfl ?_ | refine leW rfl rfl rfl rfl rfl ?_ | refine leW rfl rfl rfl (by assumption) rfl ?_ | refine lcW rfl rfl rfl (St.obj_set _ _ _) rfl rfl ?_ | refine le rfl rfl rfl rfl ?_ | refine le rfl rfl (by assumption) rfl ?_ | refine lnv rfl rfl ?_ | refine lnm rfl rfl ?_ | refine ix rfl rfl rfl rfl (by assumption) ?_ | refine ixm rfl rfl rfl rfl (by assumption) ?_ | refine lc rfl rfl (St.obj_set _ _ _) rfl rfl ?_ | refine lc rfl rfl (St.obj_set _ _ _) (by assumption) rfl ?_ | refine lc rfl rfl (by assumption) rfl rfl ?_ | refine lc rfl rfl (by assumption) (by assumption) rfl ?_ | refine inc rfl rfl rfl (by omega) ?_ | refine bs1 rfl rfl rfl rfl rfl rfl ?_ | refine bxe rfl rfl rfl rfl ?_ | refine eqn rfl rfl ?_ | refine eqb rfl rfl rfl ?_ | refine neb rfl rfl rfl ?_)
      refine AWP.loop (α := Nat) (fun i => [(14, .int .i64 i), (13, .int .i64 g), (12, .cptr o12 6 0 0), (11, .int .i64 j), (10, .int .i64 ((min nn 3 : Nat) : Int)), (9, .cptr o9 6 0 0), (3, .int .i64 k), (2, .int .i64 t), (4, .eptr 5 [dbgCells ps] 0 0)])
        (fun i => (st.set o9 (.cells 56 6 [nrow B])).set o12 (.cells 56 6 [nrow (rowT (B.getD g 0) X (ps[g].take i))])) (fun i => i ≤ ps[g].length) (fun i => ps[g].length - i) 0 (Nat.zero_le _) (tl9 rfl rfl rfl rfl rfl rfl rfl rfl rfl) (.refl _) ?_
      intro i hile
      repeat (first | refine nl ?_ | refine AWP.seq ?_ | refine rg ?_ | refine AWP.skip ?_ | refine AWP.block ?_ | refine sm rfl ?_ | refine uw rfl ?_ | refine fa rfl rfl ?_ | refine leW rfl rfl rfl rfl rfl ?_ | refine leW rfl rfl rfl (by assumption) rfl ?_ | refine lcW rfl rfl rfl (St.obj_set _ _ _) rfl rfl ?_ | refine le rfl rfl rfl rfl ?_ | refine le rfl rfl (by assumption) rfl ?_ | refine lnv rfl rfl ?_ | refine lnm rfl rfl ?_ | refine ix rfl rfl rfl rfl (by assumption) ?_ | refine ixm rfl rfl rfl rfl (by assumption) ?_ | refine lc rfl rfl (St.obj_set _ _ _) rfl rfl ?_ | refine lc rfl rfl (St.obj_set _ _ _) (by assumption) rfl ?_ | refine lc rfl rfl (by assumption) rfl rfl ?_ | refine lc rfl rfl (by assumption) (by assumption) rfl ?_ | refine inc rfl rfl rfl (by omega) ?_ | refine bs1 rfl rfl rfl rfl rfl rfl ?_ | refine bxe rfl rfl rfl rfl ?_ | refine eqn rfl rfl ?_ | refine eqb rfl rfl rfl ?_ | refine neb rfl rfl rfl ?_)
      refine AWP.cond_dec rfl (fun h => AWP.skip ?_) (fun h => AWP.exit (blk_hit ?_))
      · have hi' : i < ps[g].length := by simpa using h
        have hsl : i < (ps[g].map siteRow).length := by simpa using hi'
        have hsite : (ps[g].map siteRow)[i]? = some (siteRow ps[g][i]) := by simp [hi']
        have hin := hi ps[g] (List.getElem_mem hgp) ps[g][i] (List.getElem_mem hi')
        have hYl := rowT_length (B.getD g 0) (ps[g].take i) X
        have hYs : rowT (B.getD g 0) X (ps[g].take (i + 1)) = addT (B.getD g 0) (rowT (B.getD g 0) X (ps[g].take i)) ps[g][i] := by
          rw [List.take_add_one, List.getElem?_eq_getElem hi', Option.toList_some, rowT, List.foldl_append]
          rfl
        generalize rowT (B.getD g 0) X (ps[g].take i) = Y at hYl hYs
        generalize ps[g][i] = s at hsite hin hYs
        repeat (first | refine nl ?_ | refine AWP.seq ?_ | refine rg ?_ | refine AWP.skip ?_ | refine AWP.block ?_ | refine sm rfl ?_ | refine uw rfl ?_ | refine fa rfl rfl ?_ | refine leW rfl rfl rfl rfl rfl ?_ | refine leW rfl rfl rfl (by assumption) rfl ?_ | refine lcW rfl rfl rfl (St.obj_set _ _ _) rfl rfl ?_ | refine le rfl rfl rfl rfl ?_ | refine le rfl rfl (by assumption) rfl ?_ | refine lnv rfl rfl ?_ | refine lnm rfl rfl ?_ | refine ix rfl rfl rfl rfl (by assumption) ?_ | refine ixm rfl rfl rfl rfl (by assumption) ?_ | refine lc rfl rfl (St.obj_set _ _ _) rfl rfl ?_ | refine lc rfl rfl (St.obj_set _ _ _) (by assumption) rfl ?_ | refine lc rfl rfl (by assumption) rfl rfl ?_ | refine lc rfl rfl (by assumption) (by assumption) rfl ?_ | refine inc rfl rfl rfl (by omega) ?_ | refine bs1 rfl rfl rfl rfl rfl rfl ?_ | refine bxe rfl rfl rfl rfl ?_ | refine eqn rfl rfl ?_ | refine eqb rfl rfl rfl ?_ | refine neb rfl rfl rfl ?_)
        refine al rfl rfl fun o15 ho15 => ?_
        refine soN 15 rfl rfl rfl rfl rfl rfl ho15 (nl ?_)
        repeat (first | refine nl ?_ | refine AWP.seq ?_ | refine rg ?_ | refine AWP.skip ?_ | refine AWP.block ?_ | refine sm rfl ?_ | refine uw rfl ?_ | refine fa rfl rfl ?_ | refine leW rfl rfl rfl rfl rfl ?_ | refine leW rfl rfl rfl (by assumption) rfl ?_ | refine lcW rfl rfl rfl (St.obj_set _ _ _) rfl rfl ?_ | refine le rfl rfl rfl rfl ?_ | refine le rfl rfl (by assumption) rfl ?_ | refine lnv rfl rfl ?_ | refine lnm rfl rfl ?_ | refine ix rfl rfl rfl rfl (by assumption) ?_ | refine ixm rfl rfl rfl rfl (by assumption) ?_ | refine lc rfl rfl (St.obj_set _ _ _) rfl rfl ?_ | refine lc rfl rfl (St.obj_set _ _ _) (by assumption) rfl ?_ | refine lc rfl rfl (by assumption) rfl rfl ?_ | refine lc rfl rfl (by assumption) (by assumption) rfl ?_ | refine inc rfl rfl rfl (by omega) ?_ | refine bs1 rfl rfl rfl rfl rfl rfl ?_ | refine bxe rfl rfl rfl rfl ?_ | refine eqn rfl rfl ?_ | refine eqb rfl rfl rfl ?_ | refine neb rfl rfl rfl ?_)
        refine AWP.cond_bool rfl (fun hb => ?_) (fun hb => AWP.skip ?_)
        · obtain ⟨c, hc⟩ := Int.eq_ofNat_of_zero_le hin.1
          have hc6 : c < 6 := by omega
          have hcY : c < Y.length := by omega
          have hgB : g < B.length := by omega
          have hobj12 : ((st.set o9 (.cells 56 6 [nrow B])).set o12 (.cells 56 6 [nrow Y])).notok.obj o12 = some (.cells 56 6 [nrow Y]) := St.obj_set _ _ _
          have hobj9 : ((st.set o9 (.cells 56 6 [nrow B])).set o12 (.cells 56 6 [nrow Y])).notok.obj o9 = some (.cells 56 6 [nrow B]) := (St.obj_set_ne (fun e => hne e.symm)).trans (St.obj_set _ _ _)
          refine AWP.draw rfl 11 11 (fun _ _ => False) rfl ?_
          repeat (first | refine ds rfl rfl ?_ | refine du rfl rfl rfl ?_ | refine dq rfl rfl rfl (fun st1 hle => leW rfl rfl rfl rfl rfl (nl ⟨_, rfl, rfl, rfl⟩)) ?_ | refine dq rfl rfl rfl (fun st1 hle => leW rfl rfl rfl (by assumption) rfl (nl ⟨_, rfl, rfl, rfl⟩)) ?_ | refine dq rfl rfl rfl (fun st1 hle => le rfl rfl rfl rfl (nl ⟨_, rfl, rfl, rfl⟩)) ?_ | refine dq rfl rfl rfl (fun st1 hle => le rfl rfl (by assumption) rfl (nl ⟨_, rfl, rfl, rfl⟩)) ?_ | refine dq rfl rfl rfl (fun st1 hle => fa rfl rfl (nl ⟨_, rfl, rfl, rfl⟩)) ?_ | refine dq rfl rfl rfl (fun st1 hle => lnv rfl rfl (nl ⟨_, rfl, rfl, rfl⟩)) ?_ | refine dq rfl rfl rfl (fun st1 hle => lnm rfl rfl (nl ⟨_, rfl, rfl, rfl⟩)) ?_ | refine dq rfl rfl rfl (fun st1 hle => ix rfl rfl rfl rfl (by assumption) (nl ⟨_, rfl, rfl, rfl⟩)) ?_ | refine dq rfl rfl rfl (fun st1 hle => ixm rfl rfl rfl rfl (by assumption) (nl ⟨_, rfl, rfl, rfl⟩)) ?_ | refine dq rfl rfl rfl (fun st1 hle => lc rfl rfl (hle.obj _ _ (by assumption)) rfl rfl (nl ⟨_, rfl, rfl, rfl⟩)) ?_ | refine dq rfl rfl rfl (fun st1 hle => lc rfl rfl (hle.obj _ _ (by assumption)) (by assumption) rfl (nl ⟨_, rfl, rfl, rfl⟩)) ?_ | refine dq rfl rfl rfl (fun st1 hle => bs1 rfl rfl rfl rfl rfl rfl (nl ⟨_, rfl, rfl, rfl⟩)) ?_)
          refine dq rfl rfl rfl (fun st1 hle => ixa rfl rfl hc hc6 rfl (nl ⟨_, rfl, rfl, rfl⟩)) ?_
          refine dq rfl rfl rfl (fun st1 hle => lcS rfl rfl rfl (hle.obj _ _ hobj12) rfl (nrow_get hcY) (nl ⟨_, rfl, rfl, rfl⟩)) ?_
          repeat (first | refine ds rfl rfl ?_ | refine du rfl rfl rfl ?_ | refine dq rfl rfl rfl (fun st1 hle => leW rfl rfl rfl rfl rfl (nl ⟨_, rfl, rfl, rfl⟩)) ?_ | refine dq rfl rfl rfl (fun st1 hle => leW rfl rfl rfl (by assumption) rfl (nl ⟨_, rfl, rfl, rfl⟩)) ?_ | refine dq rfl rfl rfl (fun st1 hle => le rfl rfl rfl rfl (nl ⟨_, rfl, rfl, rfl⟩)) ?_ | refine dq rfl rfl rfl (fun st1 hle => le rfl rfl (by assumption) rfl (nl ⟨_, rfl, rfl, rfl⟩)) ?_ | refine dq rfl rfl rfl (fun st1 hle => fa rfl rfl (nl ⟨_, rfl, rfl, rfl⟩)) ?_ | refine dq rfl rfl rfl (fun st1 hle => lnv rfl rfl (nl ⟨_, rfl, rfl, rfl⟩)) ?_ | refine dq rfl rfl rfl (fun st1 hle => lnm rfl rfl (nl ⟨_, rfl, rfl, rfl⟩)) ?_ | refine dq rfl rfl rfl (fun st1 hle => ix rfl rfl rfl rfl (by assumption) (nl ⟨_, rfl, rfl, rfl⟩)) ?_ | refine dq rfl rfl rfl (fun st1 hle => ixm rfl rfl rfl rfl (by assumption) (nl ⟨_, rfl, rfl, rfl⟩)) ?_ | refine dq rfl rfl rfl (fun st1 hle => lc rfl rfl (hle.obj _ _ (by assumption)) rfl rfl (nl ⟨_, rfl, rfl, rfl⟩)) ?_ | refine dq rfl rfl rfl (fun st1 hle => lc rfl rfl (hle.obj _ _ (by assumption)) (by assumption) rfl (nl ⟨_, rfl, rfl, rfl⟩)) ?_ | refine dq rfl rfl rfl (fun st1 hle => bs1 rfl rfl rfl rfl rfl rfl (nl ⟨_, rfl, rfl, rfl⟩)) ?_)
          refine dq rfl rfl rfl (fun st1 hle => ixa rfl rfl rfl hg' rfl (nl ⟨_, rfl, rfl, rfl⟩)) ?_
          refine dq rfl rfl rfl (fun st1 hle => lcS rfl rfl rfl (hle.obj _ _ hobj9) rfl (nrow_get hgB) (nl ⟨_, rfl, rfl, rfl⟩)) ?_
          refine dq rfl rfl rfl (fun st1 hle => ad rfl rfl rfl (by omega) (nl ⟨_, rfl, rfl, rfl⟩)) ?_
          refine dq (v := .int .i64 ((min (Y.getD c 0 + B.getD g 0) 3 : Nat) : Int)) rfl rfl rfl (fun st1 hle => mn rfl rfl rfl (nl ⟨_, rfl, by rw [min_add], rfl⟩)) ?_
          refine dn ⟨fun _ => ?_, fun h => absurd h (by decide)⟩
          refine ixa rfl rfl hc hc6 rfl ?_
          refine sos (row := nrow Y) (rows' := [nrow (Y.set c (Y.getD c 0 + B.getD g 0))]) rfl rfl rfl rfl rfl rfl (Nat.ble_eq_true_of_le (by simp [nrow, AV.cells]; omega)) (congrArg (fun x => [x]) (nrow_set hcY)) ?_
          repeat (first | refine nl ?_ | refine AWP.seq ?_ | refine rg ?_ | refine AWP.skip ?_ | refine AWP.block ?_ | refine sm rfl ?_ | refine uw rfl ?_ | refine fa rfl rfl ?_ | refine leW rfl rfl rfl rfl rfl ?_ | refine leW rfl rfl rfl (by assumption) rfl ?_ | refine lcW rfl rfl rfl (St.obj_set _ _ _) rfl rfl ?_ | refine le rfl rfl rfl rfl ?_ | refine le rfl rfl (by assumption) rfl ?_ | refine lnv rfl rfl ?_ | refine lnm rfl rfl ?_ | refine ix rfl rfl rfl rfl (by assumption) ?_ | refine ixm rfl rfl rfl rfl (by assumption) ?_ | refine lc rfl rfl (St.obj_set _ _ _) rfl rfl ?_ | refine lc rfl rfl (St.obj_set _ _ _) (by assumption) rfl ?_ | refine lc rfl rfl (by assumption) rfl rfl ?_ | refine lc rfl rfl (by assumption) (by assumption) rfl ?_ | refine inc rfl rfl rfl (by omega) ?_ | refine bs1 rfl rfl rfl rfl rfl rfl ?_ | refine bxe rfl rfl rfl rfl ?_ | refine eqn rfl rfl ?_ | refine eqb rfl rfl rfl ?_ | refine neb rfl rfl rfl ?_)
          refine ⟨i + 1, hi', by omega, tl9 rfl rfl rfl rfl rfl rfl rfl rfl rfl, ?_⟩
          rw [hYs, addT, hb, cond_true, modify_set, hc, Int.toNat_natCast]
          exact .refl _
        · repeat (first | refine nl ?_ | refine AWP.seq ?_ | refine rg ?_ | refine AWP.skip ?_ | refine AWP.block ?_ | refine sm rfl ?_ | refine uw rfl ?_ | refine fa rfl rfl ?_ | refine leW rfl rfl rfl rfl rfl ?_ | refine leW rfl rfl rfl (by assumption) rfl ?_ | refine lcW rfl rfl rfl (St.obj_set _ _ _) rfl rfl ?_ | refine le rfl rfl rfl rfl ?_ | refine le rfl rfl (by assumption) rfl ?_ | refine lnv rfl rfl ?_ | refine lnm rfl rfl ?_ | refine ix rfl rfl rfl rfl (by assumption) ?_ | refine ixm rfl rfl rfl rfl (by assumption) ?_ | refine lc rfl rfl (St.obj_set _ _ _) rfl rfl ?_ | refine lc rfl rfl (St.obj_set _ _ _) (by assumption) rfl ?_ | refine lc rfl rfl (by assumption) rfl rfl ?_ | refine lc rfl rfl (by assumption) (by assumption) rfl ?_ | refine inc rfl rfl rfl (by omega) ?_ | refine bs1 rfl rfl rfl rfl rfl rfl ?_ | refine bxe rfl rfl rfl rfl ?_ | refine eqn rfl rfl ?_ | refine eqb rfl rfl rfl ?_ | refine neb rfl rfl rfl ?_)
          refine ⟨i + 1, hi', by omega, tl9 rfl rfl rfl rfl rfl rfl rfl rfl rfl, ?_⟩
          rw [hYs, addT, hb, cond_false]
          exact .refl _
      · have hi' : i = ps[g].length := by
          have : ¬ i < ps[g].length := by simpa using h
          omega
        subst hi'
        rw [List.take_length, ← hnx]
        repeat (first | refine nl ?_ | refine AWP.seq ?_ | refine rg ?_ | refine AWP.skip ?_ | refine AWP.block ?_ | refine sm rfl ?_ | refine uw rfl ?_ | refine fa rfl rfl ?_ | refine leW rfl rfl rfl rfl rfl ?_ | refine leW rfl rfl rfl (by assumption) rfl ?_ | refine lcW rfl rfl rfl (St.obj_set _ _ _) rfl rfl ?_ | refine le rfl rfl rfl rfl ?_ | refine le rfl rfl (by assumption) rfl ?_ | refine lnv rfl rfl ?_ | refine lnm rfl rfl ?_ | refine ix rfl rfl rfl rfl (by assumption) ?_ | refine ixm rfl rfl rfl rfl (by assumption) ?_ | refine lc rfl rfl (St.obj_set _ _ _) rfl rfl ?_ | refine lc rfl rfl (St.obj_set _ _ _) (by assumption) rfl ?_ | refine lc rfl rfl (by assumption) rfl rfl ?_ | refine lc rfl rfl (by assumption) (by assumption) rfl ?_ | refine inc rfl rfl rfl (by omega) ?_ | refine bs1 rfl rfl rfl rfl rfl rfl ?_ | refine bxe rfl rfl rfl rfl ?_ | refine eqn rfl rfl ?_ | refine eqb rfl rfl rfl ?_ | refine neb rfl rfl rfl ?_)
        exact ⟨g + 1, hg', by omega, tl8 rfl rfl rfl rfl rfl rfl rfl rfl, .refl _⟩
    · have hg6 : g = 6 := by have : ¬ (g : Int) < 6 := h; omega
      subst hg6
      rw [hl] at hsucc
      have hCl := nextT_length ps B 6
      generalize nextT ps B 6 = C at hsucc hCl
      have htC : t < C.length := by omega
      repeat (first | refine nl ?_ | refine AWP.seq ?_ | refine AWP.skip ?_ | refine AWP.block ?_)
      refine rg ?_
      refine lcW rfl rfl rfl (St.obj_set _ _ _) rfl (by simp [nrow, hCl, hl]) ?_
      refine so (row := nrow B) (rows' := [nrow C]) rfl rfl rfl ((St.obj_set_ne (fun e => hne e.symm)).trans (St.obj_set _ _ _)) rfl rfl (by simp [nrow, AV.cells, hCl, hl]) (Nat.ble_eq_true_of_le (by simp [nrow, AV.cells, hCl, hBl])) (by
        have : rowSet (nrow B) 0 (nrow C) = nrow C := rowSet_all (by simp [nrow, hBl, hCl])
        exact congrArg (fun x => [x]) this) ?_
      have hn12 : st.obj o12 = none := by rwa [St.obj_set_ne hne] at ho12
      rw [St.set_inner hne]
      refine AOps.weaken (T' := [(11, .int .i64 j), (10, .int .i64 ((min nn 3 : Nat) : Int)), (9, .cptr o9 6 0 0), (3, .int .i64 k), (2, .int .i64 t), (4, .eptr 5 [dbgCells ps] 0 0)]) (st' := st.set o9 (.cells 56 6 [nrow C])) (tl6 rfl rfl rfl rfl rfl rfl) (StLe.new (by rw [St.obj_set_ne hne]; exact hn12) (.refl _)) (nl ?_)
      repeat (first | refine nl ?_ | refine AWP.seq ?_ | refine rg ?_ | refine AWP.skip ?_ | refine AWP.block ?_ | refine sm rfl ?_ | refine uw rfl ?_ | refine fa rfl rfl ?_ | refine leW rfl rfl rfl rfl rfl ?_ | refine leW rfl rfl rfl (by assumption) rfl ?_ | refine lcW rfl rfl rfl (St.obj_set _ _ _) rfl rfl ?_ | refine le rfl rfl rfl rfl ?_ | refine le rfl rfl (by assumption) rfl ?_ | refine lnv rfl rfl ?_ | refine lnm rfl rfl ?_ | refine ix rfl rfl rfl rfl (by assumption) ?_ | refine ixm rfl rfl rfl rfl (by assumption) ?_ | refine lc rfl rfl (St.obj_set _ _ _) rfl rfl ?_ | refine lc rfl rfl (St.obj_set _ _ _) (by assumption) rfl ?_ | refine lc rfl rfl (by assumption) rfl rfl ?_ | refine lc rfl rfl (by assumption) (by assumption) rfl ?_ | refine inc rfl rfl rfl (by omega) ?_ | refine bs1 rfl rfl rfl rfl rfl rfl ?_ | refine bxe rfl rfl rfl rfl ?_ | refine eqn rfl rfl ?_ | refine eqb rfl rfl rfl ?_ | refine neb rfl rfl rfl ?_)
      refine ixa rfl rfl rfl ht rfl ?_
      refine lcS rfl rfl rfl (St.obj_set _ _ _) rfl (nrow_get htC) ?_
      refine ad rfl rfl rfl (by omega) ?_
      refine mn rfl rfl rfl ?_
      rw [min_add]
      repeat (first | refine nl ?_ | refine AWP.seq ?_ | refine rg ?_ | refine AWP.skip ?_ | refine AWP.block ?_ | refine sm rfl ?_ | refine uw rfl ?_ | refine fa rfl rfl ?_ | refine leW rfl rfl rfl rfl rfl ?_ | refine leW rfl rfl rfl (by assumption) rfl ?_ | refine lcW rfl rfl rfl (St.obj_set _ _ _) rfl rfl ?_ | refine le rfl rfl rfl rfl ?_ | refine le rfl rfl (by assumption) rfl ?_ | refine lnv rfl rfl ?_ | refine lnm rfl rfl ?_ | refine ix rfl rfl rfl rfl (by assumption) ?_ | refine ixm rfl rfl rfl rfl (by assumption) ?_ | refine lc rfl rfl (St.obj_set _ _ _) rfl rfl ?_ | refine lc rfl rfl (St.obj_set _ _ _) (by assumption) rfl ?_ | refine lc rfl rfl (by assumption) rfl rfl ?_ | refine lc rfl rfl (by assumption) (by assumption) rfl ?_ | refine inc rfl rfl rfl (by omega) ?_ | refine bs1 rfl rfl rfl rfl rfl rfl ?_ | refine bxe rfl rfl rfl rfl ?_ | refine eqn rfl rfl ?_ | refine eqb rfl rfl rfl ?_ | refine neb rfl rfl rfl ?_)
      refine ⟨j + 1, hj', by omega, ?_, ?_⟩
      · rw [hsucc]
        exact tl6 rfl rfl rfl rfl rfl rfl
      · rw [hsucc]
        exact .refl _
  · have hjk : j = k := by
      have : ¬ (j : Int) < k := h
      omega
    subst hjk
    rw [hit]
    repeat (first | refine nl ?_ | refine AWP.seq ?_ | refine rg ?_ | refine AWP.skip ?_ | refine AWP.block ?_ | refine sm rfl ?_ | refine uw rfl ?_ | refine fa rfl rfl ?_ | refine leW rfl rfl rfl rfl rfl ?_ | refine leW rfl rfl rfl (by assumption) rfl ?_ | refine lcW rfl rfl rfl (St.obj_set _ _ _) rfl rfl ?_ | refine le rfl rfl rfl rfl ?_ | refine le rfl rfl (by assumption) rfl ?_ | refine lnv rfl rfl ?_ | refine lnm rfl rfl ?_ | refine ix rfl rfl rfl rfl (by assumption) ?_ | refine ixm rfl rfl rfl rfl (by assumption) ?_ | refine lc rfl rfl (St.obj_set _ _ _) rfl rfl ?_ | refine lc rfl rfl (St.obj_set _ _ _) (by assumption) rfl ?_ | refine lc rfl rfl (by assumption) rfl rfl ?_ | refine lc rfl rfl (by assumption) (by assumption) rfl ?_ | refine inc rfl rfl rfl (by omega) ?_ | refine bs1 rfl rfl rfl rfl rfl rfl ?_ | refine bxe rfl rfl rfl rfl ?_ | refine eqn rfl rfl ?_ | refine eqb rfl rfl rfl ?_ | refine neb rfl rfl rfl ?_)
    exact AWP.ret (rets rfl (.refl _) (StLe.new ho9 (.refl _)) ⟨rfl, rfl⟩)
end Go.Proofs
