/- Slices that shrink and grow: stacks, and slices of slices. No conditions: lemmas only. -/
import Derived.Test.YtmpifmapdmhgkaaDoorAM13
namespace Go.AM
open Go.RowKit (Below)

section
variable {P : Program} {n : Nat} {K : Post} {E : EPost} {T : Tmps} {st : St} {ops : Array Oper} {rest : List Oper}
variable {ty : TypeId} {pos : String} {es : Array Edge} {gd : Option (Nat × Bool)} {d : Tmp} {x y : Operand} {dd : Option Tmp}

theorem St.drop_set_self (st : St) (o : Nat) (c : AObj) : (st.drop o).set o c = st.set o c := by
  simp only [St.drop, St.set]
  congr 1
  funext p
  by_cases h : p = o <;> simp [h]

theorem St.set_drop {st : St} {o p : Nat} (h : o ≠ p) (c : AObj) : (st.drop p).set o c = (st.set o c).drop p := by
  simp only [St.drop, St.set]
  congr 1
  funext q
  by_cases h1 : q = o
  · subst h1; simp [h]
  · simp [h1]

theorem StLe.regrow {st : St} {o o' : Nat} {c c' : AObj} (h : st.obj o = none) : StLe (((st.set o c).drop o).set o' c') (st.set o' c') :=
  ⟨fun p x hp => by
    by_cases h1 : p = o'
    · subst h1; rw [St.obj_set] at hp ⊢; exact hp
    · rw [St.obj_set_ne h1] at hp ⊢
      have h2 : p ≠ o := St.ne_of_new h hp
      rw [St.obj_drop_ne h2, St.obj_set_ne h2]
      exact hp, fun _ h => h, rfl⟩

theorem St.regrow_none {st : St} {o o' : Nat} {c : AObj} (h : st.obj o = none) (k : o' = o ∨ (st.set o c).obj o' = none) : st.obj o' = none := by
  rcases k with rfl | k
  · exact h
  · by_cases h1 : o' = o
    · subst h1; exact h
    · rwa [St.obj_set_ne h1] at k

theorem append_msl {g : G} {w : World} (hs : Sim g w st) {t e : TypeId} {sz by_ : Nat} {ez : Value} [hu : Und P t (.slice e)] [hie : Inf P e sz by_ ez] (hsz : 0 < sz) (hz : zok sz ez = true) {ty : TypeId} {o len : Nat} {rows rows2 : List (List AV)} {tk2 : Tok} {ux uy : Value}
    (h1 : R g w (.msl o sz 0 len) ux) (ho : st.obj o = some (.cells e sz rows)) (hlr : len ≤ rows.length) (h2 : R g w (.view sz rows2 tk2) uy) (h0 : rows2 ≠ []) (hb : (len + rows2.length) * by_ ≤ 140737488355328) (hm : len + rows2.length ≤ maxLen) :
    ∃ v w' g' o', (Builtin.append_ #[t, t] ty #[ux, uy]).run P w = .ok v w' ∧ Ext g w g' w' ∧ Sim g' w' ((st.drop o).set o' (.cells e sz (rows.take len ++ rows2))) ∧ R g' w' (.msl o' sz 0 (len + rows2.length)) v ∧ (o' = o ∨ st.obj o' = none) := by
  obtain ⟨z1, z2, z3, z4⟩ := zok_spec hz
  obtain ⟨inf, i1, i2, i3, i4⟩ := hie.out
  obtain ⟨base2, cap2, f2, rfl, hnil2, hR2, hl2, h12, hcell2, hone2⟩ := src_of h2
  have hm64 : len + rows2.length ≤ 9223372036854775807 := by simp only [maxLen] at hm; omega
  have hpos : 0 < rows2.length := List.length_pos_iff.2 h0
  obtain ⟨ad, rfl⟩ : ∃ ad, base2 = some ad := by
    cases base2 with
    | none => exact absurd (hnil2 rfl).1 h0
    | some ad => exact ⟨ad, rfl⟩
  subst i2
  cases h1 with
  | msl _ _ _ _ cap b m hob hc hmx hfit0 =>
    obtain ⟨hbase, ⟨arr, ha, hasz, hml, hl, h1', hcell⟩, hnimm⟩ := hs.objOf ho hob
    simp only [Nat.zero_mul, Nat.zero_add] at hfit0 ⊢
    have hlt : (rows.take len).length = len := by simp; omega
    have hlrow : ∀ row ∈ rows.take len ++ rows2, row.length = inf.size := fun row hr => by
      rcases List.mem_append.1 hr with h | h
      · exact hl row (List.mem_of_mem_take h)
      · exact hl2 row h
    have h1row : ∀ row ∈ rows.take len ++ rows2, ∀ c ∈ row, c.one = true := fun row hr => by
      rcases List.mem_append.1 hr with h | h
      · exact h1' row (List.mem_of_mem_take h)
      · exact h12 row h
    have hll : (rows.take len ++ rows2).length = len + rows2.length := by rw [List.length_append, hlt]
    let f : Nat → Nat → Value := fun i j => arr.getD (i * inf.size + j) undef
    have hfR : ∀ (i j : Nat) row c, (rows.take len)[i]? = some row → row[j]? = some c → R g w c (f i j) := by
      intro i j row c hr hcj
      have hi : i < len := by have := (List.getElem?_eq_some_iff.1 hr).1; rwa [hlt] at this
      rw [List.getElem?_take_of_lt hi] at hr
      obtain ⟨v, hv1, hv2⟩ := hcell i j row c hr hcj
      show R g w c (arr.getD _ _)
      rw [Array.getD_eq_getD_getElem?, hv1]
      exact hv2
    by_cases hroom : len + rows2.length ≤ cap
    · -- in place
      have hfit : len * inf.size + (flatV f2 rows2.length inf.size).length ≤ arr.size := by
        rw [flatV_length, hasz, ← Nat.add_mul]
        exact Nat.le_trans (Nat.mul_le_mul_right _ hroom) hfit0
      have hr := run_append_room (P := P) w t ty e inf hu.out i1 b len cap arr ha ad rows2.length cap2 (flatV f2 rows2.length inf.size) (flatV_length _ _ _) (hcell2 ad rfl) hone2 hroom hfit
      rw [flatV_length] at hfit hr
      generalize harr : (arr.toList.take (len * inf.size) ++ flatV f2 rows2.length inf.size ++ arr.toList.drop (len * inf.size + rows2.length * inf.size)).toArray = arr' at hr
      have hmin : min (len * inf.size) arr.size = len * inf.size := by omega
      have hlow : ∀ i, i < len * inf.size → arr'[i]? = arr[i]? := by
        intro i hi
        rw [← harr, List.getElem?_toArray, List.append_assoc, List.getElem?_append_left (by simp; omega), List.getElem?_take_of_lt hi, Array.getElem?_toList]
      have hmid : ∀ q, q < rows2.length * inf.size → arr'[len * inf.size + q]? = (flatV f2 rows2.length inf.size)[q]? := by
        intro q hq
        rw [← harr, List.getElem?_toArray, List.append_assoc, List.getElem?_append_right (by simp; omega)]
        simp only [List.length_take, Array.length_toList, hmin]
        rw [Nat.add_sub_cancel_left, List.getElem?_append_left (by rw [flatV_length]; exact hq)]
      have hsize' : arr'.size = m := by
        rw [← harr, ← hasz]
        simp only [List.size_toArray, List.length_append, List.length_take, List.length_drop, Array.length_toList, flatV_length]
        omega
      obtain ⟨he, hs'⟩ := hs.write (c' := .cells e inf.size (rows.take len ++ rows2)) ho hob (w.setRow b arr') (by simp) rfl rfl rfl (fun k hk => setRow_other w b k arr' hk) (fun he => by
        refine ⟨arr', setRow_heap w b arr arr' e (0, 0) ha, hsize', ?_, hlrow, h1row, fun i j row c hr hcj => ?_⟩
        · rw [hll]; exact Nat.le_trans (Nat.mul_le_mul_right _ hroom) hfit0
        · have hj : j < inf.size := by rw [← hlrow row (List.mem_of_getElem? hr)]; exact (List.getElem?_eq_some_iff.1 hcj).1
          by_cases hi : i < len
          · rw [List.getElem?_append_left (by rw [hlt]; exact hi), List.getElem?_take_of_lt hi] at hr
            obtain ⟨v, hv1, hv2⟩ := hcell i j row c hr hcj
            exact ⟨v, by rw [hlow _ (mul_add_lt hi hj)]; exact hv1, hv2.ext he⟩
          · rw [List.getElem?_append_right (by rw [hlt]; omega), hlt] at hr
            have hi2 : i - len < rows2.length := (List.getElem?_eq_some_iff.1 hr).1
            have e9 : i * inf.size + j = len * inf.size + ((i - len) * inf.size + j) := by
              rw [← Nat.add_assoc, ← Nat.add_mul]
              congr 2
              omega
            refine ⟨f2 (i - len) j, ?_, (hR2 _ j row c hr hcj).ext he⟩
            rw [e9, hmid _ (mul_add_lt hi2 hj), flatV_at f2 hi2 hj])
      refine ⟨_, _, g, o, hr, he, by rw [St.drop_set_self]; exact hs', ?_, .inl rfl⟩
      have := R.msl (g := g) (w := w.setRow b arr') o inf.size 0 (len + rows2.length) cap b m hob hroom hmx (by simpa using hfit0)
      simpa using this
    · -- a new block
      have holds : ∀ (q : Nat) v, (flatV f len inf.size)[q]? = some v → w.cell? ((⟨b, 0, none⟩ : Addr).add q) = some v := by
        intro q v hq
        obtain ⟨h2', rfl⟩ := flatV_get hq
        have hq' : q < arr.size := by
          rw [hasz]
          exact Nat.lt_of_lt_of_le h2' (Nat.le_trans (Nat.mul_le_mul_right _ hc) hfit0)
        rw [addr_add, Nat.zero_add, cell_of_row w b _ arr e (0, 0) ha]
        show arr[q]? = some (arr.getD _ _)
        rw [Nat.mul_comm (q / inf.size) inf.size, Nat.div_add_mod, Array.getD_eq_getD_getElem?, Array.getElem?_eq_getElem hq']
        rfl
      have hr := run_append_grow (P := P) w t ty e inf ez hu.out i1 i4 ⟨b, 0, none⟩ len cap (flatV f len inf.size) (flatV_length _ _ _) holds ad rows2.length cap2 (flatV f2 rows2.length inf.size) (flatV_length _ _ _) (hcell2 ad rfl) (by omega) (by omega)
        (growslice_fits (by omega) (by rw [i3]; exact hb))
      have hge := grownCap_ge w (len + rows2.length) cap e
      have hgm := grownCap_le_maxLen w (len + rows2.length) cap e hm
      obtain ⟨hed, hsd⟩ := hs.draw
      generalize hcp : grownCap w (len + rows2.length) cap e = cp at hr hge hgm
      generalize harr : (flatV f len inf.size).toArray ++ (flatV f2 rows2.length inf.size).toArray ++ Builtin.zeroCells ez.cells (cp - (len + rows2.length)) = arr' at hr
      have hsize' : arr'.size = cp * inf.size := by
        rw [← harr]
        simp only [Array.size_append, List.size_toArray, flatV_length, size_zeroCells, z1, ← Nat.add_mul]
        congr 1
        omega
      obtain ⟨g', he, hs', hob', hnone⟩ := hsd.newObj (.cells arr' e) (.cells e inf.size (rows.take len ++ rows2)) (cp * inf.size) (fun g' he => by
        refine ⟨arr', heap_alloc_new _ _, hsize', ?_, hlrow, h1row, fun i j row c hr hcj => ?_⟩
        · rw [hll]; exact Nat.mul_le_mul_right _ hge
        · have hap := appended_get (g := g) (w := w) (rows := rows.take len) (rows2 := rows2) (f := f) (f2 := f2) (sz := inf.size) (fun row hr => hl row (List.mem_of_mem_take hr)) hl2 hfR hR2 (Builtin.zeroCells ez.cells (cp - (len + rows2.length))).toList i j row c hr hcj
          rw [hlt] at hap
          obtain ⟨v, hv, hR⟩ := hap
          refine ⟨v, ?_, (hR.ext hed).ext he⟩
          rw [← harr, ← Array.getElem?_toList]
          simpa using hv)
      have hne : g.next ≠ o := fun e => by rw [← e] at ho; rw [ho] at hnone; cases hnone
      refine ⟨_, _, g', g.next, hr, hed.trans he, ?_, ?_, .inr hnone⟩
      · rw [St.set_drop hne]
        exact hs'.le (StLe.drop o)
      · have := R.msl (g := g') (w := w.drew.alloc (.cells arr' e)) g.next inf.size 0 (len + rows2.length) cp w.drew.heap.size (cp * inf.size) hob' hge hgm (by simp)
        simpa using this

/-- append to a stack. -/
theorem apm {t e : TypeId} {sz by_ : Nat} {ez : Value} [hu : Und P t (.slice e)] [hie : Inf P e (sz + 1) by_ ez] {o len : Nat} {rows rows2 : List (List AV)} {tk2 : Tok}
    (hg : goes ops n T ⟨dd, .call ⟨.builtin .append, #[x, y], #[t, t]⟩, ty, pos, es, gd⟩ = some d) (hx : ev st T x = some (.msl o (sz + 1) 0 len)) (hy : ev st T y = some (.view (sz + 1) rows2 tk2)) (ho : st.obj o = some (.cells e (sz + 1) rows))
    (hlr : len ≤ rows.length) (h0 : rows2 ≠ []) (hz : zok (sz + 1) ez = true) (hb : (len + rows2.length) * by_ ≤ 140737488355328) (hm : len + rows2.length ≤ maxLen)
    (k : ∀ o', (o' = o ∨ st.obj o' = none) → AOps P n ops rest K E ((d, .msl o' (sz + 1) 0 (len + rows2.length)) :: T) ((st.drop o).set o' (.cells e (sz + 1) (rows.take len ++ rows2)))) :
    AOps P n ops (⟨dd, .call ⟨.builtin .append, #[x, y], #[t, t]⟩, ty, pos, es, gd⟩ :: rest) K E T st := by
  refine AOps.stepAny hg fun g w a hs hk => ?_
  have h1 := ev_R hs hk hx
  have h2 := ev_R hs hk hy
  generalize hux : a.eval x = ux at h1
  generalize huy : a.eval y = uy at h2
  obtain ⟨v, w', g', o', hr, he, hs', hR, hf⟩ := append_msl (P := P) hs (t := t) (ty := ty) (Nat.succ_pos sz) hz h1 ho hlr h2 h0 hb hm
  exact ⟨v, g', w', _, _, by simp [execOp, resolve, invoke, builtin, hux, huy, hr], he, hs', hR, k o' hf⟩

/-- A literal, as a stack. -/
theorem bso {t e : TypeId} {esz eby : Nat} {ez : Value} {v : AV} [hu : Und P t (.slice e)] [hie : Inf P e (esz + 1) eby ez] (hg : goes ops n T ⟨dd, .buildSlice t 1 #[(0, x)], ty, pos, es, gd⟩ = some d)
    (hz : zok (esz + 1) ez = true) (hsm : Nat.ble (1 * (esz + 1)) 16777216 = true) (hx : ev st T x = some v) (hlv : Nat.beq v.cells.length (esz + 1) = true) (hv : storable v = true)
    (k : ∀ o, st.obj o = none → AOps P n ops rest K E ((d, .msl o (esz + 1) 0 1) :: T) (st.set o (.cells e (esz + 1) [v.cells]))) : AOps P n ops (⟨dd, .buildSlice t 1 #[(0, x)], ty, pos, es, gd⟩ :: rest) K E T st := by
  refine AOps.stepAny hg fun g w a hs hk => ?_
  obtain ⟨z1, z2, z3, z4⟩ := zok_spec hz
  have h1 := ev_R hs hk hx
  have hsm' := Nat.ble_le hsm
  have hlv' := Nat.eq_of_beq_eq_true hlv
  have hfa : afill (fun i => some (i * (esz + 1), esz + 1)) (zrow ez) [(0, v)] = some v.cells := by
    simp only [afill, Nat.zero_mul, hlv', nbeq_self, hv, z3, Nat.zero_add, Nat.ble_self_eq_true, Bool.and_self, cond_true, rowSet_all (show v.cells.length = (zrow ez).length by rw [hlv', z3])]
  obtain ⟨rcs, f1, f2, f3, f4⟩ := afill_run (g := g) (w := w) [(0, v)] [(0, a.eval x)] _ ((Array.range (1 * (esz + 1))).map (ez.cells[· % ez.cells.size]!)) v.cells hfa rfl
    (fun i p q hp hq => by
      cases i with
      | zero => simp at hp hq; subst hp; subst hq; exact ⟨rfl, h1⟩
      | succ i => simp at hp) (by rw [z3]; simp) z4
    (fun i c u hc hu => by
      have hi : i < esz + 1 := by rw [← z3]; exact (List.getElem?_eq_some_iff.1 hc).1
      obtain ⟨u', h3, h4⟩ := zrow_get hc g w
      have hi1 : i < 1 * (esz + 1) := by omega
      simp only [Array.getElem?_map, Array.getElem?_range, hi1, if_true, Option.map_some, Option.some.injEq, z1, Nat.mod_eq_of_lt hi] at hu
      rw [getElem!_def, h3] at hu
      simp only at hu
      rw [← hu]
      exact h4)
  have hrcs : rcs.size = esz + 1 := by rw [← f2, hlv']
  obtain ⟨g', he, hs', hob, hnone⟩ := hs.newObj (.cells rcs e) (.cells e (esz + 1) [v.cells]) (esz + 1) (fun g' he => ⟨rcs, heap_alloc_new w _, hrcs, by simp, by simpa using hlv', by simpa using f3, fun i j row c hr hc => by
    cases i with
    | zero =>
      simp only [List.getElem?_cons_zero, Option.some.injEq] at hr
      subst hr
      have hj : j < rcs.size := by rw [← f2]; exact (List.getElem?_eq_some_iff.1 hc).1
      exact ⟨rcs[j], by simp [hj], (f4 j c _ hc (by simp [hj])).ext he⟩
    | succ i => simp at hr⟩)
  have hrun := run_buildSlice (P := P) (t := t) (e := e) (len := 1) hsm' #[(0, a.eval x)] rcs w f1
  refine ⟨.slice (some ⟨w.heap.size, 0, none⟩) 1 1, g', w.alloc (.cells rcs e), _, _, ?_, he, hs', ?_, k g.next hnone⟩
  · simp only [execOp]
    simp [hrun]
  · have := R.msl (g := g') (w := w.alloc (.cells rcs e)) g.next (esz + 1) 0 1 1 w.heap.size (esz + 1) hob (Nat.le_refl _) (by simp [maxLen]) (by simp)
    simpa using this

/-- A stack shrinks. -/
theorem slm {t e : TypeId} [hu : Und P t (.slice e)] {sz by_ : Nat} {ez : Value} [hie : Inf P e sz by_ ez] {o lo len b : Nat} {k : IntKind}
    (hg : goes ops n T ⟨dd, .slice t x none (some y) none, ty, pos, es, gd⟩ = some d) (hx : ev st T x = some (.msl o sz lo len)) (hy : ev st T y = some (.int k (b : Int))) (hb : b ≤ len)
    (kk : AOps P n ops rest K E ((d, .msl o sz lo b) :: T) st) : AOps P n ops (⟨dd, .slice t x none (some y) none, ty, pos, es, gd⟩ :: rest) K E T st := by
  obtain ⟨hw, hd, hok⟩ := goes_some hg
  simp only at hd
  subst hd
  refine AOps.pure hw hok _ (fun g w a hs hk => ?_) kk
  have h1 := ev_R hs hk hx
  have h2 := ev_R hs hk hy
  generalize hux : a.eval x = ux at h1
  generalize huy : a.eval y = uy at h2
  cases h2
  cases h1 with
  | msl _ _ _ _ cap bk m hob hc hmx hfit =>
    obtain ⟨inf, i1, i2, i3, i4⟩ := hie.out
    have he : P.elem t = e := by simp [Program.elem, hu.out]
    have hr := run_slice_h (P := P) w t (some ⟨bk, lo * sz, none⟩) len cap (by rw [he]; exact hu.out) k b (by omega) (by omega)
    refine ⟨.slice (some ⟨bk, lo * sz, none⟩) b cap, ?_, .msl o sz lo b cap bk m hob (by omega) hmx hfit⟩
    simp [execOp, hux, huy, run_sliceAt_slice (P := P) w t _ _ _ _ (by rw [he]; exact hu.out), hr, he, run_size (P := P) (t := e) w, sliced, addr_add]

/-- One less. -/
theorem dec {t u : TypeId} {a : Nat} (hg : goes ops n T ⟨dd, .binOp .sub t x y u, ty, pos, es, gd⟩ = some d)
    (hx : ev st T x = some (.int .i64 ((a + 1 : Nat) : Int))) (hy : ev st T y = some (.int .i64 1)) (hc : a < 9223372036854775807)
    (k : AOps P n ops rest K E ((d, .int .i64 (a : Int)) :: T) st) : AOps P n ops (⟨dd, .binOp .sub t x y u, ty, pos, es, gd⟩ :: rest) K E T st := by
  refine sb hg hx hy (by omega) ?_
  have : (((a + 1 : Nat) : Int) - 1) = a := by omega
  rw [this]
  exact k

end
end Go.AM
