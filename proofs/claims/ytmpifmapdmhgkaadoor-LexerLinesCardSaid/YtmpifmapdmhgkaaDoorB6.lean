/- LexerLines: it answers true at every input. No conditions: lemmas only. -/
import Derived.Test.YtmpifmapdmhgkaaDoorB5
namespace Go.Proofs
open Go.AM

set_option maxHeartbeats 2000000 in
theorem LexerLines_ok (a : List UInt8) (ha : a.length ≤ 140737488351232) (l : List Int) (hl : l.length ≤ 17592186043904) (_ : ∀ x ∈ l, (Lit.int .i64 x).wf = true) (st : St) (hg0 : st.row 0 = some wordRow) (hg1 : st.row 1 = some signRow) :
    ACalls Tryd.prog 7 [.str a, .view 1 (l.map fun x => [.int .i64 x]) .shared] st (fun v _ => v = .bool true) (fun _ _ => False) := by
  refine ACalls.ofBody Tryd.func7 rfl Tryd.ntmps7 rfl ?_
  repeat (refine AWP.seq ?_)
  refine rg ?_
  repeat (refine sm rfl ?_)
  refine nl ?_
  refine AWP.seq ?_
  refine AWP.cutK (α := List UInt8) (fun w => [(0, .str w), (1, .view 1 (l.map fun x => [.int .i64 x]) .shared)]) (fun _ => st) (fun w => w.length ≤ 140737488351232) ?_ ?_
  · repeat (first | refine nl ?_ | refine AWP.seq ?_ | refine rg ?_ | refine sm rfl ?_ | refine lns rfl rfl ?_)
    refine AWP.cond_dec rfl (fun h => ?_) (fun h => AWP.skip ⟨a, ha, (tl2 rfl rfl), .refl _⟩)
    have h' : 2000 ≤ a.length := by have : (2000 : Int) < (a.length : Int) := h; omega
    repeat (first | refine nl ?_ | refine rg ?_ | refine sm rfl ?_ | refine ssh rfl rfl rfl (by omega) ?_)
    exact ⟨a.take 2000, by rw [List.length_take]; omega, (tl2 rfl rfl), .refl _⟩
  intro w hw
  repeat (first | refine AWP.seq ?_ | refine rg ?_ | refine sm rfl ?_)
  refine cle rfl rfl (short_ok l hl st) ?_
  refine cl rfl rfl (text_ok (l.take 200) (by rw [List.length_take]; omega) st) fun v s' ⟨⟨t, hv, ht⟩, hs⟩ => ?_
  subst hv
  obtain rfl : st = s' := hs.symm
  refine bsh (cs := [.str w, .str t]) rfl rfl rfl rfl rfl ?_
  rw [show chunk (0 + 1) 2 [AV.str w, .str t] = [[.str w], [.str t]] from rfl]
  have hR : ∀ i, i < 2 → ∃ u : List UInt8, [[AV.str w], [.str t]][i]? = some [.str u] ∧ u.length ≤ 140737488351232 := by
    intro i hi
    match i, hi with
    | 0, _ => exact ⟨w, rfl, hw⟩
    | 1, _ => exact ⟨t, rfl, by omega⟩
  have hRl : [[AV.str w], [.str t]].length = 2 := rfl
  generalize [[AV.str w], [.str t]] = R at hR hRl
  repeat (first | refine nl ?_ | refine AWP.block ?_ | refine sm rfl ?_ | refine lnv rfl rfl ?_)
  refine AWP.loop (α := Nat) (fun i => [(26, .int .i64 (i : Int)), (25, .int .i64 (R.length : Int)), (24, .view 1 R .shared)]) (fun _ => st) (fun i => i ≤ 2) (fun i => 2 - i) 0 (by decide) (tl3 rfl rfl rfl) (.refl _) ?_
  intro i hi
  repeat (first | refine nl ?_ | refine AWP.seq ?_ | refine rg ?_ | refine sm rfl ?_)
  refine AWP.cond_dec rfl (fun h => AWP.skip ?_) (fun h => AWP.exit (blk_hit ?_))
  · have hi' : i < 2 := by have : (i : Int) < (R.length : Int) := h; omega
    obtain ⟨u, hu, hul⟩ := hR i hi'
    have hil : i < R.length := by omega
    repeat (first | refine nl ?_ | refine AWP.seq ?_ | refine rg ?_ | refine AWP.block ?_ | refine ZA (z := ?_) | refine ZF (z := ?_) | refine ZM (z := ?_))
    refine AWP.loop (α := Nat) (fun j => [(8, .int .i64 (j : Int)), (7, .int .i64 ((1 + nls (u.take j) : Nat) : Int)), (6, .str u), (26, .int .i64 (i : Int)), (25, .int .i64 (R.length : Int)), (24, .view 1 R .shared)]) (fun _ => st) (fun j => j ≤ u.length) (fun j => u.length - j) 0 (Nat.zero_le _) (tl6 rfl rfl rfl rfl rfl rfl) (.refl _) ?_
    intro j hj
    have hcn : nls (u.take j) ≤ j := by unfold nls; exact Nat.le_trans (List.countP_le_length ..) (by rw [List.length_take]; omega)
    repeat (first | refine nl ?_ | refine AWP.seq ?_ | refine rg ?_ | refine sm rfl ?_ | refine lns rfl rfl ?_)
    refine AWP.cond_dec rfl (fun h => AWP.skip ?_) (fun h => AWP.exit (blk_hit ?_))
    · have hj' : j < u.length := by have : (j : Int) < (u.length : Int) := h; omega
      have hc : u[j]? = some u[j] := List.getElem?_eq_getElem hj'
      have hn1 : nls (u.take (j + 1)) = nls (u.take j) + if u[j] = 10 then 1 else 0 := by
        rw [List.take_add_one, nl_append, hc]
        show _ + nls [u[j]] = _
        rw [nl_cons]
        simp [nls]
      generalize u[j] = c at hc hn1
      repeat (first | refine nl ?_ | refine AWP.seq ?_ | refine rg ?_ | refine AWP.block ?_ | refine sm rfl ?_ | refine sx rfl rfl rfl rfl (by assumption) ?_)
      refine AWP.cond_dec rfl (fun h => ?_) (fun h => AWP.skip ?_)
      · have h' : c = 10 := UInt8.toNat_inj.1 (by have h0 : (c.toNat : Int) = 10 := h; show c.toNat = 10; omega)
        rw [if_pos h'] at hn1
        repeat (first | refine nl ?_ | refine rg ?_ | refine sm rfl ?_ | refine inc rfl rfl rfl (by omega) ?_)
        refine ⟨j + 1, hj', by omega, ?_, .refl _⟩
        simp only [hn1]
        exact (tl6 rfl rfl rfl rfl rfl rfl)
      · have h' : c ≠ 10 := fun e => h (by rw [e]; rfl)
        rw [if_neg h'] at hn1
        repeat (first | refine nl ?_ | refine rg ?_ | refine sm rfl ?_ | refine inc rfl rfl rfl (by omega) ?_)
        refine ⟨j + 1, hj', by omega, ?_, .refl _⟩
        simp only [hn1]
        exact (tl6 rfl rfl rfl rfl rfl rfl)
    · repeat (first | refine AWP.seq ?_ | refine rg ?_ | refine sm rfl ?_)
      have hj1 : j = u.length := by have h0 : ¬ (j : Int) < (u.length : Int) := h; omega
      rw [hj1, List.take_length] at *
      have hs := scan_small u
      have hlin := scan_lines u
      have hsc := scan_ok u st hg1 hg0
      generalize scan u = q at hs hlin hsc
      obtain ⟨ts, line, e⟩ := q
      simp only at hs hlin
      simp only [scanV] at hsc
      refine cle rfl rfl hsc ?_
      repeat (first | refine nl ?_ | refine AWP.seq ?_ | refine rg ?_ | refine sm rfl ?_)
      refine AWP.cond_dec rfl (fun h => ?_) (fun h => AWP.skip ?_)
      · have he : e ≠ 0 := fun e0 => h (by show (e : Int) = 0; omega)
        obtain ⟨h1, h2⟩ := hlin.1 he
        subst h1
        repeat (first | refine AWP.seq ?_ | refine rg ?_ | refine sm rfl ?_)
        refine AOps.split 52 rfl (fun h0 => absurd (show (line : Int) < 0 from h0) (by omega)) (fun _ => ?_)
        skip
        refine AOps.split 57 rfl (fun h0 => absurd (show ((1 + nls u : Nat) : Int) < (line : Int) from h0) (by omega)) (fun _ => ?_)
        repeat (first | refine nl ?_ | refine sm rfl ?_ | refine lnv rfl rfl ?_)
        refine AWP.cond_false rfl (AWP.skip (AWP.exit (blk_hit ?_)))
        repeat (first | refine nl ?_ | refine rg ?_ | refine sm rfl ?_ | refine inc rfl rfl rfl (by omega) ?_)
        exact ⟨i + 1, hi', by omega, (tl3 rfl rfl rfl), .refl _⟩
      · have he : e = 0 := by have h0 : ¬ (e : Int) ≠ 0 := h; omega
        obtain ⟨ts', h1, h2⟩ := hlin.2 he
        rw [← h1] at h2
        have hln : ts.length = ts'.length + 1 := by rw [h1]; simp
        have hlast : ts[ts'.length]? = some ⟨0, 1 + nls u, [], 0⟩ := by rw [h1]; simp
        have hm : (ts.map tokRow).length = ts.length := List.length_map ..
        have hrow : ∀ m (hm : m < ts.length), (ts.map tokRow)[m]? = some (tokRow ts[m]) := fun m hm => by rw [List.getElem?_map, List.getElem?_eq_getElem hm]; rfl
        have hdrop : ∀ m (hm : m < ts.length), ts.drop m = ts[m] :: ts.drop (m + 1) := fun m hm => List.drop_eq_getElem_cons hm
        generalize ts.map tokRow = X at hm hrow
        repeat (first | refine nl ?_ | refine AWP.seq ?_ | refine rg ?_ | refine AWP.block ?_ | refine sm rfl ?_ | refine lnv rfl rfl ?_)
        refine AWP.loop (α := Nat × Nat) (fun x => [(64, .int .i64 (x.1 : Int)), (63, .int .i64 (X.length : Int)), (62, .view 4 X .shared), (12, .int .i64 (x.2 : Int)), (7, .int .i64 ((1 + nls u : Nat) : Int)), (26, .int .i64 (i : Int)), (25, .int .i64 (R.length : Int)), (24, .view 1 R .shared)]) (fun _ => st)
          (fun x => rising x.2 (ts.drop x.1) ∧ x.1 ≤ ts.length ∧ (x.1 = ts.length → x.2 = 1 + nls u)) (fun x => ts.length - x.1) (0, 1) ⟨h2, Nat.zero_le _, fun h0 => by simp only at h0; omega⟩ (tl8 rfl rfl rfl rfl rfl rfl rfl rfl) (.refl _) ?_
        rintro ⟨k, was⟩ ⟨g1, g2, g3⟩
        simp only at g1 g2 g3
        refine AWP.weaken (T' := [(64, .int .i64 (k : Int)), (63, .int .i64 (X.length : Int)), (62, .view 4 X .shared), (12, .int .i64 (was : Int)), (7, .int .i64 ((1 + nls u : Nat) : Int)), (26, .int .i64 (i : Int)), (25, .int .i64 (R.length : Int)), (24, .view 1 R .shared)]) (st' := st) (tl8 rfl rfl rfl rfl rfl rfl rfl rfl) (.refl _) ?_
        repeat (first | refine nl ?_ | refine AWP.seq ?_ | refine rg ?_ | refine sm rfl ?_)
        refine AWP.cond_dec rfl (fun h => AWP.skip ?_) (fun h => AWP.exit (blk_hit ?_))
        · have hk : k < ts.length := by have h0 : (k : Int) < (X.length : Int) := h; omega
          have hkX : k < X.length := by omega
          have hr := hrow k hk
          rw [hdrop k hk] at g1
          have hl1 : k + 1 = ts.length → ts[k].line = 1 + nls u := by
            intro h0
            have h5 : k = ts'.length := by omega
            subst h5
            rw [List.getElem?_eq_getElem hk] at hlast
            rw [Option.some.inj hlast]
          generalize ts[k] = tk at hr g1 hl1
          obtain ⟨g4, g5⟩ := g1
          repeat (first | refine nl ?_ | refine AWP.seq ?_ | refine rg ?_ | refine AWP.skip ?_ | refine AWP.block ?_ | refine YI (z := ?_) | refine ZA (z := ?_) | refine ZC (z := ?_) | refine ZD (z := ?_) | refine ZF (z := ?_) | refine ZM (z := ?_) | refine ZO (z := ?_) | refine YA (z := ?_))
          exact ⟨(k + 1, tk.line), ⟨g5, hk, hl1⟩, by (try simp only); omega, (tl8 rfl rfl rfl rfl rfl rfl rfl rfl), .refl _⟩
        · have hk : k = ts.length := by have h0 : ¬ (k : Int) < (X.length : Int) := h; omega
          have hw := g3 hk
          subst hw
          repeat (first | refine nl ?_ | refine AWP.seq ?_ | refine rg ?_ | refine sm rfl ?_)
          refine AWP.cond_dec rfl (fun h0 => absurd rfl h0) (fun _ => AWP.skip ?_)
          repeat (first | refine nl ?_ | refine rg ?_ | refine sm rfl ?_ | refine inc rfl rfl rfl (by omega) ?_)
          exact ⟨i + 1, hi', by omega, (tl3 rfl rfl rfl), .refl _⟩
  · repeat (first | refine AWP.seq ?_ | refine rg ?_)
    refine cle rfl rfl (known_ok _ hg1 hg0) ?_
    repeat (first | refine nl ?_ | refine sm rfl ?_)
    exact AWP.ret (rets rfl (.refl _) (.refl _) rfl)
end Go.Proofs
