/- The walk of lexer.Scan. No conditions: definitions and lemmas only. -/
import Derived.Test.YtmpifmapdmhgkaaDoorL5
namespace Go.Proofs
open Go.AM

def wordRow : List AV := words.map .str

theorem slook_supd (k k' : List UInt8) (v : AV) : ∀ m, slook k (supd k' v m) = if k = k' then some v else slook k m
  | [] => by simp [supd, slook]
  | (a, b) :: m => by
    have ih := slook_supd k k' v m
    rw [supd]
    by_cases h1 : k' = a
    · subst h1
      rw [if_pos rfl, slook, slook]
      by_cases h2 : k = k' <;> simp [h2]
    · rw [if_neg h1, slook, slook, ih]
      by_cases h2 : k = a
      · subst h2
        have : ¬ k = k' := fun e => h1 e.symm
        simp [this]
      · simp [h2]

def wmap (l : List (List UInt8)) : List (List UInt8 × AV) := l.foldl (fun m w => supd w (.bool true) m) []

theorem wmap_snoc (l : List (List UInt8)) (w : List UInt8) : wmap (l ++ [w]) = supd w (.bool true) (wmap l) := by simp [wmap]

theorem wmap_look (nm : List UInt8) : ∀ (n : Nat) (l : List (List UInt8)), l.length = n → slook nm (wmap l) = if nm ∈ l then some (.bool true) else none
  | 0, l, h => by
    have : l = [] := List.eq_nil_of_length_eq_zero h
    subst this
    rfl
  | n + 1, l, h => by
    obtain ⟨l', c, rfl⟩ : ∃ l' c, l = l' ++ [c] := ⟨l.dropLast, l.getLast (by rintro rfl; simp at h), (List.dropLast_concat_getLast _).symm⟩
    rw [wmap_snoc, slook_supd, wmap_look nm n l' (by simpa using h)]
    by_cases h1 : nm = c
    · simp [h1]
    · simp [h1]

theorem WMap.words : WMap (wmap words) := ⟨fun nm => wmap_look nm 12 _ rfl⟩

theorem skip_sum : ∀ (cm : Bool) (x : List UInt8) (l : Nat), (skip cm x l).2 + (skip cm x l).1.length ≤ l + x.length
  | cm, [], l => by simp [skip]
  | cm, c :: r, l => by
    have pass : ∀ cm' l', l' ≤ l + 1 → (skip cm' r l').2 + (skip cm' r l').1.length ≤ l + (c :: r).length := by
      intro cm' l' h2
      have := skip_sum cm' r l'
      simp only [List.length_cons]
      omega
    unfold skip
    split
    · exact pass _ _ (by omega)
    · cases cm
      · rw [cond_false]
        split
        · exact pass _ _ (by omega)
        · split
          · exact pass _ _ (by omega)
          · exact Nat.le_refl _
      · exact pass _ _ (by omega)

theorem skip_tail (s : List UInt8) (line : Nat) : s.drop (s.length - (skip false s line).1.length) = (skip false s line).1 := by
  obtain ⟨q1, q2, q3, k, q4⟩ := skip_le false s line
  have hl := congrArg List.length q4
  rw [List.length_drop] at hl
  rcases Nat.lt_or_ge k s.length with hk | hk
  · rw [show s.length - (skip false s line).1.length = k by omega, q4]
  · have : (skip false s line).1 = [] := by rw [q4, List.drop_eq_nil_of_le hk]
    rw [this, List.length_nil, Nat.sub_zero, List.drop_length]

theorem one_err {s : List UInt8} {line e : Nat} (h : one s line = .error e) : e = 5 ∨ e = 6 := by
  unfold one at h
  split at h
  · cases h; exact .inr rfl
  · rename_i c r
    cases hl : isLet c
    · cases hd : isDig c
      · simp only [hl, hd, cond_false] at h
        split at h
        · cases h; exact .inr rfl
        · cases h
      · simp only [hl, hd, cond_false, cond_true] at h
        split at h
        · cases h; exact .inl rfl
        · split at h
          · cases h; exact .inr rfl
          · cases h
    · simp only [hl, cond_true] at h
      split at h
      · cases h; exact .inl rfl
      · cases h

theorem sign_le (s : List UInt8) : (sign s).length ≤ s.length := by
  unfold sign
  split
  · exact List.length_take_le' ..
  · split
    · split
      · simp
      · simp
    · simp

theorem one_ok {s : List UInt8} {line m : Nat} {t : Tk} (h : one s line = .ok (t, m)) : 1 ≤ m ∧ m ≤ s.length ∧ t.line = line := by
  unfold one at h
  split at h
  · cases h
  · rename_i c r
    have hnp : isLet c = true → isNP c = true := fun h => by simp [isNP, h]
    cases hl : isLet c
    · cases hd : isDig c
      · simp only [hl, hd, cond_false] at h
        split at h
        · cases h
        · rename_i hs
          cases h
          exact ⟨by have := List.length_pos_iff.2 hs; omega, sign_le _, rfl⟩
      · simp only [hl, hd, cond_false, cond_true] at h
        split at h
        · cases h
        · split at h
          · cases h
          · cases h
            exact ⟨by simp [hd], (List.takeWhile_prefix isDig).length_le, rfl⟩
    · simp only [hl, cond_true] at h
      split at h
      · cases h
      · cases h
        exact ⟨by simp [hnp hl], (List.takeWhile_prefix isNP).length_le, rfl⟩

set_option maxHeartbeats 8000000 in
theorem scan_ok (s : List UInt8) (st : St) (hg1 : st.row 1 = some signRow) (hg0 : st.row 0 = some wordRow) :
    ACalls Tryd.prog 15 [.str s] st (fun v st' => v = scanV (scan s) ∧ st' = st) (fun _ _ => False) := by
  refine ACalls.ofBody Tryd.func15 rfl Tryd.ntmps15 rfl ?_
  repeat (first | refine nl ?_ | refine AWP.seq ?_ | refine rg ?_ | refine AWP.skip ?_ | refine AWP.block ?_ | refine sm rfl ?_ | refine uw rfl ?_ | refine fa rfl rfl ?_ | refine leW rfl rfl rfl rfl rfl ?_ | refine leW rfl rfl rfl (by assumption) rfl ?_ | refine lcW rfl rfl rfl (St.obj_set _ _ _) rfl rfl ?_ | refine le rfl rfl rfl rfl ?_ | refine le rfl rfl (by assumption) rfl ?_ | refine lnv rfl rfl ?_ | refine lnm rfl rfl ?_ | refine lns rfl rfl ?_ | refine ix rfl rfl rfl rfl (by assumption) ?_ | refine ixm rfl rfl rfl rfl (by assumption) ?_ | refine ix (m := 0) rfl rfl rfl rfl (of_decide_eq_true rfl) ?_ | refine ix (m := 1) rfl rfl rfl rfl (of_decide_eq_true rfl) ?_ | refine ix (m := 2) rfl rfl rfl rfl (of_decide_eq_true rfl) ?_ | refine ix (m := 3) rfl rfl rfl rfl (of_decide_eq_true rfl) ?_ | refine ix (m := 4) rfl rfl rfl rfl (of_decide_eq_true rfl) ?_ | refine ix (m := 5) rfl rfl rfl rfl (of_decide_eq_true rfl) ?_ | refine ix (m := 6) rfl rfl rfl rfl (of_decide_eq_true rfl) ?_ | refine lc rfl rfl (St.obj_set _ _ _) rfl rfl ?_ | refine lc rfl rfl (St.obj_set _ _ _) (by assumption) rfl ?_ | refine lc rfl rfl (by assumption) rfl rfl ?_ | refine lc rfl rfl (by assumption) (by assumption) rfl ?_ | refine inc rfl rfl rfl (by omega) ?_ | refine adn rfl rfl rfl (by omega) ?_ | refine bs1 rfl rfl rfl rfl rfl rfl ?_ | refine bxe rfl rfl rfl rfl ?_ | refine eqn rfl rfl ?_ | refine eqb rfl rfl rfl ?_ | refine neb rfl rfl rfl ?_ | refine eqA rfl rfl rfl rfl rfl ?_ | refine neA rfl rfl rfl rfl rfl ?_ | refine sx rfl rfl rfl rfl (by assumption) ?_ | refine ssl rfl rfl rfl (by omega) ?_ | refine ssh rfl rfl rfl (by omega) ?_)
  refine AWP.cond_dec rfl (fun h => ?_) (fun h => AWP.skip ?_)
  · have h' : 4000 < s.length := by have : (4000 : Int) < (s.length : Int) := h; omega
    repeat (first | refine nl ?_ | refine AWP.seq ?_ | refine rg ?_ | refine AWP.skip ?_ | refine AWP.block ?_ | refine sm rfl ?_ | refine uw rfl ?_ | refine fa rfl rfl ?_ | refine leW rfl rfl rfl rfl rfl ?_ | refine leW rfl rfl rfl (by assumption) rfl ?_ | refine lcW rfl rfl rfl (St.obj_set _ _ _) rfl rfl ?_ | refine le rfl rfl rfl rfl ?_ | refine le rfl rfl (by assumption) rfl ?_ | refine lnv rfl rfl ?_ | refine lnm rfl rfl ?_ | refine lns rfl rfl ?_ | refine ix rfl rfl rfl rfl (by assumption) ?_ | refine ixm rfl rfl rfl rfl (by assumption) ?_ | refine ix (m := 0) rfl rfl rfl rfl (of_decide_eq_true rfl) ?_ | refine ix (m := 1) rfl rfl rfl rfl (of_decide_eq_true rfl) ?_ | refine ix (m := 2) rfl rfl rfl rfl (of_decide_eq_true rfl) ?_ | refine ix (m := 3) rfl rfl rfl rfl (of_decide_eq_true rfl) ?_ | refine ix (m := 4) rfl rfl rfl rfl (of_decide_eq_true rfl) ?_ | refine ix (m := 5) rfl rfl rfl rfl (of_decide_eq_true rfl) ?_ | refine ix (m := 6) rfl rfl rfl rfl (of_decide_eq_true rfl) ?_ | refine lc rfl rfl (St.obj_set _ _ _) rfl rfl ?_ | refine lc rfl rfl (St.obj_set _ _ _) (by assumption) rfl ?_ | refine lc rfl rfl (by assumption) rfl rfl ?_ | refine lc rfl rfl (by assumption) (by assumption) rfl ?_ | refine inc rfl rfl rfl (by omega) ?_ | refine adn rfl rfl rfl (by omega) ?_ | refine bs1 rfl rfl rfl rfl rfl rfl ?_ | refine bxe rfl rfl rfl rfl ?_ | refine eqn rfl rfl ?_ | refine eqb rfl rfl rfl ?_ | refine neb rfl rfl rfl ?_ | refine eqA rfl rfl rfl rfl rfl ?_ | refine neA rfl rfl rfl rfl rfl ?_ | refine sx rfl rfl rfl rfl (by assumption) ?_ | refine ssl rfl rfl rfl (by omega) ?_ | refine ssh rfl rfl rfl (by omega) ?_)
    refine AWP.ret (rets rfl (Le.tri (.nilShared 0 4) (.refl _) (.refl _)) (.refl _) ⟨?_, rfl⟩)
    rw [scan, if_pos h']
    rfl
  · have h' : s.length ≤ 4000 := by have : ¬ (4000 : Int) < (s.length : Int) := h; omega
    have hscan : scan s = scanL (s.length + 1) (skip false s 1).1 (skip false s 1).2 [] := by rw [scan, if_neg (by omega)]
    repeat (first | refine nl ?_ | refine AWP.seq ?_ | refine AWP.skip ?_ | refine AWP.block ?_)
    refine rg ?_
    refine sm rfl ?_
    refine mkm rfl fun om hom => ?_
    refine bds (cs := scanRow s 0 1 om) rfl rfl rfl rfl ?_
    refine al rfl rfl fun os hos => ?_
    have hne := St.new_ne hos
    have hns := St.new_old hos
    refine soV rfl rfl rfl rfl rfl rfl ?_
    repeat (first | refine nl ?_ | refine AWP.seq ?_ | refine AWP.skip ?_ | refine AWP.block ?_)
    refine rg ?_
    refine leW (row := wordRow) (rows := [wordRow]) (i := 0) (s := 12) rfl rfl (congrArg (Option.map fun row : List AV => AV.eptr row.length [row] 0 0) hg0) rfl rfl ?_
    repeat (first | refine nl ?_ | refine AWP.seq ?_ | refine rg ?_ | refine AWP.skip ?_ | refine AWP.block ?_ | refine sm rfl ?_ | refine uw rfl ?_ | refine fa rfl rfl ?_ | refine leW rfl rfl rfl rfl rfl ?_ | refine leW rfl rfl rfl (by assumption) rfl ?_ | refine lcW rfl rfl rfl (St.obj_set _ _ _) rfl rfl ?_ | refine le rfl rfl rfl rfl ?_ | refine le rfl rfl (by assumption) rfl ?_ | refine lnv rfl rfl ?_ | refine lnm rfl rfl ?_ | refine lns rfl rfl ?_ | refine ix rfl rfl rfl rfl (by assumption) ?_ | refine ixm rfl rfl rfl rfl (by assumption) ?_ | refine ix (m := 0) rfl rfl rfl rfl (of_decide_eq_true rfl) ?_ | refine ix (m := 1) rfl rfl rfl rfl (of_decide_eq_true rfl) ?_ | refine ix (m := 2) rfl rfl rfl rfl (of_decide_eq_true rfl) ?_ | refine ix (m := 3) rfl rfl rfl rfl (of_decide_eq_true rfl) ?_ | refine ix (m := 4) rfl rfl rfl rfl (of_decide_eq_true rfl) ?_ | refine ix (m := 5) rfl rfl rfl rfl (of_decide_eq_true rfl) ?_ | refine ix (m := 6) rfl rfl rfl rfl (of_decide_eq_true rfl) ?_ | refine lc rfl rfl (St.obj_set _ _ _) rfl rfl ?_ | refine lc rfl rfl (St.obj_set _ _ _) (by assumption) rfl ?_ | refine lc rfl rfl (by assumption) rfl rfl ?_ | refine lc rfl rfl (by assumption) (by assumption) rfl ?_ | refine inc rfl rfl rfl (by omega) ?_ | refine adn rfl rfl rfl (by omega) ?_ | refine bs1 rfl rfl rfl rfl rfl rfl ?_ | refine bxe rfl rfl rfl rfl ?_ | refine eqn rfl rfl ?_ | refine eqb rfl rfl rfl ?_ | refine neb rfl rfl rfl ?_ | refine eqA rfl rfl rfl rfl rfl ?_ | refine neA rfl rfl rfl rfl rfl ?_ | refine sx rfl rfl rfl rfl (by assumption) ?_ | refine ssl rfl rfl rfl (by omega) ?_ | refine ssh rfl rfl rfl (by omega) ?_)
    refine AWP.loop (α := Nat) (fun i => [(18, .int .i64 (i : Int)), (17, .agg wordRow), (5, .cptr os 4 0 0), (0, .str s)]) (fun i => (st.set om (.smap (wmap (words.take i)))).set os (.cells 52 4 [scanRow s 0 1 om])) (fun i => i ≤ 12) (fun i => 12 - i) 0 (Nat.zero_le _) (tl4 rfl rfl rfl rfl) (.refl _) ?_
    intro i hi
    repeat (first | refine nl ?_ | refine AWP.seq ?_ | refine rg ?_ | refine AWP.skip ?_ | refine AWP.block ?_ | refine sm rfl ?_ | refine uw rfl ?_ | refine fa rfl rfl ?_ | refine leW rfl rfl rfl rfl rfl ?_ | refine leW rfl rfl rfl (by assumption) rfl ?_ | refine lcW rfl rfl rfl (St.obj_set _ _ _) rfl rfl ?_ | refine le rfl rfl rfl rfl ?_ | refine le rfl rfl (by assumption) rfl ?_ | refine lnv rfl rfl ?_ | refine lnm rfl rfl ?_ | refine lns rfl rfl ?_ | refine ix rfl rfl rfl rfl (by assumption) ?_ | refine ixm rfl rfl rfl rfl (by assumption) ?_ | refine ix (m := 0) rfl rfl rfl rfl (of_decide_eq_true rfl) ?_ | refine ix (m := 1) rfl rfl rfl rfl (of_decide_eq_true rfl) ?_ | refine ix (m := 2) rfl rfl rfl rfl (of_decide_eq_true rfl) ?_ | refine ix (m := 3) rfl rfl rfl rfl (of_decide_eq_true rfl) ?_ | refine ix (m := 4) rfl rfl rfl rfl (of_decide_eq_true rfl) ?_ | refine ix (m := 5) rfl rfl rfl rfl (of_decide_eq_true rfl) ?_ | refine ix (m := 6) rfl rfl rfl rfl (of_decide_eq_true rfl) ?_ | refine lc rfl rfl (St.obj_set _ _ _) rfl rfl ?_ | refine lc rfl rfl (St.obj_set _ _ _) (by assumption) rfl ?_ | refine lc rfl rfl (by assumption) rfl rfl ?_ | refine lc rfl rfl (by assumption) (by assumption) rfl ?_ | refine inc rfl rfl rfl (by omega) ?_ | refine adn rfl rfl rfl (by omega) ?_ | refine bs1 rfl rfl rfl rfl rfl rfl ?_ | refine bxe rfl rfl rfl rfl ?_ | refine eqn rfl rfl ?_ | refine eqb rfl rfl rfl ?_ | refine neb rfl rfl rfl ?_ | refine eqA rfl rfl rfl rfl rfl ?_ | refine neA rfl rfl rfl rfl rfl ?_ | refine sx rfl rfl rfl rfl (by assumption) ?_ | refine ssl rfl rfl rfl (by omega) ?_ | refine ssh rfl rfl rfl (by omega) ?_)
    refine AWP.cond_dec rfl (fun h => AWP.skip ?_) (fun h => AWP.exit (blk_hit ?_))
    · have hi' : i < 12 := by have : (i : Int) < 12 := h; omega
      have hil : i < words.length := hi'
      have hrow : wordRow[i * 1]? = some (.str words[i]) := by simp [wordRow, hil]
      have hsn : wmap (words.take (i + 1)) = supd words[i] (.bool true) (wmap (words.take i)) := by
        rw [List.take_add_one, List.getElem?_eq_getElem hil, Option.toList_some, wmap_snoc]
      generalize words[i] = w at hrow hsn
      repeat (first | refine nl ?_ | refine AWP.seq ?_ | refine rg ?_ | refine AWP.skip ?_ | refine AWP.block ?_ | refine sm rfl ?_ | refine uw rfl ?_ | refine fa rfl rfl ?_ | refine leW rfl rfl rfl rfl rfl ?_ | refine leW rfl rfl rfl (by assumption) rfl ?_ | refine lcW rfl rfl rfl (St.obj_set _ _ _) rfl rfl ?_ | refine le rfl rfl rfl rfl ?_ | refine le rfl rfl (by assumption) rfl ?_ | refine lnv rfl rfl ?_ | refine lnm rfl rfl ?_ | refine lns rfl rfl ?_ | refine ix rfl rfl rfl rfl (by assumption) ?_ | refine ixm rfl rfl rfl rfl (by assumption) ?_ | refine ix (m := 0) rfl rfl rfl rfl (of_decide_eq_true rfl) ?_ | refine ix (m := 1) rfl rfl rfl rfl (of_decide_eq_true rfl) ?_ | refine ix (m := 2) rfl rfl rfl rfl (of_decide_eq_true rfl) ?_ | refine ix (m := 3) rfl rfl rfl rfl (of_decide_eq_true rfl) ?_ | refine ix (m := 4) rfl rfl rfl rfl (of_decide_eq_true rfl) ?_ | refine ix (m := 5) rfl rfl rfl rfl (of_decide_eq_true rfl) ?_ | refine ix (m := 6) rfl rfl rfl rfl (of_decide_eq_true rfl) ?_ | refine lc rfl rfl (St.obj_set _ _ _) rfl rfl ?_ | refine lc rfl rfl (St.obj_set _ _ _) (by assumption) rfl ?_ | refine lc rfl rfl (by assumption) rfl rfl ?_ | refine lc rfl rfl (by assumption) (by assumption) rfl ?_ | refine inc rfl rfl rfl (by omega) ?_ | refine adn rfl rfl rfl (by omega) ?_ | refine bs1 rfl rfl rfl rfl rfl rfl ?_ | refine bxe rfl rfl rfl rfl ?_ | refine eqn rfl rfl ?_ | refine eqb rfl rfl rfl ?_ | refine neb rfl rfl rfl ?_ | refine eqA rfl rfl rfl rfl rfl ?_ | refine neA rfl rfl rfl rfl rfl ?_ | refine sx rfl rfl rfl rfl (by assumption) ?_ | refine ssl rfl rfl rfl (by omega) ?_ | refine ssh rfl rfl rfl (by omega) ?_)
      refine ixg rfl rfl rfl rfl rfl hi' hrow ?_
      repeat (first | refine nl ?_ | refine AWP.seq ?_ | refine rg ?_ | refine AWP.skip ?_ | refine AWP.block ?_ | refine sm rfl ?_ | refine uw rfl ?_ | refine fa rfl rfl ?_ | refine leW rfl rfl rfl rfl rfl ?_ | refine leW rfl rfl rfl (by assumption) rfl ?_ | refine lcW rfl rfl rfl (St.obj_set _ _ _) rfl rfl ?_ | refine le rfl rfl rfl rfl ?_ | refine le rfl rfl (by assumption) rfl ?_ | refine lnv rfl rfl ?_ | refine lnm rfl rfl ?_ | refine lns rfl rfl ?_ | refine ix rfl rfl rfl rfl (by assumption) ?_ | refine ixm rfl rfl rfl rfl (by assumption) ?_ | refine ix (m := 0) rfl rfl rfl rfl (of_decide_eq_true rfl) ?_ | refine ix (m := 1) rfl rfl rfl rfl (of_decide_eq_true rfl) ?_ | refine ix (m := 2) rfl rfl rfl rfl (of_decide_eq_true rfl) ?_ | refine ix (m := 3) rfl rfl rfl rfl (of_decide_eq_true rfl) ?_ | refine ix (m := 4) rfl rfl rfl rfl (of_decide_eq_true rfl) ?_ | refine ix (m := 5) rfl rfl rfl rfl (of_decide_eq_true rfl) ?_ | refine ix (m := 6) rfl rfl rfl rfl (of_decide_eq_true rfl) ?_ | refine lc rfl rfl (St.obj_set _ _ _) rfl rfl ?_ | refine lc rfl rfl (St.obj_set _ _ _) (by assumption) rfl ?_ | refine lc rfl rfl (by assumption) rfl rfl ?_ | refine lc rfl rfl (by assumption) (by assumption) rfl ?_ | refine inc rfl rfl rfl (by omega) ?_ | refine adn rfl rfl rfl (by omega) ?_ | refine bs1 rfl rfl rfl rfl rfl rfl ?_ | refine bxe rfl rfl rfl rfl ?_ | refine eqn rfl rfl ?_ | refine eqb rfl rfl rfl ?_ | refine neb rfl rfl rfl ?_ | refine eqA rfl rfl rfl rfl rfl ?_ | refine neA rfl rfl rfl rfl rfl ?_ | refine sx rfl rfl rfl rfl (by assumption) ?_ | refine ssl rfl rfl rfl (by omega) ?_ | refine ssh rfl rfl rfl (by omega) ?_)
      refine mup rfl rfl rfl rfl (St.obj_under hne _ _) ?_
      rw [St.set_inner hne]
      repeat (first | refine nl ?_ | refine AWP.seq ?_ | refine rg ?_ | refine AWP.skip ?_ | refine AWP.block ?_ | refine sm rfl ?_ | refine uw rfl ?_ | refine fa rfl rfl ?_ | refine leW rfl rfl rfl rfl rfl ?_ | refine leW rfl rfl rfl (by assumption) rfl ?_ | refine lcW rfl rfl rfl (St.obj_set _ _ _) rfl rfl ?_ | refine le rfl rfl rfl rfl ?_ | refine le rfl rfl (by assumption) rfl ?_ | refine lnv rfl rfl ?_ | refine lnm rfl rfl ?_ | refine lns rfl rfl ?_ | refine ix rfl rfl rfl rfl (by assumption) ?_ | refine ixm rfl rfl rfl rfl (by assumption) ?_ | refine ix (m := 0) rfl rfl rfl rfl (of_decide_eq_true rfl) ?_ | refine ix (m := 1) rfl rfl rfl rfl (of_decide_eq_true rfl) ?_ | refine ix (m := 2) rfl rfl rfl rfl (of_decide_eq_true rfl) ?_ | refine ix (m := 3) rfl rfl rfl rfl (of_decide_eq_true rfl) ?_ | refine ix (m := 4) rfl rfl rfl rfl (of_decide_eq_true rfl) ?_ | refine ix (m := 5) rfl rfl rfl rfl (of_decide_eq_true rfl) ?_ | refine ix (m := 6) rfl rfl rfl rfl (of_decide_eq_true rfl) ?_ | refine lc rfl rfl (St.obj_set _ _ _) rfl rfl ?_ | refine lc rfl rfl (St.obj_set _ _ _) (by assumption) rfl ?_ | refine lc rfl rfl (by assumption) rfl rfl ?_ | refine lc rfl rfl (by assumption) (by assumption) rfl ?_ | refine inc rfl rfl rfl (by omega) ?_ | refine adn rfl rfl rfl (by omega) ?_ | refine bs1 rfl rfl rfl rfl rfl rfl ?_ | refine bxe rfl rfl rfl rfl ?_ | refine eqn rfl rfl ?_ | refine eqb rfl rfl rfl ?_ | refine neb rfl rfl rfl ?_ | refine eqA rfl rfl rfl rfl rfl ?_ | refine neA rfl rfl rfl rfl rfl ?_ | refine sx rfl rfl rfl rfl (by assumption) ?_ | refine ssl rfl rfl rfl (by omega) ?_ | refine ssh rfl rfl rfl (by omega) ?_)
      refine ⟨i + 1, hi', by omega, (tl4 rfl rfl rfl rfl), ?_⟩
      rw [hsn]
      exact .refl _
    · have hi' : i = 12 := by have : ¬ (i : Int) < 12 := h; omega
      subst hi'
      rw [show words.take 12 = words from rfl]
      refine AWP.weaken (tl2 (i0 := 5) (i1 := 0) rfl rfl) (.refl _) ?_
      repeat (first | refine nl ?_ | refine AWP.seq ?_ | refine AWP.skip ?_ | refine AWP.block ?_)
      refine rg ?_
      repeat (first | refine sm rfl ?_ | refine uw rfl ?_ | refine fa rfl rfl ?_ | refine leW rfl rfl rfl rfl rfl ?_ | refine leW rfl rfl rfl (by assumption) rfl ?_ | refine lcW rfl rfl rfl (St.obj_set _ _ _) rfl rfl ?_ | refine le rfl rfl rfl rfl ?_ | refine le rfl rfl (by assumption) rfl ?_ | refine lnv rfl rfl ?_ | refine lnm rfl rfl ?_ | refine lns rfl rfl ?_ | refine ix rfl rfl rfl rfl (by assumption) ?_ | refine ixm rfl rfl rfl rfl (by assumption) ?_ | refine ix (m := 0) rfl rfl rfl rfl (of_decide_eq_true rfl) ?_ | refine ix (m := 1) rfl rfl rfl rfl (of_decide_eq_true rfl) ?_ | refine ix (m := 2) rfl rfl rfl rfl (of_decide_eq_true rfl) ?_ | refine ix (m := 3) rfl rfl rfl rfl (of_decide_eq_true rfl) ?_ | refine ix (m := 4) rfl rfl rfl rfl (of_decide_eq_true rfl) ?_ | refine ix (m := 5) rfl rfl rfl rfl (of_decide_eq_true rfl) ?_ | refine ix (m := 6) rfl rfl rfl rfl (of_decide_eq_true rfl) ?_ | refine lc rfl rfl (St.obj_set _ _ _) rfl rfl ?_ | refine lc rfl rfl (St.obj_set _ _ _) (by assumption) rfl ?_ | refine lc rfl rfl (by assumption) rfl rfl ?_ | refine lc rfl rfl (by assumption) (by assumption) rfl ?_ | refine inc rfl rfl rfl (by omega) ?_ | refine adn rfl rfl rfl (by omega) ?_ | refine bs1 rfl rfl rfl rfl rfl rfl ?_ | refine bxe rfl rfl rfl rfl ?_ | refine eqn rfl rfl ?_ | refine eqb rfl rfl rfl ?_ | refine neb rfl rfl rfl ?_ | refine eqA rfl rfl rfl rfl rfl ?_ | refine neA rfl rfl rfl rfl rfl ?_ | refine sx rfl rfl rfl rfl (by assumption) ?_ | refine ssl rfl rfl rfl (by omega) ?_ | refine ssh rfl rfl rfl (by omega) ?_)
      repeat (first | refine nl ?_ | refine AWP.seq ?_ | refine AWP.skip ?_ | refine AWP.block ?_)
      refine AWP.nilTok 8 36 4 rfl fun tk htk => ?_
      have hst : ∀ (tk : Nat) (c : AObj), ((st.set om (.smap (wmap words))).set os c).addTok tk = ((st.set om (.smap (wmap words))).addTok tk).set os c := fun _ _ => rfl
      rw [hst]
      repeat (first | refine nl ?_ | refine AWP.seq ?_ | refine AWP.skip ?_ | refine AWP.block ?_)
      refine rg ?_
      refine cl rfl rfl (skip_ok s (by omega) 0 1 om os (Nat.zero_le _) (by omega) _) fun _ st' hst' => ?_
      subst hst'
      rw [List.drop_zero]
      obtain ⟨q1, q2, q3, q4⟩ := skip_le false s 1
      have q6 := skip_sum false s 1
      repeat (first | refine nl ?_ | refine AWP.seq ?_ | refine rg ?_ | refine AWP.skip ?_ | refine AWP.block ?_ | refine sm rfl ?_ | refine uw rfl ?_ | refine fa rfl rfl ?_ | refine leW rfl rfl rfl rfl rfl ?_ | refine leW rfl rfl rfl (by assumption) rfl ?_ | refine lcW rfl rfl rfl (St.obj_set _ _ _) rfl rfl ?_ | refine le rfl rfl rfl rfl ?_ | refine le rfl rfl (by assumption) rfl ?_ | refine lnv rfl rfl ?_ | refine lnm rfl rfl ?_ | refine lns rfl rfl ?_ | refine ix rfl rfl rfl rfl (by assumption) ?_ | refine ixm rfl rfl rfl rfl (by assumption) ?_ | refine ix (m := 0) rfl rfl rfl rfl (of_decide_eq_true rfl) ?_ | refine ix (m := 1) rfl rfl rfl rfl (of_decide_eq_true rfl) ?_ | refine ix (m := 2) rfl rfl rfl rfl (of_decide_eq_true rfl) ?_ | refine ix (m := 3) rfl rfl rfl rfl (of_decide_eq_true rfl) ?_ | refine ix (m := 4) rfl rfl rfl rfl (of_decide_eq_true rfl) ?_ | refine ix (m := 5) rfl rfl rfl rfl (of_decide_eq_true rfl) ?_ | refine ix (m := 6) rfl rfl rfl rfl (of_decide_eq_true rfl) ?_ | refine lc rfl rfl (St.obj_set _ _ _) rfl rfl ?_ | refine lc rfl rfl (St.obj_set _ _ _) (by assumption) rfl ?_ | refine lc rfl rfl (by assumption) rfl rfl ?_ | refine lc rfl rfl (by assumption) (by assumption) rfl ?_ | refine inc rfl rfl rfl (by omega) ?_ | refine adn rfl rfl rfl (by omega) ?_ | refine bs1 rfl rfl rfl rfl rfl rfl ?_ | refine bxe rfl rfl rfl rfl ?_ | refine eqn rfl rfl ?_ | refine eqb rfl rfl rfl ?_ | refine neb rfl rfl rfl ?_ | refine eqA rfl rfl rfl rfl rfl ?_ | refine neA rfl rfl rfl rfl rfl ?_ | refine sx rfl rfl rfl rfl (by assumption) ?_ | refine ssl rfl rfl rfl (by omega) ?_ | refine ssh rfl rfl rfl (by omega) ?_)
      refine AWP.loop (α := Nat × Nat × Nat × List Tk × Nat)
        (fun x => [(8, .view 4 (x.2.2.2.1.map tokRow) (.own x.2.2.2.2 36)), (5, .cptr os 4 0 0), (0, .str s)])
        (fun x => ((st.set om (.smap (wmap words))).addTok x.2.2.2.2).set os (.cells 52 4 [scanRow s x.2.1 x.2.2.1 om]))
        (fun x => x.2.1 ≤ s.length ∧ x.2.2.1 ≤ x.2.1 + 1 ∧ scan s = scanL x.1 (s.drop x.2.1) x.2.2.1 x.2.2.2.1 ∧ s.length - x.2.1 < x.1 ∧ x.2.2.2.1.length ≤ 2000 ∧ st.tok x.2.2.2.2 = false) (fun x => x.1)
        (s.length + 1, s.length - (skip false s 1).1.length, (skip false s 1).2, [], tk) ⟨by simp only; omega, by simp only; omega, ?_, by simp only; omega, by simp, htk⟩ (tl3 rfl rfl rfl) (.refl _) ?_
      · simp only
        rw [hscan]
        congr 1
        exact (skip_tail s 1).symm
      · rintro ⟨fuel, pos, line, out, tk⟩ ⟨h1, h2, h3, h4, h5, h6⟩
        simp only at h1 h2 h3 h4 h5 h6
        repeat (first | refine nl ?_ | refine AWP.seq ?_ | refine rg ?_ | refine AWP.skip ?_ | refine AWP.block ?_ | refine sm rfl ?_ | refine uw rfl ?_ | refine fa rfl rfl ?_ | refine leW rfl rfl rfl rfl rfl ?_ | refine leW rfl rfl rfl (by assumption) rfl ?_ | refine lcW rfl rfl rfl (St.obj_set _ _ _) rfl rfl ?_ | refine le rfl rfl rfl rfl ?_ | refine le rfl rfl (by assumption) rfl ?_ | refine lnv rfl rfl ?_ | refine lnm rfl rfl ?_ | refine lns rfl rfl ?_ | refine ix rfl rfl rfl rfl (by assumption) ?_ | refine ixm rfl rfl rfl rfl (by assumption) ?_ | refine ix (m := 0) rfl rfl rfl rfl (of_decide_eq_true rfl) ?_ | refine ix (m := 1) rfl rfl rfl rfl (of_decide_eq_true rfl) ?_ | refine ix (m := 2) rfl rfl rfl rfl (of_decide_eq_true rfl) ?_ | refine ix (m := 3) rfl rfl rfl rfl (of_decide_eq_true rfl) ?_ | refine ix (m := 4) rfl rfl rfl rfl (of_decide_eq_true rfl) ?_ | refine ix (m := 5) rfl rfl rfl rfl (of_decide_eq_true rfl) ?_ | refine ix (m := 6) rfl rfl rfl rfl (of_decide_eq_true rfl) ?_ | refine lc rfl rfl (St.obj_set _ _ _) rfl rfl ?_ | refine lc rfl rfl (St.obj_set _ _ _) (by assumption) rfl ?_ | refine lc rfl rfl (by assumption) rfl rfl ?_ | refine lc rfl rfl (by assumption) (by assumption) rfl ?_ | refine inc rfl rfl rfl (by omega) ?_ | refine adn rfl rfl rfl (by omega) ?_ | refine bs1 rfl rfl rfl rfl rfl rfl ?_ | refine bxe rfl rfl rfl rfl ?_ | refine eqn rfl rfl ?_ | refine eqb rfl rfl rfl ?_ | refine neb rfl rfl rfl ?_ | refine eqA rfl rfl rfl rfl rfl ?_ | refine neA rfl rfl rfl rfl rfl ?_ | refine sx rfl rfl rfl rfl (by assumption) ?_ | refine ssl rfl rfl rfl (by omega) ?_ | refine ssh rfl rfl rfl (by omega) ?_)
        refine AWP.cond_dec rfl (fun h => AWP.skip ?_) (fun h => AWP.exit (blk_hit ?_))
        · have hlt : pos < s.length := by have : (pos : Int) < (s.length : Int) := h; omega
          obtain ⟨fuel, rfl⟩ : ∃ k, fuel = k + 1 := ⟨fuel - 1, by omega⟩
          have hd : s.drop pos = s[pos] :: s.drop (pos + 1) := List.drop_eq_getElem_cons hlt
          have hstep : scan s = match one (s.drop pos) line with
              | .error e => ([], line, e)
              | .ok (t, m) => if 2000 ≤ out.length then ([], line, 5) else scanL fuel (skip false ((s.drop pos).drop m) line).1 (skip false ((s.drop pos).drop m) line).2 (out ++ [t]) := by
            rw [h3, hd]
            rfl
          clear h3
          refine AWP.weaken (tl3 (i0 := 8) (i1 := 5) (i2 := 0) rfl rfl rfl) (.refl _) ?_
          repeat (first | refine nl ?_ | refine AWP.seq ?_ | refine AWP.skip ?_ | refine AWP.block ?_)
          refine rg ?_
          refine cl rfl rfl (token_ok s (by omega) pos line om os hlt (wmap words) WMap.words ((st.set om (.smap (wmap words))).addTok tk) (St.obj_set _ _ _) (Ne.symm hne) hg1) fun v st' ⟨hv, hst'⟩ => ?_
          subst hv
          subst hst'
          cases ho : one (s.drop pos) line with
          | error e =>
            rw [ho] at hstep
            refine AOps.weaken (T' := [(33, tkE zTk e), (8, .view 4 (out.map tokRow) (.own tk 36)), (5, .cptr os 4 0 0), (0, .str s)]) (tl4 rfl rfl rfl rfl) (.refl _) ?_
            repeat (first | refine nl ?_ | refine AWP.seq ?_ | refine rg ?_ | refine AWP.skip ?_ | refine AWP.block ?_ | refine sm rfl ?_ | refine uw rfl ?_ | refine fa rfl rfl ?_ | refine leW rfl rfl rfl rfl rfl ?_ | refine leW rfl rfl rfl (by assumption) rfl ?_ | refine lcW rfl rfl rfl (St.obj_set _ _ _) rfl rfl ?_ | refine le rfl rfl rfl rfl ?_ | refine le rfl rfl (by assumption) rfl ?_ | refine lnv rfl rfl ?_ | refine lnm rfl rfl ?_ | refine lns rfl rfl ?_ | refine ix rfl rfl rfl rfl (by assumption) ?_ | refine ixm rfl rfl rfl rfl (by assumption) ?_ | refine ix (m := 0) rfl rfl rfl rfl (of_decide_eq_true rfl) ?_ | refine ix (m := 1) rfl rfl rfl rfl (of_decide_eq_true rfl) ?_ | refine ix (m := 2) rfl rfl rfl rfl (of_decide_eq_true rfl) ?_ | refine ix (m := 3) rfl rfl rfl rfl (of_decide_eq_true rfl) ?_ | refine ix (m := 4) rfl rfl rfl rfl (of_decide_eq_true rfl) ?_ | refine ix (m := 5) rfl rfl rfl rfl (of_decide_eq_true rfl) ?_ | refine ix (m := 6) rfl rfl rfl rfl (of_decide_eq_true rfl) ?_ | refine lc rfl rfl (St.obj_set _ _ _) rfl rfl ?_ | refine lc rfl rfl (St.obj_set _ _ _) (by assumption) rfl ?_ | refine lc rfl rfl (by assumption) rfl rfl ?_ | refine lc rfl rfl (by assumption) (by assumption) rfl ?_ | refine inc rfl rfl rfl (by omega) ?_ | refine adn rfl rfl rfl (by omega) ?_ | refine bs1 rfl rfl rfl rfl rfl rfl ?_ | refine bxe rfl rfl rfl rfl ?_ | refine eqn rfl rfl ?_ | refine eqb rfl rfl rfl ?_ | refine neb rfl rfl rfl ?_ | refine eqA rfl rfl rfl rfl rfl ?_ | refine neA rfl rfl rfl rfl rfl ?_ | refine sx rfl rfl rfl rfl (by assumption) ?_ | refine ssl rfl rfl rfl (by omega) ?_ | refine ssh rfl rfl rfl (by omega) ?_)
            refine al rfl rfl fun o9 ho9 => ?_
            refine soN 9 rfl rfl rfl rfl rfl rfl ho9 ?_
            have he := one_err ho
            have he0 : (AV.bool (decide ((e : Int) = 0))) = .bool false := by
              have : ¬ e = 0 := by omega
              simp [this]
            have he1 : (AV.bool (decide ((e : Int) ≠ 0))) = .bool true := by
              have : ¬ e = 0 := by omega
              simp [this]
            repeat (first | refine nl ?_ | refine AWP.seq ?_ | refine rg ?_ | refine AWP.skip ?_ | refine AWP.block ?_ | refine sm rfl ?_ | refine uw rfl ?_ | refine fa rfl rfl ?_ | refine leW rfl rfl rfl rfl rfl ?_ | refine leW rfl rfl rfl (by assumption) rfl ?_ | refine lcW rfl rfl rfl (St.obj_set _ _ _) rfl rfl ?_ | refine le rfl rfl rfl rfl ?_ | refine le rfl rfl (by assumption) rfl ?_ | refine lnv rfl rfl ?_ | refine lnm rfl rfl ?_ | refine lns rfl rfl ?_ | refine ix rfl rfl rfl rfl (by assumption) ?_ | refine ixm rfl rfl rfl rfl (by assumption) ?_ | refine ix (m := 0) rfl rfl rfl rfl (of_decide_eq_true rfl) ?_ | refine ix (m := 1) rfl rfl rfl rfl (of_decide_eq_true rfl) ?_ | refine ix (m := 2) rfl rfl rfl rfl (of_decide_eq_true rfl) ?_ | refine ix (m := 3) rfl rfl rfl rfl (of_decide_eq_true rfl) ?_ | refine ix (m := 4) rfl rfl rfl rfl (of_decide_eq_true rfl) ?_ | refine ix (m := 5) rfl rfl rfl rfl (of_decide_eq_true rfl) ?_ | refine ix (m := 6) rfl rfl rfl rfl (of_decide_eq_true rfl) ?_ | refine lc rfl rfl (St.obj_set _ _ _) rfl rfl ?_ | refine lc rfl rfl (St.obj_set _ _ _) (by assumption) rfl ?_ | refine lc rfl rfl (by assumption) rfl rfl ?_ | refine lc rfl rfl (by assumption) (by assumption) rfl ?_ | refine inc rfl rfl rfl (by omega) ?_ | refine adn rfl rfl rfl (by omega) ?_ | refine bs1 rfl rfl rfl rfl rfl rfl ?_ | refine bxe rfl rfl rfl rfl ?_ | refine eqn rfl rfl ?_ | refine eqb rfl rfl rfl ?_ | refine neb rfl rfl rfl ?_ | refine eqA rfl rfl rfl rfl rfl ?_ | refine neA rfl rfl rfl rfl rfl ?_ | refine sx rfl rfl rfl rfl (by assumption) ?_ | refine ssl rfl rfl rfl (by omega) ?_ | refine ssh rfl rfl rfl (by omega) ?_)
            rw [he0]
            repeat (first | refine nl ?_ | refine AWP.seq ?_ | refine rg ?_ | refine AWP.skip ?_ | refine AWP.block ?_ | refine sm rfl ?_ | refine uw rfl ?_ | refine fa rfl rfl ?_ | refine leW rfl rfl rfl rfl rfl ?_ | refine leW rfl rfl rfl (by assumption) rfl ?_ | refine lcW rfl rfl rfl (St.obj_set _ _ _) rfl rfl ?_ | refine le rfl rfl rfl rfl ?_ | refine le rfl rfl (by assumption) rfl ?_ | refine lnv rfl rfl ?_ | refine lnm rfl rfl ?_ | refine lns rfl rfl ?_ | refine ix rfl rfl rfl rfl (by assumption) ?_ | refine ixm rfl rfl rfl rfl (by assumption) ?_ | refine ix (m := 0) rfl rfl rfl rfl (of_decide_eq_true rfl) ?_ | refine ix (m := 1) rfl rfl rfl rfl (of_decide_eq_true rfl) ?_ | refine ix (m := 2) rfl rfl rfl rfl (of_decide_eq_true rfl) ?_ | refine ix (m := 3) rfl rfl rfl rfl (of_decide_eq_true rfl) ?_ | refine ix (m := 4) rfl rfl rfl rfl (of_decide_eq_true rfl) ?_ | refine ix (m := 5) rfl rfl rfl rfl (of_decide_eq_true rfl) ?_ | refine ix (m := 6) rfl rfl rfl rfl (of_decide_eq_true rfl) ?_ | refine lc rfl rfl (St.obj_set _ _ _) rfl rfl ?_ | refine lc rfl rfl (St.obj_set _ _ _) (by assumption) rfl ?_ | refine lc rfl rfl (by assumption) rfl rfl ?_ | refine lc rfl rfl (by assumption) (by assumption) rfl ?_ | refine inc rfl rfl rfl (by omega) ?_ | refine adn rfl rfl rfl (by omega) ?_ | refine bs1 rfl rfl rfl rfl rfl rfl ?_ | refine bxe rfl rfl rfl rfl ?_ | refine eqn rfl rfl ?_ | refine eqb rfl rfl rfl ?_ | refine neb rfl rfl rfl ?_ | refine eqA rfl rfl rfl rfl rfl ?_ | refine neA rfl rfl rfl rfl rfl ?_ | refine sx rfl rfl rfl rfl (by assumption) ?_ | refine ssl rfl rfl rfl (by omega) ?_ | refine ssh rfl rfl rfl (by omega) ?_)
            refine AWP.cond_false rfl (AWP.skip ?_)
            repeat (first | refine nl ?_ | refine AWP.seq ?_ | refine rg ?_ | refine AWP.skip ?_ | refine AWP.block ?_ | refine sm rfl ?_ | refine uw rfl ?_ | refine fa rfl rfl ?_ | refine leW rfl rfl rfl rfl rfl ?_ | refine leW rfl rfl rfl (by assumption) rfl ?_ | refine lcW rfl rfl rfl (St.obj_set _ _ _) rfl rfl ?_ | refine le rfl rfl rfl rfl ?_ | refine le rfl rfl (by assumption) rfl ?_ | refine lnv rfl rfl ?_ | refine lnm rfl rfl ?_ | refine lns rfl rfl ?_ | refine ix rfl rfl rfl rfl (by assumption) ?_ | refine ixm rfl rfl rfl rfl (by assumption) ?_ | refine ix (m := 0) rfl rfl rfl rfl (of_decide_eq_true rfl) ?_ | refine ix (m := 1) rfl rfl rfl rfl (of_decide_eq_true rfl) ?_ | refine ix (m := 2) rfl rfl rfl rfl (of_decide_eq_true rfl) ?_ | refine ix (m := 3) rfl rfl rfl rfl (of_decide_eq_true rfl) ?_ | refine ix (m := 4) rfl rfl rfl rfl (of_decide_eq_true rfl) ?_ | refine ix (m := 5) rfl rfl rfl rfl (of_decide_eq_true rfl) ?_ | refine ix (m := 6) rfl rfl rfl rfl (of_decide_eq_true rfl) ?_ | refine lc rfl rfl (St.obj_set _ _ _) rfl rfl ?_ | refine lc rfl rfl (St.obj_set _ _ _) (by assumption) rfl ?_ | refine lc rfl rfl (by assumption) rfl rfl ?_ | refine lc rfl rfl (by assumption) (by assumption) rfl ?_ | refine inc rfl rfl rfl (by omega) ?_ | refine adn rfl rfl rfl (by omega) ?_ | refine bs1 rfl rfl rfl rfl rfl rfl ?_ | refine bxe rfl rfl rfl rfl ?_ | refine eqn rfl rfl ?_ | refine eqb rfl rfl rfl ?_ | refine neb rfl rfl rfl ?_ | refine eqA rfl rfl rfl rfl rfl ?_ | refine neA rfl rfl rfl rfl rfl ?_ | refine sx rfl rfl rfl rfl (by assumption) ?_ | refine ssl rfl rfl rfl (by omega) ?_ | refine ssh rfl rfl rfl (by omega) ?_)
            rw [he1]
            repeat (first | refine nl ?_ | refine AWP.seq ?_ | refine rg ?_ | refine AWP.skip ?_ | refine AWP.block ?_ | refine sm rfl ?_ | refine uw rfl ?_ | refine fa rfl rfl ?_ | refine leW rfl rfl rfl rfl rfl ?_ | refine leW rfl rfl rfl (by assumption) rfl ?_ | refine lcW rfl rfl rfl (St.obj_set _ _ _) rfl rfl ?_ | refine le rfl rfl rfl rfl ?_ | refine le rfl rfl (by assumption) rfl ?_ | refine lnv rfl rfl ?_ | refine lnm rfl rfl ?_ | refine lns rfl rfl ?_ | refine ix rfl rfl rfl rfl (by assumption) ?_ | refine ixm rfl rfl rfl rfl (by assumption) ?_ | refine ix (m := 0) rfl rfl rfl rfl (of_decide_eq_true rfl) ?_ | refine ix (m := 1) rfl rfl rfl rfl (of_decide_eq_true rfl) ?_ | refine ix (m := 2) rfl rfl rfl rfl (of_decide_eq_true rfl) ?_ | refine ix (m := 3) rfl rfl rfl rfl (of_decide_eq_true rfl) ?_ | refine ix (m := 4) rfl rfl rfl rfl (of_decide_eq_true rfl) ?_ | refine ix (m := 5) rfl rfl rfl rfl (of_decide_eq_true rfl) ?_ | refine ix (m := 6) rfl rfl rfl rfl (of_decide_eq_true rfl) ?_ | refine lc rfl rfl (St.obj_set _ _ _) rfl rfl ?_ | refine lc rfl rfl (St.obj_set _ _ _) (by assumption) rfl ?_ | refine lc rfl rfl (by assumption) rfl rfl ?_ | refine lc rfl rfl (by assumption) (by assumption) rfl ?_ | refine inc rfl rfl rfl (by omega) ?_ | refine adn rfl rfl rfl (by omega) ?_ | refine bs1 rfl rfl rfl rfl rfl rfl ?_ | refine bxe rfl rfl rfl rfl ?_ | refine eqn rfl rfl ?_ | refine eqb rfl rfl rfl ?_ | refine neb rfl rfl rfl ?_ | refine eqA rfl rfl rfl rfl rfl ?_ | refine neA rfl rfl rfl rfl rfl ?_ | refine sx rfl rfl rfl rfl (by assumption) ?_ | refine ssl rfl rfl rfl (by omega) ?_ | refine ssh rfl rfl rfl (by omega) ?_)
            refine AWP.cond_true rfl ?_
            repeat (first | refine nl ?_ | refine AWP.seq ?_ | refine AWP.skip ?_ | refine AWP.block ?_)
            refine AWP.draw rfl 5 5 (fun _ _ => False) rfl ?_
            repeat (first | refine ds rfl rfl ?_ | refine du rfl rfl rfl ?_ | refine dq rfl rfl rfl (fun st1 hle => leW rfl rfl rfl rfl rfl (nl ⟨_, rfl, rfl, rfl⟩)) ?_ | refine dq rfl rfl rfl (fun st1 hle => leW rfl rfl rfl (by assumption) rfl (nl ⟨_, rfl, rfl, rfl⟩)) ?_ | refine dq rfl rfl rfl (fun st1 hle => le rfl rfl rfl rfl (nl ⟨_, rfl, rfl, rfl⟩)) ?_ | refine dq rfl rfl rfl (fun st1 hle => le rfl rfl (by assumption) rfl (nl ⟨_, rfl, rfl, rfl⟩)) ?_ | refine dq rfl rfl rfl (fun st1 hle => fa rfl rfl (nl ⟨_, rfl, rfl, rfl⟩)) ?_ | refine dq rfl rfl rfl (fun st1 hle => lnv rfl rfl (nl ⟨_, rfl, rfl, rfl⟩)) ?_ | refine dq rfl rfl rfl (fun st1 hle => lnm rfl rfl (nl ⟨_, rfl, rfl, rfl⟩)) ?_ | refine dq rfl rfl rfl (fun st1 hle => lns rfl rfl (nl ⟨_, rfl, rfl, rfl⟩)) ?_ | refine dq rfl rfl rfl (fun st1 hle => ix rfl rfl rfl rfl (by assumption) (nl ⟨_, rfl, rfl, rfl⟩)) ?_ | refine dq rfl rfl rfl (fun st1 hle => ixm rfl rfl rfl rfl (by assumption) (nl ⟨_, rfl, rfl, rfl⟩)) ?_ | refine dq rfl rfl rfl (fun st1 hle => lc rfl rfl (hle.obj _ _ (by assumption)) rfl rfl (nl ⟨_, rfl, rfl, rfl⟩)) ?_ | refine dq rfl rfl rfl (fun st1 hle => lc rfl rfl (hle.obj _ _ (by assumption)) (by assumption) rfl (nl ⟨_, rfl, rfl, rfl⟩)) ?_ | refine dq rfl rfl rfl (fun st1 hle => lc rfl rfl (hle.obj _ _ (St.obj_set _ _ _)) rfl rfl (nl ⟨_, rfl, rfl, rfl⟩)) ?_ | refine dq rfl rfl rfl (fun st1 hle => bs1 rfl rfl rfl rfl rfl rfl (nl ⟨_, rfl, rfl, rfl⟩)) ?_ | refine dq rfl rfl rfl (fun st1 hle => sx rfl rfl rfl rfl (by assumption) (nl ⟨_, rfl, rfl, rfl⟩)) ?_ | refine dq rfl rfl rfl (fun st1 hle => ssl rfl rfl rfl (by omega) (nl ⟨_, rfl, rfl, rfl⟩)) ?_ | refine dq rfl rfl rfl (fun st1 hle => ssh rfl rfl rfl (by omega) (nl ⟨_, rfl, rfl, rfl⟩)) ?_ | refine dq rfl rfl rfl (fun st1 hle => adn rfl rfl rfl (by omega) (nl ⟨_, rfl, rfl, rfl⟩)) ?_ | refine dq rfl rfl rfl (fun st1 hle => inc rfl rfl rfl (by omega) (nl ⟨_, rfl, rfl, rfl⟩)) ?_)
            refine dn ⟨fun _ => ?_, fun h => absurd h (by decide)⟩
            repeat (first | refine nl ?_ | refine AWP.seq ?_ | refine rg ?_ | refine AWP.skip ?_ | refine AWP.block ?_ | refine sm rfl ?_ | refine uw rfl ?_ | refine fa rfl rfl ?_ | refine leW rfl rfl rfl rfl rfl ?_ | refine leW rfl rfl rfl (by assumption) rfl ?_ | refine lcW rfl rfl rfl (St.obj_set _ _ _) rfl rfl ?_ | refine le rfl rfl rfl rfl ?_ | refine le rfl rfl (by assumption) rfl ?_ | refine lnv rfl rfl ?_ | refine lnm rfl rfl ?_ | refine lns rfl rfl ?_ | refine ix rfl rfl rfl rfl (by assumption) ?_ | refine ixm rfl rfl rfl rfl (by assumption) ?_ | refine ix (m := 0) rfl rfl rfl rfl (of_decide_eq_true rfl) ?_ | refine ix (m := 1) rfl rfl rfl rfl (of_decide_eq_true rfl) ?_ | refine ix (m := 2) rfl rfl rfl rfl (of_decide_eq_true rfl) ?_ | refine ix (m := 3) rfl rfl rfl rfl (of_decide_eq_true rfl) ?_ | refine ix (m := 4) rfl rfl rfl rfl (of_decide_eq_true rfl) ?_ | refine ix (m := 5) rfl rfl rfl rfl (of_decide_eq_true rfl) ?_ | refine ix (m := 6) rfl rfl rfl rfl (of_decide_eq_true rfl) ?_ | refine lc rfl rfl (St.obj_set _ _ _) rfl rfl ?_ | refine lc rfl rfl (St.obj_set _ _ _) (by assumption) rfl ?_ | refine lc rfl rfl (by assumption) rfl rfl ?_ | refine lc rfl rfl (by assumption) (by assumption) rfl ?_ | refine inc rfl rfl rfl (by omega) ?_ | refine adn rfl rfl rfl (by omega) ?_ | refine bs1 rfl rfl rfl rfl rfl rfl ?_ | refine bxe rfl rfl rfl rfl ?_ | refine eqn rfl rfl ?_ | refine eqb rfl rfl rfl ?_ | refine neb rfl rfl rfl ?_ | refine eqA rfl rfl rfl rfl rfl ?_ | refine neA rfl rfl rfl rfl rfl ?_ | refine sx rfl rfl rfl rfl (by assumption) ?_ | refine ssl rfl rfl rfl (by omega) ?_ | refine ssh rfl rfl rfl (by omega) ?_)
            refine AWP.ret (rets rfl (Le.tri (.nilShared 0 4) (.refl _) (.refl _)) (StLe.new (show ((st.set om (.smap (wmap words))).addTok tk).obj os = none from (St.obj_set_ne hne).trans hns) (StLe.new (st := st.addTok tk) hom (StLe.addTok _ (.refl _)))) ⟨?_, rfl⟩)
            rw [hstep]
            rfl
          | ok p =>
            obtain ⟨t, m⟩ := p
            rw [ho] at hstep
            simp only at hstep
            obtain ⟨m1, m2, m3⟩ := one_ok ho
            rw [List.length_drop] at m2
            refine AOps.weaken (T' := [(33, tkE t 0), (8, .view 4 (out.map tokRow) (.own tk 36)), (5, .cptr os 4 0 0), (0, .str s)]) (tl4 rfl rfl rfl rfl) (.refl _) ?_
            repeat (first | refine nl ?_ | refine AWP.seq ?_ | refine rg ?_ | refine AWP.skip ?_ | refine AWP.block ?_ | refine sm rfl ?_ | refine uw rfl ?_ | refine fa rfl rfl ?_ | refine leW rfl rfl rfl rfl rfl ?_ | refine leW rfl rfl rfl (by assumption) rfl ?_ | refine lcW rfl rfl rfl (St.obj_set _ _ _) rfl rfl ?_ | refine le rfl rfl rfl rfl ?_ | refine le rfl rfl (by assumption) rfl ?_ | refine lnv rfl rfl ?_ | refine lnm rfl rfl ?_ | refine lns rfl rfl ?_ | refine ix rfl rfl rfl rfl (by assumption) ?_ | refine ixm rfl rfl rfl rfl (by assumption) ?_ | refine ix (m := 0) rfl rfl rfl rfl (of_decide_eq_true rfl) ?_ | refine ix (m := 1) rfl rfl rfl rfl (of_decide_eq_true rfl) ?_ | refine ix (m := 2) rfl rfl rfl rfl (of_decide_eq_true rfl) ?_ | refine ix (m := 3) rfl rfl rfl rfl (of_decide_eq_true rfl) ?_ | refine ix (m := 4) rfl rfl rfl rfl (of_decide_eq_true rfl) ?_ | refine ix (m := 5) rfl rfl rfl rfl (of_decide_eq_true rfl) ?_ | refine ix (m := 6) rfl rfl rfl rfl (of_decide_eq_true rfl) ?_ | refine lc rfl rfl (St.obj_set _ _ _) rfl rfl ?_ | refine lc rfl rfl (St.obj_set _ _ _) (by assumption) rfl ?_ | refine lc rfl rfl (by assumption) rfl rfl ?_ | refine lc rfl rfl (by assumption) (by assumption) rfl ?_ | refine inc rfl rfl rfl (by omega) ?_ | refine adn rfl rfl rfl (by omega) ?_ | refine bs1 rfl rfl rfl rfl rfl rfl ?_ | refine bxe rfl rfl rfl rfl ?_ | refine eqn rfl rfl ?_ | refine eqb rfl rfl rfl ?_ | refine neb rfl rfl rfl ?_ | refine eqA rfl rfl rfl rfl rfl ?_ | refine neA rfl rfl rfl rfl rfl ?_ | refine sx rfl rfl rfl rfl (by assumption) ?_ | refine ssl rfl rfl rfl (by omega) ?_ | refine ssh rfl rfl rfl (by omega) ?_)
            refine al rfl rfl fun o9 ho9 => ?_
            refine soN 9 rfl rfl rfl rfl rfl rfl ho9 ?_
            repeat (first | refine nl ?_ | refine AWP.seq ?_ | refine rg ?_ | refine AWP.skip ?_ | refine AWP.block ?_ | refine sm rfl ?_ | refine uw rfl ?_ | refine fa rfl rfl ?_ | refine leW rfl rfl rfl rfl rfl ?_ | refine leW rfl rfl rfl (by assumption) rfl ?_ | refine lcW rfl rfl rfl (St.obj_set _ _ _) rfl rfl ?_ | refine le rfl rfl rfl rfl ?_ | refine le rfl rfl (by assumption) rfl ?_ | refine lnv rfl rfl ?_ | refine lnm rfl rfl ?_ | refine lns rfl rfl ?_ | refine ix rfl rfl rfl rfl (by assumption) ?_ | refine ixm rfl rfl rfl rfl (by assumption) ?_ | refine ix (m := 0) rfl rfl rfl rfl (of_decide_eq_true rfl) ?_ | refine ix (m := 1) rfl rfl rfl rfl (of_decide_eq_true rfl) ?_ | refine ix (m := 2) rfl rfl rfl rfl (of_decide_eq_true rfl) ?_ | refine ix (m := 3) rfl rfl rfl rfl (of_decide_eq_true rfl) ?_ | refine ix (m := 4) rfl rfl rfl rfl (of_decide_eq_true rfl) ?_ | refine ix (m := 5) rfl rfl rfl rfl (of_decide_eq_true rfl) ?_ | refine ix (m := 6) rfl rfl rfl rfl (of_decide_eq_true rfl) ?_ | refine lc rfl rfl (St.obj_set _ _ _) rfl rfl ?_ | refine lc rfl rfl (St.obj_set _ _ _) (by assumption) rfl ?_ | refine lc rfl rfl (by assumption) rfl rfl ?_ | refine lc rfl rfl (by assumption) (by assumption) rfl ?_ | refine inc rfl rfl rfl (by omega) ?_ | refine adn rfl rfl rfl (by omega) ?_ | refine bs1 rfl rfl rfl rfl rfl rfl ?_ | refine bxe rfl rfl rfl rfl ?_ | refine eqn rfl rfl ?_ | refine eqb rfl rfl rfl ?_ | refine neb rfl rfl rfl ?_ | refine eqA rfl rfl rfl rfl rfl ?_ | refine neA rfl rfl rfl rfl rfl ?_ | refine sx rfl rfl rfl rfl (by assumption) ?_ | refine ssl rfl rfl rfl (by omega) ?_ | refine ssh rfl rfl rfl (by omega) ?_)
            refine AWP.cond_dec rfl (fun h => ?_) (fun h => AWP.skip ?_)
            · have hge : 2000 ≤ out.length := by
                rw [List.length_map] at h
                omega
              rw [if_pos hge] at hstep
              repeat (first | refine nl ?_ | refine AWP.seq ?_ | refine rg ?_ | refine AWP.skip ?_ | refine AWP.block ?_ | refine sm rfl ?_ | refine uw rfl ?_ | refine fa rfl rfl ?_ | refine leW rfl rfl rfl rfl rfl ?_ | refine leW rfl rfl rfl (by assumption) rfl ?_ | refine lcW rfl rfl rfl (St.obj_set _ _ _) rfl rfl ?_ | refine le rfl rfl rfl rfl ?_ | refine le rfl rfl (by assumption) rfl ?_ | refine lnv rfl rfl ?_ | refine lnm rfl rfl ?_ | refine lns rfl rfl ?_ | refine ix rfl rfl rfl rfl (by assumption) ?_ | refine ixm rfl rfl rfl rfl (by assumption) ?_ | refine ix (m := 0) rfl rfl rfl rfl (of_decide_eq_true rfl) ?_ | refine ix (m := 1) rfl rfl rfl rfl (of_decide_eq_true rfl) ?_ | refine ix (m := 2) rfl rfl rfl rfl (of_decide_eq_true rfl) ?_ | refine ix (m := 3) rfl rfl rfl rfl (of_decide_eq_true rfl) ?_ | refine ix (m := 4) rfl rfl rfl rfl (of_decide_eq_true rfl) ?_ | refine ix (m := 5) rfl rfl rfl rfl (of_decide_eq_true rfl) ?_ | refine ix (m := 6) rfl rfl rfl rfl (of_decide_eq_true rfl) ?_ | refine lc rfl rfl (St.obj_set _ _ _) rfl rfl ?_ | refine lc rfl rfl (St.obj_set _ _ _) (by assumption) rfl ?_ | refine lc rfl rfl (by assumption) rfl rfl ?_ | refine lc rfl rfl (by assumption) (by assumption) rfl ?_ | refine inc rfl rfl rfl (by omega) ?_ | refine adn rfl rfl rfl (by omega) ?_ | refine bs1 rfl rfl rfl rfl rfl rfl ?_ | refine bxe rfl rfl rfl rfl ?_ | refine eqn rfl rfl ?_ | refine eqb rfl rfl rfl ?_ | refine neb rfl rfl rfl ?_ | refine eqA rfl rfl rfl rfl rfl ?_ | refine neA rfl rfl rfl rfl rfl ?_ | refine sx rfl rfl rfl rfl (by assumption) ?_ | refine ssl rfl rfl rfl (by omega) ?_ | refine ssh rfl rfl rfl (by omega) ?_)
              refine AWP.cond_true rfl ?_
              repeat (first | refine nl ?_ | refine AWP.seq ?_ | refine AWP.skip ?_ | refine AWP.block ?_)
              refine AWP.draw rfl 5 5 (fun _ _ => False) rfl ?_
              repeat (first | refine ds rfl rfl ?_ | refine du rfl rfl rfl ?_ | refine dq rfl rfl rfl (fun st1 hle => leW rfl rfl rfl rfl rfl (nl ⟨_, rfl, rfl, rfl⟩)) ?_ | refine dq rfl rfl rfl (fun st1 hle => leW rfl rfl rfl (by assumption) rfl (nl ⟨_, rfl, rfl, rfl⟩)) ?_ | refine dq rfl rfl rfl (fun st1 hle => le rfl rfl rfl rfl (nl ⟨_, rfl, rfl, rfl⟩)) ?_ | refine dq rfl rfl rfl (fun st1 hle => le rfl rfl (by assumption) rfl (nl ⟨_, rfl, rfl, rfl⟩)) ?_ | refine dq rfl rfl rfl (fun st1 hle => fa rfl rfl (nl ⟨_, rfl, rfl, rfl⟩)) ?_ | refine dq rfl rfl rfl (fun st1 hle => lnv rfl rfl (nl ⟨_, rfl, rfl, rfl⟩)) ?_ | refine dq rfl rfl rfl (fun st1 hle => lnm rfl rfl (nl ⟨_, rfl, rfl, rfl⟩)) ?_ | refine dq rfl rfl rfl (fun st1 hle => lns rfl rfl (nl ⟨_, rfl, rfl, rfl⟩)) ?_ | refine dq rfl rfl rfl (fun st1 hle => ix rfl rfl rfl rfl (by assumption) (nl ⟨_, rfl, rfl, rfl⟩)) ?_ | refine dq rfl rfl rfl (fun st1 hle => ixm rfl rfl rfl rfl (by assumption) (nl ⟨_, rfl, rfl, rfl⟩)) ?_ | refine dq rfl rfl rfl (fun st1 hle => lc rfl rfl (hle.obj _ _ (by assumption)) rfl rfl (nl ⟨_, rfl, rfl, rfl⟩)) ?_ | refine dq rfl rfl rfl (fun st1 hle => lc rfl rfl (hle.obj _ _ (by assumption)) (by assumption) rfl (nl ⟨_, rfl, rfl, rfl⟩)) ?_ | refine dq rfl rfl rfl (fun st1 hle => lc rfl rfl (hle.obj _ _ (St.obj_set _ _ _)) rfl rfl (nl ⟨_, rfl, rfl, rfl⟩)) ?_ | refine dq rfl rfl rfl (fun st1 hle => bs1 rfl rfl rfl rfl rfl rfl (nl ⟨_, rfl, rfl, rfl⟩)) ?_ | refine dq rfl rfl rfl (fun st1 hle => sx rfl rfl rfl rfl (by assumption) (nl ⟨_, rfl, rfl, rfl⟩)) ?_ | refine dq rfl rfl rfl (fun st1 hle => ssl rfl rfl rfl (by omega) (nl ⟨_, rfl, rfl, rfl⟩)) ?_ | refine dq rfl rfl rfl (fun st1 hle => ssh rfl rfl rfl (by omega) (nl ⟨_, rfl, rfl, rfl⟩)) ?_ | refine dq rfl rfl rfl (fun st1 hle => adn rfl rfl rfl (by omega) (nl ⟨_, rfl, rfl, rfl⟩)) ?_ | refine dq rfl rfl rfl (fun st1 hle => inc rfl rfl rfl (by omega) (nl ⟨_, rfl, rfl, rfl⟩)) ?_)
              refine dn ⟨fun _ => ?_, fun h => absurd h (by decide)⟩
              repeat (first | refine nl ?_ | refine AWP.seq ?_ | refine rg ?_ | refine AWP.skip ?_ | refine AWP.block ?_ | refine sm rfl ?_ | refine uw rfl ?_ | refine fa rfl rfl ?_ | refine leW rfl rfl rfl rfl rfl ?_ | refine leW rfl rfl rfl (by assumption) rfl ?_ | refine lcW rfl rfl rfl (St.obj_set _ _ _) rfl rfl ?_ | refine le rfl rfl rfl rfl ?_ | refine le rfl rfl (by assumption) rfl ?_ | refine lnv rfl rfl ?_ | refine lnm rfl rfl ?_ | refine lns rfl rfl ?_ | refine ix rfl rfl rfl rfl (by assumption) ?_ | refine ixm rfl rfl rfl rfl (by assumption) ?_ | refine ix (m := 0) rfl rfl rfl rfl (of_decide_eq_true rfl) ?_ | refine ix (m := 1) rfl rfl rfl rfl (of_decide_eq_true rfl) ?_ | refine ix (m := 2) rfl rfl rfl rfl (of_decide_eq_true rfl) ?_ | refine ix (m := 3) rfl rfl rfl rfl (of_decide_eq_true rfl) ?_ | refine ix (m := 4) rfl rfl rfl rfl (of_decide_eq_true rfl) ?_ | refine ix (m := 5) rfl rfl rfl rfl (of_decide_eq_true rfl) ?_ | refine ix (m := 6) rfl rfl rfl rfl (of_decide_eq_true rfl) ?_ | refine lc rfl rfl (St.obj_set _ _ _) rfl rfl ?_ | refine lc rfl rfl (St.obj_set _ _ _) (by assumption) rfl ?_ | refine lc rfl rfl (by assumption) rfl rfl ?_ | refine lc rfl rfl (by assumption) (by assumption) rfl ?_ | refine inc rfl rfl rfl (by omega) ?_ | refine adn rfl rfl rfl (by omega) ?_ | refine bs1 rfl rfl rfl rfl rfl rfl ?_ | refine bxe rfl rfl rfl rfl ?_ | refine eqn rfl rfl ?_ | refine eqb rfl rfl rfl ?_ | refine neb rfl rfl rfl ?_ | refine eqA rfl rfl rfl rfl rfl ?_ | refine neA rfl rfl rfl rfl rfl ?_ | refine sx rfl rfl rfl rfl (by assumption) ?_ | refine ssl rfl rfl rfl (by omega) ?_ | refine ssh rfl rfl rfl (by omega) ?_)
              refine AWP.ret (rets rfl (Le.tri (.nilShared 0 4) (.refl _) (.refl _)) (StLe.new (show ((st.set om (.smap (wmap words))).addTok tk).obj os = none from (St.obj_set_ne hne).trans hns) (StLe.new (st := st.addTok tk) hom (StLe.addTok _ (.refl _)))) ⟨?_, rfl⟩)
              rw [hstep]
              rfl
            · have hge : ¬ 2000 ≤ out.length := by
                rw [List.length_map] at h
                omega
              rw [if_neg hge] at hstep
              repeat (first | refine nl ?_ | refine AWP.seq ?_ | refine rg ?_ | refine AWP.skip ?_ | refine AWP.block ?_ | refine sm rfl ?_ | refine uw rfl ?_ | refine fa rfl rfl ?_ | refine leW rfl rfl rfl rfl rfl ?_ | refine leW rfl rfl rfl (by assumption) rfl ?_ | refine lcW rfl rfl rfl (St.obj_set _ _ _) rfl rfl ?_ | refine le rfl rfl rfl rfl ?_ | refine le rfl rfl (by assumption) rfl ?_ | refine lnv rfl rfl ?_ | refine lnm rfl rfl ?_ | refine lns rfl rfl ?_ | refine ix rfl rfl rfl rfl (by assumption) ?_ | refine ixm rfl rfl rfl rfl (by assumption) ?_ | refine ix (m := 0) rfl rfl rfl rfl (of_decide_eq_true rfl) ?_ | refine ix (m := 1) rfl rfl rfl rfl (of_decide_eq_true rfl) ?_ | refine ix (m := 2) rfl rfl rfl rfl (of_decide_eq_true rfl) ?_ | refine ix (m := 3) rfl rfl rfl rfl (of_decide_eq_true rfl) ?_ | refine ix (m := 4) rfl rfl rfl rfl (of_decide_eq_true rfl) ?_ | refine ix (m := 5) rfl rfl rfl rfl (of_decide_eq_true rfl) ?_ | refine ix (m := 6) rfl rfl rfl rfl (of_decide_eq_true rfl) ?_ | refine lc rfl rfl (St.obj_set _ _ _) rfl rfl ?_ | refine lc rfl rfl (St.obj_set _ _ _) (by assumption) rfl ?_ | refine lc rfl rfl (by assumption) rfl rfl ?_ | refine lc rfl rfl (by assumption) (by assumption) rfl ?_ | refine inc rfl rfl rfl (by omega) ?_ | refine adn rfl rfl rfl (by omega) ?_ | refine bs1 rfl rfl rfl rfl rfl rfl ?_ | refine bxe rfl rfl rfl rfl ?_ | refine eqn rfl rfl ?_ | refine eqb rfl rfl rfl ?_ | refine neb rfl rfl rfl ?_ | refine eqA rfl rfl rfl rfl rfl ?_ | refine neA rfl rfl rfl rfl rfl ?_ | refine sx rfl rfl rfl rfl (by assumption) ?_ | refine ssl rfl rfl rfl (by omega) ?_ | refine ssh rfl rfl rfl (by omega) ?_)
              refine AWP.cond_false rfl (AWP.skip ?_)
              repeat (first | refine nl ?_ | refine AWP.seq ?_ | refine rg ?_ | refine AWP.skip ?_ | refine AWP.block ?_ | refine sm rfl ?_ | refine uw rfl ?_ | refine fa rfl rfl ?_ | refine leW rfl rfl rfl rfl rfl ?_ | refine leW rfl rfl rfl (by assumption) rfl ?_ | refine lcW rfl rfl rfl (St.obj_set _ _ _) rfl rfl ?_ | refine le rfl rfl rfl rfl ?_ | refine le rfl rfl (by assumption) rfl ?_ | refine lnv rfl rfl ?_ | refine lnm rfl rfl ?_ | refine lns rfl rfl ?_ | refine ix rfl rfl rfl rfl (by assumption) ?_ | refine ixm rfl rfl rfl rfl (by assumption) ?_ | refine ix (m := 0) rfl rfl rfl rfl (of_decide_eq_true rfl) ?_ | refine ix (m := 1) rfl rfl rfl rfl (of_decide_eq_true rfl) ?_ | refine ix (m := 2) rfl rfl rfl rfl (of_decide_eq_true rfl) ?_ | refine ix (m := 3) rfl rfl rfl rfl (of_decide_eq_true rfl) ?_ | refine ix (m := 4) rfl rfl rfl rfl (of_decide_eq_true rfl) ?_ | refine ix (m := 5) rfl rfl rfl rfl (of_decide_eq_true rfl) ?_ | refine ix (m := 6) rfl rfl rfl rfl (of_decide_eq_true rfl) ?_ | refine lc rfl rfl (St.obj_set _ _ _) rfl rfl ?_ | refine lc rfl rfl (St.obj_set _ _ _) (by assumption) rfl ?_ | refine lc rfl rfl (by assumption) rfl rfl ?_ | refine lc rfl rfl (by assumption) (by assumption) rfl ?_ | refine inc rfl rfl rfl (by omega) ?_ | refine adn rfl rfl rfl (by omega) ?_ | refine bs1 rfl rfl rfl rfl rfl rfl ?_ | refine bxe rfl rfl rfl rfl ?_ | refine eqn rfl rfl ?_ | refine eqb rfl rfl rfl ?_ | refine neb rfl rfl rfl ?_ | refine eqA rfl rfl rfl rfl rfl ?_ | refine neA rfl rfl rfl rfl rfl ?_ | refine sx rfl rfl rfl rfl (by assumption) ?_ | refine ssl rfl rfl rfl (by omega) ?_ | refine ssh rfl rfl rfl (by omega) ?_)
              refine ap rfl rfl rfl (St.tok_addTok _ _) rfl (by simp only [List.length_cons, List.length_nil, List.length_map]; omega) (by simp only [List.length_cons, List.length_nil, List.length_map, maxLen]; omega) fun tk' htk' => ?_
              have hm : out.map tokRow ++ [(AV.agg (AV.agg (tokRow t)).cells).cells] = (out ++ [t]).map tokRow := by rw [List.map_append]; rfl
              rw [hm]
              have hst2 : ∀ (c : AObj), ((((st.set om (.smap (wmap words))).addTok tk).set os c).untok tk).addTok tk' = ((((st.set om (.smap (wmap words))).addTok tk).untok tk).addTok tk').set os c := fun _ => rfl
              rw [hst2]
              have htk2 : st.tok tk' = false := St.tok_of_add (st := st) htk'
              repeat (first | refine nl ?_ | refine AWP.seq ?_ | refine rg ?_ | refine AWP.skip ?_ | refine AWP.block ?_ | refine sm rfl ?_ | refine uw rfl ?_ | refine fa rfl rfl ?_ | refine leW rfl rfl rfl rfl rfl ?_ | refine leW rfl rfl rfl (by assumption) rfl ?_ | refine lcW rfl rfl rfl (St.obj_set _ _ _) rfl rfl ?_ | refine le rfl rfl rfl rfl ?_ | refine le rfl rfl (by assumption) rfl ?_ | refine lnv rfl rfl ?_ | refine lnm rfl rfl ?_ | refine lns rfl rfl ?_ | refine ix rfl rfl rfl rfl (by assumption) ?_ | refine ixm rfl rfl rfl rfl (by assumption) ?_ | refine ix (m := 0) rfl rfl rfl rfl (of_decide_eq_true rfl) ?_ | refine ix (m := 1) rfl rfl rfl rfl (of_decide_eq_true rfl) ?_ | refine ix (m := 2) rfl rfl rfl rfl (of_decide_eq_true rfl) ?_ | refine ix (m := 3) rfl rfl rfl rfl (of_decide_eq_true rfl) ?_ | refine ix (m := 4) rfl rfl rfl rfl (of_decide_eq_true rfl) ?_ | refine ix (m := 5) rfl rfl rfl rfl (of_decide_eq_true rfl) ?_ | refine ix (m := 6) rfl rfl rfl rfl (of_decide_eq_true rfl) ?_ | refine lc rfl rfl (St.obj_set _ _ _) rfl rfl ?_ | refine lc rfl rfl (St.obj_set _ _ _) (by assumption) rfl ?_ | refine lc rfl rfl (by assumption) rfl rfl ?_ | refine lc rfl rfl (by assumption) (by assumption) rfl ?_ | refine inc rfl rfl rfl (by omega) ?_ | refine adn rfl rfl rfl (by omega) ?_ | refine bs1 rfl rfl rfl rfl rfl rfl ?_ | refine bxe rfl rfl rfl rfl ?_ | refine eqn rfl rfl ?_ | refine eqb rfl rfl rfl ?_ | refine neb rfl rfl rfl ?_ | refine eqA rfl rfl rfl rfl rfl ?_ | refine neA rfl rfl rfl rfl rfl ?_ | refine sx rfl rfl rfl rfl (by assumption) ?_ | refine ssl rfl rfl rfl (by omega) ?_ | refine ssh rfl rfl rfl (by omega) ?_)
              refine AOps.weaken (tl3 (i0 := 8) (i1 := 5) (i2 := 0) rfl rfl rfl) (.refl _) ?_
              have hdd : (s.drop pos).drop m = s.drop (pos + m) := List.drop_drop ..
              rw [hdd] at hstep
              refine cl rfl rfl (skip_ok s (by omega) (pos + m) line om os (by omega) (by omega) _) fun _ st' hst' => ?_
              subst hst'
              obtain ⟨w1, w2, w3, w4⟩ := skip_le false (s.drop (pos + m)) line
              have w6 := skip_sum false (s.drop (pos + m)) line
              have w7 := skip_tail (s.drop (pos + m)) line
              rw [List.length_drop] at w1 w2 w6 w7
              rw [List.drop_drop] at w7
              generalize skip false (s.drop (pos + m)) line = sk at w1 w2 w3 w6 w7 hstep ⊢
              repeat (first | refine nl ?_ | refine AWP.seq ?_ | refine rg ?_ | refine AWP.skip ?_ | refine AWP.block ?_ | refine sm rfl ?_ | refine uw rfl ?_ | refine fa rfl rfl ?_ | refine leW rfl rfl rfl rfl rfl ?_ | refine leW rfl rfl rfl (by assumption) rfl ?_ | refine lcW rfl rfl rfl (St.obj_set _ _ _) rfl rfl ?_ | refine le rfl rfl rfl rfl ?_ | refine le rfl rfl (by assumption) rfl ?_ | refine lnv rfl rfl ?_ | refine lnm rfl rfl ?_ | refine lns rfl rfl ?_ | refine ix rfl rfl rfl rfl (by assumption) ?_ | refine ixm rfl rfl rfl rfl (by assumption) ?_ | refine ix (m := 0) rfl rfl rfl rfl (of_decide_eq_true rfl) ?_ | refine ix (m := 1) rfl rfl rfl rfl (of_decide_eq_true rfl) ?_ | refine ix (m := 2) rfl rfl rfl rfl (of_decide_eq_true rfl) ?_ | refine ix (m := 3) rfl rfl rfl rfl (of_decide_eq_true rfl) ?_ | refine ix (m := 4) rfl rfl rfl rfl (of_decide_eq_true rfl) ?_ | refine ix (m := 5) rfl rfl rfl rfl (of_decide_eq_true rfl) ?_ | refine ix (m := 6) rfl rfl rfl rfl (of_decide_eq_true rfl) ?_ | refine lc rfl rfl (St.obj_set _ _ _) rfl rfl ?_ | refine lc rfl rfl (St.obj_set _ _ _) (by assumption) rfl ?_ | refine lc rfl rfl (by assumption) rfl rfl ?_ | refine lc rfl rfl (by assumption) (by assumption) rfl ?_ | refine inc rfl rfl rfl (by omega) ?_ | refine adn rfl rfl rfl (by omega) ?_ | refine bs1 rfl rfl rfl rfl rfl rfl ?_ | refine bxe rfl rfl rfl rfl ?_ | refine eqn rfl rfl ?_ | refine eqb rfl rfl rfl ?_ | refine neb rfl rfl rfl ?_ | refine eqA rfl rfl rfl rfl rfl ?_ | refine neA rfl rfl rfl rfl rfl ?_ | refine sx rfl rfl rfl rfl (by assumption) ?_ | refine ssl rfl rfl rfl (by omega) ?_ | refine ssh rfl rfl rfl (by omega) ?_)
              refine ⟨(fuel, s.length - sk.1.length, sk.2, out ++ [t], tk'), ⟨by simp only; omega, by simp only; omega, ?_, by simp only; omega, by simp only [List.length_append, List.length_cons, List.length_nil]; omega, htk2⟩, by simp only; omega, (tl3 rfl rfl rfl), ?_⟩
              · simp only
                rw [hstep]
                have w8 : s.length - sk.1.length = pos + m + (s.length - (pos + m) - sk.1.length) := by omega
                rw [w8, w7]
              · exact StLe.set _ _ (StLe.reTok (st := st.set om (.smap (wmap words))) h6 tk')
        · have hlt : pos = s.length := by have : ¬ (pos : Int) < (s.length : Int) := h; omega
          subst hlt
          obtain ⟨fuel, rfl⟩ : ∃ k, fuel = k + 1 := ⟨fuel - 1, by omega⟩
          rw [List.drop_length] at h3
          have hstep : scan s = (out ++ [⟨0, line, [], 0⟩], 0, 0) := h3
          refine AWP.weaken (T' := [(8, .view 4 (out.map tokRow) (.own tk 36)), (5, .cptr os 4 0 0), (0, .str s)]) (st' := ((st.set om (.smap (wmap words))).addTok tk).set os (.cells 52 4 [scanRow s s.length line om])) (tl3 rfl rfl rfl) (.refl _) ?_
          repeat (first | refine nl ?_ | refine AWP.seq ?_ | refine rg ?_ | refine AWP.skip ?_ | refine AWP.block ?_ | refine sm rfl ?_ | refine uw rfl ?_ | refine fa rfl rfl ?_ | refine leW rfl rfl rfl rfl rfl ?_ | refine leW rfl rfl rfl (by assumption) rfl ?_ | refine lcW rfl rfl rfl (St.obj_set _ _ _) rfl rfl ?_ | refine le rfl rfl rfl rfl ?_ | refine le rfl rfl (by assumption) rfl ?_ | refine lnv rfl rfl ?_ | refine lnm rfl rfl ?_ | refine lns rfl rfl ?_ | refine ix rfl rfl rfl rfl (by assumption) ?_ | refine ixm rfl rfl rfl rfl (by assumption) ?_ | refine ix (m := 0) rfl rfl rfl rfl (of_decide_eq_true rfl) ?_ | refine ix (m := 1) rfl rfl rfl rfl (of_decide_eq_true rfl) ?_ | refine ix (m := 2) rfl rfl rfl rfl (of_decide_eq_true rfl) ?_ | refine ix (m := 3) rfl rfl rfl rfl (of_decide_eq_true rfl) ?_ | refine ix (m := 4) rfl rfl rfl rfl (of_decide_eq_true rfl) ?_ | refine ix (m := 5) rfl rfl rfl rfl (of_decide_eq_true rfl) ?_ | refine ix (m := 6) rfl rfl rfl rfl (of_decide_eq_true rfl) ?_ | refine lc rfl rfl (St.obj_set _ _ _) rfl rfl ?_ | refine lc rfl rfl (St.obj_set _ _ _) (by assumption) rfl ?_ | refine lc rfl rfl (by assumption) rfl rfl ?_ | refine lc rfl rfl (by assumption) (by assumption) rfl ?_ | refine inc rfl rfl rfl (by omega) ?_ | refine adn rfl rfl rfl (by omega) ?_ | refine bs1 rfl rfl rfl rfl rfl rfl ?_ | refine bxe rfl rfl rfl rfl ?_ | refine eqn rfl rfl ?_ | refine eqb rfl rfl rfl ?_ | refine neb rfl rfl rfl ?_ | refine eqA rfl rfl rfl rfl rfl ?_ | refine neA rfl rfl rfl rfl rfl ?_ | refine sx rfl rfl rfl rfl (by assumption) ?_ | refine ssl rfl rfl rfl (by omega) ?_ | refine ssh rfl rfl rfl (by omega) ?_)
          refine bds (cs := tokRow ⟨0, line, [], 0⟩) rfl rfl rfl rfl ?_
          repeat (first | refine nl ?_ | refine AWP.seq ?_ | refine rg ?_ | refine AWP.skip ?_ | refine AWP.block ?_ | refine sm rfl ?_ | refine uw rfl ?_ | refine fa rfl rfl ?_ | refine leW rfl rfl rfl rfl rfl ?_ | refine leW rfl rfl rfl (by assumption) rfl ?_ | refine lcW rfl rfl rfl (St.obj_set _ _ _) rfl rfl ?_ | refine le rfl rfl rfl rfl ?_ | refine le rfl rfl (by assumption) rfl ?_ | refine lnv rfl rfl ?_ | refine lnm rfl rfl ?_ | refine lns rfl rfl ?_ | refine ix rfl rfl rfl rfl (by assumption) ?_ | refine ixm rfl rfl rfl rfl (by assumption) ?_ | refine ix (m := 0) rfl rfl rfl rfl (of_decide_eq_true rfl) ?_ | refine ix (m := 1) rfl rfl rfl rfl (of_decide_eq_true rfl) ?_ | refine ix (m := 2) rfl rfl rfl rfl (of_decide_eq_true rfl) ?_ | refine ix (m := 3) rfl rfl rfl rfl (of_decide_eq_true rfl) ?_ | refine ix (m := 4) rfl rfl rfl rfl (of_decide_eq_true rfl) ?_ | refine ix (m := 5) rfl rfl rfl rfl (of_decide_eq_true rfl) ?_ | refine ix (m := 6) rfl rfl rfl rfl (of_decide_eq_true rfl) ?_ | refine lc rfl rfl (St.obj_set _ _ _) rfl rfl ?_ | refine lc rfl rfl (St.obj_set _ _ _) (by assumption) rfl ?_ | refine lc rfl rfl (by assumption) rfl rfl ?_ | refine lc rfl rfl (by assumption) (by assumption) rfl ?_ | refine inc rfl rfl rfl (by omega) ?_ | refine adn rfl rfl rfl (by omega) ?_ | refine bs1 rfl rfl rfl rfl rfl rfl ?_ | refine bxe rfl rfl rfl rfl ?_ | refine eqn rfl rfl ?_ | refine eqb rfl rfl rfl ?_ | refine neb rfl rfl rfl ?_ | refine eqA rfl rfl rfl rfl rfl ?_ | refine neA rfl rfl rfl rfl rfl ?_ | refine sx rfl rfl rfl rfl (by assumption) ?_ | refine ssl rfl rfl rfl (by omega) ?_ | refine ssh rfl rfl rfl (by omega) ?_)
          refine ap rfl rfl rfl (St.tok_addTok _ _) rfl (by simp only [List.length_cons, List.length_nil, List.length_map]; omega) (by simp only [List.length_cons, List.length_nil, List.length_map, maxLen]; omega) fun tk' htk' => ?_
          have hm : out.map tokRow ++ [(AV.agg (tokRow ⟨0, line, [], 0⟩)).cells] = (out ++ [(⟨0, line, [], 0⟩ : Tk)]).map tokRow := by rw [List.map_append]; rfl
          rw [hm]
          repeat (first | refine nl ?_ | refine AWP.seq ?_ | refine rg ?_ | refine AWP.skip ?_ | refine AWP.block ?_ | refine sm rfl ?_ | refine uw rfl ?_ | refine fa rfl rfl ?_ | refine leW rfl rfl rfl rfl rfl ?_ | refine leW rfl rfl rfl (by assumption) rfl ?_ | refine lcW rfl rfl rfl (St.obj_set _ _ _) rfl rfl ?_ | refine le rfl rfl rfl rfl ?_ | refine le rfl rfl (by assumption) rfl ?_ | refine lnv rfl rfl ?_ | refine lnm rfl rfl ?_ | refine lns rfl rfl ?_ | refine ix rfl rfl rfl rfl (by assumption) ?_ | refine ixm rfl rfl rfl rfl (by assumption) ?_ | refine ix (m := 0) rfl rfl rfl rfl (of_decide_eq_true rfl) ?_ | refine ix (m := 1) rfl rfl rfl rfl (of_decide_eq_true rfl) ?_ | refine ix (m := 2) rfl rfl rfl rfl (of_decide_eq_true rfl) ?_ | refine ix (m := 3) rfl rfl rfl rfl (of_decide_eq_true rfl) ?_ | refine ix (m := 4) rfl rfl rfl rfl (of_decide_eq_true rfl) ?_ | refine ix (m := 5) rfl rfl rfl rfl (of_decide_eq_true rfl) ?_ | refine ix (m := 6) rfl rfl rfl rfl (of_decide_eq_true rfl) ?_ | refine lc rfl rfl (St.obj_set _ _ _) rfl rfl ?_ | refine lc rfl rfl (St.obj_set _ _ _) (by assumption) rfl ?_ | refine lc rfl rfl (by assumption) rfl rfl ?_ | refine lc rfl rfl (by assumption) (by assumption) rfl ?_ | refine inc rfl rfl rfl (by omega) ?_ | refine adn rfl rfl rfl (by omega) ?_ | refine bs1 rfl rfl rfl rfl rfl rfl ?_ | refine bxe rfl rfl rfl rfl ?_ | refine eqn rfl rfl ?_ | refine eqb rfl rfl rfl ?_ | refine neb rfl rfl rfl ?_ | refine eqA rfl rfl rfl rfl rfl ?_ | refine neA rfl rfl rfl rfl rfl ?_ | refine sx rfl rfl rfl rfl (by assumption) ?_ | refine ssl rfl rfl rfl (by omega) ?_ | refine ssh rfl rfl rfl (by omega) ?_)
          refine AWP.ret (rets rfl (Le.tri (.shared _ _ _) (.refl _) (.refl _)) (StLe.new (st := (((st.set om (.smap (wmap words))).addTok tk).untok tk).addTok tk') (show ((((st.set om (.smap (wmap words))).addTok tk).untok tk).addTok tk').obj os = none from (St.obj_set_ne hne).trans hns) (StLe.new (st := ((st.addTok tk).untok tk).addTok tk') hom ((StLe.reTok h6 tk').trans (StLe.addTok _ (.refl _))))) ⟨?_, rfl⟩)
          rw [hstep]
          rfl
end Go.Proofs
