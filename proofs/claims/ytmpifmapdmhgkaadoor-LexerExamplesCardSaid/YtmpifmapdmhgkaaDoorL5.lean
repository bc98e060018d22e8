/- The walk of the scanner's token. No conditions: definitions and lemmas only. -/
import Derived.Test.YtmpifmapdmhgkaaDoorL4
namespace Go.Proofs
open Go.AM

def allSigns : List (List UInt8) := signs2 ++ signs1.map fun c => [c]
def signRow : List AV := allSigns.map .str

theorem find_len (k : Nat) (rest : List UInt8) : ∀ (S : List (List UInt8)), (∀ g ∈ S, g.length = k) → S.find? (fun g => decide (rest.take g.length = g)) = if rest.take k ∈ S then some (rest.take k) else none
  | [], _ => by simp
  | g :: S, h => by
    have hg := h g (by simp)
    have ih := find_len k rest S fun g hg => h g (List.mem_cons_of_mem _ hg)
    rw [List.find?_cons]
    by_cases e : rest.take k = g
    · simp [hg, e]
    · rw [hg, decide_eq_false e, ih]
      simp [List.mem_cons, e]

theorem sign_find (rest : List UInt8) : sign rest = (allSigns.find? fun g => decide (rest.take g.length = g)).getD [] := by
  unfold allSigns
  rw [List.find?_append, find_len 2 rest signs2 (by decide), find_len 1 rest _ (by decide)]
  unfold sign
  by_cases h2 : rest.take 2 ∈ signs2
  · simp [h2]
  · rw [if_neg h2, if_neg h2]
    cases rest with
    | nil => simp
    | cons c r =>
      by_cases h1 : c ∈ signs1
      · have : (c :: r).take 1 ∈ signs1.map fun c => [c] := List.mem_map.2 ⟨c, h1, by simp⟩
        rw [if_pos this]
        simp [h1]
      · have : ¬ (c :: r).take 1 ∈ signs1.map fun c => [c] := by
          simp only [List.mem_map, List.take_succ_cons, List.take_zero, List.cons.injEq, and_true, exists_eq_right]
          exact h1
        rw [if_neg this]
        simp [h1]

theorem sign_at {rest : List UInt8} {i : Nat} {g : List UInt8} (hi : allSigns[i]? = some g) (hno : ∀ j, j < i → ∀ g', allSigns[j]? = some g' → ¬ rest.take g'.length = g') (hg : rest.take g.length = g) : sign rest = g := by
  rw [sign_find]
  have : allSigns.find? (fun g => decide (rest.take g.length = g)) = some g := by
    rw [List.find?_eq_some_iff_getElem]
    refine ⟨by simpa using hg, i, (List.getElem?_eq_some_iff.1 hi).1, (List.getElem?_eq_some_iff.1 hi).2, fun j hj => ?_⟩
    have hjl : j < allSigns.length := by have := (List.getElem?_eq_some_iff.1 hi).1; omega
    simpa using hno j hj _ (List.getElem?_eq_getElem hjl)
  rw [this]
  rfl

theorem sign_none {rest : List UInt8} (hno : ∀ j, j < 24 → ∀ g', allSigns[j]? = some g' → ¬ rest.take g'.length = g') : sign rest = [] := by
  rw [sign_find]
  have : allSigns.find? (fun g => decide (rest.take g.length = g)) = none := by
    rw [List.find?_eq_none]
    intro g hg
    obtain ⟨j, hj, rfl⟩ := List.getElem_of_mem hg
    simpa using hno j hj _ (List.getElem?_eq_getElem hj)
  rw [this]
  rfl

theorem mem_tw {q : UInt8 → Bool} : ∀ {l : List UInt8} {c : UInt8}, c ∈ l.takeWhile q → q c = true
  | [], c, h => by cases h
  | a :: l, c, h => by
    rw [List.takeWhile_cons] at h
    split at h
    · rename_i ha
      rcases List.mem_cons.1 h with rfl | h
      · exact ha
      · exact mem_tw h
    · cases h

def oneV : Except Nat (Tk × Nat) → AV
  | .error e => tkE zTk e
  | .ok (t, _) => tkE t 0
def oneP (pos : Nat) : Except Nat (Tk × Nat) → Nat
  | .error _ => pos
  | .ok (_, m) => pos + m

structure WMap (m : List (List UInt8 × AV)) : Prop where
  look : ∀ nm, slook nm m = if nm ∈ words then some (.bool true) else none

set_option maxHeartbeats 8000000 in
theorem token_ok (s : List UInt8) (hs : s.length ≤ 1000000) (pos line om os : Nat) (hp : pos < s.length) (wm : List (List UInt8 × AV)) (hwm : WMap wm) (st : St) (hom : st.obj om = some (.smap wm)) (hoo : om ≠ os) (hg : st.row 1 = some signRow) :
    ACalls Tryd.prog 23 [.cptr os 4 0 0] (st.set os (.cells 52 4 [scanRow s pos line om]))
      (fun v st' => v = oneV (one (s.drop pos) line) ∧ st' = st.set os (.cells 52 4 [scanRow s (oneP pos (one (s.drop pos) line)) line om])) (fun _ _ => False) := by
  refine ACalls.ofBody Tryd.func23 rfl Tryd.ntmps23 rfl ?_
  have hple : pos ≤ s.length := by omega
  have hd : s.drop pos = s[pos] :: s.drop (pos + 1) := List.drop_eq_getElem_cons hp
  have hdl : (s.drop pos).length = s.length - pos := List.length_drop ..
  repeat (first | refine nl ?_ | refine AWP.seq ?_ | refine AWP.skip ?_ | refine AWP.block ?_)
  refine rg ?_
  refine al rfl rfl fun o2 ho2 => ?_
  have hne := St.new_ne ho2
  have hn2 := St.new_old ho2
  have hos : ∀ (c : AObj) (d : AObj), ((st.set os c).set o2 d).obj os = some c := fun c d => St.obj_under hne c d
  have hosn : ∀ (c : AObj) (d : AObj), ((st.set os c).set o2 d).notok.obj os = some c := fun c d => St.obj_under hne c d
  have homn : ∀ (c : AObj) (d : AObj), ((st.set os c).set o2 d).obj om = some (.smap wm) := fun c d => by
    have h2 : om ≠ o2 := by rintro rfl; rw [hn2] at hom; cases hom
    rw [St.obj_set_ne h2, St.obj_set_ne hoo]
    exact hom
  repeat (first | refine nl ?_ | refine AWP.seq ?_ | refine rg ?_ | refine AWP.skip ?_ | refine AWP.block ?_ | refine sm rfl ?_ | refine uw rfl ?_ | refine fa rfl rfl ?_ | refine leW rfl rfl rfl rfl rfl ?_ | refine leW rfl rfl rfl (by assumption) rfl ?_ | refine lcW rfl rfl rfl (St.obj_set _ _ _) rfl rfl ?_ | refine le rfl rfl rfl rfl ?_ | refine le rfl rfl (by assumption) rfl ?_ | refine lnv rfl rfl ?_ | refine lnm rfl rfl ?_ | refine lns rfl rfl ?_ | refine ix rfl rfl rfl rfl (by assumption) ?_ | refine ixm rfl rfl rfl rfl (by assumption) ?_ | refine lc rfl rfl (St.obj_set _ _ _) rfl rfl ?_ | refine lc rfl rfl (St.obj_set _ _ _) (by assumption) rfl ?_ | refine lc rfl rfl (by assumption) rfl rfl ?_ | refine lc rfl rfl (by assumption) (by assumption) rfl ?_ | refine inc rfl rfl rfl (by omega) ?_ | refine adn rfl rfl rfl (by omega) ?_ | refine bs1 rfl rfl rfl rfl rfl rfl ?_ | refine bxe rfl rfl rfl rfl ?_ | refine eqn rfl rfl ?_ | refine eqb rfl rfl rfl ?_ | refine neb rfl rfl rfl ?_ | refine sx rfl rfl rfl rfl (by assumption) ?_ | refine ssl rfl rfl rfl (by omega) ?_ | refine ssh rfl rfl rfl (by omega) ?_)
  have hosn1 := hosn (.cells 52 4 [scanRow s pos line om]) (.cells 36 4 [tokRow zTk])
  refine AWP.draw rfl 8 8 (fun _ _ => False) rfl ?_
  repeat (first | refine ds rfl rfl ?_ | refine du rfl rfl rfl ?_ | refine dq rfl rfl rfl (fun st1 hle => leW rfl rfl rfl rfl rfl (nl ⟨_, rfl, rfl, rfl⟩)) ?_ | refine dq rfl rfl rfl (fun st1 hle => leW rfl rfl rfl (by assumption) rfl (nl ⟨_, rfl, rfl, rfl⟩)) ?_ | refine dq rfl rfl rfl (fun st1 hle => le rfl rfl rfl rfl (nl ⟨_, rfl, rfl, rfl⟩)) ?_ | refine dq rfl rfl rfl (fun st1 hle => le rfl rfl (by assumption) rfl (nl ⟨_, rfl, rfl, rfl⟩)) ?_ | refine dq rfl rfl rfl (fun st1 hle => fa rfl rfl (nl ⟨_, rfl, rfl, rfl⟩)) ?_ | refine dq rfl rfl rfl (fun st1 hle => lnv rfl rfl (nl ⟨_, rfl, rfl, rfl⟩)) ?_ | refine dq rfl rfl rfl (fun st1 hle => lnm rfl rfl (nl ⟨_, rfl, rfl, rfl⟩)) ?_ | refine dq rfl rfl rfl (fun st1 hle => lns rfl rfl (nl ⟨_, rfl, rfl, rfl⟩)) ?_ | refine dq rfl rfl rfl (fun st1 hle => ix rfl rfl rfl rfl (by assumption) (nl ⟨_, rfl, rfl, rfl⟩)) ?_ | refine dq rfl rfl rfl (fun st1 hle => ixm rfl rfl rfl rfl (by assumption) (nl ⟨_, rfl, rfl, rfl⟩)) ?_ | refine dq rfl rfl rfl (fun st1 hle => lc rfl rfl (hle.obj _ _ (by assumption)) rfl rfl (nl ⟨_, rfl, rfl, rfl⟩)) ?_ | refine dq rfl rfl rfl (fun st1 hle => lc rfl rfl (hle.obj _ _ (by assumption)) (by assumption) rfl (nl ⟨_, rfl, rfl, rfl⟩)) ?_ | refine dq rfl rfl rfl (fun st1 hle => lc rfl rfl (hle.obj _ _ (St.obj_set _ _ _)) rfl rfl (nl ⟨_, rfl, rfl, rfl⟩)) ?_ | refine dq rfl rfl rfl (fun st1 hle => bs1 rfl rfl rfl rfl rfl rfl (nl ⟨_, rfl, rfl, rfl⟩)) ?_ | refine dq rfl rfl rfl (fun st1 hle => sx rfl rfl rfl rfl (by assumption) (nl ⟨_, rfl, rfl, rfl⟩)) ?_ | refine dq rfl rfl rfl (fun st1 hle => ssl rfl rfl rfl (by omega) (nl ⟨_, rfl, rfl, rfl⟩)) ?_ | refine dq rfl rfl rfl (fun st1 hle => ssh rfl rfl rfl (by omega) (nl ⟨_, rfl, rfl, rfl⟩)) ?_ | refine dq rfl rfl rfl (fun st1 hle => adn rfl rfl rfl (by omega) (nl ⟨_, rfl, rfl, rfl⟩)) ?_ | refine dq rfl rfl rfl (fun st1 hle => inc rfl rfl rfl (by omega) (nl ⟨_, rfl, rfl, rfl⟩)) ?_)
  refine dn ⟨fun _ => ?_, fun h => absurd h (by decide)⟩
  repeat (first | refine nl ?_ | refine AWP.seq ?_ | refine rg ?_ | refine AWP.skip ?_ | refine AWP.block ?_ | refine sm rfl ?_ | refine uw rfl ?_ | refine fa rfl rfl ?_ | refine leW rfl rfl rfl rfl rfl ?_ | refine leW rfl rfl rfl (by assumption) rfl ?_ | refine lcW rfl rfl rfl (St.obj_set _ _ _) rfl rfl ?_ | refine le rfl rfl rfl rfl ?_ | refine le rfl rfl (by assumption) rfl ?_ | refine lnv rfl rfl ?_ | refine lnm rfl rfl ?_ | refine lns rfl rfl ?_ | refine ix rfl rfl rfl rfl (by assumption) ?_ | refine ixm rfl rfl rfl rfl (by assumption) ?_ | refine lc rfl rfl (St.obj_set _ _ _) rfl rfl ?_ | refine lc rfl rfl (St.obj_set _ _ _) (by assumption) rfl ?_ | refine lc rfl rfl (by assumption) rfl rfl ?_ | refine lc rfl rfl (by assumption) (by assumption) rfl ?_ | refine inc rfl rfl rfl (by omega) ?_ | refine adn rfl rfl rfl (by omega) ?_ | refine bs1 rfl rfl rfl rfl rfl rfl ?_ | refine bxe rfl rfl rfl rfl ?_ | refine eqn rfl rfl ?_ | refine eqb rfl rfl rfl ?_ | refine neb rfl rfl rfl ?_ | refine sx rfl rfl rfl rfl (by assumption) ?_ | refine ssl rfl rfl rfl (by omega) ?_ | refine ssh rfl rfl rfl (by omega) ?_)
  refine cle rfl rfl (prefix_ok (s.drop pos) 34 digA digA_const _ isDigit_ok) ?_
  repeat (first | refine nl ?_ | refine AWP.seq ?_ | refine rg ?_ | refine AWP.skip ?_ | refine AWP.block ?_ | refine sm rfl ?_ | refine uw rfl ?_ | refine fa rfl rfl ?_ | refine leW rfl rfl rfl rfl rfl ?_ | refine leW rfl rfl rfl (by assumption) rfl ?_ | refine lcW rfl rfl rfl (St.obj_set _ _ _) rfl rfl ?_ | refine le rfl rfl rfl rfl ?_ | refine le rfl rfl (by assumption) rfl ?_ | refine lnv rfl rfl ?_ | refine lnm rfl rfl ?_ | refine lns rfl rfl ?_ | refine ix rfl rfl rfl rfl (by assumption) ?_ | refine ixm rfl rfl rfl rfl (by assumption) ?_ | refine lc rfl rfl (St.obj_set _ _ _) rfl rfl ?_ | refine lc rfl rfl (St.obj_set _ _ _) (by assumption) rfl ?_ | refine lc rfl rfl (by assumption) rfl rfl ?_ | refine lc rfl rfl (by assumption) (by assumption) rfl ?_ | refine inc rfl rfl rfl (by omega) ?_ | refine adn rfl rfl rfl (by omega) ?_ | refine bs1 rfl rfl rfl rfl rfl rfl ?_ | refine bxe rfl rfl rfl rfl ?_ | refine eqn rfl rfl ?_ | refine eqb rfl rfl rfl ?_ | refine neb rfl rfl rfl ?_ | refine sx rfl rfl rfl rfl (by assumption) ?_ | refine ssl rfl rfl rfl (by omega) ?_ | refine ssh rfl rfl rfl (by omega) ?_)
  have hdt := tw_pos isDig (s.drop pos)
  have hnt := tw_pos isNP (s.drop pos)
  have hdle := (List.takeWhile_prefix isDig (l := s.drop pos)).length_le
  have hnle := (List.takeWhile_prefix isNP (l := s.drop pos)).length_le
  rw [hdl] at hdle hnle
  have hone : one (s.drop pos) line = bif isLet s[pos] then (let nm := (s.drop pos).takeWhile isNP; if 12 < nm.length then .error 5 else .ok (⟨if nm ∈ words then 3 else 1, line, nm, 0⟩, nm.length))
    else bif isDig s[pos] then (let ds := (s.drop pos).takeWhile isDig; if 18 < ds.length then .error 5 else if (((s.drop pos).drop ds.length).head?.map isNP).getD false = true then .error 6 else .ok (⟨2, line, [], digits ds⟩, ds.length))
    else if sign (s.drop pos) = [] then .error 6 else .ok (⟨4, line, sign (s.drop pos), 0⟩, (sign (s.drop pos)).length) := by
    rw [hd]
    rfl
  have hhead : (s.drop pos).head? = some s[pos] := by rw [hd]; rfl
  rw [hhead] at hdt hnt
  simp only [Option.map_some, Option.getD_some] at hdt hnt
  generalize s[pos] = c at hone hdt hnt
  refine AWP.cond_dec rfl (fun h => ?_) (fun h => AWP.skip ?_)
  · have hcd : isDig c = true := hdt.1 (Int.ofNat_lt.1 h)
    have hcl : isLet c = false := by
      cases hl : isLet c with
      | false => rfl
      | true => simp [isLet, isDig] at hl hcd; omega
    rw [hcl, cond_false, hcd, cond_true] at hone
    have htk : (s.drop pos).take ((s.drop pos).takeWhile isDig).length = (s.drop pos).takeWhile isDig := (List.prefix_iff_eq_take.1 (List.takeWhile_prefix isDig)).symm
    have hres : one (s.drop pos) line = (match numR (s.drop pos) ((s.drop pos).takeWhile isDig).length line with | .error e => .error e | .ok t => .ok (t, ((s.drop pos).takeWhile isDig).length)) := by
      rw [hone, numR, htk]
      simp only
      split
      · rfl
      · split <;> rfl
    repeat (first | refine nl ?_ | refine AWP.seq ?_ | refine rg ?_ | refine AWP.skip ?_ | refine AWP.block ?_ | refine sm rfl ?_ | refine uw rfl ?_ | refine fa rfl rfl ?_ | refine leW rfl rfl rfl rfl rfl ?_ | refine leW rfl rfl rfl (by assumption) rfl ?_ | refine lcW rfl rfl rfl (St.obj_set _ _ _) rfl rfl ?_ | refine le rfl rfl rfl rfl ?_ | refine le rfl rfl (by assumption) rfl ?_ | refine lnv rfl rfl ?_ | refine lnm rfl rfl ?_ | refine lns rfl rfl ?_ | refine ix rfl rfl rfl rfl (by assumption) ?_ | refine ixm rfl rfl rfl rfl (by assumption) ?_ | refine lc rfl rfl (St.obj_set _ _ _) rfl rfl ?_ | refine lc rfl rfl (St.obj_set _ _ _) (by assumption) rfl ?_ | refine lc rfl rfl (by assumption) rfl rfl ?_ | refine lc rfl rfl (by assumption) (by assumption) rfl ?_ | refine inc rfl rfl rfl (by omega) ?_ | refine adn rfl rfl rfl (by omega) ?_ | refine bs1 rfl rfl rfl rfl rfl rfl ?_ | refine bxe rfl rfl rfl rfl ?_ | refine eqn rfl rfl ?_ | refine eqb rfl rfl rfl ?_ | refine neb rfl rfl rfl ?_ | refine sx rfl rfl rfl rfl (by assumption) ?_ | refine ssl rfl rfl rfl (by omega) ?_ | refine ssh rfl rfl rfl (by omega) ?_)
    rw [St.set_comm st (Ne.symm hne)]
    refine cl rfl rfl (number_ok s (s.drop pos) hs ((s.drop pos).takeWhile isDig).length pos line om os (by omega) (by omega) (by
      rw [htk]
      intro c hc
      exact mem_tw hc) _) fun v st' ⟨hv, hst⟩ => ?_
    subst hv
    subst hst
    rw [St.set_comm st hne]
    have hn2' : ∀ c : AObj, (st.set os c).obj o2 = none := fun c => by rw [St.obj_set_ne hne]; exact hn2
    cases hnr : numR (s.drop pos) ((s.drop pos).takeWhile isDig).length line with
    | error e =>
      rw [hnr] at hres
      rw [hres]
      refine AOps.weaken (T' := [(26, exV (.error e)), (2, .cptr o2 4 0 0)]) (tl2 rfl rfl) (.refl _) ?_
      repeat (first | refine sm rfl ?_ | refine uw rfl ?_ | refine fa rfl rfl ?_ | refine leW rfl rfl rfl rfl rfl ?_ | refine leW rfl rfl rfl (by assumption) rfl ?_ | refine lcW rfl rfl rfl (St.obj_set _ _ _) rfl rfl ?_ | refine le rfl rfl rfl rfl ?_ | refine le rfl rfl (by assumption) rfl ?_ | refine lnv rfl rfl ?_ | refine lnm rfl rfl ?_ | refine lns rfl rfl ?_ | refine ix rfl rfl rfl rfl (by assumption) ?_ | refine ixm rfl rfl rfl rfl (by assumption) ?_ | refine lc rfl rfl (St.obj_set _ _ _) rfl rfl ?_ | refine lc rfl rfl (St.obj_set _ _ _) (by assumption) rfl ?_ | refine lc rfl rfl (by assumption) rfl rfl ?_ | refine lc rfl rfl (by assumption) (by assumption) rfl ?_ | refine inc rfl rfl rfl (by omega) ?_ | refine adn rfl rfl rfl (by omega) ?_ | refine bs1 rfl rfl rfl rfl rfl rfl ?_ | refine bxe rfl rfl rfl rfl ?_ | refine eqn rfl rfl ?_ | refine eqb rfl rfl rfl ?_ | refine neb rfl rfl rfl ?_ | refine sx rfl rfl rfl rfl (by assumption) ?_ | refine ssl rfl rfl rfl (by omega) ?_ | refine ssh rfl rfl rfl (by omega) ?_)
      refine soV rfl rfl rfl rfl rfl rfl ?_
      repeat (first | refine nl ?_ | refine AWP.seq ?_ | refine rg ?_ | refine AWP.skip ?_ | refine AWP.block ?_ | refine sm rfl ?_ | refine uw rfl ?_ | refine fa rfl rfl ?_ | refine leW rfl rfl rfl rfl rfl ?_ | refine leW rfl rfl rfl (by assumption) rfl ?_ | refine lcW rfl rfl rfl (St.obj_set _ _ _) rfl rfl ?_ | refine le rfl rfl rfl rfl ?_ | refine le rfl rfl (by assumption) rfl ?_ | refine lnv rfl rfl ?_ | refine lnm rfl rfl ?_ | refine lns rfl rfl ?_ | refine ix rfl rfl rfl rfl (by assumption) ?_ | refine ixm rfl rfl rfl rfl (by assumption) ?_ | refine lc rfl rfl (St.obj_set _ _ _) rfl rfl ?_ | refine lc rfl rfl (St.obj_set _ _ _) (by assumption) rfl ?_ | refine lc rfl rfl (by assumption) rfl rfl ?_ | refine lc rfl rfl (by assumption) (by assumption) rfl ?_ | refine inc rfl rfl rfl (by omega) ?_ | refine adn rfl rfl rfl (by omega) ?_ | refine bs1 rfl rfl rfl rfl rfl rfl ?_ | refine bxe rfl rfl rfl rfl ?_ | refine eqn rfl rfl ?_ | refine eqb rfl rfl rfl ?_ | refine neb rfl rfl rfl ?_ | refine sx rfl rfl rfl rfl (by assumption) ?_ | refine ssl rfl rfl rfl (by omega) ?_ | refine ssh rfl rfl rfl (by omega) ?_)
      exact AWP.ret (rets (resCW rfl (St.obj_set _ _ _) rfl rfl rfl rfl) (.refl _) (StLe.new (hn2' _) (.refl _)) ⟨rfl, rfl⟩)
    | ok t =>
      rw [hnr] at hres
      rw [hres]
      refine AOps.weaken (T' := [(26, exV (.ok t)), (2, .cptr o2 4 0 0)]) (tl2 rfl rfl) (.refl _) ?_
      repeat (first | refine sm rfl ?_ | refine uw rfl ?_ | refine fa rfl rfl ?_ | refine leW rfl rfl rfl rfl rfl ?_ | refine leW rfl rfl rfl (by assumption) rfl ?_ | refine lcW rfl rfl rfl (St.obj_set _ _ _) rfl rfl ?_ | refine le rfl rfl rfl rfl ?_ | refine le rfl rfl (by assumption) rfl ?_ | refine lnv rfl rfl ?_ | refine lnm rfl rfl ?_ | refine lns rfl rfl ?_ | refine ix rfl rfl rfl rfl (by assumption) ?_ | refine ixm rfl rfl rfl rfl (by assumption) ?_ | refine lc rfl rfl (St.obj_set _ _ _) rfl rfl ?_ | refine lc rfl rfl (St.obj_set _ _ _) (by assumption) rfl ?_ | refine lc rfl rfl (by assumption) rfl rfl ?_ | refine lc rfl rfl (by assumption) (by assumption) rfl ?_ | refine inc rfl rfl rfl (by omega) ?_ | refine adn rfl rfl rfl (by omega) ?_ | refine bs1 rfl rfl rfl rfl rfl rfl ?_ | refine bxe rfl rfl rfl rfl ?_ | refine eqn rfl rfl ?_ | refine eqb rfl rfl rfl ?_ | refine neb rfl rfl rfl ?_ | refine sx rfl rfl rfl rfl (by assumption) ?_ | refine ssl rfl rfl rfl (by omega) ?_ | refine ssh rfl rfl rfl (by omega) ?_)
      refine soV rfl rfl rfl rfl rfl rfl ?_
      repeat (first | refine nl ?_ | refine AWP.seq ?_ | refine rg ?_ | refine AWP.skip ?_ | refine AWP.block ?_ | refine sm rfl ?_ | refine uw rfl ?_ | refine fa rfl rfl ?_ | refine leW rfl rfl rfl rfl rfl ?_ | refine leW rfl rfl rfl (by assumption) rfl ?_ | refine lcW rfl rfl rfl (St.obj_set _ _ _) rfl rfl ?_ | refine le rfl rfl rfl rfl ?_ | refine le rfl rfl (by assumption) rfl ?_ | refine lnv rfl rfl ?_ | refine lnm rfl rfl ?_ | refine lns rfl rfl ?_ | refine ix rfl rfl rfl rfl (by assumption) ?_ | refine ixm rfl rfl rfl rfl (by assumption) ?_ | refine lc rfl rfl (St.obj_set _ _ _) rfl rfl ?_ | refine lc rfl rfl (St.obj_set _ _ _) (by assumption) rfl ?_ | refine lc rfl rfl (by assumption) rfl rfl ?_ | refine lc rfl rfl (by assumption) (by assumption) rfl ?_ | refine inc rfl rfl rfl (by omega) ?_ | refine adn rfl rfl rfl (by omega) ?_ | refine bs1 rfl rfl rfl rfl rfl rfl ?_ | refine bxe rfl rfl rfl rfl ?_ | refine eqn rfl rfl ?_ | refine eqb rfl rfl rfl ?_ | refine neb rfl rfl rfl ?_ | refine sx rfl rfl rfl rfl (by assumption) ?_ | refine ssl rfl rfl rfl (by omega) ?_ | refine ssh rfl rfl rfl (by omega) ?_)
      exact AWP.ret (rets (resCW rfl (St.obj_set _ _ _) rfl rfl rfl rfl) (.refl _) (StLe.new (hn2' _) (.refl _)) ⟨rfl, rfl⟩)
  · have hcd : isDig c = false := by
      cases hl : isDig c with
      | false => rfl
      | true => exact absurd (Int.ofNat_lt.2 (hdt.2 hl)) h
    have hn2' : ∀ c : AObj, (st.set os c).obj o2 = none := fun c => by rw [St.obj_set_ne hne]; exact hn2
    refine AWP.weaken (tl4 (i0 := 4) (i1 := 3) (i2 := 2) (i3 := 0) rfl rfl rfl rfl) (.refl _) ?_
    repeat (first | refine nl ?_ | refine AWP.seq ?_ | refine rg ?_ | refine AWP.skip ?_ | refine AWP.block ?_ | refine sm rfl ?_ | refine uw rfl ?_ | refine fa rfl rfl ?_ | refine leW rfl rfl rfl rfl rfl ?_ | refine leW rfl rfl rfl (by assumption) rfl ?_ | refine lcW rfl rfl rfl (St.obj_set _ _ _) rfl rfl ?_ | refine le rfl rfl rfl rfl ?_ | refine le rfl rfl (by assumption) rfl ?_ | refine lnv rfl rfl ?_ | refine lnm rfl rfl ?_ | refine lns rfl rfl ?_ | refine ix rfl rfl rfl rfl (by assumption) ?_ | refine ixm rfl rfl rfl rfl (by assumption) ?_ | refine lc rfl rfl (St.obj_set _ _ _) rfl rfl ?_ | refine lc rfl rfl (St.obj_set _ _ _) (by assumption) rfl ?_ | refine lc rfl rfl (by assumption) rfl rfl ?_ | refine lc rfl rfl (by assumption) (by assumption) rfl ?_ | refine inc rfl rfl rfl (by omega) ?_ | refine adn rfl rfl rfl (by omega) ?_ | refine bs1 rfl rfl rfl rfl rfl rfl ?_ | refine bxe rfl rfl rfl rfl ?_ | refine eqn rfl rfl ?_ | refine eqb rfl rfl rfl ?_ | refine neb rfl rfl rfl ?_ | refine sx rfl rfl rfl rfl (by assumption) ?_ | refine ssl rfl rfl rfl (by omega) ?_ | refine ssh rfl rfl rfl (by omega) ?_)
    refine cle rfl rfl (prefix_ok (s.drop pos) 36 npA npA_const _ isNamePart_ok) ?_
    repeat (first | refine nl ?_ | refine AWP.seq ?_ | refine rg ?_ | refine AWP.skip ?_ | refine AWP.block ?_ | refine sm rfl ?_ | refine uw rfl ?_ | refine fa rfl rfl ?_ | refine leW rfl rfl rfl rfl rfl ?_ | refine leW rfl rfl rfl (by assumption) rfl ?_ | refine lcW rfl rfl rfl (St.obj_set _ _ _) rfl rfl ?_ | refine le rfl rfl rfl rfl ?_ | refine le rfl rfl (by assumption) rfl ?_ | refine lnv rfl rfl ?_ | refine lnm rfl rfl ?_ | refine lns rfl rfl ?_ | refine ix rfl rfl rfl rfl (by assumption) ?_ | refine ixm rfl rfl rfl rfl (by assumption) ?_ | refine lc rfl rfl (St.obj_set _ _ _) rfl rfl ?_ | refine lc rfl rfl (St.obj_set _ _ _) (by assumption) rfl ?_ | refine lc rfl rfl (by assumption) rfl rfl ?_ | refine lc rfl rfl (by assumption) (by assumption) rfl ?_ | refine inc rfl rfl rfl (by omega) ?_ | refine adn rfl rfl rfl (by omega) ?_ | refine bs1 rfl rfl rfl rfl rfl rfl ?_ | refine bxe rfl rfl rfl rfl ?_ | refine eqn rfl rfl ?_ | refine eqb rfl rfl rfl ?_ | refine neb rfl rfl rfl ?_ | refine sx rfl rfl rfl rfl (by assumption) ?_ | refine ssl rfl rfl rfl (by omega) ?_ | refine ssh rfl rfl rfl (by omega) ?_)
    refine AWP.cond_dec rfl (fun h => ?_) (fun h => AWP.skip ?_)
    · have hcl : isLet c = true := by
        have h1 : isNP c = true := hnt.1 (Int.ofNat_lt.1 h)
        simpa [isNP, hcd] using h1
      rw [hcl, cond_true] at hone
      have htk : (s.drop pos).take ((s.drop pos).takeWhile isNP).length = (s.drop pos).takeWhile isNP := (List.prefix_iff_eq_take.1 (List.takeWhile_prefix isNP)).symm
      change _ = (((s.drop pos).takeWhile fun c => npA c.toNat)) at htk
      have hnpe : ((s.drop pos).takeWhile fun c => npA c.toNat) = (s.drop pos).takeWhile isNP := rfl
      rw [hnpe] at htk ⊢
      generalize (s.drop pos).takeWhile isNP = nm at hone htk hnle
      simp only at hone
      refine AWP.weaken (tl5 (i0 := 6) (i1 := 4) (i2 := 3) (i3 := 2) (i4 := 0) rfl rfl rfl rfl rfl) (.refl _) ?_
      repeat (first | refine nl ?_ | refine AWP.seq ?_ | refine rg ?_ | refine AWP.skip ?_ | refine AWP.block ?_ | refine sm rfl ?_ | refine uw rfl ?_ | refine fa rfl rfl ?_ | refine leW rfl rfl rfl rfl rfl ?_ | refine leW rfl rfl rfl (by assumption) rfl ?_ | refine lcW rfl rfl rfl (St.obj_set _ _ _) rfl rfl ?_ | refine le rfl rfl rfl rfl ?_ | refine le rfl rfl (by assumption) rfl ?_ | refine lnv rfl rfl ?_ | refine lnm rfl rfl ?_ | refine lns rfl rfl ?_ | refine ix rfl rfl rfl rfl (by assumption) ?_ | refine ixm rfl rfl rfl rfl (by assumption) ?_ | refine lc rfl rfl (St.obj_set _ _ _) rfl rfl ?_ | refine lc rfl rfl (St.obj_set _ _ _) (by assumption) rfl ?_ | refine lc rfl rfl (by assumption) rfl rfl ?_ | refine lc rfl rfl (by assumption) (by assumption) rfl ?_ | refine inc rfl rfl rfl (by omega) ?_ | refine adn rfl rfl rfl (by omega) ?_ | refine bs1 rfl rfl rfl rfl rfl rfl ?_ | refine bxe rfl rfl rfl rfl ?_ | refine eqn rfl rfl ?_ | refine eqb rfl rfl rfl ?_ | refine neb rfl rfl rfl ?_ | refine sx rfl rfl rfl rfl (by assumption) ?_ | refine ssl rfl rfl rfl (by omega) ?_ | refine ssh rfl rfl rfl (by omega) ?_)
      refine AWP.cond_dec rfl (fun h2 => ?_) (fun h2 => AWP.skip ?_)
      · have h2' : 12 < nm.length := by have : (12 : Int) < (nm.length : Int) := h2; omega
        rw [if_pos h2'] at hone
        rw [hone]
        repeat (first | refine nl ?_ | refine AWP.seq ?_ | refine AWP.skip ?_ | refine AWP.block ?_)
        refine rg ?_
        refine bds (cs := tokRow zTk) rfl rfl rfl rfl ?_
        refine soV rfl rfl rfl rfl rfl rfl ?_
        repeat (first | refine nl ?_ | refine AWP.seq ?_ | refine rg ?_ | refine AWP.skip ?_ | refine AWP.block ?_ | refine sm rfl ?_ | refine uw rfl ?_ | refine fa rfl rfl ?_ | refine leW rfl rfl rfl rfl rfl ?_ | refine leW rfl rfl rfl (by assumption) rfl ?_ | refine lcW rfl rfl rfl (St.obj_set _ _ _) rfl rfl ?_ | refine le rfl rfl rfl rfl ?_ | refine le rfl rfl (by assumption) rfl ?_ | refine lnv rfl rfl ?_ | refine lnm rfl rfl ?_ | refine lns rfl rfl ?_ | refine ix rfl rfl rfl rfl (by assumption) ?_ | refine ixm rfl rfl rfl rfl (by assumption) ?_ | refine lc rfl rfl (St.obj_set _ _ _) rfl rfl ?_ | refine lc rfl rfl (St.obj_set _ _ _) (by assumption) rfl ?_ | refine lc rfl rfl (by assumption) rfl rfl ?_ | refine lc rfl rfl (by assumption) (by assumption) rfl ?_ | refine inc rfl rfl rfl (by omega) ?_ | refine adn rfl rfl rfl (by omega) ?_ | refine bs1 rfl rfl rfl rfl rfl rfl ?_ | refine bxe rfl rfl rfl rfl ?_ | refine eqn rfl rfl ?_ | refine eqb rfl rfl rfl ?_ | refine neb rfl rfl rfl ?_ | refine sx rfl rfl rfl rfl (by assumption) ?_ | refine ssl rfl rfl rfl (by omega) ?_ | refine ssh rfl rfl rfl (by omega) ?_)
        exact AWP.ret (rets (resCW rfl (St.obj_set _ _ _) rfl rfl rfl rfl) (.refl _) (StLe.new ho2 (.refl _)) ⟨rfl, rfl⟩)
      · have h2' : ¬ 12 < nm.length := by have : ¬ (12 : Int) < (nm.length : Int) := h2; omega
        rw [if_neg h2'] at hone
        rw [hone]
        have hos1 := hos (.cells 52 4 [scanRow s pos line om]) (.cells 36 4 [tokRow zTk])
        repeat (first | refine nl ?_ | refine AWP.seq ?_ | refine rg ?_ | refine AWP.skip ?_ | refine AWP.block ?_ | refine sm rfl ?_ | refine uw rfl ?_ | refine fa rfl rfl ?_ | refine leW rfl rfl rfl rfl rfl ?_ | refine leW rfl rfl rfl (by assumption) rfl ?_ | refine lcW rfl rfl rfl (St.obj_set _ _ _) rfl rfl ?_ | refine le rfl rfl rfl rfl ?_ | refine le rfl rfl (by assumption) rfl ?_ | refine lnv rfl rfl ?_ | refine lnm rfl rfl ?_ | refine lns rfl rfl ?_ | refine ix rfl rfl rfl rfl (by assumption) ?_ | refine ixm rfl rfl rfl rfl (by assumption) ?_ | refine lc rfl rfl (St.obj_set _ _ _) rfl rfl ?_ | refine lc rfl rfl (St.obj_set _ _ _) (by assumption) rfl ?_ | refine lc rfl rfl (by assumption) rfl rfl ?_ | refine lc rfl rfl (by assumption) (by assumption) rfl ?_ | refine inc rfl rfl rfl (by omega) ?_ | refine adn rfl rfl rfl (by omega) ?_ | refine bs1 rfl rfl rfl rfl rfl rfl ?_ | refine bxe rfl rfl rfl rfl ?_ | refine eqn rfl rfl ?_ | refine eqb rfl rfl rfl ?_ | refine neb rfl rfl rfl ?_ | refine sx rfl rfl rfl rfl (by assumption) ?_ | refine ssl rfl rfl rfl (by omega) ?_ | refine ssh rfl rfl rfl (by omega) ?_)
        refine so (rows' := [scanRow s (pos + nm.length) line om]) rfl rfl rfl (hos _ _) rfl rfl rfl rfl rfl ?_
        rw [St.set_inner hne]
        repeat (first | refine nl ?_ | refine AWP.seq ?_ | refine rg ?_ | refine AWP.skip ?_ | refine AWP.block ?_ | refine sm rfl ?_ | refine uw rfl ?_ | refine fa rfl rfl ?_ | refine leW rfl rfl rfl rfl rfl ?_ | refine leW rfl rfl rfl (by assumption) rfl ?_ | refine lcW rfl rfl rfl (St.obj_set _ _ _) rfl rfl ?_ | refine le rfl rfl rfl rfl ?_ | refine le rfl rfl (by assumption) rfl ?_ | refine lnv rfl rfl ?_ | refine lnm rfl rfl ?_ | refine lns rfl rfl ?_ | refine ix rfl rfl rfl rfl (by assumption) ?_ | refine ixm rfl rfl rfl rfl (by assumption) ?_ | refine lc rfl rfl (St.obj_set _ _ _) rfl rfl ?_ | refine lc rfl rfl (St.obj_set _ _ _) (by assumption) rfl ?_ | refine lc rfl rfl (by assumption) rfl rfl ?_ | refine lc rfl rfl (by assumption) (by assumption) rfl ?_ | refine inc rfl rfl rfl (by omega) ?_ | refine adn rfl rfl rfl (by omega) ?_ | refine bs1 rfl rfl rfl rfl rfl rfl ?_ | refine bxe rfl rfl rfl rfl ?_ | refine eqn rfl rfl ?_ | refine eqb rfl rfl rfl ?_ | refine neb rfl rfl rfl ?_ | refine sx rfl rfl rfl rfl (by assumption) ?_ | refine ssl rfl rfl rfl (by omega) ?_ | refine ssh rfl rfl rfl (by omega) ?_)
        have hosn2 := hosn (.cells 52 4 [scanRow s (pos + nm.length) line om]) (.cells 36 4 [tokRow zTk])
        refine AWP.weaken (tl5 (i0 := 7) (i1 := 6) (i2 := 4) (i3 := 2) (i4 := 0) rfl rfl rfl rfl rfl) (.refl _) ?_
        repeat (first | refine nl ?_ | refine AWP.seq ?_ | refine AWP.skip ?_ | refine AWP.block ?_)
        refine AWP.draw rfl 7 7 (fun _ _ => False) rfl ?_
        repeat (first | refine ds rfl rfl ?_ | refine du rfl rfl rfl ?_ | refine dq rfl rfl rfl (fun st1 hle => leW rfl rfl rfl rfl rfl (nl ⟨_, rfl, rfl, rfl⟩)) ?_ | refine dq rfl rfl rfl (fun st1 hle => leW rfl rfl rfl (by assumption) rfl (nl ⟨_, rfl, rfl, rfl⟩)) ?_ | refine dq rfl rfl rfl (fun st1 hle => le rfl rfl rfl rfl (nl ⟨_, rfl, rfl, rfl⟩)) ?_ | refine dq rfl rfl rfl (fun st1 hle => le rfl rfl (by assumption) rfl (nl ⟨_, rfl, rfl, rfl⟩)) ?_ | refine dq rfl rfl rfl (fun st1 hle => fa rfl rfl (nl ⟨_, rfl, rfl, rfl⟩)) ?_ | refine dq rfl rfl rfl (fun st1 hle => lnv rfl rfl (nl ⟨_, rfl, rfl, rfl⟩)) ?_ | refine dq rfl rfl rfl (fun st1 hle => lnm rfl rfl (nl ⟨_, rfl, rfl, rfl⟩)) ?_ | refine dq rfl rfl rfl (fun st1 hle => lns rfl rfl (nl ⟨_, rfl, rfl, rfl⟩)) ?_ | refine dq rfl rfl rfl (fun st1 hle => ix rfl rfl rfl rfl (by assumption) (nl ⟨_, rfl, rfl, rfl⟩)) ?_ | refine dq rfl rfl rfl (fun st1 hle => ixm rfl rfl rfl rfl (by assumption) (nl ⟨_, rfl, rfl, rfl⟩)) ?_ | refine dq rfl rfl rfl (fun st1 hle => lc rfl rfl (hle.obj _ _ (by assumption)) rfl rfl (nl ⟨_, rfl, rfl, rfl⟩)) ?_ | refine dq rfl rfl rfl (fun st1 hle => lc rfl rfl (hle.obj _ _ (by assumption)) (by assumption) rfl (nl ⟨_, rfl, rfl, rfl⟩)) ?_ | refine dq rfl rfl rfl (fun st1 hle => lc rfl rfl (hle.obj _ _ (St.obj_set _ _ _)) rfl rfl (nl ⟨_, rfl, rfl, rfl⟩)) ?_ | refine dq rfl rfl rfl (fun st1 hle => bs1 rfl rfl rfl rfl rfl rfl (nl ⟨_, rfl, rfl, rfl⟩)) ?_ | refine dq rfl rfl rfl (fun st1 hle => sx rfl rfl rfl rfl (by assumption) (nl ⟨_, rfl, rfl, rfl⟩)) ?_ | refine dq rfl rfl rfl (fun st1 hle => ssl rfl rfl rfl (by omega) (nl ⟨_, rfl, rfl, rfl⟩)) ?_ | refine dq rfl rfl rfl (fun st1 hle => ssh rfl rfl rfl (by omega) (nl ⟨_, rfl, rfl, rfl⟩)) ?_ | refine dq rfl rfl rfl (fun st1 hle => adn rfl rfl rfl (by omega) (nl ⟨_, rfl, rfl, rfl⟩)) ?_ | refine dq rfl rfl rfl (fun st1 hle => inc rfl rfl rfl (by omega) (nl ⟨_, rfl, rfl, rfl⟩)) ?_)
        refine dn ⟨fun _ => ?_, fun h => absurd h (by decide)⟩
        refine lku rfl rfl rfl (homn _ _) ?_
        rw [htk, hwm.look]
        have hval : ((if nm ∈ words then some (AV.bool true) else none).getD (absV (.bool false))) = .bool (decide (nm ∈ words)) := by
          by_cases hw : nm ∈ words <;> simp [hw, absV, abs1]
        rw [hval]
        repeat (first | refine nl ?_ | refine AWP.seq ?_ | refine rg ?_ | refine AWP.skip ?_ | refine AWP.block ?_ | refine sm rfl ?_ | refine uw rfl ?_ | refine fa rfl rfl ?_ | refine leW rfl rfl rfl rfl rfl ?_ | refine leW rfl rfl rfl (by assumption) rfl ?_ | refine lcW rfl rfl rfl (St.obj_set _ _ _) rfl rfl ?_ | refine le rfl rfl rfl rfl ?_ | refine le rfl rfl (by assumption) rfl ?_ | refine lnv rfl rfl ?_ | refine lnm rfl rfl ?_ | refine lns rfl rfl ?_ | refine ix rfl rfl rfl rfl (by assumption) ?_ | refine ixm rfl rfl rfl rfl (by assumption) ?_ | refine lc rfl rfl (St.obj_set _ _ _) rfl rfl ?_ | refine lc rfl rfl (St.obj_set _ _ _) (by assumption) rfl ?_ | refine lc rfl rfl (by assumption) rfl rfl ?_ | refine lc rfl rfl (by assumption) (by assumption) rfl ?_ | refine inc rfl rfl rfl (by omega) ?_ | refine adn rfl rfl rfl (by omega) ?_ | refine bs1 rfl rfl rfl rfl rfl rfl ?_ | refine bxe rfl rfl rfl rfl ?_ | refine eqn rfl rfl ?_ | refine eqb rfl rfl rfl ?_ | refine neb rfl rfl rfl ?_ | refine sx rfl rfl rfl rfl (by assumption) ?_ | refine ssl rfl rfl rfl (by omega) ?_ | refine ssh rfl rfl rfl (by omega) ?_)
        refine midk [(7, .int .i64 ((if nm ∈ words then 3 else 1 : Nat) : Int)), (6, .int .i64 (nm.length : Int)), (4, .str (s.drop pos)), (2, .cptr o2 4 0 0), (0, .cptr os 4 0 0)] ((st.set os (.cells 52 4 [scanRow s (pos + nm.length) line om])).set o2 (.cells 36 4 [tokRow zTk])) ?_ ?_
        · refine AWP.cond_dec rfl (fun hw => ?_) (fun hw => AWP.skip ?_)
          · rw [if_pos hw]
            repeat (first | refine nl ?_ | refine AWP.seq ?_ | refine rg ?_ | refine AWP.skip ?_ | refine AWP.block ?_ | refine sm rfl ?_ | refine uw rfl ?_ | refine fa rfl rfl ?_ | refine leW rfl rfl rfl rfl rfl ?_ | refine leW rfl rfl rfl (by assumption) rfl ?_ | refine lcW rfl rfl rfl (St.obj_set _ _ _) rfl rfl ?_ | refine le rfl rfl rfl rfl ?_ | refine le rfl rfl (by assumption) rfl ?_ | refine lnv rfl rfl ?_ | refine lnm rfl rfl ?_ | refine lns rfl rfl ?_ | refine ix rfl rfl rfl rfl (by assumption) ?_ | refine ixm rfl rfl rfl rfl (by assumption) ?_ | refine lc rfl rfl (St.obj_set _ _ _) rfl rfl ?_ | refine lc rfl rfl (St.obj_set _ _ _) (by assumption) rfl ?_ | refine lc rfl rfl (by assumption) rfl rfl ?_ | refine lc rfl rfl (by assumption) (by assumption) rfl ?_ | refine inc rfl rfl rfl (by omega) ?_ | refine adn rfl rfl rfl (by omega) ?_ | refine bs1 rfl rfl rfl rfl rfl rfl ?_ | refine bxe rfl rfl rfl rfl ?_ | refine eqn rfl rfl ?_ | refine eqb rfl rfl rfl ?_ | refine neb rfl rfl rfl ?_ | refine sx rfl rfl rfl rfl (by assumption) ?_ | refine ssl rfl rfl rfl (by omega) ?_ | refine ssh rfl rfl rfl (by omega) ?_)
            exact ⟨(tl5 rfl rfl rfl rfl rfl), .refl _⟩
          · rw [if_neg hw]
            exact ⟨(tl5 rfl rfl rfl rfl rfl), .refl _⟩
        · repeat (first | refine nl ?_ | refine AWP.seq ?_ | refine AWP.skip ?_ | refine AWP.block ?_)
          refine AWP.draw rfl 8 8 (fun _ _ => False) rfl ?_
          repeat (first | refine ds rfl rfl ?_ | refine du rfl rfl rfl ?_ | refine dq rfl rfl rfl (fun st1 hle => leW rfl rfl rfl rfl rfl (nl ⟨_, rfl, rfl, rfl⟩)) ?_ | refine dq rfl rfl rfl (fun st1 hle => leW rfl rfl rfl (by assumption) rfl (nl ⟨_, rfl, rfl, rfl⟩)) ?_ | refine dq rfl rfl rfl (fun st1 hle => le rfl rfl rfl rfl (nl ⟨_, rfl, rfl, rfl⟩)) ?_ | refine dq rfl rfl rfl (fun st1 hle => le rfl rfl (by assumption) rfl (nl ⟨_, rfl, rfl, rfl⟩)) ?_ | refine dq rfl rfl rfl (fun st1 hle => fa rfl rfl (nl ⟨_, rfl, rfl, rfl⟩)) ?_ | refine dq rfl rfl rfl (fun st1 hle => lnv rfl rfl (nl ⟨_, rfl, rfl, rfl⟩)) ?_ | refine dq rfl rfl rfl (fun st1 hle => lnm rfl rfl (nl ⟨_, rfl, rfl, rfl⟩)) ?_ | refine dq rfl rfl rfl (fun st1 hle => lns rfl rfl (nl ⟨_, rfl, rfl, rfl⟩)) ?_ | refine dq rfl rfl rfl (fun st1 hle => ix rfl rfl rfl rfl (by assumption) (nl ⟨_, rfl, rfl, rfl⟩)) ?_ | refine dq rfl rfl rfl (fun st1 hle => ixm rfl rfl rfl rfl (by assumption) (nl ⟨_, rfl, rfl, rfl⟩)) ?_ | refine dq rfl rfl rfl (fun st1 hle => lc rfl rfl (hle.obj _ _ (by assumption)) rfl rfl (nl ⟨_, rfl, rfl, rfl⟩)) ?_ | refine dq rfl rfl rfl (fun st1 hle => lc rfl rfl (hle.obj _ _ (by assumption)) (by assumption) rfl (nl ⟨_, rfl, rfl, rfl⟩)) ?_ | refine dq rfl rfl rfl (fun st1 hle => lc rfl rfl (hle.obj _ _ (St.obj_set _ _ _)) rfl rfl (nl ⟨_, rfl, rfl, rfl⟩)) ?_ | refine dq rfl rfl rfl (fun st1 hle => bs1 rfl rfl rfl rfl rfl rfl (nl ⟨_, rfl, rfl, rfl⟩)) ?_ | refine dq rfl rfl rfl (fun st1 hle => sx rfl rfl rfl rfl (by assumption) (nl ⟨_, rfl, rfl, rfl⟩)) ?_ | refine dq rfl rfl rfl (fun st1 hle => ssl rfl rfl rfl (by omega) (nl ⟨_, rfl, rfl, rfl⟩)) ?_ | refine dq rfl rfl rfl (fun st1 hle => ssh rfl rfl rfl (by omega) (nl ⟨_, rfl, rfl, rfl⟩)) ?_ | refine dq rfl rfl rfl (fun st1 hle => adn rfl rfl rfl (by omega) (nl ⟨_, rfl, rfl, rfl⟩)) ?_ | refine dq rfl rfl rfl (fun st1 hle => inc rfl rfl rfl (by omega) (nl ⟨_, rfl, rfl, rfl⟩)) ?_)
          refine dn ⟨fun _ => ?_, fun h => absurd h (by decide)⟩
          rw [htk]
          refine bds (cs := tokRow ⟨if nm ∈ words then 3 else 1, line, nm, 0⟩) rfl rfl rfl rfl ?_
          refine soV rfl rfl rfl rfl rfl rfl ?_
          repeat (first | refine nl ?_ | refine AWP.seq ?_ | refine rg ?_ | refine AWP.skip ?_ | refine AWP.block ?_ | refine sm rfl ?_ | refine uw rfl ?_ | refine fa rfl rfl ?_ | refine leW rfl rfl rfl rfl rfl ?_ | refine leW rfl rfl rfl (by assumption) rfl ?_ | refine lcW rfl rfl rfl (St.obj_set _ _ _) rfl rfl ?_ | refine le rfl rfl rfl rfl ?_ | refine le rfl rfl (by assumption) rfl ?_ | refine lnv rfl rfl ?_ | refine lnm rfl rfl ?_ | refine lns rfl rfl ?_ | refine ix rfl rfl rfl rfl (by assumption) ?_ | refine ixm rfl rfl rfl rfl (by assumption) ?_ | refine lc rfl rfl (St.obj_set _ _ _) rfl rfl ?_ | refine lc rfl rfl (St.obj_set _ _ _) (by assumption) rfl ?_ | refine lc rfl rfl (by assumption) rfl rfl ?_ | refine lc rfl rfl (by assumption) (by assumption) rfl ?_ | refine inc rfl rfl rfl (by omega) ?_ | refine adn rfl rfl rfl (by omega) ?_ | refine bs1 rfl rfl rfl rfl rfl rfl ?_ | refine bxe rfl rfl rfl rfl ?_ | refine eqn rfl rfl ?_ | refine eqb rfl rfl rfl ?_ | refine neb rfl rfl rfl ?_ | refine sx rfl rfl rfl rfl (by assumption) ?_ | refine ssl rfl rfl rfl (by omega) ?_ | refine ssh rfl rfl rfl (by omega) ?_)
          exact AWP.ret (rets (resCW rfl (St.obj_set _ _ _) rfl rfl rfl rfl) (.refl _) (StLe.new (hn2' _) (.refl _)) ⟨rfl, rfl⟩)
    · have hcn : isNP c = false := by
        cases hl : isNP c with
        | false => rfl
        | true => exact absurd (Int.ofNat_lt.2 (hnt.2 hl)) h
      have hcl : isLet c = false := by
        simp only [isNP, Bool.or_eq_false_iff] at hcn
        exact hcn.1
      rw [hcl, cond_false, hcd, cond_false] at hone
      refine AWP.weaken (tl3 (i0 := 4) (i1 := 2) (i2 := 0) rfl rfl rfl) (.refl _) ?_
      repeat (first | refine nl ?_ | refine AWP.seq ?_ | refine AWP.skip ?_ | refine AWP.block ?_)
      refine rg ?_
      refine leW (row := signRow) (rows := [signRow]) (i := 0) (s := 24) rfl rfl (congrArg (Option.map fun row : List AV => AV.eptr row.length [row] 0 0) hg) rfl rfl ?_
      repeat (first | refine nl ?_ | refine AWP.seq ?_ | refine rg ?_ | refine AWP.skip ?_ | refine AWP.block ?_ | refine sm rfl ?_ | refine uw rfl ?_ | refine fa rfl rfl ?_ | refine leW rfl rfl rfl rfl rfl ?_ | refine leW rfl rfl rfl (by assumption) rfl ?_ | refine lcW rfl rfl rfl (St.obj_set _ _ _) rfl rfl ?_ | refine le rfl rfl rfl rfl ?_ | refine le rfl rfl (by assumption) rfl ?_ | refine lnv rfl rfl ?_ | refine lnm rfl rfl ?_ | refine lns rfl rfl ?_ | refine ix rfl rfl rfl rfl (by assumption) ?_ | refine ixm rfl rfl rfl rfl (by assumption) ?_ | refine lc rfl rfl (St.obj_set _ _ _) rfl rfl ?_ | refine lc rfl rfl (St.obj_set _ _ _) (by assumption) rfl ?_ | refine lc rfl rfl (by assumption) rfl rfl ?_ | refine lc rfl rfl (by assumption) (by assumption) rfl ?_ | refine inc rfl rfl rfl (by omega) ?_ | refine adn rfl rfl rfl (by omega) ?_ | refine bs1 rfl rfl rfl rfl rfl rfl ?_ | refine bxe rfl rfl rfl rfl ?_ | refine eqn rfl rfl ?_ | refine eqb rfl rfl rfl ?_ | refine neb rfl rfl rfl ?_ | refine sx rfl rfl rfl rfl (by assumption) ?_ | refine ssl rfl rfl rfl (by omega) ?_ | refine ssh rfl rfl rfl (by omega) ?_)
      refine AWP.loop (α := Nat) (fun i => [(62, .int .i64 (i : Int)), (61, .agg signRow), (4, .str (s.drop pos)), (2, .cptr o2 4 0 0), (0, .cptr os 4 0 0)]) (fun _ => (st.set os (.cells 52 4 [scanRow s pos line om])).set o2 (.cells 36 4 [tokRow zTk]))
        (fun i => i ≤ 24 ∧ ∀ j, j < i → ∀ g', allSigns[j]? = some g' → ¬ (s.drop pos).take g'.length = g') (fun i => 24 - i) 0 ⟨Nat.zero_le _, fun j hj => by omega⟩ (tl5 rfl rfl rfl rfl rfl) (.refl _) ?_
      rintro i ⟨hi, hno⟩
      repeat (first | refine nl ?_ | refine AWP.seq ?_ | refine rg ?_ | refine AWP.skip ?_ | refine AWP.block ?_ | refine sm rfl ?_ | refine uw rfl ?_ | refine fa rfl rfl ?_ | refine leW rfl rfl rfl rfl rfl ?_ | refine leW rfl rfl rfl (by assumption) rfl ?_ | refine lcW rfl rfl rfl (St.obj_set _ _ _) rfl rfl ?_ | refine le rfl rfl rfl rfl ?_ | refine le rfl rfl (by assumption) rfl ?_ | refine lnv rfl rfl ?_ | refine lnm rfl rfl ?_ | refine lns rfl rfl ?_ | refine ix rfl rfl rfl rfl (by assumption) ?_ | refine ixm rfl rfl rfl rfl (by assumption) ?_ | refine lc rfl rfl (St.obj_set _ _ _) rfl rfl ?_ | refine lc rfl rfl (St.obj_set _ _ _) (by assumption) rfl ?_ | refine lc rfl rfl (by assumption) rfl rfl ?_ | refine lc rfl rfl (by assumption) (by assumption) rfl ?_ | refine inc rfl rfl rfl (by omega) ?_ | refine adn rfl rfl rfl (by omega) ?_ | refine bs1 rfl rfl rfl rfl rfl rfl ?_ | refine bxe rfl rfl rfl rfl ?_ | refine eqn rfl rfl ?_ | refine eqb rfl rfl rfl ?_ | refine neb rfl rfl rfl ?_ | refine sx rfl rfl rfl rfl (by assumption) ?_ | refine ssl rfl rfl rfl (by omega) ?_ | refine ssh rfl rfl rfl (by omega) ?_)
      refine AWP.cond_dec rfl (fun h => AWP.skip ?_) (fun h => AWP.exit (blk_hit ?_))
      · have hi' : i < 24 := by have : (i : Int) < 24 := h; omega
        have hil : i < allSigns.length := hi'
        have hgi : allSigns[i]? = some allSigns[i] := List.getElem?_eq_getElem hil
        have hlen : allSigns[i].length ≤ 2 ∧ allSigns[i] ≠ [] := (show ∀ g ∈ allSigns, g.length ≤ 2 ∧ g ≠ [] by decide) _ (List.getElem_mem hil)
        have hrow : signRow[i * 1]? = some (.str allSigns[i]) := by simp [signRow, hil]
        generalize allSigns[i] = sg at hgi hlen hrow
        refine AWP.weaken (tl5 (i0 := 62) (i1 := 61) (i2 := 4) (i3 := 2) (i4 := 0) rfl rfl rfl rfl rfl) (.refl _) ?_
        repeat (first | refine nl ?_ | refine AWP.seq ?_ | refine AWP.skip ?_ | refine AWP.block ?_)
        refine rg ?_
        refine ixg rfl rfl rfl rfl rfl hi' hrow ?_
        repeat (first | refine nl ?_ | refine AWP.seq ?_ | refine rg ?_ | refine AWP.skip ?_ | refine AWP.block ?_ | refine sm rfl ?_ | refine uw rfl ?_ | refine fa rfl rfl ?_ | refine leW rfl rfl rfl rfl rfl ?_ | refine leW rfl rfl rfl (by assumption) rfl ?_ | refine lcW rfl rfl rfl (St.obj_set _ _ _) rfl rfl ?_ | refine le rfl rfl rfl rfl ?_ | refine le rfl rfl (by assumption) rfl ?_ | refine lnv rfl rfl ?_ | refine lnm rfl rfl ?_ | refine lns rfl rfl ?_ | refine ix rfl rfl rfl rfl (by assumption) ?_ | refine ixm rfl rfl rfl rfl (by assumption) ?_ | refine lc rfl rfl (St.obj_set _ _ _) rfl rfl ?_ | refine lc rfl rfl (St.obj_set _ _ _) (by assumption) rfl ?_ | refine lc rfl rfl (by assumption) rfl rfl ?_ | refine lc rfl rfl (by assumption) (by assumption) rfl ?_ | refine inc rfl rfl rfl (by omega) ?_ | refine adn rfl rfl rfl (by omega) ?_ | refine bs1 rfl rfl rfl rfl rfl rfl ?_ | refine bxe rfl rfl rfl rfl ?_ | refine eqn rfl rfl ?_ | refine eqb rfl rfl rfl ?_ | refine neb rfl rfl rfl ?_ | refine sx rfl rfl rfl rfl (by assumption) ?_ | refine ssl rfl rfl rfl (by omega) ?_ | refine ssh rfl rfl rfl (by omega) ?_)
        refine cle rfl rfl (hasPrefix_ok (s.drop pos) sg _) ?_
        repeat (first | refine nl ?_ | refine AWP.seq ?_ | refine rg ?_ | refine AWP.skip ?_ | refine AWP.block ?_ | refine sm rfl ?_ | refine uw rfl ?_ | refine fa rfl rfl ?_ | refine leW rfl rfl rfl rfl rfl ?_ | refine leW rfl rfl rfl (by assumption) rfl ?_ | refine lcW rfl rfl rfl (St.obj_set _ _ _) rfl rfl ?_ | refine le rfl rfl rfl rfl ?_ | refine le rfl rfl (by assumption) rfl ?_ | refine lnv rfl rfl ?_ | refine lnm rfl rfl ?_ | refine lns rfl rfl ?_ | refine ix rfl rfl rfl rfl (by assumption) ?_ | refine ixm rfl rfl rfl rfl (by assumption) ?_ | refine lc rfl rfl (St.obj_set _ _ _) rfl rfl ?_ | refine lc rfl rfl (St.obj_set _ _ _) (by assumption) rfl ?_ | refine lc rfl rfl (by assumption) rfl rfl ?_ | refine lc rfl rfl (by assumption) (by assumption) rfl ?_ | refine inc rfl rfl rfl (by omega) ?_ | refine adn rfl rfl rfl (by omega) ?_ | refine bs1 rfl rfl rfl rfl rfl rfl ?_ | refine bxe rfl rfl rfl rfl ?_ | refine eqn rfl rfl ?_ | refine eqb rfl rfl rfl ?_ | refine neb rfl rfl rfl ?_ | refine sx rfl rfl rfl rfl (by assumption) ?_ | refine ssl rfl rfl rfl (by omega) ?_ | refine ssh rfl rfl rfl (by omega) ?_)
        refine AWP.cond_dec rfl (fun hm => ?_) (fun hm => AWP.skip ?_)
        · have hsg := sign_at hgi hno hm
          rw [hsg, if_neg hlen.2] at hone
          rw [hone]
          have hle : sg.length ≤ s.length - pos := by
            have := congrArg List.length hm
            rw [List.length_take, hdl] at this
            omega
          have hos1 := hos (.cells 52 4 [scanRow s pos line om]) (.cells 36 4 [tokRow zTk])
          repeat (first | refine nl ?_ | refine AWP.seq ?_ | refine rg ?_ | refine AWP.skip ?_ | refine AWP.block ?_ | refine sm rfl ?_ | refine uw rfl ?_ | refine fa rfl rfl ?_ | refine leW rfl rfl rfl rfl rfl ?_ | refine leW rfl rfl rfl (by assumption) rfl ?_ | refine lcW rfl rfl rfl (St.obj_set _ _ _) rfl rfl ?_ | refine le rfl rfl rfl rfl ?_ | refine le rfl rfl (by assumption) rfl ?_ | refine lnv rfl rfl ?_ | refine lnm rfl rfl ?_ | refine lns rfl rfl ?_ | refine ix rfl rfl rfl rfl (by assumption) ?_ | refine ixm rfl rfl rfl rfl (by assumption) ?_ | refine lc rfl rfl (St.obj_set _ _ _) rfl rfl ?_ | refine lc rfl rfl (St.obj_set _ _ _) (by assumption) rfl ?_ | refine lc rfl rfl (by assumption) rfl rfl ?_ | refine lc rfl rfl (by assumption) (by assumption) rfl ?_ | refine inc rfl rfl rfl (by omega) ?_ | refine adn rfl rfl rfl (by omega) ?_ | refine bs1 rfl rfl rfl rfl rfl rfl ?_ | refine bxe rfl rfl rfl rfl ?_ | refine eqn rfl rfl ?_ | refine eqb rfl rfl rfl ?_ | refine neb rfl rfl rfl ?_ | refine sx rfl rfl rfl rfl (by assumption) ?_ | refine ssl rfl rfl rfl (by omega) ?_ | refine ssh rfl rfl rfl (by omega) ?_)
          refine so (rows' := [scanRow s (pos + sg.length) line om]) rfl rfl rfl (hos _ _) rfl rfl rfl rfl rfl ?_
          rw [St.set_inner hne]
          have hos2 := hos (.cells 52 4 [scanRow s (pos + sg.length) line om]) (.cells 36 4 [tokRow zTk])
          repeat (first | refine nl ?_ | refine AWP.seq ?_ | refine rg ?_ | refine AWP.skip ?_ | refine AWP.block ?_ | refine sm rfl ?_ | refine uw rfl ?_ | refine fa rfl rfl ?_ | refine leW rfl rfl rfl rfl rfl ?_ | refine leW rfl rfl rfl (by assumption) rfl ?_ | refine lcW rfl rfl rfl (St.obj_set _ _ _) rfl rfl ?_ | refine le rfl rfl rfl rfl ?_ | refine le rfl rfl (by assumption) rfl ?_ | refine lnv rfl rfl ?_ | refine lnm rfl rfl ?_ | refine lns rfl rfl ?_ | refine ix rfl rfl rfl rfl (by assumption) ?_ | refine ixm rfl rfl rfl rfl (by assumption) ?_ | refine lc rfl rfl (St.obj_set _ _ _) rfl rfl ?_ | refine lc rfl rfl (St.obj_set _ _ _) (by assumption) rfl ?_ | refine lc rfl rfl (by assumption) rfl rfl ?_ | refine lc rfl rfl (by assumption) (by assumption) rfl ?_ | refine inc rfl rfl rfl (by omega) ?_ | refine adn rfl rfl rfl (by omega) ?_ | refine bs1 rfl rfl rfl rfl rfl rfl ?_ | refine bxe rfl rfl rfl rfl ?_ | refine eqn rfl rfl ?_ | refine eqb rfl rfl rfl ?_ | refine neb rfl rfl rfl ?_ | refine sx rfl rfl rfl rfl (by assumption) ?_ | refine ssl rfl rfl rfl (by omega) ?_ | refine ssh rfl rfl rfl (by omega) ?_)
          refine bds (cs := tokRow ⟨4, line, sg, 0⟩) rfl rfl rfl rfl ?_
          refine soV rfl rfl rfl rfl rfl rfl ?_
          repeat (first | refine nl ?_ | refine AWP.seq ?_ | refine rg ?_ | refine AWP.skip ?_ | refine AWP.block ?_ | refine sm rfl ?_ | refine uw rfl ?_ | refine fa rfl rfl ?_ | refine leW rfl rfl rfl rfl rfl ?_ | refine leW rfl rfl rfl (by assumption) rfl ?_ | refine lcW rfl rfl rfl (St.obj_set _ _ _) rfl rfl ?_ | refine le rfl rfl rfl rfl ?_ | refine le rfl rfl (by assumption) rfl ?_ | refine lnv rfl rfl ?_ | refine lnm rfl rfl ?_ | refine lns rfl rfl ?_ | refine ix rfl rfl rfl rfl (by assumption) ?_ | refine ixm rfl rfl rfl rfl (by assumption) ?_ | refine lc rfl rfl (St.obj_set _ _ _) rfl rfl ?_ | refine lc rfl rfl (St.obj_set _ _ _) (by assumption) rfl ?_ | refine lc rfl rfl (by assumption) rfl rfl ?_ | refine lc rfl rfl (by assumption) (by assumption) rfl ?_ | refine inc rfl rfl rfl (by omega) ?_ | refine adn rfl rfl rfl (by omega) ?_ | refine bs1 rfl rfl rfl rfl rfl rfl ?_ | refine bxe rfl rfl rfl rfl ?_ | refine eqn rfl rfl ?_ | refine eqb rfl rfl rfl ?_ | refine neb rfl rfl rfl ?_ | refine sx rfl rfl rfl rfl (by assumption) ?_ | refine ssl rfl rfl rfl (by omega) ?_ | refine ssh rfl rfl rfl (by omega) ?_)
          exact AWP.ret (rets (resCW rfl (St.obj_set _ _ _) rfl rfl rfl rfl) (.refl _) (StLe.new (hn2' _) (.refl _)) ⟨rfl, rfl⟩)
        · repeat (first | refine nl ?_ | refine AWP.seq ?_ | refine rg ?_ | refine AWP.skip ?_ | refine AWP.block ?_ | refine sm rfl ?_ | refine uw rfl ?_ | refine fa rfl rfl ?_ | refine leW rfl rfl rfl rfl rfl ?_ | refine leW rfl rfl rfl (by assumption) rfl ?_ | refine lcW rfl rfl rfl (St.obj_set _ _ _) rfl rfl ?_ | refine le rfl rfl rfl rfl ?_ | refine le rfl rfl (by assumption) rfl ?_ | refine lnv rfl rfl ?_ | refine lnm rfl rfl ?_ | refine lns rfl rfl ?_ | refine ix rfl rfl rfl rfl (by assumption) ?_ | refine ixm rfl rfl rfl rfl (by assumption) ?_ | refine lc rfl rfl (St.obj_set _ _ _) rfl rfl ?_ | refine lc rfl rfl (St.obj_set _ _ _) (by assumption) rfl ?_ | refine lc rfl rfl (by assumption) rfl rfl ?_ | refine lc rfl rfl (by assumption) (by assumption) rfl ?_ | refine inc rfl rfl rfl (by omega) ?_ | refine adn rfl rfl rfl (by omega) ?_ | refine bs1 rfl rfl rfl rfl rfl rfl ?_ | refine bxe rfl rfl rfl rfl ?_ | refine eqn rfl rfl ?_ | refine eqb rfl rfl rfl ?_ | refine neb rfl rfl rfl ?_ | refine sx rfl rfl rfl rfl (by assumption) ?_ | refine ssl rfl rfl rfl (by omega) ?_ | refine ssh rfl rfl rfl (by omega) ?_)
          refine ⟨i + 1, ⟨hi', fun j hj g' hg' => ?_⟩, by omega, (tl5 rfl rfl rfl rfl rfl), .refl _⟩
          rcases Nat.lt_or_ge j i with h1 | h1
          · exact hno j h1 g' hg'
          · have : j = i := by omega
            subst this
            rw [hgi] at hg'
            cases hg'
            exact hm
      · have hi' : i = 24 := by have : ¬ (i : Int) < 24 := h; omega
        subst hi'
        rw [sign_none hno, if_pos rfl] at hone
        rw [hone]
        repeat (first | refine nl ?_ | refine AWP.seq ?_ | refine AWP.skip ?_ | refine AWP.block ?_)
        refine rg ?_
        refine bds (cs := tokRow zTk) rfl rfl rfl rfl ?_
        refine soV rfl rfl rfl rfl rfl rfl ?_
        repeat (first | refine nl ?_ | refine AWP.seq ?_ | refine rg ?_ | refine AWP.skip ?_ | refine AWP.block ?_ | refine sm rfl ?_ | refine uw rfl ?_ | refine fa rfl rfl ?_ | refine leW rfl rfl rfl rfl rfl ?_ | refine leW rfl rfl rfl (by assumption) rfl ?_ | refine lcW rfl rfl rfl (St.obj_set _ _ _) rfl rfl ?_ | refine le rfl rfl rfl rfl ?_ | refine le rfl rfl (by assumption) rfl ?_ | refine lnv rfl rfl ?_ | refine lnm rfl rfl ?_ | refine lns rfl rfl ?_ | refine ix rfl rfl rfl rfl (by assumption) ?_ | refine ixm rfl rfl rfl rfl (by assumption) ?_ | refine lc rfl rfl (St.obj_set _ _ _) rfl rfl ?_ | refine lc rfl rfl (St.obj_set _ _ _) (by assumption) rfl ?_ | refine lc rfl rfl (by assumption) rfl rfl ?_ | refine lc rfl rfl (by assumption) (by assumption) rfl ?_ | refine inc rfl rfl rfl (by omega) ?_ | refine adn rfl rfl rfl (by omega) ?_ | refine bs1 rfl rfl rfl rfl rfl rfl ?_ | refine bxe rfl rfl rfl rfl ?_ | refine eqn rfl rfl ?_ | refine eqb rfl rfl rfl ?_ | refine neb rfl rfl rfl ?_ | refine sx rfl rfl rfl rfl (by assumption) ?_ | refine ssl rfl rfl rfl (by omega) ?_ | refine ssh rfl rfl rfl (by omega) ?_)
        exact AWP.ret (rets (resCW rfl (St.obj_set _ _ _) rfl rfl rfl rfl) (.refl _) (StLe.new ho2 (.refl _)) ⟨rfl, rfl⟩)
end Go.Proofs
