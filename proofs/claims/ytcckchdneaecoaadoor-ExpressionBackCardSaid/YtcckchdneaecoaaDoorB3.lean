/- The walk of the scanner's number. No conditions: definitions and lemmas only. -/
import Derived.Lib.LaidTab
import Derived.Sort.Grow
import Derived.Test.YtcckchdneaecoaaDoorB2
namespace Go.Proofs
open Go.AM

def zTk : Tk := ⟨0, 0, [], 0⟩
def tkE (t : Tk) (e : Nat) : AV := .tuple [.agg (tokRow t), .int .i64 (e : Int)]

theorem digits_snoc (l : List UInt8) (c : UInt8) : digits (l ++ [c]) = digits l * 10 + (c.toNat - 48) := by simp [digits]

theorem digits_lt : ∀ (n : Nat) (l : List UInt8), l.length = n → (∀ c ∈ l, isDig c = true) → digits l < 10 ^ n
  | 0, l, h, _ => by
    have : l = [] := List.eq_nil_of_length_eq_zero h
    subst this
    simp [digits]
  | n + 1, l, h, hd => by
    obtain ⟨l', c, rfl⟩ : ∃ l' c, l = l' ++ [c] := ⟨l.dropLast, l.getLast (by rintro rfl; simp at h), (List.dropLast_concat_getLast _).symm⟩
    have ih := digits_lt n l' (by simpa using h) fun c hc => hd c (by simp [hc])
    have hc := hd c (by simp)
    simp only [isDig, Bool.and_eq_true, decide_eq_true_eq] at hc
    rw [digits_snoc, Nat.pow_succ]
    omega

theorem wrap32 {a : Int} (h : -2147483648 ≤ a ∧ a < 2147483648) : IntKind.i32.wrap a = a := by
  simp only [IntKind.wrap, IntKind.bits, IntKind.signed]
  simp
  split <;> omega

theorem npA_const : ∀ r, 128 ≤ r → npA r = npA 128 := by
  intro r hr
  have h1 : ¬ r ≤ 122 := by omega
  have h2 : ¬ r ≤ 90 := by omega
  have h3 : ¬ r = 95 := by omega
  have h4 : ¬ r ≤ 57 := by omega
  simp [npA, letA, digA, h1, h2, h3, h4]
theorem digA_const : ∀ r, 128 ≤ r → digA r = digA 128 := by
  intro r hr
  have h4 : ¬ r ≤ 57 := by omega
  simp [digA, h4]

theorem tw_pos (q : UInt8 → Bool) (l : List UInt8) : 0 < (l.takeWhile q).length ↔ (l.head?.map q).getD false = true := by
  cases l with
  | nil => simp
  | cons c l =>
    cases h : q c <;> simp [h]

/-- What number answers, and where it goes on. -/
def numR (rest : List UInt8) (n line : Nat) : Except Nat Tk := if 18 < n then .error 5 else if ((rest.drop n).head?.map isNP).getD false = true then .error 6 else .ok ⟨2, line, [], digits (rest.take n)⟩

def exV : Except Nat Tk → AV
  | .error e => tkE zTk e
  | .ok t => tkE t 0
def exP {α : Type} (pos n : Nat) : Except Nat α → Nat
  | .error _ => pos
  | .ok _ => pos + n

set_option maxHeartbeats 4000000 in
theorem number_ok (s rest : List UInt8) (hs : s.length ≤ 1000000) (n pos line om os : Nat) (hn : n ≤ rest.length) (hp : pos + n ≤ s.length) (hd : ∀ c ∈ rest.take n, isDig c = true) (st : St) :
    ACalls Tryd.prog 47 [.cptr os 4 0 0, .str rest, .int .i64 (n : Int)] (st.set os (.cells 62 4 [scanRow s pos line om]))
      (fun v st' => v = exV (numR rest n line) ∧ st' = st.set os (.cells 62 4 [scanRow s (exP pos n (numR rest n line)) line om])) (fun _ _ => False) := by
  refine ACalls.ofBody Tryd.func47 rfl Tryd.ntmps47 rfl ?_
  repeat (refine AWP.seq ?_)
  refine rg ?_
  refine al rfl rfl fun o6 ho6 => ?_
  have hne : o6 ≠ os := by rintro rfl; rw [St.obj_set] at ho6; cases ho6
  have hn6 : st.obj o6 = none := by rwa [St.obj_set_ne hne] at ho6
  have hos : ∀ (c : AObj) (d : AObj), ((st.set os c).set o6 d).obj os = some c := fun c d => (St.obj_set_ne (fun e => hne e.symm)).trans (St.obj_set _ _ _)
  repeat (first | refine nl ?_ | refine AWP.seq ?_ | refine rg ?_ | refine sm rfl ?_)
  refine AWP.cond_dec rfl (fun h => ?_) (fun h => AWP.skip ?_)
  · have h' : 18 < n := by have : (18 : Int) < (n : Int) := h; omega
    have e : numR rest n line = .error 5 := by rw [numR, if_pos h']
    repeat (refine AWP.seq ?_)
    refine rg ?_
    refine bds (cs := tokRow zTk) rfl rfl rfl rfl ?_
    refine soV rfl rfl rfl rfl rfl rfl ?_
    repeat (first | refine nl ?_ | refine sm rfl ?_)
    refine AWP.ret (rets (resCW rfl (St.obj_set _ _ _) rfl rfl rfl rfl) (.refl _) (StLe.new ho6 (.refl _)) ⟨?_, ?_⟩)
    · rw [e]; rfl
    · rw [e]; rfl
  · have h' : n ≤ 18 := by have : ¬ (18 : Int) < (n : Int) := h; omega
    repeat (first | refine AWP.seq ?_ | refine rg ?_ | refine sm rfl ?_ | refine ssl rfl rfl rfl (by omega) ?_)
    refine cle rfl rfl (prefix_ok (rest.drop n) 48 npA npA_const _ isNamePart_ok) ?_
    repeat (first | refine nl ?_ | refine sm rfl ?_)
    refine AWP.cond_dec rfl (fun h2 => ?_) (fun h2 => AWP.skip ?_)
    · have h2' : ((rest.drop n).head?.map isNP).getD false = true := (tw_pos isNP _).1 (Int.ofNat_lt.1 h2)
      have e : numR rest n line = .error 6 := by rw [numR, if_neg (by omega), if_pos h2']
      repeat (refine AWP.seq ?_)
      refine rg ?_
      refine bds (cs := tokRow zTk) rfl rfl rfl rfl ?_
      refine soV rfl rfl rfl rfl rfl rfl ?_
      repeat (first | refine nl ?_ | refine sm rfl ?_)
      refine AWP.ret (rets (resCW rfl (St.obj_set _ _ _) rfl rfl rfl rfl) (.refl _) (StLe.new ho6 (.refl _)) ⟨?_, ?_⟩)
      · rw [e]; rfl
      · rw [e]; rfl
    · have h2' : ¬ ((rest.drop n).head?.map isNP).getD false = true := fun e => h2 (Int.ofNat_lt.2 ((tw_pos isNP _).2 e))
      have e : numR rest n line = .ok ⟨2, line, [], digits (rest.take n)⟩ := by rw [numR, if_neg (by omega), if_neg h2']
      rw [e]
      refine AWP.weaken (tl4 (i0 := 0) (i1 := 1) (i2 := 2) (i3 := 6) rfl rfl rfl rfl) (.refl _) ?_
      repeat (refine AWP.seq ?_)
      refine rg ?_
      refine sm rfl ?_
      refine sm rfl ?_
      refine fa rfl rfl ?_
      refine lc rfl rfl (hos _ _) rfl rfl ?_
      repeat (first | refine sm rfl ?_ | refine fa rfl rfl ?_ | refine adn rfl rfl rfl (by omega) ?_)
      refine so (rows' := [scanRow s (pos + n) line om]) rfl rfl rfl (hos _ _) rfl rfl rfl rfl rfl ?_
      rw [St.set_inner hne]
      repeat (first | refine nl ?_ | refine AWP.seq ?_ | refine rg ?_ | refine sm rfl ?_ | refine ssh rfl rfl rfl (by omega) ?_)
      refine rgs rfl rfl fun oi hoi => ?_
      repeat (first | refine nl ?_ | refine AWP.block ?_)
      have hds : (rest.take n).length = n := by rw [List.length_take]; omega
      have hneo := St.new_ne hoi
      refine AWP.loop (α := Nat) (fun j => [(31, .iter oi), (8, .int .i64 ((digits ((rest.take n).take j) : Nat) : Int)), (0, .cptr os 4 0 0), (6, .cptr o6 4 0 0)])
        (fun j => ((st.set os (.cells 62 4 [scanRow s (pos + n) line om])).set o6 (.cells 51 4 [tokRow zTk])).set oi (.iter (rest.take n) j)) (fun j => j ≤ n) (fun j => n - j) 0 (Nat.zero_le _) (tl4 rfl rfl rfl rfl) (.refl _) ?_
      intro j hj
      repeat (refine AWP.seq ?_)
      refine rg ?_
      rcases Nat.lt_or_ge j n with hlt | hge
      · have hc : (rest.take n)[j]? = some (rest.take n)[j] := List.getElem?_eq_getElem (by omega)
        have hdc := hd _ (List.getElem_mem (show j < (rest.take n).length by omega))
        have hsn : digits ((rest.take n).take (j + 1)) = digits ((rest.take n).take j) * 10 + ((rest.take n)[j].toNat - 48) := by
          rw [List.take_add_one, hc, Option.toList_some, digits_snoc]
        have hb : digits ((rest.take n).take j) < 10 ^ j := digits_lt j _ (by rw [List.length_take, hds]; omega) fun c hc => hd c (List.mem_of_mem_take hc)
        have hb2 : 10 ^ j ≤ 10 ^ 17 := Nat.pow_le_pow_right (by omega) (by omega)
        generalize (rest.take n)[j] = c at hc hdc hsn
        simp only [isDig, Bool.and_eq_true, decide_eq_true_eq] at hdc
        refine nxu rfl rfl (St.obj_set _ _ _) hc fun r w hch => ?_
        obtain ⟨rfl, rfl⟩ := hch.low (by omega)
        rw [St.set_set]
        repeat (first | refine nl ?_ | refine AWP.seq ?_ | refine sm rfl ?_)
        refine AWP.cond_true rfl (AWP.skip ?_)
        repeat (first | refine nl ?_ | refine AWP.seq ?_ | refine rg ?_ | refine AWP.block ?_ | refine sm rfl ?_)
        generalize digits ((rest.take n).take j) = v at hsn hb
        have hb3 : v < 10 ^ 17 := by omega
        refine mlk (c := ((v * 10 : Nat) : Int)) rfl rfl rfl (by rw [wrap64 (by omega)]; omega) ?_
        repeat (refine sm rfl ?_)
        refine sbk (c := ((c.toNat - 48 : Nat) : Int)) rfl rfl rfl (by rw [wrap32 (by omega)]; omega) ?_
        refine cv (c := ((c.toNat - 48 : Nat) : Int)) rfl rfl (wrap64 (by omega)) ?_
        repeat (first | refine nl ?_ | refine sm rfl ?_ | refine adn rfl rfl rfl (by omega) ?_)
        refine ⟨j + 1, hlt, by omega, ?_, .refl _⟩
        rw [hsn]
        exact (tl4 rfl rfl rfl rfl)
      · have hjn : j = n := by omega
        subst hjn
        refine nxe rfl rfl (St.obj_set _ _ _) (by omega) ?_
        repeat (first | refine nl ?_ | refine AWP.seq ?_ | refine sm rfl ?_)
        refine AWP.cond_false rfl (AWP.exit (blk_hit ?_))
        rw [show (rest.take j).take j = rest.take j from List.take_of_length_le (by omega)]
        refine AWP.weaken (T' := [(8, .int .i64 ((digits (rest.take j) : Nat) : Int)), (0, .cptr os 4 0 0), (6, .cptr o6 4 0 0)]) (tl3 rfl rfl rfl) (StLe.new hoi (.refl _)) ?_
        repeat (refine AWP.seq ?_)
        refine rg ?_
        refine sm rfl ?_
        refine sm rfl ?_
        refine fa rfl rfl ?_
        refine lc rfl rfl (hos _ _) rfl rfl ?_
        repeat (refine sm rfl ?_)
        refine bds (cs := tokRow ⟨2, line, [], digits (rest.take j)⟩) rfl rfl rfl rfl ?_
        refine soV rfl rfl rfl rfl rfl rfl ?_
        repeat (first | refine nl ?_ | refine sm rfl ?_)
        refine AWP.ret (rets (resCW rfl (St.obj_set _ _ _) rfl rfl rfl rfl) (.refl _) (StLe.new (by rw [St.obj_set_ne hne]; exact hn6) (.refl _)) ⟨rfl, rfl⟩)
end Go.Proofs
/- The walk of the scanner's token. No conditions: definitions and lemmas only. -/
namespace Go.Proofs
open Go.AM

def allSigns : List (List UInt8) := signs2 ++ signs1.map fun c => [c]
def signRow : List AV := allSigns.map .str

theorem find_len (k : Nat) (rest : List UInt8) : ∀ (S : List (List UInt8)), (∀ g ∈ S, g.length = k) → S.find? (fun g => decide (rest.take g.length = g)) = if rest.take k ∈ S then some (rest.take k) else none
  | [], _ => by simp
  | g :: S, h => by
    have hg := h g (by simp)
    have ih := find_len k rest S fun g hg => h g (List.mem_cons_of_mem _ hg)
    rw [List.find?_cons]
    by_cases e : rest.take k = g
    · simp [hg, e]
    · rw [hg, decide_eq_false e, ih]
      simp [List.mem_cons, e]

theorem sign_find (rest : List UInt8) : sign rest = (allSigns.find? fun g => decide (rest.take g.length = g)).getD [] := by
  unfold allSigns
  rw [List.find?_append, find_len 2 rest signs2 (by decide), find_len 1 rest _ (by decide)]
  unfold sign
  by_cases h2 : rest.take 2 ∈ signs2
  · simp [h2]
  · rw [if_neg h2, if_neg h2]
    cases rest with
    | nil => simp
    | cons c r =>
      by_cases h1 : c ∈ signs1
      · have : (c :: r).take 1 ∈ signs1.map fun c => [c] := List.mem_map.2 ⟨c, h1, by simp⟩
        rw [if_pos this]
        simp [h1]
      · have : ¬ (c :: r).take 1 ∈ signs1.map fun c => [c] := by
          simp only [List.mem_map, List.take_succ_cons, List.take_zero, List.cons.injEq, and_true, exists_eq_right]
          exact h1
        rw [if_neg this]
        simp [h1]

theorem sign_at {rest : List UInt8} {i : Nat} {g : List UInt8} (hi : allSigns[i]? = some g) (hno : ∀ j, j < i → ∀ g', allSigns[j]? = some g' → ¬ rest.take g'.length = g') (hg : rest.take g.length = g) : sign rest = g := by
  rw [sign_find]
  have : allSigns.find? (fun g => decide (rest.take g.length = g)) = some g := by
    rw [List.find?_eq_some_iff_getElem]
    refine ⟨by simpa using hg, i, (List.getElem?_eq_some_iff.1 hi).1, (List.getElem?_eq_some_iff.1 hi).2, fun j hj => ?_⟩
    have hjl : j < allSigns.length := by have := (List.getElem?_eq_some_iff.1 hi).1; omega
    simpa using hno j hj _ (List.getElem?_eq_getElem hjl)
  rw [this]
  rfl

theorem sign_none {rest : List UInt8} (hno : ∀ j, j < 24 → ∀ g', allSigns[j]? = some g' → ¬ rest.take g'.length = g') : sign rest = [] := by
  rw [sign_find]
  have : allSigns.find? (fun g => decide (rest.take g.length = g)) = none := by
    rw [List.find?_eq_none]
    intro g hg
    obtain ⟨j, hj, rfl⟩ := List.getElem_of_mem hg
    simpa using hno j hj _ (List.getElem?_eq_getElem hj)
  rw [this]
  rfl

theorem mem_tw {q : UInt8 → Bool} : ∀ {l : List UInt8} {c : UInt8}, c ∈ l.takeWhile q → q c = true
  | [], c, h => by cases h
  | a :: l, c, h => by
    rw [List.takeWhile_cons] at h
    split at h
    · rename_i ha
      rcases List.mem_cons.1 h with rfl | h
      · exact ha
      · exact mem_tw h
    · cases h

def oneV : Except Nat (Tk × Nat) → AV
  | .error e => tkE zTk e
  | .ok (t, _) => tkE t 0
def oneP (pos : Nat) : Except Nat (Tk × Nat) → Nat
  | .error _ => pos
  | .ok (_, m) => pos + m

structure WMap (m : List (List UInt8 × AV)) : Prop where
  look : ∀ nm, slook nm m = if nm ∈ words then some (.bool true) else none

set_option maxHeartbeats 8000000 in
theorem token_ok (s : List UInt8) (hs : s.length ≤ 1000000) (pos line om os : Nat) (hp : pos < s.length) (wm : List (List UInt8 × AV)) (hwm : WMap wm) (st : St) (hom : st.obj om = some (.smap wm)) (hoo : om ≠ os) (hg : st.row 2 = some signRow) :
    ACalls Tryd.prog 32 [.cptr os 4 0 0] (st.set os (.cells 62 4 [scanRow s pos line om]))
      (fun v st' => v = oneV (one (s.drop pos) line) ∧ st' = st.set os (.cells 62 4 [scanRow s (oneP pos (one (s.drop pos) line)) line om])) (fun _ _ => False) := by
  refine ACalls.ofBody Tryd.func32 rfl Tryd.ntmps32 rfl ?_
  have hple : pos ≤ s.length := by omega
  have hd : s.drop pos = s[pos] :: s.drop (pos + 1) := List.drop_eq_getElem_cons hp
  have hdl : (s.drop pos).length = s.length - pos := List.length_drop ..
  repeat (refine AWP.seq ?_)
  refine rg ?_
  refine al rfl rfl fun o2 ho2 => ?_
  have hne := St.new_ne ho2
  have hn2 := St.new_old ho2
  have hos : ∀ (c : AObj) (d : AObj), ((st.set os c).set o2 d).obj os = some c := fun c d => St.obj_under hne c d
  have hosn : ∀ (c : AObj) (d : AObj), ((st.set os c).set o2 d).notok.obj os = some c := fun c d => St.obj_under hne c d
  have homn : ∀ (c : AObj) (d : AObj), ((st.set os c).set o2 d).obj om = some (.smap wm) := fun c d => by
    have h2 : om ≠ o2 := by rintro rfl; rw [hn2] at hom; cases hom
    rw [St.obj_set_ne h2, St.obj_set_ne hoo]
    exact hom
  repeat (first | refine nl ?_ | refine AWP.seq ?_ | refine sm rfl ?_)
  have hosn1 := hosn (.cells 62 4 [scanRow s pos line om]) (.cells 51 4 [tokRow zTk])
  refine AWP.draw rfl 8 8 (fun _ _ => False) rfl ?_
  repeat (first | refine ds rfl rfl ?_ | refine dq rfl rfl rfl (fun st1 hle => fa rfl rfl (nl ⟨_, rfl, rfl, rfl⟩)) ?_ | refine dq rfl rfl rfl (fun st1 hle => lc rfl rfl (hle.obj _ _ (by assumption)) rfl rfl (nl ⟨_, rfl, rfl, rfl⟩)) ?_)
  refine dn ⟨fun _ => ?_, fun h => absurd h (by decide)⟩
  repeat (first | refine nl ?_ | refine AWP.seq ?_ | refine rg ?_ | refine sm rfl ?_ | refine ssl rfl rfl rfl (by omega) ?_)
  refine cle rfl rfl (prefix_ok (s.drop pos) 46 digA digA_const _ isDigit_ok) ?_
  repeat (first | refine nl ?_ | refine AWP.seq ?_ | refine rg ?_ | refine sm rfl ?_)
  have hdt := tw_pos isDig (s.drop pos)
  have hnt := tw_pos isNP (s.drop pos)
  have hdle := (List.takeWhile_prefix isDig (l := s.drop pos)).length_le
  have hnle := (List.takeWhile_prefix isNP (l := s.drop pos)).length_le
  rw [hdl] at hdle hnle
  have hone : one (s.drop pos) line = bif isLet s[pos] then (let nm := (s.drop pos).takeWhile isNP; if 12 < nm.length then .error 5 else .ok (⟨if nm ∈ words then 3 else 1, line, nm, 0⟩, nm.length))
    else bif isDig s[pos] then (let ds := (s.drop pos).takeWhile isDig; if 18 < ds.length then .error 5 else if (((s.drop pos).drop ds.length).head?.map isNP).getD false = true then .error 6 else .ok (⟨2, line, [], digits ds⟩, ds.length))
    else if sign (s.drop pos) = [] then .error 6 else .ok (⟨4, line, sign (s.drop pos), 0⟩, (sign (s.drop pos)).length) := by
    rw [hd]
    rfl
  have hhead : (s.drop pos).head? = some s[pos] := by rw [hd]; rfl
  rw [hhead] at hdt hnt
  simp only [Option.map_some, Option.getD_some] at hdt hnt
  generalize s[pos] = c at hone hdt hnt
  refine AWP.cond_dec rfl (fun h => ?_) (fun h => AWP.skip ?_)
  · have hcd : isDig c = true := hdt.1 (Int.ofNat_lt.1 h)
    have hcl : isLet c = false := by
      cases hl : isLet c with
      | false => rfl
      | true => simp [isLet, isDig] at hl hcd; omega
    rw [hcl, cond_false, hcd, cond_true] at hone
    have htk : (s.drop pos).take ((s.drop pos).takeWhile isDig).length = (s.drop pos).takeWhile isDig := (List.prefix_iff_eq_take.1 (List.takeWhile_prefix isDig)).symm
    have hres : one (s.drop pos) line = (match numR (s.drop pos) ((s.drop pos).takeWhile isDig).length line with | .error e => .error e | .ok t => .ok (t, ((s.drop pos).takeWhile isDig).length)) := by
      rw [hone, numR, htk]
      simp only
      split
      · rfl
      · split <;> rfl
    repeat (first | refine AWP.seq ?_ | refine rg ?_ | refine sm rfl ?_)
    rw [St.set_comm st (Ne.symm hne)]
    refine cl rfl rfl (number_ok s (s.drop pos) hs ((s.drop pos).takeWhile isDig).length pos line om os (by omega) (by omega) (by
      rw [htk]
      intro c hc
      exact mem_tw hc) _) fun v st' ⟨hv, hst⟩ => ?_
    subst hv
    subst hst
    rw [St.set_comm st hne]
    have hn2' : ∀ c : AObj, (st.set os c).obj o2 = none := fun c => by rw [St.obj_set_ne hne]; exact hn2
    cases hnr : numR (s.drop pos) ((s.drop pos).takeWhile isDig).length line with
    | error e =>
      rw [hnr] at hres
      rw [hres]
      refine AOps.weaken (T' := [(26, exV (.error e)), (2, .cptr o2 4 0 0)]) (tl2 rfl rfl) (.refl _) ?_
      repeat (refine sm rfl ?_)
      refine soV rfl rfl rfl rfl rfl rfl ?_
      repeat (first | refine nl ?_ | refine sm rfl ?_)
      exact AWP.ret (rets (resCW rfl (St.obj_set _ _ _) rfl rfl rfl rfl) (.refl _) (StLe.new (hn2' _) (.refl _)) ⟨rfl, rfl⟩)
    | ok t =>
      rw [hnr] at hres
      rw [hres]
      refine AOps.weaken (T' := [(26, exV (.ok t)), (2, .cptr o2 4 0 0)]) (tl2 rfl rfl) (.refl _) ?_
      repeat (refine sm rfl ?_)
      refine soV rfl rfl rfl rfl rfl rfl ?_
      repeat (first | refine nl ?_ | refine sm rfl ?_)
      exact AWP.ret (rets (resCW rfl (St.obj_set _ _ _) rfl rfl rfl rfl) (.refl _) (StLe.new (hn2' _) (.refl _)) ⟨rfl, rfl⟩)
  · have hcd : isDig c = false := by
      cases hl : isDig c with
      | false => rfl
      | true => exact absurd (Int.ofNat_lt.2 (hdt.2 hl)) h
    have hn2' : ∀ c : AObj, (st.set os c).obj o2 = none := fun c => by rw [St.obj_set_ne hne]; exact hn2
    refine AWP.weaken (tl4 (i0 := 4) (i1 := 3) (i2 := 2) (i3 := 0) rfl rfl rfl rfl) (.refl _) ?_
    repeat (first | refine AWP.seq ?_ | refine rg ?_ | refine sm rfl ?_)
    refine cle rfl rfl (prefix_ok (s.drop pos) 48 npA npA_const _ isNamePart_ok) ?_
    repeat (first | refine nl ?_ | refine AWP.seq ?_ | refine rg ?_ | refine sm rfl ?_)
    refine AWP.cond_dec rfl (fun h => ?_) (fun h => AWP.skip ?_)
    · have hcl : isLet c = true := by
        have h1 : isNP c = true := hnt.1 (Int.ofNat_lt.1 h)
        simpa [isNP, hcd] using h1
      rw [hcl, cond_true] at hone
      have htk : (s.drop pos).take ((s.drop pos).takeWhile isNP).length = (s.drop pos).takeWhile isNP := (List.prefix_iff_eq_take.1 (List.takeWhile_prefix isNP)).symm
      change _ = (((s.drop pos).takeWhile fun c => npA c.toNat)) at htk
      have hnpe : ((s.drop pos).takeWhile fun c => npA c.toNat) = (s.drop pos).takeWhile isNP := rfl
      rw [hnpe] at htk ⊢
      generalize (s.drop pos).takeWhile isNP = nm at hone htk hnle
      simp only at hone
      refine AWP.weaken (tl5 (i0 := 6) (i1 := 4) (i2 := 3) (i3 := 2) (i4 := 0) rfl rfl rfl rfl rfl) (.refl _) ?_
      repeat (first | refine nl ?_ | refine AWP.seq ?_ | refine rg ?_ | refine sm rfl ?_)
      refine AWP.cond_dec rfl (fun h2 => ?_) (fun h2 => AWP.skip ?_)
      · have h2' : 12 < nm.length := by have : (12 : Int) < (nm.length : Int) := h2; omega
        rw [if_pos h2'] at hone
        rw [hone]
        repeat (refine AWP.seq ?_)
        refine rg ?_
        refine bds (cs := tokRow zTk) rfl rfl rfl rfl ?_
        refine soV rfl rfl rfl rfl rfl rfl ?_
        repeat (first | refine nl ?_ | refine sm rfl ?_)
        exact AWP.ret (rets (resCW rfl (St.obj_set _ _ _) rfl rfl rfl rfl) (.refl _) (StLe.new ho2 (.refl _)) ⟨rfl, rfl⟩)
      · have h2' : ¬ 12 < nm.length := by have : ¬ (12 : Int) < (nm.length : Int) := h2; omega
        rw [if_neg h2'] at hone
        rw [hone]
        have hos1 := hos (.cells 62 4 [scanRow s pos line om]) (.cells 51 4 [tokRow zTk])
        repeat (first | refine AWP.seq ?_ | refine rg ?_ | refine sm rfl ?_ | refine fa rfl rfl ?_ | refine lc rfl rfl (by assumption) rfl rfl ?_ | refine adn rfl rfl rfl (by omega) ?_)
        refine so (rows' := [scanRow s (pos + nm.length) line om]) rfl rfl rfl (hos _ _) rfl rfl rfl rfl rfl ?_
        rw [St.set_inner hne]
        repeat (first | refine nl ?_ | refine AWP.seq ?_ | refine rg ?_ | refine sm rfl ?_)
        have hosn2 := hosn (.cells 62 4 [scanRow s (pos + nm.length) line om]) (.cells 51 4 [tokRow zTk])
        refine AWP.weaken (tl5 (i0 := 7) (i1 := 6) (i2 := 4) (i3 := 2) (i4 := 0) rfl rfl rfl rfl rfl) (.refl _) ?_
        skip
        refine AWP.draw rfl 7 7 (fun _ _ => False) rfl ?_
        repeat (first | refine ds rfl rfl ?_ | refine dq rfl rfl rfl (fun st1 hle => fa rfl rfl (nl ⟨_, rfl, rfl, rfl⟩)) ?_ | refine dq rfl rfl rfl (fun st1 hle => lc rfl rfl (hle.obj _ _ (by assumption)) rfl rfl (nl ⟨_, rfl, rfl, rfl⟩)) ?_ | refine dq rfl rfl rfl (fun st1 hle => ssh rfl rfl rfl (by omega) (nl ⟨_, rfl, rfl, rfl⟩)) ?_)
        refine dn ⟨fun _ => ?_, fun h => absurd h (by decide)⟩
        refine lku rfl rfl rfl (homn _ _) ?_
        rw [htk, hwm.look]
        have hval : ((if nm ∈ words then some (AV.bool true) else none).getD (absV (.bool false))) = .bool (decide (nm ∈ words)) := by
          by_cases hw : nm ∈ words <;> simp [hw, absV, abs1]
        rw [hval]
        repeat (refine nl ?_)
        refine midk [(7, .int .i64 ((if nm ∈ words then 3 else 1 : Nat) : Int)), (6, .int .i64 (nm.length : Int)), (4, .str (s.drop pos)), (2, .cptr o2 4 0 0), (0, .cptr os 4 0 0)] ((st.set os (.cells 62 4 [scanRow s (pos + nm.length) line om])).set o2 (.cells 51 4 [tokRow zTk])) ?_ ?_
        · refine AWP.cond_dec rfl (fun hw => ?_) (fun hw => AWP.skip ?_)
          · rw [if_pos hw]
            repeat (first | refine nl ?_ | refine rg ?_ | refine sm rfl ?_)
            exact ⟨(tl5 rfl rfl rfl rfl rfl), .refl _⟩
          · rw [if_neg hw]
            exact ⟨(tl5 rfl rfl rfl rfl rfl), .refl _⟩
        · repeat (refine AWP.seq ?_)
          refine AWP.draw rfl 8 8 (fun _ _ => False) rfl ?_
          repeat (first | refine ds rfl rfl ?_ | refine dq rfl rfl rfl (fun st1 hle => fa rfl rfl (nl ⟨_, rfl, rfl, rfl⟩)) ?_ | refine dq rfl rfl rfl (fun st1 hle => lc rfl rfl (hle.obj _ _ (by assumption)) rfl rfl (nl ⟨_, rfl, rfl, rfl⟩)) ?_ | refine dq rfl rfl rfl (fun st1 hle => ssh rfl rfl rfl (by omega) (nl ⟨_, rfl, rfl, rfl⟩)) ?_)
          refine dn ⟨fun _ => ?_, fun h => absurd h (by decide)⟩
          rw [htk]
          refine bds (cs := tokRow ⟨if nm ∈ words then 3 else 1, line, nm, 0⟩) rfl rfl rfl rfl ?_
          refine soV rfl rfl rfl rfl rfl rfl ?_
          repeat (first | refine nl ?_ | refine sm rfl ?_)
          exact AWP.ret (rets (resCW rfl (St.obj_set _ _ _) rfl rfl rfl rfl) (.refl _) (StLe.new (hn2' _) (.refl _)) ⟨rfl, rfl⟩)
    · have hcn : isNP c = false := by
        cases hl : isNP c with
        | false => rfl
        | true => exact absurd (Int.ofNat_lt.2 (hnt.2 hl)) h
      have hcl : isLet c = false := by
        simp only [isNP, Bool.or_eq_false_iff] at hcn
        exact hcn.1
      rw [hcl, cond_false, hcd, cond_false] at hone
      refine AWP.weaken (tl3 (i0 := 4) (i1 := 2) (i2 := 0) rfl rfl rfl) (.refl _) ?_
      repeat (refine AWP.seq ?_)
      refine rg ?_
      refine leW (row := signRow) (rows := [signRow]) (i := 0) (s := 24) rfl rfl (congrArg (Option.map fun row : List AV => AV.eptr row.length [row] 0 0) hg) rfl rfl ?_
      repeat (first | refine nl ?_ | refine AWP.block ?_ | refine sm rfl ?_)
      refine AWP.loop (α := Nat) (fun i => [(62, .int .i64 (i : Int)), (61, .agg signRow), (4, .str (s.drop pos)), (2, .cptr o2 4 0 0), (0, .cptr os 4 0 0)]) (fun _ => (st.set os (.cells 62 4 [scanRow s pos line om])).set o2 (.cells 51 4 [tokRow zTk]))
        (fun i => i ≤ 24 ∧ ∀ j, j < i → ∀ g', allSigns[j]? = some g' → ¬ (s.drop pos).take g'.length = g') (fun i => 24 - i) 0 ⟨Nat.zero_le _, fun j hj => by omega⟩ (tl5 rfl rfl rfl rfl rfl) (.refl _) ?_
      rintro i ⟨hi, hno⟩
      repeat (first | refine nl ?_ | refine AWP.seq ?_ | refine rg ?_ | refine sm rfl ?_)
      refine AWP.cond_dec rfl (fun h => AWP.skip ?_) (fun h => AWP.exit (blk_hit ?_))
      · have hi' : i < 24 := by have : (i : Int) < 24 := h; omega
        have hil : i < allSigns.length := hi'
        have hgi : allSigns[i]? = some allSigns[i] := List.getElem?_eq_getElem hil
        have hlen : allSigns[i].length ≤ 2 ∧ allSigns[i] ≠ [] := (show ∀ g ∈ allSigns, g.length ≤ 2 ∧ g ≠ [] by decide) _ (List.getElem_mem hil)
        have hrow : signRow[i * 1]? = some (.str allSigns[i]) := by simp [signRow, hil]
        generalize allSigns[i] = sg at hgi hlen hrow
        refine AWP.weaken (tl5 (i0 := 62) (i1 := 61) (i2 := 4) (i3 := 2) (i4 := 0) rfl rfl rfl rfl rfl) (.refl _) ?_
        repeat (first | refine AWP.seq ?_ | refine AWP.block ?_)
        refine rg ?_
        refine ixg rfl rfl rfl rfl rfl hi' hrow ?_
        repeat (first | refine nl ?_ | refine AWP.seq ?_ | refine rg ?_ | refine sm rfl ?_)
        refine cle rfl rfl (hasPrefix_ok (s.drop pos) sg _) ?_
        repeat (refine nl ?_)
        refine AWP.cond_dec rfl (fun hm => ?_) (fun hm => AWP.skip ?_)
        · have hsg := sign_at hgi hno hm
          rw [hsg, if_neg hlen.2] at hone
          rw [hone]
          have hle : sg.length ≤ s.length - pos := by
            have := congrArg List.length hm
            rw [List.length_take, hdl] at this
            omega
          have hos1 := hos (.cells 62 4 [scanRow s pos line om]) (.cells 51 4 [tokRow zTk])
          repeat (first | refine AWP.seq ?_ | refine rg ?_ | refine sm rfl ?_ | refine fa rfl rfl ?_ | refine lns rfl rfl ?_ | refine lc rfl rfl (by assumption) rfl rfl ?_ | refine adn rfl rfl rfl (by omega) ?_)
          refine so (rows' := [scanRow s (pos + sg.length) line om]) rfl rfl rfl (hos _ _) rfl rfl rfl rfl rfl ?_
          rw [St.set_inner hne]
          have hos2 := hos (.cells 62 4 [scanRow s (pos + sg.length) line om]) (.cells 51 4 [tokRow zTk])
          repeat (first | refine nl ?_ | refine AWP.seq ?_ | refine rg ?_ | refine sm rfl ?_ | refine fa rfl rfl ?_ | refine lc rfl rfl (by assumption) rfl rfl ?_)
          refine bds (cs := tokRow ⟨4, line, sg, 0⟩) rfl rfl rfl rfl ?_
          refine soV rfl rfl rfl rfl rfl rfl ?_
          repeat (first | refine nl ?_ | refine sm rfl ?_)
          exact AWP.ret (rets (resCW rfl (St.obj_set _ _ _) rfl rfl rfl rfl) (.refl _) (StLe.new (hn2' _) (.refl _)) ⟨rfl, rfl⟩)
        · repeat (first | refine nl ?_ | refine rg ?_ | refine sm rfl ?_ | refine inc rfl rfl rfl (by omega) ?_)
          refine ⟨i + 1, ⟨hi', fun j hj g' hg' => ?_⟩, by omega, (tl5 rfl rfl rfl rfl rfl), .refl _⟩
          rcases Nat.lt_or_ge j i with h1 | h1
          · exact hno j h1 g' hg'
          · have : j = i := by omega
            subst this
            rw [hgi] at hg'
            cases hg'
            exact hm
      · have hi' : i = 24 := by have : ¬ (i : Int) < 24 := h; omega
        subst hi'
        rw [sign_none hno, if_pos rfl] at hone
        rw [hone]
        repeat (refine AWP.seq ?_)
        refine rg ?_
        refine bds (cs := tokRow zTk) rfl rfl rfl rfl ?_
        refine soV rfl rfl rfl rfl rfl rfl ?_
        repeat (first | refine nl ?_ | refine sm rfl ?_)
        exact AWP.ret (rets (resCW rfl (St.obj_set _ _ _) rfl rfl rfl rfl) (.refl _) (StLe.new ho2 (.refl _)) ⟨rfl, rfl⟩)
end Go.Proofs
/- The walk of lexer.Scan. No conditions: definitions and lemmas only. -/
namespace Go.Proofs
open Go.AM

def wordRow : List AV := words.map .str

theorem slook_supd (k k' : List UInt8) (v : AV) : ∀ m, slook k (supd k' v m) = if k = k' then some v else slook k m
  | [] => by simp [supd, slook]
  | (a, b) :: m => by
    have ih := slook_supd k k' v m
    rw [supd]
    by_cases h1 : k' = a
    · subst h1
      rw [if_pos rfl, slook, slook]
      by_cases h2 : k = k' <;> simp [h2]
    · rw [if_neg h1, slook, slook, ih]
      by_cases h2 : k = a
      · subst h2
        have : ¬ k = k' := fun e => h1 e.symm
        simp [this]
      · simp [h2]

def wmap (l : List (List UInt8)) : List (List UInt8 × AV) := l.foldl (fun m w => supd w (.bool true) m) []

theorem wmap_snoc (l : List (List UInt8)) (w : List UInt8) : wmap (l ++ [w]) = supd w (.bool true) (wmap l) := by simp [wmap]

theorem wmap_look (nm : List UInt8) : ∀ (n : Nat) (l : List (List UInt8)), l.length = n → slook nm (wmap l) = if nm ∈ l then some (.bool true) else none
  | 0, l, h => by
    have : l = [] := List.eq_nil_of_length_eq_zero h
    subst this
    rfl
  | n + 1, l, h => by
    obtain ⟨l', c, rfl⟩ : ∃ l' c, l = l' ++ [c] := ⟨l.dropLast, l.getLast (by rintro rfl; simp at h), (List.dropLast_concat_getLast _).symm⟩
    rw [wmap_snoc, slook_supd, wmap_look nm n l' (by simpa using h)]
    by_cases h1 : nm = c
    · simp [h1]
    · simp [h1]

theorem WMap.words : WMap (wmap words) := ⟨fun nm => wmap_look nm 12 _ rfl⟩

theorem skip_sum : ∀ (cm : Bool) (x : List UInt8) (l : Nat), (skip cm x l).2 + (skip cm x l).1.length ≤ l + x.length
  | cm, [], l => by simp [skip]
  | cm, c :: r, l => by
    have pass : ∀ cm' l', l' ≤ l + 1 → (skip cm' r l').2 + (skip cm' r l').1.length ≤ l + (c :: r).length := by
      intro cm' l' h2
      have := skip_sum cm' r l'
      simp only [List.length_cons]
      omega
    unfold skip
    split
    · exact pass _ _ (by omega)
    · cases cm
      · rw [cond_false]
        split
        · exact pass _ _ (by omega)
        · split
          · exact pass _ _ (by omega)
          · exact Nat.le_refl _
      · exact pass _ _ (by omega)

theorem skip_tail (s : List UInt8) (line : Nat) : s.drop (s.length - (skip false s line).1.length) = (skip false s line).1 := by
  obtain ⟨q1, q2, q3, k, q4⟩ := skip_le false s line
  have hl := congrArg List.length q4
  rw [List.length_drop] at hl
  rcases Nat.lt_or_ge k s.length with hk | hk
  · rw [show s.length - (skip false s line).1.length = k by omega, q4]
  · have : (skip false s line).1 = [] := by rw [q4, List.drop_eq_nil_of_le hk]
    rw [this, List.length_nil, Nat.sub_zero, List.drop_length]

theorem one_err {s : List UInt8} {line e : Nat} (h : one s line = .error e) : e = 5 ∨ e = 6 := by
  unfold one at h
  split at h
  · cases h; exact .inr rfl
  · rename_i c r
    cases hl : isLet c
    · cases hd : isDig c
      · simp only [hl, hd, cond_false] at h
        split at h
        · cases h; exact .inr rfl
        · cases h
      · simp only [hl, hd, cond_false, cond_true] at h
        split at h
        · cases h; exact .inl rfl
        · split at h
          · cases h; exact .inr rfl
          · cases h
    · simp only [hl, cond_true] at h
      split at h
      · cases h; exact .inl rfl
      · cases h

theorem sign_le (s : List UInt8) : (sign s).length ≤ s.length := by
  unfold sign
  split
  · exact List.length_take_le' ..
  · split
    · split
      · simp
      · simp
    · simp

theorem one_ok {s : List UInt8} {line m : Nat} {t : Tk} (h : one s line = .ok (t, m)) : 1 ≤ m ∧ m ≤ s.length ∧ t.line = line := by
  unfold one at h
  split at h
  · cases h
  · rename_i c r
    have hnp : isLet c = true → isNP c = true := fun h => by simp [isNP, h]
    cases hl : isLet c
    · cases hd : isDig c
      · simp only [hl, hd, cond_false] at h
        split at h
        · cases h
        · rename_i hs
          cases h
          exact ⟨by have := List.length_pos_iff.2 hs; omega, sign_le _, rfl⟩
      · simp only [hl, hd, cond_false, cond_true] at h
        split at h
        · cases h
        · split at h
          · cases h
          · cases h
            exact ⟨by simp [hd], (List.takeWhile_prefix isDig).length_le, rfl⟩
    · simp only [hl, cond_true] at h
      split at h
      · cases h
      · cases h
        exact ⟨by simp [hnp hl], (List.takeWhile_prefix isNP).length_le, rfl⟩

set_option maxHeartbeats 8000000 in
theorem scan_ok (s : List UInt8) (st : St) (hg1 : st.row 2 = some signRow) (hg0 : st.row 0 = some wordRow) :
    ACalls Tryd.prog 19 [.str s] st (fun v st' => v = scanV (scan s) ∧ st' = st) (fun _ _ => False) := by
  refine ACalls.ofBody Tryd.func19 rfl Tryd.ntmps19 rfl ?_
  repeat (first | refine nl ?_ | refine AWP.seq ?_ | refine rg ?_ | refine sm rfl ?_ | refine lns rfl rfl ?_)
  refine AWP.cond_dec rfl (fun h => ?_) (fun h => AWP.skip ?_)
  · have h' : 4000 < s.length := by have : (4000 : Int) < (s.length : Int) := h; omega
    repeat (first | refine nl ?_ | refine AWP.seq ?_ | refine rg ?_ | refine sm rfl ?_)
    refine AWP.ret (rets rfl (Le.tri (.nilShared 0 4) (.refl _) (.refl _)) (.refl _) ⟨?_, rfl⟩)
    rw [scan, if_pos h']
    rfl
  · have h' : s.length ≤ 4000 := by have : ¬ (4000 : Int) < (s.length : Int) := h; omega
    have hscan : scan s = scanL (s.length + 1) (skip false s 1).1 (skip false s 1).2 [] := by rw [scan, if_neg (by omega)]
    repeat (refine AWP.seq ?_)
    refine rg ?_
    refine sm rfl ?_
    refine mkm rfl fun om hom => ?_
    refine bds (cs := scanRow s 0 1 om) rfl rfl rfl rfl ?_
    refine al rfl rfl fun os hos => ?_
    have hne := St.new_ne hos
    have hns := St.new_old hos
    refine soV rfl rfl rfl rfl rfl rfl ?_
    repeat (first | refine nl ?_ | refine AWP.seq ?_)
    refine rg ?_
    refine leW (row := wordRow) (rows := [wordRow]) (i := 0) (s := 12) rfl rfl (congrArg (Option.map fun row : List AV => AV.eptr row.length [row] 0 0) hg0) rfl rfl ?_
    repeat (first | refine nl ?_ | refine AWP.block ?_ | refine sm rfl ?_)
    refine AWP.loop (α := Nat) (fun i => [(18, .int .i64 (i : Int)), (17, .agg wordRow), (5, .cptr os 4 0 0), (0, .str s)]) (fun i => (st.set om (.smap (wmap (words.take i)))).set os (.cells 62 4 [scanRow s 0 1 om])) (fun i => i ≤ 12) (fun i => 12 - i) 0 (Nat.zero_le _) (tl4 rfl rfl rfl rfl) (.refl _) ?_
    intro i hi
    repeat (first | refine nl ?_ | refine AWP.seq ?_ | refine rg ?_ | refine sm rfl ?_)
    refine AWP.cond_dec rfl (fun h => AWP.skip ?_) (fun h => AWP.exit (blk_hit ?_))
    · have hi' : i < 12 := by have : (i : Int) < 12 := h; omega
      have hil : i < words.length := hi'
      have hrow : wordRow[i * 1]? = some (.str words[i]) := by simp [wordRow, hil]
      have hsn : wmap (words.take (i + 1)) = supd words[i] (.bool true) (wmap (words.take i)) := by
        rw [List.take_add_one, List.getElem?_eq_getElem hil, Option.toList_some, wmap_snoc]
      generalize words[i] = w at hrow hsn
      repeat (first | refine AWP.seq ?_ | refine rg ?_ | refine AWP.block ?_)
      refine ixg rfl rfl rfl rfl rfl hi' hrow ?_
      repeat (first | refine nl ?_ | refine rg ?_ | refine sm rfl ?_ | refine fa rfl rfl ?_ | refine lc rfl rfl (St.obj_set _ _ _) rfl rfl ?_)
      refine mup rfl rfl rfl rfl (St.obj_under hne _ _) ?_
      rw [St.set_inner hne]
      repeat (first | refine nl ?_ | refine rg ?_ | refine sm rfl ?_ | refine inc rfl rfl rfl (by omega) ?_)
      refine ⟨i + 1, hi', by omega, (tl4 rfl rfl rfl rfl), ?_⟩
      rw [hsn]
      exact .refl _
    · have hi' : i = 12 := by have : ¬ (i : Int) < 12 := h; omega
      subst hi'
      rw [show words.take 12 = words from rfl]
      refine AWP.weaken (tl2 (i0 := 5) (i1 := 0) rfl rfl) (.refl _) ?_
      repeat (refine AWP.seq ?_)
      refine rg ?_
      repeat (refine sm rfl ?_)
      repeat (first | refine nl ?_ | refine AWP.seq ?_)
      refine AWP.nilTok 8 51 4 rfl fun tk htk => ?_
      have hst : ∀ (tk : Nat) (c : AObj), ((st.set om (.smap (wmap words))).set os c).addTok tk = ((st.set om (.smap (wmap words))).addTok tk).set os c := fun _ _ => rfl
      rw [hst]
      skip
      refine rg ?_
      refine cl rfl rfl (skip_ok s (by omega) 0 1 om os (Nat.zero_le _) (by omega) _) fun _ st' hst' => ?_
      subst hst'
      rw [List.drop_zero]
      obtain ⟨q1, q2, q3, q4⟩ := skip_le false s 1
      have q6 := skip_sum false s 1
      repeat (first | refine nl ?_ | refine AWP.block ?_)
      refine AWP.loop (α := Nat × Nat × Nat × List Tk × Nat)
        (fun x => [(8, .view 4 (x.2.2.2.1.map tokRow) (.own x.2.2.2.2 51)), (5, .cptr os 4 0 0), (0, .str s)])
        (fun x => ((st.set om (.smap (wmap words))).addTok x.2.2.2.2).set os (.cells 62 4 [scanRow s x.2.1 x.2.2.1 om]))
        (fun x => x.2.1 ≤ s.length ∧ x.2.2.1 ≤ x.2.1 + 1 ∧ scan s = scanL x.1 (s.drop x.2.1) x.2.2.1 x.2.2.2.1 ∧ s.length - x.2.1 < x.1 ∧ x.2.2.2.1.length ≤ 2000 ∧ st.tok x.2.2.2.2 = false) (fun x => x.1)
        (s.length + 1, s.length - (skip false s 1).1.length, (skip false s 1).2, [], tk) ⟨by simp only; omega, by simp only; omega, ?_, by simp only; omega, by simp, htk⟩ (tl3 rfl rfl rfl) (.refl _) ?_
      · simp only
        rw [hscan]
        congr 1
        exact (skip_tail s 1).symm
      · rintro ⟨fuel, pos, line, out, tk⟩ ⟨h1, h2, h3, h4, h5, h6⟩
        simp only at h1 h2 h3 h4 h5 h6
        repeat (first | refine nl ?_ | refine AWP.seq ?_ | refine rg ?_ | refine sm rfl ?_ | refine fa rfl rfl ?_ | refine lns rfl rfl ?_ | refine lc rfl rfl (St.obj_set _ _ _) rfl rfl ?_)
        refine AWP.cond_dec rfl (fun h => AWP.skip ?_) (fun h => AWP.exit (blk_hit ?_))
        · have hlt : pos < s.length := by have : (pos : Int) < (s.length : Int) := h; omega
          obtain ⟨fuel, rfl⟩ : ∃ k, fuel = k + 1 := ⟨fuel - 1, by omega⟩
          have hd : s.drop pos = s[pos] :: s.drop (pos + 1) := List.drop_eq_getElem_cons hlt
          have hstep : scan s = match one (s.drop pos) line with
              | .error e => ([], line, e)
              | .ok (t, m) => if 2000 ≤ out.length then ([], line, 5) else scanL fuel (skip false ((s.drop pos).drop m) line).1 (skip false ((s.drop pos).drop m) line).2 (out ++ [t]) := by
            rw [h3, hd]
            rfl
          clear h3
          refine AWP.weaken (tl3 (i0 := 8) (i1 := 5) (i2 := 0) rfl rfl rfl) (.refl _) ?_
          repeat (first | refine AWP.seq ?_ | refine AWP.block ?_)
          refine rg ?_
          refine cl rfl rfl (token_ok s (by omega) pos line om os hlt (wmap words) WMap.words ((st.set om (.smap (wmap words))).addTok tk) (St.obj_set _ _ _) (Ne.symm hne) hg1) fun v st' ⟨hv, hst'⟩ => ?_
          subst hv
          subst hst'
          cases ho : one (s.drop pos) line with
          | error e =>
            rw [ho] at hstep
            refine AOps.weaken (T' := [(33, tkE zTk e), (8, .view 4 (out.map tokRow) (.own tk 51)), (5, .cptr os 4 0 0), (0, .str s)]) (tl4 rfl rfl rfl rfl) (.refl _) ?_
            repeat (refine sm rfl ?_)
            refine al rfl rfl fun o9 ho9 => ?_
            refine soN 9 rfl rfl rfl rfl rfl rfl ho9 ?_
            have he := one_err ho
            have he0 : (AV.bool (decide ((e : Int) = 0))) = .bool false := by
              have : ¬ e = 0 := by omega
              simp [this]
            have he1 : (AV.bool (decide ((e : Int) ≠ 0))) = .bool true := by
              have : ¬ e = 0 := by omega
              simp [this]
            repeat (first | refine nl ?_ | refine AWP.seq ?_ | refine rg ?_ | refine sm rfl ?_)
            rw [he0]
            repeat (first | refine nl ?_ | refine sm rfl ?_ | refine uw rfl ?_)
            refine AWP.cond_false rfl (AWP.skip ?_)
            repeat (first | refine nl ?_ | refine AWP.seq ?_ | refine rg ?_ | refine sm rfl ?_)
            rw [he1]
            skip
            refine AWP.cond_true rfl ?_
            repeat (refine AWP.seq ?_)
            refine AWP.draw rfl 5 5 (fun _ _ => False) rfl ?_
            repeat (first | refine ds rfl rfl ?_ | refine dq rfl rfl rfl (fun st1 hle => fa rfl rfl (nl ⟨_, rfl, rfl, rfl⟩)) ?_ | refine dq rfl rfl rfl (fun st1 hle => lc rfl rfl (hle.obj _ _ (St.obj_set _ _ _)) rfl rfl (nl ⟨_, rfl, rfl, rfl⟩)) ?_)
            refine dn ⟨fun _ => ?_, fun h => absurd h (by decide)⟩
            repeat (first | refine nl ?_ | refine sm rfl ?_)
            refine AWP.ret (rets rfl (Le.tri (.nilShared 0 4) (.refl _) (.refl _)) (StLe.new (show ((st.set om (.smap (wmap words))).addTok tk).obj os = none from (St.obj_set_ne hne).trans hns) (StLe.new (st := st.addTok tk) hom (StLe.addTok _ (.refl _)))) ⟨?_, rfl⟩)
            rw [hstep]
            rfl
          | ok p =>
            obtain ⟨t, m⟩ := p
            rw [ho] at hstep
            simp only at hstep
            obtain ⟨m1, m2, m3⟩ := one_ok ho
            rw [List.length_drop] at m2
            refine AOps.weaken (T' := [(33, tkE t 0), (8, .view 4 (out.map tokRow) (.own tk 51)), (5, .cptr os 4 0 0), (0, .str s)]) (tl4 rfl rfl rfl rfl) (.refl _) ?_
            repeat (refine sm rfl ?_)
            refine al rfl rfl fun o9 ho9 => ?_
            refine soN 9 rfl rfl rfl rfl rfl rfl ho9 ?_
            repeat (first | refine nl ?_ | refine AWP.seq ?_ | refine rg ?_ | refine sm rfl ?_ | refine lnv rfl rfl ?_)
            refine AWP.cond_dec rfl (fun h => ?_) (fun h => AWP.skip ?_)
            · have hge : 2000 ≤ out.length := by
                rw [List.length_map] at h
                omega
              rw [if_pos hge] at hstep
              repeat (first | refine nl ?_ | refine AWP.seq ?_ | refine rg ?_ | refine sm rfl ?_)
              refine AWP.cond_true rfl ?_
              repeat (refine AWP.seq ?_)
              refine AWP.draw rfl 5 5 (fun _ _ => False) rfl ?_
              repeat (first | refine ds rfl rfl ?_ | refine dq rfl rfl rfl (fun st1 hle => fa rfl rfl (nl ⟨_, rfl, rfl, rfl⟩)) ?_ | refine dq rfl rfl rfl (fun st1 hle => lc rfl rfl (hle.obj _ _ (St.obj_set _ _ _)) rfl rfl (nl ⟨_, rfl, rfl, rfl⟩)) ?_)
              refine dn ⟨fun _ => ?_, fun h => absurd h (by decide)⟩
              repeat (first | refine nl ?_ | refine sm rfl ?_)
              refine AWP.ret (rets rfl (Le.tri (.nilShared 0 4) (.refl _) (.refl _)) (StLe.new (show ((st.set om (.smap (wmap words))).addTok tk).obj os = none from (St.obj_set_ne hne).trans hns) (StLe.new (st := st.addTok tk) hom (StLe.addTok _ (.refl _)))) ⟨?_, rfl⟩)
              rw [hstep]
              rfl
            · have hge : ¬ 2000 ≤ out.length := by
                rw [List.length_map] at h
                omega
              rw [if_neg hge] at hstep
              repeat (first | refine nl ?_ | refine AWP.seq ?_ | refine rg ?_ | refine sm rfl ?_)
              refine AWP.cond_false rfl (AWP.skip ?_)
              repeat (first | refine rg ?_ | refine sm rfl ?_ | refine leW rfl rfl rfl rfl rfl ?_ | refine bs1 rfl rfl rfl rfl rfl rfl ?_)
              refine ap rfl rfl rfl (St.tok_addTok _ _) rfl (by simp only [List.length_cons, List.length_nil, List.length_map]; omega) (by simp only [List.length_cons, List.length_nil, List.length_map, maxLen]; omega) fun tk' htk' => ?_
              have hm : out.map tokRow ++ [(AV.agg (AV.agg (tokRow t)).cells).cells] = (out ++ [t]).map tokRow := by rw [List.map_append]; rfl
              rw [hm]
              have hst2 : ∀ (c : AObj), ((((st.set om (.smap (wmap words))).addTok tk).set os c).untok tk).addTok tk' = ((((st.set om (.smap (wmap words))).addTok tk).untok tk).addTok tk').set os c := fun _ => rfl
              rw [hst2]
              have htk2 : st.tok tk' = false := St.tok_of_add (st := st) htk'
              repeat (first | refine nl ?_ | refine rg ?_ | refine sm rfl ?_)
              refine AOps.weaken (tl3 (i0 := 8) (i1 := 5) (i2 := 0) rfl rfl rfl) (.refl _) ?_
              have hdd : (s.drop pos).drop m = s.drop (pos + m) := List.drop_drop ..
              rw [hdd] at hstep
              refine cl rfl rfl (skip_ok s (by omega) (pos + m) line om os (by omega) (by omega) _) fun _ st' hst' => ?_
              subst hst'
              obtain ⟨w1, w2, w3, w4⟩ := skip_le false (s.drop (pos + m)) line
              have w6 := skip_sum false (s.drop (pos + m)) line
              have w7 := skip_tail (s.drop (pos + m)) line
              rw [List.length_drop] at w1 w2 w6 w7
              rw [List.drop_drop] at w7
              generalize skip false (s.drop (pos + m)) line = sk at w1 w2 w3 w6 w7 hstep ⊢
              repeat (refine nl ?_)
              refine ⟨(fuel, s.length - sk.1.length, sk.2, out ++ [t], tk'), ⟨by simp only; omega, by simp only; omega, ?_, by simp only; omega, by simp only [List.length_append, List.length_cons, List.length_nil]; omega, htk2⟩, by simp only; omega, (tl3 rfl rfl rfl), ?_⟩
              · simp only
                rw [hstep]
                have w8 : s.length - sk.1.length = pos + m + (s.length - (pos + m) - sk.1.length) := by omega
                rw [w8, w7]
              · exact StLe.set _ _ (StLe.reTok (st := st.set om (.smap (wmap words))) h6 tk')
        · have hlt : pos = s.length := by have : ¬ (pos : Int) < (s.length : Int) := h; omega
          subst hlt
          obtain ⟨fuel, rfl⟩ : ∃ k, fuel = k + 1 := ⟨fuel - 1, by omega⟩
          rw [List.drop_length] at h3
          have hstep : scan s = (out ++ [⟨0, line, [], 0⟩], 0, 0) := h3
          refine AWP.weaken (T' := [(8, .view 4 (out.map tokRow) (.own tk 51)), (5, .cptr os 4 0 0), (0, .str s)]) (st' := ((st.set om (.smap (wmap words))).addTok tk).set os (.cells 62 4 [scanRow s s.length line om])) (tl3 rfl rfl rfl) (.refl _) ?_
          repeat (first | refine AWP.seq ?_ | refine rg ?_ | refine sm rfl ?_ | refine fa rfl rfl ?_ | refine lc rfl rfl (St.obj_set _ _ _) rfl rfl ?_)
          refine bds (cs := tokRow ⟨0, line, [], 0⟩) rfl rfl rfl rfl ?_
          repeat (refine bs1 rfl rfl rfl rfl rfl rfl ?_)
          refine ap rfl rfl rfl (St.tok_addTok _ _) rfl (by simp only [List.length_cons, List.length_nil, List.length_map]; omega) (by simp only [List.length_cons, List.length_nil, List.length_map, maxLen]; omega) fun tk' htk' => ?_
          have hm : out.map tokRow ++ [(AV.agg (tokRow ⟨0, line, [], 0⟩)).cells] = (out ++ [(⟨0, line, [], 0⟩ : Tk)]).map tokRow := by rw [List.map_append]; rfl
          rw [hm]
          repeat (first | refine nl ?_ | refine sm rfl ?_)
          refine AWP.ret (rets rfl (Le.tri (.shared _ _ _) (.refl _) (.refl _)) (StLe.new (st := (((st.set om (.smap (wmap words))).addTok tk).untok tk).addTok tk') (show ((((st.set om (.smap (wmap words))).addTok tk).untok tk).addTok tk').obj os = none from (St.obj_set_ne hne).trans hns) (StLe.new (st := ((st.addTok tk).untok tk).addTok tk') hom ((StLe.reTok h6 tk').trans (StLe.addTok _ (.refl _))))) ⟨?_, rfl⟩)
          rw [hstep]
          rfl
end Go.Proofs
/- A constant's bytes: the mark behind the block. No conditions: lemmas only. -/
namespace Go.AM
open Go.RowKit (Below)
variable {P : Program} {n : Nat} {K : Post} {E : EPost} {T : Tmps} {st : St} {ops : Array Oper} {rest : List Oper}
variable {d : Tmp} {dd : Option Tmp} {x y z : Operand} {ty : TypeId} {pos : String} {es : Array Edge} {gd : Option (Nat × Bool)}

theorem freeze_other (w : World) (b off n k : Nat) (h : k ≠ b) : (w.freeze ⟨b, off, none⟩ n).heap[k]? = w.heap[k]? := by
  unfold World.freeze
  split
  · rfl
  · simp only [Array.getElem?_modify]
    rw [if_neg (fun e => h e.symm)]

theorem freeze_same {w : World} {b off n : Nat} {cur : Array Value} {e : TypeId} {fr : Nat × Nat} (hb : w.heap[b]? = some (.cells cur e fr)) : ∃ fr', (w.freeze ⟨b, off, none⟩ n).heap[b]? = some (.cells cur e fr') := by
  unfold World.freeze
  split
  · exact ⟨fr, hb⟩
  · obtain ⟨lo, hi⟩ := fr
    simp only [Array.getElem?_modify, if_true, hb, Option.map_some]
    exact ⟨_, rfl⟩

theorem freeze_size (w : World) (b off n : Nat) : (w.freeze ⟨b, off, none⟩ n).heap.size = w.heap.size := by
  unfold World.freeze
  split
  · rfl
  · simp

theorem freeze_rest (w : World) (b off n : Nat) : (w.freeze ⟨b, off, none⟩ n).os = w.os ∧ (w.freeze ⟨b, off, none⟩ n).tape = w.tape ∧ (w.freeze ⟨b, off, none⟩ n).output = w.output := by
  unfold World.freeze
  split <;> exact ⟨rfl, rfl, rfl⟩

theorem StLe.untok_add {tk : Nat} (h : st.tok tk = false) : StLe ((st.addTok tk).untok tk) st :=
  ⟨fun _ _ h => h, fun t ht => by
    simp only [St.addTok, St.untok]
    by_cases h2 : t = tk
    · subst h2; rw [h] at ht; cases ht
    · simp [h2, ht], rfl⟩

/-- A join that also knows something. -/
theorem midp {c c' : Code} (p : Prop) (T' : Tmps) (st' : St) (h : AWP P n c (fun T1 st1 => TLe T1 T' ∧ StLe st1 st' ∧ p) E T st) (k : p → AWP P n c' K E T' st') : AWP P n c (AWP P n c' K E) E T st :=
  AWP.mono h (fun _ _ ⟨h2, h3, h4⟩ => AWP.weaken h2 h3 (k h4)) (fun _ _ _ he => he)

/-- A block that is neither an object nor a token's gets its mark. -/
theorem Sim.mark {g : G} {w : World} (hs : Sim g w st) (b off n : Nat) (cur : Array Value) (e : TypeId) (fr : Nat × Nat) (hb : w.heap[b]? = some (.cells cur e fr)) (hbase : g.base ≤ b)
    (htoks : ∀ t b' r, st.tok t = true → g.tok t = some (some b', r) → b' ≠ b) (hobjs : ∀ o c b' m, st.obj o = some c → g.obj o = some (b', m) → b' ≠ b) : Ext g w g (w.freeze ⟨b, off, none⟩ n) ∧ Sim g (w.freeze ⟨b, off, none⟩ n) st := by
  have hoth : ∀ k, k ≠ b → (w.freeze ⟨b, off, none⟩ n).heap[k]? = w.heap[k]? := fun k hk => freeze_other w b off n k hk
  obtain ⟨fr', hb'⟩ := freeze_same (off := off) (n := n) hb
  have hsz := freeze_size w b off n
  obtain ⟨f1, f2, f3⟩ := freeze_rest w b off n
  have he : Ext g w g (w.freeze ⟨b, off, none⟩ n) := by
    refine ⟨rfl, Nat.le_refl _, fun _ _ h => h, fun b' i h => ?_, fun _ _ h => h, fun _ _ h => h, ⟨f1, f2, f3, by omega, fun j hj => hoth j (by omega)⟩⟩
    by_cases hbb : b' = b
    · subst hbb
      rw [cell_of_row _ b' i cur e fr' hb', cell_of_row w b' i cur e fr hb]
    · exact World.cell?_of_block (w := w) (hoth b' hbb)
  refine ⟨he, by rw [hsz]; exact hs.base, fun o c hc => ?_, hs.inj, fun t ht => ?_, hs.tobj, hs.tinj, fun b i h => by rw [hsz]; exact hs.immlt b i h, fun o b m h => by rw [hsz]; exact hs.objlt o b m h, fun t b r h => by rw [hsz]; exact hs.toklt t b r h, hs.fresh, fun gi row h => (hs.globs gi row h).ext he⟩
  · obtain ⟨b', m, h1, h2, h3, h4⟩ := hs.objs o c hc
    exact ⟨b', m, h1, h2, h3.mono he (hoth b' (hobjs o c b' m hc h1)), h4⟩
  · obtain ⟨⟨b', len, cap, e', size⟩, h1, h2⟩ := hs.toks t ht
    refine ⟨_, h1, ?_⟩
    cases b' with
    | none => exact h2
    | some b' =>
      obtain ⟨a1, a2, a3, a4, ⟨cur', a5, a6⟩, a7⟩ := h2
      exact ⟨a1, a2, a3, a4, ⟨cur', (hoth b' (htoks t b' _ ht h1)).trans a5, a6⟩, a7⟩

/-- The bytes of a constant. -/
theorem cvm {t e : TypeId} [hut : Und P t (.slice e)] [hue : Und P e (.int .u8)] {sz : Nat} {rows : List (List AV)} {tk : Nat} (hg : goes ops n T ⟨dd, .convert t t x, ty, pos, es, gd⟩ = some d)
    (hx : ev st T x = some (.view sz rows (.own tk e))) (htk : st.tok tk = true) (hne : rows ≠ [])
    (h : AOps P n ops rest K E ((d, .view sz rows .shared) :: T) (st.untok tk)) : AOps P n ops (⟨dd, .convert t t x, ty, pos, es, gd⟩ :: rest) K E T st := by
  refine AOps.stepAny hg fun g w a hs hk => ?_
  have h1 := ev_R hs hk hx
  generalize hux : a.eval x = ux at h1
  have hsu : Sim g w (st.untok tk) := hs.le (StLe.untok tk)
  cases h1 with
  | vnil => exact absurd rfl hne
  | vemp => exact absurd rfl hne
  | view _ _ _ b off cap f hc hm hsz h1' ht himm hh =>
    obtain ⟨h0, sz', hs1, htok⟩ := ht
    subst h0
    have hth := hs.tokOf htk htok
    obtain ⟨a1, a2, a3, a4, ⟨cur, a5, a6⟩, a7⟩ := hth
    have hm1 := Sim.mark hsu b cur.size 1 cur e (0, 0) a5 a1 (fun t' b' r h1 h2 e' => by
      subst e'
      simp only [St.untok] at h1
      split at h1
      · cases h1
      · rename_i hne'
        exact hne' (hs.tinj t' tk b' r _ h1 htk h2 htok)) (fun o c b' m h1 h2 e' => by
      subst e'
      exact hs.tobj tk o c b' _ m htk h1 htok h2)
    obtain ⟨he, hs'⟩ := hm1
    have hrun : (execOp a.eval ⟨dd, .convert t t x, ty, pos, es, gd⟩).run P w = .ok (.value (.slice (some ⟨b, 0, none⟩) rows.length cap)) (w.freeze ⟨b, cur.size, none⟩ 1) := by
      have hshape : w.shape? b = some (e, cur.size) := by
        unfold World.shape?
        rw [a5]
      simp [execOp, convert, hux, run_und (P := P) (t := t) w, run_und (P := P) (t := e) w, markStringish, hshape]
    refine ⟨_, g, _, .view sz rows .shared, st.untok tk, hrun, he, hs', ?_, h⟩
    exact R.view sz rows .shared b 0 cap f hc hm hsz h1' trivial (fun i j hi hj => ⟨(himm i j hi hj).1, by rw [he.cell _ _ (himm i j hi hj).1]; exact (himm i j hi hj).2⟩) (fun i j row c hr hcc => (hh i j row c hr hcc).ext he)
end Go.AM
/- Regions that draw their order, every operation keeping an invariant of the state. No conditions: definitions and lemmas only. -/
namespace Go.AM
open Go.RowKit (Below)

section
variable {P : Program} {n : Nat} {K : Post} {E : EPost} {T : Tmps} {st : St}

/-- From every state of the invariant to one of it, the outcome as told. -/
def EffI (P : Program) (n : Nat) (I : St → Prop) (T : Tmps) (o : Oper) (Q : AV → Prop) : Prop :=
  ∀ st g w a (K' : Act → World → Prop) (Q' : Exit → Act → World → Prop), I st → Sim g w st → Known g w T a → a.tmps.size = n →
    (∀ rv g' w' v st1, Ext g w g' w' → Sim g' w' st1 → R g' w' v rv → Q v → I st1 → K' (a.put o.dst rv) w') → o.wp P a w K' Q'

def StepI (P : Program) (n : Nat) (I : St → Prop) (ops : Array Oper) (T : Tmps) (o : Oper) (Q : AV → Prop) : Prop :=
  (wantedA ops T o = some true ∧ EffI P n I T o Q) ∨ (wantedA ops T o = some false ∧ Q (.lit undef))

/-- The walk in the text's order; behind it k. -/
def DRunI (P : Program) (n : Nat) (I : St → Prop) (ops : Array Oper) : List Oper → List (AV → Prop) → Tmps → (Tmps → St → Prop) → Prop
  | [], [], T, k => ∀ st, I st → k T st
  | o :: r, Q :: Qs, T, k => ∃ d, o.dst = some d ∧ Nat.blt d n = true ∧ (∃ u, Q u) ∧ StepI P n I ops (see ops o T) o Q ∧ ∀ u, Q u → DRunI P n I ops r Qs ((d, u) :: T) k
  | _, _, _, _ => False

/-- The entries of the first i operations. -/
def ents (l : List Oper) (us : Nat → AV) : Nat → Tmps
  | 0 => []
  | i + 1 => match (l[i]?).bind (·.dst) with
    | some d => (d, us i) :: ents l us i
    | none => ents l us i

theorem DRunI.out {I : St → Prop} {ops : Array Oper} {k : Tmps → St → Prop} (us : Nat → AV) (l : List Oper) : ∀ (r : List Oper) (Qs : List (AV → Prop)) (i0 : Nat), (∀ (i : Nat) (o : Oper), r[i]? = some o → l[i0 + i]? = some o) → (∀ (i : Nat) (Q : AV → Prop), Qs[i]? = some Q → Q (us (i0 + i))) →
    DRunI P n I ops r Qs (ents l us i0 ++ T) k → Qs.length = r.length ∧ (∀ st, I st → k (ents l us (i0 + r.length) ++ T) st) ∧
      ∀ i o, r[i]? = some o → ∃ d Q, o.dst = some d ∧ d < n ∧ Qs[i]? = some Q ∧ StepI P n I ops (see ops o (ents l us (i0 + i) ++ T)) o Q
  | [], [], i0, _, _, h => ⟨rfl, h, fun i o ho => by simp at ho⟩
  | [], _ :: _, _, _, _, h => h.elim
  | _ :: _, [], _, _, _, h => h.elim
  | o :: r, Q :: Qs, i0, hl, hq, h => by
    obtain ⟨d, h1, h2, _, h4, h5⟩ := h
    have h6 := h5 (us i0) (hq 0 Q rfl)
    have hl0 : l[i0]? = some o := by simpa using hl 0 o rfl
    have he : (d, us i0) :: (ents l us i0 ++ T) = ents l us (i0 + 1) ++ T := by
      rw [ents, hl0]
      simp only [Option.bind_some, h1, List.cons_append]
    rw [he] at h6
    obtain ⟨a1, a2, a3⟩ := DRunI.out us l r Qs (i0 + 1) (fun i o' ho' => by have := hl (i + 1) o' (by simpa using ho'); rwa [show i0 + (i + 1) = i0 + 1 + i by omega] at this) (fun i Q' hQ' => by have := hq (i + 1) Q' (by simpa using hQ'); rwa [show i0 + (i + 1) = i0 + 1 + i by omega] at this) h6
    refine ⟨by simp [a1], by rw [List.length_cons, show i0 + (r.length + 1) = i0 + 1 + r.length by omega]; exact a2, fun i o' ho' => ?_⟩
    cases i with
    | zero =>
      simp only [List.getElem?_cons_zero, Option.some.injEq] at ho'
      subst ho'
      exact ⟨d, Q, h1, by simpa using h2, rfl, h4⟩
    | succ i =>
      obtain ⟨d', Q', b1, b2, b3, b4⟩ := a3 i o' (by simpa using ho')
      exact ⟨d', Q', b1, b2, by simpa using b3, by rwa [show i0 + 1 + i = i0 + (i + 1) by omega] at b4⟩

/-- Values that fit, for all numbers. -/
theorem DRunI.fits {I : St → Prop} {ops : Array Oper} {k : Tmps → St → Prop} : ∀ (r : List Oper) (Qs : List (AV → Prop)) (T : Tmps), DRunI P n I ops r Qs T k → ∀ (i : Nat) (Q : AV → Prop), Qs[i]? = some Q → ∃ u, Q u
  | [], [], _, _, i, Q, h => by simp at h
  | [], _ :: _, _, h, _, _, _ => h.elim
  | _ :: _, [], _, h, _, _, _ => h.elim
  | o :: r, Q0 :: Qs, T, h, i, Q, hq => by
    obtain ⟨d, h1, h2, ⟨u, hu⟩, h4, h5⟩ := h
    cases i with
    | zero => simp at hq; subst hq; exact ⟨u, hu⟩
    | succ i => exact DRunI.fits r Qs _ (h5 u hu) i Q (by simpa using hq)

/-- An entry of ents, told by its number. -/
theorem ents_get {l : List Oper} {us : Nat → AV} : ∀ (i : Nat) (t : Nat) (v : AV), Tmps.get (ents l us i) t = some v → ∃ j, j < i ∧ (l[j]?).bind (·.dst) = some t ∧ v = us j
  | 0, t, v, h => by cases h
  | i + 1, t, v, h => by
    unfold ents at h
    cases hd : (l[i]?).bind (·.dst) with
    | none =>
      rw [hd] at h
      obtain ⟨j, h1, h2, h3⟩ := ents_get i t v h
      exact ⟨j, by omega, h2, h3⟩
    | some d =>
      rw [hd] at h
      simp only at h
      rw [Tmps.get_cons] at h
      by_cases hdt : d = t
      · rw [if_pos hdt] at h
        cases h
        exact ⟨i, by omega, by rw [hd, hdt], rfl⟩
      · rw [if_neg hdt] at h
        obtain ⟨j, h1, h2, h3⟩ := ents_get i t v h
        exact ⟨j, by omega, h2, h3⟩

theorem ents_none {l : List Oper} {us : Nat → AV} : ∀ (i : Nat) (t : Nat), Tmps.get (ents l us i) t = none → ∀ j, j < i → (l[j]?).bind (·.dst) ≠ some t
  | 0, t, _, j, h => by omega
  | i + 1, t, h, j, hj => by
    unfold ents at h
    cases hd : (l[i]?).bind (·.dst) with
    | none =>
      rw [hd] at h
      rcases Nat.lt_or_ge j i with h1 | h1
      · exact ents_none i t h j h1
      · have : j = i := by omega
        subst this
        rw [hd]
        simp
    | some d =>
      rw [hd] at h
      simp only at h
      rw [Tmps.get_cons] at h
      by_cases hdt : d = t
      · rw [if_pos hdt] at h; cases h
      · rw [if_neg hdt] at h
        rcases Nat.lt_or_ge j i with h1 | h1
        · exact ents_none i t h j h1
        · have : j = i := by omega
          subst this
          rw [hd]
          simpa using hdt

end
end Go.AM
/- Shifts, function values that capture, copies, slices of arrays. No conditions: lemmas only. -/
namespace Go.AM
open Go.RowKit (Below)
section
variable {P : Program} {n : Nat} {K : Post} {E : EPost} {T : Tmps} {st : St} {ops : Array Oper} {rest : List Oper}
variable {ty : TypeId} {pos : String} {es : Array Edge} {gd : Option (Nat × Bool)} {d : Tmp} {x y : Operand} {dd : Option Tmp}
end
end Go.AM
/- Contracts found by themselves; tests whose outcome is known. No conditions: definitions and lemmas only. -/
namespace Go.AM
open Go.RowKit (Below)
/-- A function that answers X to these arguments and leaves the state alone. -/
class PureFn (P : Program) (f : FuncId) (args : List AV) (X : outParam AV) : Prop where
  out : ∀ st, ACalls P f args st (fun v st' => v = X ∧ st' = st) (fun _ _ => False)
section
variable {P : Program} {n : Nat} {K : Post} {E : EPost} {T : Tmps} {st : St} {ops : Array Oper} {rest : List Oper}
variable {ty : TypeId} {pos : String} {es : Array Edge} {gd : Option (Nat × Bool)} {d : Tmp} {x y : Operand} {dd : Option Tmp}
theorem clp {f : FuncId} [hf : GoFun P f] {args : Array Operand} {tys : Array TypeId} {avs : List AV} {X : AV}
    (hg : goes ops n T ⟨dd, .call ⟨.value (.func f), args, tys⟩, ty, pos, es, gd⟩ = some d) (ha : evs st T args.toList = some avs)
    (hc : PureFn P f avs X) (h : AOps P n ops rest K E ((d, X) :: T) st) :
    AOps P n ops (⟨dd, .call ⟨.value (.func f), args, tys⟩, ty, pos, es, gd⟩ :: rest) K E T st := cle hg ha (hc.out st) h
/-- A value is told in other words. -/
theorem Tmps.tell {v v' : AV} {t : Nat} (ht : T.get t = some v) (he : v = v') (h : AOps P n ops rest K E ((t, v') :: T) st) : AOps P n ops rest K E T st :=
  AOps.weaken (TLe.consE ht he (.refl _)) (.refl _) h
def gtmp (ops : Array Oper) (T : Tmps) (o : Oper) : Option (Nat × Bool) :=
  match o.guard with
  | some (j, _) => match (ops[j]?).bind (·.dst) with
    | some t => match T.get t with
      | some (.bool b) => some (t, b)
      | _ => none
    | none => none
  | none => none
theorem gtmp_some {o : Oper} {t : Nat} {b : Bool} (h : gtmp ops T o = some (t, b)) : T.get t = some (.bool b) := by
  unfold gtmp at h
  split at h
  · split at h
    · split at h
      · simp only [Option.some.injEq, Prod.mk.injEq] at h
        obtain ⟨rfl, rfl⟩ := h
        assumption
      · cases h
    · cases h
  · cases h
/-- The guard's outcome is known. -/
theorem gB {o : Oper} {t : Nat} {b : Bool} (b' : Bool) (h : gtmp ops T o = some (t, b)) (hb : b = b') (k : AOps P n ops (o :: rest) K E ((t, .bool b') :: T) st) : AOps P n ops (o :: rest) K E T st :=
  Tmps.tell (gtmp_some h) (by rw [hb]) k
/-- The test's outcome is known. -/
theorem cT {c : Operand} {x y : Code} {b : Bool} (hc : ev st T c = some (.bool b)) (hb : b = true) (h : AWP P n x K E T st) : AWP P n (.cond c x y) K E T st := by
  subst hb; exact AWP.cond_true hc h
theorem cF {c : Operand} {x y : Code} {b : Bool} (hc : ev st T c = some (.bool b)) (hb : b = false) (h : AWP P n y K E T st) : AWP P n (.cond c x y) K E T st := by
  subst hb; exact AWP.cond_false hc h
end
end Go.AM
/- Regions that draw their order, some operations changing the state, one behind the other. No conditions: definitions and lemmas only. -/
namespace Go.AM
open Go.RowKit (Below)
/-- The form that is asked of a region: k operations in whatever order, those of E one behind the other, the rest behind them in the text's order. -/
def drawOkS (l : List Oper) (k : Nat) (E : List Nat) : Bool :=
  let S := predSets l []
  Nat.ble k l.length && ((List.range l.length).all fun i =>
    match l[i]? with
    | none => false
    | some o => (edgesOf o).all (fun x => Nat.blt x i) &&
      (bif Nat.blt i k then
        (o.dst.isSome || E.contains i) && (List.range k).all (fun j => match l[j]? with
          | none => false
          | some p => (bif Nat.beq i j then true else (match o.dst, p.dst with | some a, some b => !(Nat.beq a b) | _, _ => true)) &&
            (match p.dst with
              | some t => bif (o.looksAt l.toArray).contains t then (S.getD i 0).testBit j else true
              | none => true))
      else (List.range i).all fun j => (S.getD i 0).testBit j)) &&
  (List.range E.length).all fun b => Nat.blt (E.getD b 0) k && (List.range b).all fun a => Nat.blt (E.getD a 0) (E.getD b 0) && (S.getD (E.getD b 0) 0).testBit (E.getD a 0)
section
variable {P : Program} {n : Nat} {K : Post} {E : EPost} {T : Tmps} {st : St}
theorem drawOkS_spec {l : List Oper} {k : Nat} {Es : List Nat} (h : drawOkS l k Es = true) : k ≤ l.length ∧ (∀ i o, l[i]? = some o → ∀ x ∈ edgesOf o, x < i) ∧
    (∀ i o, l[i]? = some o → i < k → (o.dst = none → Es.contains i = true) ∧ ∀ j p, j < k → l[j]? = some p → (i ≠ j → ∀ a b, o.dst = some a → p.dst = some b → a ≠ b) ∧
      (∀ t, p.dst = some t → (o.looksAt l.toArray).contains t = true → ∀ listed : Array Bool, Closed l listed → (∀ x ∈ edgesOf o, listed.getD x false = true) → listed.getD j false = true)) ∧
    (∀ i o, k ≤ i → l[i]? = some o → ∀ listed : Array Bool, Closed l listed → (∀ x ∈ edgesOf o, listed.getD x false = true) → ∀ j, j < i → listed.getD j false = true) ∧
    (∀ b i : Nat, Es[b]? = some i → i < k ∧ ∀ a j : Nat, a < b → Es[a]? = some j → j < i ∧ ∀ o, l[i]? = some o → ∀ listed : Array Bool, Closed l listed → (∀ x ∈ edgesOf o, listed.getD x false = true) → listed.getD j false = true) := by
  simp only [drawOkS, Bool.and_eq_true] at h
  obtain ⟨⟨h0, hall⟩, hE⟩ := h
  have hS : ∀ listed, Closed l listed → ∀ i o, l[i]? = some o → (∀ x ∈ edgesOf o, listed.getD x false = true) → ∀ j, ((predSets l []).getD i 0).testBit j = true → listed.getD j false = true := by
    intro listed hc i o ho he j hj
    exact predSets_spec l listed hc l [] (fun j => by simp) (fun i o hi => by simp at hi) i o (by rw [predSets_length]; simpa using (List.getElem?_eq_some_iff.1 ho).1) ho he j hj
  have hat : ∀ i o, l[i]? = some o → ((edgesOf o).all (fun x => Nat.blt x i) = true ∧
      (bif Nat.blt i k then
        (o.dst.isSome || Es.contains i) && (List.range k).all (fun j => match l[j]? with
          | none => false
          | some p => (bif Nat.beq i j then true else (match o.dst, p.dst with | some a, some b => !(Nat.beq a b) | _, _ => true)) &&
            (match p.dst with
              | some t => bif (o.looksAt l.toArray).contains t then ((predSets l []).getD i 0).testBit j else true
              | none => true))
      else (List.range i).all fun j => ((predSets l []).getD i 0).testBit j) = true) := by
    intro i o ho
    have hi := (List.getElem?_eq_some_iff.1 ho).1
    have := List.all_eq_true.1 hall i (List.mem_range.2 hi)
    simp only [ho, Bool.and_eq_true] at this
    exact this
  refine ⟨Nat.ble_le h0, fun i o ho x hx => ?_, fun i o ho hik => ?_, fun i o hik ho listed hc he j hj => ?_, fun b i hb => ?_⟩
  · have := List.all_eq_true.1 (hat i o ho).1 x hx
    simpa [Nat.blt_eq] using this
  · have h2 := (hat i o ho).2
    rw [show Nat.blt i k = true by simpa [Nat.blt_eq] using hik, cond_true, Bool.and_eq_true] at h2
    refine ⟨fun hd => ?_, fun j p hj hp => ?_⟩
    · rw [hd] at h2
      simpa using h2.1
    · have h3 := List.all_eq_true.1 h2.2 j (List.mem_range.2 hj)
      simp only [hp, Bool.and_eq_true] at h3
      refine ⟨fun hij a b ha hb => ?_, fun t ht hlook listed hc he => ?_⟩
      · have h4 := h3.1
        rw [nbeq_ne hij, cond_false, ha, hb] at h4
        intro e
        rw [e] at h4
        simp at h4
      · have h4 := h3.2
        rw [ht] at h4
        simp only [hlook, cond_true] at h4
        exact hS listed hc i o ho he j h4
  · have h2 := (hat i o ho).2
    rw [show Nat.blt i k = false by rw [Bool.eq_false_iff, Ne, Nat.blt_eq]; omega, cond_false] at h2
    exact hS listed hc i o ho he j (List.all_eq_true.1 h2 j (List.mem_range.2 hj))
  · have hbl := (List.getElem?_eq_some_iff.1 hb).1
    have h2 := List.all_eq_true.1 hE b (List.mem_range.2 hbl)
    have eb : Es.getD b 0 = i := by rw [List.getD_eq_getElem?_getD, hb]; rfl
    simp only [eb, Bool.and_eq_true] at h2
    refine ⟨by simpa [Nat.blt_eq] using h2.1, fun a j hab ha => ?_⟩
    have ea : Es.getD a 0 = j := by rw [List.getD_eq_getElem?_getD, ha]; rfl
    have h3 := List.all_eq_true.1 h2.2 a (List.mem_range.2 hab)
    simp only [ea, Bool.and_eq_true] at h3
    exact ⟨by simpa [Nat.blt_eq] using h3.1, fun o ho listed hc he => hS listed hc i o ho he j h3.2⟩
/-- From every state of I to one of I', the outcome as told. -/
def EffJ (P : Program) (n : Nat) (I I' : St → Prop) (T : Tmps) (o : Oper) (Q : AV → Prop) : Prop :=
  ∀ st g w a (K' : Act → World → Prop) (Q' : Exit → Act → World → Prop), I st → Sim g w st → Known g w T a → a.tmps.size = n →
    (∀ rv g' w' v st1, Ext g w g' w' → Sim g' w' st1 → R g' w' v rv → Q v → I' st1 → K' (a.put o.dst rv) w') → o.wp P a w K' Q'
def StepS (P : Program) (n : Nat) (I : Nat → St → Prop) (Es : List Nat) (i : Nat) (ops : Array Oper) (T : Tmps) (o : Oper) (Q : AV → Prop) : Prop :=
  (wantedA ops T o = some true ∧ (Es.contains i = false → ∀ j, EffJ P n (I j) (I j) T o Q) ∧ ∀ j, Es[j]? = some i → EffJ P n (I j) (I (j + 1)) T o Q) ∨ (wantedA ops T o = some false ∧ Q (.lit undef) ∧ Es.contains i = false)
/-- The walk in the text's order; behind it k. -/
def DRunS (P : Program) (n : Nat) (I : Nat → St → Prop) (Es : List Nat) (ops : Array Oper) : Nat → List Oper → List (AV → Prop) → Tmps → (Tmps → St → Prop) → Prop
  | _, [], [], T, k => ∀ st, I Es.length st → k T st
  | i, o :: r, Q :: Qs, T, k => (∃ u, Q u) ∧ dstOk o.dst n = true ∧ StepS P n I Es i ops (see ops o T) o Q ∧ ∀ u, Q u → DRunS P n I Es ops (i + 1) r Qs (T.put o.dst u) k
  | _, _, _, _, _ => False
theorem DRunS.out {I : Nat → St → Prop} {Es : List Nat} {ops : Array Oper} {k : Tmps → St → Prop} (us : Nat → AV) (l : List Oper) : ∀ (r : List Oper) (Qs : List (AV → Prop)) (i0 : Nat), (∀ (i : Nat) (o : Oper), r[i]? = some o → l[i0 + i]? = some o) → (∀ (i : Nat) (Q : AV → Prop), Qs[i]? = some Q → Q (us (i0 + i))) →
    DRunS P n I Es ops i0 r Qs (ents l us i0 ++ T) k → Qs.length = r.length ∧ (∀ st, I Es.length st → k (ents l us (i0 + r.length) ++ T) st) ∧
      ∀ i o, r[i]? = some o → ∃ Q, dstOk o.dst n = true ∧ Qs[i]? = some Q ∧ StepS P n I Es (i0 + i) ops (see ops o (ents l us (i0 + i) ++ T)) o Q
  | [], [], i0, _, _, h => ⟨rfl, h, fun i o ho => by simp at ho⟩
  | [], _ :: _, _, _, _, h => h.elim
  | _ :: _, [], _, _, _, h => h.elim
  | o :: r, Q :: Qs, i0, hl, hq, h => by
    obtain ⟨_, h2, h4, h5⟩ := h
    have h6 := h5 (us i0) (hq 0 Q rfl)
    have hl0 : l[i0]? = some o := by simpa using hl 0 o rfl
    have he : (ents l us i0 ++ T).put o.dst (us i0) = ents l us (i0 + 1) ++ T := by
      rw [ents, hl0]
      simp only [Option.bind_some]
      cases o.dst <;> rfl
    rw [he] at h6
    obtain ⟨a1, a2, a3⟩ := DRunS.out us l r Qs (i0 + 1) (fun i o' ho' => by have := hl (i + 1) o' (by simpa using ho'); rwa [show i0 + (i + 1) = i0 + 1 + i by omega] at this) (fun i Q' hQ' => by have := hq (i + 1) Q' (by simpa using hQ'); rwa [show i0 + (i + 1) = i0 + 1 + i by omega] at this) h6
    refine ⟨by simp [a1], by rw [List.length_cons, show i0 + (r.length + 1) = i0 + 1 + r.length by omega]; exact a2, fun i o' ho' => ?_⟩
    cases i with
    | zero =>
      simp only [List.getElem?_cons_zero, Option.some.injEq] at ho'
      subst ho'
      exact ⟨Q, h2, rfl, h4⟩
    | succ i =>
      obtain ⟨Q', b1, b2, b3⟩ := a3 i o' (by simpa using ho')
      exact ⟨Q', b1, by simpa using b2, by rwa [show i0 + 1 + i = i0 + (i + 1) by omega] at b3⟩
theorem DRunS.fits {I : Nat → St → Prop} {Es : List Nat} {ops : Array Oper} {k : Tmps → St → Prop} : ∀ (r : List Oper) (Qs : List (AV → Prop)) (i0 : Nat) (T : Tmps), DRunS P n I Es ops i0 r Qs T k → ∀ (i : Nat) (Q : AV → Prop), Qs[i]? = some Q → ∃ u, Q u
  | [], [], _, _, _, i, Q, h => by simp at h
  | [], _ :: _, _, _, h, _, _, _ => h.elim
  | _ :: _, [], _, _, h, _, _, _ => h.elim
  | o :: r, Q0 :: Qs, i0, T, h, i, Q, hq => by
    obtain ⟨⟨u, hu⟩, h2, h4, h5⟩ := h
    cases i with
    | zero => simp at hq; subst hq; exact ⟨u, hu⟩
    | succ i => exact DRunS.fits r Qs _ _ (h5 u hu) i Q (by simpa using hq)
/-- How many of a list are done, where the first ones are. -/
theorem countP_first (p : Nat → Bool) : ∀ (Es : List Nat) (j : Nat), j ≤ Es.length → (∀ a x, a < j → Es[a]? = some x → p x = true) → (∀ a x, j ≤ a → Es[a]? = some x → p x = false) → Es.countP p = j
  | [], j, hj, _, _ => by simp at hj; simp [hj]
  | x :: Es, 0, _, _, h2 => by
    rw [List.countP_cons, h2 0 x (Nat.le_refl _) rfl]
    have := countP_first p Es 0 (Nat.zero_le _) (fun a y h => by omega) (fun a y _ hy => h2 (a + 1) y (Nat.zero_le _) (by simpa using hy))
    simp [this]
  | x :: Es, j + 1, hj, h1, h2 => by
    rw [List.countP_cons, h1 0 x (by omega) rfl]
    have := countP_first p Es j (by simpa using hj) (fun a y h hy => h1 (a + 1) y (by omega) (by simpa using hy)) (fun a y h hy => h2 (a + 1) y (by omega) (by simpa using hy))
    simp [this]

theorem AWP.drawS {l : List Oper} {id : Nat} (hm : P.follows .mixedOrders = true) (k : Nat) (Es : List Nat) (I : Nat → St → Prop) (Qs : List (AV → Prop)) (hok : drawOkS l k Es = true) (hI : I 0 st)
    (h : DRunS P n I Es l.toArray 0 (l.take k) Qs T fun T' st' => AOps P n l.toArray (l.drop k) K E T' st') : AWP P n (.region id l.toArray true) K E T st := by
  obtain ⟨hkl, hedge, hbody, htail, hchain⟩ := drawOkS_spec hok
  have hfits := DRunS.fits _ _ _ _ h
  have hout := fun (us : Nat → AV) (hus : ∀ (i : Nat) (Q : AV → Prop), Qs[i]? = some Q → Q (us (0 + i))) => DRunS.out (T := T) us l (l.take k) Qs 0 (fun i o ho => by
    have hi : i < k := by have := (List.getElem?_eq_some_iff.1 ho).1; simp at this; omega
    rw [List.getElem?_take_of_lt hi] at ho
    rwa [Nat.zero_add]) hus h
  have hlk0 : (l.take k).length = k := by simp; omega
  -- some values that fit
  obtain ⟨wit, hwit⟩ : ∃ wit : Nat → AV, ∀ (i : Nat) (Q : AV → Prop), Qs[i]? = some Q → Q (wit i) := by
    have : ∀ i : Nat, ∃ u : AV, ∀ Q : AV → Prop, Qs[i]? = some Q → Q u := fun i => by
      cases hq : Qs[i]? with
      | none => exact ⟨.bool true, fun Q h => by cases h⟩
      | some Q =>
        obtain ⟨u, hu⟩ := hfits i Q hq
        exact ⟨u, fun Q' h => by cases h; exact hu⟩
    exact ⟨fun i => Classical.choose (this i), fun i Q hQ => Classical.choose_spec (this i) Q hQ⟩
  have hQl : Qs.length = k := by rw [(hout wit (fun i Q hQ => by rw [Nat.zero_add]; exact hwit i Q hQ)).1, hlk0]
  intro g0 w0 a0 hs0 hk0 hn0
  refine wp_region_any hm ?_
  obtain ⟨hed, hsd⟩ := hs0.draw
  let Inv : Array Bool → Act → World → Prop := fun listed a w => listed.size = l.length ∧ Closed l listed ∧ (∀ j, k ≤ j → j < l.length → listed.getD j true = false) ∧ a.tmps.size = n ∧ a.defers = a0.defers ∧
    ∃ g st1, Ext g0 w0 g w ∧ Sim g w st1 ∧ I (Es.countP fun e => listed.getD e false) st1 ∧
      (∀ t v, Tmps.get T t = some v → (∀ i, i < k → (l[i]?).bind (·.dst) = some t → listed.getD i false = false) → ∃ rv, a.tmps[t]? = some rv ∧ R g w v rv) ∧
      (∀ i d Q, i < k → (l[i]?).bind (·.dst) = some d → Qs[i]? = some Q → listed.getD i false = true → ∃ u rv, Q u ∧ a.tmps[d]? = some rv ∧ R g w u rv)
  let μ : Array Bool → Nat := fun listed => (List.range l.length).countP fun j => !listed.getD j true
  have hμ : ∀ (listed : Array Bool) i, i < l.length → listed.size = l.length → listed.getD i true = false → μ (listed.setIfInBounds i true) + 1 ≤ μ listed := by
    intro listed i hil hsz hi
    have gen : ∀ (A : List Nat), i ∈ A → A.countP (fun j => !(listed.setIfInBounds i true).getD j true) + 1 ≤ A.countP (fun j => !listed.getD j true) := by
      have le : ∀ (A : List Nat), A.countP (fun j => !(listed.setIfInBounds i true).getD j true) ≤ A.countP (fun j => !listed.getD j true) := fun A => List.countP_mono_left fun j _ hj => by
        by_cases hij : i = j
        · subst hij
          rw [Array.getD_eq_getD_getElem?, Array.getElem?_setIfInBounds_self_of_lt (by omega)] at hj
          simp at hj
        · rw [getD_set_ne true hij] at hj; exact hj
      intro A
      induction A with
      | nil => intro h; simp at h
      | cons x A ih =>
        intro h
        rw [List.countP_cons, List.countP_cons]
        by_cases hx : x = i
        · subst hx
          have h1 : (!(listed.setIfInBounds x true).getD x true) = false := by
            rw [Array.getD_eq_getD_getElem?, Array.getElem?_setIfInBounds_self_of_lt (by omega)]; rfl
          have h2 : (!listed.getD x true) = true := by rw [hi]; rfl
          rw [h1, h2, if_neg (by decide), if_pos rfl]
          have := le A
          omega
        · have hm' : i ∈ A := by rcases List.mem_cons.1 h with h | h; exact absurd h.symm hx; exact h
          have := ih hm'
          have h3 : (listed.setIfInBounds i true).getD x true = listed.getD x true := getD_set_ne true (Ne.symm hx)
          rw [h3]
          omega
    exact gen _ (List.mem_range.2 hil)
  -- values that are there
  have choose : ∀ (listed : Array Bool) (a : Act) (g : G) (w : World), (∀ i d Q, i < k → (l[i]?).bind (·.dst) = some d → Qs[i]? = some Q → listed.getD i false = true → ∃ u rv, Q u ∧ a.tmps[d]? = some rv ∧ R g w u rv) →
      ∃ us : Nat → AV, (∀ (i : Nat) (Q : AV → Prop), Qs[i]? = some Q → Q (us i)) ∧ ∀ i d, i < k → (l[i]?).bind (·.dst) = some d → listed.getD i false = true → ∃ rv, a.tmps[d]? = some rv ∧ R g w (us i) rv := by
    intro listed a g w hB
    have : ∀ i : Nat, ∃ u : AV, (∀ Q : AV → Prop, Qs[i]? = some Q → Q u) ∧ ∀ d, i < k → (l[i]?).bind (·.dst) = some d → listed.getD i false = true → ∃ rv, a.tmps[d]? = some rv ∧ R g w u rv := fun i => by
      by_cases hc : i < k ∧ listed.getD i false = true
      · obtain ⟨hik, hli⟩ := hc
        cases hd' : (l[i]?).bind (·.dst) with
        | none => exact ⟨wit i, hwit i, fun d _ hd2 _ => by cases hd2⟩
        | some d =>
          have hq : Qs[i]? = some (Qs[i]'(by omega)) := List.getElem?_eq_getElem _
          obtain ⟨u, rv, h1, h2, h3⟩ := hB i d _ hik hd' hq hli
          refine ⟨u, fun Q h => by rw [hq] at h; cases h; exact h1, fun d' _ hd2 _ => ?_⟩
          cases hd2
          exact ⟨rv, h2, h3⟩
      · exact ⟨wit i, hwit i, fun d h1 _ h2 => absurd ⟨h1, h2⟩ hc⟩
    exact ⟨fun i => Classical.choose (this i), fun i => (Classical.choose_spec (this i)).1, fun i => (Classical.choose_spec (this i)).2⟩
  -- what is seen of a walk's entries is known
  have done : ∀ (m : Nat) (listed : Array Bool) (a : Act) (w : World), Inv listed a w → (∀ j, j < k → listed.getD j true = true) → l.length ≤ k + m → wpAny P .any l.toArray (QOf n a0.defers g0 w0 K E) m listed a w := by
    intro m listed a w ⟨hsz, hcl, htl, hn, hd, g, st1, he, hs, hI1, hA, hB⟩ hall hm'
    have hlist : ∀ j, j < k → listed.getD j false = true := fun j hj => by
      have h1 := hall j hj
      rw [Array.getD_eq_getD_getElem?, Array.getElem?_eq_getElem (by omega)] at h1 ⊢
      simpa using h1
    refine wpAny_tail hedge k htail m k listed a w (Nat.le_refl _) hkl hm' hsz (fun j hj => ?_) hcl ?_
    · by_cases hjk : j < k
      · rw [hall j hjk, decide_eq_true hjk]
      · rw [htl j (by omega) hj, decide_eq_false hjk]
    · obtain ⟨us, hus, hus2⟩ := choose listed a g w hB
      obtain ⟨_, hfin, _⟩ := hout us (fun i Q hQ => by rw [Nat.zero_add]; exact hus i Q hQ)
      rw [hlk0, Nat.zero_add] at hfin
      rw [countP_first _ Es Es.length (Nat.le_refl _) (fun b x _ hx => hlist x (hchain b x hx).1) (fun b x hb hx => by have := (List.getElem?_eq_some_iff.1 hx).1; omega)] at hI1
      have h5 := hfin st1 hI1 g w a hs (fun t u hu => by
        rw [get_append] at hu
        cases hg : Tmps.get (ents l us k) t with
        | some u' =>
          rw [hg] at hu
          cases hu
          obtain ⟨j, hj, hdj, rfl⟩ := ents_get k t _ hg
          exact hus2 j t hj hdj (hlist j hj)
        | none =>
          rw [hg] at hu
          exact hA t u hu fun i hi hit => absurd hit (ents_none k t hg i hi)) hn
      rw [hd] at h5
      exact wpList_mono (fun _ _ _ q => QOf.ext he q) _ _ _ h5
  -- a step of the body
  have step : ∀ (K' : Act → World → Prop) (listed : Array Bool) (a : Act) (w : World) (i : Nat), Inv listed a w → i < k → i ∈ Region.ready .any l.toArray listed → (∀ a' w', Inv (listed.setIfInBounds i true) a' w' → K' a' w') →
      wpOp P l.toArray (QOf n a0.defers g0 w0 K E) i K' a w := by
    intro K' listed a w i ⟨hsz, hcl, htl, hn, hd, g, st1, he, hs, hI1, hA, hB⟩ hik hri hK
    obtain ⟨hun, o, ho, hed'⟩ := ready_edges hri
    have hil := (List.getElem?_eq_some_iff.1 ho).1
    have hunf : listed.getD i false = false := by
      rw [Array.getD_eq_getD_getElem?, Array.getElem?_eq_getElem (by omega)] at hun ⊢
      simpa using hun
    have hcl' := hcl.set ho hed'
    have hsz' : (listed.setIfInBounds i true).size = l.length := by simpa using hsz
    have htl' : ∀ j, k ≤ j → j < l.length → (listed.setIfInBounds i true).getD j true = false := fun j h1 h2 => by
      rw [getD_set_ne true (by omega)]; exact htl j h1 h2
    obtain ⟨us, hus, hus2⟩ := choose listed a g w hB
    obtain ⟨_, _, hops⟩ := hout us (fun i Q hQ => by rw [Nat.zero_add]; exact hus i Q hQ)
    obtain ⟨Q, hdn, hQi, hstep⟩ := hops i o (by rw [List.getElem?_take_of_lt hik]; exact ho)
    rw [Nat.zero_add] at hstep
    -- the entries of others that are seen are there
    have hlooked : ∀ j, j < k → ∀ t, (l[j]?).bind (·.dst) = some t → (o.looksAt l.toArray).contains t = true → listed.getD j false = true ∧ j < i := by
      intro j hj t hjt hlook
      have hp : l[j]? = some l[j] := List.getElem?_eq_getElem (by omega)
      rw [hp] at hjt
      have h2 := ((hbody i o ho hik).2 j _ hj hp).2 t hjt hlook
      refine ⟨h2 listed hcl hed', ?_⟩
      have hcl2 : Closed l (Array.ofFn fun q : Fin l.length => decide (q.val < i)) := by
        intro q oq hq hq' x hx'
        have hql := (List.getElem?_eq_some_iff.1 hq).1
        rw [Array.getD_eq_getD_getElem?, Array.getElem?_ofFn] at hq' ⊢
        simp only [hql, dif_pos, Option.getD_some, decide_eq_true_eq] at hq'
        have hxq := hedge q oq hq x hx'
        simp only [show x < l.length by omega, dif_pos, Option.getD_some, decide_eq_true_eq]
        omega
      have h3 := h2 _ hcl2 (fun x hx' => by
        have hxi := hedge i o ho x hx'
        rw [Array.getD_eq_getD_getElem?, Array.getElem?_ofFn]
        simp only [show x < l.length by omega, dif_pos, Option.getD_some, decide_eq_true_eq]
        exact hxi)
      rw [Array.getD_eq_getD_getElem?, Array.getElem?_ofFn] at h3
      simp only [show j < l.length by omega, dif_pos, Option.getD_some, decide_eq_true_eq] at h3
      exact h3
    have hknown : Known g w (see l.toArray o (ents l us i ++ T)) a := fun t v ht => by
      obtain ⟨hlook, hget⟩ := get_filter _ _ _ _ ht
      rw [get_append] at hget
      cases hg : Tmps.get (ents l us i) t with
      | some u' =>
        rw [hg] at hget
        cases hget
        obtain ⟨j, hj, hdj, rfl⟩ := ents_get i t _ hg
        exact hus2 j t (by omega) hdj (hlooked j (by omega) t hdj hlook).1
      | none =>
        rw [hg] at hget
        refine hA t v hget fun j hj hjt => ?_
        have h1 := hlooked j hj t hjt hlook
        exact absurd hjt (ents_none i t hg j h1.2)
    have hother : ∀ t, o.dst ≠ some t → ∀ rv', (a.put o.dst rv').tmps[t]? = a.tmps[t]? := fun t ht rv' => by
      cases hod : o.dst with
      | none => rfl
      | some d =>
        simp only [Act.put, Array.getElem?_setIfInBounds]
        rw [if_neg (fun h => ht (by rw [hod, h]))]
    have hself : ∀ d, o.dst = some d → ∀ rv', (a.put o.dst rv').tmps[d]? = some rv' := fun d hod rv' => by
      have hdn' := dstOk_lt hdn d hod
      rw [hod]
      simp only [Act.put, Array.getElem?_setIfInBounds]
      simp [hn, hdn']
    have hdi : ∀ d, (l[i]?).bind (·.dst) = some d → o.dst = some d := fun d h => by rw [ho] at h; exact h
    have after : ∀ v rv g' w' st2, Ext g w g' w' → Sim g' w' st2 → R g' w' v rv → Q v → I (Es.countP fun e => (listed.setIfInBounds i true).getD e false) st2 → Inv (listed.setIfInBounds i true) (a.put o.dst rv) w' := by
      intro v rv g' w' st2 he' hs' hR hQv hI2
      refine ⟨hsz', hcl', htl', by rw [Act.size_put]; exact hn, by rw [Act.defers_put]; exact hd, g', st2, he.trans he', hs', hI2, fun t u ht hwr => ?_, fun j d' Q' hj hjd hjQ hjl => ?_⟩
      · have htd : o.dst ≠ some t := fun htd => by
          have := hwr i hik (by rw [ho]; exact htd)
          rw [Array.getD_eq_getD_getElem?, Array.getElem?_setIfInBounds_self_of_lt (by omega)] at this
          simp at this
        obtain ⟨ru, h1, h2⟩ := hA t u ht fun j hj hjt => by
          have h3 := hwr j hj hjt
          by_cases hij : i = j
          · subst hij; exact hunf
          · rwa [getD_set_ne false hij] at h3
        exact ⟨ru, by rw [hother t htd]; exact h1, h2.ext he'⟩
      · by_cases hij : i = j
        · subst hij
          rw [hQi] at hjQ
          cases hjQ
          exact ⟨v, rv, hQv, hself d' (hdi d' hjd) rv, hR⟩
        · rw [getD_set_ne false hij] at hjl
          obtain ⟨u, ru, h1, h2, h3⟩ := hB j d' Q' hj hjd hjQ hjl
          refine ⟨u, ru, h1, ?_, h3.ext he'⟩
          rw [hother d' ?_]
          · exact h2
          · have hp : l[j]? = some l[j] := List.getElem?_eq_getElem (by omega)
            rw [hp] at hjd
            exact fun hdd => ((hbody i o ho hik).2 j _ hj hp).1 hij d' d' hdd hjd rfl
    have hcount : Es.contains i = false → (Es.countP fun e => (listed.setIfInBounds i true).getD e false) = Es.countP fun e => listed.getD e false := fun hni => by
      refine List.countP_congr fun e he => ?_
      have hne : i ≠ e := fun h => by
        subst h
        rw [List.contains_iff_mem.2 he] at hni
        cases hni
      rw [getD_set_ne false hne]
    have hpos : ∀ j, Es[j]? = some i → (Es.countP fun e => listed.getD e false) = j ∧ (Es.countP fun e => (listed.setIfInBounds i true).getD e false) = j + 1 := fun j hj => by
      have hjl := (List.getElem?_eq_some_iff.1 hj).1
      have before : ∀ b x, b < j → Es[b]? = some x → listed.getD x false = true := fun b x hb hx => ((hchain j i hj).2 b x hb hx).2 o ho listed hcl hed'
      have behind : ∀ b x, j < b → Es[b]? = some x → listed.getD x false = false := fun b x hb hx => by
        obtain ⟨h1, h2⟩ := hchain b x hx
        cases hv : listed.getD x false with
        | false => rfl
        | true =>
          have hxl : x < l.length := by omega
          have := (h2 j i hb hj).2 l[x] (List.getElem?_eq_getElem hxl) listed hcl (fun y hy => hcl x _ (List.getElem?_eq_getElem hxl) hv y hy)
          rw [hunf] at this
          cases this
      refine ⟨countP_first _ Es j (by omega) before (fun b x hb hx => ?_), countP_first _ Es (j + 1) (by omega) (fun b x hb hx => ?_) (fun b x hb hx => ?_)⟩
      · rcases Nat.eq_or_lt_of_le hb with h | h
        · subst h
          rw [hj] at hx
          cases hx
          exact hunf
        · exact behind b x h hx
      · by_cases hbj : b = j
        · subst hbj
          rw [hj] at hx
          cases hx
          rw [Array.getD_eq_getD_getElem?, Array.getElem?_setIfInBounds_self_of_lt (by omega)]
          rfl
        · have hb' : b < j := by omega
          rw [getD_set_ne false (by have := ((hchain j i hj).2 b x hb' hx).1; omega)]
          exact before b x hb' hx
      · rw [getD_set_ne false (by have := ((hchain b x hx).2 j i hb hj).1; omega)]
        exact behind b x hb hx
    unfold wpOp
    simp only [List.getElem?_toArray, ho]
    rcases hstep with ⟨hw, hq1, hq2⟩ | ⟨hw, hq, hni⟩
    · rw [wanted_of hknown hw, if_pos rfl]
      left
      cases hc : Es.contains i with
      | false => exact hq1 hc _ st1 g w a K' _ hI1 hs hknown hn fun rv g' w' v st2 he' hs' hR hQv hI2 => hK _ _ (after v rv g' w' st2 he' hs' hR hQv (by rw [hcount hc]; exact hI2))
      | true =>
        obtain ⟨j, hj⟩ := List.getElem?_of_mem (List.contains_iff_mem.1 hc)
        obtain ⟨p1, p2⟩ := hpos j hj
        rw [p1] at hI1
        exact hq2 j hj st1 g w a K' _ hI1 hs hknown hn fun rv g' w' v st2 he' hs' hR hQv hI2 => hK _ _ (after v rv g' w' st2 he' hs' hR hQv (by rw [p2]; exact hI2))
    · rw [wanted_of hknown hw, if_neg (by simp)]
      exact hK _ _ (after _ undef g w st1 (.refl _ _) hs (.lit _) hq (by rw [hcount hni]; exact hI1))
  have key : ∀ (m : Nat) (listed : Array Bool) (a : Act) (w : World), Inv listed a w → μ listed ≤ m → wpAny P .any l.toArray (QOf n a0.defers g0 w0 K E) m listed a w := by
    intro m
    induction m with
    | zero =>
      intro listed a w hi hm0
      -- nothing is left
      have hall : ∀ j, j < l.length → listed.getD j true = true := fun j hj => by
        cases hv : listed.getD j true with
        | true => rfl
        | false => have := hμ listed j hj hi.1 hv; omega
      have hlk : l.length = k := by
        rcases Nat.eq_or_lt_of_le hkl with h' | h'
        · exact h'.symm
        · have h1 := hall k h'
          have h2 := hi.2.2.1 k (Nat.le_refl _) h'
          rw [h1] at h2
          cases h2
      exact done 0 listed a w hi (fun j hj => hall j (by omega)) (by omega)
    | succ m ih =>
      intro listed a w hi hm1
      by_cases hall : ∀ j, j < k → listed.getD j true = true
      · refine done (m + 1) listed a w hi hall ?_
        -- the tail is unlisted: it is counted
        have : l.length - k ≤ μ listed := by
          exact countP_range_ge k _ l.length fun j h1 h2 => by rw [hi.2.2.1 j h1 h2]; rfl
        omega
      · have hex : ∃ j, j < k ∧ listed.getD j true = false ∧ ∀ q, q < j → listed.getD q true = true := by
          have : ∃ j, j < k ∧ listed.getD j true = false := by
            apply Classical.byContradiction
            intro hno
            apply hall
            intro j hj
            cases hv : listed.getD j true with
            | true => rfl
            | false => exact absurd ⟨j, hj, hv⟩ hno
          obtain ⟨j, hj⟩ := this
          induction j using Nat.strongRecOn with
          | _ j ihj =>
            by_cases hq : ∀ q, q < j → listed.getD q true = true
            · exact ⟨j, hj.1, hj.2, hq⟩
            · simp only [Classical.not_forall] at hq
              obtain ⟨q, hqj, hq⟩ := hq
              exact ihj q hqj ⟨by omega, by simpa using hq⟩
        obtain ⟨j0, hj0, hv0, hmin⟩ := hex
        have hsz := hi.1
        have hjl : j0 < l.length := by omega
        have hready : j0 ∈ Region.ready .any l.toArray listed := ready_of_edges hv0 (List.getElem?_eq_getElem hjl) (fun x hx => by
          have hxj := hedge j0 _ (List.getElem?_eq_getElem hjl) x hx
          have h1 := hmin x hxj
          rw [Array.getD_eq_getD_getElem?, Array.getElem?_eq_getElem (by omega)] at h1 ⊢
          simpa using h1)
        refine ⟨fun h0 => (by rw [h0] at hready; cases hready), fun i hri => ?_⟩
        obtain ⟨hun, o, ho, hed'⟩ := ready_edges hri
        have hil := (List.getElem?_eq_some_iff.1 ho).1
        have hik : i < k := by
          rcases Nat.lt_or_ge i k with h' | h'
          · exact h'
          · have h1 := htail i o h' ho listed hi.2.1 hed' j0 (by omega)
            rw [Array.getD_eq_getD_getElem?, Array.getElem?_eq_getElem (by omega)] at h1 hv0
            simp at h1 hv0
            rw [h1] at hv0
            cases hv0
        exact step _ listed a w i hi hik hri fun a' w' hi' => ih _ a' w' hi' (by have := hμ listed i hil hsz hun; omega)
  refine key _ _ a0 _ ?_ ?_
  · have hnone : ∀ j, (Array.replicate l.toArray.size false).getD j false = false := fun j => by
      rw [Array.getD_eq_getD_getElem?, Array.getElem?_replicate]
      split <;> rfl
    refine ⟨by simp, fun i o ho hi' => ?_, fun j _ hj => by simp [hj], hn0, rfl, g0, st, hed, hsd, by rw [countP_first _ Es 0 (Nat.zero_le _) (fun b x hb => by omega) (fun b x _ _ => hnone x)]; exact hI, fun t v ht _ => (hk0.ext hed) t v ht, fun i d Q _ _ _ hl => ?_⟩
    · rw [hnone] at hi'; cases hi'
    · rw [hnone] at hl; cases hl
  · have := List.countP_le_length (p := fun j => !(Array.replicate l.length false).getD j true) (l := List.range l.length)
    exact Nat.le_trans this (by simp)

end
end Go.AM
/- The steps of a region that draws its order and writes, out of the rules for a region that does not. No conditions: definitions and lemmas only. -/
namespace Go.AM
open Go.RowKit (Below)
section
variable {P : Program} {n : Nat} {K : Post} {E : EPost} {T : Tmps} {st base : St} {ops : Array Oper} {sts : List St} {Es : List Nat}
/-- The state behind the first j operations that write. -/
def IX (sts : List St) (base : St) (j : Nat) (s : St) : Prop := sts[j]? = some s ∧ StLe s base
def DRunX (P : Program) (n : Nat) (I : Nat → St → Prop) (Es : List Nat) (ops : Array Oper) (i : Nat) (l : List Oper) (T : Tmps) (k : Tmps → St → Prop) : Prop := ∃ Qs, DRunS P n I Es ops i l Qs T k
theorem AWP.drawX {l : List Oper} {id : Nat} (hm : P.follows .mixedOrders = true) (k : Nat) (Es : List Nat) (sts : List St) (base : St) (hok : drawOkS l k Es = true) (h0 : sts[0]? = some st) (hb : StLe st base)
    (h : DRunX P n (IX sts base) Es l.toArray 0 (l.take k) T fun T' st' => AOps P n l.toArray (l.drop k) K E T' st') : AWP P n (.region id l.toArray true) K E T st :=
  h.elim fun Qs h => AWP.drawS hm k Es (IX sts base) Qs hok ⟨h0, hb⟩ h
/-- An operation without a temporary. -/
theorem AOps.singleN {o : Oper} {v : St → Prop} (h : AOps P n ops [o] (fun T' st' => T' = T ∧ v st') (fun _ _ _ => False) T st) (hw : wantedA ops T o = some true)
    {g : G} {w : World} {a : Act} (hs : Sim g w st) (hk : Known g w T a) (K' : Act → World → Prop) (Q' : Exit → Act → World → Prop)
    (hK : ∀ rv g' w' st', Ext g w g' w' → Sim g' w' st' → v st' → K' (a.put o.dst rv) w') (hn : a.tmps.size = n) : o.wp P a w K' Q' := by
  have h1 := h g w a hs hk hn
  unfold wpList at h1
  rw [wanted_of hk hw, if_pos rfl] at h1
  rcases h1 with h1 | ⟨_, h1⟩
  · refine wp_put h1 (fun a' w' hda hq ⟨rv, hrv⟩ => ?_) (fun a' w' hq => hq.2.1) (fun e a' w' hne hq => ?_)
    · obtain ⟨h2, h3, g', T', st', h4, h5, h6, hT, hv⟩ := hq
      subst hrv
      exact hK rv g' w' st' h4 h5 hv
    · obtain ⟨_, _, g', T', st', _, _, _, h6⟩ := hq
      cases e with
      | normal => exact absurd rfl hne
      | exit id => exact h6.elim
      | ret => exact h6.elim
      | panic ch => obtain ⟨_, _, _, _, h7⟩ := h6; exact h7.elim
      | goto l => exact h6.elim
      | outgrown => exact h6.elim
  · exact absurd h1 LetsOut.not_QOf
theorem ev_glob {s s' : St} (h : s.glob = s'.glob) (T : Tmps) (x : Operand) : ev s T x = ev s' T x := by
  cases x <;> simp [ev, St.row, h]
theorem valA_glob {s s' : St} (h : s.glob = s'.glob) (T : Tmps) (o : Op) : valA s T o = valA s' T o := by
  unfold valA
  simp only [ev_glob h]
theorem step1_glob {s s' : St} (h : s.glob = s'.glob) (T : Tmps) (o : Oper) : step1 ops n s T o = step1 ops n s' T o := by
  unfold step1
  rw [valA_glob h]
theorem posS_spec {i j : Nat} (h : (List.range Es.length).filter (fun q => Nat.beq (Es.getD q 0) i) = [j]) : Es[j]? = some i ∧ ∀ q, Es[q]? = some i → q = j := by
  have hm : ∀ q, q ∈ (List.range Es.length).filter (fun q => Nat.beq (Es.getD q 0) i) ↔ q = j := fun q => by rw [h]; simp
  constructor
  · have := (hm j).2 rfl
    rw [List.mem_filter, List.mem_range] at this
    have e := Nat.eq_of_beq_eq_true this.2
    rw [List.getD_eq_getElem?_getD, List.getElem?_eq_getElem this.1] at e
    rw [List.getElem?_eq_getElem this.1]
    exact congrArg some e
  · intro q hq
    refine (hm q).1 ?_
    rw [List.mem_filter, List.mem_range]
    refine ⟨(List.getElem?_eq_some_iff.1 hq).1, ?_⟩
    rw [List.getD_eq_getElem?_getD, hq]
    exact nbeq_self i
/-- A quiet step. -/
theorem dqS {i : Nat} {o : Oper} {r : List Oper} {d : Tmp} {v : AV} {k : Tmps → St → Prop} (hi : Es.contains i = false) (hd : dstA n o.dst = some d) (hw : wantedA ops (see ops o T) o = some true)
    (h : ∀ st', StLe st' base → AOps P n ops [o] (fun T' st'' => ∃ u, T' = (d, u) :: see ops o T ∧ (u = v ∧ st'' = st')) (fun _ _ _ => False) (see ops o T) st')
    (hr : DRunX P n (IX sts base) Es ops (i + 1) r ((d, v) :: T) k) : DRunX P n (IX sts base) Es ops i (o :: r) T k := by
  obtain ⟨Qs, hr⟩ := hr
  obtain ⟨hd', hdn⟩ := dstA_some hd
  refine ⟨(fun u => u = v) :: Qs, ⟨v, rfl⟩, hdn, .inl ⟨hw, fun _ j => ?_, fun j hj => ?_⟩, fun u hu => ?_⟩
  · intro s g w a K' Q' ⟨hI, hle⟩ hs hk hn hK
    refine AOps.single hd' (dstOk_lt hdn d hd') (h s hle) hw hs hk K' Q' (fun rv g' w' u st' he hs' hR ⟨hu, hst⟩ => ?_) hn
    subst hu hst
    exact hK rv g' w' u st' he hs' hR rfl ⟨hI, hle⟩
  · rw [List.contains_iff_mem.2 (List.mem_of_getElem? hj)] at hi
    cases hi
  · subst hu
    rw [hd']
    exact hr
/-- A quiet step that asks nothing. -/
theorem dsS {i : Nat} {o : Oper} {r : List Oper} {d : Tmp} {v : AV} {k : Tmps → St → Prop} (hi : Es.contains i = false) (hs : step1 ops n base (see ops o T) o = some (d, v))
    (hr : DRunX P n (IX sts base) Es ops (i + 1) r ((d, v) :: T) k) : DRunX P n (IX sts base) Es ops i (o :: r) T k := by
  have hg : goes ops n (see ops o T) o = some d := by
    unfold step1 at hs
    split at hs
    · rename_i h1 h2
      cases hs
      exact h1
    · cases hs
  obtain ⟨hw, hd, hok⟩ := goes_some hg
  have hda : dstA n o.dst = some d := by
    unfold goes at hg
    rw [hw] at hg
    exact hg
  exact dqS hi hda hw (fun st' hle => sm ((step1_glob (n := n) (ops := ops) hle.glob (see ops o T) o).symm.trans hs) (nl ⟨v, rfl, rfl, rfl⟩)) hr
/-- A step that writes. -/
theorem deS {i j : Nat} {o : Oper} {r : List Oper} {s1 s2 : St} {k : Tmps → St → Prop} (hj : (List.range Es.length).filter (fun q => Nat.beq (Es.getD q 0) i) = [j]) (h1 : sts[j]? = some s1) (h2 : sts[j + 1]? = some s2) (hle : StLe s2 base)
    (hd : o.dst = none) (hw : wantedA ops (see ops o T) o = some true) (h : AOps P n ops [o] (fun T' st'' => T' = see ops o T ∧ st'' = s2) (fun _ _ _ => False) (see ops o T) s1)
    (hr : DRunX P n (IX sts base) Es ops (i + 1) r T k) : DRunX P n (IX sts base) Es ops i (o :: r) T k := by
  obtain ⟨Qs, hr⟩ := hr
  obtain ⟨p1, p2⟩ := posS_spec hj
  refine ⟨(fun _ => True) :: Qs, ⟨.bool true, trivial⟩, by rw [hd]; rfl, .inl ⟨hw, fun hc => ?_, fun q hq => ?_⟩, fun u _ => ?_⟩
  · rw [List.contains_iff_mem.2 (List.mem_of_getElem? p1)] at hc
    cases hc
  · obtain rfl := p2 q hq
    intro s g w a K' Q' ⟨hI, _⟩ hs hk hn hK
    rw [h1] at hI
    cases hI
    refine AOps.singleN h hw hs hk K' Q' (fun rv g' w' st' he hs' hst => ?_) hn
    rw [hst] at hs'
    exact hK rv g' w' (.lit rv) s2 he hs' (.lit rv) trivial ⟨h2, hle⟩
  · rw [hd]
    exact hr
theorem dnS {i : Nat} {sN : St} {k : Tmps → St → Prop} (hN : sts[Es.length]? = some sN) (h : k T sN) : DRunX P n (IX sts base) Es ops i [] T k := by
  refine ⟨[], ?_⟩
  intro s ⟨hs, _⟩
  rw [hN] at hs
  cases hs
  exact h
end
end Go.AM
/- Functions of the library that a contract of the kit tells. No conditions: lemmas only. -/
namespace Go.AM
open Go.RowKit (Below)
/-- New blocks that nobody knows. -/
theorem Sim.grown {g : G} {w w' : World} {st : St} (hs : Sim g w st) (os : Array Obj) (hh : w'.heap = w.heap ++ os) (h1 : w'.os = w.os) (h2 : w'.tape = w.tape) (h3 : w'.output = w.output) : Ext g w g w' ∧ Sim g w' st := by
  have hb : ∀ k, k < w.heap.size → w'.heap[k]? = w.heap[k]? := fun k hk => by rw [hh, Array.getElem?_append, if_pos hk]
  have hsz : w.heap.size ≤ w'.heap.size := by rw [hh, Array.size_append]; omega
  have he : Ext g w g w' := ⟨rfl, Nat.le_refl _, fun _ _ h => h, fun b i h => by simp only [World.cell?, hb b (hs.immlt b i h)], fun _ _ h => h, fun _ _ h => h, ⟨h1, h2, h3, hsz, fun k hk => hb k (Nat.lt_of_lt_of_le hk hs.base)⟩⟩
  refine ⟨he, Nat.le_trans hs.base hsz, fun o c hc => ?_, hs.inj, fun t ht => ?_, hs.tobj, hs.tinj, fun b i h => Nat.lt_of_lt_of_le (hs.immlt b i h) hsz, fun o b m h => Nat.lt_of_lt_of_le (hs.objlt o b m h) hsz, fun t b r h => Nat.lt_of_lt_of_le (hs.toklt t b r h) hsz, hs.fresh, fun gi row h => (hs.globs gi row h).ext he⟩
  · obtain ⟨b, m, h1, h2, h3, h4⟩ := hs.objs o c hc
    exact ⟨b, m, h1, h2, h3.mono he (hb b (hs.objlt o b m h1)), h4⟩
  · obtain ⟨⟨b', len, cap, e, size⟩, h1, h2⟩ := hs.toks t ht
    refine ⟨_, h1, ?_⟩
    cases b' with
    | none => exact h2
    | some b' =>
      obtain ⟨a1, a2, a3, a4, ⟨cur, a5, a6⟩, a7⟩ := h2
      exact ⟨a1, a2, a3, a4, ⟨cur, (hb b' (hs.toklt t b' _ h1)).trans a5, a6⟩, a7⟩
/-- A contract of the kit whose world only grows, as a contract here. -/
theorem ACalls.grown {P : Program} {f : FuncId} {args : List AV} {st : St} {X : AV}
    (h : ∀ g w (rargs : Array Value), Sim g w st → args.length = rargs.size → (∀ (i : Nat) c v, args[i]? = some c → rargs[i]? = some v → R g w c v) →
      Calls P f rargs w fun e w' => ∃ rv, e = .returned rv ∧ (∀ g w, R g w X rv) ∧ ∃ os, w'.heap = w.heap ++ os ∧ w'.os = w.os ∧ w'.tape = w.tape ∧ w'.output = w.output) :
    ACalls P f args st (fun v st' => v = X ∧ st' = st) (fun _ _ => False) := by
  intro g w rargs hs hl hr
  refine (h g w rargs hs hl hr).mono fun e w' ⟨rv, he, hR, os, a1, a2, a3, a4⟩ => ?_
  obtain ⟨hx, hs'⟩ := hs.grown os a1 a2 a3 a4
  refine ⟨g, st, hx, hs', ?_⟩
  subst he
  exact ⟨X, hR g w', rfl, rfl⟩
/-- A table of numbers, as the kit tells it. -/
theorem globs_cells {g : G} {w : World} {st : St} (hs : Sim g w st) {gi : Nat} {row : List AV} (h : (gi, row) ∈ st.glob) : ∀ (j : Nat) c, row[j]? = some c → ∃ v, w.cell? ⟨gi, j, none⟩ = some v ∧ R g w c v := by
  have hR := (hs.globs gi row h).rel
  generalize hp : Value.pointer (some ⟨gi, 0, none⟩) = pv at hR
  cases hR with
  | eptr _ _ _ _ b off f hsz h1 himm hh =>
    intro j c hj
    have hjl := (List.getElem?_eq_some_iff.1 hj).1
    simp only [Value.pointer.injEq, Option.some.injEq, Addr.mk.injEq] at hp
    obtain ⟨rfl, hoff, _⟩ := hp
    have h2 := (himm 0 j (by simp) hjl).2
    refine ⟨f 0 j, ?_, hh 0 j row c rfl hj⟩
    rw [← h2]
    congr 2
    omega
/-- A table of numbers of the library's. -/
theorem tabIs {P : Program} {g : G} {w : World} {st : St} (hs : Sim g w st) {name : String} {gi : Nat} {k : IntKind} {zs : List Int} (hg : P.globalNamed name = some gi) (h : (gi, zs.map fun z => AV.int k z) ∈ st.glob) : Lib.TabIs P w name k zs := by
  obtain ⟨cs, ty, fr, h1, h2⟩ := (hs.globs gi _ h).arr
  have hc := globs_cells hs h
  unfold Lib.TabIs World.var?
  rw [hg]
  simp only [Option.bind_some, h1, Option.some.injEq]
  apply Array.ext_getElem?
  intro j
  rcases Nat.lt_or_ge j zs.length with hj | hj
  · obtain ⟨v, hv, hR⟩ := hc j (.int k zs[j]) (by simp [hj])
    cases hR
    have hv' : cs[j]? = some (.int k zs[j]) := by
      have : w.cell? ⟨gi, j, none⟩ = cs[j]? := by simp [World.cell?, h1]
      rw [← this]; exact hv
    rw [hv']
    simp [hj]
  · rw [Array.getElem?_eq_none (by rw [h2]; simpa using hj)]
    simp [hj]
end Go.AM
/- A nil slice in a variable gets a token. No conditions: lemmas only. -/
namespace Go.AM
open Go.RowKit (Below)
variable {P : Program} {n : Nat} {K : Post} {E : EPost} {T : Tmps} {st : St}
end Go.AM
/- Arguments that are structs and arrays of plain cells, opened. No conditions: definitions and lemmas only. -/
namespace Go.AM
def FitW1 : Sh → AV → Prop
  | .kI k, c => ∃ x, c = .int k x ∧ (Lit.int k x).wf = true
  | .kB, c => ∃ b, c = .bool b
  | .kS, c => ∃ l : List UInt8, c = .str l ∧ l.length ≤ maxLen
def FitsW : List Sh → List AV → Prop
  | [], [] => True
  | s :: ss, c :: cs => FitW1 s c ∧ FitsW ss cs
  | _, _ => False
theorem FitsW.append : ∀ {s1 s2 : List Sh} {c1 c2 : List AV}, FitsW s1 c1 → FitsW s2 c2 → FitsW (s1 ++ s2) (c1 ++ c2)
  | [], _, [], _, _, h2 => h2
  | _ :: _, _, _ :: _, _, h1, h2 => ⟨h1.1, h1.2.append h2⟩
  | [], _, _ :: _, _, h1, _ => h1.elim
  | _ :: _, _, [], _, h1, _ => h1.elim
section
variable {P : Program} {n : Nat} {K : Post} {E : EPost} {T : Tmps} {st : St} {ops : Array Oper} {rest : List Oper}
variable {ty ty2 : TypeId} {pos pos2 : String} {es es2 : Array Edge} {gd : Option (Nat × Bool)} {d : Tmp} {y : Operand} {dd : Option Tmp}
/-- A new variable gets its only value. -/
theorem alN {t : TypeId} {sz by_ : Nat} {z : Value} [hi : Inf P t sz by_ z] {v : AV} (hg : goes ops n T ⟨dd, .alloc t, ty, pos, es, gd⟩ = some d) (hz : zok sz z = true) (hy : ∀ o, ev (st.set o (.cells t sz [zrow z])) ((d, .cptr o sz 0 0) :: T) y = some v)
    (hv : storable v = true) (hsz : Nat.beq v.cells.length sz = true)
    (k : AOps P n ops rest K E ((d, .eptr sz [v.cells] 0 0) :: T) st) :
    AOps P n ops (⟨dd, .alloc t, ty, pos, es, gd⟩ :: ⟨none, .store t (.tmp d) y, ty2, pos2, es2, none⟩ :: rest) K E T st := by
  refine al hg hz fun o ho => ?_
  have hzl := (zok_spec hz).2.2.1
  refine soN d rfl ?_ (hy o) hv hsz ?_ ho ?_
  · simp [Tmps.get_cons]
  · rw [Nat.eq_of_beq_eq_true hsz, hzl]; exact nbeq_self sz
  · refine AOps.weaken ?_ (.refl _) k
    intro i v' h
    rw [Tmps.get_cons] at h
    by_cases e : d = i
    · subst e
      rw [if_pos rfl] at h
      cases h
      exact ⟨_, by rw [Tmps.get_cons, if_pos rfl], .refl _⟩
    · rw [if_neg e] at h
      exact ⟨v', by rw [Tmps.get_cons, if_neg e, Tmps.get_cons, if_neg e]; exact h, .refl _⟩
end
end Go.AM
/- The same rules, their premises paid by themselves. No conditions: lemmas only. -/
namespace Go.AM
section
variable {P : Program} {n : Nat} {K : Post} {E : EPost} {T : Tmps} {st : St} {ops : Array Oper} {rest : List Oper}
variable {ty ty2 : TypeId} {pos pos2 : String} {es es2 : Array Edge} {gd : Option (Nat × Bool)} {d : Tmp} {x y : Operand} {dd : Option Tmp}
theorem ZA {o : Oper} {d : Tmp} {v : AV} (h : step1 ops n st T o = some (d, v) := by exact rfl) (z : AOps P n ops rest K E ((d, v) :: T) st) : AOps P n ops (o :: rest) K E T st := sm h z
theorem ZB {o : Oper} {d : Tmp} (h : step0 ops n T o = some d := by exact rfl) (z : AOps P n ops rest K E ((d, .lit undef) :: T) st) : AOps P n ops (o :: rest) K E T st := uw h z
theorem ZC {t ft : TypeId} {f off : Nat} [hf : Fld P t f off ft] {sz by_ : Nat} {zz : Value} [hi : Inf P ft (sz + 1) by_ zz] {q : AV} (hg : goes ops n T ⟨dd, .fieldAddr t x f, ty, pos, es, gd⟩ = some d := by exact rfl)
    (hx : ptrA off (ev st T x) = some q := by exact rfl)
    (z : AOps P n ops rest K E ((d, q) :: T) st) : AOps P n ops (⟨dd, .fieldAddr t x f, ty, pos, es, gd⟩ :: rest) K E T st := fa hg hx z
theorem ZD {t : TypeId} {td : TypeDesc} [hu : Und P t td] {sz by_ : Nat} {zz : Value} [hi : Inf P t sz by_ zz] {s : Nat} {rows : List (List AV)} {i : Nat} {row : List AV}
    (hg : goes ops n T ⟨dd, .load t x, ty, pos, es, gd⟩ = some d := by exact rfl) (ha : aggD td = true := by exact rfl) (hx : ev st T x = some (.eptr s rows i 0) := by exact rfl) (hr : rows[i]? = some row := by first | exact rfl | assumption) (hl : Nat.beq sz row.length = true := by exact rfl)
    (z : AOps P n ops rest K E ((d, .agg row) :: T) st) : AOps P n ops (⟨dd, .load t x, ty, pos, es, gd⟩ :: rest) K E T st := leW hg ha hx hr hl z
theorem ZE {t : TypeId} {td : TypeDesc} [hu : Und P t td] {sz by_ : Nat} {zz : Value} [hi : Inf P t sz by_ zz] {o s : Nat} {rows : List (List AV)} {i : Nat} {row : List AV} {oty : TypeId}
    (hg : goes ops n T ⟨dd, .load t x, ty, pos, es, gd⟩ = some d := by exact rfl) (ha : aggD td = true := by exact rfl) (hx : ev st T x = some (.cptr o s i 0) := by exact rfl) (ho : st.obj o = some (.cells oty s rows) := by first | exact St.obj_set _ _ _ | (rename_i hle; exact hle.obj _ _ (St.obj_set _ _ _)) | (rename_i hle; exact hle.obj _ _ (by assumption))) (hr : rows[i]? = some row := by exact rfl) (hl : Nat.beq sz row.length = true := by exact rfl)
    (z : AOps P n ops rest K E ((d, .agg row) :: T) st) : AOps P n ops (⟨dd, .load t x, ty, pos, es, gd⟩ :: rest) K E T st := lcW hg ha hx ho hr hl z
theorem ZF {t : TypeId} {td : TypeDesc} [hu : Und P t td] {sz by_ : Nat} {zz : Value} [hi : Inf P t sz by_ zz] {s : Nat} {rows : List (List AV)} {i off : Nat} {row : List AV} {v : AV}
    (hg : goes ops n T ⟨dd, .load t x, ty, pos, es, gd⟩ = some d := by exact rfl) (hx : ev st T x = some (.eptr s rows i off) := by exact rfl) (hr : rows[i]? = some row := by first | exact rfl | assumption) (hv : sel (aggD td) sz row off = some v := by exact rfl)
    (z : AOps P n ops rest K E ((d, v) :: T) st) : AOps P n ops (⟨dd, .load t x, ty, pos, es, gd⟩ :: rest) K E T st := le hg hx hr hv z
theorem ZH {t : TypeId} {td : TypeDesc} [hu : Und P t td] {sz by_ : Nat} {zz : Value} [hi : Inf P t sz by_ zz] {o s : Nat} {rows : List (List AV)} {i off : Nat} {row : List AV} {v : AV} {oty : TypeId}
    (hg : goes ops n T ⟨dd, .load t x, ty, pos, es, gd⟩ = some d := by exact rfl) (hx : ev st T x = some (.cptr o s i off) := by exact rfl) (ho : st.obj o = some (.cells oty s rows) := by first | exact St.obj_set _ _ _ | assumption | (rename_i hle; exact hle.obj _ _ (St.obj_set _ _ _)) | (rename_i hle; exact hle.obj _ _ (by assumption))) (hr : rows[i]? = some row := by first | exact rfl | assumption) (hv : sel (aggD td) sz row off = some v := by exact rfl)
    (z : AOps P n ops rest K E ((d, v) :: T) st) : AOps P n ops (⟨dd, .load t x, ty, pos, es, gd⟩ :: rest) K E T st := lc hg hx ho hr hv z
theorem ZJ {t u : TypeId} {e : TypeId} [hu : Und P t (.slice e)] {sz : Nat} {rows : List (List AV)} {tk : Tok}
    (hg : goes ops n T ⟨dd, .call ⟨.builtin .len, #[x], #[t]⟩, u, pos, es, gd⟩ = some d := by exact rfl) (hx : ev st T x = some (.view sz rows tk) := by exact rfl)
    (z : AOps P n ops rest K E ((d, .int .i64 rows.length) :: T) st) : AOps P n ops (⟨dd, .call ⟨.builtin .len, #[x], #[t]⟩, u, pos, es, gd⟩ :: rest) K E T st := lnv hg hx z
theorem ZL {t u : TypeId} [hu : Und P t .string] {l : List UInt8}
    (hg : goes ops n T ⟨dd, .call ⟨.builtin .len, #[x], #[t]⟩, u, pos, es, gd⟩ = some d := by exact rfl) (hx : ev st T x = some (.str l) := by exact rfl)
    (z : AOps P n ops rest K E ((d, .int .i64 l.length) :: T) st) : AOps P n ops (⟨dd, .call ⟨.builtin .len, #[x], #[t]⟩, u, pos, es, gd⟩ :: rest) K E T st := lns hg hx z
theorem ZM {t e : TypeId} [hu : Und P t (.slice e)] {sz by_ : Nat} {zz : Value} [hi : Inf P e sz by_ zz] {rows : List (List AV)} {tk : Tok} {k : IntKind} {i : Int} {m : Nat}
    (hg : goes ops n T ⟨dd, .indexAddr t x y, ty, pos, es, gd⟩ = some d := by exact rfl) (hx : ev st T x = some (.view sz rows tk) := by exact rfl) (hy : ev st T y = some (.int k i) := by exact rfl)
    (hm : i = m := by first | exact rfl | exact (rfl : (0 : Int) = ((0 : Nat) : Int)) | exact (rfl : (1 : Int) = ((1 : Nat) : Int)) | exact (rfl : (2 : Int) = ((2 : Nat) : Int)) | exact (rfl : (3 : Int) = ((3 : Nat) : Int)) | exact (rfl : (4 : Int) = ((4 : Nat) : Int)) | exact (rfl : (5 : Int) = ((5 : Nat) : Int)) | exact (rfl : (6 : Int) = ((6 : Nat) : Int)))
    (hlt : m < rows.length := by first | assumption | exact of_decide_eq_true rfl)
    (z : AOps P n ops rest K E ((d, .eptr sz rows m 0) :: T) st) : AOps P n ops (⟨dd, .indexAddr t x y, ty, pos, es, gd⟩ :: rest) K E T st := ix hg hx hy hm hlt z
theorem ZO {t u : TypeId} {a : Nat} (hg : goes ops n T ⟨dd, .binOp .add t x y u, ty, pos, es, gd⟩ = some d := by exact rfl)
    (hx : ev st T x = some (.int .i64 (a : Int)) := by exact rfl) (hy : ev st T y = some (.int .i64 1) := by exact rfl) (hc : a < 9223372036854775807 := by omega)
    (z : AOps P n ops rest K E ((d, .int .i64 ((a + 1 : Nat) : Int)) :: T) st) : AOps P n ops (⟨dd, .binOp .add t x y u, ty, pos, es, gd⟩ :: rest) K E T st := inc hg hx hy hc z
theorem ZP {t u : TypeId} {a b : Nat} (hg : goes ops n T ⟨dd, .binOp .add t x y u, ty, pos, es, gd⟩ = some d := by exact rfl)
    (hx : ev st T x = some (.int .i64 (a : Int)) := by exact rfl) (hy : ev st T y = some (.int .i64 (b : Int)) := by exact rfl) (hc : a + b < 9223372036854775808 := by omega)
    (z : AOps P n ops rest K E ((d, .int .i64 ((a + b : Nat) : Int)) :: T) st) : AOps P n ops (⟨dd, .binOp .add t x y u, ty, pos, es, gd⟩ :: rest) K E T st := adn hg hx hy hc z
theorem ZQ {t e : TypeId} {esz eby : Nat} {ez : Value} {v : AV} [hu : Und P t (.slice e)] [hie : Inf P e (esz + 1) eby ez] (hg : goes ops n T ⟨dd, .buildSlice t 1 #[(0, x)], ty, pos, es, gd⟩ = some d := by exact rfl)
    (hz : zok (esz + 1) ez = true := by exact rfl) (hsm : Nat.ble (1 * (esz + 1)) 16777216 = true := by exact rfl) (hx : ev st T x = some v := by exact rfl) (hl : Nat.beq v.cells.length (esz + 1) = true := by exact rfl) (hv : storable v = true := by exact rfl)
    (z : AOps P n ops rest K E ((d, .view (esz + 1) [v.cells] .shared) :: T) st) : AOps P n ops (⟨dd, .buildSlice t 1 #[(0, x)], ty, pos, es, gd⟩ :: rest) K E T st := bs1 hg hz hsm hx hl hv z
theorem ZR {t : TypeId} {v : AV} {sz : Nat} (hg : goes ops n T ⟨dd, .box t x, ty, pos, es, gd⟩ = some d := by exact rfl) (hx : ev st T x = some v := by exact rfl) (hv : storable v = true := by exact rfl) (hsz : v.cells.length = sz := by exact rfl)
    (z : AOps P n ops rest K E ((d, .eptr sz [v.cells] 0 0) :: T) st) : AOps P n ops (⟨dd, .box t x, ty, pos, es, gd⟩ :: rest) K E T st := bxe hg hx hv hsz z
theorem ZX {t : TypeId} [hu : Und P t .string] {l : List UInt8} {k : IntKind} {i : Int} {m : Nat} {c : UInt8} (hg : goes ops n T ⟨dd, .index t x y, ty, pos, es, gd⟩ = some d := by exact rfl)
    (hx : ev st T x = some (.str l) := by exact rfl) (hy : ev st T y = some (.int k i) := by exact rfl) (hi : i = m := by exact rfl) (hc : l[m]? = some c := by assumption)
    (z : AOps P n ops rest K E ((d, .int .u8 c.toNat) :: T) st) : AOps P n ops (⟨dd, .index t x y, ty, pos, es, gd⟩ :: rest) K E T st := sx hg hx hy hi hc z
theorem ZY {t : TypeId} [hu : Und P t .string] {l : List UInt8} {k : IntKind} {a : Nat} (hg : goes ops n T ⟨dd, .slice t x (some y) none none, ty, pos, es, gd⟩ = some d := by exact rfl)
    (hx : ev st T x = some (.str l) := by exact rfl) (hy : ev st T y = some (.int k (a : Int)) := by exact rfl) (ha : a ≤ l.length := by omega)
    (z : AOps P n ops rest K E ((d, .str (l.drop a)) :: T) st) : AOps P n ops (⟨dd, .slice t x (some y) none none, ty, pos, es, gd⟩ :: rest) K E T st := ssl hg hx hy ha z
theorem ZZ {t : TypeId} [hu : Und P t .string] {l : List UInt8} {k : IntKind} {b : Nat} (hg : goes ops n T ⟨dd, .slice t x none (some y) none, ty, pos, es, gd⟩ = some d := by exact rfl)
    (hx : ev st T x = some (.str l) := by exact rfl) (hy : ev st T y = some (.int k (b : Int)) := by exact rfl) (hb : b ≤ l.length := by omega)
    (z : AOps P n ops rest K E ((d, .str (l.take b)) :: T) st) : AOps P n ops (⟨dd, .slice t x none (some y) none, ty, pos, es, gd⟩ :: rest) K E T st := ssh hg hx hy hb z
theorem YA {t : TypeId} {sz by_ : Nat} {zz : Value} [hi : Inf P t sz by_ zz] {v : AV} (hg : goes ops n T ⟨dd, .alloc t, ty, pos, es, gd⟩ = some d := by exact rfl) (hz : zok sz zz = true := by exact rfl) (hy : ∀ o, ev (st.set o (.cells t sz [zrow zz])) ((d, .cptr o sz 0 0) :: T) y = some v := by exact fun _ => rfl)
    (hv : storable v = true := by exact rfl) (hsz : Nat.beq v.cells.length sz = true := by exact rfl)
    (z : AOps P n ops rest K E ((d, .eptr sz [v.cells] 0 0) :: T) st) :
    AOps P n ops (⟨dd, .alloc t, ty, pos, es, gd⟩ :: ⟨none, .store t (.tmp d) y, ty2, pos2, es2, none⟩ :: rest) K E T st := alN hg hz hy hv hsz z
theorem YC {f : FuncId} [hf : GoFun P f] {args : Array Operand} {tys : Array TypeId} {avs : List AV} {X : AV}
    (hg : goes ops n T ⟨dd, .call ⟨.value (.func f), args, tys⟩, ty, pos, es, gd⟩ = some d := by exact rfl) (ha : evs st T args.toList = some avs := by exact rfl)
    (hc : PureFn P f avs X := by exact inferInstance) (z : AOps P n ops rest K E ((d, X) :: T) st) :
    AOps P n ops (⟨dd, .call ⟨.value (.func f), args, tys⟩, ty, pos, es, gd⟩ :: rest) K E T st := clp hg ha hc z
theorem YD {o : Oper} {t : Nat} {b : Bool} (h : gtmp ops T o = some (t, b) := by exact rfl) (hb : b = true := by (fail_if_success rfl); first | assumption | exact decide_eq_true (by assumption) | exact decide_eq_true rfl | exact decide_eq_true (by omega)) (z : AOps P n ops (o :: rest) K E ((t, .bool true) :: T) st) : AOps P n ops (o :: rest) K E T st := gB true h hb z
theorem YE {o : Oper} {t : Nat} {b : Bool} (h : gtmp ops T o = some (t, b) := by exact rfl) (hb : b = false := by (fail_if_success rfl); first | assumption | exact decide_eq_false (by assumption) | exact decide_eq_false (by omega)) (z : AOps P n ops (o :: rest) K E ((t, .bool false) :: T) st) : AOps P n ops (o :: rest) K E T st := gB false h hb z
theorem YH {c : Operand} {x y : Code} {b : Bool} (hc : ev st T c = some (.bool b) := by exact rfl) (hb : b = true := by first | exact rfl | assumption | exact decide_eq_true (by assumption) | exact decide_eq_true rfl | exact decide_eq_true (by omega)) (z : AWP P n x K E T st) : AWP P n (.cond c x y) K E T st := cT hc hb z
theorem YI {c : Operand} {x y : Code} {b : Bool} (hc : ev st T c = some (.bool b) := by exact rfl) (hb : b = false := by first | exact rfl | assumption | exact decide_eq_false (by assumption) | exact decide_eq_false (by omega)) (z : AWP P n y K E T st) : AWP P n (.cond c x y) K E T st := cF hc hb z
theorem YJ {t u : TypeId} {a b : Int} (hg : goes ops n T ⟨dd, .binOp .add t x y u, ty, pos, es, gd⟩ = some d := by exact rfl)
    (hx : ev st T x = some (.int .i64 a) := by exact rfl) (hy : ev st T y = some (.int .i64 b) := by exact rfl) (hc : -9223372036854775808 ≤ a + b ∧ a + b < 9223372036854775808 := by omega)
    (z : AOps P n ops rest K E ((d, .int .i64 (a + b)) :: T) st) : AOps P n ops (⟨dd, .binOp .add t x y u, ty, pos, es, gd⟩ :: rest) K E T st := Go.AM.ad hg hx hy hc z
theorem YK {t u : TypeId} {a b : Int} (hg : goes ops n T ⟨dd, .binOp .sub t x y u, ty, pos, es, gd⟩ = some d := by exact rfl)
    (hx : ev st T x = some (.int .i64 a) := by exact rfl) (hy : ev st T y = some (.int .i64 b) := by exact rfl) (hc : -9223372036854775808 ≤ a - b ∧ a - b < 9223372036854775808 := by omega)
    (z : AOps P n ops rest K E ((d, .int .i64 (a - b)) :: T) st) : AOps P n ops (⟨dd, .binOp .sub t x y u, ty, pos, es, gd⟩ :: rest) K E T st := Go.AM.sb hg hx hy hc z
theorem nz {v : AV} : AOps P n ops [] (fun T' st'' => ∃ u, T' = (d, u) :: T ∧ (u = v ∧ st'' = st)) E ((d, v) :: T) st := nl ⟨_, rfl, rfl, rfl⟩
theorem dp {e : Nat} {Φ : AV → St → Prop} {i : Nat} {o : Oper} {r : List Oper} {d : Tmp} {v : AV} {k : Tmps → Prop} (hi : Nat.beq i e = false := by exact rfl) (hd : dstA n o.dst = some d := by exact rfl) (hw : wantedA ops (see ops o T) o = some true := by exact rfl)
    (h : ∀ st', StLe st' st.notok → AOps P n ops [o] (fun T' st'' => ∃ u, T' = (d, u) :: see ops o T ∧ (u = v ∧ st'' = st')) (fun _ _ _ => False) (see ops o T) st')
    (z : DRun P n st ops e Φ (i + 1) r ((d, v) :: T) k) : DRun P n st ops e Φ i (o :: r) T k := dq hi hd hw h z
theorem dpS {base : St} {sts : List St} {Es : List Nat} {i : Nat} {o : Oper} {r : List Oper} {d : Tmp} {v : AV} {k : Tmps → St → Prop} (hi : Es.contains i = false := by exact rfl) (hd : dstA n o.dst = some d := by exact rfl) (hw : wantedA ops (see ops o T) o = some true := by exact rfl)
    (h : ∀ st', StLe st' base → AOps P n ops [o] (fun T' st'' => ∃ u, T' = (d, u) :: see ops o T ∧ (u = v ∧ st'' = st')) (fun _ _ _ => False) (see ops o T) st')
    (z : DRunX P n (IX sts base) Es ops (i + 1) r ((d, v) :: T) k) : DRunX P n (IX sts base) Es ops i (o :: r) T k := dqS hi hd hw h z
end
end Go.AM
/- Steps of a region that draws its order, every operation keeping an invariant. No conditions: lemmas only. -/
namespace Go.AM
section
variable {P : Program} {n : Nat} {T : Tmps} {I : St → Prop} {ops : Array Oper} {Qs : List (AV → Prop)}
end
end Go.AM
/- Regions that draw their order, cut into parts: a part drawn, a single operation, the rest in the text's order. No conditions: definitions and lemmas only. -/
namespace Go.AM
open Go.RowKit (Below)
/-- May the operations of E be done so far as bs says, when operation i is next? -/
def mayBe (S : List Nat) (Es : List Nat) (i : Nat) (bs : List Bool) : Bool :=
  (Es.zip bs).all fun p => bif p.2 then !(Nat.beq p.1 i) && !((S.getD p.1 0).testBit i) else !((S.getD i 0).testBit p.1)
def setBit (Es : List Nat) (i : Nat) (bs : List Bool) : List Bool := (Es.zip bs).map fun p => p.2 || Nat.beq p.1 i
/-- The form that is asked of a part: operations k .. k' in whatever order, those behind them wait for all of them; those of E change the state. -/
def segOk (l : List Oper) (k k' : Nat) (Es : List Nat) : Bool :=
  let S := predSets l []
  Nat.ble k k' && Nat.ble k' l.length && ((List.range l.length).all fun i =>
    match l[i]? with
    | none => false
    | some o => (edgesOf o).all (fun x => Nat.blt x i) &&
      (bif Nat.blt i k then true
      else bif Nat.blt i k' then
        (o.dst.isSome || Es.contains i) && (List.range' k (k' - k)).all (fun j => match l[j]? with
          | none => false
          | some p => (bif Nat.beq i j then true else (match o.dst, p.dst with | some a, some b => !(Nat.beq a b) | _, _ => true)) &&
            (match p.dst with
              | some t => bif (o.looksAt l.toArray).contains t then (S.getD i 0).testBit j else true
              | none => true))
      else (List.range' k (k' - k)).all fun j => (S.getD i 0).testBit j)) &&
  Es.all fun e => Nat.ble k e && Nat.blt e k'
section
variable {P : Program} {n : Nat} {K : Post} {E : EPost} {T : Tmps} {st : St}
theorem preds_listed {l : List Oper} {listed : Array Bool} (hc : Closed l listed) {i : Nat} {o : Oper} (ho : l[i]? = some o) (he : ∀ x ∈ edgesOf o, listed.getD x false = true) {j : Nat} (hj : ((predSets l []).getD i 0).testBit j = true) : listed.getD j false = true :=
  predSets_spec l listed hc l [] (fun j => by simp) (fun i o hi => by simp at hi) i o (by rw [predSets_length]; simpa using (List.getElem?_eq_some_iff.1 ho).1) ho he j hj
theorem segOk_spec {l : List Oper} {k k' : Nat} {Es : List Nat} (h : segOk l k k' Es = true) : k ≤ k' ∧ k' ≤ l.length ∧ (∀ i o, l[i]? = some o → ∀ x ∈ edgesOf o, x < i) ∧
    (∀ i o, l[i]? = some o → k ≤ i → i < k' → (o.dst = none → Es.contains i = true) ∧ ∀ j p, k ≤ j → j < k' → l[j]? = some p → (i ≠ j → ∀ a b, o.dst = some a → p.dst = some b → a ≠ b) ∧
      (∀ t, p.dst = some t → (o.looksAt l.toArray).contains t = true → ((predSets l []).getD i 0).testBit j = true)) ∧
    (∀ i o, k' ≤ i → l[i]? = some o → ∀ j, k ≤ j → j < k' → ((predSets l []).getD i 0).testBit j = true) ∧ ∀ e ∈ Es, k ≤ e ∧ e < k' := by
  simp only [segOk, Bool.and_eq_true] at h
  obtain ⟨⟨⟨h0, h00⟩, hall⟩, hE⟩ := h
  have hat : ∀ i o, l[i]? = some o → ((edgesOf o).all (fun x => Nat.blt x i) = true ∧
      (bif Nat.blt i k then true
      else bif Nat.blt i k' then
        (o.dst.isSome || Es.contains i) && (List.range' k (k' - k)).all (fun j => match l[j]? with
          | none => false
          | some p => (bif Nat.beq i j then true else (match o.dst, p.dst with | some a, some b => !(Nat.beq a b) | _, _ => true)) &&
            (match p.dst with
              | some t => bif (o.looksAt l.toArray).contains t then ((predSets l []).getD i 0).testBit j else true
              | none => true))
      else (List.range' k (k' - k)).all fun j => ((predSets l []).getD i 0).testBit j) = true) := by
    intro i o ho
    have hi := (List.getElem?_eq_some_iff.1 ho).1
    have := List.all_eq_true.1 hall i (List.mem_range.2 hi)
    simp only [ho, Bool.and_eq_true] at this
    exact this
  have hkk := Nat.ble_le h0
  have hr : ∀ j, k ≤ j → j < k' → j ∈ List.range' k (k' - k) := fun j h1 h2 => List.mem_range'_1.2 ⟨h1, by omega⟩
  refine ⟨hkk, Nat.ble_le h00, fun i o ho x hx => ?_, fun i o ho hik hik' => ?_, fun i o hik ho j hj1 hj2 => ?_, fun e he => ?_⟩
  · have := List.all_eq_true.1 (hat i o ho).1 x hx
    simpa [Nat.blt_eq] using this
  · have h2 := (hat i o ho).2
    rw [show Nat.blt i k = false by rw [Bool.eq_false_iff, Ne, Nat.blt_eq]; omega, cond_false, show Nat.blt i k' = true by simpa [Nat.blt_eq] using hik', cond_true, Bool.and_eq_true] at h2
    refine ⟨fun hd => ?_, fun j p hj1 hj2 hp => ?_⟩
    · rw [hd] at h2
      simpa using h2.1
    · have h3 := List.all_eq_true.1 h2.2 j (hr j hj1 hj2)
      simp only [hp, Bool.and_eq_true] at h3
      refine ⟨fun hij a b ha hb => ?_, fun t ht hlook => ?_⟩
      · have h4 := h3.1
        rw [nbeq_ne hij, cond_false, ha, hb] at h4
        intro e
        rw [e] at h4
        simp at h4
      · have h4 := h3.2
        rw [ht] at h4
        simpa only [hlook, cond_true] using h4
  · have h2 := (hat i o ho).2
    rw [show Nat.blt i k = false by rw [Bool.eq_false_iff, Ne, Nat.blt_eq]; omega, cond_false, show Nat.blt i k' = false by rw [Bool.eq_false_iff, Ne, Nat.blt_eq]; omega, cond_false] at h2
    exact List.all_eq_true.1 h2 j (hr j hj1 hj2)
  · have h2 := List.all_eq_true.1 hE e he
    simp only [Bool.and_eq_true] at h2
    exact ⟨Nat.ble_le h2.1, by simpa [Nat.blt_eq] using h2.2⟩
/-- The first i operations are done, no other; the rest is drawn. -/
def AAny (P : Program) (n : Nat) (l : List Oper) (i : Nat) (K : Post) (E : EPost) (T : Tmps) (st : St) : Prop :=
  ∀ g0 w0 ds g w a (m : Nat) (listed : Array Bool), Ext g0 w0 g w → Sim g w st → Known g w T a → a.tmps.size = n → a.defers = ds → l.length ≤ i + m → listed.size = l.length → (∀ j, j < l.length → listed.getD j true = decide (j < i)) → Closed l listed →
    wpAny P .any l.toArray (QOf n ds g0 w0 K E) m listed a w
theorem AWP.any {l : List Oper} {id : Nat} (hm : P.follows .mixedOrders = true) (h : AAny P n l 0 K E T st) : AWP P n (.region id l.toArray true) K E T st := by
  intro g0 w0 a0 hs0 hk0 hn0
  refine wp_region_any hm ?_
  obtain ⟨hed, hsd⟩ := hs0.draw
  refine h g0 w0 _ g0 _ a0 _ _ hed hsd (hk0.ext hed) hn0 rfl (by simp) (by simp) (fun j hj => ?_) (fun i o ho hi => ?_)
  · rw [Array.getD_eq_getD_getElem?, Array.getElem?_replicate, if_pos (by simpa using hj)]
    simp
  · rw [Array.getD_eq_getD_getElem?, Array.getElem?_replicate] at hi
    split at hi <;> cases hi
/-- The rest in the text's order. -/
def textOk (l : List Oper) (i : Nat) : Bool :=
  let S := predSets l []
  Nat.ble i l.length && (List.range l.length).all fun j =>
    match l[j]? with
    | none => false
    | some o => (edgesOf o).all (fun x => Nat.blt x j) && (bif Nat.blt j i then true else (List.range j).all fun q => (S.getD j 0).testBit q)
theorem AAny.text {l : List Oper} {i : Nat} (hok : textOk l i = true) (h : AOps P n l.toArray (l.drop i) K E T st) : AAny P n l i K E T st := by
  simp only [textOk, Bool.and_eq_true] at hok
  obtain ⟨h0, hall⟩ := hok
  have hat : ∀ j o, l[j]? = some o → ((edgesOf o).all (fun x => Nat.blt x j) = true ∧ (bif Nat.blt j i then true else (List.range j).all fun q => ((predSets l []).getD j 0).testBit q) = true) := by
    intro j o ho
    have := List.all_eq_true.1 hall j (List.mem_range.2 (List.getElem?_eq_some_iff.1 ho).1)
    simp only [ho, Bool.and_eq_true] at this
    exact this
  intro g0 w0 ds g w a m listed he hs hk hn hd hm hsz hli hc
  refine wpAny_tail (fun j o ho x hx => ?_) i (fun j o hij ho listed' hc' he' q hq => ?_) m i listed a w (Nat.le_refl _) (Nat.ble_le h0) hm hsz hli hc ?_
  · have := List.all_eq_true.1 (hat j o ho).1 x hx
    simpa [Nat.blt_eq] using this
  · have h2 := (hat j o ho).2
    rw [show Nat.blt j i = false by rw [Bool.eq_false_iff, Ne, Nat.blt_eq]; omega, cond_false] at h2
    exact preds_listed hc' ho he' (List.all_eq_true.1 h2 q (List.mem_range.2 hq))
  · subst hd
    exact wpList_mono (fun _ _ _ q => QOf.ext he q) _ _ _ (h g w a hs hk hn)
theorem getD_ft {listed : Array Bool} {j : Nat} (h : j < listed.size) : listed.getD j false = listed.getD j true := by
  rw [Array.getD_eq_getD_getElem?, Array.getD_eq_getD_getElem?, Array.getElem?_eq_getElem h]
  rfl
/-- A single operation, all that comes behind waits for it. -/
theorem AAny.one {l : List Oper} {i : Nat} {o : Oper} {d : Tmp} (hok : segOk l i (i + 1) [] = true) (ho : l[i]? = some o) (hd : dstA n o.dst = some d) (hw : wantedA l.toArray T o = some true)
    (h : AOps P n l.toArray [o] (fun T' st' => ∃ u, T' = (d, u) :: T ∧ AAny P n l (i + 1) K E ((d, u) :: T) st') (fun _ _ _ => False) T st) : AAny P n l i K E T st := by
  obtain ⟨_, hile, hedge, _, htail, _⟩ := segOk_spec hok
  obtain ⟨hd1, hd2⟩ := dstA_some hd
  have hdn : d < n := dstOk_lt hd2 d hd1
  intro g0 w0 ds g w a m listed he hs hk hn hds hm hsz hli hc
  have hil : i < l.length := by omega
  obtain ⟨m, rfl⟩ : ∃ m', m = m' + 1 := ⟨m - 1, by omega⟩
  have hready : i ∈ Region.ready .any l.toArray listed := ready_of_edges (by rw [hli i hil]; simp) ho (fun e he => by
    have hlt := hedge i _ ho e he
    rw [getD_ft (by omega), hli e (by omega), decide_eq_true hlt])
  refine ⟨fun h0 => (by rw [h0] at hready; cases hready), fun j hj => ?_⟩
  obtain ⟨h1, o', h2, h3⟩ := ready_edges hj
  have hjl := (List.getElem?_eq_some_iff.1 h2).1
  have hji : j = i := by
    rw [hli j hjl] at h1
    have hge : i ≤ j := by simpa using h1
    rcases Nat.eq_or_lt_of_le hge with h' | h'
    · exact h'.symm
    · have h4 := preds_listed hc h2 h3 (htail j o' h' h2 i (Nat.le_refl _) (by omega))
      rw [getD_ft (by omega), hli i hil] at h4
      simp at h4
  subst hji
  rw [ho] at h2
  cases h2
  unfold wpOp
  simp only [List.getElem?_toArray, ho]
  rw [wanted_of hk hw, if_pos rfl]
  left
  have hlist' : ∀ q, q < l.length → (listed.setIfInBounds j true).getD q true = decide (q < j + 1) := fun q hq => by
    by_cases hqj : j = q
    · subst hqj
      rw [Array.getD_eq_getD_getElem?, Array.getElem?_setIfInBounds_self_of_lt (by omega)]
      simp
    · rw [getD_set_ne true hqj, hli q hq]
      congr 1
      rw [eq_iff_iff]
      omega
  refine AOps.single hd1 hdn (v := fun u st' => AAny P n l (j + 1) K E ((d, u) :: T) st') h hw hs hk _ _ (fun rv g' w' u st' he' hs' hR hv => ?_) hn
  refine hv g0 w0 ds g' w' _ m _ (he.trans he') hs' ?_ (by rw [Act.size_put]; exact hn) (by rw [Act.defers_put]; exact hds) (by omega) (by simpa using hsz) hlist' (hc.set ho h3)
  have := (hk.ext he').put (d := o.dst) (fun t ht => by rw [hd1] at ht; cases ht; rw [hn]; exact hdn) hR
  rwa [hd1] at this ⊢
def StepG (P : Program) (n : Nat) (I : List Bool → St → Prop) (S Es : List Nat) (i : Nat) (ops : Array Oper) (T : Tmps) (o : Oper) (Q : AV → Prop) : Prop :=
  (wantedA ops T o = some true ∧ ∀ bs, bs.length = Es.length → mayBe S Es i bs = true → EffJ P n (I bs) (I (setBit Es i bs)) T o Q) ∨ (wantedA ops T o = some false ∧ Q (.lit undef) ∧ Es.contains i = false)
/-- The walk of a part in the text's order; behind it k. -/
def DRunG (P : Program) (n : Nat) (I : List Bool → St → Prop) (S Es : List Nat) (ops : Array Oper) : Nat → List Oper → List (AV → Prop) → Tmps → (Tmps → St → Prop) → Prop
  | _, [], [], T, k => ∀ st, I (Es.map fun _ => true) st → k T st
  | i, o :: r, Q :: Qs, T, k => (∃ u, Q u) ∧ dstOk o.dst n = true ∧ StepG P n I S Es i ops (see ops o T) o Q ∧ ∀ u, Q u → DRunG P n I S Es ops (i + 1) r Qs (T.put o.dst u) k
  | _, _, _, _, _ => False
theorem DRunG.out {I : List Bool → St → Prop} {S Es : List Nat} {ops : Array Oper} {k : Tmps → St → Prop} (b : Nat) (us : Nat → AV) (l : List Oper) : ∀ (r : List Oper) (Qs : List (AV → Prop)) (i0 : Nat), (∀ (i : Nat) (o : Oper), r[i]? = some o → l[i0 + i]? = some o) → (∀ (i : Nat) (Q : AV → Prop), Qs[i]? = some Q → Q (us (i0 + i))) →
    DRunG P n I S Es ops (b + i0) r Qs (ents l us i0 ++ T) k → Qs.length = r.length ∧ (∀ st, I (Es.map fun _ => true) st → k (ents l us (i0 + r.length) ++ T) st) ∧
      ∀ i o, r[i]? = some o → ∃ Q, dstOk o.dst n = true ∧ Qs[i]? = some Q ∧ StepG P n I S Es (b + (i0 + i)) ops (see ops o (ents l us (i0 + i) ++ T)) o Q
  | [], [], i0, _, _, h => ⟨rfl, h, fun i o ho => by simp at ho⟩
  | [], _ :: _, _, _, _, h => h.elim
  | _ :: _, [], _, _, _, h => h.elim
  | o :: r, Q :: Qs, i0, hl, hq, h => by
    obtain ⟨_, h2, h4, h5⟩ := h
    have h6 := h5 (us i0) (hq 0 Q rfl)
    have hl0 : l[i0]? = some o := by simpa using hl 0 o rfl
    have he : (ents l us i0 ++ T).put o.dst (us i0) = ents l us (i0 + 1) ++ T := by
      rw [ents, hl0]
      simp only [Option.bind_some]
      cases o.dst <;> rfl
    rw [he, Nat.add_assoc] at h6
    obtain ⟨a1, a2, a3⟩ := DRunG.out b us l r Qs (i0 + 1) (fun i o' ho' => by have := hl (i + 1) o' (by simpa using ho'); rwa [show i0 + (i + 1) = i0 + 1 + i by omega] at this) (fun i Q' hQ' => by have := hq (i + 1) Q' (by simpa using hQ'); rwa [show i0 + (i + 1) = i0 + 1 + i by omega] at this) h6
    refine ⟨by simp [a1], by rw [List.length_cons, show i0 + (r.length + 1) = i0 + 1 + r.length by omega]; exact a2, fun i o' ho' => ?_⟩
    cases i with
    | zero =>
      simp only [List.getElem?_cons_zero, Option.some.injEq] at ho'
      subst ho'
      exact ⟨Q, h2, rfl, h4⟩
    | succ i =>
      obtain ⟨Q', b1, b2, b3⟩ := a3 i o' (by simpa using ho')
      exact ⟨Q', b1, by simpa using b2, by rwa [show i0 + 1 + i = i0 + (i + 1) by omega] at b3⟩
theorem DRunG.fits {I : List Bool → St → Prop} {S Es : List Nat} {ops : Array Oper} {k : Tmps → St → Prop} : ∀ (r : List Oper) (Qs : List (AV → Prop)) (i0 : Nat) (T : Tmps), DRunG P n I S Es ops i0 r Qs T k → ∀ (i : Nat) (Q : AV → Prop), Qs[i]? = some Q → ∃ u, Q u
  | [], [], _, _, _, i, Q, h => by simp at h
  | [], _ :: _, _, _, h, _, _, _ => h.elim
  | _ :: _, [], _, _, h, _, _, _ => h.elim
  | o :: r, Q0 :: Qs, i0, T, h, i, Q, hq => by
    obtain ⟨⟨u, hu⟩, h2, h4, h5⟩ := h
    cases i with
    | zero => simp at hq; subst hq; exact ⟨u, hu⟩
    | succ i => exact DRunG.fits r Qs _ _ (h5 u hu) i Q (by simpa using hq)
theorem may_of {l : List Oper} {listed : Array Bool} (hc : Closed l listed) (hsz : listed.size = l.length) {i : Nat} {o : Oper} (ho : l[i]? = some o) (he : ∀ x ∈ edgesOf o, listed.getD x false = true) (hun : listed.getD i false = false) (Es : List Nat) :
    mayBe (predSets l []) Es i (Es.map fun e => listed.getD e false) = true := by
  unfold mayBe
  rw [List.all_eq_true]
  intro p hp
  have hp2 : p.1 ∈ Es ∧ p.2 = listed.getD p.1 false := by
    obtain ⟨q, hq⟩ := List.getElem?_of_mem hp
    rw [List.getElem?_zip_eq_some] at hq
    obtain ⟨h1, h2⟩ := hq
    rw [List.getElem?_map, h1, Option.map_some, Option.some.injEq] at h2
    exact ⟨List.mem_of_getElem? h1, h2.symm⟩
  obtain ⟨e, b⟩ := p
  simp only at hp2 ⊢
  obtain ⟨h1, h2⟩ := hp2
  cases hb : b with
  | true =>
    rw [hb] at h2
    have hel : e < l.length := by
      rcases Nat.lt_or_ge e l.length with h | h
      · exact h
      · rw [Array.getD_eq_getD_getElem?, Array.getElem?_eq_none (by omega)] at h2; cases h2
    rw [cond_true, Bool.and_eq_true]
    refine ⟨?_, ?_⟩
    · cases hei : Nat.beq e i with
      | false => rfl
      | true => rw [Nat.eq_of_beq_eq_true hei, hun] at h2; cases h2
    · cases ht : ((predSets l []).getD e 0).testBit i with
      | false => rfl
      | true =>
        have := preds_listed hc (List.getElem?_eq_getElem hel) (fun x hx => hc e _ (List.getElem?_eq_getElem hel) h2.symm x hx) ht
        rw [hun] at this
        cases this
  | false =>
    rw [hb] at h2
    rw [cond_false]
    cases ht : ((predSets l []).getD i 0).testBit e with
    | false => rfl
    | true => rw [preds_listed hc ho he ht] at h2; cases h2
theorem setBit_of {listed : Array Bool} {i : Nat} (hi : i < listed.size) : ∀ (Es : List Nat), (Es.map fun e => (listed.setIfInBounds i true).getD e false) = setBit Es i (Es.map fun e => listed.getD e false)
  | [] => rfl
  | e :: Es => by
    have := setBit_of hi Es
    unfold setBit at this ⊢
    rw [List.map_cons, List.map_cons, List.zip_cons_cons, List.map_cons, this]
    congr 1
    by_cases h : i = e
    · subst h
      rw [Array.getD_eq_getD_getElem?, Array.getElem?_setIfInBounds_self_of_lt hi, nbeq_self]
      simp
    · rw [getD_set_ne false h, nbeq_ne (Ne.symm h)]
      simp
theorem setBit_none {i : Nat} : ∀ (Es : List Nat) (bs : List Bool), bs.length = Es.length → Es.contains i = false → setBit Es i bs = bs
  | [], [], _, _ => rfl
  | [], _ :: _, h, _ => by simp at h
  | _ :: _, [], h, _ => by simp at h
  | e :: Es, b :: bs, h, hc => by
    rw [List.contains_cons, Bool.or_eq_false_iff] at hc
    have := setBit_none Es bs (by simpa using h) hc.2
    unfold setBit at this ⊢
    rw [List.zip_cons_cons, List.map_cons, this, nbeq_ne (fun h => by subst h; simp at hc), Bool.or_false]
theorem AAny.seg {l : List Oper} {k : Nat} (k' : Nat) (S Es : List Nat) (I : List Bool → St → Prop) (Qs : List (AV → Prop)) (hok : segOk l k k' Es = true) (hS : predSets l [] = S) (hI : I (Es.map fun _ => false) st)
    (h : DRunG P n I S Es l.toArray k ((l.drop k).take (k' - k)) Qs T fun T' st' => AAny P n l k' K E T' st') : AAny P n l k K E T st := by
  subst hS
  obtain ⟨hkk, hkl, hedge, hbody, htail, hEs⟩ := segOk_spec hok
  have hfits := DRunG.fits _ _ _ _ h
  have hget : ∀ i, i < k' - k → (l.drop k)[i]? = l[k + i]? := fun i _ => List.getElem?_drop
  have hout := fun (us : Nat → AV) (hus : ∀ (i : Nat) (Q : AV → Prop), Qs[i]? = some Q → Q (us (0 + i))) => DRunG.out (T := T) k us (l.drop k) ((l.drop k).take (k' - k)) Qs 0 (fun i o ho => by
    have hi : i < k' - k := by have := (List.getElem?_eq_some_iff.1 ho).1; simp at this; omega
    rw [List.getElem?_take_of_lt hi] at ho
    rwa [Nat.zero_add]) hus h
  have hlk0 : ((l.drop k).take (k' - k)).length = k' - k := by simp; omega
  obtain ⟨wit, hwit⟩ : ∃ wit : Nat → AV, ∀ (i : Nat) (Q : AV → Prop), Qs[i]? = some Q → Q (wit i) := by
    have : ∀ i : Nat, ∃ u : AV, ∀ Q : AV → Prop, Qs[i]? = some Q → Q u := fun i => by
      cases hq : Qs[i]? with
      | none => exact ⟨.bool true, fun Q h => by cases h⟩
      | some Q =>
        obtain ⟨u, hu⟩ := hfits i Q hq
        exact ⟨u, fun Q' h => by cases h; exact hu⟩
    exact ⟨fun i => Classical.choose (this i), fun i Q hQ => Classical.choose_spec (this i) Q hQ⟩
  have hQl : Qs.length = k' - k := by rw [(hout wit (fun i Q hQ => by rw [Nat.zero_add]; exact hwit i Q hQ)).1, hlk0]
  intro g0 w0 ds g1 w1 a1 m1 listed1 he1 hs1 hk1 hn1 hd1 hm1 hsz1 hli1 hc1
  let Inv : Array Bool → Act → World → Prop := fun listed a w => listed.size = l.length ∧ Closed l listed ∧ (∀ j, j < k → listed.getD j true = true) ∧ (∀ j, k' ≤ j → j < l.length → listed.getD j true = false) ∧ a.tmps.size = n ∧ a.defers = ds ∧
    ∃ g st1, Ext g0 w0 g w ∧ Sim g w st1 ∧ I (Es.map fun e => listed.getD e false) st1 ∧
      (∀ t v, Tmps.get T t = some v → (∀ i, i < k' - k → (l[k + i]?).bind (·.dst) = some t → listed.getD (k + i) false = false) → ∃ rv, a.tmps[t]? = some rv ∧ R g w v rv) ∧
      (∀ i d Q, i < k' - k → (l[k + i]?).bind (·.dst) = some d → Qs[i]? = some Q → listed.getD (k + i) false = true → ∃ u rv, Q u ∧ a.tmps[d]? = some rv ∧ R g w u rv)
  let μ : Array Bool → Nat := fun listed => (List.range l.length).countP fun j => !listed.getD j true
  have hμ : ∀ (listed : Array Bool) i, i < l.length → listed.size = l.length → listed.getD i true = false → μ (listed.setIfInBounds i true) + 1 ≤ μ listed := by
    intro listed i hil hsz hi
    have gen : ∀ (A : List Nat), i ∈ A → A.countP (fun j => !(listed.setIfInBounds i true).getD j true) + 1 ≤ A.countP (fun j => !listed.getD j true) := by
      have le : ∀ (A : List Nat), A.countP (fun j => !(listed.setIfInBounds i true).getD j true) ≤ A.countP (fun j => !listed.getD j true) := fun A => List.countP_mono_left fun j _ hj => by
        by_cases hij : i = j
        · subst hij
          rw [Array.getD_eq_getD_getElem?, Array.getElem?_setIfInBounds_self_of_lt (by omega)] at hj
          simp at hj
        · rw [getD_set_ne true hij] at hj; exact hj
      intro A
      induction A with
      | nil => intro h; simp at h
      | cons x A ih =>
        intro h
        rw [List.countP_cons, List.countP_cons]
        by_cases hx : x = i
        · subst hx
          have h1 : (!(listed.setIfInBounds x true).getD x true) = false := by
            rw [Array.getD_eq_getD_getElem?, Array.getElem?_setIfInBounds_self_of_lt (by omega)]; rfl
          have h2 : (!listed.getD x true) = true := by rw [hi]; rfl
          rw [h1, h2, if_neg (by decide), if_pos rfl]
          have := le A
          omega
        · have hm' : i ∈ A := by rcases List.mem_cons.1 h with h | h; exact absurd h.symm hx; exact h
          have := ih hm'
          have h3 : (listed.setIfInBounds i true).getD x true = listed.getD x true := getD_set_ne true (Ne.symm hx)
          rw [h3]
          omega
    exact gen _ (List.mem_range.2 hil)
  have choose : ∀ (listed : Array Bool) (a : Act) (g : G) (w : World), (∀ i d Q, i < k' - k → (l[k + i]?).bind (·.dst) = some d → Qs[i]? = some Q → listed.getD (k + i) false = true → ∃ u rv, Q u ∧ a.tmps[d]? = some rv ∧ R g w u rv) →
      ∃ us : Nat → AV, (∀ (i : Nat) (Q : AV → Prop), Qs[i]? = some Q → Q (us i)) ∧ ∀ i d, i < k' - k → (l[k + i]?).bind (·.dst) = some d → listed.getD (k + i) false = true → ∃ rv, a.tmps[d]? = some rv ∧ R g w (us i) rv := by
    intro listed a g w hB
    have : ∀ i : Nat, ∃ u : AV, (∀ Q : AV → Prop, Qs[i]? = some Q → Q u) ∧ ∀ d, i < k' - k → (l[k + i]?).bind (·.dst) = some d → listed.getD (k + i) false = true → ∃ rv, a.tmps[d]? = some rv ∧ R g w u rv := fun i => by
      by_cases hc : i < k' - k ∧ listed.getD (k + i) false = true
      · obtain ⟨hik, hli⟩ := hc
        cases hd' : (l[k + i]?).bind (·.dst) with
        | none => exact ⟨wit i, hwit i, fun d _ hd2 _ => by cases hd2⟩
        | some d =>
          have hq : Qs[i]? = some (Qs[i]'(by omega)) := List.getElem?_eq_getElem _
          obtain ⟨u, rv, h1, h2, h3⟩ := hB i d _ hik hd' hq hli
          refine ⟨u, fun Q h => by rw [hq] at h; cases h; exact h1, fun d' _ hd2 _ => ?_⟩
          cases hd2
          exact ⟨rv, h2, h3⟩
      · exact ⟨wit i, hwit i, fun d h1 _ h2 => absurd ⟨h1, h2⟩ hc⟩
    exact ⟨fun i => Classical.choose (this i), fun i => (Classical.choose_spec (this i)).1, fun i => (Classical.choose_spec (this i)).2⟩
  have hentsget : ∀ (us : Nat → AV) (i t : Nat) v, i ≤ k' - k → Tmps.get (ents (l.drop k) us i) t = some v → ∃ j, j < i ∧ (l[k + j]?).bind (·.dst) = some t ∧ v = us j := fun us i t v hi hg => by
    obtain ⟨j, hj, hdj, rfl⟩ := ents_get i t _ hg
    exact ⟨j, hj, by rw [← hget j (by omega)]; exact hdj, rfl⟩
  have hentsnone : ∀ (us : Nat → AV) (i t : Nat), i ≤ k' - k → Tmps.get (ents (l.drop k) us i) t = none → ∀ j, j < i → (l[k + j]?).bind (·.dst) ≠ some t := fun us i t hi hg j hj => by
    rw [← hget j (by omega)]
    exact ents_none i t hg j hj
  have done : ∀ (m : Nat) (listed : Array Bool) (a : Act) (w : World), Inv listed a w → (∀ j, j < k' → listed.getD j true = true) → l.length ≤ k' + m → wpAny P .any l.toArray (QOf n ds g0 w0 K E) m listed a w := by
    intro m listed a w ⟨hsz, hcl, hfst, htl, hn, hd, g, st1, he, hs, hI1, hA, hB⟩ hall hm'
    have hlist : ∀ j, j < k' → listed.getD j false = true := fun j hj => by
      rw [getD_ft (by omega)]; exact hall j hj
    obtain ⟨us, hus, hus2⟩ := choose listed a g w hB
    obtain ⟨_, hfin, _⟩ := hout us (fun i Q hQ => by rw [Nat.zero_add]; exact hus i Q hQ)
    rw [hlk0, Nat.zero_add] at hfin
    have hIt : (Es.map fun e => listed.getD e false) = Es.map fun _ => true := List.map_congr_left fun e he => hlist e (hEs e he).2
    rw [hIt] at hI1
    refine hfin st1 hI1 g0 w0 ds g w a m listed he hs (fun t u hu => ?_) hn hd hm' hsz (fun j hj => ?_) hcl
    · rw [get_append] at hu
      cases hg : Tmps.get (ents (l.drop k) us (k' - k)) t with
      | some u' =>
        rw [hg] at hu
        cases hu
        obtain ⟨j, hj, hdj, rfl⟩ := hentsget us _ t _ (Nat.le_refl _) hg
        exact hus2 j t hj hdj (hlist (k + j) (by omega))
      | none =>
        rw [hg] at hu
        exact hA t u hu fun i hi hit => absurd hit (hentsnone us _ t (Nat.le_refl _) hg i hi)
    · by_cases hjk : j < k'
      · rw [hall j hjk, decide_eq_true hjk]
      · rw [htl j (by omega) hj, decide_eq_false hjk]
  have step : ∀ (K' : Act → World → Prop) (listed : Array Bool) (a : Act) (w : World) (q : Nat), Inv listed a w → q < k' - k → k + q ∈ Region.ready .any l.toArray listed → (∀ a' w', Inv (listed.setIfInBounds (k + q) true) a' w' → K' a' w') →
      wpOp P l.toArray (QOf n ds g0 w0 K E) (k + q) K' a w := by
    intro K' listed a w q ⟨hsz, hcl, hfst, htl, hn, hd, g, st1, he, hs, hI1, hA, hB⟩ hqk hri hK
    obtain ⟨hun, o, ho, hed'⟩ := ready_edges hri
    have hil := (List.getElem?_eq_some_iff.1 ho).1
    have hunf : listed.getD (k + q) false = false := by
      rw [getD_ft (by omega)]; exact hun
    have hcl' := hcl.set ho hed'
    have hsz' : (listed.setIfInBounds (k + q) true).size = l.length := by simpa using hsz
    have hfst' : ∀ j, j < k → (listed.setIfInBounds (k + q) true).getD j true = true := fun j h1 => by
      rw [getD_set_ne true (by omega)]; exact hfst j h1
    have htl' : ∀ j, k' ≤ j → j < l.length → (listed.setIfInBounds (k + q) true).getD j true = false := fun j h1 h2 => by
      rw [getD_set_ne true (by omega)]; exact htl j h1 h2
    obtain ⟨us, hus, hus2⟩ := choose listed a g w hB
    obtain ⟨_, _, hops⟩ := hout us (fun i Q hQ => by rw [Nat.zero_add]; exact hus i Q hQ)
    obtain ⟨Q, hdn, hQi, hstep⟩ := hops q o (by rw [List.getElem?_take_of_lt hqk, hget q hqk]; exact ho)
    rw [Nat.zero_add] at hstep
    have hlooked : ∀ j, j < k' - k → ∀ t, (l[k + j]?).bind (·.dst) = some t → (o.looksAt l.toArray).contains t = true → listed.getD (k + j) false = true ∧ j < q := by
      intro j hj t hjt hlook
      have hp : l[k + j]? = some l[k + j] := List.getElem?_eq_getElem (by omega)
      rw [hp] at hjt
      have h2 := ((hbody (k + q) o ho (by omega) (by omega)).2 (k + j) _ (by omega) (by omega) hp).2 t hjt hlook
      refine ⟨preds_listed hcl ho hed' h2, ?_⟩
      have hcl2 : Closed l (Array.ofFn fun x : Fin l.length => decide (x.val < k + q)) := by
        intro x ox hx hx' y hy
        have hql := (List.getElem?_eq_some_iff.1 hx).1
        rw [Array.getD_eq_getD_getElem?, Array.getElem?_ofFn] at hx' ⊢
        simp only [hql, dif_pos, Option.getD_some, decide_eq_true_eq] at hx'
        have hxq := hedge x ox hx y hy
        simp only [show y < l.length by omega, dif_pos, Option.getD_some, decide_eq_true_eq]
        omega
      have h3 := preds_listed hcl2 ho (fun x hx' => by
        have hxi := hedge (k + q) o ho x hx'
        rw [Array.getD_eq_getD_getElem?, Array.getElem?_ofFn]
        simp only [show x < l.length by omega, dif_pos, Option.getD_some, decide_eq_true_eq]
        exact hxi) h2
      rw [Array.getD_eq_getD_getElem?, Array.getElem?_ofFn] at h3
      simp only [show k + j < l.length by omega, dif_pos, Option.getD_some, decide_eq_true_eq] at h3
      omega
    have hknown : Known g w (see l.toArray o (ents (l.drop k) us q ++ T)) a := fun t v ht => by
      obtain ⟨hlook, hgt⟩ := get_filter _ _ _ _ ht
      rw [get_append] at hgt
      cases hg : Tmps.get (ents (l.drop k) us q) t with
      | some u' =>
        rw [hg] at hgt
        cases hgt
        obtain ⟨j, hj, hdj, rfl⟩ := hentsget us q t _ (by omega) hg
        exact hus2 j t (by omega) hdj (hlooked j (by omega) t hdj hlook).1
      | none =>
        rw [hg] at hgt
        refine hA t v hgt fun j hj hjt => ?_
        have h1 := hlooked j hj t hjt hlook
        exact absurd hjt (hentsnone us q t (by omega) hg j h1.2)
    have hother : ∀ t, o.dst ≠ some t → ∀ rv', (a.put o.dst rv').tmps[t]? = a.tmps[t]? := fun t ht rv' => by
      cases hod : o.dst with
      | none => rfl
      | some d =>
        simp only [Act.put, Array.getElem?_setIfInBounds]
        rw [if_neg (fun h => ht (by rw [hod, h]))]
    have hself : ∀ d, o.dst = some d → ∀ rv', (a.put o.dst rv').tmps[d]? = some rv' := fun d hod rv' => by
      have hdn' := dstOk_lt hdn d hod
      rw [hod]
      simp only [Act.put, Array.getElem?_setIfInBounds]
      simp [hn, hdn']
    have hdi : ∀ d, (l[k + q]?).bind (·.dst) = some d → o.dst = some d := fun d h => by rw [ho] at h; exact h
    have after : ∀ v rv g' w' st2, Ext g w g' w' → Sim g' w' st2 → R g' w' v rv → Q v → I (setBit Es (k + q) (Es.map fun e => listed.getD e false)) st2 → Inv (listed.setIfInBounds (k + q) true) (a.put o.dst rv) w' := by
      intro v rv g' w' st2 he' hs' hR hQv hI2
      refine ⟨hsz', hcl', hfst', htl', by rw [Act.size_put]; exact hn, by rw [Act.defers_put]; exact hd, g', st2, he.trans he', hs', by rw [setBit_of (by omega)]; exact hI2, fun t u ht hwr => ?_, fun j d' Q' hj hjd hjQ hjl => ?_⟩
      · have htd : o.dst ≠ some t := fun htd => by
          have := hwr q hqk (by rw [ho]; exact htd)
          rw [Array.getD_eq_getD_getElem?, Array.getElem?_setIfInBounds_self_of_lt (by omega)] at this
          simp at this
        obtain ⟨ru, h1, h2⟩ := hA t u ht fun j hj hjt => by
          have h3 := hwr j hj hjt
          by_cases hij : q = j
          · subst hij; exact hunf
          · rwa [getD_set_ne false (by omega)] at h3
        exact ⟨ru, by rw [hother t htd]; exact h1, h2.ext he'⟩
      · by_cases hij : q = j
        · subst hij
          rw [hQi] at hjQ
          cases hjQ
          exact ⟨v, rv, hQv, hself d' (hdi d' hjd) rv, hR⟩
        · rw [getD_set_ne false (by omega)] at hjl
          obtain ⟨u, ru, h1, h2, h3⟩ := hB j d' Q' hj hjd hjQ hjl
          refine ⟨u, ru, h1, ?_, h3.ext he'⟩
          rw [hother d' ?_]
          · exact h2
          · have hp : l[k + j]? = some l[k + j] := List.getElem?_eq_getElem (by omega)
            rw [hp] at hjd
            exact fun hdd => ((hbody (k + q) o ho (by omega) (by omega)).2 (k + j) _ (by omega) (by omega) hp).1 (by omega) d' d' hdd hjd rfl
    unfold wpOp
    simp only [List.getElem?_toArray, ho]
    rcases hstep with ⟨hw, hq1⟩ | ⟨hw, hq, hni⟩
    · rw [wanted_of hknown hw, if_pos rfl]
      left
      exact hq1 _ (by simp) (may_of hcl hsz ho hed' hunf Es) st1 g w a K' _ hI1 hs hknown hn fun rv g' w' v st2 he' hs' hR hQv hI2 => hK _ _ (after v rv g' w' st2 he' hs' hR hQv hI2)
    · rw [wanted_of hknown hw, if_neg (by simp)]
      exact hK _ _ (after _ undef g w st1 (.refl _ _) hs (.lit _) hq (by rw [setBit_none Es _ (by simp) hni]; exact hI1))
  have key : ∀ (m : Nat) (listed : Array Bool) (a : Act) (w : World), Inv listed a w → μ listed ≤ m → wpAny P .any l.toArray (QOf n ds g0 w0 K E) m listed a w := by
    intro m
    induction m with
    | zero =>
      intro listed a w hi hm0
      have hall : ∀ j, j < l.length → listed.getD j true = true := fun j hj => by
        cases hv : listed.getD j true with
        | true => rfl
        | false => have := hμ listed j hj hi.1 hv; omega
      have hlk : l.length = k' := by
        rcases Nat.eq_or_lt_of_le hkl with h' | h'
        · exact h'.symm
        · have h1 := hall k' h'
          have h2 := hi.2.2.2.1 k' (Nat.le_refl _) h'
          rw [h1] at h2
          cases h2
      exact done 0 listed a w hi (fun j hj => hall j (by omega)) (by omega)
    | succ m ih =>
      intro listed a w hi hm1
      by_cases hall : ∀ j, j < k' → listed.getD j true = true
      · refine done (m + 1) listed a w hi hall ?_
        have : l.length - k' ≤ μ listed := by
          exact countP_range_ge k' _ l.length fun j h1 h2 => by rw [hi.2.2.2.1 j h1 h2]; rfl
        omega
      · have hex : ∃ j, j < k' ∧ listed.getD j true = false ∧ ∀ q, q < j → listed.getD q true = true := by
          have : ∃ j, j < k' ∧ listed.getD j true = false := by
            apply Classical.byContradiction
            intro hno
            apply hall
            intro j hj
            cases hv : listed.getD j true with
            | true => rfl
            | false => exact absurd ⟨j, hj, hv⟩ hno
          obtain ⟨j, hj⟩ := this
          induction j using Nat.strongRecOn with
          | _ j ihj =>
            by_cases hq : ∀ q, q < j → listed.getD q true = true
            · exact ⟨j, hj.1, hj.2, hq⟩
            · simp only [Classical.not_forall] at hq
              obtain ⟨q, hqj, hq⟩ := hq
              exact ihj q hqj ⟨by omega, by simpa using hq⟩
        obtain ⟨j0, hj0, hv0, hmin⟩ := hex
        have hsz := hi.1
        have hjl : j0 < l.length := by omega
        have hkj : k ≤ j0 := by
          rcases Nat.lt_or_ge j0 k with h' | h'
          · rw [hi.2.2.1 j0 h'] at hv0; cases hv0
          · exact h'
        have hready : j0 ∈ Region.ready .any l.toArray listed := ready_of_edges hv0 (List.getElem?_eq_getElem hjl) (fun x hx => by
          have hxj := hedge j0 _ (List.getElem?_eq_getElem hjl) x hx
          rw [getD_ft (by omega)]
          exact hmin x hxj)
        refine ⟨fun h0 => (by rw [h0] at hready; cases hready), fun i hri => ?_⟩
        obtain ⟨hun, o, ho, hed'⟩ := ready_edges hri
        have hil := (List.getElem?_eq_some_iff.1 ho).1
        have hik : i < k' := by
          rcases Nat.lt_or_ge i k' with h' | h'
          · exact h'
          · have h1 := preds_listed hi.2.1 ho hed' (htail i o h' ho j0 hkj hj0)
            rw [getD_ft (by omega), hv0] at h1
            cases h1
        have hki : k ≤ i := by
          rcases Nat.lt_or_ge i k with h' | h'
          · rw [hi.2.2.1 i h'] at hun; cases hun
          · exact h'
        obtain ⟨q, rfl⟩ : ∃ q, i = k + q := ⟨i - k, by omega⟩
        exact step _ listed a w q hi (by omega) hri fun a' w' hi' => ih _ a' w' hi' (by have := hμ listed (k + q) hil hsz hun; omega)
  refine key m1 listed1 a1 w1 ⟨hsz1, hc1, fun j hj => by rw [hli1 j (by omega), decide_eq_true hj], fun j h1 h2 => by rw [hli1 j h2, decide_eq_false (by omega)], hn1, hd1, g1, st, he1, hs1, ?_, fun t v ht _ => hk1 t v ht, fun i d Q hi hdi _ hl => ?_⟩ ?_
  · have : (Es.map fun e => listed1.getD e false) = Es.map fun _ => false := List.map_congr_left fun e he => by
      obtain ⟨h1, h2⟩ := hEs e he
      rw [getD_ft (by omega), hli1 e (by omega), decide_eq_false (by omega)]
    rw [this]
    exact hI
  · rw [getD_ft (by omega), hli1 (k + i) (by omega), decide_eq_false (by omega)] at hl
    cases hl
  · have h2 : μ listed1 = (List.range l.length).countP fun j => !decide (j < k) := List.countP_congr fun j hj => by rw [hli1 j (List.mem_range.1 hj)]
    rw [h2]
    have h3 : ∀ N, (List.range N).countP (fun j => !decide (j < k)) ≤ N - k := by
      intro N
      induction N with
      | zero => simp
      | succ N ih =>
        rw [List.range_succ, List.countP_append, List.countP_singleton]
        by_cases hN : N < k
        · simp only [hN, decide_true, Bool.not_true, Bool.false_eq_true, if_false]; omega
        · simp only [hN, decide_false, Bool.not_false, if_true]; omega
    have := h3 l.length
    omega
variable {sts : List Bool → Option St} {F : St → St → Prop} {base : St} {S Es : List Nat} {ops : Array Oper} {Qs : List (AV → Prop)}
def allBits : Nat → List (List Bool)
  | 0 => [[]]
  | k + 1 => (allBits k).flatMap fun bs => [false :: bs, true :: bs]
theorem mem_allBits : ∀ (bs : List Bool), bs ∈ allBits bs.length
  | [] => by simp [allBits]
  | b :: bs => by
    rw [List.length_cons, allBits, List.mem_flatMap]
    exact ⟨bs, mem_allBits bs, by cases b <;> simp⟩
def BAll : List (List Bool) → (List Bool → Prop) → Prop
  | [], _ => True
  | b :: r, p => p b ∧ BAll r p
theorem BAll.get {p : List Bool → Prop} : ∀ {L : List (List Bool)}, BAll L p → ∀ bs ∈ L, p bs
  | b :: r, h, bs, hb => by
    rcases List.mem_cons.1 hb with hb | hb
    · subst hb; exact h.1
    · exact BAll.get h.2 bs hb
end
end Go.AM
/- Slices that are appended to in place: out of nil, and frozen where they lie. No conditions: definitions and lemmas only. -/
namespace Go.AM
open Go.RowKit (Below)
section
variable {P : Program} {n : Nat} {K : Post} {E : EPost} {T : Tmps} {st : St} {ops : Array Oper} {rest : List Oper}
variable {ty : TypeId} {pos : String} {es : Array Edge} {gd : Option (Nat × Bool)} {d : Tmp} {x y : Operand} {dd : Option Tmp}
/-- Nothing but the package-level variables. -/
def St.bareOf (s : St) : St := { obj := fun _ => none, tok := fun _ => false, glob := s.glob }
theorem StLe.bare {s s' : St} (h : s'.glob = s.glob) : StLe s' s.bareOf := ⟨fun _ _ h => (by cases h), fun _ h => (by cases h), h.symm⟩
end
end Go.AM
/- Parts of a region that are drawn, what is done told with the values it gave. Empty literals. No conditions: definitions and lemmas only. -/
namespace Go.AM
open Go.RowKit (Below)
section
variable {P : Program} {n : Nat} {K : Post} {E : EPost} {T : Tmps} {st : St}
def setV (Es : List Nat) (i : Nat) (v : AV) (vs : List (Option AV)) : List (Option AV) := (Es.zip vs).map fun p => bif Nat.beq p.1 i then some v else p.2
/-- What is done ahead of operation i gave the values told. -/
def LinkV (Es : List Nat) (i : Nat) (vals : Nat → AV) (vs : List (Option AV)) : Prop := ∀ p ∈ Es.zip vs, p.1 < i → ∀ u, p.2 = some u → u = vals p.1
def StepV (P : Program) (n : Nat) (I : List (Option AV) → St → Prop) (S Es : List Nat) (i : Nat) (ops : Array Oper) (T : Tmps) (vals : Nat → AV) (o : Oper) (Q : AV → Prop) : Prop :=
  (wantedA ops T o = some true ∧ ∀ vs : List (Option AV), vs.length = Es.length → mayBe S Es i (vs.map Option.isSome) = true → LinkV Es i vals vs →
    ∀ st g w a (K' : Act → World → Prop) (Q' : Exit → Act → World → Prop), I vs st → Sim g w st → Known g w T a → a.tmps.size = n →
      (∀ rv g' w' v st1, Ext g w g' w' → Sim g' w' st1 → R g' w' v rv → Q v → I (setV Es i v vs) st1 → K' (a.put o.dst rv) w') → o.wp P a w K' Q') ∨ (wantedA ops T o = some false ∧ Q (.lit undef) ∧ Es.contains i = false)
/-- The walk of a part in the text's order; behind it k. -/
def DRunV (P : Program) (n : Nat) (I : List (Option AV) → St → Prop) (S Es : List Nat) (ops : Array Oper) : Nat → List Oper → List (AV → Prop) → Tmps → (Nat → AV) → (Tmps → St → Prop) → Prop
  | _, [], [], T, vals, k => ∀ st, I (Es.map fun e => some (vals e)) st → k T st
  | i, o :: r, Q :: Qs, T, vals, k => (∃ u, Q u) ∧ dstOk o.dst n = true ∧ StepV P n I S Es i ops (see ops o T) vals o Q ∧ ∀ u, Q u → DRunV P n I S Es ops (i + 1) r Qs (T.put o.dst u) (fun j => bif Nat.beq j i then u else vals j) k
  | _, _, _, _, _, _ => False
theorem DRunV.out {I : List (Option AV) → St → Prop} {S Es : List Nat} {ops : Array Oper} {k : Tmps → St → Prop} (b : Nat) (us : Nat → AV) (l : List Oper) : ∀ (r : List Oper) (Qs : List (AV → Prop)) (i0 : Nat) (vals : Nat → AV), (∀ (i : Nat) (o : Oper), r[i]? = some o → l[i0 + i]? = some o) → (∀ (i : Nat) (Q : AV → Prop), Qs[i]? = some Q → Q (us (b + (i0 + i)))) →
    (∀ j, b ≤ j → j < b + i0 → vals j = us j) → (∀ e ∈ Es, b ≤ e ∧ e < b + i0 + r.length) →
    DRunV P n I S Es ops (b + i0) r Qs (ents l (fun i => us (b + i)) i0 ++ T) vals k → Qs.length = r.length ∧ (∀ st, I (Es.map fun e => some (us e)) st → k (ents l (fun i => us (b + i)) (i0 + r.length) ++ T) st) ∧
      ∀ i o, r[i]? = some o → ∃ Q, dstOk o.dst n = true ∧ Qs[i]? = some Q ∧ StepV P n I S Es (b + (i0 + i)) ops (see ops o (ents l (fun i => us (b + i)) (i0 + i) ++ T)) us o Q
  | [], [], i0, vals, _, _, hv, hE, h => ⟨rfl, fun st hI => by
      have e : (Es.map fun e => some (vals e)) = Es.map fun e => some (us e) := List.map_congr_left fun e he => by
        obtain ⟨h1, h2⟩ := hE e he
        rw [hv e h1 (by simpa using h2)]
      have h' : ∀ st, I (Es.map fun e => some (vals e)) st → k (ents l (fun i => us (b + i)) i0 ++ T) st := h
      rw [e] at h'
      exact h' st hI, fun i o ho => by simp at ho⟩
  | [], _ :: _, _, _, _, _, _, _, h => h.elim
  | _ :: _, [], _, _, _, _, _, _, h => h.elim
  | o :: r, Q :: Qs, i0, vals, hl, hq, hv, hE, h => by
    obtain ⟨_, h2, h4, h5⟩ := h
    have h6 := h5 (us (b + i0)) (hq 0 Q rfl)
    have hl0 : l[i0]? = some o := by simpa using hl 0 o rfl
    have he : (ents l (fun i => us (b + i)) i0 ++ T).put o.dst (us (b + i0)) = ents l (fun i => us (b + i)) (i0 + 1) ++ T := by
      rw [ents, hl0]
      simp only [Option.bind_some]
      cases o.dst <;> rfl
    rw [he, Nat.add_assoc] at h6
    obtain ⟨a1, a2, a3⟩ := DRunV.out b us l r Qs (i0 + 1) _ (fun i o' ho' => by have := hl (i + 1) o' (by simpa using ho'); rwa [show i0 + (i + 1) = i0 + 1 + i by omega] at this) (fun i Q' hQ' => by have := hq (i + 1) Q' (by simpa using hQ'); rwa [show i0 + (i + 1) = i0 + 1 + i by omega] at this)
      (fun j h1 h2 => by
        by_cases hj : j = b + i0
        · subst hj; rw [nbeq_self]; rfl
        · rw [nbeq_ne hj]; exact hv j h1 (by omega)) (fun e he => by have := hE e he; simp only [List.length_cons] at this; omega) h6
    refine ⟨by simp [a1], by rw [List.length_cons, show i0 + (r.length + 1) = i0 + 1 + r.length by omega]; exact a2, fun i o' ho' => ?_⟩
    cases i with
    | zero =>
      simp only [List.getElem?_cons_zero, Option.some.injEq] at ho'
      subst ho'
      refine ⟨Q, h2, rfl, ?_⟩
      rcases h4 with ⟨hw, h4⟩ | h4
      · exact .inl ⟨hw, fun vs hl hm hlk => h4 vs hl hm fun p hp hlt u hu => by
          have hpe : p.1 ∈ Es := (List.of_mem_zip hp).1
          rw [hv p.1 (hE p.1 hpe).1 hlt]
          exact hlk p hp hlt u hu⟩
      · exact .inr h4
    | succ i =>
      obtain ⟨Q', b1, b2, b3⟩ := a3 i o' (by simpa using ho')
      exact ⟨Q', b1, by simpa using b2, by rwa [show i0 + 1 + i = i0 + (i + 1) by omega] at b3⟩
theorem DRunV.fits {I : List (Option AV) → St → Prop} {S Es : List Nat} {ops : Array Oper} {k : Tmps → St → Prop} : ∀ (r : List Oper) (Qs : List (AV → Prop)) (i0 : Nat) (T : Tmps) (vals : Nat → AV), DRunV P n I S Es ops i0 r Qs T vals k → ∀ (i : Nat) (Q : AV → Prop), Qs[i]? = some Q → ∃ u, Q u
  | [], [], _, _, _, _, i, Q, h => by simp at h
  | [], _ :: _, _, _, _, h, _, _, _ => h.elim
  | _ :: _, [], _, _, _, h, _, _, _ => h.elim
  | o :: r, Q0 :: Qs, i0, T, vals, h, i, Q, hq => by
    obtain ⟨⟨u, hu⟩, h2, h4, h5⟩ := h
    cases i with
    | zero => simp at hq; subst hq; exact ⟨u, hu⟩
    | succ i => exact DRunV.fits r Qs _ _ _ (h5 u hu) i Q (by simpa using hq)
def valsOf (Es : List Nat) (listed : Array Bool) (us : Nat → AV) : List (Option AV) := Es.map fun e => bif listed.getD e false then some (us e) else none
theorem valsOf_some (Es : List Nat) (listed : Array Bool) (us : Nat → AV) : (valsOf Es listed us).map Option.isSome = Es.map fun e => listed.getD e false := by
  unfold valsOf
  rw [List.map_map]
  refine List.map_congr_left fun e _ => ?_
  show Option.isSome (bif listed.getD e false then some (us e) else none) = _
  cases listed.getD e false <;> rfl
theorem setV_of {listed : Array Bool} {i : Nat} (hi : i < listed.size) (us : Nat → AV) (v : AV) : ∀ (Es : List Nat), valsOf Es (listed.setIfInBounds i true) (fun j => bif Nat.beq j i then v else us j) = setV Es i v (valsOf Es listed us)
  | [] => rfl
  | e :: Es => by
    have := setV_of hi us v Es
    unfold setV valsOf at this ⊢
    rw [List.map_cons, List.map_cons, List.zip_cons_cons, List.map_cons, this]
    congr 1
    by_cases h : i = e
    · subst h
      rw [Array.getD_eq_getD_getElem?, Array.getElem?_setIfInBounds_self_of_lt hi]
      simp only [nbeq_self, Option.getD_some, cond_true]
    · rw [getD_set_ne false h]
      simp only [nbeq_ne (Ne.symm h), cond_false]
theorem setV_none {i : Nat} {v : AV} : ∀ (Es : List Nat) (vs : List (Option AV)), vs.length = Es.length → Es.contains i = false → setV Es i v vs = vs
  | [], [], _, _ => rfl
  | [], _ :: _, h, _ => by simp at h
  | _ :: _, [], h, _ => by simp at h
  | e :: Es, b :: bs, h, hc => by
    rw [List.contains_cons, Bool.or_eq_false_iff] at hc
    have := setV_none (v := v) Es bs (by simpa using h) hc.2
    unfold setV at this ⊢
    rw [List.zip_cons_cons, List.map_cons, this, nbeq_ne (fun h => by subst h; simp at hc), cond_false]
theorem AAny.segV {l : List Oper} {k : Nat} (k' : Nat) (S Es : List Nat) (I : List (Option AV) → St → Prop) (Qs : List (AV → Prop)) (hok : segOk l k k' Es = true) (hS : predSets l [] = S) (hI : I (Es.map fun _ => none) st)
    (vals : Nat → AV) (h : DRunV P n I S Es l.toArray k ((l.drop k).take (k' - k)) Qs T vals fun T' st' => AAny P n l k' K E T' st') : AAny P n l k K E T st := by
  subst hS
  obtain ⟨hkk, hkl, hedge, hbody, htail, hEs⟩ := segOk_spec hok
  have hfits := DRunV.fits _ _ _ _ _ h
  have hget : ∀ i, i < k' - k → (l.drop k)[i]? = l[k + i]? := fun i _ => List.getElem?_drop
  have hlk0 : ((l.drop k).take (k' - k)).length = k' - k := by simp; omega
  have hout := fun (us : Nat → AV) (hus : ∀ (i : Nat) (Q : AV → Prop), Qs[i]? = some Q → Q (us (k + (0 + i)))) => DRunV.out (T := T) k us (l.drop k) ((l.drop k).take (k' - k)) Qs 0 vals (fun i o ho => by
    have hi : i < k' - k := by have := (List.getElem?_eq_some_iff.1 ho).1; simp at this; omega
    rw [List.getElem?_take_of_lt hi] at ho
    rwa [Nat.zero_add]) hus (fun j h1 h2 => by omega) (fun e he => by rw [hlk0]; have := hEs e he; omega) h
  obtain ⟨wit, hwit⟩ : ∃ wit : Nat → AV, ∀ (i : Nat) (Q : AV → Prop), Qs[i]? = some Q → Q (wit i) := by
    have : ∀ i : Nat, ∃ u : AV, ∀ Q : AV → Prop, Qs[i]? = some Q → Q u := fun i => by
      cases hq : Qs[i]? with
      | none => exact ⟨.bool true, fun Q h => by cases h⟩
      | some Q =>
        obtain ⟨u, hu⟩ := hfits i Q hq
        exact ⟨u, fun Q' h => by cases h; exact hu⟩
    exact ⟨fun i => Classical.choose (this i), fun i Q hQ => Classical.choose_spec (this i) Q hQ⟩
  have hQl : Qs.length = k' - k := by rw [(hout (fun j => wit (j - k)) (fun i Q hQ => by rw [Nat.zero_add, Nat.add_sub_cancel_left]; exact hwit i Q hQ)).1, hlk0]
  intro g0 w0 ds g1 w1 a1 m1 listed1 he1 hs1 hk1 hn1 hd1 hm1 hsz1 hli1 hc1
  let Inv : Array Bool → Act → World → Prop := fun listed a w => listed.size = l.length ∧ Closed l listed ∧ (∀ j, j < k → listed.getD j true = true) ∧ (∀ j, k' ≤ j → j < l.length → listed.getD j true = false) ∧ a.tmps.size = n ∧ a.defers = ds ∧
    ∃ g st1 us, Ext g0 w0 g w ∧ Sim g w st1 ∧ I (valsOf Es listed us) st1 ∧
      (∀ t v, Tmps.get T t = some v → (∀ i, i < k' - k → (l[k + i]?).bind (·.dst) = some t → listed.getD (k + i) false = false) → ∃ rv, a.tmps[t]? = some rv ∧ R g w v rv) ∧
      (∀ i Q, i < k' - k → Qs[i]? = some Q → listed.getD (k + i) false = true → Q (us (k + i))) ∧
      (∀ i d, i < k' - k → (l[k + i]?).bind (·.dst) = some d → listed.getD (k + i) false = true → ∃ rv, a.tmps[d]? = some rv ∧ R g w (us (k + i)) rv)
  let μ : Array Bool → Nat := fun listed => (List.range l.length).countP fun j => !listed.getD j true
  have hμ : ∀ (listed : Array Bool) i, i < l.length → listed.size = l.length → listed.getD i true = false → μ (listed.setIfInBounds i true) + 1 ≤ μ listed := by
    intro listed i hil hsz hi
    have gen : ∀ (A : List Nat), i ∈ A → A.countP (fun j => !(listed.setIfInBounds i true).getD j true) + 1 ≤ A.countP (fun j => !listed.getD j true) := by
      have le : ∀ (A : List Nat), A.countP (fun j => !(listed.setIfInBounds i true).getD j true) ≤ A.countP (fun j => !listed.getD j true) := fun A => List.countP_mono_left fun j _ hj => by
        by_cases hij : i = j
        · subst hij
          rw [Array.getD_eq_getD_getElem?, Array.getElem?_setIfInBounds_self_of_lt (by omega)] at hj
          simp at hj
        · rw [getD_set_ne true hij] at hj; exact hj
      intro A
      induction A with
      | nil => intro h; simp at h
      | cons x A ih =>
        intro h
        rw [List.countP_cons, List.countP_cons]
        by_cases hx : x = i
        · subst hx
          have h1 : (!(listed.setIfInBounds x true).getD x true) = false := by
            rw [Array.getD_eq_getD_getElem?, Array.getElem?_setIfInBounds_self_of_lt (by omega)]; rfl
          have h2 : (!listed.getD x true) = true := by rw [hi]; rfl
          rw [h1, h2, if_neg (by decide), if_pos rfl]
          have := le A
          omega
        · have hm' : i ∈ A := by rcases List.mem_cons.1 h with h | h; exact absurd h.symm hx; exact h
          have := ih hm'
          have h3 : (listed.setIfInBounds i true).getD x true = listed.getD x true := getD_set_ne true (Ne.symm hx)
          rw [h3]
          omega
    exact gen _ (List.mem_range.2 hil)
  have fill : ∀ (listed : Array Bool) (us : Nat → AV), (∀ i Q, i < k' - k → Qs[i]? = some Q → listed.getD (k + i) false = true → Q (us (k + i))) →
      ∀ (i : Nat) (Q : AV → Prop), Qs[i]? = some Q → Q ((fun j => bif listed.getD j false then us j else wit (j - k)) (k + (0 + i))) := by
    intro listed us hB i Q hQ
    rw [Nat.zero_add]
    simp only
    have hik : i < k' - k := by rw [← hQl]; exact (List.getElem?_eq_some_iff.1 hQ).1
    cases hc : listed.getD (k + i) false with
    | true => exact hB i Q hik hQ hc
    | false => rw [cond_false, Nat.add_sub_cancel_left]; exact hwit i Q hQ
  have hentsget : ∀ (us : Nat → AV) (i t : Nat) v, i ≤ k' - k → Tmps.get (ents (l.drop k) us i) t = some v → ∃ j, j < i ∧ (l[k + j]?).bind (·.dst) = some t ∧ v = us j := fun us i t v hi hg => by
    obtain ⟨j, hj, hdj, rfl⟩ := ents_get i t _ hg
    exact ⟨j, hj, by rw [← hget j (by omega)]; exact hdj, rfl⟩
  have hentsnone : ∀ (us : Nat → AV) (i t : Nat), i ≤ k' - k → Tmps.get (ents (l.drop k) us i) t = none → ∀ j, j < i → (l[k + j]?).bind (·.dst) ≠ some t := fun us i t hi hg j hj => by
    rw [← hget j (by omega)]
    exact ents_none i t hg j hj
  have done : ∀ (m : Nat) (listed : Array Bool) (a : Act) (w : World), Inv listed a w → (∀ j, j < k' → listed.getD j true = true) → l.length ≤ k' + m → wpAny P .any l.toArray (QOf n ds g0 w0 K E) m listed a w := by
    intro m listed a w ⟨hsz, hcl, hfst, htl, hn, hd, g, st1, us0, he, hs, hI1, hA, hB1, hB2⟩ hall hm'
    have hlist : ∀ j, j < k' → listed.getD j false = true := fun j hj => by
      rw [getD_ft (by omega)]; exact hall j hj
    have hus := fill listed us0 hB1
    obtain ⟨uf, huf⟩ : ∃ uf : Nat → AV, uf = fun j => bif listed.getD j false then us0 j else wit (j - k) := ⟨_, rfl⟩
    rw [← huf] at hus
    have hus2 : ∀ i d, i < k' - k → (l[k + i]?).bind (·.dst) = some d → listed.getD (k + i) false = true → ∃ rv, a.tmps[d]? = some rv ∧ R g w (uf (k + i)) rv := fun i d h1 h2 h3 => by
      rw [huf]
      simp only [h3, cond_true]
      exact hB2 i d h1 h2 h3
    obtain ⟨_, hfin, _⟩ := hout uf hus
    rw [hlk0, Nat.zero_add] at hfin
    have hIt : valsOf Es listed us0 = Es.map fun e => some (uf e) := List.map_congr_left fun e he => by
      rw [huf]
      simp only [hlist e (hEs e he).2, cond_true]
    rw [hIt] at hI1
    refine hfin st1 hI1 g0 w0 ds g w a m listed he hs (fun t u hu => ?_) hn hd hm' hsz (fun j hj => ?_) hcl
    · rw [get_append] at hu
      cases hg : Tmps.get (ents (l.drop k) (fun i => uf (k + i)) (k' - k)) t with
      | some u' =>
        rw [hg] at hu
        cases hu
        obtain ⟨j, hj, hdj, rfl⟩ := hentsget (fun i => uf (k + i)) _ t _ (Nat.le_refl _) hg
        exact hus2 j t hj hdj (hlist (k + j) (by omega))
      | none =>
        rw [hg] at hu
        exact hA t u hu fun i hi hit => absurd hit (hentsnone (fun i => uf (k + i)) _ t (Nat.le_refl _) hg i hi)
    · by_cases hjk : j < k'
      · rw [hall j hjk, decide_eq_true hjk]
      · rw [htl j (by omega) hj, decide_eq_false hjk]
  have step : ∀ (K' : Act → World → Prop) (listed : Array Bool) (a : Act) (w : World) (q : Nat), Inv listed a w → q < k' - k → k + q ∈ Region.ready .any l.toArray listed → (∀ a' w', Inv (listed.setIfInBounds (k + q) true) a' w' → K' a' w') →
      wpOp P l.toArray (QOf n ds g0 w0 K E) (k + q) K' a w := by
    intro K' listed a w q ⟨hsz, hcl, hfst, htl, hn, hd, g, st1, us0, he, hs, hI1, hA, hB1, hB2⟩ hqk hri hK
    obtain ⟨hun, o, ho, hed'⟩ := ready_edges hri
    have hil := (List.getElem?_eq_some_iff.1 ho).1
    have hunf : listed.getD (k + q) false = false := by
      rw [getD_ft (by omega)]; exact hun
    have hcl' := hcl.set ho hed'
    have hsz' : (listed.setIfInBounds (k + q) true).size = l.length := by simpa using hsz
    have hfst' : ∀ j, j < k → (listed.setIfInBounds (k + q) true).getD j true = true := fun j h1 => by
      rw [getD_set_ne true (by omega)]; exact hfst j h1
    have htl' : ∀ j, k' ≤ j → j < l.length → (listed.setIfInBounds (k + q) true).getD j true = false := fun j h1 h2 => by
      rw [getD_set_ne true (by omega)]; exact htl j h1 h2
    have hus := fill listed us0 hB1
    obtain ⟨uf, huf⟩ : ∃ uf : Nat → AV, uf = fun j => bif listed.getD j false then us0 j else wit (j - k) := ⟨_, rfl⟩
    rw [← huf] at hus
    have hus2 : ∀ i d, i < k' - k → (l[k + i]?).bind (·.dst) = some d → listed.getD (k + i) false = true → ∃ rv, a.tmps[d]? = some rv ∧ R g w (uf (k + i)) rv := fun i d h1 h2 h3 => by
      rw [huf]
      simp only [h3, cond_true]
      exact hB2 i d h1 h2 h3
    obtain ⟨_, _, hops⟩ := hout uf hus
    obtain ⟨Q, hdn, hQi, hstep⟩ := hops q o (by rw [List.getElem?_take_of_lt hqk, hget q hqk]; exact ho)
    rw [Nat.zero_add] at hstep
    have hlooked : ∀ j, j < k' - k → ∀ t, (l[k + j]?).bind (·.dst) = some t → (o.looksAt l.toArray).contains t = true → listed.getD (k + j) false = true ∧ j < q := by
      intro j hj t hjt hlook
      have hp : l[k + j]? = some l[k + j] := List.getElem?_eq_getElem (by omega)
      rw [hp] at hjt
      have h2 := ((hbody (k + q) o ho (by omega) (by omega)).2 (k + j) _ (by omega) (by omega) hp).2 t hjt hlook
      refine ⟨preds_listed hcl ho hed' h2, ?_⟩
      have hcl2 : Closed l (Array.ofFn fun x : Fin l.length => decide (x.val < k + q)) := by
        intro x ox hx hx' y hy
        have hql := (List.getElem?_eq_some_iff.1 hx).1
        rw [Array.getD_eq_getD_getElem?, Array.getElem?_ofFn] at hx' ⊢
        simp only [hql, dif_pos, Option.getD_some, decide_eq_true_eq] at hx'
        have hxq := hedge x ox hx y hy
        simp only [show y < l.length by omega, dif_pos, Option.getD_some, decide_eq_true_eq]
        omega
      have h3 := preds_listed hcl2 ho (fun x hx' => by
        have hxi := hedge (k + q) o ho x hx'
        rw [Array.getD_eq_getD_getElem?, Array.getElem?_ofFn]
        simp only [show x < l.length by omega, dif_pos, Option.getD_some, decide_eq_true_eq]
        exact hxi) h2
      rw [Array.getD_eq_getD_getElem?, Array.getElem?_ofFn] at h3
      simp only [show k + j < l.length by omega, dif_pos, Option.getD_some, decide_eq_true_eq] at h3
      omega
    have hknown : Known g w (see l.toArray o (ents (l.drop k) (fun i => uf (k + i)) q ++ T)) a := fun t v ht => by
      obtain ⟨hlook, hgt⟩ := get_filter _ _ _ _ ht
      rw [get_append] at hgt
      cases hg : Tmps.get (ents (l.drop k) (fun i => uf (k + i)) q) t with
      | some u' =>
        rw [hg] at hgt
        cases hgt
        obtain ⟨j, hj, hdj, rfl⟩ := hentsget (fun i => uf (k + i)) q t _ (by omega) hg
        exact hus2 j t (by omega) hdj (hlooked j (by omega) t hdj hlook).1
      | none =>
        rw [hg] at hgt
        refine hA t v hgt fun j hj hjt => ?_
        have h1 := hlooked j hj t hjt hlook
        exact absurd hjt (hentsnone (fun i => uf (k + i)) q t (by omega) hg j h1.2)
    have hother : ∀ t, o.dst ≠ some t → ∀ rv', (a.put o.dst rv').tmps[t]? = a.tmps[t]? := fun t ht rv' => by
      cases hod : o.dst with
      | none => rfl
      | some d =>
        simp only [Act.put, Array.getElem?_setIfInBounds]
        rw [if_neg (fun h => ht (by rw [hod, h]))]
    have hself : ∀ d, o.dst = some d → ∀ rv', (a.put o.dst rv').tmps[d]? = some rv' := fun d hod rv' => by
      have hdn' := dstOk_lt hdn d hod
      rw [hod]
      simp only [Act.put, Array.getElem?_setIfInBounds]
      simp [hn, hdn']
    have hdi : ∀ d, (l[k + q]?).bind (·.dst) = some d → o.dst = some d := fun d h => by rw [ho] at h; exact h
    have after : ∀ v rv g' w' st2, Ext g w g' w' → Sim g' w' st2 → R g' w' v rv → Q v → I (setV Es (k + q) v (valsOf Es listed us0)) st2 → Inv (listed.setIfInBounds (k + q) true) (a.put o.dst rv) w' := by
      intro v rv g' w' st2 he' hs' hR hQv hI2
      refine ⟨hsz', hcl', hfst', htl', by rw [Act.size_put]; exact hn, by rw [Act.defers_put]; exact hd, g', st2, fun j => bif Nat.beq j (k + q) then v else us0 j, he.trans he', hs', by rw [setV_of (by omega)]; exact hI2, fun t u ht hwr => ?_, fun j Q' hj hjQ hjl => ?_, fun j d' hj hjd hjl => ?_⟩
      · have htd : o.dst ≠ some t := fun htd => by
          have := hwr q hqk (by rw [ho]; exact htd)
          rw [Array.getD_eq_getD_getElem?, Array.getElem?_setIfInBounds_self_of_lt (by omega)] at this
          simp at this
        obtain ⟨ru, h1, h2⟩ := hA t u ht fun j hj hjt => by
          have h3 := hwr j hj hjt
          by_cases hij : q = j
          · subst hij; exact hunf
          · rwa [getD_set_ne false (by omega)] at h3
        exact ⟨ru, by rw [hother t htd]; exact h1, h2.ext he'⟩
      · by_cases hij : q = j
        · subst hij
          rw [hQi] at hjQ
          cases hjQ
          simp only [nbeq_self, cond_true]
          exact hQv
        · rw [getD_set_ne false (by omega)] at hjl
          simp only [nbeq_ne (show k + j ≠ k + q by omega), cond_false]
          exact hB1 j Q' hj hjQ hjl
      · by_cases hij : q = j
        · subst hij
          simp only [nbeq_self, cond_true]
          exact ⟨rv, hself d' (hdi d' hjd) rv, hR⟩
        · rw [getD_set_ne false (by omega)] at hjl
          simp only [nbeq_ne (show k + j ≠ k + q by omega), cond_false]
          obtain ⟨ru, h2, h3⟩ := hB2 j d' hj hjd hjl
          refine ⟨ru, ?_, h3.ext he'⟩
          rw [hother d' ?_]
          · exact h2
          · have hp : l[k + j]? = some l[k + j] := List.getElem?_eq_getElem (by omega)
            rw [hp] at hjd
            exact fun hdd => ((hbody (k + q) o ho (by omega) (by omega)).2 (k + j) _ (by omega) (by omega) hp).1 (by omega) d' d' hdd hjd rfl
    unfold wpOp
    simp only [List.getElem?_toArray, ho]
    rcases hstep with ⟨hw, hq1⟩ | ⟨hw, hq, hni⟩
    · rw [wanted_of hknown hw, if_pos rfl]
      left
      exact hq1 _ (by simp [valsOf]) (by rw [valsOf_some]; exact may_of hcl hsz ho hed' hunf Es) (fun p hp _ u hu => by
        obtain ⟨q', hq'⟩ := List.getElem?_of_mem hp
        rw [List.getElem?_zip_eq_some] at hq'
        obtain ⟨z1, z2⟩ := hq'
        rw [valsOf, List.getElem?_map, z1, Option.map_some, Option.some.injEq, hu] at z2
        rw [huf]
        cases hli : listed.getD p.1 false with
        | true => rw [hli, cond_true] at z2; simp only [hli, cond_true]; exact (Option.some.inj z2).symm
        | false => rw [hli, cond_false] at z2; cases z2) st1 g w a K' _ hI1 hs hknown hn fun rv g' w' v st2 he' hs' hR hQv hI2 => hK _ _ (after v rv g' w' st2 he' hs' hR hQv hI2)
    · rw [wanted_of hknown hw, if_neg (by simp)]
      exact hK _ _ (after _ undef g w st1 (.refl _ _) hs (.lit _) hq (by rw [setV_none Es _ (by simp [valsOf]) hni]; exact hI1))
  have key : ∀ (m : Nat) (listed : Array Bool) (a : Act) (w : World), Inv listed a w → μ listed ≤ m → wpAny P .any l.toArray (QOf n ds g0 w0 K E) m listed a w := by
    intro m
    induction m with
    | zero =>
      intro listed a w hi hm0
      have hall : ∀ j, j < l.length → listed.getD j true = true := fun j hj => by
        cases hv : listed.getD j true with
        | true => rfl
        | false => have := hμ listed j hj hi.1 hv; omega
      have hlk : l.length = k' := by
        rcases Nat.eq_or_lt_of_le hkl with h' | h'
        · exact h'.symm
        · have h1 := hall k' h'
          have h2 := hi.2.2.2.1 k' (Nat.le_refl _) h'
          rw [h1] at h2
          cases h2
      exact done 0 listed a w hi (fun j hj => hall j (by omega)) (by omega)
    | succ m ih =>
      intro listed a w hi hm1
      by_cases hall : ∀ j, j < k' → listed.getD j true = true
      · refine done (m + 1) listed a w hi hall ?_
        have : l.length - k' ≤ μ listed := by
          exact countP_range_ge k' _ l.length fun j h1 h2 => by rw [hi.2.2.2.1 j h1 h2]; rfl
        omega
      · have hex : ∃ j, j < k' ∧ listed.getD j true = false ∧ ∀ q, q < j → listed.getD q true = true := by
          have : ∃ j, j < k' ∧ listed.getD j true = false := by
            apply Classical.byContradiction
            intro hno
            apply hall
            intro j hj
            cases hv : listed.getD j true with
            | true => rfl
            | false => exact absurd ⟨j, hj, hv⟩ hno
          obtain ⟨j, hj⟩ := this
          induction j using Nat.strongRecOn with
          | _ j ihj =>
            by_cases hq : ∀ q, q < j → listed.getD q true = true
            · exact ⟨j, hj.1, hj.2, hq⟩
            · simp only [Classical.not_forall] at hq
              obtain ⟨q, hqj, hq⟩ := hq
              exact ihj q hqj ⟨by omega, by simpa using hq⟩
        obtain ⟨j0, hj0, hv0, hmin⟩ := hex
        have hsz := hi.1
        have hjl : j0 < l.length := by omega
        have hkj : k ≤ j0 := by
          rcases Nat.lt_or_ge j0 k with h' | h'
          · rw [hi.2.2.1 j0 h'] at hv0; cases hv0
          · exact h'
        have hready : j0 ∈ Region.ready .any l.toArray listed := ready_of_edges hv0 (List.getElem?_eq_getElem hjl) (fun x hx => by
          have hxj := hedge j0 _ (List.getElem?_eq_getElem hjl) x hx
          rw [getD_ft (by omega)]
          exact hmin x hxj)
        refine ⟨fun h0 => (by rw [h0] at hready; cases hready), fun i hri => ?_⟩
        obtain ⟨hun, o, ho, hed'⟩ := ready_edges hri
        have hil := (List.getElem?_eq_some_iff.1 ho).1
        have hik : i < k' := by
          rcases Nat.lt_or_ge i k' with h' | h'
          · exact h'
          · have h1 := preds_listed hi.2.1 ho hed' (htail i o h' ho j0 hkj hj0)
            rw [getD_ft (by omega), hv0] at h1
            cases h1
        have hki : k ≤ i := by
          rcases Nat.lt_or_ge i k with h' | h'
          · rw [hi.2.2.1 i h'] at hun; cases hun
          · exact h'
        obtain ⟨q, rfl⟩ : ∃ q, i = k + q := ⟨i - k, by omega⟩
        exact step _ listed a w q hi (by omega) hri fun a' w' hi' => ih _ a' w' hi' (by have := hμ listed (k + q) hil hsz hun; omega)
  refine key m1 listed1 a1 w1 ⟨hsz1, hc1, fun j hj => by rw [hli1 j (by omega), decide_eq_true hj], fun j h1 h2 => by rw [hli1 j h2, decide_eq_false (by omega)], hn1, hd1, g1, st, fun _ => .bool true, he1, hs1, ?_, fun t v ht _ => hk1 t v ht, fun i Q hi _ hl => ?_, fun i d hi hdi hl => ?_⟩ ?_
  · have : valsOf Es listed1 (fun _ => .bool true) = Es.map fun _ => none := List.map_congr_left fun e he => by
      obtain ⟨h1, h2⟩ := hEs e he
      rw [getD_ft (by omega), hli1 e (by omega), decide_eq_false (by omega)]
      rfl
    rw [this]
    exact hI
  · rw [getD_ft (by omega), hli1 (k + i) (by omega), decide_eq_false (by omega)] at hl
    cases hl
  · rw [getD_ft (by omega), hli1 (k + i) (by omega), decide_eq_false (by omega)] at hl
    cases hl
  · have h2 : μ listed1 = (List.range l.length).countP fun j => !decide (j < k) := List.countP_congr fun j hj => by rw [hli1 j (List.mem_range.1 hj)]
    rw [h2]
    have h3 : ∀ N, (List.range N).countP (fun j => !decide (j < k)) ≤ N - k := by
      intro N
      induction N with
      | zero => simp
      | succ N ih =>
        rw [List.range_succ, List.countP_append, List.countP_singleton]
        by_cases hN : N < k
        · simp only [hN, decide_true, Bool.not_true, Bool.false_eq_true, if_false]; omega
        · simp only [hN, decide_false, Bool.not_false, if_true]; omega
    have := h3 l.length
    omega
def IV (J : List (Option AV) → St → Prop) (base : St) (vs : List (Option AV)) (s : St) : Prop := J vs s ∧ StLe s base
variable {J : List (Option AV) → St → Prop} {base : St} {S Es : List Nat} {ops : Array Oper} {Qs : List (AV → Prop)} {vals : Nat → AV}
/-- A quiet step. -/
theorem dqV {i : Nat} {o : Oper} {r : List Oper} {d : Tmp} {v : AV} {k : Tmps → St → Prop} (hi : Es.contains i = false := by exact rfl) (hd : dstA n o.dst = some d := by exact rfl) (hw : wantedA ops (see ops o T) o = some true := by exact rfl)
    (h : ∀ st', StLe st' base → AOps P n ops [o] (fun T' st'' => ∃ u, T' = (d, u) :: see ops o T ∧ (u = v ∧ st'' = st')) (fun _ _ _ => False) (see ops o T) st')
    (z : DRunV P n (IV J base) S Es ops (i + 1) r Qs ((d, v) :: T) (fun j => bif Nat.beq j i then v else vals j) k) : DRunV P n (IV J base) S Es ops i (o :: r) ((fun u => u = v) :: Qs) T vals k := by
  obtain ⟨hd', hdn⟩ := dstA_some hd
  refine ⟨⟨v, rfl⟩, hdn, .inl ⟨hw, fun vs hl _ _ => ?_⟩, fun u hu => ?_⟩
  · intro s g w a K' Q' ⟨hJ, hle⟩ hs hk hn hK
    refine AOps.single hd' (dstOk_lt hdn d hd') (h s hle) hw hs hk K' Q' (fun rv g' w' u st' he hs' hR ⟨hu, hst⟩ => ?_) hn
    subst hu hst
    exact hK rv g' w' u st' he hs' hR rfl (by rw [setV_none Es vs hl hi]; exact ⟨hJ, hle⟩)
  · subst hu
    rw [hd']
    exact z
theorem dsV {i : Nat} {o : Oper} {r : List Oper} {d : Tmp} {v : AV} {k : Tmps → St → Prop} (hi : Es.contains i = false := by exact rfl) (hs : step1 ops n base (see ops o T) o = some (d, v) := by exact rfl)
    (z : DRunV P n (IV J base) S Es ops (i + 1) r Qs ((d, v) :: T) (fun j => bif Nat.beq j i then v else vals j) k) : DRunV P n (IV J base) S Es ops i (o :: r) ((fun u => u = v) :: Qs) T vals k := by
  have hg : goes ops n (see ops o T) o = some d := by
    unfold step1 at hs
    split at hs
    · rename_i h1 h2
      cases hs
      exact h1
    · cases hs
  obtain ⟨hw, hd, hok⟩ := goes_some hg
  have hda : dstA n o.dst = some d := by
    unfold goes at hg
    rw [hw] at hg
    exact hg
  exact dqV hi hda hw (fun st' hle => sm ((step1_glob (n := n) (ops := ops) hle.glob (see ops o T) o).symm.trans hs) (nl ⟨v, rfl, rfl, rfl⟩)) z
/-- A step whose outcome and state belong together. -/
theorem deV (Q : AV → Prop) (L : List (List Bool)) {i : Nat} {o : Oper} {r : List Oper} {d : Tmp} {k : Tmps → St → Prop} (hL : (allBits Es.length).filter (mayBe S Es i) = L) (hd : dstA n o.dst = some d) (hw : wantedA ops (see ops o T) o = some true) (hex : ∃ u, Q u)
    (h : BAll L fun bs => ∀ vs, vs.map Option.isSome = bs → LinkV Es i vals vs → ∀ s, J vs s → StLe s base → AOps P n ops [o] (fun T' st'' => ∃ u, T' = (d, u) :: see ops o T ∧ (Q u ∧ J (setV Es i u vs) st'' ∧ StLe st'' base)) (fun _ _ _ => False) (see ops o T) s)
    (z : ∀ u, Q u → DRunV P n (IV J base) S Es ops (i + 1) r Qs ((d, u) :: T) (fun j => bif Nat.beq j i then u else vals j) k) : DRunV P n (IV J base) S Es ops i (o :: r) (Q :: Qs) T vals k := by
  obtain ⟨hd', hdn⟩ := dstA_some hd
  refine ⟨hex, hdn, .inl ⟨hw, fun vs hl hm hlk => ?_⟩, fun u hu => ?_⟩
  · intro s g w a K' Q' ⟨hJ, hle⟩ hs hk hn hK
    have h' := h.get (vs.map Option.isSome) (by rw [← hL, List.mem_filter]; exact ⟨by rw [← hl, ← List.length_map (f := Option.isSome)]; exact mem_allBits _, hm⟩) vs rfl hlk s hJ hle
    exact AOps.single hd' (dstOk_lt hdn d hd') h' hw hs hk K' Q' (fun rv g' w' u st' he hs' hR hu => hK rv g' w' u st' he hs' hR hu.1 hu.2) hn
  · rw [hd']
    exact z u hu
/-- A step that writes. -/
theorem dnW (L : List (List Bool)) {i : Nat} {o : Oper} {r : List Oper} {k : Tmps → St → Prop} (hL : (allBits Es.length).filter (mayBe S Es i) = L) (hd : o.dst = none) (hw : wantedA ops (see ops o T) o = some true)
    (h : BAll L fun bs => ∀ vs, vs.map Option.isSome = bs → LinkV Es i vals vs → ∀ s, J vs s → StLe s base → AOps P n ops [o] (fun T' st'' => T' = see ops o T ∧ (∀ u, J (setV Es i u vs) st'') ∧ StLe st'' base) (fun _ _ _ => False) (see ops o T) s)
    (z : ∀ u, DRunV P n (IV J base) S Es ops (i + 1) r Qs T (fun j => bif Nat.beq j i then u else vals j) k) : DRunV P n (IV J base) S Es ops i (o :: r) ((fun _ => True) :: Qs) T vals k := by
  refine ⟨⟨.bool true, trivial⟩, by rw [hd]; rfl, .inl ⟨hw, fun vs hl hm hlk => ?_⟩, fun u _ => ?_⟩
  · intro s g w a K' Q' ⟨hJ, hle⟩ hs hk hn hK
    have h' := h.get (vs.map Option.isSome) (by rw [← hL, List.mem_filter]; exact ⟨by rw [← hl, ← List.length_map (f := Option.isSome)]; exact mem_allBits _, hm⟩) vs rfl hlk s hJ hle
    exact AOps.singleN h' hw hs hk K' Q' (fun rv g' w' st' he hs' hst => hK rv g' w' (.lit rv) st' he hs' (.lit rv) trivial ⟨hst.1 _, hst.2⟩) hn
  · rw [hd]
    exact z u
theorem dnV {i : Nat} {k : Tmps → St → Prop} (h : ∀ s, J (Es.map fun e => some (vals e)) s → k T s) : DRunV P n (IV J base) S Es ops i [] [] T vals k := fun s hs => h s hs.1
theorem AAny.segW {l : List Oper} {k : Nat} (k' : Nat) (Es : List Nat) (J : List (Option AV) → St → Prop) (base : St) {Qs : List (AV → Prop)} (hok : segOk l k k' Es = true) (hJ : J (Es.map fun _ => none) st) (hb : StLe st base)
    (h : DRunV P n (IV J base) (predSets l []) Es l.toArray k ((l.drop k).take (k' - k)) Qs T (fun _ => .bool true) fun T' st' => AAny P n l k' K E T' st') : AAny P n l k K E T st :=
  AAny.segV k' _ Es (IV J base) Qs hok rfl ⟨hJ, hb⟩ _ h
variable {rest : List Oper} {ty : TypeId} {pos : String} {es : Array Edge} {gd : Option (Nat × Bool)} {d : Tmp} {x y : Operand} {dd : Option Tmp}
end
end Go.AM
/- The reader of expressions: its token, a sign. No conditions: definitions and lemmas only. -/
namespace Go.Proofs
open Go.AM
attribute [local irreducible] AWP AOps ACalls AAny

def rdC (X : List (List AV)) (a e : Nat) : AObj := .cells 48 3 [[.view 4 X .shared, .int .i64 (a : Int), .int .i64 (e : Int)]]

theorem rtoken_ok {X : List (List AV)} {a e o : Nat} {t : Tk} {st : St} (ho : st.obj o = some (rdC X a e)) (ha : a < X.length) (hX : X[a]? = some (tokRow t)) (_ : X.length ≤ 100000) :
    ACalls Tryd.prog 21 [.cptr o 3 0 0] st (fun v st' => v = .agg (tokRow t) ∧ st' = st) (fun _ _ => False) := by
  refine ACalls.ofBody Tryd.func21 rfl Tryd.ntmps21 rfl ?_
  unfold rdC at ho
  repeat (refine AWP.seq ?_)
  refine rg ?_
  refine al rfl rfl fun o2 h2 => ?_
  have hne : o ≠ o2 := fun h => by subst h; rw [ho] at h2; cases h2
  have hM : ∀ c, (st.set o2 c).obj o = some (.cells 48 3 [[.view 4 X .shared, .int .i64 (a : Int), .int .i64 (e : Int)]]) := fun c => by
    rw [← ho]
    simp [St.set, hne]
  have hM0 := hM (.cells 51 4 [tokRow ⟨0, 0, [], 0⟩])
  repeat (first | refine nl ?_ | refine AWP.seq ?_)
  refine AWP.draw rfl 10 10 (fun _ _ => False) rfl ?_
  repeat (first | refine ds rfl rfl ?_ | refine dp (h := fun _ _ => ZC (z := nz)) (z := ?_) | refine dp (h := fun _ _ => ZJ (z := nz)) (z := ?_) | refine dp (h := fun _ _ => ZH (z := nz)) (z := ?_))
  refine dn ⟨fun _ => ?_, fun h => absurd h (by decide)⟩
  repeat (first | refine nl ?_ | refine AWP.seq ?_ | refine YH (z := ?_))
  refine AWP.draw rfl 10 10 (fun _ _ => False) rfl ?_
  repeat (first | refine ds rfl rfl ?_ | refine dp (h := fun _ _ => ZD (z := nz)) (z := ?_) | refine dp (h := fun _ _ => ZC (z := nz)) (z := ?_) | refine dp (h := fun _ _ => ZM (z := nz)) (z := ?_) | refine dp (h := fun _ _ => ZH (z := nz)) (z := ?_))
  refine dn ⟨fun _ => ?_, fun h => absurd h (by decide)⟩
  skip
  refine soV rfl rfl rfl rfl rfl rfl ?_
  repeat (refine nl ?_)
  exact AWP.ret (rets (resCW rfl (St.obj_set _ _ _) rfl rfl rfl rfl) (.refl _) (StLe.new h2 (.refl _)) ⟨rfl, rfl⟩)
theorem ris_ok {X : List (List AV)} {a e o : Nat} {t : Tk} {st : St} (ho : st.obj o = some (rdC X a e)) (ha : a < X.length) (hX : X[a]? = some (tokRow t)) (hl : X.length ≤ 100000) (s : List UInt8) :
    ACalls Tryd.prog 53 [.cptr o 3 0 0, .str s] st (fun v st' => v = .bool (decide (t.kind = 4 ∧ t.text = s)) ∧ st' = st) (fun _ _ => False) := by
  refine ACalls.ofBody Tryd.func53 rfl Tryd.ntmps53 rfl ?_
  repeat (refine AWP.seq ?_)
  refine rg ?_
  repeat (refine sm rfl ?_)
  repeat (first | refine nl ?_ | refine AWP.seq ?_ | refine rg ?_ | refine ZA (z := ?_))
  refine cle rfl rfl (rtoken_ok ho ha hX hl) ?_
  repeat (first | refine nl ?_ | refine AWP.seq ?_ | refine rg ?_ | refine ZA (z := ?_) | refine ZC (z := ?_) | refine ZF (z := ?_) | refine YA (z := ?_))
  refine AOps.split 11 rfl (fun h1 => ?_) (fun h1 => ?_)
  · have h2 : t.kind = 4 := by have h0 : (t.kind : Int) = 4 := h1; omega
    have h3 : decide (t.kind = 4 ∧ t.text = s) = decide (t.text = s) := decide_eq_decide.2 ⟨fun h => h.2, fun h => ⟨h2, h⟩⟩
    rw [h3]
    repeat (first | refine nl ?_ | refine ZA (z := ?_) | refine ZC (z := ?_) | refine ZF (z := ?_))
    exact AWP.ret (rets rfl (.refl _) (.refl _) ⟨rfl, rfl⟩)
  · have h2 : ¬ t.kind = 4 := fun h0 => h1 (by show (t.kind : Int) = 4; omega)
    have h3 : decide (t.kind = 4 ∧ t.text = s) = false := decide_eq_false fun h => h2 h.1
    rw [h3]
    repeat (first | refine nl ?_ | refine ZA (z := ?_) | refine ZB (z := ?_))
    exact AWP.ret (rets rfl (.refl _) (.refl _) ⟨rfl, rfl⟩)
end Go.Proofs
/- Expressions out of tokens, in plain Lean. No program in sight. -/
namespace Go.Proofs

inductive Xp where
  | lit (n : Nat)
  | var (s : List UInt8)
  | fld (s f : List UInt8)
  | elt (s : List UInt8) (a : Xp)
  | una (op : Nat) (a : Xp)
  | bin (op : Nat) (a b : Xp)

def tk0 : Tk := ⟨0, 0, [], 0⟩
def hd (ts : List Tk) : Tk := ts.headD tk0
def sg (t : Tk) (s : List UInt8) : Bool := decide (t.kind = 4 ∧ t.text = s)
def beg (t : Tk) : Bool := decide (t.kind = 1) || decide (t.kind = 2) || sg t [45] || sg t [33] || sg t [40]

/-- The signs of operators, their levels, their operations. -/
def binL : List (List UInt8 × Nat × Nat) := [([43], 3, 6), ([45], 3, 7), ([42], 4, 8), ([47], 4, 9), ([37], 4, 10), ([38], 2, 11), ([124], 2, 12), ([94], 2, 13), ([60], 1, 14), ([60, 61], 1, 15), ([61, 61], 1, 16), ([33, 61], 1, 17)]
def bin (t : Tk) : Nat × Nat := ((binL.find? fun o => sg t o.1).map Prod.snd).getD (0, 0)

/-- Fuel, level, depth, tokens: an expression and the tokens behind it, or an error (7 syntax, 5 limit; 99: too little fuel). -/
abbrev PR := Except Nat (Xp × List Tk)
mutual
def pe : Nat → Nat → Nat → List Tk → PR
  | 0, _, _, _ => .error 99
  | k + 1, lv, d, ts =>
    if 5 ≤ lv then po k d ts
    else match pe k (lv + 1) d ts with
      | .error e => .error e
      | .ok (x, r) => pl k lv d x r
def pl : Nat → Nat → Nat → Xp → List Tk → PR
  | 0, _, _, _, _ => .error 99
  | k + 1, lv, d, x, ts =>
    if (bin (hd ts)).1 = lv then
      match pe k (lv + 1) d ts.tail with
      | .error e => .error e
      | .ok (y, r) => if lv = 1 then .ok (.bin (bin (hd ts)).2 x y, r) else pl k lv d (.bin (bin (hd ts)).2 x y) r
    else .ok (x, ts)
def po : Nat → Nat → List Tk → PR
  | 0, _, _ => .error 99
  | k + 1, d, ts =>
    if beg (hd ts) then
      if 8 < d then .error 5
      else if (hd ts).kind = 2 then .ok (.lit (hd ts).num, ts.tail)
      else if (hd ts).kind = 1 then
        if sg (hd ts.tail) [46] then
          if (hd ts.tail.tail).kind = 1 then .ok (.fld (hd ts).text (hd ts.tail.tail).text, ts.tail.tail.tail) else .error 7
        else if sg (hd ts.tail) [91] then
          match pe k 1 (d + 1) ts.tail.tail with
          | .error e => .error e
          | .ok (x, r) => if sg (hd r) [93] then .ok (.elt (hd ts).text x, r.tail) else .error 7
        else .ok (.var (hd ts).text, ts.tail)
      else if (hd ts).text = [40] then
        match pe k 1 (d + 1) ts.tail with
        | .error e => .error e
        | .ok (x, r) => if sg (hd r) [41] then .ok (x, r.tail) else .error 7
      else match po k (d + 1) ts.tail with
        | .error e => .error e
        | .ok (x, r) => .ok (.una (if (hd ts).text = [45] then 4 else 5) x, r)
    else .error 7
end

theorem beg_nil : beg (hd []) = false := by decide
theorem bin_nil : bin (hd []) = (0, 0) := by decide

/-- What an answer says about the tokens that are left. -/
def PRlt (n : Nat) : PR → Prop
  | .error e => e = 5 ∨ e = 7
  | .ok (_, r) => r.length < n

theorem pe_all : ∀ k : Nat, (∀ lv d ts, 1 ≤ lv → lv ≤ 5 → 7 * ts.length + (6 - lv) < k → PRlt ts.length (pe k lv d ts)) ∧
    (∀ lv d x ts, 1 ≤ lv → lv ≤ 4 → 7 * ts.length < k → PRlt (ts.length + 1) (pl k lv d x ts)) ∧
    (∀ d ts, 7 * ts.length < k → PRlt ts.length (po k d ts))
  | 0 => ⟨fun _ _ _ _ _ h => absurd h (Nat.not_lt_zero _), fun _ _ _ _ _ _ h => absurd h (Nat.not_lt_zero _), fun _ _ h => absurd h (Nat.not_lt_zero _)⟩
  | k + 1 => by
    obtain ⟨i1, i2, i3⟩ := pe_all k
    refine ⟨fun lv d ts h1 h5 hk => ?_, fun lv d x ts h1 h4 hk => ?_, fun d ts hk => ?_⟩
    · rw [pe]
      split
      · exact i3 d ts (by omega)
      · rename_i hlv
        have h := i1 (lv + 1) d ts (by omega) (by omega) (by omega)
        cases hp : pe k (lv + 1) d ts with
        | error e => rw [hp] at h; exact h
        | ok p =>
          obtain ⟨x, r⟩ := p
          rw [hp] at h
          have h : r.length < ts.length := h
          have h2 := i2 lv d x r h1 (by omega) (by omega)
          simp only
          cases hq : pl k lv d x r with
          | error e => rw [hq] at h2; exact h2
          | ok q =>
            rw [hq] at h2
            have h2 : q.2.length < r.length + 1 := h2
            show q.2.length < ts.length
            omega
    · rw [pl]
      split
      · rename_i hb
        have hne : ts ≠ [] := by
          intro e
          subst e
          rw [bin_nil] at hb
          simp only at hb
          omega
        have ht : ts.tail.length + 1 = ts.length := by
          cases ts with
          | nil => exact absurd rfl hne
          | cons a b => rfl
        have h := i1 (lv + 1) d ts.tail (by omega) (by omega) (by omega)
        cases hp : pe k (lv + 1) d ts.tail with
        | error e => rw [hp] at h; exact h
        | ok p =>
          obtain ⟨y, r⟩ := p
          rw [hp] at h
          have h : r.length < ts.tail.length := h
          simp only
          split
          · show r.length < ts.length + 1
            omega
          · have h2 := i2 lv d (.bin (bin (hd ts)).2 x y) r h1 h4 (by omega)
            cases hq : pl k lv d (.bin (bin (hd ts)).2 x y) r with
            | error e => rw [hq] at h2; exact h2
            | ok q =>
              rw [hq] at h2
              have h2 : q.2.length < r.length + 1 := h2
              show q.2.length < ts.length + 1
              omega
      · show ts.length < ts.length + 1
        omega
    · rw [po]
      split
      · rename_i hb
        have hne : ts ≠ [] := by
          intro e
          subst e
          rw [beg_nil] at hb
          cases hb
        have ht : ts.tail.length + 1 = ts.length := by
          cases ts with
          | nil => exact absurd rfl hne
          | cons a b => rfl
        have ht2 : ts.tail.tail.length ≤ ts.tail.length := by rw [List.length_tail]; omega
        have ht3 : ts.tail.tail.tail.length ≤ ts.tail.tail.length := by rw [List.length_tail]; omega
        split
        · exact .inl rfl
        split
        · show ts.tail.length < ts.length
          omega
        split
        · split
          · split
            · show ts.tail.tail.tail.length < ts.length
              omega
            · exact .inr rfl
          split
          · have h := i1 1 (d + 1) ts.tail.tail (by omega) (by omega) (by omega)
            cases hp : pe k 1 (d + 1) ts.tail.tail with
            | error e => rw [hp] at h; exact h
            | ok p =>
              obtain ⟨y, r⟩ := p
              rw [hp] at h
              have h : r.length < ts.tail.tail.length := h
              have h4 : r.tail.length ≤ r.length := by rw [List.length_tail]; omega
              simp only
              split
              · show r.tail.length < ts.length
                omega
              · exact .inr rfl
          · show ts.tail.length < ts.length
            omega
        split
        · have h := i1 1 (d + 1) ts.tail (by omega) (by omega) (by omega)
          cases hp : pe k 1 (d + 1) ts.tail with
          | error e => rw [hp] at h; exact h
          | ok p =>
            obtain ⟨y, r⟩ := p
            rw [hp] at h
            have h : r.length < ts.tail.length := h
            have h4 : r.tail.length ≤ r.length := by rw [List.length_tail]; omega
            simp only
            split
            · show r.tail.length < ts.length
              omega
            · exact .inr rfl
        · have h := i3 (d + 1) ts.tail (by omega)
          cases hp : po k (d + 1) ts.tail with
          | error e => rw [hp] at h; exact h
          | ok p =>
            obtain ⟨y, r⟩ := p
            rw [hp] at h
            have h : r.length < ts.tail.length := h
            show r.length < ts.length
            omega
      · exact .inr rfl

/-- Too deep: no expression. -/
theorem po_deep (k d : Nat) (ts : List Tk) (hd8 : 8 < d) : po (k + 1) d ts = .error (if beg (hd ts) then 5 else 7) := by
  rw [po]
  cases beg (hd ts) <;> simp [hd8]
theorem pe_deep : ∀ (n k lv d : Nat) (ts : List Tk), lv + n = 5 → 8 < d → pe (k + n + 2) lv d ts = .error (if beg (hd ts) then 5 else 7)
  | 0, k, lv, d, ts, h, h8 => by
    rw [Nat.add_zero, pe, if_pos (by omega), po_deep k d ts h8]
  | n + 1, k, lv, d, ts, h, h8 => by
    rw [show k + (n + 1) + 2 = (k + n + 2) + 1 by omega, pe, if_neg (by omega), pe_deep n k (lv + 1) d ts (by omega) h8]
end Go.Proofs
/- More fuel changes nothing. No program in sight. -/
namespace Go.Proofs

theorem pe_succ (k lv d : Nat) (ts : List Tk) : pe (k + 1) lv d ts = if 5 ≤ lv then po k d ts
    else match pe k (lv + 1) d ts with
      | .error e => .error e
      | .ok (x, r) => pl k lv d x r := by
  rw [pe]
  all_goals rfl
theorem pl_succ (k lv d : Nat) (x : Xp) (ts : List Tk) : pl (k + 1) lv d x ts = if (bin (hd ts)).1 = lv then
      match pe k (lv + 1) d ts.tail with
      | .error e => .error e
      | .ok (y, r) => if lv = 1 then .ok (.bin (bin (hd ts)).2 x y, r) else pl k lv d (.bin (bin (hd ts)).2 x y) r
    else .ok (x, ts) := by
  rw [pl]
  all_goals rfl
theorem po_succ (k d : Nat) (ts : List Tk) : po (k + 1) d ts = if beg (hd ts) then
      if 8 < d then .error 5
      else if (hd ts).kind = 2 then .ok (.lit (hd ts).num, ts.tail)
      else if (hd ts).kind = 1 then
        if sg (hd ts.tail) [46] then
          if (hd ts.tail.tail).kind = 1 then .ok (.fld (hd ts).text (hd ts.tail.tail).text, ts.tail.tail.tail) else .error 7
        else if sg (hd ts.tail) [91] then
          match pe k 1 (d + 1) ts.tail.tail with
          | .error e => .error e
          | .ok (x, r) => if sg (hd r) [93] then .ok (.elt (hd ts).text x, r.tail) else .error 7
        else .ok (.var (hd ts).text, ts.tail)
      else if (hd ts).text = [40] then
        match pe k 1 (d + 1) ts.tail with
        | .error e => .error e
        | .ok (x, r) => if sg (hd r) [41] then .ok (x, r.tail) else .error 7
      else match po k (d + 1) ts.tail with
        | .error e => .error e
        | .ok (x, r) => .ok (.una (if (hd ts).text = [45] then 4 else 5) x, r)
    else .error 7 := by
  rw [po]
  all_goals rfl

theorem pe_mono : ∀ k : Nat, (∀ lv d ts, pe k lv d ts ≠ .error 99 → pe (k + 1) lv d ts = pe k lv d ts) ∧
    (∀ lv d x ts, pl k lv d x ts ≠ .error 99 → pl (k + 1) lv d x ts = pl k lv d x ts) ∧
    (∀ d ts, po k d ts ≠ .error 99 → po (k + 1) d ts = po k d ts)
  | 0 => ⟨fun _ _ _ h => absurd (by rw [pe]) h, fun _ _ _ _ h => absurd (by rw [pl]) h, fun _ _ h => absurd (by rw [po]) h⟩
  | k + 1 => by
    obtain ⟨i1, i2, i3⟩ := pe_mono k
    refine ⟨fun lv d ts h => ?_, fun lv d x ts h => ?_, fun d ts h => ?_⟩
    · rw [pe_succ k lv d ts] at h
      rw [pe_succ (k + 1) lv d ts, pe_succ k lv d ts]
      split
      · rename_i h5
        rw [if_pos h5] at h
        exact i3 d ts h
      · rename_i h5
        rw [if_neg h5] at h
        have h0 : pe k (lv + 1) d ts ≠ .error 99 := by
          intro e
          rw [e] at h
          exact h rfl
        rw [i1 _ _ _ h0]
        cases hp : pe k (lv + 1) d ts with
        | error e => rfl
        | ok p =>
          rw [hp] at h
          exact i2 _ _ _ _ h
    · rw [pl_succ k lv d x ts] at h
      rw [pl_succ (k + 1) lv d x ts, pl_succ k lv d x ts]
      split
      · rename_i hb
        rw [if_pos hb] at h
        have h0 : pe k (lv + 1) d ts.tail ≠ .error 99 := by
          intro e
          rw [e] at h
          exact h rfl
        rw [i1 _ _ _ h0]
        cases hp : pe k (lv + 1) d ts.tail with
        | error e => rfl
        | ok p =>
          rw [hp] at h
          simp only at h ⊢
          split
          · rfl
          · rename_i h1
            rw [if_neg h1] at h
            exact i2 _ _ _ _ h
      · rfl
    · rw [po_succ k d ts] at h
      rw [po_succ (k + 1) d ts, po_succ k d ts]
      by_cases c1 : beg (hd ts) = true
      · rw [if_pos c1] at h
        rw [if_pos c1, if_pos c1]
        by_cases c2 : 8 < d
        · rw [if_pos c2, if_pos c2]
        rw [if_neg c2] at h
        rw [if_neg c2, if_neg c2]
        by_cases c3 : (hd ts).kind = 2
        · rw [if_pos c3, if_pos c3]
        rw [if_neg c3] at h
        rw [if_neg c3, if_neg c3]
        by_cases c4 : (hd ts).kind = 1
        · rw [if_pos c4] at h
          rw [if_pos c4, if_pos c4]
          by_cases c5 : sg (hd ts.tail) [46] = true
          · rw [if_pos c5, if_pos c5]
          rw [if_neg c5] at h
          rw [if_neg c5, if_neg c5]
          by_cases c6 : sg (hd ts.tail) [91] = true
          · rw [if_pos c6] at h
            rw [if_pos c6, if_pos c6]
            have h0 : pe k 1 (d + 1) ts.tail.tail ≠ .error 99 := by
              intro e
              rw [e] at h
              exact h rfl
            rw [i1 _ _ _ h0]
          · rw [if_neg c6, if_neg c6]
        rw [if_neg c4] at h
        rw [if_neg c4, if_neg c4]
        by_cases c5 : (hd ts).text = [40]
        · rw [if_pos c5] at h
          rw [if_pos c5, if_pos c5]
          have h0 : pe k 1 (d + 1) ts.tail ≠ .error 99 := by
            intro e
            rw [e] at h
            exact h rfl
          rw [i1 _ _ _ h0]
        · rw [if_neg c5] at h
          rw [if_neg c5, if_neg c5]
          have h0 : po k (d + 1) ts.tail ≠ .error 99 := by
            intro e
            rw [e] at h
            exact h rfl
          rw [i3 _ _ h0]
      · rw [if_neg c1, if_neg c1]

theorem pe_more {k lv d : Nat} {ts : List Tk} (h : pe k lv d ts ≠ .error 99) : ∀ j, pe (k + j) lv d ts = pe k lv d ts
  | 0 => rfl
  | j + 1 => by
    have ih := pe_more h j
    rw [← Nat.add_assoc, (pe_mono (k + j)).1 _ _ _ (by rw [ih]; exact h), ih]
theorem pl_more {k lv d : Nat} {x : Xp} {ts : List Tk} (h : pl k lv d x ts ≠ .error 99) : ∀ j, pl (k + j) lv d x ts = pl k lv d x ts
  | 0 => rfl
  | j + 1 => by
    have ih := pl_more h j
    rw [← Nat.add_assoc, (pe_mono (k + j)).2.1 _ _ _ _ (by rw [ih]; exact h), ih]
theorem po_more {k d : Nat} {ts : List Tk} (h : po k d ts ≠ .error 99) : ∀ j, po (k + j) d ts = po k d ts
  | 0 => rfl
  | j + 1 => by
    have ih := po_more h j
    rw [← Nat.add_assoc, (pe_mono (k + j)).2.2 _ _ (by rw [ih]; exact h), ih]

/-- The answers with fuel enough. -/
def qe (lv d : Nat) (ts : List Tk) : PR := pe (7 * ts.length + 7) lv d ts
def ql (lv d : Nat) (x : Xp) (ts : List Tk) : PR := pl (7 * ts.length + 7) lv d x ts
def qo (d : Nat) (ts : List Tk) : PR := po (7 * ts.length + 7) d ts

theorem PRlt.ne {n : Nat} {r : PR} (h : PRlt n r) : r ≠ .error 99 := by
  intro e
  subst e
  rcases h with h | h <;> omega
theorem pe_q {k lv d : Nat} {ts : List Tk} (h1 : 1 ≤ lv) (h5 : lv ≤ 5) (hk : 7 * ts.length + 6 ≤ k) : pe k lv d ts = qe lv d ts := by
  have h := ((pe_all (7 * ts.length + 6)).1 lv d ts h1 h5 (by omega)).ne
  have e1 := pe_more h (k - (7 * ts.length + 6))
  have e2 := pe_more h 1
  rw [show 7 * ts.length + 6 + (k - (7 * ts.length + 6)) = k by omega] at e1
  rw [e1, qe, ← e2]
theorem pl_q {k lv d : Nat} {x : Xp} {ts : List Tk} (h1 : 1 ≤ lv) (h4 : lv ≤ 4) (hk : 7 * ts.length < k) : pl k lv d x ts = ql lv d x ts := by
  have h := ((pe_all (7 * ts.length + 1)).2.1 lv d x ts h1 h4 (by omega)).ne
  have e1 := pl_more h (k - (7 * ts.length + 1))
  have e2 := pl_more h 6
  rw [show 7 * ts.length + 1 + (k - (7 * ts.length + 1)) = k by omega] at e1
  rw [e1, ql, ← e2]
theorem po_q {k d : Nat} {ts : List Tk} (hk : 7 * ts.length < k) : po k d ts = qo d ts := by
  have h := ((pe_all (7 * ts.length + 1)).2.2 d ts (by omega)).ne
  have e1 := po_more h (k - (7 * ts.length + 1))
  have e2 := po_more h 6
  rw [show 7 * ts.length + 1 + (k - (7 * ts.length + 1)) = k by omega] at e1
  rw [e1, qo, ← e2]
end Go.Proofs
/- The answers with fuel enough, step by step. No program in sight. -/
namespace Go.Proofs

theorem qe_5 (d : Nat) (ts : List Tk) : qe 5 d ts = qo d ts := by
  rw [qe, pe_succ, if_pos (by omega)]
  exact po_q (by omega)
theorem qe_lt {lv d : Nat} {ts : List Tk} (h1 : 1 ≤ lv) (h4 : lv ≤ 4) : qe lv d ts = match qe (lv + 1) d ts with
      | .error e => .error e
      | .ok (x, r) => ql lv d x r := by
  rw [qe, pe_succ, if_neg (by omega), pe_q (by omega) (by omega) (by omega)]
  have h := (pe_all (7 * ts.length + 7)).1 (lv + 1) d ts (by omega) (by omega) (by omega)
  rw [show pe (7 * ts.length + 7) (lv + 1) d ts = qe (lv + 1) d ts from rfl] at h
  cases hq : qe (lv + 1) d ts with
  | error e => rfl
  | ok p =>
    rw [hq] at h
    have h : p.2.length < ts.length := h
    exact pl_q h1 h4 (by omega)
theorem ql_eq {lv d : Nat} {x : Xp} {ts : List Tk} (h1 : 1 ≤ lv) (h4 : lv ≤ 4) : ql lv d x ts = if (bin (hd ts)).1 = lv then
      match qe (lv + 1) d ts.tail with
      | .error e => .error e
      | .ok (y, r) => if lv = 1 then .ok (.bin (bin (hd ts)).2 x y, r) else ql lv d (.bin (bin (hd ts)).2 x y) r
    else .ok (x, ts) := by
  have ht : ts.tail.length ≤ ts.length := by rw [List.length_tail]; omega
  rw [ql, pl_succ, pe_q (by omega) (by omega) (by omega)]
  split
  · have h := (pe_all (7 * ts.tail.length + 7)).1 (lv + 1) d ts.tail (by omega) (by omega) (by omega)
    rw [show pe (7 * ts.tail.length + 7) (lv + 1) d ts.tail = qe (lv + 1) d ts.tail from rfl] at h
    cases hq : qe (lv + 1) d ts.tail with
    | error e => rfl
    | ok p =>
      obtain ⟨y, r⟩ := p
      rw [hq] at h
      have h : r.length < ts.tail.length := h
      simp only
      split
      · rfl
      · exact pl_q h1 h4 (by omega)
  · rfl
theorem qo_eq (d : Nat) (ts : List Tk) : qo d ts = if beg (hd ts) then
      if 8 < d then .error 5
      else if (hd ts).kind = 2 then .ok (.lit (hd ts).num, ts.tail)
      else if (hd ts).kind = 1 then
        if sg (hd ts.tail) [46] then
          if (hd ts.tail.tail).kind = 1 then .ok (.fld (hd ts).text (hd ts.tail.tail).text, ts.tail.tail.tail) else .error 7
        else if sg (hd ts.tail) [91] then
          match qe 1 (d + 1) ts.tail.tail with
          | .error e => .error e
          | .ok (x, r) => if sg (hd r) [93] then .ok (.elt (hd ts).text x, r.tail) else .error 7
        else .ok (.var (hd ts).text, ts.tail)
      else if (hd ts).text = [40] then
        match qe 1 (d + 1) ts.tail with
        | .error e => .error e
        | .ok (x, r) => if sg (hd r) [41] then .ok (x, r.tail) else .error 7
      else match qo (d + 1) ts.tail with
        | .error e => .error e
        | .ok (x, r) => .ok (.una (if (hd ts).text = [45] then 4 else 5) x, r)
    else .error 7 := by
  have ht : ts.tail.length ≤ ts.length := by rw [List.length_tail]; omega
  have ht2 : ts.tail.tail.length ≤ ts.tail.length := by rw [List.length_tail]; omega
  have e1 : pe (7 * ts.length + 6) 1 (d + 1) ts.tail.tail = qe 1 (d + 1) ts.tail.tail := pe_q (by omega) (by omega) (by omega)
  have e2 : pe (7 * ts.length + 6) 1 (d + 1) ts.tail = qe 1 (d + 1) ts.tail := pe_q (by omega) (by omega) (by omega)
  have e3 : po (7 * ts.length + 6) (d + 1) ts.tail = qo (d + 1) ts.tail := po_q (by omega)
  rw [qo, po_succ, e1, e2, e3]
  all_goals rfl

end Go.Proofs
/- The tokens of a printed expression are parsed to that expression. No program in sight. -/
namespace Go.Proofs

def lvO (op : Nat) : Nat := if 14 ≤ op then 1 else if 11 ≤ op then 2 else if 8 ≤ op then 4 else if 6 ≤ op then 3 else if 4 ≤ op then 5 else 6
def lvX : Xp → Nat
  | .una _ _ => 5
  | .bin op _ _ => lvO op
  | _ => 6
def sgO (op : Nat) : List UInt8 := ((binL.find? fun o => decide (o.2.2 = op)).map Prod.fst).getD []
def tS (s : List UInt8) : Tk := ⟨4, 1, s, 0⟩
def tN (s : List UInt8) : Tk := ⟨1, 1, s, 0⟩
def par (b : Bool) (l : List Tk) : List Tk := if b then tS [40] :: (l ++ [tS [41]]) else l
/-- Whether the left and the right operand stand in parentheses. -/
def lpar (op : Nat) (a : Xp) : Bool := decide (lvX a < lvO op ∨ lvX a = 1)
def rpar (op : Nat) (b : Xp) : Bool := decide (lvX b ≤ lvO op)
def xtk : Xp → List Tk
  | .lit n => [⟨2, 1, [], n⟩]
  | .var s => [tN s]
  | .fld s f => [tN s, tS [46], tN f]
  | .elt s a => tN s :: tS [91] :: (xtk a ++ [tS [93]])
  | .una op a => tS (if op = 4 then [45] else [33]) :: par (decide (lvX a < 5)) (xtk a)
  | .bin op a b => par (lpar op a) (xtk a) ++ tS (sgO op) :: par (rpar op b) (xtk b)
/-- How deep an expression's printed text is nested. -/
def nd : Xp → Nat
  | .elt _ a => nd a + 1
  | .una _ a => 1 + (nd a + if lvX a < 5 then 1 else 0)
  | .bin op a b => max (nd a + if lpar op a then 1 else 0) (nd b + if rpar op b then 1 else 0)
  | _ => 0
/-- Operations that there are. -/
def Wop : Xp → Prop
  | .elt _ a => Wop a
  | .una op a => (op = 4 ∨ op = 5) ∧ Wop a
  | .bin op a b => 6 ≤ op ∧ op ≤ 17 ∧ Wop a ∧ Wop b
  | _ => True

/-- What may stand behind an operand: no "." and no "[". -/
def St0 (rest : List Tk) : Prop := sg (hd rest) [46] = false ∧ sg (hd rest) [91] = false

theorem hd_cons (t : Tk) (r : List Tk) : hd (t :: r) = t := rfl
theorem sgO_bin (op : Nat) (h1 : 6 ≤ op) (h2 : op ≤ 17) : bin (tS (sgO op)) = (lvO op, op) ∧ 1 ≤ lvO op ∧ lvO op ≤ 4 ∧ sg (tS (sgO op)) [46] = false ∧ sg (tS (sgO op)) [91] = false := by
  have : op = 6 ∨ op = 7 ∨ op = 8 ∨ op = 9 ∨ op = 10 ∨ op = 11 ∨ op = 12 ∨ op = 13 ∨ op = 14 ∨ op = 15 ∨ op = 16 ∨ op = 17 := by omega
  rcases this with rfl | rfl | rfl | rfl | rfl | rfl | rfl | rfl | rfl | rfl | rfl | rfl <;> decide

theorem ql_stop {lv d : Nat} {x : Xp} {rest : List Tk} (h1 : 1 ≤ lv) (h4 : lv ≤ 4) (hb : (bin (hd rest)).1 ≠ lv) : ql lv d x rest = .ok (x, rest) := by
  rw [ql_eq h1 h4, if_neg hb]

/-- From an operand up to an expression of a level. -/
theorem climb {d : Nat} {ts rest : List Tk} {x : Xp} (ho : qo d ts = .ok (x, rest)) : ∀ (n lv : Nat), lv + n = 4 → 1 ≤ lv → (bin (hd rest)).1 ≤ lv → qe lv d ts = ql lv d x rest
  | 0, lv, h, h1, hb => by
    have : lv = 4 := by omega
    subst this
    rw [qe_lt (by omega) (by omega), qe_5, ho]
  | n + 1, lv, h, h1, hb => by
    rw [qe_lt h1 (by omega), climb ho n (lv + 1) (by omega) (by omega) (by omega), ql_stop (by omega) (by omega) (by omega)]

/-- What is wanted of an expression's tokens. -/
structure RT (x : Xp) : Prop where
  a : ∀ lv d rest, 1 ≤ lv → lv ≤ 4 → lv ≤ lvX x → lvX x ≠ 1 → d + nd x ≤ 8 → (bin (hd rest)).1 ≤ lv → St0 rest → qe lv d (xtk x ++ rest) = ql lv d x rest
  b : lvX x = 1 → ∀ d rest, d + nd x ≤ 8 → (bin (hd rest)).1 ≤ 1 → St0 rest → qe 1 d (xtk x ++ rest) = .ok (x, rest)
  c : 5 ≤ lvX x → ∀ d rest, d + nd x ≤ 8 → St0 rest → qo d (xtk x ++ rest) = .ok (x, rest)

theorem RT.top {x : Xp} (h : RT x) (hl : 1 ≤ lvX x) {d : Nat} {rest : List Tk} (hn : d + nd x ≤ 8) (hb : (bin (hd rest)).1 = 0) (hs : St0 rest) : qe 1 d (xtk x ++ rest) = .ok (x, rest) := by
  by_cases h1 : lvX x = 1
  · exact h.b h1 d rest hn (by omega) hs
  · rw [h.a 1 d rest (by omega) (by omega) hl h1 hn (by omega) hs, ql_stop (by omega) (by omega) (by omega)]

/-- In parentheses it is an operand. -/
theorem RT.paren {x : Xp} (h : RT x) (hl : 1 ≤ lvX x) {d : Nat} {rest : List Tk} (hn : d + (nd x + 1) ≤ 8) : qo d (par true (xtk x) ++ rest) = .ok (x, rest) := by
  have e : par true (xtk x) ++ rest = tS [40] :: (xtk x ++ (tS [41] :: rest)) := by
    simp [par]
  have ht : qe 1 (d + 1) (xtk x ++ (tS [41] :: rest)) = .ok (x, tS [41] :: rest) := h.top hl (by omega) (by rw [hd_cons]; decide) ⟨by rw [hd_cons]; decide, by rw [hd_cons]; decide⟩
  rw [e, qo_eq, hd_cons, List.tail_cons, ht, if_pos (by decide), if_neg (by omega), if_neg (by decide), if_neg (by decide), if_pos (by decide)]
  simp only
  rw [hd_cons, if_pos (by decide), List.tail_cons]

theorem RT.of_c {x : Xp} (h5 : 5 ≤ lvX x) (c : ∀ d rest, d + nd x ≤ 8 → St0 rest → qo d (xtk x ++ rest) = .ok (x, rest)) : RT x where
  a := fun lv d rest h1 h4 _ _ hn hb hs => climb (c d rest hn hs) (4 - lv) lv (by omega) h1 hb
  b := fun h => by omega
  c := fun _ => c

theorem lvX_pos {x : Xp} (h : Wop x) : 1 ≤ lvX x := by
  cases x <;> simp only [lvX] <;> try omega
  rename_i op a b
  exact (sgO_bin op h.1 h.2.1).2.1

theorem St0_op {op : Nat} (h1 : 6 ≤ op) (h2 : op ≤ 17) (r : List Tk) : St0 (tS (sgO op) :: r) := by
  obtain ⟨_, _, _, h4, h5⟩ := sgO_bin op h1 h2
  exact ⟨h4, h5⟩

theorem rt : ∀ x : Xp, Wop x → RT x
  | .lit n, _ => RT.of_c (Nat.le_of_ble_eq_true rfl) fun d rest hn hs => by
    have hn : d + 0 ≤ 8 := hn
    show qo d (_ :: rest) = _
    rw [qo_eq, hd_cons, if_pos (by simp [beg]), if_neg (by omega), if_pos (by rfl), List.tail_cons]
  | .var s, _ => RT.of_c (Nat.le_of_ble_eq_true rfl) fun d rest hn hs => by
    have hn : d + 0 ≤ 8 := hn
    show qo d (_ :: rest) = _
    rw [qo_eq, hd_cons, if_pos (by simp [beg, tN]), if_neg (by omega), if_neg (by simp [tN]), if_pos (by rfl), List.tail_cons, hs.1, hs.2]
    rfl
  | .fld s f, _ => RT.of_c (Nat.le_of_ble_eq_true rfl) fun d rest hn hs => by
    have hn : d + 0 ≤ 8 := hn
    show qo d (_ :: _ :: _ :: rest) = _
    rw [qo_eq, hd_cons, if_pos (by simp [beg, tN]), if_neg (by omega), if_neg (by simp [tN]), if_pos (by rfl), List.tail_cons, hd_cons, if_pos (by decide), List.tail_cons, hd_cons, if_pos (by rfl), List.tail_cons]
    rfl
  | .elt s a, h => RT.of_c (Nat.le_of_ble_eq_true rfl) fun d rest hn hs => by
    have hn : d + (nd a + 1) ≤ 8 := hn
    have h : Wop a := h
    have e : xtk (.elt s a) ++ rest = tN s :: tS [91] :: (xtk a ++ (tS [93] :: rest)) := by simp [xtk]
    have ht : qe 1 (d + 1) (xtk a ++ (tS [93] :: rest)) = .ok (a, tS [93] :: rest) := (rt a h).top (lvX_pos h) (by omega) (by rw [hd_cons]; decide) ⟨by rw [hd_cons]; decide, by rw [hd_cons]; decide⟩
    rw [e, qo_eq, hd_cons, if_pos (by simp [beg, tN]), if_neg (by omega), if_neg (by simp [tN]), if_pos (by rfl), List.tail_cons, hd_cons, if_neg (by decide), if_pos (by decide), List.tail_cons, ht]
    simp only
    rw [hd_cons, if_pos (by decide), List.tail_cons]
    rfl
  | .una op a, h => RT.of_c (Nat.le_of_ble_eq_true rfl) fun d rest hn hs => by
    obtain ⟨hop, ha⟩ := h
    have hn : d + (1 + (nd a + if lvX a < 5 then 1 else 0)) ≤ 8 := hn
    have ih := rt a ha
    have hsub : qo (d + 1) (par (decide (lvX a < 5)) (xtk a) ++ rest) = .ok (a, rest) := by
      by_cases h5 : lvX a < 5
      · rw [if_pos h5] at hn
        rw [decide_eq_true h5]
        exact ih.paren (lvX_pos ha) (by omega)
      · rw [if_neg h5] at hn
        rw [decide_eq_false h5]
        exact ih.c (by omega) (d + 1) rest (by omega) hs
    show qo d (_ :: (par (decide (lvX a < 5)) (xtk a) ++ rest)) = _
    rcases hop with rfl | rfl
    · rw [qo_eq, hd_cons, if_pos (by decide), if_neg (by omega), if_neg (by decide), if_neg (by decide), if_neg (by decide), List.tail_cons, hsub]
      rfl
    · rw [qo_eq, hd_cons, if_pos (by decide), if_neg (by omega), if_neg (by decide), if_neg (by decide), if_neg (by decide), List.tail_cons, hsub]
      rfl
  | .bin op a b, h => by
    obtain ⟨h6, h17, ha, hb⟩ := h
    obtain ⟨g1, g2, g3, g4, g5⟩ := sgO_bin op h6 h17
    have iha := rt a ha
    have ihb := rt b hb
    -- the right operand
    have hr : ∀ d rest, d + nd (.bin op a b) ≤ 8 → (bin (hd rest)).1 ≤ lvO op → St0 rest → qe (lvO op + 1) d (par (rpar op b) (xtk b) ++ rest) = .ok (b, rest) := by
      intro d rest hn hbin hs
      have hn : d + max (nd a + if lpar op a then 1 else 0) (nd b + if rpar op b then 1 else 0) ≤ 8 := hn
      cases hp : rpar op b with
      | true =>
        rw [hp, if_pos rfl] at hn
        have h0 := ihb.paren (lvX_pos hb) (d := d) (rest := rest) (by omega)
        by_cases h4 : lvO op = 4
        · rw [h4, qe_5]
          exact h0
        · rw [climb h0 (4 - (lvO op + 1)) (lvO op + 1) (by omega) (by omega) (by omega), ql_stop (by omega) (by omega) (by omega)]
      | false =>
        rw [hp] at hn
        have hlt : lvO op < lvX b := by
          have := of_decide_eq_false hp
          omega
        have hn' : d + nd b ≤ 8 := by
          simp only [Bool.false_eq_true, if_false] at hn
          omega
        show qe (lvO op + 1) d (xtk b ++ rest) = _
        by_cases h4 : lvO op = 4
        · rw [h4, qe_5]
          exact ihb.c (by omega) d rest hn' hs
        · rw [ihb.a (lvO op + 1) d rest (by omega) (by omega) (by omega) (by omega) hn' (by omega) hs, ql_stop (by omega) (by omega) (by omega)]
    -- the left operand
    have hleft : ∀ d rest, d + nd (.bin op a b) ≤ 8 → St0 rest → qe (lvO op) d (xtk (.bin op a b) ++ rest) = ql (lvO op) d a (tS (sgO op) :: (par (rpar op b) (xtk b) ++ rest)) := by
      intro d rest hn hs
      have hn : d + max (nd a + if lpar op a then 1 else 0) (nd b + if rpar op b then 1 else 0) ≤ 8 := hn
      have e : xtk (.bin op a b) ++ rest = par (lpar op a) (xtk a) ++ (tS (sgO op) :: (par (rpar op b) (xtk b) ++ rest)) := by simp [xtk]
      rw [e]
      cases hp : lpar op a with
      | true =>
        rw [hp, if_pos rfl] at hn
        have h0 := iha.paren (lvX_pos ha) (d := d) (rest := tS (sgO op) :: (par (rpar op b) (xtk b) ++ rest)) (by omega)
        exact climb h0 (4 - lvO op) (lvO op) (by omega) g2 (by rw [hd_cons, g1]; exact Nat.le_refl _)
      | false =>
        rw [hp] at hn
        have hlt := of_decide_eq_false hp
        have hn' : d + nd a ≤ 8 := by
          simp only [Bool.false_eq_true, if_false] at hn
          omega
        show qe (lvO op) d (xtk a ++ _) = _
        exact iha.a (lvO op) d _ g2 g3 (by omega) (by omega) hn' (by rw [hd_cons, g1]; exact Nat.le_refl _) (St0_op h6 h17 _)
    have hboth : ∀ d rest, d + nd (.bin op a b) ≤ 8 → (bin (hd rest)).1 ≤ lvO op → St0 rest → qe (lvO op) d (xtk (.bin op a b) ++ rest) = if lvO op = 1 then .ok (.bin op a b, rest) else ql (lvO op) d (.bin op a b) rest := by
      intro d rest hn hbin hs
      rw [hleft d rest hn hs, ql_eq g2 g3, hd_cons, g1, if_pos (by rfl), List.tail_cons, hr d rest hn hbin hs]
    refine ⟨fun lv d rest h1 h4 hlv hne hn hbin hs => ?_, fun h1 d rest hn hbin hs => ?_, fun h5 => ?_⟩
    · have hlv : lv ≤ lvO op := hlv
      have hne : lvO op ≠ 1 := hne
      have down : ∀ n lv, lv + n = lvO op → 1 ≤ lv → (bin (hd rest)).1 ≤ lv → qe lv d (xtk (.bin op a b) ++ rest) = ql lv d (.bin op a b) rest := by
        intro n
        induction n with
        | zero =>
          intro lv hl hl1 hb1
          have : lv = lvO op := by omega
          subst this
          rw [hboth d rest hn hb1 hs, if_neg hne]
        | succ n ih =>
          intro lv hl hl1 hb1
          rw [qe_lt hl1 (by omega), ih (lv + 1) (by omega) (by omega) (by omega), ql_stop (by omega) (by omega) (by omega)]
      exact down (lvO op - lv) lv (by omega) h1 hbin
    · have h1 : lvO op = 1 := h1
      have := hboth d rest hn (by omega) hs
      rw [h1] at this
      rw [this, if_pos rfl]
    · have h5 : 5 ≤ lvO op := h5
      omega
end Go.Proofs
/- An element of an array value, the elements structs; branches that end normally joined. No conditions: lemmas only. -/
namespace Go.AM
section
variable {P : Program} {n : Nat} {K : Post} {E : EPost} {T : Tmps} {st : St} {ops : Array Oper} {rest : List Oper} {d : Tmp} {dd : Option Tmp} {x y : Operand} {ty : TypeId} {pos : String} {es : Array Edge} {gd : Option (Nat × Bool)}
/-- An element of an array value that is a struct. -/
theorem ixgA {t e : TypeId} {td : TypeDesc} {len sz by_ : Nat} {zz : Value} {cs : List AV} {k : IntKind} {i : Int} {m : Nat} {row : List AV} [hu : Und P t (.array len e)] [hq : Und P e td] [hi : Inf P e sz by_ zz]
    (hg : goes ops n T ⟨dd, .index t x y, ty, pos, es, gd⟩ = some d) (ha : aggD td = true) (hx : ev st T x = some (.agg cs)) (hy : ev st T y = some (.int k i)) (hm : i = m) (hlt : m < len) (hle : m * sz + sz ≤ cs.length) (hrow : (cs.drop (m * sz)).take sz = row)
    (h : AOps P n ops rest K E ((d, .agg row) :: T) st) : AOps P n ops (⟨dd, .index t x y, ty, pos, es, gd⟩ :: rest) K E T st := by
  obtain ⟨hw, hd, hok⟩ := goes_some hg
  simp only at hd
  subst hd
  refine AOps.pure hw hok _ (fun g w a hs hk => ?_) h
  have h1 := ev_R hs hk hx
  have h2 := ev_R hs hk hy
  generalize hux : a.eval x = ux at h1
  generalize huy : a.eval y = uy at h2
  subst hm
  cases h2
  subst hrow
  cases h1 with
  | agg _ us hl h1' hh =>
    have hle' : m * sz + sz ≤ us.size := hl ▸ hle
    refine ⟨.agg (us.extract (m * sz) (m * sz + sz)), ?_, ?_⟩
    · simp [execOp, hux, huy, Instr.index, asIntOf, run_und (P := P) (t := t) w, hlt, run_size (P := P) (t := e) w, part, run_isAgg (P := P) (t := e) w, ha]
    · refine .agg _ _ (by simp; omega) (fun c hc => h1' c (List.mem_of_mem_drop (List.mem_of_mem_take hc))) ?_
      intro i c rv hc hv
      have hi : i < sz := by
        have := (List.getElem?_eq_some_iff.1 hc).1
        simp at this
        omega
      refine hh (m * sz + i) c rv ?_ ?_
      · rw [List.getElem?_take_of_lt hi, List.getElem?_drop] at hc
        exact hc
      · rw [Array.getElem?_extract] at hv
        split at hv
        · exact hv
        · cases hv
end
/-- What holds in between, of the shape of some y; behind a step of a sequence. -/
theorem AWP.cutK {P : Program} {n : Nat} {K : Post} {E E1 : EPost} {T : Tmps} {st : St} {c c' : Code} {α : Type} (sh : α → Tmps) (ss : α → St) (inv : α → Prop) (h : AWP P n c (fun T' st' => ∃ y, inv y ∧ TLe T' (sh y) ∧ StLe st' (ss y)) E1 T st)
    (k : ∀ y, inv y → AWP P n c' K E (sh y) (ss y)) : AWP P n c (AWP P n c' K E) E1 T st :=
  h.mono (fun _ _ ⟨y, h1, h2, h3⟩ => AWP.weaken h2 h3 (k y h1)) (fun _ _ _ h => h)
section
variable {P : Program} {n : Nat} {T : Tmps} {base : St} {ops : Array Oper} {sts : List St} {Es : List Nat}
/-- A step that writes and yields a value. -/
theorem deSv {i j : Nat} {o : Oper} {r : List Oper} {d : Tmp} {v : AV} {s1 s2 : St} {k : Tmps → St → Prop} (hj : (List.range Es.length).filter (fun q => Nat.beq (Es.getD q 0) i) = [j]) (h1 : sts[j]? = some s1) (h2 : sts[j + 1]? = some s2) (hle : StLe s2 base)
    (hd : dstA n o.dst = some d) (hw : wantedA ops (see ops o T) o = some true) (h : AOps P n ops [o] (fun T' st'' => ∃ u, T' = (d, u) :: see ops o T ∧ (u = v ∧ st'' = s2)) (fun _ _ _ => False) (see ops o T) s1)
    (hr : DRunX P n (IX sts base) Es ops (i + 1) r ((d, v) :: T) k) : DRunX P n (IX sts base) Es ops i (o :: r) T k := by
  obtain ⟨Qs, hr⟩ := hr
  obtain ⟨p1, p2⟩ := posS_spec hj
  obtain ⟨hd', hdn⟩ := dstA_some hd
  refine ⟨(fun u => u = v) :: Qs, ⟨v, rfl⟩, hdn, .inl ⟨hw, fun hc => ?_, fun q hq => ?_⟩, fun u hu => ?_⟩
  · rw [List.contains_iff_mem.2 (List.mem_of_getElem? p1)] at hc
    cases hc
  · obtain rfl := p2 q hq
    intro s g w a K' Q' ⟨hI, _⟩ hs hk hn hK
    rw [h1] at hI
    cases hI
    refine AOps.single hd' (dstOk_lt hdn d hd') h hw hs hk K' Q' (fun rv g' w' u st' he hs' hR ⟨hu, hst⟩ => ?_) hn
    subst hu hst
    exact hK rv g' w' u st' he hs' hR rfl ⟨h2, hle⟩
  · subst hu
    rw [hd']
    exact hr
end
end Go.AM
