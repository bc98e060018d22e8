/- The walk of the scanner's number. No conditions: definitions and lemmas only. -/
import Derived.Test.YtmpifmapdmhgkaaDoorL3
namespace Go.Proofs
open Go.AM

def zTk : Tk := ⟨0, 0, [], 0⟩
def tkE (t : Tk) (e : Nat) : AV := .tuple [.agg (tokRow t), .int .i64 (e : Int)]

theorem digits_snoc (l : List UInt8) (c : UInt8) : digits (l ++ [c]) = digits l * 10 + (c.toNat - 48) := by simp [digits]

theorem digits_lt : ∀ (n : Nat) (l : List UInt8), l.length = n → (∀ c ∈ l, isDig c = true) → digits l < 10 ^ n
  | 0, l, h, _ => by
    have : l = [] := List.eq_nil_of_length_eq_zero h
    subst this
    simp [digits]
  | n + 1, l, h, hd => by
    obtain ⟨l', c, rfl⟩ : ∃ l' c, l = l' ++ [c] := ⟨l.dropLast, l.getLast (by rintro rfl; simp at h), (List.dropLast_concat_getLast _).symm⟩
    have ih := digits_lt n l' (by simpa using h) fun c hc => hd c (by simp [hc])
    have hc := hd c (by simp)
    simp only [isDig, Bool.and_eq_true, decide_eq_true_eq] at hc
    rw [digits_snoc, Nat.pow_succ]
    omega

theorem wrap32 {a : Int} (h : -2147483648 ≤ a ∧ a < 2147483648) : IntKind.i32.wrap a = a := by
  simp only [IntKind.wrap, IntKind.bits, IntKind.signed]
  simp
  split <;> omega

theorem npA_eq (c : UInt8) : npA c.toNat = isNP c := rfl
theorem npA_const : ∀ r, 128 ≤ r → npA r = npA 128 := by
  intro r hr
  have h1 : ¬ r ≤ 122 := by omega
  have h2 : ¬ r ≤ 90 := by omega
  have h3 : ¬ r = 95 := by omega
  have h4 : ¬ r ≤ 57 := by omega
  simp [npA, letA, digA, h1, h2, h3, h4]
theorem digA_const : ∀ r, 128 ≤ r → digA r = digA 128 := by
  intro r hr
  have h4 : ¬ r ≤ 57 := by omega
  simp [digA, h4]

theorem tw_pos (q : UInt8 → Bool) (l : List UInt8) : 0 < (l.takeWhile q).length ↔ (l.head?.map q).getD false = true := by
  cases l with
  | nil => simp
  | cons c l =>
    cases h : q c <;> simp [h]

/-- What number answers, and where it goes on. -/
def numR (rest : List UInt8) (n line : Nat) : Except Nat Tk := if 18 < n then .error 5 else if ((rest.drop n).head?.map isNP).getD false = true then .error 6 else .ok ⟨2, line, [], digits (rest.take n)⟩

def exV : Except Nat Tk → AV
  | .error e => tkE zTk e
  | .ok t => tkE t 0
def exP {α : Type} (pos n : Nat) : Except Nat α → Nat
  | .error _ => pos
  | .ok _ => pos + n

set_option maxHeartbeats 4000000 in
theorem number_ok (s rest : List UInt8) (hs : s.length ≤ 1000000) (n pos line om os : Nat) (hn : n ≤ rest.length) (hp : pos + n ≤ s.length) (hd : ∀ c ∈ rest.take n, isDig c = true) (st : St) :
    ACalls Tryd.prog 35 [.cptr os 4 0 0, .str rest, .int .i64 (n : Int)] (st.set os (.cells 52 4 [scanRow s pos line om]))
      (fun v st' => v = exV (numR rest n line) ∧ st' = st.set os (.cells 52 4 [scanRow s (exP pos n (numR rest n line)) line om])) (fun _ _ => False) := by
  refine ACalls.ofBody Tryd.func35 rfl Tryd.ntmps35 rfl ?_
  repeat (first | refine nl ?_ | refine AWP.seq ?_ | refine AWP.skip ?_ | refine AWP.block ?_)
  refine rg ?_
  refine al rfl rfl fun o6 ho6 => ?_
  have hne : o6 ≠ os := by rintro rfl; rw [St.obj_set] at ho6; cases ho6
  have hn6 : st.obj o6 = none := by rwa [St.obj_set_ne hne] at ho6
  have hos : ∀ (c : AObj) (d : AObj), ((st.set os c).set o6 d).obj os = some c := fun c d => (St.obj_set_ne (fun e => hne e.symm)).trans (St.obj_set _ _ _)
  repeat (first | refine nl ?_ | refine AWP.seq ?_ | refine rg ?_ | refine AWP.skip ?_ | refine AWP.block ?_ | refine sm rfl ?_ | refine uw rfl ?_ | refine fa rfl rfl ?_ | refine leW rfl rfl rfl rfl rfl ?_ | refine leW rfl rfl rfl (by assumption) rfl ?_ | refine lcW rfl rfl rfl (St.obj_set _ _ _) rfl rfl ?_ | refine le rfl rfl rfl rfl ?_ | refine le rfl rfl (by assumption) rfl ?_ | refine lnv rfl rfl ?_ | refine lnm rfl rfl ?_ | refine lns rfl rfl ?_ | refine ix rfl rfl rfl rfl (by assumption) ?_ | refine ixm rfl rfl rfl rfl (by assumption) ?_ | refine lc rfl rfl (St.obj_set _ _ _) rfl rfl ?_ | refine lc rfl rfl (St.obj_set _ _ _) (by assumption) rfl ?_ | refine lc rfl rfl (by assumption) rfl rfl ?_ | refine lc rfl rfl (by assumption) (by assumption) rfl ?_ | refine inc rfl rfl rfl (by omega) ?_ | refine adn rfl rfl rfl (by omega) ?_ | refine bs1 rfl rfl rfl rfl rfl rfl ?_ | refine bxe rfl rfl rfl rfl ?_ | refine eqn rfl rfl ?_ | refine eqb rfl rfl rfl ?_ | refine neb rfl rfl rfl ?_ | refine sx rfl rfl rfl rfl (by assumption) ?_ | refine ssl rfl rfl rfl (by omega) ?_ | refine ssh rfl rfl rfl (by omega) ?_)
  refine AWP.cond_dec rfl (fun h => ?_) (fun h => AWP.skip ?_)
  · have h' : 18 < n := by have : (18 : Int) < (n : Int) := h; omega
    have e : numR rest n line = .error 5 := by rw [numR, if_pos h']
    repeat (first | refine nl ?_ | refine AWP.seq ?_ | refine AWP.skip ?_ | refine AWP.block ?_)
    refine rg ?_
    refine bds (cs := tokRow zTk) rfl rfl rfl rfl ?_
    refine soV rfl rfl rfl rfl rfl rfl ?_
    repeat (first | refine nl ?_ | refine AWP.seq ?_ | refine rg ?_ | refine AWP.skip ?_ | refine AWP.block ?_ | refine sm rfl ?_ | refine uw rfl ?_ | refine fa rfl rfl ?_ | refine leW rfl rfl rfl rfl rfl ?_ | refine leW rfl rfl rfl (by assumption) rfl ?_ | refine lcW rfl rfl rfl (St.obj_set _ _ _) rfl rfl ?_ | refine le rfl rfl rfl rfl ?_ | refine le rfl rfl (by assumption) rfl ?_ | refine lnv rfl rfl ?_ | refine lnm rfl rfl ?_ | refine lns rfl rfl ?_ | refine ix rfl rfl rfl rfl (by assumption) ?_ | refine ixm rfl rfl rfl rfl (by assumption) ?_ | refine lc rfl rfl (St.obj_set _ _ _) rfl rfl ?_ | refine lc rfl rfl (St.obj_set _ _ _) (by assumption) rfl ?_ | refine lc rfl rfl (by assumption) rfl rfl ?_ | refine lc rfl rfl (by assumption) (by assumption) rfl ?_ | refine inc rfl rfl rfl (by omega) ?_ | refine adn rfl rfl rfl (by omega) ?_ | refine bs1 rfl rfl rfl rfl rfl rfl ?_ | refine bxe rfl rfl rfl rfl ?_ | refine eqn rfl rfl ?_ | refine eqb rfl rfl rfl ?_ | refine neb rfl rfl rfl ?_ | refine sx rfl rfl rfl rfl (by assumption) ?_ | refine ssl rfl rfl rfl (by omega) ?_ | refine ssh rfl rfl rfl (by omega) ?_)
    refine AWP.ret (rets (resCW rfl (St.obj_set _ _ _) rfl rfl rfl rfl) (.refl _) (StLe.new ho6 (.refl _)) ⟨?_, ?_⟩)
    · rw [e]; rfl
    · rw [e]; rfl
  · have h' : n ≤ 18 := by have : ¬ (18 : Int) < (n : Int) := h; omega
    repeat (first | refine nl ?_ | refine AWP.seq ?_ | refine rg ?_ | refine AWP.skip ?_ | refine AWP.block ?_ | refine sm rfl ?_ | refine uw rfl ?_ | refine fa rfl rfl ?_ | refine leW rfl rfl rfl rfl rfl ?_ | refine leW rfl rfl rfl (by assumption) rfl ?_ | refine lcW rfl rfl rfl (St.obj_set _ _ _) rfl rfl ?_ | refine le rfl rfl rfl rfl ?_ | refine le rfl rfl (by assumption) rfl ?_ | refine lnv rfl rfl ?_ | refine lnm rfl rfl ?_ | refine lns rfl rfl ?_ | refine ix rfl rfl rfl rfl (by assumption) ?_ | refine ixm rfl rfl rfl rfl (by assumption) ?_ | refine lc rfl rfl (St.obj_set _ _ _) rfl rfl ?_ | refine lc rfl rfl (St.obj_set _ _ _) (by assumption) rfl ?_ | refine lc rfl rfl (by assumption) rfl rfl ?_ | refine lc rfl rfl (by assumption) (by assumption) rfl ?_ | refine inc rfl rfl rfl (by omega) ?_ | refine adn rfl rfl rfl (by omega) ?_ | refine bs1 rfl rfl rfl rfl rfl rfl ?_ | refine bxe rfl rfl rfl rfl ?_ | refine eqn rfl rfl ?_ | refine eqb rfl rfl rfl ?_ | refine neb rfl rfl rfl ?_ | refine sx rfl rfl rfl rfl (by assumption) ?_ | refine ssl rfl rfl rfl (by omega) ?_ | refine ssh rfl rfl rfl (by omega) ?_)
    refine cle rfl rfl (prefix_ok (rest.drop n) 36 npA npA_const _ isNamePart_ok) ?_
    repeat (first | refine nl ?_ | refine AWP.seq ?_ | refine rg ?_ | refine AWP.skip ?_ | refine AWP.block ?_ | refine sm rfl ?_ | refine uw rfl ?_ | refine fa rfl rfl ?_ | refine leW rfl rfl rfl rfl rfl ?_ | refine leW rfl rfl rfl (by assumption) rfl ?_ | refine lcW rfl rfl rfl (St.obj_set _ _ _) rfl rfl ?_ | refine le rfl rfl rfl rfl ?_ | refine le rfl rfl (by assumption) rfl ?_ | refine lnv rfl rfl ?_ | refine lnm rfl rfl ?_ | refine lns rfl rfl ?_ | refine ix rfl rfl rfl rfl (by assumption) ?_ | refine ixm rfl rfl rfl rfl (by assumption) ?_ | refine lc rfl rfl (St.obj_set _ _ _) rfl rfl ?_ | refine lc rfl rfl (St.obj_set _ _ _) (by assumption) rfl ?_ | refine lc rfl rfl (by assumption) rfl rfl ?_ | refine lc rfl rfl (by assumption) (by assumption) rfl ?_ | refine inc rfl rfl rfl (by omega) ?_ | refine adn rfl rfl rfl (by omega) ?_ | refine bs1 rfl rfl rfl rfl rfl rfl ?_ | refine bxe rfl rfl rfl rfl ?_ | refine eqn rfl rfl ?_ | refine eqb rfl rfl rfl ?_ | refine neb rfl rfl rfl ?_ | refine sx rfl rfl rfl rfl (by assumption) ?_ | refine ssl rfl rfl rfl (by omega) ?_ | refine ssh rfl rfl rfl (by omega) ?_)
    refine AWP.cond_dec rfl (fun h2 => ?_) (fun h2 => AWP.skip ?_)
    · have h2' : ((rest.drop n).head?.map isNP).getD false = true := (tw_pos isNP _).1 (Int.ofNat_lt.1 h2)
      have e : numR rest n line = .error 6 := by rw [numR, if_neg (by omega), if_pos h2']
      repeat (first | refine nl ?_ | refine AWP.seq ?_ | refine AWP.skip ?_ | refine AWP.block ?_)
      refine rg ?_
      refine bds (cs := tokRow zTk) rfl rfl rfl rfl ?_
      refine soV rfl rfl rfl rfl rfl rfl ?_
      repeat (first | refine nl ?_ | refine AWP.seq ?_ | refine rg ?_ | refine AWP.skip ?_ | refine AWP.block ?_ | refine sm rfl ?_ | refine uw rfl ?_ | refine fa rfl rfl ?_ | refine leW rfl rfl rfl rfl rfl ?_ | refine leW rfl rfl rfl (by assumption) rfl ?_ | refine lcW rfl rfl rfl (St.obj_set _ _ _) rfl rfl ?_ | refine le rfl rfl rfl rfl ?_ | refine le rfl rfl (by assumption) rfl ?_ | refine lnv rfl rfl ?_ | refine lnm rfl rfl ?_ | refine lns rfl rfl ?_ | refine ix rfl rfl rfl rfl (by assumption) ?_ | refine ixm rfl rfl rfl rfl (by assumption) ?_ | refine lc rfl rfl (St.obj_set _ _ _) rfl rfl ?_ | refine lc rfl rfl (St.obj_set _ _ _) (by assumption) rfl ?_ | refine lc rfl rfl (by assumption) rfl rfl ?_ | refine lc rfl rfl (by assumption) (by assumption) rfl ?_ | refine inc rfl rfl rfl (by omega) ?_ | refine adn rfl rfl rfl (by omega) ?_ | refine bs1 rfl rfl rfl rfl rfl rfl ?_ | refine bxe rfl rfl rfl rfl ?_ | refine eqn rfl rfl ?_ | refine eqb rfl rfl rfl ?_ | refine neb rfl rfl rfl ?_ | refine sx rfl rfl rfl rfl (by assumption) ?_ | refine ssl rfl rfl rfl (by omega) ?_ | refine ssh rfl rfl rfl (by omega) ?_)
      refine AWP.ret (rets (resCW rfl (St.obj_set _ _ _) rfl rfl rfl rfl) (.refl _) (StLe.new ho6 (.refl _)) ⟨?_, ?_⟩)
      · rw [e]; rfl
      · rw [e]; rfl
    · have h2' : ¬ ((rest.drop n).head?.map isNP).getD false = true := fun e => h2 (Int.ofNat_lt.2 ((tw_pos isNP _).2 e))
      have e : numR rest n line = .ok ⟨2, line, [], digits (rest.take n)⟩ := by rw [numR, if_neg (by omega), if_neg h2']
      rw [e]
      refine AWP.weaken (tl4 (i0 := 0) (i1 := 1) (i2 := 2) (i3 := 6) rfl rfl rfl rfl) (.refl _) ?_
      repeat (first | refine nl ?_ | refine AWP.seq ?_ | refine AWP.skip ?_ | refine AWP.block ?_)
      refine rg ?_
      refine sm rfl ?_
      refine sm rfl ?_
      refine fa rfl rfl ?_
      refine lc rfl rfl (hos _ _) rfl rfl ?_
      repeat (first | refine nl ?_ | refine AWP.seq ?_ | refine rg ?_ | refine AWP.skip ?_ | refine AWP.block ?_ | refine sm rfl ?_ | refine uw rfl ?_ | refine fa rfl rfl ?_ | refine leW rfl rfl rfl rfl rfl ?_ | refine leW rfl rfl rfl (by assumption) rfl ?_ | refine lcW rfl rfl rfl (St.obj_set _ _ _) rfl rfl ?_ | refine le rfl rfl rfl rfl ?_ | refine le rfl rfl (by assumption) rfl ?_ | refine lnv rfl rfl ?_ | refine lnm rfl rfl ?_ | refine lns rfl rfl ?_ | refine ix rfl rfl rfl rfl (by assumption) ?_ | refine ixm rfl rfl rfl rfl (by assumption) ?_ | refine lc rfl rfl (St.obj_set _ _ _) rfl rfl ?_ | refine lc rfl rfl (St.obj_set _ _ _) (by assumption) rfl ?_ | refine lc rfl rfl (by assumption) rfl rfl ?_ | refine lc rfl rfl (by assumption) (by assumption) rfl ?_ | refine inc rfl rfl rfl (by omega) ?_ | refine adn rfl rfl rfl (by omega) ?_ | refine bs1 rfl rfl rfl rfl rfl rfl ?_ | refine bxe rfl rfl rfl rfl ?_ | refine eqn rfl rfl ?_ | refine eqb rfl rfl rfl ?_ | refine neb rfl rfl rfl ?_ | refine sx rfl rfl rfl rfl (by assumption) ?_ | refine ssl rfl rfl rfl (by omega) ?_ | refine ssh rfl rfl rfl (by omega) ?_)
      refine so (rows' := [scanRow s (pos + n) line om]) rfl rfl rfl (hos _ _) rfl rfl rfl rfl rfl ?_
      rw [St.set_inner hne]
      repeat (first | refine nl ?_ | refine AWP.seq ?_ | refine rg ?_ | refine AWP.skip ?_ | refine AWP.block ?_ | refine sm rfl ?_ | refine uw rfl ?_ | refine fa rfl rfl ?_ | refine leW rfl rfl rfl rfl rfl ?_ | refine leW rfl rfl rfl (by assumption) rfl ?_ | refine lcW rfl rfl rfl (St.obj_set _ _ _) rfl rfl ?_ | refine le rfl rfl rfl rfl ?_ | refine le rfl rfl (by assumption) rfl ?_ | refine lnv rfl rfl ?_ | refine lnm rfl rfl ?_ | refine lns rfl rfl ?_ | refine ix rfl rfl rfl rfl (by assumption) ?_ | refine ixm rfl rfl rfl rfl (by assumption) ?_ | refine lc rfl rfl (St.obj_set _ _ _) rfl rfl ?_ | refine lc rfl rfl (St.obj_set _ _ _) (by assumption) rfl ?_ | refine lc rfl rfl (by assumption) rfl rfl ?_ | refine lc rfl rfl (by assumption) (by assumption) rfl ?_ | refine inc rfl rfl rfl (by omega) ?_ | refine adn rfl rfl rfl (by omega) ?_ | refine bs1 rfl rfl rfl rfl rfl rfl ?_ | refine bxe rfl rfl rfl rfl ?_ | refine eqn rfl rfl ?_ | refine eqb rfl rfl rfl ?_ | refine neb rfl rfl rfl ?_ | refine sx rfl rfl rfl rfl (by assumption) ?_ | refine ssl rfl rfl rfl (by omega) ?_ | refine ssh rfl rfl rfl (by omega) ?_)
      refine rgs rfl rfl fun oi hoi => ?_
      repeat (first | refine nl ?_ | refine AWP.seq ?_ | refine rg ?_ | refine AWP.skip ?_ | refine AWP.block ?_ | refine sm rfl ?_ | refine uw rfl ?_ | refine fa rfl rfl ?_ | refine leW rfl rfl rfl rfl rfl ?_ | refine leW rfl rfl rfl (by assumption) rfl ?_ | refine lcW rfl rfl rfl (St.obj_set _ _ _) rfl rfl ?_ | refine le rfl rfl rfl rfl ?_ | refine le rfl rfl (by assumption) rfl ?_ | refine lnv rfl rfl ?_ | refine lnm rfl rfl ?_ | refine lns rfl rfl ?_ | refine ix rfl rfl rfl rfl (by assumption) ?_ | refine ixm rfl rfl rfl rfl (by assumption) ?_ | refine lc rfl rfl (St.obj_set _ _ _) rfl rfl ?_ | refine lc rfl rfl (St.obj_set _ _ _) (by assumption) rfl ?_ | refine lc rfl rfl (by assumption) rfl rfl ?_ | refine lc rfl rfl (by assumption) (by assumption) rfl ?_ | refine inc rfl rfl rfl (by omega) ?_ | refine adn rfl rfl rfl (by omega) ?_ | refine bs1 rfl rfl rfl rfl rfl rfl ?_ | refine bxe rfl rfl rfl rfl ?_ | refine eqn rfl rfl ?_ | refine eqb rfl rfl rfl ?_ | refine neb rfl rfl rfl ?_ | refine sx rfl rfl rfl rfl (by assumption) ?_ | refine ssl rfl rfl rfl (by omega) ?_ | refine ssh rfl rfl rfl (by omega) ?_)
      have hds : (rest.take n).length = n := by rw [List.length_take]; omega
      have hneo := St.new_ne hoi
      refine AWP.loop (α := Nat) (fun j => [(31, .iter oi), (8, .int .i64 ((digits ((rest.take n).take j) : Nat) : Int)), (0, .cptr os 4 0 0), (6, .cptr o6 4 0 0)])
        (fun j => ((st.set os (.cells 52 4 [scanRow s (pos + n) line om])).set o6 (.cells 36 4 [tokRow zTk])).set oi (.iter (rest.take n) j)) (fun j => j ≤ n) (fun j => n - j) 0 (Nat.zero_le _) (tl4 rfl rfl rfl rfl) (.refl _) ?_
      intro j hj
      repeat (first | refine nl ?_ | refine AWP.seq ?_ | refine AWP.skip ?_ | refine AWP.block ?_)
      refine rg ?_
      rcases Nat.lt_or_ge j n with hlt | hge
      · have hc : (rest.take n)[j]? = some (rest.take n)[j] := List.getElem?_eq_getElem (by omega)
        have hdc := hd _ (List.getElem_mem (show j < (rest.take n).length by omega))
        have hsn : digits ((rest.take n).take (j + 1)) = digits ((rest.take n).take j) * 10 + ((rest.take n)[j].toNat - 48) := by
          rw [List.take_add_one, hc, Option.toList_some, digits_snoc]
        have hb : digits ((rest.take n).take j) < 10 ^ j := digits_lt j _ (by rw [List.length_take, hds]; omega) fun c hc => hd c (List.mem_of_mem_take hc)
        have hb2 : 10 ^ j ≤ 10 ^ 17 := Nat.pow_le_pow_right (by omega) (by omega)
        generalize (rest.take n)[j] = c at hc hdc hsn
        simp only [isDig, Bool.and_eq_true, decide_eq_true_eq] at hdc
        refine nxu rfl rfl (St.obj_set _ _ _) hc fun r w hch => ?_
        obtain ⟨rfl, rfl⟩ := hch.low (by omega)
        rw [St.set_set]
        repeat (first | refine nl ?_ | refine AWP.seq ?_ | refine rg ?_ | refine AWP.skip ?_ | refine AWP.block ?_ | refine sm rfl ?_ | refine uw rfl ?_ | refine fa rfl rfl ?_ | refine leW rfl rfl rfl rfl rfl ?_ | refine leW rfl rfl rfl (by assumption) rfl ?_ | refine lcW rfl rfl rfl (St.obj_set _ _ _) rfl rfl ?_ | refine le rfl rfl rfl rfl ?_ | refine le rfl rfl (by assumption) rfl ?_ | refine lnv rfl rfl ?_ | refine lnm rfl rfl ?_ | refine lns rfl rfl ?_ | refine ix rfl rfl rfl rfl (by assumption) ?_ | refine ixm rfl rfl rfl rfl (by assumption) ?_ | refine lc rfl rfl (St.obj_set _ _ _) rfl rfl ?_ | refine lc rfl rfl (St.obj_set _ _ _) (by assumption) rfl ?_ | refine lc rfl rfl (by assumption) rfl rfl ?_ | refine lc rfl rfl (by assumption) (by assumption) rfl ?_ | refine inc rfl rfl rfl (by omega) ?_ | refine adn rfl rfl rfl (by omega) ?_ | refine bs1 rfl rfl rfl rfl rfl rfl ?_ | refine bxe rfl rfl rfl rfl ?_ | refine eqn rfl rfl ?_ | refine eqb rfl rfl rfl ?_ | refine neb rfl rfl rfl ?_ | refine sx rfl rfl rfl rfl (by assumption) ?_ | refine ssl rfl rfl rfl (by omega) ?_ | refine ssh rfl rfl rfl (by omega) ?_)
        refine AWP.cond_true rfl (AWP.skip ?_)
        repeat (first | refine nl ?_ | refine AWP.seq ?_ | refine rg ?_ | refine AWP.skip ?_ | refine AWP.block ?_ | refine sm rfl ?_ | refine uw rfl ?_ | refine fa rfl rfl ?_ | refine leW rfl rfl rfl rfl rfl ?_ | refine leW rfl rfl rfl (by assumption) rfl ?_ | refine lcW rfl rfl rfl (St.obj_set _ _ _) rfl rfl ?_ | refine le rfl rfl rfl rfl ?_ | refine le rfl rfl (by assumption) rfl ?_ | refine lnv rfl rfl ?_ | refine lnm rfl rfl ?_ | refine lns rfl rfl ?_ | refine ix rfl rfl rfl rfl (by assumption) ?_ | refine ixm rfl rfl rfl rfl (by assumption) ?_ | refine lc rfl rfl (St.obj_set _ _ _) rfl rfl ?_ | refine lc rfl rfl (St.obj_set _ _ _) (by assumption) rfl ?_ | refine lc rfl rfl (by assumption) rfl rfl ?_ | refine lc rfl rfl (by assumption) (by assumption) rfl ?_ | refine inc rfl rfl rfl (by omega) ?_ | refine adn rfl rfl rfl (by omega) ?_ | refine bs1 rfl rfl rfl rfl rfl rfl ?_ | refine bxe rfl rfl rfl rfl ?_ | refine eqn rfl rfl ?_ | refine eqb rfl rfl rfl ?_ | refine neb rfl rfl rfl ?_ | refine sx rfl rfl rfl rfl (by assumption) ?_ | refine ssl rfl rfl rfl (by omega) ?_ | refine ssh rfl rfl rfl (by omega) ?_)
        generalize digits ((rest.take n).take j) = v at hsn hb
        have hb3 : v < 10 ^ 17 := by omega
        refine mlk (c := ((v * 10 : Nat) : Int)) rfl rfl rfl (by rw [wrap64 (by omega)]; omega) ?_
        repeat (first | refine nl ?_ | refine AWP.seq ?_ | refine rg ?_ | refine AWP.skip ?_ | refine AWP.block ?_ | refine sm rfl ?_ | refine uw rfl ?_ | refine fa rfl rfl ?_ | refine leW rfl rfl rfl rfl rfl ?_ | refine leW rfl rfl rfl (by assumption) rfl ?_ | refine lcW rfl rfl rfl (St.obj_set _ _ _) rfl rfl ?_ | refine le rfl rfl rfl rfl ?_ | refine le rfl rfl (by assumption) rfl ?_ | refine lnv rfl rfl ?_ | refine lnm rfl rfl ?_ | refine lns rfl rfl ?_ | refine ix rfl rfl rfl rfl (by assumption) ?_ | refine ixm rfl rfl rfl rfl (by assumption) ?_ | refine lc rfl rfl (St.obj_set _ _ _) rfl rfl ?_ | refine lc rfl rfl (St.obj_set _ _ _) (by assumption) rfl ?_ | refine lc rfl rfl (by assumption) rfl rfl ?_ | refine lc rfl rfl (by assumption) (by assumption) rfl ?_ | refine inc rfl rfl rfl (by omega) ?_ | refine adn rfl rfl rfl (by omega) ?_ | refine bs1 rfl rfl rfl rfl rfl rfl ?_ | refine bxe rfl rfl rfl rfl ?_ | refine eqn rfl rfl ?_ | refine eqb rfl rfl rfl ?_ | refine neb rfl rfl rfl ?_ | refine sx rfl rfl rfl rfl (by assumption) ?_ | refine ssl rfl rfl rfl (by omega) ?_ | refine ssh rfl rfl rfl (by omega) ?_)
        refine sbk (c := ((c.toNat - 48 : Nat) : Int)) rfl rfl rfl (by rw [wrap32 (by omega)]; omega) ?_
        refine cv (c := ((c.toNat - 48 : Nat) : Int)) rfl rfl (wrap64 (by omega)) ?_
        repeat (first | refine nl ?_ | refine AWP.seq ?_ | refine rg ?_ | refine AWP.skip ?_ | refine AWP.block ?_ | refine sm rfl ?_ | refine uw rfl ?_ | refine fa rfl rfl ?_ | refine leW rfl rfl rfl rfl rfl ?_ | refine leW rfl rfl rfl (by assumption) rfl ?_ | refine lcW rfl rfl rfl (St.obj_set _ _ _) rfl rfl ?_ | refine le rfl rfl rfl rfl ?_ | refine le rfl rfl (by assumption) rfl ?_ | refine lnv rfl rfl ?_ | refine lnm rfl rfl ?_ | refine lns rfl rfl ?_ | refine ix rfl rfl rfl rfl (by assumption) ?_ | refine ixm rfl rfl rfl rfl (by assumption) ?_ | refine lc rfl rfl (St.obj_set _ _ _) rfl rfl ?_ | refine lc rfl rfl (St.obj_set _ _ _) (by assumption) rfl ?_ | refine lc rfl rfl (by assumption) rfl rfl ?_ | refine lc rfl rfl (by assumption) (by assumption) rfl ?_ | refine inc rfl rfl rfl (by omega) ?_ | refine adn rfl rfl rfl (by omega) ?_ | refine bs1 rfl rfl rfl rfl rfl rfl ?_ | refine bxe rfl rfl rfl rfl ?_ | refine eqn rfl rfl ?_ | refine eqb rfl rfl rfl ?_ | refine neb rfl rfl rfl ?_ | refine sx rfl rfl rfl rfl (by assumption) ?_ | refine ssl rfl rfl rfl (by omega) ?_ | refine ssh rfl rfl rfl (by omega) ?_)
        refine ⟨j + 1, hlt, by omega, ?_, .refl _⟩
        rw [hsn]
        exact (tl4 rfl rfl rfl rfl)
      · have hjn : j = n := by omega
        subst hjn
        refine nxe rfl rfl (St.obj_set _ _ _) (by omega) ?_
        repeat (first | refine nl ?_ | refine AWP.seq ?_ | refine rg ?_ | refine AWP.skip ?_ | refine AWP.block ?_ | refine sm rfl ?_ | refine uw rfl ?_ | refine fa rfl rfl ?_ | refine leW rfl rfl rfl rfl rfl ?_ | refine leW rfl rfl rfl (by assumption) rfl ?_ | refine lcW rfl rfl rfl (St.obj_set _ _ _) rfl rfl ?_ | refine le rfl rfl rfl rfl ?_ | refine le rfl rfl (by assumption) rfl ?_ | refine lnv rfl rfl ?_ | refine lnm rfl rfl ?_ | refine lns rfl rfl ?_ | refine ix rfl rfl rfl rfl (by assumption) ?_ | refine ixm rfl rfl rfl rfl (by assumption) ?_ | refine lc rfl rfl (St.obj_set _ _ _) rfl rfl ?_ | refine lc rfl rfl (St.obj_set _ _ _) (by assumption) rfl ?_ | refine lc rfl rfl (by assumption) rfl rfl ?_ | refine lc rfl rfl (by assumption) (by assumption) rfl ?_ | refine inc rfl rfl rfl (by omega) ?_ | refine adn rfl rfl rfl (by omega) ?_ | refine bs1 rfl rfl rfl rfl rfl rfl ?_ | refine bxe rfl rfl rfl rfl ?_ | refine eqn rfl rfl ?_ | refine eqb rfl rfl rfl ?_ | refine neb rfl rfl rfl ?_ | refine sx rfl rfl rfl rfl (by assumption) ?_ | refine ssl rfl rfl rfl (by omega) ?_ | refine ssh rfl rfl rfl (by omega) ?_)
        refine AWP.cond_false rfl (AWP.exit (blk_hit ?_))
        rw [show (rest.take j).take j = rest.take j from List.take_of_length_le (by omega)]
        refine AWP.weaken (T' := [(8, .int .i64 ((digits (rest.take j) : Nat) : Int)), (0, .cptr os 4 0 0), (6, .cptr o6 4 0 0)]) (tl3 rfl rfl rfl) (StLe.new hoi (.refl _)) ?_
        repeat (first | refine nl ?_ | refine AWP.seq ?_ | refine AWP.skip ?_ | refine AWP.block ?_)
        refine rg ?_
        refine sm rfl ?_
        refine sm rfl ?_
        refine fa rfl rfl ?_
        refine lc rfl rfl (hos _ _) rfl rfl ?_
        repeat (first | refine nl ?_ | refine AWP.seq ?_ | refine rg ?_ | refine AWP.skip ?_ | refine AWP.block ?_ | refine sm rfl ?_ | refine uw rfl ?_ | refine fa rfl rfl ?_ | refine leW rfl rfl rfl rfl rfl ?_ | refine leW rfl rfl rfl (by assumption) rfl ?_ | refine lcW rfl rfl rfl (St.obj_set _ _ _) rfl rfl ?_ | refine le rfl rfl rfl rfl ?_ | refine le rfl rfl (by assumption) rfl ?_ | refine lnv rfl rfl ?_ | refine lnm rfl rfl ?_ | refine lns rfl rfl ?_ | refine ix rfl rfl rfl rfl (by assumption) ?_ | refine ixm rfl rfl rfl rfl (by assumption) ?_ | refine lc rfl rfl (St.obj_set _ _ _) rfl rfl ?_ | refine lc rfl rfl (St.obj_set _ _ _) (by assumption) rfl ?_ | refine lc rfl rfl (by assumption) rfl rfl ?_ | refine lc rfl rfl (by assumption) (by assumption) rfl ?_ | refine inc rfl rfl rfl (by omega) ?_ | refine adn rfl rfl rfl (by omega) ?_ | refine bs1 rfl rfl rfl rfl rfl rfl ?_ | refine bxe rfl rfl rfl rfl ?_ | refine eqn rfl rfl ?_ | refine eqb rfl rfl rfl ?_ | refine neb rfl rfl rfl ?_ | refine sx rfl rfl rfl rfl (by assumption) ?_ | refine ssl rfl rfl rfl (by omega) ?_ | refine ssh rfl rfl rfl (by omega) ?_)
        refine bds (cs := tokRow ⟨2, line, [], digits (rest.take j)⟩) rfl rfl rfl rfl ?_
        refine soV rfl rfl rfl rfl rfl rfl ?_
        repeat (first | refine nl ?_ | refine AWP.seq ?_ | refine rg ?_ | refine AWP.skip ?_ | refine AWP.block ?_ | refine sm rfl ?_ | refine uw rfl ?_ | refine fa rfl rfl ?_ | refine leW rfl rfl rfl rfl rfl ?_ | refine leW rfl rfl rfl (by assumption) rfl ?_ | refine lcW rfl rfl rfl (St.obj_set _ _ _) rfl rfl ?_ | refine le rfl rfl rfl rfl ?_ | refine le rfl rfl (by assumption) rfl ?_ | refine lnv rfl rfl ?_ | refine lnm rfl rfl ?_ | refine lns rfl rfl ?_ | refine ix rfl rfl rfl rfl (by assumption) ?_ | refine ixm rfl rfl rfl rfl (by assumption) ?_ | refine lc rfl rfl (St.obj_set _ _ _) rfl rfl ?_ | refine lc rfl rfl (St.obj_set _ _ _) (by assumption) rfl ?_ | refine lc rfl rfl (by assumption) rfl rfl ?_ | refine lc rfl rfl (by assumption) (by assumption) rfl ?_ | refine inc rfl rfl rfl (by omega) ?_ | refine adn rfl rfl rfl (by omega) ?_ | refine bs1 rfl rfl rfl rfl rfl rfl ?_ | refine bxe rfl rfl rfl rfl ?_ | refine eqn rfl rfl ?_ | refine eqb rfl rfl rfl ?_ | refine neb rfl rfl rfl ?_ | refine sx rfl rfl rfl rfl (by assumption) ?_ | refine ssl rfl rfl rfl (by omega) ?_ | refine ssh rfl rfl rfl (by omega) ?_)
        refine AWP.ret (rets (resCW rfl (St.obj_set _ _ _) rfl rfl rfl rfl) (.refl _) (StLe.new (by rw [St.obj_set_ne hne]; exact hn6) (.refl _)) ⟨rfl, rfl⟩)
end Go.Proofs
