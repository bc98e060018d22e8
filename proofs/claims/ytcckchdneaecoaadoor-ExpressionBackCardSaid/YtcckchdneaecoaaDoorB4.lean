/- The reader of expressions: a sign that must come, what an expression begins with, operators. No conditions: definitions and lemmas only. -/
import Derived.Shelf.Strconv.Itoa3
import Derived.Test.YtcckchdneaecoaaDoorProg
import Derived.Lib.ItoaNum
import Derived.Test.YtcckchdneaecoaaDoorB3
namespace Go.Proofs
open Go.AM
attribute [local irreducible] AWP AOps ACalls AAny

theorem rexpect_err {X : List (List AV)} {a e o : Nat} {st : St} (ho : st.obj o = some (rdC X a e)) (he : e ≠ 0) (s : List UInt8) :
    ACalls Tryd.prog 52 [.cptr o 3 0 0, .str s] st (fun _ st' => st' = st) (fun _ _ => False) := by
  refine ACalls.ofBody Tryd.func52 rfl Tryd.ntmps52 rfl ?_
  unfold rdC at ho
  have he' : (e : Int) ≠ 0 := by omega
  repeat (first | refine nl ?_ | refine AWP.seq ?_ | refine rg ?_ | refine YH (z := ?_) | refine ZA (z := ?_) | refine ZC (z := ?_) | refine ZH (z := ?_))
  exact AWP.ret (rets rfl (.refl _) (.refl _) rfl)
theorem rexpect_ok {X : List (List AV)} {a o : Nat} {t : Tk} {st : St} (ho : st.obj o = some (rdC X a 0)) (ha : a < X.length) (hX : X[a]? = some (tokRow t)) (hl : X.length ≤ 100000) (s : List UInt8) :
    ACalls Tryd.prog 52 [.cptr o 3 0 0, .str s] st (fun _ st' => st' = st.set o (if sg t s = true then rdC X (a + 1) 0 else rdC X a 7)) (fun _ _ => False) := by
  refine ACalls.ofBody Tryd.func52 rfl Tryd.ntmps52 rfl ?_
  have ho' := ho
  unfold rdC at ho
  repeat (first | refine nl ?_ | refine AWP.seq ?_ | refine rg ?_ | refine AWP.skip ?_ | refine YI (z := ?_) | refine ZA (z := ?_) | refine ZC (z := ?_) | refine ZH (z := ?_))
  refine cle rfl rfl (ris_ok ho' ha hX hl s) ?_
  unfold sg
  by_cases h : t.kind = 4 ∧ t.text = s
  · rw [decide_eq_true h, if_pos rfl]
    repeat (first | refine nl ?_ | refine rg ?_ | refine AWP.skip ?_ | refine YI (z := ?_) | refine ZA (z := ?_) | refine ZC (z := ?_) | refine ZH (z := ?_) | refine ZO (z := ?_))
    refine so (rows' := [[.view 4 X .shared, .int .i64 ((a + 1 : Nat) : Int), .int .i64 0]]) rfl rfl rfl ho rfl rfl rfl rfl rfl ?_
    repeat (refine nl ?_)
    exact rets rfl (.refl _) (.refl _) rfl
  · rw [decide_eq_false h, if_neg (by decide)]
    repeat (first | refine nl ?_ | refine AWP.seq ?_ | refine rg ?_ | refine YH (z := ?_) | refine ZA (z := ?_) | refine ZC (z := ?_))
    refine so (rows' := [[.view 4 X .shared, .int .i64 (a : Int), .int .i64 7]]) rfl rfl rfl ho rfl rfl rfl rfl rfl ?_
    repeat (refine nl ?_)
    exact AWP.ret (rets rfl (.refl _) (.refl _) rfl)
theorem rbegins_ok {X : List (List AV)} {a e o : Nat} {t : Tk} {st : St} (ho : st.obj o = some (rdC X a e)) (ha : a < X.length) (hX : X[a]? = some (tokRow t)) (hl : X.length ≤ 100000) :
    ACalls Tryd.prog 49 [.cptr o 3 0 0] st (fun v st' => v = .bool (beg t) ∧ st' = st) (fun _ _ => False) := by
  refine ACalls.ofBody Tryd.func49 rfl Tryd.ntmps49 rfl ?_
  repeat (refine AWP.seq ?_)
  refine rg ?_
  repeat (refine ZA (z := ?_))
  repeat (first | refine nl ?_ | refine AWP.seq ?_)
  refine rg ?_
  repeat (refine ZA (z := ?_))
  refine cle rfl rfl (rtoken_ok ho ha hX hl) ?_
  repeat (first | refine nl ?_ | refine AWP.seq ?_ | refine rg ?_ | refine AWP.block ?_ | refine ZA (z := ?_) | refine ZC (z := ?_) | refine ZF (z := ?_) | refine YA (z := ?_))
  by_cases h1 : t.kind = 1
  · have hb : beg t = true := by unfold beg; rw [h1]; rfl
    rw [hb]
    have h1' : (t.kind : Int) = 1 := by omega
    repeat (first | refine nl ?_ | refine AWP.seq ?_ | refine rg ?_ | refine AWP.skip ?_ | refine YH (z := ?_) | refine ZA (z := ?_))
    exact AWP.ret (rets rfl (.refl _) (.refl _) ⟨rfl, rfl⟩)
  have h1' : ¬ (t.kind : Int) = 1 := by omega
  by_cases h2 : t.kind = 2
  · have hb : beg t = true := by unfold beg; rw [h2]; rfl
    rw [hb]
    have h2' : (t.kind : Int) = 2 := by omega
    repeat (first | refine nl ?_ | refine AWP.seq ?_ | refine rg ?_ | refine YH (z := ?_) | refine YI (z := ?_) | refine ZA (z := ?_))
    exact AWP.ret (rets rfl (.refl _) (.refl _) ⟨rfl, rfl⟩)
  have h2' : ¬ (t.kind : Int) = 2 := by omega
  by_cases h4 : t.kind = 4
  · have h4' : (t.kind : Int) = 4 := by omega
    have hb : beg t = (decide (t.text = [45]) || decide (t.text = [33]) || decide (t.text = [40])) := by
      unfold beg sg
      simp only [h4, true_and]
      rfl
    rw [hb]
    clear hb
    repeat (first | refine nl ?_ | refine AWP.seq ?_ | refine rg ?_ | refine YH (z := ?_) | refine YI (z := ?_) | refine ZA (z := ?_) | refine ZC (z := ?_) | refine ZF (z := ?_))
    by_cases k1 : t.text = [45]
    · rw [decide_eq_true k1, Bool.true_or, Bool.true_or]
      repeat (first | refine nl ?_ | refine ZA (z := ?_) | refine ZB (z := ?_))
      exact AWP.ret (rets rfl (.refl _) (.refl _) ⟨rfl, rfl⟩)
    rw [decide_eq_false k1, Bool.false_or]
    by_cases k2 : t.text = [33]
    · rw [decide_eq_true k2, Bool.true_or]
      repeat (first | refine nl ?_ | refine ZA (z := ?_) | refine ZB (z := ?_) | refine ZC (z := ?_) | refine ZF (z := ?_) | refine YD (z := ?_))
      exact AWP.ret (rets rfl (.refl _) (.refl _) ⟨rfl, rfl⟩)
    rw [decide_eq_false k2, Bool.false_or]
    repeat (first | refine nl ?_ | refine ZA (z := ?_) | refine ZC (z := ?_) | refine ZF (z := ?_) | refine YE (z := ?_))
    exact AWP.ret (rets rfl (.refl _) (.refl _) ⟨rfl, rfl⟩)
  · have h4' : ¬ (t.kind : Int) = 4 := by omega
    have hb : beg t = false := by
      unfold beg sg
      simp [h1, h2, h4]
    rw [hb]
    repeat (first | refine nl ?_ | refine AWP.seq ?_ | refine rg ?_ | refine AWP.skip ?_ | refine YI (z := ?_) | refine ZA (z := ?_))
    exact AWP.ret (rets rfl (.refl _) (.refl _) ⟨rfl, rfl⟩)
end Go.Proofs
/- The reader of expressions: operators of a level. No conditions: definitions and lemmas only. -/
namespace Go.Proofs
open Go.AM
attribute [local irreducible] AWP AOps ACalls AAny

/-- The table of operators: sign, operation, level. -/
def opL : List (List UInt8 × Nat × Nat) := [([60], 14, 1), ([60, 61], 15, 1), ([61, 61], 16, 1), ([33, 61], 17, 1), ([38], 11, 2), ([124], 12, 2), ([94], 13, 2), ([43], 6, 3), ([45], 7, 3), ([42], 8, 4), ([47], 9, 4), ([37], 10, 4)]
def opRow : List AV := [.str [60], .int .i64 14, .int .i64 1, .str [60, 61], .int .i64 15, .int .i64 1, .str [61, 61], .int .i64 16, .int .i64 1, .str [33, 61], .int .i64 17, .int .i64 1,
  .str [38], .int .i64 11, .int .i64 2, .str [124], .int .i64 12, .int .i64 2, .str [94], .int .i64 13, .int .i64 2, .str [43], .int .i64 6, .int .i64 3, .str [45], .int .i64 7, .int .i64 3, .str [42], .int .i64 8, .int .i64 4, .str [47], .int .i64 9, .int .i64 4, .str [37], .int .i64 10, .int .i64 4]
theorem opRow_at : ∀ m, m < 12 → ∃ s o l, opL[m]? = some (s, o, l) ∧ m * 3 + 3 ≤ opRow.length ∧ (opRow.drop (m * 3)).take 3 = [.str s, .int .i64 ((o : Nat) : Int), .int .i64 ((l : Nat) : Int)]
  | 0, _ => ⟨_, _, _, rfl, by decide, rfl⟩
  | 1, _ => ⟨_, _, _, rfl, by decide, rfl⟩
  | 2, _ => ⟨_, _, _, rfl, by decide, rfl⟩
  | 3, _ => ⟨_, _, _, rfl, by decide, rfl⟩
  | 4, _ => ⟨_, _, _, rfl, by decide, rfl⟩
  | 5, _ => ⟨_, _, _, rfl, by decide, rfl⟩
  | 6, _ => ⟨_, _, _, rfl, by decide, rfl⟩
  | 7, _ => ⟨_, _, _, rfl, by decide, rfl⟩
  | 8, _ => ⟨_, _, _, rfl, by decide, rfl⟩
  | 9, _ => ⟨_, _, _, rfl, by decide, rfl⟩
  | 10, _ => ⟨_, _, _, rfl, by decide, rfl⟩
  | 11, _ => ⟨_, _, _, rfl, by decide, rfl⟩
  | n + 12, h => absurd h (by omega)

theorem opL_bin (t : Tk) (lv : Nat) (h1 : 1 ≤ lv) (h4 : lv ≤ 4) : (opL.find? fun o => decide (o.2.2 = lv ∧ sg t o.1 = true)).map (fun o => o.2.1) = if (bin t).1 = lv then some (bin t).2 else none := by
  unfold bin opL binL sg
  by_cases hk : t.kind = 4
  · simp only [hk, true_and, decide_eq_true_eq]
    generalize t.text = x
    have hlv : lv = 1 ∨ lv = 2 ∨ lv = 3 ∨ lv = 4 := by omega
    by_cases h1 : x = [43]
    · subst h1; rcases hlv with rfl | rfl | rfl | rfl <;> decide
    by_cases h2 : x = [45]
    · subst h2; rcases hlv with rfl | rfl | rfl | rfl <;> decide
    by_cases h3 : x = [42]
    · subst h3; rcases hlv with rfl | rfl | rfl | rfl <;> decide
    by_cases h4 : x = [47]
    · subst h4; rcases hlv with rfl | rfl | rfl | rfl <;> decide
    by_cases h5 : x = [37]
    · subst h5; rcases hlv with rfl | rfl | rfl | rfl <;> decide
    by_cases h6 : x = [38]
    · subst h6; rcases hlv with rfl | rfl | rfl | rfl <;> decide
    by_cases h7 : x = [124]
    · subst h7; rcases hlv with rfl | rfl | rfl | rfl <;> decide
    by_cases h8 : x = [94]
    · subst h8; rcases hlv with rfl | rfl | rfl | rfl <;> decide
    by_cases h9 : x = [60]
    · subst h9; rcases hlv with rfl | rfl | rfl | rfl <;> decide
    by_cases h10 : x = [60, 61]
    · subst h10; rcases hlv with rfl | rfl | rfl | rfl <;> decide
    by_cases h11 : x = [61, 61]
    · subst h11; rcases hlv with rfl | rfl | rfl | rfl <;> decide
    by_cases h12 : x = [33, 61]
    · subst h12; rcases hlv with rfl | rfl | rfl | rfl <;> decide
    simp only [List.find?_cons, List.find?_nil, h1, h2, h3, h4, h5, h6, h7, h8, h9, h10, h11, h12, and_false, decide_false, Option.map_none, Option.getD_none]
    rw [if_neg (by omega)]
  · simp only [hk, false_and, decide_false, Bool.false_eq_true, and_false, List.find?_cons, List.find?_nil, Option.map_none, Option.getD_none]
    rw [if_neg (by omega)]

theorem find_at {α : Type} {p : α → Bool} : ∀ {l : List α} {m : Nat} {o : α}, l[m]? = some o → (∀ j x, j < m → l[j]? = some x → p x = false) → p o = true → l.find? p = some o
  | [], m, o, h, _, _ => by simp at h
  | x :: l, 0, o, h, _, hp => by
    simp at h
    subst h
    rw [List.find?_cons_of_pos hp]
  | x :: l, m + 1, o, h, hn, hp => by
    have h0 := hn 0 x (by omega) rfl
    rw [List.find?_cons_of_neg (by rw [h0]; decide)]
    exact find_at (by simpa using h) (fun j y hj hy => hn (j + 1) y (by omega) (by simpa using hy)) hp
theorem find_no {α : Type} {p : α → Bool} {l : List α} (hn : ∀ j x, j < l.length → l[j]? = some x → p x = false) : l.find? p = none := by
  rw [List.find?_eq_none]
  intro x hx
  obtain ⟨i, hi, rfl⟩ := List.getElem_of_mem hx
  rw [hn i _ hi (List.getElem?_eq_getElem hi)]
  decide

set_option maxHeartbeats 1000000 in
theorem roperator_ok {X : List (List AV)} {a e o : Nat} {t : Tk} {st : St} (ho : st.obj o = some (rdC X a e)) (ha : a < X.length) (hX : X[a]? = some (tokRow t)) (hl : X.length ≤ 100000) (lv : Nat) (hg : st.row 1 = some opRow) :
    ACalls Tryd.prog 34 [.cptr o 3 0 0, .int .i64 (lv : Int)] st (fun v st' => (v = match (opL.find? fun o => decide (o.2.2 = lv ∧ sg t o.1 = true)) with
      | some o => .tuple [.int .i64 (o.2.1 : Int), .bool true]
      | none => .tuple [.int .i64 0, .bool false]) ∧ st' = st) (fun _ _ => False) := by
  refine ACalls.ofBody Tryd.func34 rfl Tryd.ntmps34 rfl ?_
  repeat (refine AWP.seq ?_)
  refine rg ?_
  repeat (refine ZA (z := ?_))
  repeat (first | refine nl ?_ | refine AWP.seq ?_)
  refine rg ?_
  refine leW (row := opRow) (rows := [opRow]) (i := 0) (s := 36) rfl rfl (congrArg (Option.map fun row : List AV => AV.eptr row.length [row] 0 0) hg) rfl rfl ?_
  repeat (first | refine nl ?_ | refine AWP.block ?_ | refine ZA (z := ?_))
  refine AWP.loop (α := Nat) (fun i => [(9, .int .i64 (i : Int)), (8, .agg opRow), (1, .int .i64 (lv : Int)), (0, .cptr o 3 0 0)]) (fun _ => st) (fun i => i ≤ 12 ∧ ∀ j x, j < i → opL[j]? = some x → decide (x.2.2 = lv ∧ sg t x.1 = true) = false) (fun i => 12 - i) 0
    ⟨by omega, fun j x h => absurd h (by omega)⟩ (tl4 rfl rfl rfl rfl) (.refl _) ?_
  rintro i ⟨h1, h2⟩
  refine AWP.weaken (T' := [(9, .int .i64 (i : Int)), (8, .agg opRow), (1, .int .i64 (lv : Int)), (0, .cptr o 3 0 0)]) (tl4 rfl rfl rfl rfl) (.refl _) ?_
  by_cases hi : i < 12
  · obtain ⟨s, op, l, q1, q2, q3⟩ := opRow_at i hi
    repeat (refine AWP.seq ?_)
    refine rg ?_
    repeat (refine ZA (z := ?_))
    repeat (first | refine nl ?_ | refine AWP.seq ?_)
    refine cT rfl (decide_eq_true (by omega)) ?_
    repeat (first | refine AWP.seq ?_ | refine AWP.skip ?_ | refine AWP.block ?_)
    refine rg ?_
    refine ixgA (m := i) rfl rfl rfl rfl rfl hi q2 q3 ?_
    repeat (first | refine nl ?_ | refine AWP.seq ?_ | refine rg ?_ | refine ZA (z := ?_) | refine ZC (z := ?_) | refine ZF (z := ?_) | refine YA (z := ?_))
    by_cases hlv : (l : Int) = (lv : Int)
    · repeat (first | refine ZA (z := ?_) | refine ZC (z := ?_) | refine ZF (z := ?_) | refine YD (z := ?_))
      refine cle rfl rfl (ris_ok ho ha hX hl s) ?_
      repeat (first | refine nl ?_ | refine ZA (z := ?_))
      by_cases hs : t.kind = 4 ∧ t.text = s
      · repeat (first | refine nl ?_ | refine AWP.seq ?_ | refine rg ?_ | refine YH (z := ?_) | refine ZA (z := ?_) | refine ZC (z := ?_) | refine ZF (z := ?_))
        refine AWP.ret (rets rfl (.refl _) (.refl _) ⟨?_, rfl⟩)
        rw [find_at q1 h2 (by unfold sg; exact decide_eq_true ⟨by simp only; omega, decide_eq_true hs⟩)]
        rfl
      · repeat (first | refine nl ?_ | refine rg ?_ | refine AWP.skip ?_ | refine YI (z := ?_) | refine ZA (z := ?_) | refine ZO (z := ?_))
        refine ⟨i + 1, ⟨by omega, fun j x hj hx => ?_⟩, by omega, (tl4 rfl rfl rfl rfl), .refl _⟩
        rcases Nat.lt_or_ge j i with hji | hji
        · exact h2 j x hji hx
        · have : j = i := by omega
          subst this
          rw [q1] at hx
          cases hx
          refine decide_eq_false fun h => hs ?_
          have := h.2
          unfold sg at this
          exact of_decide_eq_true this
    · repeat (first | refine nl ?_ | refine rg ?_ | refine AWP.skip ?_ | refine YI (z := ?_) | refine ZA (z := ?_) | refine ZB (z := ?_) | refine ZO (z := ?_) | refine YE (z := ?_))
      refine ⟨i + 1, ⟨by omega, fun j x hj hx => ?_⟩, by omega, (tl4 rfl rfl rfl rfl), .refl _⟩
      rcases Nat.lt_or_ge j i with hji | hji
      · exact h2 j x hji hx
      · have : j = i := by omega
        subst this
        rw [q1] at hx
        cases hx
        exact decide_eq_false fun h => hlv (by have := h.1; simp only at this; omega)
  · repeat (refine AWP.seq ?_)
    refine rg ?_
    repeat (refine ZA (z := ?_))
    repeat (first | refine nl ?_ | refine AWP.seq ?_)
    refine cF rfl (decide_eq_false (by omega)) ?_
    refine AWP.exit (blk_hit ?_)
    repeat (first | refine nl ?_ | refine AWP.seq ?_ | refine rg ?_ | refine ZA (z := ?_))
    refine AWP.ret (rets rfl (.refl _) (.refl _) ⟨?_, rfl⟩)
    rw [find_no (fun j x hj hx => h2 j x (by have : j < 12 := hj; omega) hx)]
    rfl
end Go.Proofs
/- An expression's cells. No conditions: definitions and lemmas only. -/
namespace Go.Proofs
open Go.AM

/-- An expression's cells. -/
def exRow (op num : Int) (name field : List UInt8) (args : AV) : List AV := [.int .i64 op, .int .i64 num, .int .i64 0, .str name, .str field, args]
def nilV : AV := .view 0 [] .nil
def noE : AV := .view 6 [] .shared
theorem ex_nil (op num : Int) (name field : List UInt8) : Le (.agg (exRow op num name field nilV)) (.agg (exRow op num name field noE)) := by
  refine .agg _ _ rfl (fun c hc => by simp only [exRow, List.mem_cons, List.not_mem_nil, or_false] at hc; rcases hc with rfl | rfl | rfl | rfl | rfl | rfl <;> rfl) fun i a b h1 h2 => ?_
  match i, h1, h2 with
  | 0, h1, h2 => cases h1; cases h2; exact .refl _
  | 1, h1, h2 => cases h1; cases h2; exact .refl _
  | 2, h1, h2 => cases h1; cases h2; exact .refl _
  | 3, h1, h2 => cases h1; cases h2; exact .refl _
  | 4, h1, h2 => cases h1; cases h2; exact .refl _
  | 5, h1, h2 => cases h1; cases h2; exact .nilShared 0 6
  | n + 6, h1, _ => cases h1
end Go.Proofs
/- The reader of expressions: what its functions answer, one level below. No conditions: definitions and lemmas only. -/
namespace Go.Proofs
open Go.AM
attribute [local irreducible] AWP AOps ACalls AAny

/-- An expression's cells. -/
def xrow : Xp → List AV
  | .lit n => exRow 0 n [] [] noE
  | .var s => exRow 1 0 s [] noE
  | .fld s f => exRow 2 0 s f noE
  | .elt s a => exRow 3 0 s [] (.view 6 [xrow a] .shared)
  | .una op a => exRow op 0 [] [] (.view 6 [xrow a] .shared)
  | .bin op a b => exRow op 0 [] [] (.view 6 [xrow a, xrow b] .shared)
theorem xrow_ex (x : Xp) : ∃ (op num : Int) (name field : List UInt8) (args : List (List AV)), xrow x = exRow op num name field (.view 6 args .shared) := by
  cases x <;> exact ⟨_, _, _, _, _, rfl⟩

/-- Tokens whose last one alone is of kind 0. -/
structure RdH (ts : List Tk) : Prop where
  len : ts.length ≤ 100000
  last : ∀ i t, ts[i]? = some t → t.kind ≠ 0 → i + 1 < ts.length

/-- What a function of the reader answers. -/
def RdR (ts : List Tk) (o : Nat) (st : St) (r : PR) (v : AV) (st' : St) : Prop :=
  ∃ (x : Xp) (a' e : Nat), v = .agg (xrow x) ∧ a' < ts.length ∧ st' = st.set o (rdC (ts.map tokRow) a' e) ∧ ((e = 0 ∧ r = .ok (x, ts.drop a')) ∨ (e ≠ 0 ∧ r = .error e))
def OpnOk (ts : List Tk) (N : Nat) : Prop := ∀ (lv d a o : Nat) (st : St), 1 ≤ lv → lv ≤ 5 → d ≤ 8 → a < ts.length → ts.length - a ≤ N → st.obj o = some (rdC (ts.map tokRow) a 0) → st.row 1 = some opRow →
  ACalls Tryd.prog 20 [.cptr o 3 0 0, .int .i64 (lv : Int), .int .i64 (d : Int)] st (RdR ts o st (qe lv d (ts.drop a))) (fun _ _ => False)
def OpdOk (ts : List Tk) (N : Nat) : Prop := ∀ (d a o : Nat) (st : St), d ≤ 8 → a < ts.length → ts.length - a ≤ N → st.obj o = some (rdC (ts.map tokRow) a 0) → st.row 1 = some opRow →
  ACalls Tryd.prog 33 [.cptr o 3 0 0, .int .i64 (d : Int)] st (RdR ts o st (qo d (ts.drop a))) (fun _ _ => False)

theorem qo_deep (d : Nat) (ts : List Tk) (h : 8 < d) : qo d ts = .error (if beg (hd ts) then 5 else 7) := by
  unfold qo
  exact po_deep _ d ts h
theorem qe_deep (d : Nat) (ts : List Tk) (h : 8 < d) : qe 1 d ts = .error (if beg (hd ts) then 5 else 7) := by
  unfold qe
  have := pe_deep 4 (7 * ts.length + 1) 1 d ts (by omega) h
  exact this
theorem StLe.res {st : St} {o o' : Nat} {z r v : AObj} (h : st.obj o' = none) (hne : o ≠ o') : StLe (((st.set o' z).set o r).set o' v) (st.set o r) where
  obj := fun p c hp => by
    by_cases h1 : p = o
    · subst h1
      rw [St.obj_set] at hp
      rw [St.obj_set_ne hne, St.obj_set]
      exact hp
    · rw [St.obj_set_ne h1] at hp
      have h2 : p ≠ o' := fun e => by subst e; rw [h] at hp; cases hp
      rw [St.obj_set_ne h2, St.obj_set_ne h1, St.obj_set_ne h2]
      exact hp
  tok := fun _ h => h
  glob := rfl
theorem map_at {ts : List Tk} {a : Nat} (h : a < ts.length) : ∃ t, ts[a]? = some t ∧ (ts.map tokRow)[a]? = some (tokRow t) ∧ hd (ts.drop a) = t ∧ a < (ts.map tokRow).length ∧ (ts.drop a).tail = ts.drop (a + 1) := by
  refine ⟨ts[a], List.getElem?_eq_getElem h, ?_, ?_, by rw [List.length_map]; exact h, ?_⟩
  · rw [List.getElem?_map, List.getElem?_eq_getElem h]; rfl
  · rw [List.drop_eq_getElem_cons h]; rfl
  · rw [List.tail_drop]

theorem rnested_ok {ts : List Tk} (H : RdH ts) {N : Nat} (hO : OpnOk ts N) (hU : OpdOk ts N) (d a o : Nat) (st : St) (p : Bool) (hd8 : d ≤ 8) (ha : a < ts.length) (hN : ts.length - a ≤ N) (ho : st.obj o = some (rdC (ts.map tokRow) a 0)) (hg : st.row 1 = some opRow) :
    ACalls Tryd.prog 51 [.cptr o 3 0 0, .int .i64 (d : Int), .bool p] st (RdR ts o st (if p then qo (d + 1) (ts.drop a) else qe 1 (d + 1) (ts.drop a))) (fun _ _ => False) := by
  refine ACalls.ofBody Tryd.func51 rfl Tryd.ntmps51 rfl ?_
  obtain ⟨t, t1, t2, t3, t4, _⟩ := map_at ha
  have hl : (ts.map tokRow).length ≤ 100000 := by rw [List.length_map]; exact H.len
  repeat (refine AWP.seq ?_)
  refine rg ?_
  refine al rfl rfl fun o6 h6 => ?_
  have hne : o ≠ o6 := St.ne_of_new h6 ho
  have ho1 : ∀ c, (st.set o6 c).obj o = some (rdC (ts.map tokRow) a 0) := fun c => St.obj_new h6 ho
  by_cases h8 : 8 ≤ d
  · have e8 : d = 8 := by omega
    subst e8
    repeat (first | refine nl ?_ | refine AWP.seq ?_ | refine rg ?_ | refine YH (z := ?_) | refine ZA (z := ?_) | refine ZC (z := ?_))
    refine so (rows' := [[.view 4 (ts.map tokRow) .shared, .int .i64 (a : Int), .int .i64 7]]) rfl rfl rfl (ho1 _) rfl rfl rfl rfl rfl ?_
    repeat (first | refine nl ?_ | refine AWP.seq ?_ | refine rg ?_ | refine ZA (z := ?_))
    refine cle rfl rfl (rbegins_ok (e := 7) (St.obj_set _ _ _) t4 t2 hl) ?_
    have hr : (if p then qo 9 (ts.drop a) else qe 1 9 (ts.drop a)) = .error (if beg t then 5 else 7) := by
      rw [qo_deep 9 _ (by omega), qe_deep 9 _ (by omega), t3, ite_self]
    by_cases hb : beg t = true
    · rw [hb] at hr ⊢
      repeat (first | refine nl ?_ | refine rg ?_ | refine YH (z := ?_) | refine ZA (z := ?_) | refine ZC (z := ?_))
      refine so (rows' := [[.view 4 (ts.map tokRow) .shared, .int .i64 (a : Int), .int .i64 5]]) rfl rfl rfl (St.obj_set _ _ _) rfl rfl rfl rfl rfl ?_
      repeat (first | refine nl ?_ | refine AWP.seq ?_ | refine rg ?_)
      refine bds (cs := exRow 0 0 [] [] nilV) rfl rfl rfl rfl ?_
      rw [St.set_set]
      refine so (rows' := [exRow 0 0 [] [] nilV]) rfl rfl rfl (St.obj_under hne _ _) rfl rfl rfl rfl rfl ?_
      repeat (refine nl ?_)
      exact AWP.ret (rets (resCW rfl (St.obj_set _ _ _) rfl rfl rfl rfl) (ex_nil 0 0 [] []) (StLe.res h6 hne) ⟨.lit 0, a, 5, rfl, ha, rfl, .inr ⟨by decide, hr⟩⟩)
    · rw [Bool.not_eq_true] at hb
      rw [hb] at hr ⊢
      repeat (first | refine nl ?_ | refine AWP.seq ?_ | refine rg ?_ | refine AWP.skip ?_ | refine YI (z := ?_))
      refine bds (cs := exRow 0 0 [] [] nilV) rfl rfl rfl rfl ?_
      refine so (rows' := [exRow 0 0 [] [] nilV]) rfl rfl rfl (St.obj_under hne _ _) rfl rfl rfl rfl rfl ?_
      repeat (refine nl ?_)
      exact AWP.ret (rets (resCW rfl (St.obj_set _ _ _) rfl rfl rfl rfl) (ex_nil 0 0 [] []) (StLe.res h6 hne) ⟨.lit 0, a, 7, rfl, ha, rfl, .inr ⟨by decide, hr⟩⟩)
  · have hd1 : ((d : Int) + 1) = ((d + 1 : Nat) : Int) := by omega
    cases p with
    | true =>
      repeat (first | refine nl ?_ | refine AWP.seq ?_ | refine rg ?_ | refine AWP.skip ?_ | refine YH (z := ?_) | refine YI (z := ?_) | refine ZA (z := ?_) | refine ZO (z := ?_))
      refine cl rfl rfl (hU (d + 1) a o _ (by omega) ha hN (ho1 _) hg) fun v st' ⟨x, a', e, hv, ha', hst, hr⟩ => ?_
      subst hv
      subst hst
      obtain ⟨op, num, name, field, args, hx⟩ := xrow_ex x
      rw [hx]
      refine so (rows' := [exRow op num name field (.view 6 args .shared)]) rfl rfl rfl (St.obj_under hne _ _) rfl rfl rfl rfl rfl ?_
      repeat (refine nl ?_)
      exact AWP.ret (rets (resCW rfl (St.obj_set _ _ _) rfl rfl rfl rfl) (.refl _) (StLe.res h6 hne) ⟨x, a', e, by rw [hx]; rfl, ha', rfl, hr⟩)
    | false =>
      repeat (first | refine nl ?_ | refine AWP.seq ?_ | refine rg ?_ | refine AWP.skip ?_ | refine YI (z := ?_) | refine ZA (z := ?_) | refine ZO (z := ?_))
      refine cl rfl rfl (hO 1 (d + 1) a o _ (by omega) (by omega) (by omega) ha hN (ho1 _) hg) fun v st' ⟨x, a', e, hv, ha', hst, hr⟩ => ?_
      subst hv
      subst hst
      obtain ⟨op, num, name, field, args, hx⟩ := xrow_ex x
      rw [hx]
      refine so (rows' := [exRow op num name field (.view 6 args .shared)]) rfl rfl rfl (St.obj_under hne _ _) rfl rfl rfl rfl rfl ?_
      repeat (refine nl ?_)
      exact AWP.ret (rets (resCW rfl (St.obj_set _ _ _) rfl rfl rfl rfl) (.refl _) (StLe.res h6 hne) ⟨x, a', e, by rw [hx]; rfl, ha', rfl, hr⟩)
end Go.Proofs
/- Expressions of any kind, as cells; the reference's Same. No conditions: definitions and lemmas only. -/
namespace Go.Proofs
open Go.AM
attribute [local irreducible] AWP AOps ACalls AAny

/-- An expression, whatever it holds. -/
inductive XT where
  | mk (op num var : Int) (name field : List UInt8) (args : List XT)
def XT.op : XT → Int | .mk op _ _ _ _ _ => op
def XT.args : XT → List XT | .mk _ _ _ _ _ args => args
def XT.name : XT → List UInt8 | .mk _ _ _ name _ _ => name
def XT.field : XT → List UInt8 | .mk _ _ _ _ field _ => field
def xcs (op num var : Int) (name field : List UInt8) (args : AV) : List AV := [.int .i64 op, .int .i64 num, .int .i64 var, .str name, .str field, args]
mutual
def XT.row : XT → List AV
  | .mk op num var name field args => xcs op num var name field (.view 6 (xrows args) .shared)
def xrows : List XT → List (List AV)
  | [] => []
  | x :: r => x.row :: xrows r
end
theorem xrows_eq : ∀ l : List XT, xrows l = l.map XT.row
  | [] => rfl
  | x :: r => by rw [xrows, xrows_eq r, List.map_cons]
theorem XT.row_mk (op num var : Int) (name field : List UInt8) (args : List XT) : (XT.mk op num var name field args).row = xcs op num var name field (.view 6 (args.map XT.row) .shared) := by
  rw [XT.row, xrows_eq]
theorem XT.row_ex (x : XT) : ∃ (op num var : Int) (name field : List UInt8) (args : List XT), x = .mk op num var name field args ∧ x.row = xcs op num var name field (.view 6 (args.map XT.row) .shared) := by
  obtain ⟨op, num, var, name, field, args⟩ := x
  exact ⟨_, _, _, _, _, _, rfl, XT.row_mk _ _ _ _ _ _⟩
theorem XT.size_lt {op num var : Int} {name field : List UInt8} {args : List XT} {a : XT} (h : a ∈ args) : SizeOf.sizeOf a < SizeOf.sizeOf (XT.mk op num var name field args) := by
  have := List.sizeOf_lt_of_mem h
  simp only [XT.mk.sizeOf_spec]
  omega

/-- The parsed ones among them. -/
def toXT : Xp → XT
  | .lit n => .mk 0 n 0 [] [] []
  | .var s => .mk 1 0 0 s [] []
  | .fld s f => .mk 2 0 0 s f []
  | .elt s a => .mk 3 0 0 s [] [toXT a]
  | .una op a => .mk op 0 0 [] [] [toXT a]
  | .bin op a b => .mk op 0 0 [] [] [toXT a, toXT b]
theorem toXT_row : ∀ x : Xp, (toXT x).row = xrow x
  | .lit n => rfl
  | .var s => rfl
  | .fld s f => rfl
  | .elt s a => by
    have h := toXT_row a
    rw [toXT, XT.row_mk, xrow, List.map_cons, h]
    rfl
  | .una op a => by
    have h := toXT_row a
    rw [toXT, XT.row_mk, xrow, List.map_cons, h]
    rfl
  | .bin op a b => by
    have h := toXT_row a
    have k := toXT_row b
    rw [toXT, XT.row_mk, xrow, List.map_cons, List.map_cons, h, k]
    rfl
theorem toXT_inj : ∀ x y : Xp, Wop x → Wop y → toXT x = toXT y → x = y
  | .lit n, y, hx, hy, h => by
    cases y <;> simp only [toXT, XT.mk.injEq, Wop] at h hy
    · congr 1; omega
    all_goals omega
  | .var s, y, hx, hy, h => by
    cases y <;> simp only [toXT, XT.mk.injEq, Wop] at h hy
    case var => rw [h.2.2.2.1]
    all_goals omega
  | .fld s f, y, hx, hy, h => by
    cases y <;> simp only [toXT, XT.mk.injEq, Wop] at h hy
    case fld => rw [h.2.2.2.1, h.2.2.2.2.1]
    all_goals omega
  | .elt s a, y, hx, hy, h => by
    cases y <;> simp only [toXT, XT.mk.injEq, Wop, List.cons.injEq] at h hy hx
    case elt t b => rw [h.2.2.2.1, toXT_inj a b hx hy h.2.2.2.2.2.1]
    all_goals omega
  | .una o a, y, hx, hy, h => by
    cases y <;> simp only [toXT, XT.mk.injEq, Wop, List.cons.injEq] at h hy hx
    case una p b => rw [toXT_inj a b hx.2 hy.2 h.2.2.2.2.2.1]; congr 1; omega
    all_goals omega
  | .bin o a c, y, hx, hy, h => by
    cases y <;> simp only [toXT, XT.mk.injEq, Wop, List.cons.injEq] at h hy hx
    case bin p b d => rw [toXT_inj a b hx.2.2.1 hy.2.2.1 h.2.2.2.2.2.1, toXT_inj c d hx.2.2.2 hy.2.2.2 h.2.2.2.2.2.2.1]; congr 1; omega
    all_goals omega

theorem bool_of (p : Prop) : ∃ b : Bool, b = true ↔ p := by
  by_cases h : p
  · exact ⟨true, fun _ => h, fun _ => rfl⟩
  · exact ⟨false, fun k => (by cases k), fun k => absurd k h⟩
theorem bool_no {p : Prop} {b : Bool} (hb : b = true ↔ p) (h : ¬ p) : b = false := by
  cases b with
  | true => exact absurd (hb.1 rfl) h
  | false => rfl

theorem toXT_args (p : Xp) : (toXT p).args.length ≤ 2 ∧ ∀ a ∈ (toXT p).args, ∃ q, a = toXT q := by
  cases p <;> refine ⟨by simp [toXT, XT.args], fun a ha => ?_⟩ <;> simp only [toXT, XT.args, List.mem_cons, List.not_mem_nil, or_false] at ha
  · exact ⟨_, ha⟩
  · exact ⟨_, ha⟩
  · rcases ha with h | h
    · exact ⟨_, h⟩
    · exact ⟨_, h⟩

set_option maxHeartbeats 2000000 in
theorem same_step (N : Nat) (ih : ∀ (p : Xp) (y : XT), SizeOf.sizeOf (toXT p) < N → ∀ b : Bool, (b = true ↔ toXT p = y) → ∀ st, ACalls Tryd.prog 13 [.agg (toXT p).row, .agg y.row] st (fun v st' => v = .bool b ∧ st' = st) (fun _ _ => False)) (p : Xp) (x y : XT) (hp : x = toXT p) (hx : SizeOf.sizeOf x < N + 1) (bb : Bool) (hb : bb = true ↔ x = y) (st : St) :
    ACalls Tryd.prog 13 [.agg x.row, .agg y.row] st (fun v st' => v = .bool bb ∧ st' = st) (fun _ _ => False) := by
  refine ACalls.ofBody Tryd.func13 rfl Tryd.ntmps13 rfl ?_
  obtain ⟨op, num, var, name, field, args, ex, rx⟩ := x.row_ex
  obtain ⟨op2, num2, var2, name2, field2, args2, ey, ry⟩ := y.row_ex
  rw [rx, ry]
  have hpa := toXT_args p
  rw [← hp, ex] at hpa
  obtain ⟨hp2, hpa⟩ : args.length ≤ 2 ∧ ∀ a ∈ args, ∃ q, a = toXT q := hpa
  have hs : ∀ a ∈ args, SizeOf.sizeOf a < N := fun a ha => by
    have := XT.size_lt (op := op) (num := num) (var := var) (name := name) (field := field) ha
    rw [← ex] at this
    omega
  repeat (first | refine nl ?_ | refine AWP.seq ?_ | refine rg ?_ | refine ZA (z := ?_) | refine ZC (z := ?_) | refine ZF (z := ?_) | refine ZR (z := ?_))
  by_cases h1 : op = op2
  rotate_left
  · have hne : bb = false := bool_no hb fun h => h1 (by rw [ex, ey] at h; cases h; rfl)
    have k : op ≠ op2 := h1
    rw [hne]
    repeat (first | refine nl ?_ | refine AWP.seq ?_ | refine rg ?_ | refine YH (z := ?_) | refine ZA (z := ?_) | refine ZB (z := ?_) | refine YD (z := ?_))
    exact AWP.ret (rets rfl (.refl _) (.refl _) ⟨rfl, rfl⟩)
  have eh1 : ¬ (op ≠ op2) := fun k => k h1
  by_cases h2 : num = num2
  rotate_left
  · have hne : bb = false := bool_no hb fun h => h2 (by rw [ex, ey] at h; cases h; rfl)
    have k : num ≠ num2 := h2
    rw [hne]
    repeat (first | refine nl ?_ | refine AWP.seq ?_ | refine rg ?_ | refine YH (z := ?_) | refine ZA (z := ?_) | refine ZB (z := ?_) | refine ZC (z := ?_) | refine ZF (z := ?_) | refine YD (z := ?_) | refine YE (z := ?_))
    exact AWP.ret (rets rfl (.refl _) (.refl _) ⟨rfl, rfl⟩)
  have eh2 : ¬ (num ≠ num2) := fun k => k h2
  by_cases h3 : var = var2
  rotate_left
  · have hne : bb = false := bool_no hb fun h => h3 (by rw [ex, ey] at h; cases h; rfl)
    have k : var ≠ var2 := h3
    rw [hne]
    repeat (first | refine nl ?_ | refine AWP.seq ?_ | refine rg ?_ | refine YH (z := ?_) | refine ZA (z := ?_) | refine ZB (z := ?_) | refine ZC (z := ?_) | refine ZF (z := ?_) | refine YD (z := ?_) | refine YE (z := ?_))
    exact AWP.ret (rets rfl (.refl _) (.refl _) ⟨rfl, rfl⟩)
  have eh3 : ¬ (var ≠ var2) := fun k => k h3
  by_cases h4 : name = name2
  rotate_left
  · have hne : bb = false := bool_no hb fun h => h4 (by rw [ex, ey] at h; cases h; rfl)
    have k : name ≠ name2 := h4
    rw [hne]
    repeat (first | refine nl ?_ | refine AWP.seq ?_ | refine rg ?_ | refine YH (z := ?_) | refine ZA (z := ?_) | refine ZB (z := ?_) | refine ZC (z := ?_) | refine ZF (z := ?_) | refine YD (z := ?_) | refine YE (z := ?_))
    exact AWP.ret (rets rfl (.refl _) (.refl _) ⟨rfl, rfl⟩)
  have eh4 : ¬ (name ≠ name2) := fun k => k h4
  by_cases h5 : field = field2
  rotate_left
  · have hne : bb = false := bool_no hb fun h => h5 (by rw [ex, ey] at h; cases h; rfl)
    have k : field ≠ field2 := h5
    rw [hne]
    repeat (first | refine nl ?_ | refine AWP.seq ?_ | refine rg ?_ | refine YH (z := ?_) | refine ZA (z := ?_) | refine ZB (z := ?_) | refine ZC (z := ?_) | refine ZF (z := ?_) | refine YD (z := ?_) | refine YE (z := ?_))
    exact AWP.ret (rets rfl (.refl _) (.refl _) ⟨rfl, rfl⟩)
  have eh5 : ¬ (field ≠ field2) := fun k => k h5
  have l1 : (args.map XT.row).length = args.length := List.length_map ..
  have l2 : (args2.map XT.row).length = args2.length := List.length_map ..
  by_cases h6 : args.length = args2.length
  rotate_left
  · have hne : bb = false := bool_no hb fun h => h6 (by rw [ex, ey] at h; cases h; rfl)
    rw [hne]
    repeat (first | refine nl ?_ | refine AWP.seq ?_ | refine rg ?_ | refine YH (z := ?_) | refine ZA (z := ?_) | refine ZC (z := ?_) | refine ZF (z := ?_) | refine ZJ (z := ?_) | refine YE (z := ?_))
    rw [l1, l2]
    have k : (args.length : Int) ≠ (args2.length : Int) := by omega
    skip
    exact AWP.ret (rets rfl (.refl _) (.refl _) ⟨rfl, rfl⟩)
  repeat (first | refine nl ?_ | refine AWP.seq ?_ | refine rg ?_ | refine AWP.skip ?_ | refine AWP.block ?_ | refine YI (z := ?_) | refine ZA (z := ?_) | refine ZC (z := ?_) | refine ZF (z := ?_) | refine ZJ (z := ?_) | refine YE (z := ?_))
  rw [l1, l2]
  have k : ¬ (args.length : Int) ≠ (args2.length : Int) := by omega
  skip
  subst h1 h2 h3 h4 h5
  refine AWP.loop (α := Nat) (fun i => [(5, .int .i64 (i : Int)), (3, .eptr 6 [xcs op num var name field (.view 6 (args2.map XT.row) .shared)] 0 0), (2, .eptr 6 [xcs op num var name field (.view 6 (args.map XT.row) .shared)] 0 0)]) (fun _ => st) (fun i => i ≤ args.length ∧ ∀ j a b, j < i → args[j]? = some a → args2[j]? = some b → a = b) (fun i => args.length - i) 0
    ⟨Nat.zero_le _, fun j _ _ h => absurd h (by omega)⟩ (tl3 rfl rfl rfl) (.refl _) ?_
  rintro i ⟨q1, q2⟩
  refine AWP.weaken (T' := [(5, .int .i64 (i : Int)), (3, .eptr 6 [xcs op num var name field (.view 6 (args2.map XT.row) .shared)] 0 0), (2, .eptr 6 [xcs op num var name field (.view 6 (args.map XT.row) .shared)] 0 0)]) (tl3 rfl rfl rfl) (.refl _) ?_
  repeat (first | refine nl ?_ | refine AWP.seq ?_ | refine rg ?_ | refine ZA (z := ?_) | refine ZC (z := ?_) | refine ZF (z := ?_) | refine ZJ (z := ?_))
  rw [l1]
  by_cases hi : i < args.length
  · have hi2 : i < args2.length := by omega
    have hi' : i < (args.map XT.row).length := by omega
    have hi2' : i < (args2.map XT.row).length := by omega
    have g1 : args[i]? = some args[i] := List.getElem?_eq_getElem hi
    have g2 : args2[i]? = some args2[i] := List.getElem?_eq_getElem hi2
    have ha := hs _ (List.getElem_mem hi)
    obtain ⟨q, hq⟩ := hpa _ (List.getElem_mem hi)
    generalize args[i] = a at g1 ha hq
    subst hq
    generalize args2[i] = b at g2
    have r1 : (args.map XT.row)[i]? = some (toXT q).row := by rw [List.getElem?_map, g1]; rfl
    have r2 : (args2.map XT.row)[i]? = some b.row := by rw [List.getElem?_map, g2]; rfl
    have z1 : (toXT q).row.length = 6 := by obtain ⟨_, _, _, _, _, _, _, r⟩ := (toXT q).row_ex; rw [r]; rfl
    have z2 : b.row.length = 6 := by obtain ⟨_, _, _, _, _, _, _, r⟩ := b.row_ex; rw [r]; rfl
    repeat (first | refine AWP.seq ?_ | refine AWP.skip ?_ | refine AWP.block ?_ | refine YH (z := ?_))
    refine AWP.draw rfl 11 11 (fun _ _ => False) rfl ?_
    repeat (first | refine ds rfl rfl ?_ | refine dp (h := fun _ _ => ZF (z := nz)) (z := ?_) | refine dp (h := fun _ _ => ZC (z := nz)) (z := ?_) | refine dp (h := fun _ _ => ZM (z := nz)) (z := ?_))
    refine dq rfl rfl rfl (fun st1 hle => leW rfl rfl rfl r1 (by rw [z1]; rfl) (nl ⟨_, rfl, rfl, rfl⟩)) ?_
    repeat (first | refine ds rfl rfl ?_ | refine dp (h := fun _ _ => ZF (z := nz)) (z := ?_) | refine dp (h := fun _ _ => ZC (z := nz)) (z := ?_) | refine dp (h := fun _ _ => ZM (z := nz)) (z := ?_))
    refine dq rfl rfl rfl (fun st1 hle => leW rfl rfl rfl r2 (by rw [z2]; rfl) (nl ⟨_, rfl, rfl, rfl⟩)) ?_
    obtain ⟨b', hb'⟩ := bool_of (toXT q = b)
    refine dq rfl rfl rfl (fun st1 hle => cle rfl rfl (ih q b ha b' hb' st1) (nl ⟨_, rfl, rfl, rfl⟩)) ?_
    refine dn ⟨fun _ => ?_, fun h => absurd h (by decide)⟩
    by_cases hab : toXT q = b
    · rw [hb'.2 hab]
      repeat (first | refine nl ?_ | refine rg ?_ | refine AWP.skip ?_ | refine YI (z := ?_) | refine ZA (z := ?_) | refine ZO (z := ?_))
      refine ⟨i + 1, ⟨hi, fun j c d hj hc hd => ?_⟩, by omega, (tl3 rfl rfl rfl), .refl _⟩
      rcases Nat.lt_or_ge j i with hji | hji
      · exact q2 j c d hji hc hd
      · have : j = i := by omega
        subst this
        rw [g1] at hc
        rw [g2] at hd
        cases hc
        cases hd
        exact hab
    · rw [bool_no hb' hab]
      have hne : bb = false := bool_no hb fun h => hab (by
        rw [ex, ey] at h
        cases h
        rw [g1] at g2
        exact Option.some.inj g2)
      rw [hne]
      repeat (first | refine nl ?_ | refine AWP.seq ?_ | refine rg ?_ | refine YH (z := ?_) | refine ZA (z := ?_))
      exact AWP.ret (rets rfl (.refl _) (.refl _) ⟨rfl, rfl⟩)
  · repeat (refine YI (z := ?_))
    refine AWP.exit (blk_hit ?_)
    repeat (first | refine nl ?_ | refine AWP.seq ?_ | refine rg ?_ | refine ZA (z := ?_))
    refine AWP.ret (rets rfl (.refl _) (.refl _) ⟨?_, rfl⟩)
    rw [hb.2]
    · rfl
    · rw [ex, ey]
      congr 1
      apply List.ext_getElem? 
      intro j
      rcases Nat.lt_or_ge j args.length with hj | hj
      · rw [List.getElem?_eq_getElem hj, List.getElem?_eq_getElem (by omega : j < args2.length)]
        exact congrArg some (q2 j _ _ (by omega) (List.getElem?_eq_getElem hj) (List.getElem?_eq_getElem (by omega)))
      · rw [List.getElem?_eq_none hj, List.getElem?_eq_none (by omega)]
theorem same_ok (p : Xp) (y : XT) (b : Bool) (hb : b = true ↔ toXT p = y) (st : St) : ACalls Tryd.prog 13 [.agg (toXT p).row, .agg y.row] st (fun v st' => v = .bool b ∧ st' = st) (fun _ _ => False) := by
  have h : ∀ N (p : Xp) (y : XT), SizeOf.sizeOf (toXT p) < N → ∀ b : Bool, (b = true ↔ toXT p = y) → ∀ st, ACalls Tryd.prog 13 [.agg (toXT p).row, .agg y.row] st (fun v st' => v = .bool b ∧ st' = st) (fun _ _ => False) := by
    intro N
    induction N with
    | zero => intro p y h; omega
    | succ N ih => intro p y h b hb st; exact same_step N ih p _ y rfl h b hb st
  exact h _ p y (Nat.lt_succ_self _) b hb st
/-- Same, of expressions that were parsed. -/
theorem same_xp (p q : Xp) (b : Bool) (hb : b = true ↔ toXT p = toXT q) (st : St) : ACalls Tryd.prog 13 [.agg (xrow p), .agg (xrow q)] st (fun v st' => v = .bool b ∧ st' = st) (fun _ _ => False) := by
  have h := same_ok p (toXT q) b hb st
  rw [toXT_row, toXT_row] at h
  exact h
end Go.Proofs
/- The lexer in plain Lean: texts joined, lines shifted. No program in sight. -/
namespace Go.Proofs

/-- The tokens before the end or the error, the line there, the error. -/
def lx : Nat → List UInt8 → Nat → List Tk × Nat × Nat
  | 0, _, _ => ([], 0, 0)
  | _ + 1, [], line => ([], line, 0)
  | k + 1, c :: r, line => match one (c :: r) line with
    | .error e => ([], line, e)
    | .ok (t, m) => (t :: (lx k (skip false ((c :: r).drop m) line).1 (skip false ((c :: r).drop m) line).2).1, (lx k (skip false ((c :: r).drop m) line).1 (skip false ((c :: r).drop m) line).2).2)

theorem lx_err {k : Nat} {s : List UInt8} {line e : Nat} (hs : s ≠ []) (h : one s line = .error e) : lx (k + 1) s line = ([], line, e) := by
  cases s with
  | nil => exact absurd rfl hs
  | cons c r => rw [lx, h]
theorem lx_ok {k : Nat} {s : List UInt8} {line m : Nat} {t : Tk} (hs : s ≠ []) (h : one s line = .ok (t, m)) :
    lx (k + 1) s line = (t :: (lx k (skip false (s.drop m) line).1 (skip false (s.drop m) line).2).1, (lx k (skip false (s.drop m) line).1 (skip false (s.drop m) line).2).2) := by
  cases s with
  | nil => exact absurd rfl hs
  | cons c r => rw [lx, h]

theorem rest_lt {s : List UInt8} {line m : Nat} {t : Tk} (h : one s line = .ok (t, m)) (l : Nat) : (skip false (s.drop m) l).1.length < s.length := by
  obtain ⟨h1, h2, _⟩ := one_ok h
  have := (skip_le false (s.drop m) l).1
  rw [List.length_drop] at this
  omega

/-- Fuel enough is fuel enough. -/
theorem lx_fuel : ∀ (n : Nat) (s : List UInt8) (line k k' : Nat), s.length ≤ n → s.length < k → s.length < k' → lx k s line = lx k' s line
  | n, [], line, k + 1, k' + 1, _, _, _ => rfl
  | n + 1, c :: r, line, k + 1, k' + 1, hn, hk, hk' => by
    cases ho : one (c :: r) line with
    | error e => rw [lx_err (by simp) ho, lx_err (by simp) ho]
    | ok p =>
      obtain ⟨t, m⟩ := p
      have := rest_lt ho line
      rw [lx_ok (by simp) ho, lx_ok (by simp) ho, lx_fuel n _ _ k k' (by omega) (by omega) (by omega)]

def lex (s : List UInt8) (line : Nat) : List Tk × Nat × Nat := lx (s.length + 1) (skip false s line).1 (skip false s line).2

theorem skip_len (s : List UInt8) (line : Nat) : (skip false s line).1.length ≤ s.length := (skip_le false s line).1

theorem lex_fuel (s : List UInt8) (line k : Nat) (hk : (skip false s line).1.length < k) : lx k (skip false s line).1 (skip false s line).2 = lex s line := by
  have := skip_len s line
  exact lx_fuel _ _ _ _ _ (Nat.le_refl _) hk (by omega)

theorem lx_ok' {k : Nat} {s : List UInt8} {line m : Nat} {t : Tk} (hs : s ≠ []) (hk : s.length < k + 1) (h : one s line = .ok (t, m)) : lx (k + 1) s line = (t :: (lex (s.drop m) line).1, (lex (s.drop m) line).2) := by
  have := rest_lt h line
  rw [lx_ok hs h, lex_fuel _ _ _ (by omega)]

/-- What scanL answers, out of lx, where the limit is not met. -/
def fin (out : List Tk) (r : List Tk × Nat × Nat) : List Tk × Nat × Nat := if r.2.2 = 0 then (out ++ r.1 ++ [⟨0, r.2.1, [], 0⟩], 0, 0) else ([], r.2.1, r.2.2)

theorem scanL_lx : ∀ (k : Nat) (s : List UInt8) (line : Nat) (out : List Tk), s.length < k → out.length + (lx k s line).1.length ≤ 2000 → scanL k s line out = fin out (lx k s line)
  | k + 1, [], line, out, _, _ => by simp [scanL, lx, fin]
  | k + 1, c :: r, line, out, hk, hl => by
    cases ho : one (c :: r) line with
    | error e =>
      have he := one_err ho
      rw [lx_err (by simp) ho, scanL, ho]
      unfold fin
      rw [if_neg (by simp only; omega)]
    | ok p =>
      obtain ⟨t, m⟩ := p
      have h1 := rest_lt ho line
      rw [lx_ok (by simp) ho] at hl ⊢
      simp only [List.length_cons] at hl
      rw [scanL, ho]
      simp only
      rw [if_neg (by omega), scanL_lx k _ _ _ (by simp only [List.length_cons] at hk h1; omega) (by simp only [List.length_append, List.length_cons, List.length_nil]; omega)]
      unfold fin
      simp only [List.append_assoc, List.cons_append, List.nil_append]

theorem skip_cons (cm : Bool) (c : UInt8) (r : List UInt8) (l : Nat) : skip cm (c :: r) l = if c = 10 then skip false r (l + 1) else bif cm then skip true r l else if c = 32 ∨ c = 9 ∨ c = 13 then skip false r l else if c = 47 ∧ r.head? = some 47 then skip true r l else (c :: r, l) := rfl

end Go.Proofs
/- The walks of the reference lexer's small functions. No conditions: lemmas only. -/
namespace Go.Proofs
open Go.AM

theorem rdigit_ok (r : Nat) (st : St) : ACalls Tryd.prog 55 [.int .u8 (r : Int)] st (fun v st' => v = .bool (digA r) ∧ st' = st) (fun _ _ => False) := by
  refine ACalls.ofBody Tryd.func55 rfl Tryd.ntmps55 rfl ?_
  repeat (first | refine nl ?_ | refine AWP.seq ?_ | refine rg ?_ | refine sm rfl ?_)
  refine AOps.split 5 rfl (fun h => ?_) (fun h => ?_)
  · have h' : 48 ≤ r := by have : (48 : Int) ≤ (r : Int) := h; omega
    repeat (first | refine nl ?_ | refine sm rfl ?_)
    refine AWP.ret (rets rfl (.refl _) (.refl _) ⟨?_, rfl⟩)
    simp only [packA, digA, h', decide_true, Bool.true_and]
    congr 1
    exact decide_eq_decide.2 (by omega)
  · have h' : ¬ 48 ≤ r := by have : ¬ (48 : Int) ≤ (r : Int) := h; omega
    repeat (first | refine nl ?_ | refine sm rfl ?_ | refine uw rfl ?_)
    refine AWP.ret (rets rfl (.refl _) (.refl _) ⟨?_, rfl⟩)
    simp [packA, digA, h', absV, abs1]

theorem rletter_ok (r : Nat) (st : St) : ACalls Tryd.prog 54 [.int .u8 (r : Int)] st (fun v st' => v = .bool (letA r) ∧ st' = st) (fun _ _ => False) := by
  refine ACalls.ofBody Tryd.func54 rfl Tryd.ntmps54 rfl ?_
  have fin : ∀ {b : Bool}, b = letA r → AV.bool b = .bool (letA r) := fun h => by rw [h]
  have e95 : (decide ((r : Int) = 95)) = decide (r = 95) := decide_eq_decide.2 (by omega)
  repeat (first | refine nl ?_ | refine AWP.seq ?_ | refine rg ?_ | refine sm rfl ?_)
  refine AOps.split 5 rfl (fun h => ?_) (fun h => ?_)
  · have h' : 97 ≤ r := by have : (97 : Int) ≤ (r : Int) := h; omega
    repeat (refine sm rfl ?_)
    refine AOps.split 9 rfl (fun h2 => ?_) (fun h2 => ?_)
    · have h2' : r ≤ 122 := by have : (r : Int) ≤ 122 := h2; omega
      repeat (first | refine nl ?_ | refine sm rfl ?_ | refine uw rfl ?_)
      exact AWP.ret (rets rfl (.refl _) (.refl _) ⟨fin (by simp [letA, h', h2']), rfl⟩)
    · have h2' : ¬ r ≤ 122 := by have : ¬ (r : Int) ≤ 122 := h2; omega
      repeat (refine sm rfl ?_)
      refine AOps.split 12 rfl (fun h3 => ?_) (fun h3 => absurd (show (65 : Int) ≤ (r : Int) by omega) h3)
      repeat (refine sm rfl ?_)
      refine AOps.split 17 rfl (fun h4 => absurd (show (r : Int) ≤ 90 from h4) (by omega)) (fun h4 => ?_)
      repeat (first | refine nl ?_ | refine sm rfl ?_)
      refine AWP.ret (rets rfl (.refl _) (.refl _) ⟨fin ?_, rfl⟩)
      rw [e95]
      simp [letA, h2', show ¬ r ≤ 90 by omega]
  · have h' : ¬ 97 ≤ r := by have : ¬ (97 : Int) ≤ (r : Int) := h; omega
    repeat (first | refine sm rfl ?_ | refine uw rfl ?_)
    refine AOps.split 12 rfl (fun h3 => ?_) (fun h3 => ?_)
    · have h3' : 65 ≤ r := by have : (65 : Int) ≤ (r : Int) := h3; omega
      repeat (refine sm rfl ?_)
      refine AOps.split 17 rfl (fun h4 => ?_) (fun h4 => ?_)
      · have h4' : r ≤ 90 := by have : (r : Int) ≤ 90 := h4; omega
        repeat (first | refine nl ?_ | refine sm rfl ?_ | refine uw rfl ?_)
        exact AWP.ret (rets rfl (.refl _) (.refl _) ⟨fin (by simp [letA, h3', h4']), rfl⟩)
      · have h4' : ¬ r ≤ 90 := by have : ¬ (r : Int) ≤ 90 := h4; omega
        repeat (first | refine nl ?_ | refine sm rfl ?_)
        refine AWP.ret (rets rfl (.refl _) (.refl _) ⟨fin ?_, rfl⟩)
        rw [e95]
        simp [letA, h', h4']
    · have h3' : ¬ 65 ≤ r := by have : ¬ (65 : Int) ≤ (r : Int) := h3; omega
      repeat (first | refine nl ?_ | refine sm rfl ?_ | refine uw rfl ?_)
      refine AWP.ret (rets rfl (.refl _) (.refl _) ⟨fin ?_, rfl⟩)
      rw [e95]
      simp [letA, h', h3']

theorem words_chunk : chunk 1 12 (words.map AV.str) = words.map fun w => [.str w] := rfl

theorem rres_ok (s : List UInt8) (st : St) : ACalls Tryd.prog 56 [.str s] st (fun v st' => v = .bool (decide (s ∈ words)) ∧ st' = st) (fun _ _ => False) := by
  refine ACalls.ofBody Tryd.func56 rfl Tryd.ntmps56 rfl ?_
  repeat (first | refine nl ?_ | refine AWP.seq ?_ | refine rg ?_ | refine sm rfl ?_)
  refine bs (cs := words.map .str) rfl rfl rfl rfl rfl fun tk _ => ?_
  refine AOps.weaken (.refl _) (StLe.addTok _ (.refl _)) ?_
  rw [words_chunk]
  obtain ⟨X, hX⟩ : ∃ X, X = words.map fun w => [AV.str w] := ⟨_, rfl⟩
  have hl : X.length = 12 := by rw [hX]; rfl
  have hx : ∀ i (h : i < 12), ∃ w, words[i]? = some w ∧ X[i]? = some [.str w] := fun i h => ⟨words[i]'h, List.getElem?_eq_getElem h, by rw [hX, List.getElem?_map, List.getElem?_eq_getElem h]; rfl⟩
  rw [← hX]
  repeat (first | refine nl ?_ | refine AWP.block ?_ | refine sm rfl ?_ | refine lnv rfl rfl ?_)
  refine AWP.loop (α := Nat) (fun i => [(7, .int .i64 (i : Int)), (6, .int .i64 (X.length : Int)), (5, .view 1 X (.own tk 9)), (0, .str s)]) (fun _ => st) (fun i => i ≤ 12 ∧ ∀ j w, j < i → words[j]? = some w → w ≠ s) (fun i => 12 - i) 0 ⟨Nat.zero_le _, fun j w h => by omega⟩ (tl4 rfl rfl rfl rfl) (.refl _) ?_
  rintro i ⟨hi, hall⟩
  repeat (first | refine nl ?_ | refine AWP.seq ?_ | refine rg ?_ | refine sm rfl ?_)
  refine AWP.cond_dec rfl (fun h => AWP.skip ?_) (fun h => AWP.exit (blk_hit ?_))
  · have hi' : i < X.length := by have : (i : Int) < (X.length : Int) := h; omega
    obtain ⟨w, hw, hr⟩ := hx i (by omega)
    repeat (first | refine nl ?_ | refine AWP.seq ?_ | refine rg ?_ | refine AWP.block ?_ | refine sm rfl ?_ | refine le rfl rfl (by assumption) rfl ?_ | refine ix rfl rfl rfl rfl (by assumption) ?_)
    refine AWP.cond_dec rfl (fun h => ?_) (fun hws => AWP.skip ?_)
    · have h' : w = s := h
      subst h'
      repeat (first | refine nl ?_ | refine AWP.seq ?_ | refine rg ?_ | refine sm rfl ?_)
      refine AWP.ret (rets rfl (.refl _) (.refl _) ⟨?_, rfl⟩)
      have : w ∈ words := List.mem_of_getElem? hw
      simp [packA, absV, abs1, this]
    · repeat (first | refine nl ?_ | refine rg ?_ | refine sm rfl ?_ | refine inc rfl rfl rfl (by omega) ?_)
      refine ⟨i + 1, ⟨by omega, fun j w' hj hw' => ?_⟩, by omega, (tl4 rfl rfl rfl rfl), .refl _⟩
      rcases Nat.lt_or_ge j i with h1 | h1
      · exact hall j w' h1 hw'
      · have : j = i := by omega
        subst this
        rw [hw] at hw'
        cases hw'
        exact hws
  · have hi' : i = 12 := by have : ¬ (i : Int) < (X.length : Int) := h; omega
    subst hi'
    repeat (first | refine nl ?_ | refine AWP.seq ?_ | refine rg ?_ | refine sm rfl ?_)
    refine AWP.ret (rets rfl (.refl _) (.refl _) ⟨?_, rfl⟩)
    have : ¬ s ∈ words := fun h => by
      obtain ⟨j, hj, he⟩ := List.getElem_of_mem h
      exact hall j s hj (by rw [List.getElem?_eq_getElem hj, he]) rfl
    simp [packA, absV, abs1, this]

theorem signs2_chunk : chunk 1 3 (signs2.map AV.str) = signs2.map fun w => [.str w] := rfl
theorem signs1_chunk : chunk 1 21 (signs1.map fun c => AV.int .u8 (c.toNat : Int)) = signs1.map fun c => [.int .u8 (c.toNat : Int)] := rfl

theorem rsign_ok (s : List UInt8) (hs : s.length ≤ 1000000) (at_ : Nat) (ha : at_ < s.length) (st : St) : ACalls Tryd.prog 57 [.str s, .int .i64 (at_ : Int)] st (fun v st' => v = .str (sign (s.drop at_)) ∧ st' = st) (fun _ _ => False) := by
  refine ACalls.ofBody Tryd.func57 rfl Tryd.ntmps57 rfl ?_
  have hd : s.drop at_ = s[at_] :: s.drop (at_ + 1) := List.drop_eq_getElem_cons ha
  have hc : s[at_]? = some s[at_] := List.getElem?_eq_getElem ha
  repeat (first | refine nl ?_ | refine AWP.seq ?_ | refine rg ?_ | refine sm rfl ?_ | refine lns rfl rfl ?_ | refine inc rfl rfl rfl (by omega) ?_)
  refine midp (¬ (s.drop at_).take 2 ∈ signs2) [(0, .str s), (1, .int .i64 (at_ : Int))] st ?_ fun hnm => ?_
  · refine AWP.cond_dec rfl (fun h => ?_) (fun h => AWP.skip ?_)
    · have h' : at_ + 1 < s.length := by have : ((at_ + 1 : Nat) : Int) < (s.length : Int) := h; omega
      repeat (first | refine AWP.seq ?_ | refine rg ?_)
      refine bs (cs := signs2.map .str) rfl rfl rfl rfl rfl fun tk _ => ?_
      refine AOps.weaken (.refl _) (StLe.addTok _ (.refl _)) ?_
      rw [signs2_chunk]
      obtain ⟨X, hX⟩ : ∃ X, X = signs2.map fun w => [AV.str w] := ⟨_, rfl⟩
      have hl : X.length = 3 := by rw [hX]; rfl
      have hx : ∀ i (h : i < 3), ∃ w, signs2[i]? = some w ∧ X[i]? = some [.str w] := fun i h => ⟨signs2[i]'h, List.getElem?_eq_getElem h, by rw [hX, List.getElem?_map, List.getElem?_eq_getElem h]; rfl⟩
      rw [← hX]
      repeat (first | refine nl ?_ | refine AWP.block ?_ | refine sm rfl ?_ | refine lnv rfl rfl ?_)
      refine AWP.loop (α := Nat) (fun i => [(16, .int .i64 (i : Int)), (15, .int .i64 (X.length : Int)), (14, .view 1 X (.own tk 9)), (1, .int .i64 (at_ : Int)), (0, .str s)]) (fun _ => st) (fun i => i ≤ 3 ∧ ∀ j w, j < i → signs2[j]? = some w → w ≠ (s.drop at_).take 2) (fun i => 3 - i) 0 ⟨Nat.zero_le _, fun j w h => by omega⟩ (tl5 rfl rfl rfl rfl rfl) (.refl _) ?_
      rintro i ⟨hi, hall⟩
      repeat (first | refine nl ?_ | refine AWP.seq ?_ | refine rg ?_ | refine sm rfl ?_)
      refine AWP.cond_dec rfl (fun h => AWP.skip ?_) (fun h => AWP.exit (blk_hit ?_))
      · have hi' : i < X.length := by have : (i : Int) < (X.length : Int) := h; omega
        obtain ⟨w, hw, hr⟩ := hx i (by omega)
        repeat (first | refine nl ?_ | refine AWP.seq ?_ | refine rg ?_ | refine AWP.block ?_ | refine sm rfl ?_ | refine le rfl rfl (by assumption) rfl ?_ | refine ix rfl rfl rfl rfl (by assumption) ?_)
        refine adn (b := 2) rfl rfl rfl (by omega) ?_
        refine ss2 rfl rfl rfl rfl (by omega) (by omega) ?_
        rw [show at_ + 2 - at_ = 2 by omega]
        repeat (first | refine nl ?_ | refine sm rfl ?_)
        refine AWP.cond_dec rfl (fun hws => ?_) (fun hws => AWP.skip ?_)
        · have hm : (s.drop at_).take 2 ∈ signs2 := by
            have h2 : (s.drop at_).take 2 = w := hws
            rw [h2]
            exact List.mem_of_getElem? hw
          repeat (first | refine nl ?_ | refine AWP.seq ?_ | refine rg ?_ | refine sm rfl ?_)
          refine AWP.ret (rets rfl (.refl _) (.refl _) ⟨?_, rfl⟩)
          have h2 : (s.drop at_).take 2 = w := hws
          unfold sign
          rw [if_pos hm, h2]
          rfl
        · repeat (first | refine nl ?_ | refine rg ?_ | refine sm rfl ?_ | refine inc rfl rfl rfl (by omega) ?_)
          refine ⟨i + 1, ⟨by omega, fun j w' hj hw' => ?_⟩, by omega, (tl5 rfl rfl rfl rfl rfl), .refl _⟩
          rcases Nat.lt_or_ge j i with h1 | h1
          · exact hall j w' h1 hw'
          · have : j = i := by omega
            subst this
            rw [hw] at hw'
            cases hw'
            exact fun e => hws e.symm
      · have hi' : i = 3 := by have : ¬ (i : Int) < (X.length : Int) := h; omega
        subst hi'
        refine ⟨tl2 rfl rfl, .refl _, fun hm => ?_⟩
        obtain ⟨j, hj, he⟩ := List.getElem_of_mem hm
        exact hall j _ hj (by rw [List.getElem?_eq_getElem hj, he]) rfl
    · have h' : ¬ at_ + 1 < s.length := by have : ¬ ((at_ + 1 : Nat) : Int) < (s.length : Int) := h; omega
      refine ⟨tl2 rfl rfl, .refl _, fun hm => ?_⟩
      have hl : ((s.drop at_).take 2).length = 1 := by rw [List.length_take, List.length_drop]; omega
      have h2 : ∀ w ∈ signs2, w.length = 2 := by decide
      have := h2 _ hm
      omega
  · repeat (first | refine AWP.seq ?_ | refine rg ?_)
    refine bs (cs := signs1.map fun c => AV.int .u8 (c.toNat : Int)) rfl rfl rfl rfl rfl fun tk htk => ?_
    rw [signs1_chunk]
    skip
    refine cvm rfl rfl (St.tok_addTok _ _) (by decide) ?_
    refine AOps.weaken (.refl _) (StLe.untok_add htk) ?_
    obtain ⟨X, hX⟩ : ∃ X, X = signs1.map fun c => [AV.int .u8 (c.toNat : Int)] := ⟨_, rfl⟩
    have hl : X.length = 21 := by rw [hX]; rfl
    have hx : ∀ i (h : i < 21), ∃ c, signs1[i]? = some c ∧ X[i]? = some [.int .u8 (c.toNat : Int)] := fun i h => ⟨signs1[i]'h, List.getElem?_eq_getElem h, by rw [hX, List.getElem?_map, List.getElem?_eq_getElem h]; rfl⟩
    rw [← hX]
    generalize s[at_] = c at hd hc
    repeat (first | refine nl ?_ | refine AWP.block ?_ | refine sm rfl ?_ | refine lnv rfl rfl ?_)
    refine AWP.loop (α := Nat) (fun i => [(32, .int .i64 (i : Int)), (31, .int .i64 (X.length : Int)), (30, .view 1 X .shared), (1, .int .i64 (at_ : Int)), (0, .str s)]) (fun _ => st) (fun i => i ≤ 21 ∧ ∀ j w, j < i → signs1[j]? = some w → w ≠ c) (fun i => 21 - i) 0 ⟨Nat.zero_le _, fun j w h => by omega⟩ (tl5 rfl rfl rfl rfl rfl) (.refl _) ?_
    rintro i ⟨hi, hall⟩
    repeat (first | refine nl ?_ | refine AWP.seq ?_ | refine rg ?_ | refine sm rfl ?_)
    refine AWP.cond_dec rfl (fun h => AWP.skip ?_) (fun h => AWP.exit (blk_hit ?_))
    · have hi' : i < X.length := by have : (i : Int) < (X.length : Int) := h; omega
      obtain ⟨w, hw, hr⟩ := hx i (by omega)
      repeat (first | refine nl ?_ | refine AWP.seq ?_ | refine rg ?_ | refine AWP.block ?_ | refine sm rfl ?_ | refine le rfl rfl (by assumption) rfl ?_ | refine ix rfl rfl rfl rfl (by assumption) ?_ | refine sx rfl rfl rfl rfl (by assumption) ?_)
      refine AWP.cond_dec rfl (fun hws => ?_) (fun hws => AWP.skip ?_)
      · have hcw : c = w := by
          have : (c.toNat : Int) = (w.toNat : Int) := hws
          exact UInt8.toNat_inj.1 (by omega)
        have hm : c ∈ signs1 := by
          rw [hcw]
          exact List.mem_of_getElem? hw
        repeat (first | refine AWP.seq ?_ | refine rg ?_ | refine sm rfl ?_ | refine inc rfl rfl rfl (by omega) ?_)
        refine ss2 rfl rfl rfl rfl (by omega) (by omega) ?_
        rw [show at_ + 1 - at_ = 1 by omega]
        repeat (first | refine nl ?_ | refine sm rfl ?_)
        refine AWP.ret (rets rfl (.refl _) (.refl _) ⟨?_, rfl⟩)
        unfold sign
        rw [if_neg hnm, hd]
        simp only [hm, if_true]
        rfl
      · repeat (first | refine nl ?_ | refine rg ?_ | refine sm rfl ?_ | refine inc rfl rfl rfl (by omega) ?_)
        refine ⟨i + 1, ⟨by omega, fun j w' hj hw' => ?_⟩, by omega, (tl5 rfl rfl rfl rfl rfl), .refl _⟩
        rcases Nat.lt_or_ge j i with h1 | h1
        · exact hall j w' h1 hw'
        · have : j = i := by omega
          subst this
          rw [hw] at hw'
          cases hw'
          rintro rfl
          exact hws rfl
    · have hi' : i = 21 := by have : ¬ (i : Int) < (X.length : Int) := h; omega
      subst hi'
      repeat (first | refine nl ?_ | refine AWP.seq ?_ | refine rg ?_ | refine sm rfl ?_)
      refine AWP.ret (rets rfl (.refl _) (.refl _) ⟨?_, rfl⟩)
      have hm : ¬ c ∈ signs1 := fun hm => by
        obtain ⟨j, hj, he⟩ := List.getElem_of_mem hm
        exact hall j _ hj (by rw [List.getElem?_eq_getElem hj, he]) rfl
      unfold sign
      rw [if_neg hnm, hd]
      simp only [hm, if_false]
      rfl
end Go.Proofs
/- The walk of the reference lexer's skip. No conditions: lemmas only. -/
namespace Go.Proofs
open Go.AM

/-- Where skip stands behind. -/
def skipAt (s : List UInt8) (p line : Nat) : Nat := s.length - (skip false (s.drop p) line).1.length

set_option maxHeartbeats 2000000 in
theorem rskip_ok (s : List UInt8) (hs : s.length ≤ 1000000) (p0 line0 : Nat) (hp0 : p0 ≤ s.length) (hl0 : line0 ≤ 1000000 + p0) (st : St) :
    ACalls Tryd.prog 35 [.str s, .int .i64 (p0 : Int), .int .i64 (line0 : Int)] st (fun v st' => v = .tuple [.int .i64 (skipAt s p0 line0 : Int), .int .i64 ((skip false (s.drop p0) line0).2 : Int)] ∧ st' = st) (fun _ _ => False) := by
  refine ACalls.ofBody Tryd.func35 rfl Tryd.ntmps35 rfl ?_
  repeat (first | refine nl ?_ | refine AWP.seq ?_ | refine rg ?_ | refine AWP.block ?_ | refine sm rfl ?_)
  refine AWP.loop (α := Nat × Nat) (fun x => [(2, .int .i64 (x.2 : Int)), (1, .int .i64 (x.1 : Int)), (0, .str s)]) (fun _ => st) (fun x => x.1 ≤ s.length ∧ x.2 ≤ 1000000 + x.1 ∧ skip false (s.drop x.1) x.2 = skip false (s.drop p0) line0) (fun x => s.length - x.1) (p0, line0) ⟨hp0, hl0, rfl⟩ (tl3 rfl rfl rfl) (.refl _) ?_
  rintro ⟨p, ln⟩ ⟨h1, h2, h3⟩
  simp only at h1 h2 h3
  refine AWP.weaken (T' := [(2, .int .i64 (ln : Int)), (1, .int .i64 (p : Int)), (0, .str s)]) (st' := st) (tl3 rfl rfl rfl) (.refl _) ?_
  repeat (first | refine nl ?_ | refine AWP.seq ?_ | refine rg ?_ | refine sm rfl ?_ | refine lns rfl rfl ?_)
  refine AWP.cond_dec rfl (fun h => AWP.skip ?_) (fun h => AWP.exit (blk_hit ?_))
  · have hp : p < s.length := by have : (p : Int) < (s.length : Int) := h; omega
    have hd : s.drop p = s[p] :: s.drop (p + 1) := List.drop_eq_getElem_cons hp
    have hc : s[p]? = some s[p] := List.getElem?_eq_getElem hp
    generalize s[p] = c at hd hc
    -- the way out
    have out : skip false (s.drop p) ln = (s.drop p, ln) → AV.tuple [.int .i64 (p : Int), .int .i64 (ln : Int)] = .tuple [.int .i64 (skipAt s p0 line0 : Int), .int .i64 ((skip false (s.drop p0) line0).2 : Int)] := by
      intro e
      unfold skipAt
      rw [← h3, e]
      simp only [List.length_drop]
      rw [show s.length - (s.length - p) = p by omega]
    by_cases h47 : c = 47
    · subst h47
      repeat (first | refine nl ?_ | refine AWP.seq ?_ | refine rg ?_ | refine AWP.block ?_ | refine sm rfl ?_ | refine lns rfl rfl ?_ | refine inc rfl rfl rfl (by omega) ?_ | refine sx rfl rfl rfl rfl (by assumption) ?_)
      refine AOps.split 25 rfl (fun h5 => ?_) (fun h5 => ?_)
      · have hp1 : p + 1 < s.length := by have : ((p + 1 : Nat) : Int) < (s.length : Int) := h5; omega
        have hd2 : s.drop (p + 1) = s[p + 1] :: s.drop (p + 1 + 1) := List.drop_eq_getElem_cons hp1
        have hc2 : s[p + 1]? = some s[p + 1] := List.getElem?_eq_getElem hp1
        generalize s[p + 1] = d at hd2 hc2
        repeat (first | refine nl ?_ | refine sm rfl ?_ | refine inc rfl rfl rfl (by omega) ?_ | refine sx rfl rfl rfl rfl (by assumption) ?_)
        refine AWP.cond_dec rfl (fun h6 => ?_) (fun h6 => AWP.skip ?_)
        · have hd47 : d = 47 := by
            have : (d.toNat : Int) = 47 := h6
            exact UInt8.toNat_inj.1 (by show d.toNat = 47; omega)
          subst hd47
          have ht : skip true (s.drop p) ln = skip false (s.drop p0) line0 := by
            rw [← h3, hd, hd2]
            rfl
          repeat (first | refine AWP.seq ?_ | refine AWP.block ?_)
          refine AWP.loop (α := Nat) (fun q => [(2, .int .i64 (ln : Int)), (1, .int .i64 (q : Int)), (0, .str s)]) (fun _ => st) (fun q => q ≤ s.length ∧ ln ≤ 1000000 + q ∧ skip true (s.drop q) ln = skip false (s.drop p0) line0 ∧ (q = p ∨ p < q)) (fun q => s.length - q) p ⟨h1, h2, ht, .inl rfl⟩ (tl3 rfl rfl rfl) (.refl _) ?_
          rintro q ⟨q1, q2, q3, q4⟩
          repeat (first | refine AWP.seq ?_ | refine rg ?_ | refine sm rfl ?_ | refine lns rfl rfl ?_)
          refine AOps.split 36 rfl (fun h7 => ?_) (fun h7 => ?_)
          · have hq : q < s.length := by have : (q : Int) < (s.length : Int) := h7; omega
            have hdq : s.drop q = s[q] :: s.drop (q + 1) := List.drop_eq_getElem_cons hq
            have hcq : s[q]? = some s[q] := List.getElem?_eq_getElem hq
            generalize s[q] = b at hdq hcq
            have hqp : b = 10 → p < q := by
              rintro rfl
              rcases q4 with rfl | h
              · rw [hd] at hdq
                cases hdq
              · exact h
            repeat (first | refine nl ?_ | refine sm rfl ?_ | refine sx rfl rfl rfl rfl (by assumption) ?_)
            refine AWP.cond_dec rfl (fun h8 => AWP.skip ?_) (fun h8 => AWP.exit (blk_hit ?_))
            · have hb : ¬ b = 10 := by
                rintro rfl
                exact h8 rfl
              repeat (first | refine nl ?_ | refine rg ?_ | refine AWP.block ?_ | refine sm rfl ?_ | refine inc rfl rfl rfl (by omega) ?_)
              refine ⟨q + 1, ⟨by omega, by omega, ?_, .inr (by omega)⟩, by omega, (tl3 rfl rfl rfl), .refl _⟩
              rw [← q3, hdq, skip_cons true b, if_neg hb]
              rfl
            · have hb : b = 10 := by
                have h9 : ¬ (b.toNat : Int) ≠ 10 := h8
                exact UInt8.toNat_inj.1 (by show b.toNat = 10; omega)
              have hlt := hqp hb
              subst hb
              skip
              refine AWP.exit ?_
              refine ⟨(q, ln), ⟨q1, q2, ?_⟩, by simp only; omega, (tl3 rfl rfl rfl), .refl _⟩
              simp only
              rw [← q3, hdq]
              rfl
          · have hq : q = s.length := by have : ¬ (q : Int) < (s.length : Int) := h7; omega
            subst hq
            repeat (first | refine nl ?_ | refine sm rfl ?_ | refine uw rfl ?_)
            refine AWP.cond_false rfl (AWP.exit (blk_hit ?_))
            refine AWP.exit ?_
            refine ⟨(s.length, ln), ⟨Nat.le_refl _, q2, ?_⟩, by simp only; omega, (tl3 rfl rfl rfl), .refl _⟩
            simp only
            rw [← q3, List.drop_length]
            rfl
        · have hd47 : ¬ d = 47 := by
            rintro rfl
            exact h6 rfl
          repeat (first | refine nl ?_ | refine AWP.seq ?_ | refine rg ?_ | refine sm rfl ?_)
          refine AWP.cond_true rfl ?_
          repeat (first | refine nl ?_ | refine AWP.seq ?_ | refine rg ?_ | refine sm rfl ?_)
          refine AWP.ret (rets rfl (.refl _) (.refl _) ⟨out ?_, rfl⟩)
          rw [hd, hd2, skip_cons, if_neg (by decide), if_neg (by decide), if_neg (by rintro ⟨_, h9⟩; exact hd47 (by simpa using h9))]
          rfl
      · have hp1 : s.drop (p + 1) = [] := List.drop_eq_nil_of_le (by have : ¬ ((p + 1 : Nat) : Int) < (s.length : Int) := h5; omega)
        repeat (first | refine nl ?_ | refine sm rfl ?_ | refine uw rfl ?_)
        refine AWP.cond_false rfl (AWP.skip ?_)
        repeat (first | refine nl ?_ | refine AWP.seq ?_ | refine rg ?_ | refine sm rfl ?_)
        refine AWP.cond_true rfl ?_
        repeat (first | refine nl ?_ | refine AWP.seq ?_ | refine rg ?_ | refine sm rfl ?_)
        refine AWP.ret (rets rfl (.refl _) (.refl _) ⟨out ?_, rfl⟩)
        rw [hd, hp1]
        rfl
    · repeat (first | refine nl ?_ | refine AWP.seq ?_ | refine rg ?_ | refine AWP.block ?_ | refine sm rfl ?_ | refine sx rfl rfl rfl rfl (by assumption) ?_)
      refine AOps.split 18 rfl (fun h5 => absurd (UInt8.toNat_inj.1 (show c.toNat = 47 by have : (c.toNat : Int) = 47 := h5; omega)) h47) (fun _ => ?_)
      repeat (first | refine nl ?_ | refine sm rfl ?_ | refine uw rfl ?_)
      refine AWP.cond_false rfl (AWP.skip ?_)
      by_cases hbl : c = 32 ∨ c = 9 ∨ c = 13
      · have hsk : skip false (s.drop (p + 1)) ln = skip false (s.drop p0) line0 := by
          rw [← h3, hd, skip_cons, if_neg (by rcases hbl with rfl | rfl | rfl <;> decide), cond_false, if_pos hbl]
        rcases hbl with rfl | rfl | rfl
        · repeat (first | refine nl ?_ | refine AWP.seq ?_ | refine rg ?_ | refine sm rfl ?_ | refine uw rfl ?_)
          refine AWP.cond_false rfl (AWP.skip ?_)
          repeat (first | refine nl ?_ | refine AWP.seq ?_ | refine rg ?_ | refine sm rfl ?_)
          refine AWP.cond_false rfl (AWP.skip ?_)
          repeat (first | refine nl ?_ | refine rg ?_ | refine sm rfl ?_ | refine inc rfl rfl rfl (by omega) ?_)
          exact ⟨(p + 1, ln), ⟨hp, by simp only; omega, hsk⟩, by simp only; omega, (tl3 rfl rfl rfl), .refl _⟩
        · repeat (first | refine nl ?_ | refine AWP.seq ?_ | refine rg ?_ | refine sm rfl ?_ | refine uw rfl ?_)
          refine AWP.cond_false rfl (AWP.skip ?_)
          repeat (first | refine nl ?_ | refine AWP.seq ?_ | refine rg ?_ | refine sm rfl ?_)
          refine AWP.cond_false rfl (AWP.skip ?_)
          repeat (first | refine nl ?_ | refine rg ?_ | refine sm rfl ?_ | refine inc rfl rfl rfl (by omega) ?_)
          exact ⟨(p + 1, ln), ⟨hp, by simp only; omega, hsk⟩, by simp only; omega, (tl3 rfl rfl rfl), .refl _⟩
        · repeat (first | refine nl ?_ | refine AWP.seq ?_ | refine rg ?_ | refine sm rfl ?_ | refine uw rfl ?_)
          refine AWP.cond_false rfl (AWP.skip ?_)
          repeat (first | refine nl ?_ | refine AWP.seq ?_ | refine rg ?_ | refine sm rfl ?_)
          refine AWP.cond_false rfl (AWP.skip ?_)
          repeat (first | refine nl ?_ | refine rg ?_ | refine sm rfl ?_ | refine inc rfl rfl rfl (by omega) ?_)
          exact ⟨(p + 1, ln), ⟨hp, by simp only; omega, hsk⟩, by simp only; omega, (tl3 rfl rfl rfl), .refl _⟩
      · by_cases h10 : c = 10
        · have hsk : skip false (s.drop (p + 1)) (ln + 1) = skip false (s.drop p0) line0 := by
            rw [← h3, hd, skip_cons, if_pos h10]
          subst h10
          repeat (first | refine nl ?_ | refine AWP.seq ?_ | refine rg ?_ | refine sm rfl ?_)
          refine AWP.cond_false rfl (AWP.skip ?_)
          repeat (first | refine nl ?_ | refine AWP.seq ?_ | refine rg ?_ | refine sm rfl ?_)
          refine AWP.cond_true rfl ?_
          repeat (first | refine nl ?_ | refine rg ?_ | refine sm rfl ?_ | refine inc rfl rfl rfl (by omega) ?_)
          exact ⟨(p + 1, ln + 1), ⟨hp, by simp only; omega, hsk⟩, by simp only; omega, (tl3 rfl rfl rfl), .refl _⟩
        · have n32 : ¬ (c.toNat : Int) = 32 := fun h => hbl (.inl (UInt8.toNat_inj.1 (show c.toNat = 32 by omega)))
          have n9 : ¬ (c.toNat : Int) = 9 := fun h => hbl (.inr (.inl (UInt8.toNat_inj.1 (show c.toNat = 9 by omega))))
          have n13 : ¬ (c.toNat : Int) = 13 := fun h => hbl (.inr (.inr (UInt8.toNat_inj.1 (show c.toNat = 13 by omega))))
          have n10 : ¬ (c.toNat : Int) = 10 := fun h => h10 (UInt8.toNat_inj.1 (show c.toNat = 10 by omega))
          repeat (first | refine AWP.seq ?_ | refine rg ?_ | refine sm rfl ?_)
          refine AOps.split 46 rfl (fun _ => ?_) (fun h => absurd n32 h)
          repeat (refine sm rfl ?_)
          refine AOps.split 50 rfl (fun _ => ?_) (fun h => absurd n9 h)
          repeat (refine sm rfl ?_)
          refine AOps.split 54 rfl (fun _ => ?_) (fun h => absurd n13 h)
          repeat (first | refine nl ?_ | refine sm rfl ?_)
          refine AWP.cond_dec rfl (fun _ => ?_) (fun h => absurd n10 h)
          repeat (first | refine nl ?_ | refine AWP.seq ?_ | refine rg ?_ | refine sm rfl ?_)
          refine AWP.ret (rets rfl (.refl _) (.refl _) ⟨out ?_, rfl⟩)
          rw [hd, skip_cons, if_neg h10, cond_false, if_neg hbl, if_neg (fun h => h47 h.1)]
  · have hp : p = s.length := by have : ¬ (p : Int) < (s.length : Int) := h; omega
    subst hp
    rw [List.drop_length] at h3
    repeat (first | refine nl ?_ | refine AWP.seq ?_ | refine rg ?_ | refine sm rfl ?_)
    refine AWP.ret (rets rfl (.refl _) (.refl _) ⟨?_, rfl⟩)
    unfold skipAt
    rw [← h3]
    rfl
end Go.Proofs
/- The walk of the reference lexer's one. No conditions: lemmas only. -/
namespace Go.Proofs
open Go.AM

theorem wrap8 {a : Int} (h : 0 ≤ a ∧ a < 256) : IntKind.u8.wrap a = a := by
  simp only [IntKind.wrap, IntKind.bits, IntKind.signed]
  simp
  omega

/-- What the reference's one answers. -/
def roneV (at_ : Nat) : Except Nat (Tk × Nat) → AV
  | .error e => .tuple [.agg (tokRow zTk), .int .i64 0, .int .i64 (e : Int)]
  | .ok (t, m) => .tuple [.agg (tokRow t), .int .i64 ((at_ + m : Nat) : Int), .int .i64 0]

set_option maxHeartbeats 8000000 in
theorem rone_ok (s : List UInt8) (hs : s.length ≤ 1000000) (at_ line : Nat) (hat : at_ < s.length) (st : St) :
    ACalls Tryd.prog 36 [.str s, .int .i64 (at_ : Int), .int .i64 (line : Int)] st (fun v st' => v = roneV at_ (one (s.drop at_) line) ∧ st' = st) (fun _ _ => False) := by
  refine ACalls.ofBody Tryd.func36 rfl Tryd.ntmps36 rfl ?_
  have hd : s.drop at_ = s[at_] :: s.drop (at_ + 1) := List.drop_eq_getElem_cons hat
  have hc : s[at_]? = some s[at_] := List.getElem?_eq_getElem hat
  have hone : one (s.drop at_) line = bif isLet s[at_] then (let nm := (s.drop at_).takeWhile isNP; if 12 < nm.length then .error 5 else .ok (⟨if nm ∈ words then 3 else 1, line, nm, 0⟩, nm.length))
    else bif isDig s[at_] then (let ds := (s.drop at_).takeWhile isDig; if 18 < ds.length then .error 5 else if (((s.drop at_).drop ds.length).head?.map isNP).getD false = true then .error 6 else .ok (⟨2, line, [], digits ds⟩, ds.length))
    else if sign (s.drop at_) = [] then .error 6 else .ok (⟨4, line, sign (s.drop at_), 0⟩, (sign (s.drop at_)).length) := by
    rw [hd]
    rfl
  have hll : ∀ c : UInt8, letA c.toNat = isLet c := fun _ => rfl
  have hdd : ∀ c : UInt8, digA c.toNat = isDig c := fun _ => rfl
  generalize s[at_] = c at hd hc hone
  repeat (refine AWP.seq ?_)
  refine rg ?_
  refine al rfl rfl fun o6 ho6 => ?_
  repeat (first | refine nl ?_ | refine AWP.seq ?_ | refine rg ?_ | refine sm rfl ?_ | refine sx rfl rfl rfl rfl (by assumption) ?_)
  refine cle rfl rfl (rletter_ok c.toNat _) ?_
  repeat (refine nl ?_)
  refine AWP.cond_bool rfl (fun hb => ?_) (fun hb => AWP.skip ?_)
  · have hcl : isLet c = true := hb
    rw [hcl, cond_true] at hone
    have hnle := (List.takeWhile_prefix isNP (l := s.drop at_)).length_le
    rw [List.length_drop] at hnle
    have hnt := fun p => tw_len (q := isNP) (l := s.drop at_) (p := p)
    have htk : (s.drop at_).take ((s.drop at_).takeWhile isNP).length = (s.drop at_).takeWhile isNP := (List.prefix_iff_eq_take.1 (List.takeWhile_prefix isNP)).symm
    generalize (s.drop at_).takeWhile isNP = nm at hone hnle hnt htk
    refine AWP.seq ?_
    refine midk [(9, .int .i64 (at_ : Int)), (6, .cptr o6 4 0 0), (2, .int .i64 (line : Int)), (1, .int .i64 ((at_ + nm.length : Nat) : Int)), (0, .str s)] (st.set o6 (.cells 51 4 [tokRow zTk])) ?_ ?_
    · repeat (refine AWP.block ?_)
      refine AWP.loop (α := Nat) (fun q => [(9, .int .i64 (at_ : Int)), (6, .cptr o6 4 0 0), (2, .int .i64 (line : Int)), (1, .int .i64 (q : Int)), (0, .str s)]) (fun _ => st.set o6 (.cells 51 4 [tokRow zTk]))
        (fun q => at_ ≤ q ∧ q ≤ s.length ∧ ∀ j, j < q - at_ → ∃ b, (s.drop at_)[j]? = some b ∧ isNP b = true) (fun q => s.length - q) at_ ⟨Nat.le_refl _, by omega, fun j h => by omega⟩ (tl5 rfl rfl rfl rfl rfl) (.refl _) ?_
      rintro q ⟨q1, q2, q3⟩
      repeat (first | refine AWP.seq ?_ | refine rg ?_ | refine sm rfl ?_ | refine lns rfl rfl ?_)
      refine AOps.split 22 rfl (fun h7 => ?_) (fun h7 => ?_)
      · have hq : q < s.length := by have : (q : Int) < (s.length : Int) := h7; omega
        have hcq : s[q]? = some s[q] := List.getElem?_eq_getElem hq
        have hcd : (s.drop at_)[q - at_]? = some s[q] := by rw [List.getElem?_drop, show at_ + (q - at_) = q by omega]; exact hcq
        generalize s[q] = b at hcq hcd
        have next : isNP b = true → ∀ j, j < q + 1 - at_ → ∃ b, (s.drop at_)[j]? = some b ∧ isNP b = true := by
          intro hb j hj
          rcases Nat.lt_or_ge j (q - at_) with h1 | h1
          · exact q3 j h1
          · have : j = q - at_ := by omega
            subst this
            exact ⟨b, hcd, hb⟩
        repeat (first | refine sm rfl ?_ | refine sx rfl rfl rfl rfl (by assumption) ?_)
        refine cle rfl rfl (rletter_ok b.toNat _) ?_
        repeat (refine sm rfl ?_)
        refine AOps.splitB 27 rfl (fun hl => ?_) (fun hl => ?_)
        · have hl' : isLet b = true := hl
          repeat (first | refine nl ?_ | refine sm rfl ?_ | refine uw rfl ?_)
          refine AWP.cond_true rfl (AWP.skip ?_)
          repeat (first | refine nl ?_ | refine rg ?_ | refine AWP.block ?_ | refine sm rfl ?_ | refine inc rfl rfl rfl (by omega) ?_)
          exact ⟨q + 1, ⟨by omega, by omega, next (by simp [isNP, hl'])⟩, by omega, (tl5 rfl rfl rfl rfl rfl), .refl _⟩
        · have hl' : isLet b = false := hl
          repeat (first | refine sm rfl ?_ | refine sx rfl rfl rfl rfl (by assumption) ?_)
          refine cle rfl rfl (rdigit_ok b.toNat _) ?_
          repeat (first | refine nl ?_ | refine sm rfl ?_)
          refine AWP.cond_bool rfl (fun hg => AWP.skip ?_) (fun hg => AWP.exit (blk_hit ?_))
          · have hg' : isDig b = true := hg
            repeat (first | refine nl ?_ | refine rg ?_ | refine AWP.block ?_ | refine sm rfl ?_ | refine inc rfl rfl rfl (by omega) ?_)
            exact ⟨q + 1, ⟨by omega, by omega, next (by simp [isNP, hg'])⟩, by omega, (tl5 rfl rfl rfl rfl rfl), .refl _⟩
          · have hg' : isDig b = false := (by simpa using hg : digA b.toNat = false)
            have := hnt (q - at_) q3 (.inl ⟨b, hcd, by simp [isNP, hl', hg']⟩) (by rw [List.length_drop]; omega)
            have hqe : q = at_ + nm.length := by omega
            subst hqe
            exact ⟨(tl5 rfl rfl rfl rfl rfl), .refl _⟩
      · have hq : q = s.length := by have : ¬ (q : Int) < (s.length : Int) := h7; omega
        have := hnt (q - at_) q3 (.inr (by rw [List.length_drop]; omega)) (by rw [List.length_drop]; omega)
        have hqe : q = at_ + nm.length := by omega
        subst hqe
        repeat (first | refine nl ?_ | refine sm rfl ?_ | refine uw rfl ?_)
        refine AWP.cond_false rfl (AWP.exit (blk_hit ?_))
        exact ⟨(tl5 rfl rfl rfl rfl rfl), .refl _⟩
    · repeat (first | refine AWP.seq ?_ | refine rg ?_ | refine sm rfl ?_)
      refine Go.AM.sb rfl rfl rfl (by omega) ?_
      rw [show ((at_ + nm.length : Nat) : Int) - (at_ : Int) = (nm.length : Int) by omega]
      repeat (first | refine nl ?_ | refine sm rfl ?_)
      refine AWP.cond_dec rfl (fun h2 => ?_) (fun h2 => AWP.skip ?_)
      · have h2' : 12 < nm.length := by have : (12 : Int) < (nm.length : Int) := h2; omega
        simp only [if_pos h2'] at hone
        rw [hone]
        repeat (refine AWP.seq ?_)
        refine rg ?_
        refine bds (cs := tokRow zTk) rfl rfl rfl rfl ?_
        refine soV rfl rfl rfl rfl rfl rfl ?_
        repeat (first | refine nl ?_ | refine sm rfl ?_)
        exact AWP.ret (rets (resCW rfl (St.obj_set _ _ _) rfl rfl rfl rfl) (.refl _) (StLe.new ho6 (.refl _)) ⟨rfl, rfl⟩)
      · have h2' : ¬ 12 < nm.length := by have : ¬ (12 : Int) < (nm.length : Int) := h2; omega
        simp only [if_neg h2'] at hone
        rw [hone]
        repeat (first | refine AWP.seq ?_ | refine rg ?_ | refine sm rfl ?_)
        refine ss2 rfl rfl rfl rfl (by omega) (by omega) ?_
        rw [Nat.add_sub_cancel_left, htk]
        repeat (first | refine nl ?_ | refine AWP.seq ?_ | refine rg ?_ | refine sm rfl ?_)
        refine cle rfl rfl (rres_ok nm _) ?_
        repeat (refine nl ?_)
        refine AWP.cond_dec rfl (fun h3 => ?_) (fun h3 => AWP.skip ?_)
        · rw [if_pos h3]
          repeat (first | refine AWP.seq ?_ | refine rg ?_ | refine sm rfl ?_)
          refine bds (cs := tokRow ⟨3, line, nm, 0⟩) rfl rfl rfl rfl ?_
          repeat (refine sm rfl ?_)
          refine soV rfl rfl rfl rfl rfl rfl ?_
          repeat (first | refine nl ?_ | refine sm rfl ?_)
          exact AWP.ret (rets (resCW rfl (St.obj_set _ _ _) rfl rfl rfl rfl) (.refl _) (StLe.new ho6 (.refl _)) ⟨rfl, rfl⟩)
        · rw [if_neg h3]
          repeat (first | refine AWP.seq ?_ | refine rg ?_ | refine sm rfl ?_)
          refine bds (cs := tokRow ⟨1, line, nm, 0⟩) rfl rfl rfl rfl ?_
          repeat (refine sm rfl ?_)
          refine soV rfl rfl rfl rfl rfl rfl ?_
          repeat (first | refine nl ?_ | refine sm rfl ?_)
          exact AWP.ret (rets (resCW rfl (St.obj_set _ _ _) rfl rfl rfl rfl) (.refl _) (StLe.new ho6 (.refl _)) ⟨rfl, rfl⟩)
  · have hcl : isLet c = false := (by simpa using hb : letA c.toNat = false)
    rw [hcl, cond_false] at hone
    repeat (first | refine AWP.seq ?_ | refine rg ?_ | refine sm rfl ?_ | refine sx rfl rfl rfl rfl (by assumption) ?_)
    refine cle rfl rfl (rdigit_ok c.toNat _) ?_
    repeat (refine nl ?_)
    refine AWP.cond_bool rfl (fun hb2 => ?_) (fun hb2 => AWP.skip ?_)
    · have hcd : isDig c = true := hb2
      rw [hcd, cond_true] at hone
      have hnle := (List.takeWhile_prefix isDig (l := s.drop at_)).length_le
      rw [List.length_drop] at hnle
      have htk : (s.drop at_).take ((s.drop at_).takeWhile isDig).length = (s.drop at_).takeWhile isDig := (List.prefix_iff_eq_take.1 (List.takeWhile_prefix isDig)).symm
      have hall : ∀ x ∈ (s.drop at_).takeWhile isDig, isDig x = true := fun x hx => mem_tw hx
      have hstop : ∀ b, s[at_ + ((s.drop at_).takeWhile isDig).length]? = some b → isDig b = false := by
        intro b hb
        have h1 : ((s.drop at_).drop ((s.drop at_).takeWhile isDig).length).head? = some b := by rw [List.drop_drop, List.head?_drop]; exact hb
        have h2 : (s.drop at_).dropWhile isDig = (s.drop at_).drop ((s.drop at_).takeWhile isDig).length := by
          have h3 := List.takeWhile_append_dropWhile (p := isDig) (l := s.drop at_)
          conv => rhs; arg 2; rw [← h3]
          rw [List.drop_left]
        rw [← h2] at h1
        have h4 := List.head?_dropWhile_not isDig (s.drop at_)
        rw [h1] at h4
        simpa using h4
      have hhd : (((s.drop at_).drop ((s.drop at_).takeWhile isDig).length).head?.map isNP).getD false = ((s[at_ + ((s.drop at_).takeWhile isDig).length]?).map isLet).getD false := by
        rw [List.drop_drop, List.head?_drop]
        cases hb : s[at_ + ((s.drop at_).takeWhile isDig).length]? with
        | none => rfl
        | some b => simp [isNP, hstop b hb]
      simp only [hhd] at hone
      clear hhd
      generalize (s.drop at_).takeWhile isDig = ds at hone hnle htk hall hstop
      refine AWP.seq ?_
      refine rg ?_
      repeat (refine sm rfl ?_)
      refine nl ?_
      refine AWP.seq ?_
      refine midk [(11, .int .i64 ((digits (ds.take (min ds.length 18)) : Nat) : Int)), (9, .int .i64 (at_ : Int)), (6, .cptr o6 4 0 0), (2, .int .i64 (line : Int)), (1, .int .i64 ((at_ + ds.length : Nat) : Int)), (0, .str s)] (st.set o6 (.cells 51 4 [tokRow zTk])) ?_ ?_
      · repeat (refine AWP.block ?_)
        refine AWP.loop (α := Nat) (fun q => [(11, .int .i64 ((digits (ds.take (min (q - at_) 18)) : Nat) : Int)), (9, .int .i64 (at_ : Int)), (6, .cptr o6 4 0 0), (2, .int .i64 (line : Int)), (1, .int .i64 (q : Int)), (0, .str s)]) (fun _ => st.set o6 (.cells 51 4 [tokRow zTk]))
          (fun q => at_ ≤ q ∧ q ≤ at_ + ds.length) (fun q => s.length - q) at_ ⟨Nat.le_refl _, by omega⟩ ?_ (.refl _) ?_
        · rw [Nat.sub_self]
          exact (tl6 rfl rfl rfl rfl rfl rfl)
        rintro q ⟨q1, q2⟩
        repeat (first | refine AWP.seq ?_ | refine rg ?_ | refine sm rfl ?_ | refine lns rfl rfl ?_)
        refine AOps.split 63 rfl (fun h7 => ?_) (fun h7 => ?_)
        · have hq : q < s.length := by have : (q : Int) < (s.length : Int) := h7; omega
          have hcq : s[q]? = some s[q] := List.getElem?_eq_getElem hq
          rcases Nat.lt_or_ge (q - at_) ds.length with hk | hk
          · have hdq : ds[q - at_]? = some s[q] := by
              conv => lhs; rw [← htk]
              rw [List.getElem?_take_of_lt hk, List.getElem?_drop, show at_ + (q - at_) = q by omega]
              exact hcq
            generalize s[q] = b at hcq hdq
            have hb := hall b (List.mem_of_getElem? hdq)
            have hb' := hb
            simp only [isDig, Bool.and_eq_true, decide_eq_true_eq] at hb'
            repeat (first | refine sm rfl ?_ | refine sx rfl rfl rfl rfl (by assumption) ?_)
            refine cle rfl rfl (rdigit_ok b.toNat _) ?_
            repeat (first | refine nl ?_ | refine sm rfl ?_)
            refine AWP.cond_bool rfl (fun _ => AWP.skip ?_) (fun hg => absurd (hb : digA b.toNat = true) (by rw [show isDig b = false from (by simpa using hg : digA b.toNat = false)]; decide))
            repeat (first | refine AWP.seq ?_ | refine rg ?_ | refine AWP.block ?_ | refine sm rfl ?_)
            refine Go.AM.sb rfl rfl rfl (by omega) ?_
            rw [show (q : Int) - (at_ : Int) = ((q - at_ : Nat) : Int) by omega]
            repeat (first | refine nl ?_ | refine sm rfl ?_)
            refine AWP.cond_dec rfl (fun h18 => ?_) (fun h18 => AWP.skip ?_)
            · have h18' : q - at_ < 18 := by have : ((q - at_ : Nat) : Int) < 18 := h18; omega
              have hm : min (q - at_) 18 = q - at_ := by omega
              have hm1 : min (q + 1 - at_) 18 = q - at_ + 1 := by omega
              have hsn : digits (ds.take (q - at_ + 1)) = digits (ds.take (q - at_)) * 10 + (b.toNat - 48) := by
                rw [List.take_add_one, hdq, Option.toList_some, digits_snoc]
              have hlt : digits (ds.take (q - at_)) < 10 ^ (q - at_) := digits_lt _ _ (by rw [List.length_take]; omega) fun c hc => hall c (List.mem_of_mem_take hc)
              have hb2 : 10 ^ (q - at_) ≤ 10 ^ 17 := Nat.pow_le_pow_right (by omega) (by omega)
              rw [hm]
              generalize digits (ds.take (q - at_)) = v at hsn hlt
              repeat (first | refine rg ?_ | refine sm rfl ?_)
              refine mlk (c := ((10 * v : Nat) : Int)) rfl rfl rfl (by rw [wrap64 (by omega)]; omega) ?_
              repeat (first | refine sm rfl ?_ | refine sx rfl rfl rfl rfl (by assumption) ?_)
              refine sbk (c := ((b.toNat - 48 : Nat) : Int)) rfl rfl rfl (by rw [wrap8 (by omega)]; omega) ?_
              refine cv (c := ((b.toNat - 48 : Nat) : Int)) rfl rfl (wrap64 (by omega)) ?_
              repeat (first | refine nl ?_ | refine rg ?_ | refine sm rfl ?_ | refine inc rfl rfl rfl (by omega) ?_ | refine adn rfl rfl rfl (by omega) ?_)
              refine ⟨q + 1, ⟨by omega, by omega⟩, by omega, ?_, .refl _⟩
              rw [hm1, hsn, Nat.mul_comm v 10]
              exact (tl6 rfl rfl rfl rfl rfl rfl)
            · have h18' : ¬ q - at_ < 18 := by have : ¬ ((q - at_ : Nat) : Int) < 18 := h18; omega
              have hm : min (q + 1 - at_) 18 = min (q - at_) 18 := by omega
              repeat (first | refine nl ?_ | refine rg ?_ | refine sm rfl ?_ | refine inc rfl rfl rfl (by omega) ?_)
              refine ⟨q + 1, ⟨by omega, by omega⟩, by omega, ?_, .refl _⟩
              rw [hm]
              exact (tl6 rfl rfl rfl rfl rfl rfl)
          · have hqe : q = at_ + ds.length := by omega
            have hnd := hstop s[q] (by rw [← hqe]; exact hcq)
            generalize s[q] = b at hcq hnd
            repeat (first | refine sm rfl ?_ | refine sx rfl rfl rfl rfl (by assumption) ?_)
            refine cle rfl rfl (rdigit_ok b.toNat _) ?_
            repeat (first | refine nl ?_ | refine sm rfl ?_)
            refine AWP.cond_bool rfl (fun hg => absurd (show isDig b = true from hg) (by rw [hnd]; decide)) (fun _ => AWP.exit (blk_hit ?_))
            subst hqe
            rw [Nat.add_sub_cancel_left]
            exact ⟨(tl6 rfl rfl rfl rfl rfl rfl), .refl _⟩
        · have hq : q = s.length := by have : ¬ (q : Int) < (s.length : Int) := h7; omega
          have hqe : q = at_ + ds.length := by omega
          subst hqe
          rw [Nat.add_sub_cancel_left]
          repeat (first | refine nl ?_ | refine sm rfl ?_ | refine uw rfl ?_)
          refine AWP.cond_false rfl (AWP.exit (blk_hit ?_))
          exact ⟨(tl6 rfl rfl rfl rfl rfl rfl), .refl _⟩
      · repeat (first | refine AWP.seq ?_ | refine rg ?_ | refine sm rfl ?_)
        refine Go.AM.sb rfl rfl rfl (by omega) ?_
        rw [show ((at_ + ds.length : Nat) : Int) - (at_ : Int) = (ds.length : Int) by omega]
        repeat (first | refine nl ?_ | refine sm rfl ?_)
        refine AWP.cond_dec rfl (fun h2 => ?_) (fun h2 => AWP.skip ?_)
        · have h2' : 18 < ds.length := by have : (18 : Int) < (ds.length : Int) := h2; omega
          simp only [if_pos h2'] at hone
          rw [hone]
          repeat (refine AWP.seq ?_)
          refine rg ?_
          refine bds (cs := tokRow zTk) rfl rfl rfl rfl ?_
          refine soV rfl rfl rfl rfl rfl rfl ?_
          repeat (first | refine nl ?_ | refine sm rfl ?_)
          exact AWP.ret (rets (resCW rfl (St.obj_set _ _ _) rfl rfl rfl rfl) (.refl _) (StLe.new ho6 (.refl _)) ⟨rfl, rfl⟩)
        · have h2' : ¬ 18 < ds.length := by have : ¬ (18 : Int) < (ds.length : Int) := h2; omega
          simp only [if_neg h2'] at hone
          have hm : ds.take (min ds.length 18) = ds := by rw [show min ds.length 18 = ds.length by omega, List.take_length]
          rw [hm]
          repeat (first | refine AWP.seq ?_ | refine rg ?_ | refine sm rfl ?_ | refine lns rfl rfl ?_)
          refine AOps.split 92 rfl (fun h7 => ?_) (fun h7 => ?_)
          · have hq : at_ + ds.length < s.length := by have : ((at_ + ds.length : Nat) : Int) < (s.length : Int) := h7; omega
            have hcq : s[at_ + ds.length]? = some s[at_ + ds.length] := List.getElem?_eq_getElem hq
            generalize s[at_ + ds.length] = b at hcq
            rw [hcq] at hone
            simp only [Option.map_some, Option.getD_some] at hone
            repeat (first | refine sm rfl ?_ | refine sx rfl rfl rfl rfl (by assumption) ?_)
            refine cle rfl rfl (rletter_ok b.toNat _) ?_
            repeat (first | refine nl ?_ | refine sm rfl ?_)
            refine AWP.cond_bool rfl (fun hg => ?_) (fun hg => AWP.skip ?_)
            · have hg' : isLet b = true := hg
              rw [if_pos hg'] at hone
              rw [hone]
              repeat (refine AWP.seq ?_)
              refine rg ?_
              refine bds (cs := tokRow zTk) rfl rfl rfl rfl ?_
              refine soV rfl rfl rfl rfl rfl rfl ?_
              repeat (first | refine nl ?_ | refine sm rfl ?_)
              exact AWP.ret (rets (resCW rfl (St.obj_set _ _ _) rfl rfl rfl rfl) (.refl _) (StLe.new ho6 (.refl _)) ⟨rfl, rfl⟩)
            · have hg' : ¬ isLet b = true := by rw [show isLet b = false from (by simpa using hg : letA b.toNat = false)]; decide
              rw [if_neg hg'] at hone
              rw [hone]
              repeat (first | refine AWP.seq ?_ | refine rg ?_ | refine sm rfl ?_)
              refine bds (cs := tokRow ⟨2, line, [], digits ds⟩) rfl rfl rfl rfl ?_
              repeat (refine sm rfl ?_)
              refine soV rfl rfl rfl rfl rfl rfl ?_
              repeat (first | refine nl ?_ | refine sm rfl ?_)
              exact AWP.ret (rets (resCW rfl (St.obj_set _ _ _) rfl rfl rfl rfl) (.refl _) (StLe.new ho6 (.refl _)) ⟨rfl, rfl⟩)
          · have hn : s[at_ + ds.length]? = none := List.getElem?_eq_none (by have : ¬ ((at_ + ds.length : Nat) : Int) < (s.length : Int) := h7; omega)
            rw [hn] at hone
            simp only [Option.map_none, Option.getD_none] at hone
            rw [if_neg (by decide)] at hone
            rw [hone]
            repeat (first | refine nl ?_ | refine sm rfl ?_ | refine uw rfl ?_)
            refine AWP.cond_false rfl (AWP.skip ?_)
            repeat (first | refine AWP.seq ?_ | refine rg ?_ | refine sm rfl ?_)
            refine bds (cs := tokRow ⟨2, line, [], digits ds⟩) rfl rfl rfl rfl ?_
            repeat (refine sm rfl ?_)
            refine soV rfl rfl rfl rfl rfl rfl ?_
            repeat (first | refine nl ?_ | refine sm rfl ?_)
            exact AWP.ret (rets (resCW rfl (St.obj_set _ _ _) rfl rfl rfl rfl) (.refl _) (StLe.new ho6 (.refl _)) ⟨rfl, rfl⟩)
    · have hcd : isDig c = false := (by simpa using hb2 : digA c.toNat = false)
      rw [hcd, cond_false] at hone
      repeat (first | refine AWP.seq ?_ | refine rg ?_ | refine sm rfl ?_)
      refine cle rfl rfl (rsign_ok s hs at_ hat _) ?_
      have hsl := sign_le (s.drop at_)
      rw [List.length_drop] at hsl
      generalize sign (s.drop at_) = sg at hone hsl
      repeat (first | refine nl ?_ | refine AWP.seq ?_ | refine rg ?_ | refine sm rfl ?_)
      refine AWP.cond_dec rfl (fun h3 => ?_) (fun h3 => AWP.skip ?_)
      · have h3' : sg = [] := h3
        rw [if_pos h3'] at hone
        rw [hone]
        repeat (refine AWP.seq ?_)
        refine rg ?_
        refine bds (cs := tokRow zTk) rfl rfl rfl rfl ?_
        refine soV rfl rfl rfl rfl rfl rfl ?_
        repeat (first | refine nl ?_ | refine sm rfl ?_)
        exact AWP.ret (rets (resCW rfl (St.obj_set _ _ _) rfl rfl rfl rfl) (.refl _) (StLe.new ho6 (.refl _)) ⟨rfl, rfl⟩)
      · have h3' : ¬ sg = [] := h3
        rw [if_neg h3'] at hone
        rw [hone]
        repeat (first | refine AWP.seq ?_ | refine rg ?_ | refine sm rfl ?_)
        refine bds (cs := tokRow ⟨4, line, sg, 0⟩) rfl rfl rfl rfl ?_
        repeat (first | refine sm rfl ?_ | refine lns rfl rfl ?_ | refine adn rfl rfl rfl (by omega) ?_)
        refine soV rfl rfl rfl rfl rfl rfl ?_
        repeat (first | refine nl ?_ | refine sm rfl ?_)
        exact AWP.ret (rets (resCW rfl (St.obj_set _ _ _) rfl rfl rfl rfl) (.refl _) (StLe.new ho6 (.refl _)) ⟨rfl, rfl⟩)
end Go.Proofs
/- Numbers in decimal, tokens as words, how many tokens a scan has: plain. No program in sight. -/
namespace Go.Proofs

theorem scan_small (s : List UInt8) : (scan s).1.length ≤ 2001 := by
  have h : ∀ (k : Nat) (s : List UInt8) (line : Nat) (out : List Tk), out.length ≤ 2000 → (scanL k s line out).1.length ≤ 2001 := by
    intro k
    induction k with
    | zero => intro s line out _; simp [scanL]
    | succ k ih =>
      intro s line out ho
      cases s with
      | nil => simp [scanL]; omega
      | cons c r =>
        rw [scanL]
        split
        · simp
        · split
          · simp
          · exact ih _ _ _ (by simp; omega)
  unfold scan
  split
  · simp
  · exact h _ _ _ _ (by simp)

/-- A number in decimal, in front of what is there. -/
def decF : Nat → Nat → List UInt8 → List UInt8
  | 0, _, acc => acc
  | k + 1, n, acc => if n = 0 ∧ acc ≠ [] then acc else decF k (n / 10) (UInt8.ofNat (48 + n % 10) :: acc)
def dec (n : Nat) : List UInt8 := decF 20 n []

def wordOf (t : Tk) : List UInt8 := if t.kind = 2 then dec t.num else t.text

end Go.Proofs
/- strconv.Itoa at this program: the kit's contract, laid by the kit's own tool in plain words. No conditions: lemmas only. -/
namespace Go.Proofs
open Go.Shelf
def Tryd.laysItoa_ren : Go.Shelf.Ren := ⟨fun | 171 => 40 | 243 => 60 | 246 => 62 | 283 => 63 | 284 => 64 | 285 => 65 | 286 => 66 | 129 => 68 | 317 => 67 | 318 => 69 | 319 => 70 | 320 => 71 | 337 => 72 | 338 => 73 | n => n, fun | 3 => 3 | 9 => 9 | 2 => 2 | 4 => 4 | 171 => 93 | 0 => 0 | 53 => 94 | 37 => 78 | 5 => 5 | 173 => 97 | 212 => 100 | 51 => 101 | 20 => 20 | 213 => 102 | 46 => 103 | 232 => 106 | 233 => 107 | n => n, fun | 17 => 3 | 18 => 4 | 19 => 5 | n => n⟩
theorem Tryd.laysItoa : Go.Proofs.LaysM.n171 Tryd.prog Tryd.laysItoa_ren := {
  mixed := by kernel_rfl
  f129 := Tryd.func68.trans (congrArg some (by kernel_rfl))
  f171 := Tryd.func40.trans (congrArg some (by kernel_rfl))
  f243 := Tryd.func60.trans (congrArg some (by kernel_rfl))
  f246 := Tryd.func62.trans (congrArg some (by kernel_rfl))
  f283 := Tryd.func63.trans (congrArg some (by kernel_rfl))
  f284 := Tryd.func64.trans (congrArg some (by kernel_rfl))
  f285 := Tryd.func65.trans (congrArg some (by kernel_rfl))
  f286 := Tryd.func66.trans (congrArg some (by kernel_rfl))
  f317 := Tryd.func67.trans (congrArg some (by kernel_rfl))
  f318 := Tryd.func69.trans (congrArg some (by kernel_rfl))
  f319 := Tryd.func70.trans (congrArg some (by kernel_rfl))
  f320 := Tryd.func71.trans (congrArg some (by kernel_rfl))
  f337 := Tryd.func72.trans (congrArg some (by kernel_rfl))
  f338 := Tryd.func73.trans (congrArg some (by kernel_rfl))
  t0 := Tryd.underlying0
  a0 := Tryd.isAgg0
  z0 := Tryd.sizeOf0
  v0 := Tryd.zeroValue0
  t2 := Tryd.underlying2
  a2 := Tryd.isAgg2
  z2 := Tryd.sizeOf2
  v2 := Tryd.zeroValue2
  t3 := Tryd.underlying3
  a3 := Tryd.isAgg3
  z3 := Tryd.sizeOf3
  v3 := Tryd.zeroValue3
  t4 := Tryd.underlying4
  a4 := Tryd.isAgg4
  z4 := Tryd.sizeOf4
  v4 := Tryd.zeroValue4
  t5 := Tryd.underlying5
  a5 := Tryd.isAgg5
  z5 := Tryd.sizeOf5
  v5 := Tryd.zeroValue5
  t9 := Tryd.underlying9
  a9 := Tryd.isAgg9
  z9 := Tryd.sizeOf9
  v9 := Tryd.zeroValue9
  t20 := Tryd.underlying20
  a20 := Tryd.isAgg20
  z20 := Tryd.sizeOf20
  v20 := Tryd.zeroValue20
  t37 := Tryd.underlying78
  a37 := Tryd.isAgg78
  z37 := Tryd.sizeOf78
  v37 := Tryd.zeroValue78
  t46 := Tryd.underlying103
  a46 := Tryd.isAgg103
  z46 := Tryd.sizeOf103
  v46 := Tryd.zeroValue103
  t51 := Tryd.underlying101
  a51 := Tryd.isAgg101
  z51 := Tryd.sizeOf101
  v51 := Tryd.zeroValue101
  t53 := Tryd.underlying94
  a53 := Tryd.isAgg94
  z53 := Tryd.sizeOf94
  v53 := Tryd.zeroValue94
  t171 := Tryd.underlying93
  a171 := Tryd.isAgg93
  z171 := Tryd.sizeOf93
  v171 := Tryd.zeroValue93
  t173 := Tryd.underlying97
  a173 := Tryd.isAgg97
  z173 := Tryd.sizeOf97
  v173 := Tryd.zeroValue97
  t212 := Tryd.underlying100
  a212 := Tryd.isAgg100
  z212 := Tryd.sizeOf100
  v212 := Tryd.zeroValue100
  t213 := Tryd.underlying102
  a213 := Tryd.isAgg102
  z213 := Tryd.sizeOf102
  t232 := Tryd.underlying106
  a232 := Tryd.isAgg106
  z232 := Tryd.sizeOf106
  v232 := Tryd.zeroValue106
  t233 := Tryd.underlying107
  a233 := Tryd.isAgg107
  z233 := Tryd.sizeOf107
  v233 := Tryd.zeroValue107
  g17 := by kernel_rfl
  g18 := by kernel_rfl
  g19 := by kernel_rfl
  i0 := by kernel_rfl
  i2 := by kernel_rfl
  i3 := by kernel_rfl
  i4 := by kernel_rfl
  i5 := by kernel_rfl
  i9 := by kernel_rfl
  i20 := by kernel_rfl
  i37 := by kernel_rfl
  i46 := by kernel_rfl
  i51 := by kernel_rfl
  i53 := by kernel_rfl
  i171 := by kernel_rfl
  i173 := by kernel_rfl
  i212 := by kernel_rfl
  i232 := by kernel_rfl
  i233 := by kernel_rfl
  m17 := by kernel_rfl
  m18 := by kernel_rfl
  m19 := by kernel_rfl }
theorem itoaC (n : Int) (h0 : -9223372036854775808 ≤ n) (h1 : n ≤ 9223372036854775807) (w : World) (htab : Lib.TabIs Tryd.prog w "internal/strconv.uint64pow10" .u64 Lib.pow10Tab) :
    Calls Tryd.prog 40 #[.int .i64 n] w fun e w' => e = .returned (.string ⟨(Lib.itoa n).toArray⟩) ∧ ∃ k os, w' = Sort.grow (w.drewN k) os := Any.strconv_Itoa Tryd.laysItoa n h0 h1 w htab
end Go.Proofs
/- Numbers as texts: strconv.Itoa and the reference's Digits. No conditions: definitions and lemmas only. -/
namespace Go.Proofs
open Go.AM
attribute [local irreducible] AWP AOps ACalls
set_option linter.unusedSimpArgs false

def w64 (n : Int) : Prop := -9223372036854775808 ≤ n ∧ n < 9223372036854775808
theorem nDigits_le : ∀ (k u : Nat), 1 ≤ k → u < 10 ^ k → Lib.nDigits u ≤ k
  | 0, _, h, _ => by omega
  | k + 1, u, _, h => by
    rw [Lib.nDigits]
    split
    · omega
    · rename_i hu
      cases k with
      | zero => simp at h; omega
      | succ k =>
        have := nDigits_le (k + 1) (u / 10) (by omega) (by rw [Nat.pow_succ] at h; omega)
        omega
theorem dlen19 {u : Nat} (h : u < 10000000000000000000) : (Lib.decDigits u).length ≤ 19 := by
  rw [Lib.decDigits_length]
  exact nDigits_le 19 u (by decide) h
theorem itoa_len {n : Int} (h : w64 n) : (Lib.itoa n).length ≤ 20 := by
  unfold w64 at h
  unfold Lib.itoa
  split
  · have := dlen19 (u := n.natAbs) (by omega)
    simp only [List.length_cons]
    omega
  · have := dlen19 (u := n.toNat) (by omega)
    omega
theorem itoa_nat (u : Nat) : Lib.itoa (u : Int) = Lib.decDigits u := by
  unfold Lib.itoa
  rw [if_neg (by omega), Int.toNat_natCast]
/-- The reference's Digits. -/
theorem dig_nat (u : Nat) : ∀ (_ : u < 9223372036854775808) (st : St), ACalls Tryd.prog 29 [.int .i64 (u : Int)] st (fun v st' => v = .str (Lib.decDigits u) ∧ st' = st) (fun _ _ => False) := by
  induction u using Nat.strongRecOn with
  | _ u ih =>
    intro hu st
    refine ACalls.ofBody Tryd.func29 rfl Tryd.ntmps29 rfl ?_
    repeat (first | refine nl ?_ | refine AWP.seq ?_ | refine rg ?_ | refine AWP.skip ?_ | refine YI (z := ?_) | refine ZA (z := ?_))
    refine AWP.cond_dec rfl (fun h => ?_) (fun h => AWP.skip ?_)
    · have h' : u < 10 := by have h0 : (u : Int) < 10 := h; omega
      repeat (first | refine AWP.seq ?_ | refine rg ?_ | refine ZA (z := ?_))
      refine Go.AM.ad rfl rfl rfl (by omega) ?_
      refine cv (c := ((UInt8.ofNat (48 + u)).toNat : Int)) rfl rfl ?_ ?_
      · have e : (UInt8.ofNat (48 + u)).toNat = 48 + u := by rw [UInt8.toNat_ofNat']; omega
        rw [e, wrap8 (by omega)]
        omega
      repeat (refine ZQ (z := ?_))
      refine cbs (l := [UInt8.ofNat (48 + u)]) rfl rfl ?_
      repeat (first | refine nl ?_ | refine ZA (z := ?_))
      exact AWP.ret (rets rfl (.refl _) (.refl _) ⟨by rw [Lib.decDigits_one h']; rfl, rfl⟩)
    · have h' : ¬ u < 10 := by have h0 : ¬ (u : Int) < 10 := h; omega
      have hd := dlen19 (u := u / 10) (by omega)
      have hm := dlen19 (u := u % 10) (by omega)
      have e1 : (u : Int).tdiv 10 = ((u / 10 : Nat) : Int) := by rw [Int.tdiv_eq_ediv_of_nonneg (by omega)]; omega
      have e2 : (u : Int).tmod 10 = ((u % 10 : Nat) : Int) := by rw [Int.tmod_eq_emod_of_nonneg (by omega)]; omega
      repeat (first | refine AWP.seq ?_ | refine rg ?_ | refine ZA (z := ?_))
      refine qu rfl rfl rfl (by decide) (by rw [e1]; omega) ?_
      rw [e1]
      skip
      refine cle rfl rfl (ih (u / 10) (by omega) (by omega) _) ?_
      repeat (refine ZA (z := ?_))
      refine rm rfl rfl rfl (by decide) ?_
      rw [e2]
      skip
      refine cle rfl rfl (ih (u % 10) (by omega) (by omega) _) ?_
      refine sad rfl rfl rfl (by omega) ?_
      repeat (first | refine nl ?_ | refine ZA (z := ?_))
      refine AWP.ret (rets rfl (.refl _) (.refl _) ⟨?_, rfl⟩)
      rw [Lib.decDigits_one (i := u % 10) (by omega)]
      conv => rhs; rw [Lib.decDigits, dif_neg h']
      rfl
theorem dig_ok (n : Int) (hn : w64 n) (st : St) : ACalls Tryd.prog 29 [.int .i64 n] st (fun v st' => v = .str (Lib.itoa n) ∧ st' = st) (fun _ _ => False) := by
  by_cases h0 : n < 0
  · refine ACalls.ofBody Tryd.func29 rfl Tryd.ntmps29 rfl ?_
    unfold w64 at hn
    repeat (first | refine nl ?_ | refine AWP.seq ?_ | refine rg ?_ | refine YH (z := ?_) | refine ZA (z := ?_))
    refine AWP.cond_dec rfl (fun h => ?_) (fun h => AWP.skip ?_)
    · have h' : n = -9223372036854775808 := h
      repeat (first | refine nl ?_ | refine AWP.seq ?_ | refine rg ?_ | refine ZA (z := ?_))
      refine AWP.ret (rets rfl (.refl _) (.refl _) ⟨?_, rfl⟩)
      subst h'
      have e : Lib.itoa (-9223372036854775808) = [45, 57, 50, 50, 51, 51, 55, 50, 48, 51, 54, 56, 53, 52, 55, 55, 53, 56, 48, 56] := by
        unfold Lib.itoa
        rw [if_pos (by decide), show Int.natAbs (-9223372036854775808) = 9223372036854775808 by decide]
        simp [Lib.decDigits]
      rw [e]
      rfl
    · have h' : ¬ n = -9223372036854775808 := h
      obtain ⟨u, hu⟩ : ∃ u : Nat, (0 : Int) - n = (u : Int) := ⟨(0 - n).toNat, by omega⟩
      have hd := dlen19 (u := u) (by omega)
      repeat (first | refine AWP.seq ?_ | refine rg ?_ | refine ZA (z := ?_))
      refine Go.AM.sb rfl rfl rfl (by omega) ?_
      rw [hu]
      skip
      refine cle rfl rfl (dig_nat u (by omega) _) ?_
      refine sad rfl rfl rfl (by simp; omega) ?_
      repeat (first | refine nl ?_ | refine ZA (z := ?_))
      refine AWP.ret (rets rfl (.refl _) (.refl _) ⟨?_, rfl⟩)
      unfold Lib.itoa
      rw [if_pos h0, show n.natAbs = u by omega]
      rfl
  · obtain ⟨u, rfl⟩ : ∃ u : Nat, n = (u : Int) := ⟨n.toNat, by omega⟩
    rw [itoa_nat]
    exact dig_nat u (by have := hn.2; omega) st
theorem decF_dd : ∀ (k n : Nat) (acc : List UInt8), n < 10 ^ k → 1 ≤ k → (n ≠ 0 ∨ acc = []) → decF k n acc = Lib.decDigits n ++ acc
  | 0, _, _, _, h, _ => by omega
  | k + 1, n, acc, hn, _, h => by
    rw [decF, if_neg (by rintro ⟨h1, h2⟩; rcases h with h | h; exact h h1; exact h2 h)]
    by_cases h10 : n < 10
    · have e : n / 10 = 0 := by omega
      rw [e, Lib.decDigits_one h10, show n % 10 = n by omega]
      cases k with
      | zero => rfl
      | succ k => rw [decF, if_pos ⟨rfl, by simp⟩]; rfl
    · have hk : 1 ≤ k := by
        rcases Nat.eq_zero_or_pos k with hk | hk
        · subst hk; simp at hn; omega
        · exact hk
      rw [decF_dd k (n / 10) _ (by rw [Nat.pow_succ] at hn; omega) hk (.inl (by omega))]
      conv => rhs; rw [Lib.decDigits, dif_neg h10]
      simp
theorem dec_dd {n : Nat} (h : n < 10 ^ 20) : Lib.decDigits n = dec n := by
  unfold dec
  rw [decF_dd 20 n [] h (by decide) (.inr rfl), List.append_nil]
theorem itoa_dec {n : Nat} (h : n < 10 ^ 20) : Lib.itoa (n : Int) = dec n := by
  rw [itoa_nat, dec_dd h]
def powRow : List AV := Lib.pow10Tab.map fun z => .int .u64 z
theorem itoa_ok (n : Int) (hn : w64 n) (st : St) (hT : (3, powRow) ∈ st.glob) : ACalls Tryd.prog 40 [.int .i64 n] st (fun v st' => v = .str (Lib.itoa n) ∧ st' = st) (fun _ _ => False) := by
  refine ACalls.grown fun g w rargs hs hl hr => ?_
  have hra : rargs = #[.int .i64 n] := by
    have h1 : rargs.size = 1 := by simpa using hl.symm
    obtain ⟨v, rfl⟩ := Array.size_eq_one_iff.1 h1
    have := hr 0 _ v rfl rfl
    cases this
    rfl
  subst hra
  have h64 := hn
  unfold w64 at h64
  refine (itoaC n h64.1 (by omega) w (tabIs hs (by kernel_rfl) hT)).mono fun e w' ⟨he, k, os, hw⟩ => ⟨_, he, fun g w => .str _, os, by rw [hw]; rfl, by rw [hw]; rfl, by rw [hw]; rfl, by rw [hw]; rfl⟩
end Go.Proofs
/- Levels of operations. No conditions: definitions and lemmas only. -/
namespace Go.Proofs
open Go.AM
attribute [local irreducible] AWP AOps ACalls AAny
set_option linter.unusedSimpArgs false

def rk (op : Int) : Int := if 14 ≤ op ∧ op ≤ 17 then 1 else if 11 ≤ op ∧ op ≤ 13 then 2 else if op = 6 ∨ op = 7 then 3 else if 8 ≤ op ∧ op ≤ 10 then 4 else if op = 4 ∨ op = 5 then 5 else 6
set_option maxHeartbeats 4000000 in
theorem rank_ok (op : Int) (st : St) : ACalls Tryd.prog 28 [.int .i64 op] st (fun v st' => v = .int .i64 (rk op) ∧ st' = st) (fun _ _ => False) := by
  refine ACalls.ofBody Tryd.func28 rfl Tryd.ntmps28 rfl ?_
  by_cases h : op < 4 ∨ 17 < op
  · have e : rk op = 6 := by
      unfold rk
      rw [if_neg (by omega), if_neg (by omega), if_neg (by omega), if_neg (by omega), if_neg (by omega)]
    rw [e]
    repeat (first | refine nl ?_ | refine AWP.seq ?_ | refine rg ?_ | refine AWP.skip ?_ | refine AWP.block ?_ | refine YI (z := ?_) | refine ZA (z := ?_))
    exact AWP.ret (rets rfl (.refl _) (.refl _) ⟨rfl, rfl⟩)
  · have h' : op = 4 ∨ op = 5 ∨ op = 6 ∨ op = 7 ∨ op = 8 ∨ op = 9 ∨ op = 10 ∨ op = 11 ∨ op = 12 ∨ op = 13 ∨ op = 14 ∨ op = 15 ∨ op = 16 ∨ op = 17 := by omega
    clear h
    rcases h' with rfl | rfl | rfl | rfl | rfl | rfl | rfl | rfl | rfl | rfl | rfl | rfl | rfl | rfl <;>
    · repeat (first | refine nl ?_ | refine AWP.seq ?_ | refine rg ?_ | refine AWP.skip ?_ | refine AWP.block ?_ | refine YH (z := ?_) | refine YI (z := ?_) | refine ZA (z := ?_))
      exact AWP.ret (rets rfl (.refl _) (.refl _) ⟨rfl, rfl⟩)
instance (op : Int) : PureFn Tryd.prog 28 [.int .i64 op] (.int .i64 (rk op)) where
  out st := rank_ok op st
end Go.Proofs
/- What an expression that was parsed is like: depth, parentheses, names. No program in sight. -/
namespace Go.Proofs

/-- How many tokens open parentheses. -/
def opn (ts : List Tk) : Nat := ts.countP fun t => sg t [40]
def b1 (b : Bool) : Nat := if b then 1 else 0
/-- Parentheses of the printed text. -/
def np : Xp → Nat
  | .elt _ a => np a
  | .una _ a => np a + b1 (decide (lvX a < 5))
  | .bin op a b => (np a + b1 (lpar op a)) + (np b + b1 (rpar op b))
  | _ => 0
/-- Names and numbers of an expression. -/
def WX (Pn : List UInt8 → Prop) (Pm : Nat → Prop) : Xp → Prop
  | .lit n => Pm n
  | .var s => Pn s
  | .fld s f => Pn s ∧ Pn f
  | .elt s a => Pn s ∧ WX Pn Pm a
  | .una _ a => WX Pn Pm a
  | .bin _ a b => WX Pn Pm a ∧ WX Pn Pm b
def GT (Pn : List UInt8 → Prop) (Pm : Nat → Prop) (ts : List Tk) : Prop := ∀ t ∈ ts, (t.kind = 1 → Pn t.text) ∧ (t.kind = 2 → Pm t.num)

theorem bin_op {t : Tk} (h : (bin t).1 ≠ 0) : lvO (bin t).2 = (bin t).1 ∧ 6 ≤ (bin t).2 ∧ (bin t).2 ≤ 17 ∧ sg t [40] = false := by
  unfold bin at *
  cases hf : binL.find? fun o => sg t o.1 with
  | none => rw [hf] at h; exact absurd rfl h
  | some o =>
    have h1 := List.mem_of_find?_eq_some hf
    have h2 := List.find?_some hf
    have h3 : ∀ o ∈ binL, lvO o.2.2 = o.2.1 ∧ 6 ≤ o.2.2 ∧ o.2.2 ≤ 17 ∧ o.1 ≠ [40] := by decide
    obtain ⟨a1, a2, a3, a4⟩ := h3 o h1
    refine ⟨a1, a2, a3, ?_⟩
    have h2 : t.kind = 4 ∧ t.text = o.1 := of_decide_eq_true h2
    exact decide_eq_false fun h4 => a4 (h2.2.symm.trans h4.2)

theorem opn_tail {ts : List Tk} : opn ts.tail + b1 (sg (hd ts) [40]) = opn ts := by
  cases ts with
  | nil => rfl
  | cons t r =>
    show opn r + b1 (sg t [40]) = opn (t :: r)
    unfold opn b1
    rw [List.countP_cons]
theorem opn_le (ts : List Tk) : opn ts.tail ≤ opn ts := by rw [← opn_tail (ts := ts)]; omega
theorem GT_tail {Pn Pm} {ts : List Tk} (h : GT Pn Pm ts) : GT Pn Pm ts.tail := fun t ht => h t (List.mem_of_mem_tail ht)
theorem GT_hd {Pn Pm} {ts : List Tk} (h : GT Pn Pm ts) (h1 : (hd ts).kind ≠ 0) : ((hd ts).kind = 1 → Pn (hd ts).text) ∧ ((hd ts).kind = 2 → Pm (hd ts).num) := by
  cases ts with
  | nil => exact absurd rfl h1
  | cons t r => exact h t (List.mem_cons_self ..)

/-- What a parsed expression is like. -/
structure PX (Pn : List UInt8 → Prop) (Pm : Nat → Prop) (d : Nat) (ts : List Tk) (x : Xp) (r : List Tk) (p : Nat) : Prop where
  nd : d + nd x + p ≤ 8
  np : opn r + np x + p ≤ opn ts
  op : Wop x
  wx : GT Pn Pm ts → WX Pn Pm x ∧ GT Pn Pm r

def pen (lv : Nat) (x : Xp) : Nat := b1 (decide (lvX x < lv))
def penL (lv : Nat) (x : Xp) : Nat := b1 (decide (lvX x < lv ∨ lvX x = 1))
theorem pen_le (lv : Nat) (x : Xp) : pen lv x ≤ penL lv x := by
  unfold pen penL b1
  by_cases h : lvX x < lv
  · simp [h]
  · simp [h]
theorem pen_up (lv : Nat) (x : Xp) (h : 1 ≤ lv) : penL lv x ≤ pen (lv + 1) x := by
  unfold pen penL b1
  by_cases h1 : lvX x < lv ∨ lvX x = 1
  · have : lvX x < lv + 1 := by omega
    simp [h1, this]
  · simp [h1]
theorem b1_le (b : Bool) : b1 b ≤ 1 := by cases b <;> decide

variable {Pn : List UInt8 → Prop} {Pm : Nat → Prop}

theorem px : ∀ k : Nat, (∀ lv d ts x r, 1 ≤ lv → lv ≤ 5 → pe k lv d ts = .ok (x, r) → PX Pn Pm d ts x r (pen lv x)) ∧
    (∀ lv d a ts x r, 1 ≤ lv → lv ≤ 4 → pl k lv d a ts = .ok (x, r) → d + nd a + penL lv a ≤ 8 → Wop a →
      d + nd x + pen lv x ≤ 8 ∧ opn r + np x + pen lv x ≤ opn ts + np a + penL lv a ∧ Wop x ∧ (GT Pn Pm ts → WX Pn Pm a → WX Pn Pm x ∧ GT Pn Pm r)) ∧
    (∀ d ts x r, po k d ts = .ok (x, r) → PX Pn Pm d ts x r (pen 5 x))
  | 0 => ⟨fun _ _ _ _ _ _ _ h => (by rw [pe] at h; cases h), fun _ _ _ _ _ _ _ _ h => (by rw [pl] at h; cases h), fun _ _ _ _ h => (by rw [po] at h; cases h)⟩
  | k + 1 => by
    obtain ⟨i1, i2, i3⟩ := px k
    refine ⟨fun lv d ts x r h1 h5 h => ?_, fun lv d a ts x r h1 h4 h hn hw => ?_, fun d ts x r h => ?_⟩
    · rw [pe_succ] at h
      split at h
      · have : lv = 5 := by omega
        subst this
        exact i3 d ts x r h
      · cases hp : pe k (lv + 1) d ts with
        | error e => rw [hp] at h; cases h
        | ok p =>
          obtain ⟨a, r1⟩ := p
          rw [hp] at h
          simp only at h
          obtain ⟨a1, a2, a3, a4⟩ := i1 (lv + 1) d ts a r1 (by omega) (by omega) hp
          have hu := pen_up lv a h1
          obtain ⟨c1, c2, c3, c4⟩ := i2 lv d a r1 x r h1 (by omega) h (by omega) a3
          exact ⟨c1, by omega, c3, fun g => c4 (a4 g).2 (a4 g).1⟩
    · rw [pl_succ] at h
      split at h
      · rename_i hb
        obtain ⟨o1, o2, o3, o4⟩ := bin_op (t := hd ts) (by omega)
        have ot := opn_tail (ts := ts)
        rw [o4] at ot
        have ot : opn ts.tail + 0 = opn ts := ot
        cases hp : pe k (lv + 1) d ts.tail with
        | error e => rw [hp] at h; cases h
        | ok p =>
          obtain ⟨b, r1⟩ := p
          rw [hp] at h
          simp only at h
          obtain ⟨a1, a2, a3, a4⟩ := i1 (lv + 1) d ts.tail b r1 (by omega) (by omega) hp
          have hl : lvX (.bin (bin (hd ts)).2 a b) = lv := by rw [← hb, ← o1]; rfl
          have hw2 : Wop (.bin (bin (hd ts)).2 a b) := ⟨o2, o3, hw, a3⟩
          have elp : b1 (lpar (bin (hd ts)).2 a) = penL lv a := by unfold lpar penL; rw [o1, hb]
          have erp : b1 (rpar (bin (hd ts)).2 b) = pen (lv + 1) b := by
            unfold rpar pen
            rw [o1, hb]
            congr 1
            exact decide_eq_decide.2 (by omega)
          have hnp : np (.bin (bin (hd ts)).2 a b) = (np a + penL lv a) + (np b + pen (lv + 1) b) := by
            show (np a + b1 _) + (np b + b1 _) = _
            rw [elp, erp]
          have hnd : nd (.bin (bin (hd ts)).2 a b) = max (nd a + penL lv a) (nd b + pen (lv + 1) b) := by
            show max (nd a + b1 _) (nd b + b1 _) = _
            rw [elp, erp]
          have hp0 : pen lv (.bin (bin (hd ts)).2 a b) = 0 := by
            unfold pen
            rw [hl, decide_eq_false (by omega)]
            rfl
          have hx : d + nd (.bin (bin (hd ts)).2 a b) + 0 ≤ 8 := by rw [hnd]; omega
          have hy : opn r1 + np (.bin (bin (hd ts)).2 a b) ≤ opn ts + np a + penL lv a := by rw [hnp]; omega
          split at h
          · cases h
            refine ⟨by rw [hp0]; exact hx, by rw [hp0]; omega, hw2, fun g ga => ⟨⟨ga, (a4 (GT_tail g)).1⟩, (a4 (GT_tail g)).2⟩⟩
          · rename_i hl1
            have hp1 : penL lv (.bin (bin (hd ts)).2 a b) = 0 := by
              unfold penL
              rw [hl, decide_eq_false (by omega)]
              rfl
            obtain ⟨c1, c2, c3, c4⟩ := i2 lv d _ r1 x r h1 h4 h (by rw [hp1]; exact hx) hw2
            rw [hp1] at c2
            exact ⟨c1, by omega, c3, fun g ga => c4 (a4 (GT_tail g)).2 ⟨ga, (a4 (GT_tail g)).1⟩⟩
      · cases h
        have hp := pen_le lv a
        exact ⟨by omega, by omega, hw, fun g ga => ⟨ga, g⟩⟩
    · rw [po_succ] at h
      have ot := opn_tail (ts := ts)
      have ot2 := opn_le ts.tail
      have ot3 := opn_le ts.tail.tail
      split at h
      · rename_i hb
        have h0 : (hd ts).kind ≠ 0 := by
          intro e
          simp [beg, sg, e] at hb
        split at h
        · cases h
        rename_i h8
        split at h
        · rename_i c
          cases h
          have e : pen 5 (.lit (hd ts).num) = 0 := rfl
          refine ⟨by rw [e]; show d + 0 + 0 ≤ 8; omega, by rw [e]; show opn ts.tail + 0 + 0 ≤ _; omega, trivial, fun g => ⟨(GT_hd g h0).2 c, GT_tail g⟩⟩
        split at h
        · rename_i c1
          split at h
          · split at h
            · rename_i c2 c3
              cases h
              refine ⟨?_, ?_, trivial, fun g => ⟨⟨(GT_hd g h0).1 c1, (GT_hd (GT_tail (GT_tail g)) (by omega)).1 c3⟩, GT_tail (GT_tail (GT_tail g))⟩⟩
              · show d + 0 + 0 ≤ 8
                omega
              · show opn ts.tail.tail.tail + 0 + 0 ≤ _
                omega
            · cases h
          split at h
          · cases hp : pe k 1 (d + 1) ts.tail.tail with
            | error e => rw [hp] at h; cases h
            | ok p =>
              obtain ⟨a, r1⟩ := p
              rw [hp] at h
              simp only at h
              obtain ⟨a1, a2, a3, a4⟩ := i1 1 (d + 1) ts.tail.tail a r1 (by omega) (by omega) hp
              have or := opn_le r1
              split at h
              · cases h
                refine ⟨?_, ?_, a3, fun g => ⟨⟨(GT_hd g h0).1 c1, (a4 (GT_tail (GT_tail g))).1⟩, GT_tail (a4 (GT_tail (GT_tail g))).2⟩⟩
                · show d + (nd a + 1) + 0 ≤ 8
                  omega
                · show opn r1.tail + np a + 0 ≤ _
                  omega
              · cases h
          · cases h
            refine ⟨?_, ?_, trivial, fun g => ⟨(GT_hd g h0).1 c1, GT_tail g⟩⟩
            · show d + 0 + 0 ≤ 8
              omega
            · show opn ts.tail + 0 + 0 ≤ _
              omega
        rename_i c1 c2
        have h4 : (hd ts).kind = 4 := by
          simp only [beg, Bool.or_eq_true, sg, decide_eq_true_eq] at hb
          omega
        split at h
        · rename_i c3
          have hs : sg (hd ts) [40] = true := decide_eq_true ⟨h4, c3⟩
          rw [hs] at ot
          have ot : opn ts.tail + 1 = opn ts := ot
          cases hp : pe k 1 (d + 1) ts.tail with
          | error e => rw [hp] at h; cases h
          | ok p =>
            obtain ⟨a, r1⟩ := p
            rw [hp] at h
            simp only at h
            obtain ⟨a1, a2, a3, a4⟩ := i1 1 (d + 1) ts.tail a r1 (by omega) (by omega) hp
            have or := opn_le r1
            split at h
            · cases h
              have hb1 : pen 5 x ≤ 1 := b1_le _
              exact ⟨by omega, by omega, a3, fun g => ⟨(a4 (GT_tail g)).1, GT_tail (a4 (GT_tail g)).2⟩⟩
            · cases h
        · cases hp : po k (d + 1) ts.tail with
          | error e => rw [hp] at h; cases h
          | ok p =>
            obtain ⟨a, r1⟩ := p
            rw [hp] at h
            simp only at h
            obtain ⟨a1, a2, a3, a4⟩ := i3 (d + 1) ts.tail a r1 hp
            cases h
            refine ⟨?_, ?_, ⟨by split <;> simp, a3⟩, fun g => ⟨(a4 (GT_tail g)).1, (a4 (GT_tail g)).2⟩⟩
            · show d + (1 + (nd a + if lvX a < 5 then 1 else 0)) + 0 ≤ 8
              rw [show (if lvX a < 5 then 1 else 0) = b1 (decide (lvX a < 5)) by unfold b1; by_cases h5 : lvX a < 5 <;> simp [h5]]
              unfold pen at a1
              omega
            · show opn r + (np a + b1 (decide (lvX a < 5))) + 0 ≤ _
              unfold pen at a2
              omega
      · cases h

theorem qx {d : Nat} {ts : List Tk} {x : Xp} {r : List Tk} (h : qe 1 d ts = .ok (x, r)) : PX Pn Pm d ts x r (pen 1 x) := (px _).1 1 d ts x r (by omega) (by omega) h

/-- What is parsed is printed to tokens that are parsed to the same. -/
theorem back {ts : List Tk} {x : Xp} {r : List Tk} (h : qe 1 0 ts = .ok (x, r)) (l : Nat) : qe 1 0 (xtk x ++ [⟨0, l, [], 0⟩]) = .ok (x, [⟨0, l, [], 0⟩]) := by
  have hq := qx (Pn := fun _ => True) (Pm := fun _ => True) h
  exact (rt x hq.op).top (lvX_pos hq.op) (by have := hq.nd; omega) (by rw [hd_cons]; rfl) ⟨by rw [hd_cons]; rfl, by rw [hd_cons]; rfl⟩
end Go.Proofs
/- Lines of tokens, in plain Lean. No program in sight. -/
namespace Go.Proofs

theorem sign_take (s : List UInt8) : sign s = s.take (sign s).length := by
  unfold sign
  split
  · rename_i h
    have : ∀ w ∈ signs2, w.length = 2 := by decide
    rw [this _ h]
  · split
    · split
      · rfl
      · rfl
    · rfl

end Go.Proofs
/- Tokens between gaps, in plain Lean. No program in sight. -/
namespace Go.Proofs

theorem tw_app {q : UInt8 → Bool} {rest : List UInt8} (hr : rest = [] ∨ ∃ c r, rest = c :: r ∧ q c = false) : ∀ {w : List UInt8}, (∀ c ∈ w, q c = true) → (w ++ rest).takeWhile q = w
  | [], _ => by
    rcases hr with rfl | ⟨c, r, rfl, hc⟩
    · rfl
    · simp [hc]
  | a :: w, h => by
    rw [List.cons_append, List.takeWhile_cons, if_pos (h a (by simp)), tw_app hr fun c hc => h c (by simp [hc])]

/-- A gap's first byte, or the end. -/
def Gap (rest : List UInt8) : Prop := rest = [] ∨ ∃ c r, rest = c :: r ∧ (c = 32 ∨ c = 9 ∨ c = 10 ∨ c = 13)

theorem Gap.no {rest : List UInt8} (h : Gap rest) {q : UInt8 → Bool} (h1 : q 32 = false) (h2 : q 9 = false) (h3 : q 10 = false) (h4 : q 13 = false) : rest = [] ∨ ∃ c r, rest = c :: r ∧ q c = false := by
  rcases h with h | ⟨c, r, h, hc⟩
  · exact .inl h
  · refine .inr ⟨c, r, h, ?_⟩
    rcases hc with rfl | rfl | rfl | rfl <;> assumption

/-- A token that is scanned again from its text. -/
structure Good (t : Tk) : Prop where
  one : ∀ rest line, Gap rest → one (wordOf t ++ rest) line = .ok ({ t with line := line }, (wordOf t).length)
  skip : ∀ rest line, Gap rest → skip false (wordOf t ++ rest) line = (wordOf t ++ rest, line)
  num : t.num < 10 ^ 18
  len : (wordOf t).length ≤ 20

theorem decF_spec : ∀ (j k n : Nat) (acc : List UInt8), n < 10 ^ j → j ≤ k → acc ≠ [] → ∃ ds, decF k n acc = ds ++ acc ∧ ds.length ≤ j ∧ (∀ c ∈ ds, isDig c = true) ∧ digits ds = n
  | 0, k, n, acc, hn, _, ha => by
    have : n = 0 := by omega
    subst this
    refine ⟨[], ?_, Nat.le_refl _, (fun c hc => by cases hc), rfl⟩
    cases k with
    | zero => rfl
    | succ k => rw [decF, if_pos ⟨rfl, ha⟩]; rfl
  | j + 1, k, n, acc, hn, hk, ha => by
    obtain ⟨k, rfl⟩ : ∃ x, k = x + 1 := ⟨k - 1, by omega⟩
    by_cases h0 : n = 0
    · subst h0
      exact ⟨[], by rw [decF, if_pos ⟨rfl, ha⟩]; rfl, Nat.zero_le _, (fun c hc => by cases hc), rfl⟩
    · have hb : (UInt8.ofNat (48 + n % 10)).toNat = 48 + n % 10 := by
        rw [UInt8.toNat_ofNat']
        omega
      rw [Nat.pow_succ] at hn
      obtain ⟨ds, h1, h2, h3, h4⟩ := decF_spec j k (n / 10) (UInt8.ofNat (48 + n % 10) :: acc) (by omega) (by omega) (by simp)
      refine ⟨ds ++ [UInt8.ofNat (48 + n % 10)], ?_, by simp; omega, fun c hc => ?_, ?_⟩
      · rw [decF, if_neg (fun h => h0 h.1), h1]
        simp
      · rcases List.mem_append.1 hc with h | h
        · exact h3 c h
        · rw [List.mem_singleton.1 h]
          simp only [isDig, hb, Bool.and_eq_true, decide_eq_true_eq]
          omega
      · rw [digits_snoc, h4, hb]
        omega

theorem dec_spec (n : Nat) (hn : n < 10 ^ 18) : dec n ≠ [] ∧ (dec n).length ≤ 18 ∧ (∀ c ∈ dec n, isDig c = true) ∧ digits (dec n) = n := by
  have hb : (UInt8.ofNat (48 + n % 10)).toNat = 48 + n % 10 := by
    rw [UInt8.toNat_ofNat']
    omega
  obtain ⟨ds, h1, h2, h3, h4⟩ := decF_spec 17 19 (n / 10) [UInt8.ofNat (48 + n % 10)] (by omega) (by omega) (by simp)
  have e : dec n = ds ++ [UInt8.ofNat (48 + n % 10)] := by
    rw [← h1, dec, decF, if_neg (by simp)]
  rw [e]
  refine ⟨by simp, by simp; omega, fun c hc => ?_, ?_⟩
  · rcases List.mem_append.1 hc with h | h
    · exact h3 c h
    · rw [List.mem_singleton.1 h]
      simp only [isDig, hb, Bool.and_eq_true, decide_eq_true_eq]
      omega
  · rw [digits_snoc, h4, hb]
    omega

theorem sign_good : ∀ sg, (sg ∈ signs2 ∨ ∃ c ∈ signs1, sg = [c]) → ∃ c r, sg = c :: r ∧ isLet c = false ∧ isDig c = false ∧ c ≠ 10 ∧ c ≠ 32 ∧ c ≠ 9 ∧ c ≠ 13 ∧ (c = 47 → r = []) ∧ sg.length ≤ 2 := by
  have h2 : ∀ sg ∈ signs2, ∃ c r, sg = c :: r ∧ isLet c = false ∧ isDig c = false ∧ c ≠ 10 ∧ c ≠ 32 ∧ c ≠ 9 ∧ c ≠ 13 ∧ (c = 47 → r = []) ∧ sg.length ≤ 2 := by
    intro sg h
    simp only [signs2, List.mem_cons, List.not_mem_nil, or_false] at h
    rcases h with rfl | rfl | rfl <;> exact ⟨_, _, rfl, rfl, rfl, by decide, by decide, by decide, by decide, by decide, by decide⟩
  have h1 : ∀ c ∈ signs1, isLet c = false ∧ isDig c = false ∧ c ≠ 10 ∧ c ≠ 32 ∧ c ≠ 9 ∧ c ≠ 13 := by decide
  rintro sg (h | ⟨c, hc, rfl⟩)
  · exact h2 sg h
  · obtain ⟨a1, a2, a3, a4, a5, a6⟩ := h1 c hc
    exact ⟨c, [], rfl, a1, a2, a3, a4, a5, a6, fun _ => rfl, by simp⟩

theorem sign_app {sg rest : List UInt8} (hr : Gap rest) (h : sg ∈ signs2 ∨ ∃ c ∈ signs1, sg = [c]) (h1 : ∀ c, sg = [c] → c ∈ signs1) : sign (sg ++ rest) = sg := by
  have hlen : ∀ w ∈ signs2, w.length = 2 := by decide
  rcases h with h | ⟨c, hc, rfl⟩
  · unfold sign
    have : (sg ++ rest).take 2 = sg := by
      rw [List.take_append_of_le_length (by rw [hlen _ h]; omega), List.take_of_length_le (by rw [hlen _ h]; omega)]
    rw [this, if_pos h]
  · have hn : ¬ ([c] ++ rest).take 2 ∈ signs2 := by
      rcases hr with rfl | ⟨d, r, rfl, hd⟩
      · intro h
        have := hlen _ h
        simp at this
      · intro h
        have h2 : ∀ w ∈ signs2, ∃ a, w = [a, 61] := by
          intro w hw
          simp only [signs2, List.mem_cons, List.not_mem_nil, or_false] at hw
          rcases hw with rfl | rfl | rfl <;> exact ⟨_, rfl⟩
        obtain ⟨a, ha⟩ := h2 _ h
        simp at ha
        rcases hd with rfl | rfl | rfl | rfl <;> exact absurd ha.2 (by decide)
    unfold sign
    rw [if_neg hn]
    show (if c ∈ signs1 then [c] else []) = [c]
    rw [if_pos hc]

theorem sign_is (s : List UInt8) (h : sign s ≠ []) : sign s ∈ signs2 ∨ ∃ c ∈ signs1, sign s = [c] := by
  unfold sign at h ⊢
  split
  · rename_i h2
    exact .inl h2
  · rename_i h2
    rw [if_neg h2] at h
    split at h
    · rename_i c r
      split at h
      · rename_i hc
        simp only [hc, if_true]
        exact .inr ⟨c, hc, rfl⟩
      · exact absurd rfl h
    · exact absurd rfl h

theorem skip_word {w rest : List UInt8} (hr : Gap rest) {c : UInt8} {r : List UInt8} (hw : w = c :: r) (h : c ≠ 10 ∧ c ≠ 32 ∧ c ≠ 9 ∧ c ≠ 13 ∧ (c = 47 → r = [])) (line : Nat) : skip false (w ++ rest) line = (w ++ rest, line) := by
  obtain ⟨h1, h2, h3, h4, h5⟩ := h
  subst hw
  rw [List.cons_append, skip_cons, if_neg h1, cond_false, if_neg (by rintro (h | h | h) <;> contradiction), if_neg]
  rintro ⟨h6, h7⟩
  rw [h5 h6] at h7
  rcases hr with rfl | ⟨d, q, rfl, hd⟩
  · cases h7
  · simp at h7
    rcases hd with rfl | rfl | rfl | rfl <;> exact absurd h7 (by decide)

theorem let_facts {c : UInt8} (h : isNP c = true) : c ≠ 10 ∧ c ≠ 32 ∧ c ≠ 9 ∧ c ≠ 13 ∧ c ≠ 47 := by
  refine ⟨?_, ?_, ?_, ?_, ?_⟩ <;> (rintro rfl; exact absurd h (by decide))

theorem good_of_one {s : List UInt8} {line m : Nat} {t : Tk} (h : Go.Proofs.one s line = .ok (t, m)) : Good t := by
  unfold Go.Proofs.one at h
  split at h
  · cases h
  · rename_i c r
    cases hl : isLet c
    · cases hd : isDig c
      · -- a sign
        simp only [hl, hd, cond_false] at h
        split at h
        · cases h
        · rename_i hne
          cases h
          have hs := sign_is (c :: r) hne
          generalize sign (c :: r) = sg at hs hne
          obtain ⟨a, q, hsg, f1, f2, f3, f4, f5, f6, f7, f8⟩ := sign_good sg hs
          have hw : wordOf ⟨4, line, sg, 0⟩ = sg := rfl
          refine ⟨fun rest line' hr => ?_, fun rest line' hr => ?_, show 0 < 10 ^ 18 by decide, by rw [hw]; omega⟩
          · rw [hw]
            have h2 : sign (sg ++ rest) = sg := sign_app hr hs fun c hc => by
              rcases hs with hs | ⟨c', hc', e⟩
              · have hlen : ∀ w ∈ signs2, w.length = 2 := by decide
                have := hlen _ hs
                rw [hc] at this
                cases this
              · rw [hc] at e
                cases e
                exact hc'
            subst hsg
            unfold Go.Proofs.one
            simp only [List.cons_append, f1, f2, cond_false] at h2 ⊢
            rw [h2, if_neg (by simp)]
          · rw [hw]
            exact skip_word hr hsg ⟨f3, f4, f5, f6, f7⟩ line'
      · -- a number
        simp only [hl, hd, cond_false, cond_true] at h
        split at h
        · cases h
        · rename_i h18
          split at h
          · cases h
          · cases h
            have hall : ∀ x ∈ (c :: r).takeWhile isDig, isDig x = true := fun x hx => mem_tw hx
            have hlt := digits_lt _ _ rfl hall
            have hp : 10 ^ ((c :: r).takeWhile isDig).length ≤ 10 ^ 18 := Nat.pow_le_pow_right (by omega) (by omega)
            generalize digits ((c :: r).takeWhile isDig) = v at hlt
            have hv : v < 10 ^ 18 := by omega
            obtain ⟨d1, d2, d3, d4⟩ := dec_spec v hv
            have hw : wordOf ⟨2, line, [], v⟩ = dec v := rfl
            generalize dec v = ds at d1 d2 d3 d4 hw
            obtain ⟨a, q, rfl⟩ : ∃ a q, ds = a :: q := by
              cases ds with
              | nil => exact absurd rfl d1
              | cons a q => exact ⟨a, q, rfl⟩
            have ha := d3 a (by simp)
            have hal : isLet a = false := by
              cases hl : isLet a with
              | false => rfl
              | true => simp [isLet, isDig] at hl ha; omega
            obtain ⟨g1, g2, g3, g4, g5⟩ := let_facts (c := a) (by simp [isNP, ha])
            refine ⟨fun rest line' hr => ?_, fun rest line' hr => ?_, hv, by rw [hw]; omega⟩
            · rw [hw]
              have htw : (a :: q ++ rest).takeWhile isDig = a :: q := tw_app (hr.no rfl rfl rfl rfl) d3
              have hhd : (((a :: q ++ rest).drop (a :: q).length).head?.map isNP).getD false = false := by
                rw [List.drop_left]
                rcases hr.no (q := isNP) rfl rfl rfl rfl with rfl | ⟨d, r', rfl, hd⟩
                · rfl
                · simpa using hd
              unfold Go.Proofs.one
              simp only [List.cons_append, hal, ha, cond_false, cond_true] at htw hhd ⊢
              simp only [htw, hhd, if_neg (show ¬ 18 < (a :: q).length by omega), d4]
              rfl
            · rw [hw]
              exact skip_word hr rfl ⟨g1, g2, g3, g4, fun h => absurd h g5⟩ line'
    · -- a name or a word
      simp only [hl, cond_true] at h
      split at h
      · cases h
      · rename_i h12
        cases h
        have hall : ∀ x ∈ (c :: r).takeWhile isNP, isNP x = true := fun x hx => mem_tw hx
        have hhd : ∃ q, (c :: r).takeWhile isNP = c :: q := ⟨r.takeWhile isNP, by rw [List.takeWhile_cons, if_pos (by simp [isNP, hl])]⟩
        obtain ⟨q, hq⟩ := hhd
        generalize (c :: r).takeWhile isNP = nm at hall hq h12
        subst hq
        have hw : wordOf ⟨if c :: q ∈ words then 3 else 1, line, c :: q, 0⟩ = c :: q := by
          unfold wordOf
          rw [if_neg]
          simp only
          split <;> decide
        obtain ⟨g1, g2, g3, g4, g5⟩ := let_facts (hall c (by simp))
        refine ⟨fun rest line' hr => ?_, fun rest line' hr => ?_, show 0 < 10 ^ 18 by decide, by rw [hw]; omega⟩
        · rw [hw]
          have htw : (c :: q ++ rest).takeWhile isNP = c :: q := tw_app (hr.no rfl rfl rfl rfl) hall
          unfold Go.Proofs.one
          simp only [List.cons_append, hl, cond_true] at htw ⊢
          simp only [htw, if_neg h12]
        · rw [hw]
          exact skip_word hr rfl ⟨g1, g2, g3, g4, fun h => absurd h g5⟩ line'

/-- The gaps of the law. -/
def gaps : List (List UInt8) := [[32], [9, 32], [10], [32, 47, 47, 32, 97, 32, 42, 32, 49, 98, 32, 36, 10], [13, 10]]
end Go.Proofs
/- The printed text of an expression is scanned as its tokens. No program in sight. -/
namespace Go.Proofs

/-- A name that is no reserved word. -/
def Nm (s : List UInt8) : Prop := ∃ c r, s = c :: r ∧ isLet c = true ∧ (∀ x ∈ s, isNP x = true) ∧ s.length ≤ 12 ∧ s ∉ words
def Nu (n : Nat) : Prop := n < 10 ^ 18
def NF (rest : List UInt8) : Prop := rest = [] ∨ ∃ c r, rest = c :: r ∧ isNP c = false

def pby (b : Bool) (l : List UInt8) : List UInt8 := if b then 40 :: (l ++ [41]) else l
/-- The printed text. -/
def xby : Xp → List UInt8
  | .lit n => dec n
  | .var s => s
  | .fld s f => s ++ 46 :: f
  | .elt s a => s ++ 91 :: (xby a ++ [93])
  | .una op a => (if op = 4 then 45 else 33) :: pby (decide (lvX a < 5)) (xby a)
  | .bin op a b => pby (lpar op a) (xby a) ++ 32 :: (sgO op ++ 32 :: pby (rpar op b) (xby b))

theorem lex_tok {w rest : List UInt8} {line : Nat} {t : Tk} (hne : w ≠ []) (hs : skip false (w ++ rest) line = (w ++ rest, line)) (ho : one (w ++ rest) line = .ok (t, w.length)) :
    lex (w ++ rest) line = (t :: (lex rest line).1, (lex rest line).2) := by
  have hne2 : w ++ rest ≠ [] := fun h => hne (List.append_eq_nil_iff.1 h).1
  unfold lex
  rw [hs]
  simp only
  rw [lx_ok' hne2 (by omega) ho, List.drop_left]
  rfl

theorem lex_blank (rest : List UInt8) : lex (32 :: rest) 1 = lex rest 1 := by
  unfold lex
  rw [show skip false (32 :: rest) 1 = skip false rest 1 from rfl]
  have h := skip_len rest 1
  exact lx_fuel _ _ _ _ _ (Nat.le_refl _) (by simp only [List.length_cons]; omega) (by omega)

theorem let_skip {c : UInt8} {r : List UInt8} (h : isNP c = true) : skip false (c :: r) 1 = (c :: r, 1) := by
  obtain ⟨h1, h2, h3, h4, h5⟩ := let_facts h
  rw [skip_cons, if_neg h1, cond_false, if_neg (by simp [h2, h3, h4]), if_neg (by simp [h5])]

theorem lex_name {s rest : List UInt8} (h : Nm s) (hr : NF rest) : lex (s ++ rest) 1 = (tN s :: (lex rest 1).1, (lex rest 1).2) := by
  obtain ⟨c, r, rfl, h1, h2, h3, h4⟩ := h
  refine lex_tok (by simp) (let_skip (h2 c (by simp))) ?_
  have ht : ((c :: r) ++ rest).takeWhile isNP = c :: r := tw_app hr h2
  show (bif isLet c then _ else _) = _
  rw [h1, cond_true]
  have e : (c :: (r ++ rest)).takeWhile isNP = c :: r := ht
  show (if 12 < ((c :: (r ++ rest)).takeWhile isNP).length then _ else _) = _
  rw [e, if_neg (by omega)]
  show Except.ok (({ kind := if (c :: (r ++ rest)).takeWhile isNP ∈ words then 3 else 1, line := 1, text := (c :: (r ++ rest)).takeWhile isNP, num := 0 } : Tk), ((c :: (r ++ rest)).takeWhile isNP).length) = _
  rw [e, if_neg h4]
  rfl

theorem dig_np {c : UInt8} (h : isDig c = true) : isNP c = true ∧ isLet c = false := by
  refine ⟨by simp [isNP, h], ?_⟩
  unfold isDig at h
  unfold isLet
  simp only [Bool.and_eq_true, decide_eq_true_eq] at h
  simp only [Bool.or_eq_false_iff, Bool.and_eq_false_iff, decide_eq_false_iff_not]
  omega

theorem lex_num {n : Nat} {rest : List UInt8} (h : Nu n) (hr : NF rest) : lex (dec n ++ rest) 1 = (⟨2, 1, [], n⟩ :: (lex rest 1).1, (lex rest 1).2) := by
  obtain ⟨h1, h2, h3, h4⟩ := dec_spec n h
  generalize dec n = w at h1 h2 h3 h4
  cases w with
  | nil => exact absurd rfl h1
  | cons c r =>
    obtain ⟨k1, k2⟩ := dig_np (h3 c (by simp))
    refine lex_tok h1 (let_skip k1) ?_
    have hr' : rest = [] ∨ ∃ c r, rest = c :: r ∧ isDig c = false := by
      rcases hr with h | ⟨c', r', h, hc⟩
      · exact .inl h
      · refine .inr ⟨c', r', h, ?_⟩
        unfold isNP at hc
        exact (Bool.or_eq_false_iff.1 hc).2
    have e : (c :: (r ++ rest)).takeWhile isDig = c :: r := tw_app hr' h3
    show (bif isLet c then _ else bif isDig c then _ else _) = _
    rw [k2, cond_false, h3 c (by simp), cond_true]
    show (if 18 < ((c :: (r ++ rest)).takeWhile isDig).length then _ else if (((c :: (r ++ rest)).drop ((c :: (r ++ rest)).takeWhile isDig).length).head?.map isNP).getD false = true then _ else _) = _
    rw [e, if_neg (by omega), show (c :: (r ++ rest)).drop (c :: r).length = rest from List.drop_left (l₁ := c :: r), if_neg]
    · show Except.ok (({ kind := 2, line := 1, text := [], num := digits ((c :: (r ++ rest)).takeWhile isDig) } : Tk), ((c :: (r ++ rest)).takeWhile isDig).length) = _
      rw [e, h4]
    rcases hr with h | ⟨c', r', h, hc⟩
    · subst h; simp
    · subst h; simp [hc]

theorem lex_s1 {c : UInt8} (hc : c = 40 ∨ c = 41 ∨ c = 91 ∨ c = 93 ∨ c = 46 ∨ c = 45) (rest : List UInt8) : lex (c :: rest) 1 = (tS [c] :: (lex rest 1).1, (lex rest 1).2) := by
  have hs : sign (c :: rest) = [c] := by
    unfold sign
    have : (c :: rest).take 2 ∉ signs2 := by
      cases rest with
      | nil => rcases hc with rfl | rfl | rfl | rfl | rfl | rfl <;> decide
      | cons d r => rcases hc with rfl | rfl | rfl | rfl | rfl | rfl <;> simp [signs2]
    rw [if_neg this]
    have : c ∈ signs1 := by rcases hc with rfl | rfl | rfl | rfl | rfl | rfl <;> decide
    simp only [if_pos this]
  refine lex_tok (w := [c]) (by simp) ?_ ?_
  · show skip false (c :: rest) 1 = _
    rw [skip_cons]
    rcases hc with rfl | rfl | rfl | rfl | rfl | rfl <;> simp
  · show (bif isLet c then _ else bif isDig c then _ else if sign (c :: rest) = [] then _ else Except.ok (({ kind := 4, line := 1, text := sign (c :: rest), num := 0 } : Tk), (sign (c :: rest)).length)) = _
    rw [hs]
    rcases hc with rfl | rfl | rfl | rfl | rfl | rfl <;> rfl

theorem lex_not {rest : List UInt8} (h : rest.head? ≠ some 61) : lex (33 :: rest) 1 = (tS [33] :: (lex rest 1).1, (lex rest 1).2) := by
  have hs : sign (33 :: rest) = [33] := by
    unfold sign
    have : (33 :: rest).take 2 ∉ signs2 := by
      cases rest with
      | nil => decide
      | cons d r =>
        have hd : d ≠ 61 := fun e => h (by rw [e]; rfl)
        simp [signs2, hd]
    rw [if_neg this]
    rfl
  refine lex_tok (w := [33]) (by simp) rfl ?_
  show (if sign (33 :: rest) = [] then Except.error 6 else Except.ok (({ kind := 4, line := 1, text := sign (33 :: rest), num := 0 } : Tk), (sign (33 :: rest)).length)) = _
  rw [hs]
  rfl

theorem lex_op {op : Nat} (h6 : 6 ≤ op) (h17 : op ≤ 17) (rest : List UInt8) : lex (sgO op ++ 32 :: rest) 1 = (tS (sgO op) :: (lex rest 1).1, (lex rest 1).2) := by
  have key : lex (sgO op ++ 32 :: rest) 1 = (tS (sgO op) :: (lex (32 :: rest) 1).1, (lex (32 :: rest) 1).2) := by
    have : op = 6 ∨ op = 7 ∨ op = 8 ∨ op = 9 ∨ op = 10 ∨ op = 11 ∨ op = 12 ∨ op = 13 ∨ op = 14 ∨ op = 15 ∨ op = 16 ∨ op = 17 := by omega
    rcases this with rfl | rfl | rfl | rfl | rfl | rfl | rfl | rfl | rfl | rfl | rfl | rfl <;> exact lex_tok (by decide) rfl rfl
  rw [key, lex_blank]

/-- The first byte of a printed text. -/
theorem xby_head : ∀ x : Xp, WX Nm Nu x → ∃ c r, xby x = c :: r ∧ c ≠ 61
  | .lit n, h => by
    obtain ⟨h1, _, h3, _⟩ := dec_spec n h
    cases hd : dec n with
    | nil => exact absurd hd h1
    | cons c r =>
      refine ⟨c, r, hd, fun e => ?_⟩
      have := h3 c (by rw [hd]; simp)
      rw [e] at this
      revert this
      decide
  | .var s, h => by
    obtain ⟨c, r, rfl, h1, _⟩ := (h : Nm s)
    exact ⟨c, r, rfl, fun e => by rw [e] at h1; revert h1; decide⟩
  | .fld s f, h => by
    obtain ⟨c, r, rfl, h1, _⟩ := (h : Nm s ∧ Nm f).1
    exact ⟨c, r ++ 46 :: f, rfl, fun e => by rw [e] at h1; revert h1; decide⟩
  | .elt s a, h => by
    obtain ⟨c, r, rfl, h1, _⟩ := (h : Nm s ∧ WX Nm Nu a).1
    exact ⟨c, r ++ 91 :: (xby a ++ [93]), rfl, fun e => by rw [e] at h1; revert h1; decide⟩
  | .una op a, _ => ⟨_, _, rfl, by split <;> decide⟩
  | .bin op a b, h => by
    obtain ⟨c, r, h1, h2⟩ := xby_head a (h : WX Nm Nu a ∧ WX Nm Nu b).1
    cases hp : lpar op a with
    | true => exact ⟨40, xby a ++ [41] ++ 32 :: (sgO op ++ 32 :: pby (rpar op b) (xby b)), by simp [xby, hp, pby], by decide⟩
    | false => exact ⟨c, r ++ 32 :: (sgO op ++ 32 :: pby (rpar op b) (xby b)), by simp [xby, hp, pby, h1], h2⟩

theorem lex_par {x : List UInt8} {tx : List Tk} (h : ∀ rest, NF rest → lex (x ++ rest) 1 = (tx ++ (lex rest 1).1, (lex rest 1).2)) (b : Bool) (rest : List UInt8) (hr : NF rest) :
    lex (pby b x ++ rest) 1 = (par b tx ++ (lex rest 1).1, (lex rest 1).2) := by
  cases b with
  | false => exact h rest hr
  | true =>
    have e : pby true x ++ rest = 40 :: (x ++ 41 :: rest) := by simp [pby]
    rw [e, lex_s1 (by simp), h (41 :: rest) (.inr ⟨41, rest, rfl, by decide⟩), lex_s1 (by simp)]
    simp [par]

theorem lex_x : ∀ x : Xp, Wop x → WX Nm Nu x → ∀ rest, NF rest → lex (xby x ++ rest) 1 = (xtk x ++ (lex rest 1).1, (lex rest 1).2)
  | .lit n, _, h, rest, hr => lex_num h hr
  | .var s, _, h, rest, hr => lex_name h hr
  | .fld s f, _, h, rest, hr => by
    obtain ⟨h1, h2⟩ := (h : Nm s ∧ Nm f)
    have e : xby (.fld s f) ++ rest = s ++ (46 :: (f ++ rest)) := by simp [xby]
    rw [e, lex_name h1 (.inr ⟨46, _, rfl, by decide⟩), lex_s1 (by simp), lex_name h2 hr]
    rfl
  | .elt s a, hw, h, rest, hr => by
    obtain ⟨h1, h2⟩ := (h : Nm s ∧ WX Nm Nu a)
    have e : xby (.elt s a) ++ rest = s ++ (91 :: (xby a ++ (93 :: rest))) := by simp [xby]
    rw [e, lex_name h1 (.inr ⟨91, _, rfl, by decide⟩), lex_s1 (by simp), lex_x a hw h2 (93 :: rest) (.inr ⟨93, _, rfl, by decide⟩), lex_s1 (by simp)]
    simp [xtk]
  | .una op a, hw, h, rest, hr => by
    have ih := lex_par (lex_x a (hw : _ ∧ Wop a).2 h) (decide (lvX a < 5)) rest hr
    have e : xby (.una op a) ++ rest = (if op = 4 then 45 else 33) :: (pby (decide (lvX a < 5)) (xby a) ++ rest) := rfl
    obtain ⟨c, r, g1, g2⟩ := xby_head a h
    have hh : (pby (decide (lvX a < 5)) (xby a) ++ rest).head? ≠ some 61 := by
      cases decide (lvX a < 5) with
      | true => simp [pby]
      | false => simp [pby, g1, g2]
    rw [e]
    rcases (hw : _ ∧ Wop a).1 with rfl | rfl
    · rw [if_pos rfl, lex_s1 (by simp), ih]
      rfl
    · rw [if_neg (by decide), lex_not hh, ih]
      rfl
  | .bin op a b, hw, h, rest, hr => by
    obtain ⟨h6, h17, wa, wb⟩ := hw
    obtain ⟨ha, hb⟩ := (h : WX Nm Nu a ∧ WX Nm Nu b)
    have iha := fun rest hr => lex_par (lex_x a wa ha) (lpar op a) rest hr
    have ihb := lex_par (lex_x b wb hb) (rpar op b) rest hr
    have e : xby (.bin op a b) ++ rest = pby (lpar op a) (xby a) ++ (32 :: (sgO op ++ 32 :: (pby (rpar op b) (xby b) ++ rest))) := by simp [xby]
    rw [e, iha _ (.inr ⟨32, _, rfl, by decide⟩), lex_blank, lex_op h6 h17, ihb]
    simp [xtk]
end Go.Proofs
/- The tokens of a scanned text: names, numbers, lengths, parentheses. No program in sight. -/
namespace Go.Proofs

def tw (ts : List Tk) : Nat := (ts.map fun t => (wordOf t).length).sum
def c40 (s : List UInt8) : Nat := s.countP (· == 40)

theorem c40_split (s : List UInt8) (k : Nat) : c40 (s.take k) + c40 (s.drop k) = c40 s := by
  conv => rhs; rw [← List.take_append_drop k s]
  unfold c40
  rw [List.countP_append]
theorem c40_drop (s : List UInt8) (k : Nat) : c40 (s.drop k) ≤ c40 s := by
  have := c40_split s k
  omega

theorem dec_len {n j : Nat} (hj : 1 ≤ j) (h18 : j ≤ 18) (h : n < 10 ^ j) : (dec n).length ≤ j := by
  obtain ⟨j, rfl⟩ : ∃ i, j = i + 1 := ⟨j - 1, by omega⟩
  have hn : n / 10 < 10 ^ j := by
    rw [Nat.pow_succ] at h
    omega
  obtain ⟨ds, h1, h2, _⟩ := decF_spec j 19 (n / 10) [UInt8.ofNat (48 + n % 10)] hn (by omega) (by simp)
  have e : dec n = ds ++ [UInt8.ofNat (48 + n % 10)] := by
    rw [← h1, dec, decF, if_neg (by simp)]
  rw [e]
  simp
  omega

theorem one_tok {s : List UInt8} {line m : Nat} {t : Tk} (h : one s line = .ok (t, m)) :
    (t.kind = 1 → Nm t.text) ∧ (t.kind = 2 → Nu t.num) ∧ (wordOf t).length ≤ m ∧ b1 (sg t [40]) ≤ c40 (s.take m) ∧ t.kind ≠ 0 := by
  have hg := good_of_one h
  unfold one at h
  split at h
  · cases h
  · rename_i c r
    cases hl : isLet c
    · cases hd : isDig c
      · simp only [hl, hd, cond_false] at h
        split at h
        · cases h
        · cases h
          refine ⟨fun h => (by cases h), fun h => (by cases h), Nat.le_refl _, ?_, (by show (4 : Nat) ≠ 0; decide)⟩
          have hs := sign_take (c :: r)
          generalize hq : sign (c :: r) = q at *
          by_cases hp : q = [40]
          · subst hp
            rw [← hs]
            exact b1_le _
          · rw [show sg ⟨4, line, q, 0⟩ [40] = false from decide_eq_false fun h => hp h.2]
            exact Nat.zero_le _
      · simp only [hl, hd, cond_false, cond_true] at h
        split at h
        · cases h
        rename_i h18
        split at h
        · cases h
        · cases h
          refine ⟨fun h => (by cases h), fun _ => hg.num, ?_, Nat.zero_le _, (by show (2 : Nat) ≠ 0; decide)⟩
          have hall : ∀ x ∈ (c :: r).takeWhile isDig, isDig x = true := fun x hx => mem_tw hx
          have hlt := digits_lt _ _ rfl hall
          have h1 : 1 ≤ ((c :: r).takeWhile isDig).length := by
            rw [List.takeWhile_cons, hd]
            simp
          exact dec_len h1 (by omega) hlt
    · simp only [hl, cond_true] at h
      split at h
      · cases h
      · rename_i h12
        cases h
        have hnk : (if (c :: r).takeWhile isNP ∈ words then 3 else 1) ≠ 2 := by split <;> decide
        have hn0 : (if (c :: r).takeWhile isNP ∈ words then 3 else 1) ≠ 0 := by split <;> decide
        have hn4 : (if (c :: r).takeWhile isNP ∈ words then 3 else 1) ≠ 4 := by split <;> decide
        refine ⟨fun hk => ?_, fun hk => absurd hk hnk, ?_, ?_, hn0⟩
        · have hw : (c :: r).takeWhile isNP ∉ words := by
            intro hw
            simp only [if_pos hw] at hk
            cases hk
          refine ⟨c, r.takeWhile isNP, ?_, hl, fun x hx => mem_tw hx, (by show ((c :: r).takeWhile isNP).length ≤ 12; omega), hw⟩
          show (c :: r).takeWhile isNP = _
          rw [List.takeWhile_cons, show isNP c = true by simp [isNP, hl]]
          rfl
        · unfold wordOf
          rw [if_neg hnk]
          exact Nat.le_refl _
        · rw [show sg _ [40] = false from decide_eq_false fun h => hn4 h.1]
          exact Nat.zero_le _

theorem opn_cons (t : Tk) (ts : List Tk) : opn (t :: ts) = opn ts + b1 (sg t [40]) := by
  unfold opn b1
  rw [List.countP_cons]
theorem tw_cons (t : Tk) (ts : List Tk) : tw (t :: ts) = (wordOf t).length + tw ts := by
  unfold tw
  rw [List.map_cons, List.sum_cons]

theorem scanL_tok : ∀ (k : Nat) (s : List UInt8) (line : Nat) (out : List Tk), s.length < k → (scanL k s line out).2.2 = 0 →
    ∃ ts l, scanL k s line out = (out ++ ts ++ [⟨0, l, [], 0⟩], 0, 0) ∧ GT Nm Nu ts ∧ tw ts ≤ s.length ∧ opn ts ≤ c40 s ∧ ∀ t ∈ ts, t.kind ≠ 0
  | k + 1, [], line, out, _, _ => ⟨[], line, by simp [scanL], fun t h => (by cases h), Nat.zero_le _, Nat.zero_le _, fun t h => (by cases h)⟩
  | k + 1, c :: r, line, out, hk, he => by
    cases ho : one (c :: r) line with
    | error e =>
      have h1 := one_err ho
      rw [scanL, ho] at he
      simp only at he
      omega
    | ok p =>
      obtain ⟨t, m⟩ := p
      obtain ⟨t1, t2, t3, t4, t5⟩ := one_tok ho
      have hr := rest_lt ho line
      obtain ⟨m1, m2, _⟩ := one_ok ho
      obtain ⟨s1, _, _, j, hj⟩ := skip_le false ((c :: r).drop m) line
      rw [scanL, ho] at he ⊢
      simp only at he ⊢
      split
      · rename_i h2
        rw [if_pos h2] at he
        cases he
      · rename_i h2
        rw [if_neg h2] at he
        obtain ⟨ts, l, e, g1, g2, g3, g4⟩ := scanL_tok k _ _ (out ++ [t]) (by omega) he
        refine ⟨t :: ts, l, by rw [e]; simp, ?_, ?_, ?_, ?_⟩
        · intro u hu
          rcases List.mem_cons.1 hu with rfl | hu
          · exact ⟨t1, t2⟩
          · exact g1 u hu
        · rw [tw_cons]
          rw [List.length_drop] at s1
          omega
        · rw [opn_cons]
          have d1 := c40_split (c :: r) m
          have d2 := c40_drop ((c :: r).drop m) j
          rw [← hj] at d2
          omega
        · intro u hu
          rcases List.mem_cons.1 hu with rfl | hu
          · exact t5
          · exact g4 u hu

theorem scan_tok (s : List UInt8) (he : (scan s).2.2 = 0) : ∃ ts l, scan s = (ts ++ [⟨0, l, [], 0⟩], 0, 0) ∧ GT Nm Nu ts ∧ tw ts ≤ s.length ∧ opn ts ≤ c40 s ∧ ∀ t ∈ ts, t.kind ≠ 0 := by
  unfold scan at he ⊢
  split at he
  · cases he
  · rename_i h
    rw [if_neg h]
    obtain ⟨h1, _, _, j, hj⟩ := skip_le false s 1
    obtain ⟨ts, l, e, g1, g2, g3, g4⟩ := scanL_tok (s.length + 1) (skip false s 1).1 (skip false s 1).2 [] (by omega) he
    refine ⟨ts, l, by rw [e]; rfl, g1, by omega, ?_, g4⟩
    have := c40_drop s j
    rw [← hj] at this
    omega
end Go.Proofs
/- A parsed expression's printed text is at most three times as long as the text. No program in sight. -/
namespace Go.Proofs

def bl (x : Xp) : Nat := (xby x).length
def tl (x : Xp) : Nat := (xtk x).length

theorem tw_tail (ts : List Tk) : tw ts.tail + (wordOf (hd ts)).length = tw ts := by
  cases ts with
  | nil => rfl
  | cons t r =>
    rw [tw_cons]
    show tw r + (wordOf t).length = _
    omega
theorem len_tail {ts : List Tk} (h : (hd ts).kind ≠ 0) : ts.tail.length + 1 = ts.length := by
  cases ts with
  | nil => exact absurd rfl h
  | cons t r => rfl
theorem sg_word {t : Tk} {s : List UInt8} (h : sg t s = true) : (wordOf t).length = s.length ∧ t.kind ≠ 0 := by
  have h : t.kind = 4 ∧ t.text = s := of_decide_eq_true h
  unfold wordOf
  rw [if_neg (by omega), h.2]
  exact ⟨rfl, by omega⟩
theorem bin_text {t : Tk} (h : (bin t).1 ≠ 0) : (wordOf t).length = (sgO (bin t).2).length ∧ 1 ≤ (sgO (bin t).2).length ∧ t.kind ≠ 0 := by
  unfold bin at *
  cases hf : binL.find? fun o => sg t o.1 with
  | none => rw [hf] at h; exact absurd rfl h
  | some o =>
    have h1 := List.mem_of_find?_eq_some hf
    have h2 := List.find?_some hf
    have h3 : ∀ o ∈ binL, sgO o.2.2 = o.1 ∧ 1 ≤ o.1.length := by decide
    obtain ⟨a1, a2⟩ := h3 o h1
    obtain ⟨w1, w2⟩ := sg_word h2
    show _ = (sgO o.2.2).length ∧ 1 ≤ (sgO o.2.2).length ∧ _
    rw [a1]
    exact ⟨w1, a2, w2⟩

theorem bl_pby (b : Bool) (l : List UInt8) : (pby b l).length = l.length + 2 * b1 b := by
  cases b <;> simp [pby, b1]
theorem tl_par (b : Bool) (l : List Tk) : (par b l).length = l.length + 2 * b1 b := by
  cases b <;> simp [par, b1]
theorem bl_bin (op : Nat) (a b : Xp) : bl (.bin op a b) = bl a + 2 * b1 (lpar op a) + 2 + (sgO op).length + bl b + 2 * b1 (rpar op b) := by
  unfold bl
  simp only [xby, List.length_append, List.length_cons, bl_pby]
  omega
theorem tl_bin (op : Nat) (a b : Xp) : tl (.bin op a b) = tl a + 2 * b1 (lpar op a) + 1 + tl b + 2 * b1 (rpar op b) := by
  unfold tl
  simp only [xtk, List.length_append, List.length_cons, tl_par]
  omega
theorem bl_una (op : Nat) (a : Xp) : bl (.una op a) = 1 + bl a + 2 * pen 5 a ∧ tl (.una op a) = 1 + tl a + 2 * pen 5 a := by
  have h1 : bl (.una op a) = (pby (decide (lvX a < 5)) (xby a)).length + 1 := rfl
  have h2 : tl (.una op a) = (par (decide (lvX a < 5)) (xtk a)).length + 1 := rfl
  rw [bl_pby] at h1
  rw [tl_par] at h2
  have e1 : bl a = (xby a).length := rfl
  have e2 : tl a = (xtk a).length := rfl
  have e3 : pen 5 a = b1 (decide (lvX a < 5)) := rfl
  exact ⟨by omega, by omega⟩
theorem bl_elt (s : List UInt8) (a : Xp) : bl (.elt s a) = s.length + bl a + 2 ∧ tl (.elt s a) = tl a + 3 := by
  have h1 : bl (.elt s a) = (s ++ 91 :: (xby a ++ [93])).length := rfl
  have h2 : tl (.elt s a) = (xtk a ++ [tS [93]]).length + 1 + 1 := rfl
  rw [List.length_append, List.length_cons, List.length_append, List.length_cons, List.length_nil] at h1
  rw [List.length_append, List.length_cons, List.length_nil] at h2
  have e1 : bl a = (xby a).length := rfl
  have e2 : tl a = (xtk a).length := rfl
  exact ⟨by omega, by omega⟩

/-- Lengths of the printed text and of its tokens. -/
def WL (ts : List Tk) (x : Xp) (r : List Tk) (p : Nat) : Prop := 3 * tw r + bl x + 2 * p ≤ 3 * tw ts ∧ r.length + tl x + 2 * p ≤ ts.length

theorem wl : ∀ k : Nat, (∀ lv d ts x r, 1 ≤ lv → lv ≤ 5 → pe k lv d ts = .ok (x, r) → WL ts x r (pen lv x)) ∧
    (∀ lv d a ts x r, 1 ≤ lv → lv ≤ 4 → pl k lv d a ts = .ok (x, r) →
      3 * tw r + bl x + 2 * pen lv x ≤ 3 * tw ts + bl a + 2 * penL lv a ∧ r.length + tl x + 2 * pen lv x ≤ ts.length + tl a + 2 * penL lv a) ∧
    (∀ d ts x r, po k d ts = .ok (x, r) → WL ts x r (pen 5 x))
  | 0 => ⟨fun _ _ _ _ _ _ _ h => (by rw [pe] at h; cases h), fun _ _ _ _ _ _ _ _ h => (by rw [pl] at h; cases h), fun _ _ _ _ h => (by rw [po] at h; cases h)⟩
  | k + 1 => by
    obtain ⟨i1, i2, i3⟩ := wl k
    refine ⟨fun lv d ts x r h1 h5 h => ?_, fun lv d a ts x r h1 h4 h => ?_, fun d ts x r h => ?_⟩
    · rw [pe_succ] at h
      split at h
      · have : lv = 5 := by omega
        subst this
        exact i3 d ts x r h
      · cases hp : pe k (lv + 1) d ts with
        | error e => rw [hp] at h; cases h
        | ok p =>
          obtain ⟨a, r1⟩ := p
          rw [hp] at h
          simp only at h
          obtain ⟨a1, a2⟩ := i1 (lv + 1) d ts a r1 (by omega) (by omega) hp
          have hu := pen_up lv a h1
          obtain ⟨c1, c2⟩ := i2 lv d a r1 x r h1 (by omega) h
          exact ⟨by omega, by omega⟩
    · rw [pl_succ] at h
      split at h
      · rename_i hb
        obtain ⟨o1, o2, o3, o4⟩ := bin_op (t := hd ts) (by omega)
        obtain ⟨q1, q2, q3⟩ := bin_text (t := hd ts) (by omega)
        have ot := tw_tail ts
        have ol := len_tail q3
        cases hp : pe k (lv + 1) d ts.tail with
        | error e => rw [hp] at h; cases h
        | ok p =>
          obtain ⟨b, r1⟩ := p
          rw [hp] at h
          simp only at h
          obtain ⟨a1, a2⟩ := i1 (lv + 1) d ts.tail b r1 (by omega) (by omega) hp
          have hl : lvX (.bin (bin (hd ts)).2 a b) = lv := by rw [← hb, ← o1]; rfl
          have elp : b1 (lpar (bin (hd ts)).2 a) = penL lv a := by unfold lpar penL; rw [o1, hb]
          have erp : b1 (rpar (bin (hd ts)).2 b) = pen (lv + 1) b := by
            unfold rpar pen
            rw [o1, hb]
            congr 1
            exact decide_eq_decide.2 (by omega)
          have hbl := bl_bin (bin (hd ts)).2 a b
          have htl := tl_bin (bin (hd ts)).2 a b
          rw [elp, erp] at hbl htl
          have hp0 : pen lv (.bin (bin (hd ts)).2 a b) = 0 := by
            unfold pen
            rw [hl, decide_eq_false (by omega)]
            rfl
          split at h
          · cases h
            rw [hp0]
            exact ⟨by omega, by omega⟩
          · rename_i hl1
            have hp1 : penL lv (.bin (bin (hd ts)).2 a b) = 0 := by
              unfold penL
              rw [hl, decide_eq_false (by omega)]
              rfl
            obtain ⟨c1, c2⟩ := i2 lv d _ r1 x r h1 h4 h
            rw [hp1] at c1 c2
            exact ⟨by omega, by omega⟩
      · cases h
        have hp := pen_le lv a
        exact ⟨by omega, by omega⟩
    · rw [po_succ] at h
      have ot := tw_tail ts
      have ot2 := tw_tail ts.tail
      have ot3 := tw_tail ts.tail.tail
      split at h
      · rename_i hb
        have h0 : (hd ts).kind ≠ 0 := by
          intro e
          simp [beg, sg, e] at hb
        have ol := len_tail h0
        split at h
        · cases h
        split at h
        · rename_i c
          cases h
          have e : pen 5 (.lit (hd ts).num) = 0 := rfl
          have w : (wordOf (hd ts)).length = bl (.lit (hd ts).num) := by unfold wordOf bl; rw [if_pos c]; rfl
          rw [e]
          refine ⟨by omega, ?_⟩
          show _ + 1 + _ ≤ _
          omega
        split at h
        · rename_i c0 c1
          have w : (wordOf (hd ts)).length = (hd ts).text.length := by unfold wordOf; rw [if_neg (by omega)]
          split at h
          · rename_i c2
            obtain ⟨w2, k2⟩ := sg_word c2
            have ol2 := len_tail k2
            split at h
            · rename_i c3
              cases h
              have w3 : (wordOf (hd ts.tail.tail)).length = (hd ts.tail.tail).text.length := by unfold wordOf; rw [if_neg (by omega)]
              have ol3 := len_tail (ts := ts.tail.tail) (by omega)
              have e : pen 5 (.fld (hd ts).text (hd ts.tail.tail).text) = 0 := rfl
              have e2 : bl (.fld (hd ts).text (hd ts.tail.tail).text) = (hd ts).text.length + 1 + (hd ts.tail.tail).text.length := by
                unfold bl
                simp only [xby, List.length_append, List.length_cons]
                omega
              have e3 : tl (.fld (hd ts).text (hd ts.tail.tail).text) = 3 := rfl
              simp only [List.length_cons, List.length_nil] at w2
              rw [e]
              exact ⟨by omega, by omega⟩
            · cases h
          split at h
          · rename_i c2 c3
            obtain ⟨w2, k2⟩ := sg_word c3
            have ol2 := len_tail k2
            cases hp : pe k 1 (d + 1) ts.tail.tail with
            | error e => rw [hp] at h; cases h
            | ok p =>
              obtain ⟨a, r1⟩ := p
              rw [hp] at h
              simp only at h
              obtain ⟨a1, a2⟩ := i1 1 (d + 1) ts.tail.tail a r1 (by omega) (by omega) hp
              have or := tw_tail r1
              split at h
              · rename_i c4
                obtain ⟨w4, k4⟩ := sg_word c4
                have ol4 := len_tail k4
                cases h
                have e : pen 5 (.elt (hd ts).text a) = 0 := rfl
                obtain ⟨e2, e3⟩ := bl_elt (hd ts).text a
                simp only [List.length_cons, List.length_nil] at w2 w4
                rw [e]
                exact ⟨by omega, by omega⟩
              · cases h
          · cases h
            have e : pen 5 (.var (hd ts).text) = 0 := rfl
            have e2 : bl (.var (hd ts).text) = (hd ts).text.length := rfl
            have e3 : tl (.var (hd ts).text) = 1 := rfl
            rw [e]
            exact ⟨by omega, by omega⟩
        rename_i c1 c2
        have h4 : (hd ts).kind = 4 := by
          simp only [beg, Bool.or_eq_true, sg, decide_eq_true_eq] at hb
          omega
        have wt : (wordOf (hd ts)).length = 1 := by
          simp only [beg, Bool.or_eq_true, sg, decide_eq_true_eq] at hb
          unfold wordOf
          rw [if_neg c1]
          rcases hb with ((((h | h) | h) | h) | h)
          · omega
          · omega
          · rw [h.2]; rfl
          · rw [h.2]; rfl
          · rw [h.2]; rfl
        split at h
        · cases hp : pe k 1 (d + 1) ts.tail with
          | error e => rw [hp] at h; cases h
          | ok p =>
            obtain ⟨a, r1⟩ := p
            rw [hp] at h
            simp only at h
            obtain ⟨a1, a2⟩ := i1 1 (d + 1) ts.tail a r1 (by omega) (by omega) hp
            have or := tw_tail r1
            split at h
            · rename_i c4
              obtain ⟨w4, k4⟩ := sg_word c4
              have ol4 := len_tail k4
              cases h
              have hb1 : pen 5 x ≤ 1 := b1_le _
              simp only [List.length_cons, List.length_nil] at w4
              exact ⟨by omega, by omega⟩
            · cases h
        · cases hp : po k (d + 1) ts.tail with
          | error e => rw [hp] at h; cases h
          | ok p =>
            obtain ⟨a, r1⟩ := p
            rw [hp] at h
            simp only at h
            obtain ⟨a1, a2⟩ := i3 (d + 1) ts.tail a r1 hp
            cases h
            obtain ⟨e2, e3⟩ := bl_una (if (hd ts).text = [45] then 4 else 5) a
            have e : pen 5 (.una (if (hd ts).text = [45] then 4 else 5) a) = 0 := rfl
            rw [e]
            exact ⟨by omega, by omega⟩
      · cases h
end Go.Proofs
/- A text's expression; what is parsed, printed and parsed again. No program in sight. -/
namespace Go.Proofs

/-- The expression of a text, or the error. -/
def eparse (s : List UInt8) : Except Nat Xp :=
  if (scan s).2.2 = 0 then
    match qe 1 0 (scan s).1 with
    | .error e => .error e
    | .ok (x, r) => if (hd r).kind = 0 then .ok x else .error 7
  else .error (scan s).2.2

theorem scan_x {x : Xp} (hw : Wop x) (hn : WX Nm Nu x) (hb : bl x ≤ 4000) (ht : tl x ≤ 2000) : scan (xby x) = (xtk x ++ [⟨0, 1, [], 0⟩], 0, 0) := by
  have hb : (xby x).length ≤ 4000 := hb
  have hl := lex_x x hw hn [] (.inl rfl)
  rw [List.append_nil, show lex [] 1 = ([], 1, 0) from rfl, List.append_nil] at hl
  unfold scan
  rw [if_neg (by omega)]
  have h1 := skip_len (xby x) 1
  have h2 : lx ((xby x).length + 1) (skip false (xby x) 1).1 (skip false (xby x) 1).2 = (xtk x, 1, 0) := hl
  rw [scanL_lx _ _ _ _ (by omega) (by rw [h2]; simpa [tl] using ht), h2]
  rfl

theorem tw_snoc (ts : List Tk) (l : Nat) : tw (ts ++ [⟨0, l, [], 0⟩]) = tw ts := by
  unfold tw
  rw [List.map_append, List.sum_append]
  rfl

/-- What is known of a text that is parsed. -/
theorem eparse_ok {s : List UInt8} {x : Xp} (h : eparse s = .ok x) : Wop x ∧ WX Nm Nu x ∧ nd x ≤ 8 ∧ np x ≤ c40 s ∧ bl x ≤ 3 * s.length := by
  unfold eparse at h
  split at h
  · rename_i he
    obtain ⟨ts, l, e, g1, g2, g3, g4⟩ := scan_tok s he
    rw [e] at h
    simp only at h
    cases hq : qe 1 0 (ts ++ [⟨0, l, [], 0⟩]) with
    | error e => rw [hq] at h; cases h
    | ok p =>
      obtain ⟨y, r⟩ := p
      rw [hq] at h
      simp only at h
      split at h
      · cases h
        have hp := qx (Pn := Nm) (Pm := Nu) hq
        have hw := (wl _).1 1 0 _ _ _ (by omega) (by omega) hq
        have hgt : GT Nm Nu (ts ++ [⟨0, l, [], 0⟩]) := by
          intro t ht
          rcases List.mem_append.1 ht with h | h
          · exact g1 t h
          · rw [List.mem_singleton.1 h]
            exact ⟨fun h => (by cases h), fun h => (by cases h)⟩
        have ho : opn (ts ++ [⟨0, l, [], 0⟩]) = opn ts := by
          unfold opn
          rw [List.countP_append]
          rfl
        have n1 := hp.nd
        have n2 := hp.np
        obtain ⟨w1, _⟩ := hw
        rw [ho] at n2
        rw [tw_snoc] at w1
        exact ⟨hp.op, (hp.wx hgt).1, by omega, by omega, by omega⟩
      · cases h
  · cases h

/-- No pair of parentheses can be left out. -/
theorem enoless {s : List UInt8} {x y : Xp} (hc : c40 s < np x) (h : eparse s = .ok y) : y ≠ x := by
  intro e
  subst e
  have := (eparse_ok h).2.2.2.1
  omega
end Go.Proofs
/- An expression whose text is nested too deep is refused for that. No program in sight. -/
namespace Go.Proofs

theorem climbE {d e : Nat} {ts : List Tk} (ho : qo d ts = .error e) : ∀ (n lv : Nat), lv + n = 5 → 1 ≤ lv → qe lv d ts = .error e
  | 0, lv, h, _ => by
    have : lv = 5 := by omega
    subst this
    rw [qe_5, ho]
  | n + 1, lv, h, h1 => by
    rw [qe_lt h1 (by omega), climbE ho n (lv + 1) (by omega) (by omega)]
theorem downE {d e : Nat} {ts : List Tk} {o : Nat} (ho : qe o d ts = .error e) (h5 : o ≤ 5) : ∀ (n lv : Nat), lv + n = o → 1 ≤ lv → qe lv d ts = .error e
  | 0, lv, h, _ => by
    have : lv = o := by omega
    subst this
    exact ho
  | n + 1, lv, h, h1 => by
    rw [qe_lt h1 (by omega), downE ho h5 n (lv + 1) (by omega) (by omega)]

theorem hd_par {b : Bool} {l r : List Tk} (h2 : ∀ r', beg (hd (l ++ r')) = true) : beg (hd (par b l ++ r)) = true := by
  cases b with
  | false => exact h2 r
  | true => rfl
theorem hd_beg : ∀ (x : Xp), Wop x → ∀ r, beg (hd (xtk x ++ r)) = true
  | .lit n, _, r => by simp [xtk, hd, beg]
  | .var s, _, r => by simp [xtk, hd, beg, tN]
  | .fld s f, _, r => by simp [xtk, hd, beg, tN]
  | .elt s a, _, r => by simp [xtk, hd, beg, tN]
  | .una op a, h, r => by
    rcases h.1 with rfl | rfl <;> rfl
  | .bin op a b, h, r => by
    have ih := hd_beg a h.2.2.1
    show beg (hd ((par (lpar op a) (xtk a) ++ _) ++ r)) = true
    rw [List.append_assoc]
    exact hd_par ih

theorem deep_o {x : Xp} (hw : Wop x) {d : Nat} (r : List Tk) (h8 : 8 < d) : qo d (xtk x ++ r) = .error 5 := by
  rw [qo_eq, if_pos (hd_beg x hw r), if_pos h8]

/-- Refused at any level. -/
def RD (x : Xp) : Prop := (∀ lv d r, 1 ≤ lv → lv ≤ 4 → lv ≤ lvX x → 8 < d + nd x → qe lv d (xtk x ++ r) = .error 5) ∧ (5 ≤ lvX x → ∀ d r, 8 < d + nd x → qo d (xtk x ++ r) = .error 5)

theorem RD.of_o {x : Xp} (h : ∀ d r, 8 < d + nd x → qo d (xtk x ++ r) = .error 5) : RD x := ⟨fun lv d r h1 h4 _ h8 => climbE (h d r h8) (5 - lv) lv (by omega) h1, fun _ => h⟩

theorem RD.paren {x : Xp} (h : RD x) (hw : Wop x) {d : Nat} {r : List Tk} (hn : 8 < d + (nd x + 1)) : qo d (par true (xtk x) ++ r) = .error 5 := by
  have e : par true (xtk x) ++ r = tS [40] :: (xtk x ++ (tS [41] :: r)) := by simp [par]
  rw [e, qo_eq, hd_cons, if_pos (by decide)]
  by_cases h8 : 8 < d
  · rw [if_pos h8]
  · rw [if_neg h8, if_neg (by decide), if_neg (by decide), if_pos (by decide), List.tail_cons, h.1 1 (d + 1) _ (by omega) (by omega) (lvX_pos hw) (by omega)]

theorem rd : ∀ x : Xp, Wop x → RD x
  | .lit n, h => RD.of_o fun d r h8 => deep_o h r h8
  | .var s, h => RD.of_o fun d r h8 => deep_o h r h8
  | .fld s f, h => RD.of_o fun d r h8 => deep_o h r h8
  | .elt s a, h => RD.of_o fun d r h8 => by
    have h8 : 8 < d + (nd a + 1) := h8
    have ha : Wop a := h
    by_cases hd8 : 8 < d
    · exact deep_o h r hd8
    · have e : xtk (.elt s a) ++ r = tN s :: tS [91] :: (xtk a ++ (tS [93] :: r)) := by simp [xtk]
      rw [e, qo_eq, hd_cons, if_pos (by simp [beg, tN]), if_neg hd8, if_neg (by simp [tN]), if_pos (by rfl), List.tail_cons, hd_cons, if_neg (by decide), if_pos (by decide), List.tail_cons,
        (rd a ha).1 1 (d + 1) _ (by omega) (by omega) (lvX_pos ha) (by omega)]
  | .una op a, h => RD.of_o fun d r h8 => by
    have h0 : (op = 4 ∨ op = 5) ∧ Wop a := h
    obtain ⟨hop, ha⟩ := h0
    have h8 : 8 < d + (1 + (nd a + if lvX a < 5 then 1 else 0)) := h8
    by_cases hd8 : 8 < d
    · exact deep_o h r hd8
    · have hsub : qo (d + 1) (par (decide (lvX a < 5)) (xtk a) ++ r) = .error 5 := by
        by_cases h5 : lvX a < 5
        · rw [if_pos h5] at h8
          rw [decide_eq_true h5]
          exact (rd a ha).paren ha (by omega)
        · rw [if_neg h5] at h8
          rw [decide_eq_false h5]
          exact (rd a ha).2 (by omega) (d + 1) r (by omega)
      show qo d (_ :: (par (decide (lvX a < 5)) (xtk a) ++ r)) = _
      rcases hop with rfl | rfl
      · rw [qo_eq, hd_cons, if_pos (by decide), if_neg hd8, if_neg (by decide), if_neg (by decide), if_neg (by decide), List.tail_cons, hsub]
      · rw [qo_eq, hd_cons, if_pos (by decide), if_neg hd8, if_neg (by decide), if_neg (by decide), if_neg (by decide), List.tail_cons, hsub]
  | .bin op a b, h => by
    obtain ⟨h6, h17, ha, hb⟩ := h
    obtain ⟨g1, g2, g3, g4, g5⟩ := sgO_bin op h6 h17
    have key : ∀ d r, 8 < d + nd (.bin op a b) → qe (lvO op) d (xtk (.bin op a b) ++ r) = .error 5 := by
      intro d r h8
      have h8 : 8 < d + max (nd a + b1 (lpar op a)) (nd b + b1 (rpar op b)) := h8
      have e : xtk (.bin op a b) ++ r = par (lpar op a) (xtk a) ++ (tS (sgO op) :: (par (rpar op b) (xtk b) ++ r)) := by simp [xtk]
      rw [e]
      generalize hrest : tS (sgO op) :: (par (rpar op b) (xtk b) ++ r) = rest
      by_cases hl : 8 < d + (nd a + b1 (lpar op a))
      · cases hp : lpar op a with
        | true =>
          rw [hp] at hl
          exact climbE ((rd a ha).paren ha (r := rest) hl) (5 - lvO op) (lvO op) (by omega) g2
        | false =>
          rw [hp] at hl
          have := of_decide_eq_false hp
          exact (rd a ha).1 (lvO op) d rest g2 g3 (by omega) hl
      · have hleft : qe (lvO op) d (par (lpar op a) (xtk a) ++ rest) = ql (lvO op) d a rest := by
          have hbin : (bin (hd rest)).1 = lvO op := by rw [← hrest, hd_cons, g1]
          have hs : St0 rest := by rw [← hrest]; exact St0_op h6 h17 _
          cases hp : lpar op a with
          | true =>
            rw [hp] at hl
            have hl : ¬ 8 < d + (nd a + 1) := hl
            exact climb ((rt a ha).paren (lvX_pos ha) (d := d) (rest := rest) (by omega)) (4 - lvO op) (lvO op) (by omega) g2 (by omega)
          | false =>
            rw [hp] at hl
            have hl : ¬ 8 < d + (nd a + 0) := hl
            have := of_decide_eq_false hp
            exact (rt a ha).a (lvO op) d rest g2 g3 (by omega) (by omega) (by omega) (by omega) hs
        have hr : 8 < d + (nd b + b1 (rpar op b)) := by omega
        have hright : qe (lvO op + 1) d (par (rpar op b) (xtk b) ++ r) = .error 5 := by
          cases hp : rpar op b with
          | true =>
            rw [hp] at hr
            exact climbE ((rd b hb).paren hb (r := r) hr) (4 - lvO op) (lvO op + 1) (by omega) (by omega)
          | false =>
            rw [hp] at hr
            have hlt := of_decide_eq_false hp
            by_cases h4 : lvO op = 4
            · rw [h4, qe_5]
              exact (rd b hb).2 (by omega) d r hr
            · exact (rd b hb).1 (lvO op + 1) d r (by omega) (by omega) (by omega) hr
        rw [hleft, ql_eq g2 g3, ← hrest, hd_cons, g1, if_pos rfl, List.tail_cons, hright]
    refine ⟨fun lv d r h1 h4 hlv h8 => ?_, fun h5 => ?_⟩
    · have hlv : lv ≤ lvO op := hlv
      exact downE (key d r h8) (by omega) (lvO op - lv) lv (by omega) h1
    · have h5 : 5 ≤ lvO op := h5
      omega

/-- The printed text of an expression: it is parsed to it, or is nested too deep. -/
theorem eparse_x {x : Xp} (hw : Wop x) (hn : WX Nm Nu x) (hb : bl x ≤ 4000) (ht : tl x ≤ 2000) : eparse (xby x) = if nd x ≤ 8 then .ok x else .error 5 := by
  have hsc := scan_x hw hn hb ht
  unfold eparse
  rw [hsc, if_pos rfl]
  simp only
  by_cases h : nd x ≤ 8
  · rw [if_pos h, (rt x hw).top (lvX_pos hw) (by omega) (by rw [hd_cons]; rfl) ⟨by rw [hd_cons]; rfl, by rw [hd_cons]; rfl⟩]
    rfl
  · rw [if_neg h, (rd x hw).1 1 0 _ (by omega) (by omega) (lvX_pos hw) (by omega)]
end Go.Proofs
/- Parentheses of a printed text: how many, and balanced. No program in sight. -/
namespace Go.Proofs

def c41 (s : List UInt8) : Nat := s.countP (· == 41)
def NoP (s : List UInt8) : Prop := ∀ c ∈ s, c ≠ 40 ∧ c ≠ 41

theorem c40_append (a b : List UInt8) : c40 (a ++ b) = c40 a + c40 b := List.countP_append ..
theorem c41_append (a b : List UInt8) : c41 (a ++ b) = c41 a + c41 b := List.countP_append ..
theorem c40_cons (c : UInt8) (r : List UInt8) : c40 (c :: r) = c40 r + if c = 40 then 1 else 0 := by
  unfold c40
  rw [List.countP_cons]
  by_cases h : c = 40 <;> simp [h]
theorem c41_cons (c : UInt8) (r : List UInt8) : c41 (c :: r) = c41 r + if c = 41 then 1 else 0 := by
  unfold c41
  rw [List.countP_cons]
  by_cases h : c = 41 <;> simp [h]
theorem NoP.zero {s : List UInt8} (h : NoP s) : c40 s = 0 ∧ c41 s = 0 := by
  constructor
  · unfold c40
    rw [List.countP_eq_zero]
    intro c hc
    simpa using (h c hc).1
  · unfold c41
    rw [List.countP_eq_zero]
    intro c hc
    simpa using (h c hc).2

/-- As many close as open, and never more before. -/
structure Bal (s : List UInt8) : Prop where
  all : c40 s = c41 s
  pre : ∀ k, c41 (s.take k) ≤ c40 (s.take k)

theorem NoP.bal {s : List UInt8} (h : NoP s) : Bal s where
  all := by rw [h.zero.1, h.zero.2]
  pre := fun k => by
    have h2 : NoP (s.take k) := fun c hc => h c (List.mem_of_mem_take hc)
    rw [h2.zero.2]
    exact Nat.zero_le _
theorem Bal.append {a b : List UInt8} (ha : Bal a) (hb : Bal b) : Bal (a ++ b) where
  all := by rw [c40_append, c41_append, ha.all, hb.all]
  pre := fun k => by
    rw [List.take_append, c40_append, c41_append]
    exact Nat.add_le_add (ha.pre k) (hb.pre _)
theorem Bal.par {l : List UInt8} (h : Bal l) (b : Bool) : Bal (pby b l) := by
  cases b with
  | false => exact h
  | true =>
    show Bal (40 :: (l ++ [41]))
    refine ⟨?_, fun k => ?_⟩
    · rw [c40_cons, c41_cons, c40_append, c41_append, h.all]
      rfl
    · cases k with
      | zero => exact Nat.le_refl _
      | succ k =>
        rw [List.take_succ_cons, c40_cons, c41_cons, List.take_append, c40_append, c41_append, if_pos rfl, if_neg (by decide)]
        have h1 := h.pre k
        have h2 : c41 (List.take (k - l.length) [41]) ≤ 1 := by
          cases k - l.length with
          | zero => exact Nat.zero_le _
          | succ n => rw [List.take_succ_cons, List.take_nil]; decide
        omega

theorem np_noP {c : UInt8} (h : isNP c = true) : c ≠ 40 ∧ c ≠ 41 := by
  constructor <;> (intro e; subst e; revert h; decide)
theorem Nm.noP {s : List UInt8} (h : Nm s) : NoP s := by
  obtain ⟨c, r, rfl, _, h2, _⟩ := h
  exact fun x hx => np_noP (h2 x hx)
theorem Nu.noP {n : Nat} (h : Nu n) : NoP (dec n) := by
  obtain ⟨_, _, h3, _⟩ := dec_spec n h
  exact fun x hx => np_noP (dig_np (h3 x hx)).1
theorem sgO_noP {op : Nat} (h6 : 6 ≤ op) (h17 : op ≤ 17) : NoP (32 :: (sgO op ++ [32])) := by
  have : op = 6 ∨ op = 7 ∨ op = 8 ∨ op = 9 ∨ op = 10 ∨ op = 11 ∨ op = 12 ∨ op = 13 ∨ op = 14 ∨ op = 15 ∨ op = 16 ∨ op = 17 := by omega
  unfold NoP
  rcases this with rfl | rfl | rfl | rfl | rfl | rfl | rfl | rfl | rfl | rfl | rfl | rfl <;> decide
theorem c40_pby (b : Bool) (l : List UInt8) : c40 (pby b l) = c40 l + b1 b := by
  cases b with
  | false => rfl
  | true =>
    show c40 (40 :: (l ++ [41])) = c40 l + 1
    rw [c40_cons, c40_append]
    rfl

theorem xby_bal : ∀ x : Xp, Wop x → WX Nm Nu x → Bal (xby x) ∧ c40 (xby x) = np x
  | .lit n, _, h => ⟨(Nu.noP h).bal, (Nu.noP h).zero.1⟩
  | .var s, _, h => ⟨(Nm.noP h).bal, (Nm.noP h).zero.1⟩
  | .fld s f, _, h => by
    obtain ⟨h1, h2⟩ := (h : Nm s ∧ Nm f)
    have hp : NoP (s ++ 46 :: f) := by
      intro c hc
      rcases List.mem_append.1 hc with hc | hc
      · exact h1.noP c hc
      · rcases List.mem_cons.1 hc with rfl | hc
        · decide
        · exact h2.noP c hc
    exact ⟨hp.bal, hp.zero.1⟩
  | .elt s a, hw, h => by
    obtain ⟨h1, h2⟩ := (h : Nm s ∧ WX Nm Nu a)
    obtain ⟨i1, i2⟩ := xby_bal a hw h2
    have e : xby (.elt s a) = (s ++ [91]) ++ (xby a ++ [93]) := by simp [xby]
    have p1 : NoP (s ++ [91]) := by
      intro c hc
      rcases List.mem_append.1 hc with hc | hc
      · exact h1.noP c hc
      · rw [List.mem_singleton.1 hc]
        decide
    have p2 : NoP [93] := by
      intro c hc
      rw [List.mem_singleton.1 hc]
      decide
    rw [e]
    refine ⟨p1.bal.append (i1.append p2.bal), ?_⟩
    rw [c40_append (s ++ [91]), c40_append (xby a), p1.zero.1, p2.zero.1, i2]
    show 0 + (np a + 0) = np a
    omega
  | .una op a, hw, h => by
    obtain ⟨i1, i2⟩ := xby_bal a (hw : _ ∧ Wop a).2 h
    have p1 : NoP [if op = 4 then 45 else 33] := by
      intro c hc
      rw [List.mem_singleton.1 hc]
      split <;> decide
    have e : xby (.una op a) = [if op = 4 then 45 else 33] ++ pby (decide (lvX a < 5)) (xby a) := rfl
    rw [e]
    refine ⟨p1.bal.append (i1.par _), ?_⟩
    rw [c40_append, c40_pby, p1.zero.1, i2]
    show 0 + (np a + b1 _) = np a + b1 _
    omega
  | .bin op a b, hw, h => by
    obtain ⟨h6, h17, wa, wb⟩ := hw
    obtain ⟨ha, hb⟩ := (h : WX Nm Nu a ∧ WX Nm Nu b)
    obtain ⟨i1, i2⟩ := xby_bal a wa ha
    obtain ⟨j1, j2⟩ := xby_bal b wb hb
    have p1 := sgO_noP h6 h17
    have e : xby (.bin op a b) = pby (lpar op a) (xby a) ++ ((32 :: (sgO op ++ [32])) ++ pby (rpar op b) (xby b)) := by simp [xby]
    rw [e]
    refine ⟨(i1.par _).append (p1.bal.append (j1.par _)), ?_⟩
    rw [c40_append, c40_append, c40_pby, c40_pby, p1.zero.1, i2, j2]
    show np a + b1 _ + (0 + (np b + b1 _)) = (np a + b1 _) + (np b + b1 _)
    omega

/-- Behind an opening one at least as many close as open. -/
theorem Bal.rest {s : List UInt8} (h : Bal s) (k : Nat) : c40 (s.drop k) ≤ c41 (s.drop k) := by
  have h1 := h.pre k
  have h2 := h.all
  rw [← List.take_append_drop k s, c40_append, c41_append] at h2
  omega
end Go.Proofs
/- Printed expressions of any kind, plain. No conditions: definitions and lemmas only. -/
namespace Go.Proofs
open Go.AM

/-- How many operands an operation has. -/
def opdN (op : Int) : Nat := if op = 0 ∨ op = 1 ∨ op = 2 then 0 else if op = 3 ∨ op = 4 ∨ op = 5 then 1 else 2
/-- Operations that there are, with as many operands as they have, in at most so many levels. -/
def wholeX : Nat → XT → Bool
  | 0, _ => false
  | n + 1, x => decide (0 ≤ x.op ∧ x.op ≤ 17) && decide (x.args.length = opdN x.op) && x.args.all (wholeX n)
def x0 : XT := .mk 0 0 0 [] [] []
def XT.a (x : XT) : XT := (x.args[0]?).getD x0
def XT.b (x : XT) : XT := (x.args[1]?).getD x0
def XT.num : XT → Int | .mk _ num _ _ _ _ => num
/-- The text of a whole expression. -/
def txX : Nat → XT → List UInt8
  | 0, _ => []
  | n + 1, x =>
    if x.op = 0 then Lib.itoa x.num
    else if x.op = 1 then x.name
    else if x.op = 2 then x.name ++ [46] ++ x.field
    else if x.op = 3 then x.name ++ [91] ++ txX n x.a ++ [93]
    else if x.op = 4 then [45] ++ pby (decide (rk x.a.op < 5)) (txX n x.a)
    else if x.op = 5 then [33] ++ pby (decide (rk x.a.op < 5)) (txX n x.a)
    else pby (decide (rk x.a.op < rk x.op ∨ rk x.a.op = 1)) (txX n x.a) ++ [32] ++ sgO x.op.toNat ++ [32] ++ pby (decide (rk x.b.op ≤ rk x.op)) (txX n x.b)

mutual
def XT.nodes : XT → Nat
  | .mk _ _ _ _ _ args => 1 + xnodes args
def xnodes : List XT → Nat
  | [] => 0
  | x :: r => x.nodes + xnodes r
end
theorem XT.nodes_eq (x : XT) : x.nodes = 1 + xnodes x.args := by cases x; rw [XT.nodes]; rfl
/-- How long a string of an argument may be. -/
def Smax : Nat := 140737488351232
inductive GX : XT → Prop
  | mk (op num var : Int) (name field : List UInt8) (args : List XT) (h1 : w64 op) (h2 : w64 num) (h3 : name.length ≤ Smax) (h4 : field.length ≤ Smax) (h5 : ∀ a ∈ args, GX a) : GX (.mk op num var name field args)
theorem GX.all {x : XT} (h : GX x) : w64 x.op ∧ w64 x.num ∧ x.name.length ≤ Smax ∧ x.field.length ≤ Smax ∧ ∀ a ∈ x.args, GX a := by
  cases h with
  | mk op num var name field args h1 h2 h3 h4 h5 => exact ⟨h1, h2, h3, h4, h5⟩

theorem whole_spec {n : Nat} {x : XT} (h : wholeX (n + 1) x = true) : (0 ≤ x.op ∧ x.op ≤ 17) ∧ x.args.length = opdN x.op ∧ ∀ a ∈ x.args, wholeX n a = true := by
  rw [wholeX] at h
  simp only [Bool.and_eq_true, decide_eq_true_eq, List.all_eq_true] at h
  exact ⟨h.1.1, h.1.2, h.2⟩
/-- One operand. -/
theorem whole_one {n : Nat} {x : XT} (h : wholeX (n + 1) x = true) (h3 : x.op = 3 ∨ x.op = 4 ∨ x.op = 5) : x.args = [x.a] ∧ wholeX n x.a = true := by
  obtain ⟨_, h2, h4⟩ := whole_spec h
  have : opdN x.op = 1 := by rw [opdN, if_neg (by omega), if_pos h3]
  rw [this] at h2
  unfold XT.a
  match e : x.args, h2 with
  | [a], _ => exact ⟨rfl, by rw [e] at h4; exact h4 a (by simp)⟩
theorem whole_two {n : Nat} {x : XT} (h : wholeX (n + 1) x = true) (h3 : 6 ≤ x.op) : x.args = [x.a, x.b] ∧ wholeX n x.a = true ∧ wholeX n x.b = true := by
  obtain ⟨_, h2, h4⟩ := whole_spec h
  have : opdN x.op = 2 := by rw [opdN, if_neg (by omega), if_neg (by omega)]
  rw [this] at h2
  unfold XT.a XT.b
  match e : x.args, h2 with
  | [a, b], _ => exact ⟨rfl, by rw [e] at h4; exact ⟨h4 a (by simp), h4 b (by simp)⟩⟩
theorem sgO_len (op : Nat) : (sgO op).length ≤ 2 := by
  unfold sgO
  cases h : binL.find? fun o => decide (o.2.2 = op) with
  | none => decide
  | some o =>
    have := List.mem_of_find?_eq_some h
    have hall : ∀ o ∈ binL, o.1.length ≤ 2 := by decide
    exact hall o this
theorem pby_len (b : Bool) (l : List UInt8) : (pby b l).length ≤ l.length + 2 := by
  unfold pby
  split
  · simp
  · omega
theorem txX_len : ∀ (n : Nat) (x : XT), wholeX n x = true → GX x → (txX n x).length ≤ x.nodes * 281474976702528
  | 0, x, h, _ => by cases h
  | n + 1, x, h, g => by
    obtain ⟨⟨h1, h2⟩, _, _⟩ := whole_spec h
    obtain ⟨_, g2, g3, g4, g5⟩ := g.all
    have hn := x.nodes_eq
    unfold Smax at g3 g4
    rw [txX]
    by_cases e0 : x.op = 0
    · have := itoa_len g2
      rw [if_pos e0]
      omega
    rw [if_neg e0]
    by_cases e1 : x.op = 1
    · rw [if_pos e1]
      omega
    rw [if_neg e1]
    by_cases e2 : x.op = 2
    · rw [if_pos e2]
      simp only [List.length_append, List.length_cons, List.length_nil]
      omega
    rw [if_neg e2]
    by_cases e3 : x.op = 3 ∨ x.op = 4 ∨ x.op = 5
    · obtain ⟨ea, wa⟩ := whole_one h e3
      have ga := g5 x.a (by rw [ea]; simp)
      have la := txX_len n x.a wa ga
      have pa := pby_len (decide (rk x.a.op < 5)) (txX n x.a)
      rw [ea, xnodes, xnodes] at hn
      rcases e3 with e3 | e3 | e3
      · rw [if_pos e3]
        simp only [List.length_append, List.length_cons, List.length_nil]
        omega
      · rw [if_neg (by omega), if_pos e3]
        simp only [List.length_append, List.length_cons, List.length_nil]
        omega
      · rw [if_neg (by omega), if_neg (by omega), if_pos e3]
        simp only [List.length_append, List.length_cons, List.length_nil]
        omega
    · obtain ⟨ea, wa, wb⟩ := whole_two h (by omega)
      have ga := g5 x.a (by rw [ea]; simp)
      have gb := g5 x.b (by rw [ea]; simp)
      have la := txX_len n x.a wa ga
      have lb := txX_len n x.b wb gb
      have pa := pby_len (decide (rk x.a.op < rk x.op ∨ rk x.a.op = 1)) (txX n x.a)
      have pb := pby_len (decide (rk x.b.op ≤ rk x.op)) (txX n x.b)
      have ps := sgO_len x.op.toNat
      rw [ea, xnodes, xnodes, xnodes] at hn
      rw [if_neg (by omega), if_neg (by omega), if_neg (by omega)]
      simp only [List.length_append, List.length_cons, List.length_nil]
      omega
end Go.Proofs
/- debuggerref03.Expr walked. No conditions: definitions and lemmas only. -/
namespace Go.Proofs
open Go.AM
attribute [local irreducible] AWP AOps ACalls AAny
set_option linter.unusedSimpArgs false

def XT.vr : XT → Int | .mk _ _ v _ _ _ => v
theorem XT.row_eq (x : XT) : x.row = xcs x.op x.num x.vr x.name x.field (.view 6 (x.args.map XT.row) .shared) := by
  cases x
  rw [XT.row_mk]
  rfl
theorem XT.row_len (x : XT) : x.row.length = 6 := by rw [x.row_eq]; rfl
def sgn12 : List AV := [.str [43], .str [45], .str [42], .str [47], .str [37], .str [38], .str [124], .str [94], .str [60], .str [60, 61], .str [61, 61], .str [33, 61]]
theorem sgn_get : ∀ k : Nat, k < 12 → (chunk (0 + 1) 12 sgn12)[k]? = some [.str (sgO (6 + k))]
  | 0, _ => rfl
  | 1, _ => rfl
  | 2, _ => rfl
  | 3, _ => rfl
  | 4, _ => rfl
  | 5, _ => rfl
  | 6, _ => rfl
  | 7, _ => rfl
  | 8, _ => rfl
  | 9, _ => rfl
  | 10, _ => rfl
  | 11, _ => rfl
  | n + 12, h => absurd h (by omega)
theorem rk_range (op : Int) : 1 ≤ rk op ∧ rk op ≤ 6 := by
  unfold rk
  split
  · omega
  split
  · omega
  split
  · omega
  split
  · omega
  split <;> omega
theorem rk_bin {op : Int} (h1 : 6 ≤ op) (h2 : op ≤ 17) : rk op < 5 := by
  unfold rk
  split
  · omega
  split
  · omega
  split
  · omega
  split
  · omega
  split <;> omega
theorem rk_pre {op : Int} (h : op = 4 ∨ op = 5) : rk op = 5 := by
  rcases h with rfl | rfl <;> rfl
theorem rk_op {op : Int} (h0 : 0 ≤ op) (h : op ≤ 3) : rk op = 6 := by
  rw [rk, if_neg (by omega), if_neg (by omega), if_neg (by omega), if_neg (by omega), if_neg (by omega)]

def ExprOk (n : Nat) (x : XT) : Prop := ∀ (least : Int) (st : St), ACalls Tryd.prog 16 [.agg (xcs x.op x.num x.vr x.name x.field (.view 6 (x.args.map XT.row) .shared)), .int .i64 least] st (fun v st' => v = .str (pby (decide (rk x.op < least)) (txX n x)) ∧ st' = st) (fun _ _ => False)

set_option maxHeartbeats 4000000 in
theorem expr_step (n : Nat) (ih : ∀ x, wholeX n x = true → GX x → x.nodes ≤ 1000 → ExprOk n x) (x : XT) (hw : wholeX (n + 1) x = true) (hg : GX x) (hn : x.nodes ≤ 1000) : ExprOk (n + 1) x := by
  intro least st
  obtain ⟨⟨w1, w2⟩, wl, _⟩ := whole_spec hw
  obtain ⟨_, g2, g3, g4, g5⟩ := hg.all
  have hne := x.nodes_eq
  have htl := txX_len (n + 1) x hw hg
  unfold Smax at g3 g4
  have l1 : (x.args.map XT.row).length = x.args.length := List.length_map ..
  refine ACalls.ofBody Tryd.func16 rfl Tryd.ntmps16 rfl ?_
  repeat (first | refine nl ?_ | refine AWP.seq ?_ | refine rg ?_ | refine AWP.block ?_ | refine ZA (z := ?_) | refine ZC (z := ?_) | refine ZF (z := ?_) | refine ZR (z := ?_) | refine YC (z := ?_))
  refine AWP.cutK (α := List UInt8) (fun w => [(6, .str w), (5, .int .i64 (rk x.op)), (1, .int .i64 least)]) (fun _ => st) (fun w => w = txX (n + 1) x) ?_ ?_
  · rw [txX]
    by_cases e0 : x.op = 0
    · rw [if_pos e0]
      repeat (first | refine rg ?_ | refine YH (z := ?_) | refine ZC (z := ?_) | refine ZF (z := ?_))
      refine cle rfl rfl (dig_ok x.num g2 st) ?_
      repeat (first | refine nl ?_ | refine ZA (z := ?_))
      exact ⟨_, rfl, (tl3 rfl rfl rfl), .refl _⟩
    rw [if_neg e0]
    by_cases e1 : x.op = 1
    · have hr := rk_op w1 (show x.op ≤ 3 by omega)
      rw [if_pos e1]
      repeat (first | refine nl ?_ | refine AWP.seq ?_ | refine rg ?_ | refine AWP.skip ?_ | refine YI (z := ?_) | refine ZA (z := ?_) | refine ZB (z := ?_) | refine ZC (z := ?_) | refine ZF (z := ?_) | refine YE (z := ?_))
      exact ⟨_, rfl, (tl3 rfl rfl rfl), .refl _⟩
    rw [if_neg e1]
    by_cases e2 : x.op = 2
    · rw [if_pos e2]
      repeat (first | refine nl ?_ | refine AWP.seq ?_ | refine rg ?_ | refine YH (z := ?_) | refine YI (z := ?_) | refine ZA (z := ?_) | refine ZC (z := ?_) | refine ZF (z := ?_))
      refine sad rfl rfl rfl (by simp only [List.length_cons, List.length_nil]; omega) ?_
      repeat (first | refine ZC (z := ?_) | refine ZF (z := ?_))
      refine sad rfl rfl rfl (by simp only [List.length_append, List.length_cons, List.length_nil]; omega) ?_
      repeat (first | refine nl ?_ | refine ZA (z := ?_))
      exact ⟨_, rfl, (tl3 rfl rfl rfl), .refl _⟩
    rw [if_neg e2]
    by_cases e345 : x.op = 3 ∨ x.op = 4 ∨ x.op = 5
    · obtain ⟨ea, wa⟩ := whole_one hw e345
      have ga := g5 x.a (by rw [ea]; simp)
      rw [ea, xnodes, xnodes] at hne
      have la := txX_len n x.a wa ga
      have hA := ih x.a wa ga (by omega)
      have hra := rk_range x.a.op
      generalize x.a = a at *
      rw [ea, List.map_cons, List.map_nil, a.row_eq]
      by_cases e3 : x.op = 3
      · rw [if_pos e3]
        have hA1 := hA 1
        rw [decide_eq_false (show ¬ rk a.op < 1 by omega), pby, if_neg (by decide)] at hA1
        repeat (first | refine nl ?_ | refine AWP.seq ?_ | refine rg ?_ | refine YH (z := ?_) | refine YI (z := ?_) | refine ZA (z := ?_) | refine ZC (z := ?_) | refine ZF (z := ?_) | refine ZJ (z := ?_) | refine YD (z := ?_))
        refine AWP.draw rfl 10 10 (fun _ _ => False) rfl ?_
        repeat (first | refine dp (h := fun _ _ => ZF (z := nz)) (z := ?_) | refine dp (h := fun _ _ => ZC (z := nz)) (z := ?_))
        refine dq rfl rfl rfl (fun st1 hle => sad rfl rfl rfl (by simp only [List.length_cons, List.length_nil]; omega) (nl ⟨_, rfl, rfl, rfl⟩)) ?_
        repeat (first | refine dp (h := fun _ _ => ZD (z := nz)) (z := ?_) | refine dp (h := fun _ _ => ZF (z := nz)) (z := ?_) | refine dp (h := fun _ _ => ZC (z := nz)) (z := ?_) | refine dp (h := fun _ _ => ZM (z := nz)) (z := ?_))
        refine dq rfl rfl rfl (fun st1 hle => cle rfl rfl (hA1 st1) (nl ⟨_, rfl, rfl, rfl⟩)) ?_
        refine dq rfl rfl rfl (fun st1 hle => sad rfl rfl rfl (by simp only [List.length_append, List.length_cons, List.length_nil]; omega) (nl ⟨_, rfl, rfl, rfl⟩)) ?_
        refine dq rfl rfl rfl (fun st1 hle => sad rfl rfl rfl (by simp only [List.length_append, List.length_cons, List.length_nil]; omega) (nl ⟨_, rfl, rfl, rfl⟩)) ?_
        refine dn ⟨fun _ => ?_, fun h => absurd h (by decide)⟩
        repeat (first | refine nl ?_ | refine ZA (z := ?_))
        exact ⟨_, rfl, (tl3 rfl rfl rfl), .refl _⟩
      rw [if_neg e3]
      have hr5 := rk_pre (show x.op = 4 ∨ x.op = 5 by omega)
      have pl := pby_len (decide (rk a.op < 5)) (txX n a)
      by_cases e4 : x.op = 4
      · rw [if_pos e4]
        repeat (first | refine nl ?_ | refine AWP.seq ?_ | refine rg ?_ | refine YH (z := ?_) | refine YI (z := ?_) | refine ZA (z := ?_) | refine ZB (z := ?_) | refine ZC (z := ?_) | refine ZF (z := ?_) | refine ZJ (z := ?_) | refine YD (z := ?_) | refine YE (z := ?_))
        refine AWP.draw rfl 12 12 (fun _ _ => False) rfl ?_
        refine dq rfl rfl rfl (fun st1 hle => bsh (cs := [.str [45], .str [33]]) rfl rfl rfl rfl rfl (nl ⟨_, rfl, rfl, rfl⟩)) ?_
        repeat (first | refine dp (h := fun _ _ => ZF (z := nz)) (z := ?_) | refine dp (h := fun _ _ => ZC (z := nz)) (z := ?_) | refine dp (h := fun _ _ => YK (z := nz)) (z := ?_))
        refine dq rfl rfl rfl (fun st1 hle => ix (m := 0) rfl rfl rfl (by omega) (of_decide_eq_true rfl) (nl ⟨_, rfl, rfl, rfl⟩)) ?_
        refine dq (v := .str [45]) rfl rfl rfl (fun st1 hle => Go.AM.le rfl rfl rfl rfl (nl ⟨_, rfl, rfl, rfl⟩)) ?_
        repeat (first | refine dp (h := fun _ _ => ZD (z := nz)) (z := ?_) | refine dp (h := fun _ _ => ZF (z := nz)) (z := ?_) | refine dp (h := fun _ _ => ZC (z := nz)) (z := ?_) | refine dp (h := fun _ _ => ZM (z := nz)) (z := ?_))
        refine dq rfl rfl rfl (fun st1 hle => cle rfl rfl (hA 5 st1) (nl ⟨_, rfl, rfl, rfl⟩)) ?_
        refine dq rfl rfl rfl (fun st1 hle => sad rfl rfl rfl (by simp only [List.length_append, List.length_cons, List.length_nil]; omega) (nl ⟨_, rfl, rfl, rfl⟩)) ?_
        refine dn ⟨fun _ => ?_, fun h => absurd h (by decide)⟩
        repeat (first | refine nl ?_ | refine ZA (z := ?_))
        exact ⟨_, rfl, (tl3 rfl rfl rfl), .refl _⟩
      have e5 : x.op = 5 := by omega
      rw [if_neg e4, if_pos e5]
      repeat (first | refine nl ?_ | refine AWP.seq ?_ | refine rg ?_ | refine YH (z := ?_) | refine YI (z := ?_) | refine ZA (z := ?_) | refine ZB (z := ?_) | refine ZC (z := ?_) | refine ZF (z := ?_) | refine ZJ (z := ?_) | refine YD (z := ?_) | refine YE (z := ?_))
      refine AWP.draw rfl 12 12 (fun _ _ => False) rfl ?_
      refine dq rfl rfl rfl (fun st1 hle => bsh (cs := [.str [45], .str [33]]) rfl rfl rfl rfl rfl (nl ⟨_, rfl, rfl, rfl⟩)) ?_
      repeat (first | refine dp (h := fun _ _ => ZF (z := nz)) (z := ?_) | refine dp (h := fun _ _ => ZC (z := nz)) (z := ?_) | refine dp (h := fun _ _ => YK (z := nz)) (z := ?_))
      refine dq rfl rfl rfl (fun st1 hle => ix (m := 1) rfl rfl rfl (by omega) (of_decide_eq_true rfl) (nl ⟨_, rfl, rfl, rfl⟩)) ?_
      refine dq (v := .str [33]) rfl rfl rfl (fun st1 hle => Go.AM.le rfl rfl rfl rfl (nl ⟨_, rfl, rfl, rfl⟩)) ?_
      repeat (first | refine dp (h := fun _ _ => ZD (z := nz)) (z := ?_) | refine dp (h := fun _ _ => ZF (z := nz)) (z := ?_) | refine dp (h := fun _ _ => ZC (z := nz)) (z := ?_) | refine dp (h := fun _ _ => ZM (z := nz)) (z := ?_))
      refine dq rfl rfl rfl (fun st1 hle => cle rfl rfl (hA 5 st1) (nl ⟨_, rfl, rfl, rfl⟩)) ?_
      refine dq rfl rfl rfl (fun st1 hle => sad rfl rfl rfl (by simp only [List.length_append, List.length_cons, List.length_nil]; omega) (nl ⟨_, rfl, rfl, rfl⟩)) ?_
      refine dn ⟨fun _ => ?_, fun h => absurd h (by decide)⟩
      repeat (first | refine nl ?_ | refine ZA (z := ?_))
      exact ⟨_, rfl, (tl3 rfl rfl rfl), .refl _⟩
    · obtain ⟨ea, wa, wb⟩ := whole_two hw (by omega)
      have ga := g5 x.a (by rw [ea]; simp)
      have gb := g5 x.b (by rw [ea]; simp)
      rw [ea, xnodes, xnodes, xnodes] at hne
      have la := txX_len n x.a wa ga
      have lb := txX_len n x.b wb gb
      have hA := ih x.a wa ga (by omega)
      have hB := ih x.b wb gb (by omega)
      have pa := pby_len (decide (rk x.a.op < rk x.op ∨ rk x.a.op = 1)) (txX n x.a)
      have pb := pby_len (decide (rk x.b.op ≤ rk x.op)) (txX n x.b)
      have ps := sgO_len x.op.toNat
      have hra := rk_range x.a.op
      have hrx := rk_range x.op
      have hr5 := rk_bin (show 6 ≤ x.op by omega) w2
      generalize x.a = a at *
      generalize x.b = b at *
      rw [if_neg (by omega), if_neg (by omega), if_neg (by omega)]
      rw [ea, List.map_cons, List.map_cons, List.map_nil, a.row_eq, b.row_eq]
      obtain ⟨m, hm, hm2⟩ : ∃ m : Nat, x.op - 6 = (m : Int) ∧ m < 12 := ⟨(x.op - 6).toNat, by omega, by omega⟩
      have hs := sgn_get m hm2
      have hso : 6 + m = x.op.toNat := by omega
      rw [hso] at hs
      have hBr := hB (rk x.op + 1)
      rw [show decide (rk b.op < rk x.op + 1) = decide (rk b.op ≤ rk x.op) from decide_eq_decide.2 (by omega)] at hBr
      have hAl : ∀ left : Int, (left = if rk x.op = 1 then 2 else rk x.op) → decide (rk a.op < left) = decide (rk a.op < rk x.op ∨ rk a.op = 1) := by
        intro left hl
        refine decide_eq_decide.2 ?_
        split at hl <;> omega
      repeat (first | refine nl ?_ | refine AWP.seq ?_ | refine rg ?_ | refine YH (z := ?_) | refine YI (z := ?_) | refine ZA (z := ?_) | refine ZB (z := ?_) | refine ZC (z := ?_) | refine ZF (z := ?_) | refine ZJ (z := ?_) | refine YD (z := ?_) | refine YE (z := ?_))
      refine bsh (cs := sgn12) rfl rfl rfl rfl rfl ?_
      repeat (refine ZA (z := ?_))
      refine nl ?_
      repeat (refine AWP.seq ?_)
      refine rg ?_
      repeat (refine ZA (z := ?_))
      refine nl ?_
      refine cut (α := Int) (fun y => [(8, .int .i64 y), (7, .view 1 (chunk (0 + 1) 12 sgn12) .shared), (5, .int .i64 (rk x.op)), (2, .eptr 6 [xcs x.op x.num x.vr x.name x.field (.view 6 [xcs a.op a.num a.vr a.name a.field (.view 6 (a.args.map XT.row) .shared), xcs b.op b.num b.vr b.name b.field (.view 6 (b.args.map XT.row) .shared)] .shared)] 0 0), (1, .int .i64 least)]) (fun _ => st) (fun y => y = if rk x.op = 1 then 2 else rk x.op) ?_ ?_
      · by_cases r1 : rk x.op = 1
        · rw [if_pos r1]
          repeat (first | refine nl ?_ | refine AWP.seq ?_ | refine rg ?_ | refine YH (z := ?_) | refine ZA (z := ?_))
          exact ⟨2, rfl, (tl5 rfl rfl rfl rfl rfl), .refl _⟩
        · rw [if_neg r1]
          repeat (first | refine nl ?_ | refine AWP.seq ?_ | refine rg ?_ | refine AWP.skip ?_ | refine YI (z := ?_) | refine ZA (z := ?_))
          exact ⟨_, rfl, (tl5 rfl rfl rfl rfl rfl), .refl _⟩
      intro left hl
      have hA1 := hA left
      rw [hAl left hl] at hA1
      skip
      refine AWP.draw rfl 23 23 (fun _ _ => False) rfl ?_
      repeat (first | refine ds rfl rfl ?_ | refine dp (h := fun _ _ => ZD (z := nz)) (z := ?_) | refine dp (h := fun _ _ => ZF (z := nz)) (z := ?_) | refine dp (h := fun _ _ => ZC (z := nz)) (z := ?_) | refine dp (h := fun _ _ => ZM (z := nz)) (z := ?_))
      refine dq rfl rfl rfl (fun st1 hle => cle rfl rfl (hA1 st1) (nl ⟨_, rfl, rfl, rfl⟩)) ?_
      refine dq rfl rfl rfl (fun st1 hle => sad rfl rfl rfl (by simp only [List.length_cons, List.length_nil]; omega) (nl ⟨_, rfl, rfl, rfl⟩)) ?_
      repeat (first | refine ds rfl rfl ?_ | refine dp (h := fun _ _ => ZF (z := nz)) (z := ?_) | refine dp (h := fun _ _ => ZC (z := nz)) (z := ?_) | refine dp (h := fun _ _ => YK (z := nz)) (z := ?_))
      refine dq rfl rfl rfl (fun st1 hle => ix (m := m) rfl rfl rfl hm (by exact hm2) (nl ⟨_, rfl, rfl, rfl⟩)) ?_
      refine dq rfl rfl rfl (fun st1 hle => Go.AM.le rfl rfl hs rfl (nl ⟨_, rfl, rfl, rfl⟩)) ?_
      refine dq rfl rfl rfl (fun st1 hle => sad rfl rfl rfl (by simp only [List.length_append, List.length_cons, List.length_nil]; omega) (nl ⟨_, rfl, rfl, rfl⟩)) ?_
      refine dq rfl rfl rfl (fun st1 hle => sad rfl rfl rfl (by simp only [List.length_append, List.length_cons, List.length_nil]; omega) (nl ⟨_, rfl, rfl, rfl⟩)) ?_
      repeat (first | refine ds rfl rfl ?_ | refine dp (h := fun _ _ => ZD (z := nz)) (z := ?_) | refine dp (h := fun _ _ => ZF (z := nz)) (z := ?_) | refine dp (h := fun _ _ => ZC (z := nz)) (z := ?_) | refine dp (h := fun _ _ => ZM (z := nz)) (z := ?_) | refine dp (h := fun _ _ => YJ (z := nz)) (z := ?_))
      refine dq rfl rfl rfl (fun st1 hle => cle rfl rfl (hBr st1) (nl ⟨_, rfl, rfl, rfl⟩)) ?_
      refine dq rfl rfl rfl (fun st1 hle => sad rfl rfl rfl (by simp only [List.length_append, List.length_cons, List.length_nil]; omega) (nl ⟨_, rfl, rfl, rfl⟩)) ?_
      refine dn ⟨fun _ => ?_, fun h => absurd h (by decide)⟩
      repeat (first | refine nl ?_ | refine ZA (z := ?_))
      exact ⟨_, rfl, (tl3 rfl rfl rfl), .refl _⟩
  · rintro w rfl
    by_cases hl : rk x.op < least
    · rw [decide_eq_true hl]
      repeat (first | refine nl ?_ | refine AWP.seq ?_ | refine rg ?_ | refine YH (z := ?_) | refine ZA (z := ?_))
      refine sad rfl rfl rfl (by simp only [List.length_cons, List.length_nil]; omega) ?_
      refine sad rfl rfl rfl (by simp only [List.length_append, List.length_cons, List.length_nil]; omega) ?_
      repeat (first | refine nl ?_ | refine ZA (z := ?_))
      exact AWP.ret (rets rfl (.refl _) (.refl _) ⟨rfl, rfl⟩)
    · rw [decide_eq_false hl]
      repeat (first | refine nl ?_ | refine AWP.seq ?_ | refine rg ?_ | refine AWP.skip ?_ | refine YI (z := ?_) | refine ZA (z := ?_))
      exact AWP.ret (rets rfl (.refl _) (.refl _) ⟨rfl, rfl⟩)
end Go.Proofs
/- Whole expressions and levels of operations, walked on both sides. No conditions: definitions and lemmas only. -/
namespace Go.Proofs
open Go.AM
attribute [local irreducible] AWP AOps ACalls AAny

instance (op : Int) : PureFn Tryd.prog 39 [.int .i64 op] (.int .i64 (opdN op : Int)) where
  out st := by
    refine ACalls.ofBody Tryd.func39 rfl Tryd.ntmps39 rfl ?_
    unfold opdN
    by_cases h : op = 0 ∨ op = 1 ∨ op = 2
    · rw [if_pos h]
      rcases h with rfl | rfl | rfl
      · repeat (first | refine nl ?_ | refine AWP.seq ?_ | refine rg ?_ | refine AWP.skip ?_ | refine AWP.block ?_ | refine YH (z := ?_) | refine ZA (z := ?_))
        exact AWP.ret (rets rfl (.refl _) (.refl _) ⟨rfl, rfl⟩)
      · repeat (first | refine nl ?_ | refine AWP.seq ?_ | refine rg ?_ | refine AWP.skip ?_ | refine AWP.block ?_ | refine YH (z := ?_) | refine YI (z := ?_) | refine ZA (z := ?_))
        exact AWP.ret (rets rfl (.refl _) (.refl _) ⟨rfl, rfl⟩)
      · repeat (first | refine nl ?_ | refine AWP.seq ?_ | refine rg ?_ | refine AWP.block ?_ | refine YH (z := ?_) | refine YI (z := ?_) | refine ZA (z := ?_))
        exact AWP.ret (rets rfl (.refl _) (.refl _) ⟨rfl, rfl⟩)
    rw [if_neg h]
    by_cases h2 : op = 3 ∨ op = 4 ∨ op = 5
    · rw [if_pos h2]
      rcases h2 with rfl | rfl | rfl
      · repeat (first | refine nl ?_ | refine AWP.seq ?_ | refine rg ?_ | refine AWP.skip ?_ | refine AWP.block ?_ | refine YH (z := ?_) | refine YI (z := ?_) | refine ZA (z := ?_))
        exact AWP.ret (rets rfl (.refl _) (.refl _) ⟨rfl, rfl⟩)
      · repeat (first | refine nl ?_ | refine AWP.seq ?_ | refine rg ?_ | refine AWP.skip ?_ | refine AWP.block ?_ | refine YH (z := ?_) | refine YI (z := ?_) | refine ZA (z := ?_))
        exact AWP.ret (rets rfl (.refl _) (.refl _) ⟨rfl, rfl⟩)
      · repeat (first | refine nl ?_ | refine AWP.seq ?_ | refine rg ?_ | refine AWP.block ?_ | refine YH (z := ?_) | refine YI (z := ?_) | refine ZA (z := ?_))
        exact AWP.ret (rets rfl (.refl _) (.refl _) ⟨rfl, rfl⟩)
    rw [if_neg h2]
    repeat (first | refine nl ?_ | refine AWP.seq ?_ | refine rg ?_ | refine AWP.skip ?_ | refine AWP.block ?_ | refine YI (z := ?_) | refine ZA (z := ?_))
    exact AWP.ret (rets rfl (.refl _) (.refl _) ⟨rfl, rfl⟩)
def argN (op : Int) : Int := if op < 0 ∨ 17 < op then -1 else (opdN op : Int)
instance (op : Int) : PureFn Tryd.prog 30 [.int .i64 op] (.int .i64 (argN op)) where
  out st := by
    refine ACalls.ofBody Tryd.func30 rfl Tryd.ntmps30 rfl ?_
    unfold argN
    by_cases h : op < 0
    · rw [if_pos (.inl h)]
      repeat (first | refine nl ?_ | refine AWP.seq ?_ | refine rg ?_ | refine AWP.block ?_ | refine YH (z := ?_) | refine ZA (z := ?_) | refine ZB (z := ?_) | refine YD (z := ?_))
      exact AWP.ret (rets rfl (.refl _) (.refl _) ⟨rfl, rfl⟩)
    by_cases h1 : 17 < op
    · rw [if_pos (.inr h1)]
      repeat (first | refine nl ?_ | refine AWP.seq ?_ | refine rg ?_ | refine AWP.block ?_ | refine YH (z := ?_) | refine ZA (z := ?_) | refine YE (z := ?_))
      exact AWP.ret (rets rfl (.refl _) (.refl _) ⟨rfl, rfl⟩)
    rw [if_neg (by omega)]
    unfold opdN
    by_cases h2 : op ≤ 2
    · rw [if_pos (by omega)]
      repeat (first | refine nl ?_ | refine AWP.seq ?_ | refine rg ?_ | refine AWP.block ?_ | refine YH (z := ?_) | refine YI (z := ?_) | refine ZA (z := ?_) | refine YE (z := ?_))
      exact AWP.ret (rets rfl (.refl _) (.refl _) ⟨rfl, rfl⟩)
    rw [if_neg (by omega)]
    by_cases h3 : op ≤ 5
    · rw [if_pos (by omega)]
      repeat (first | refine nl ?_ | refine AWP.seq ?_ | refine rg ?_ | refine AWP.block ?_ | refine YH (z := ?_) | refine YI (z := ?_) | refine ZA (z := ?_) | refine YE (z := ?_))
      exact AWP.ret (rets rfl (.refl _) (.refl _) ⟨rfl, rfl⟩)
    rw [if_neg (by omega)]
    repeat (first | refine nl ?_ | refine AWP.seq ?_ | refine rg ?_ | refine AWP.skip ?_ | refine AWP.block ?_ | refine YI (z := ?_) | refine ZA (z := ?_) | refine YE (z := ?_))
    exact AWP.ret (rets rfl (.refl _) (.refl _) ⟨rfl, rfl⟩)

theorem row_at {l : List XT} {i : Nat} (h : i < l.length) : (l.map XT.row)[i]? = some l[i].row := by
  rw [List.getElem?_map, List.getElem?_eq_getElem h]
  rfl
theorem whole_no {n : Nat} {x : XT} (h : ¬ (0 ≤ x.op ∧ x.op ≤ 17 ∧ x.args.length = opdN x.op)) : wholeX (n + 1) x = false := by
  rw [wholeX]
  by_cases h1 : 0 ≤ x.op ∧ x.op ≤ 17
  · rw [decide_eq_true h1, decide_eq_false (fun h2 => h ⟨h1.1, h1.2, h2⟩)]
    rfl
  · rw [decide_eq_false h1]
    rfl
theorem whole_yes {n : Nat} {x : XT} (h : 0 ≤ x.op ∧ x.op ≤ 17 ∧ x.args.length = opdN x.op) : wholeX (n + 1) x = x.args.all (wholeX n) := by
  rw [wholeX, decide_eq_true ⟨h.1, h.2.1⟩, decide_eq_true h.2.2]
  rfl
theorem all_at {α : Type} {p : α → Bool} : ∀ {l : List α}, (∀ i (h : i < l.length), p l[i] = true) → l.all p = true
  | [], _ => rfl
  | x :: r, h => by
    have h0 : p x = true := h 0 (by simp)
    rw [List.all_cons, h0, Bool.true_and]
    exact all_at fun i hi => h (i + 1) (by simpa using hi)
theorem not_all {α : Type} {p : α → Bool} {l : List α} {i : Nat} (hi : i < l.length) (h : p l[i] = false) : l.all p = false := by
  rw [List.all_eq_false]
  exact ⟨l[i], List.getElem_mem hi, by rw [h]; decide⟩
theorem opdN_le (op : Int) : opdN op ≤ 2 := by
  unfold opdN
  split
  · omega
  · split <;> omega

set_option maxHeartbeats 2000000 in
theorem whole_ok : ∀ (n : Nat), n ≤ 1000 → ∀ (x : XT) (st : St), ACalls Tryd.prog 26 [.agg x.row, .int .i64 (n : Int)] st (fun v st' => v = .bool (wholeX n x) ∧ st' = st) (fun _ _ => False)
  | 0, _, x, st => by
    refine ACalls.ofBody Tryd.func26 rfl Tryd.ntmps26 rfl ?_
    rw [x.row_eq]
    repeat (first | refine nl ?_ | refine AWP.seq ?_ | refine rg ?_ | refine ZA (z := ?_) | refine ZR (z := ?_))
    refine AWP.draw rfl 21 21 (fun _ _ => False) rfl ?_
    repeat (first | refine ds rfl rfl ?_ | refine du rfl rfl rfl ?_)
    refine dn ⟨fun _ => ?_, fun h => absurd h (by decide)⟩
    repeat (first | refine nl ?_ | refine AWP.seq ?_ | refine rg ?_ | refine YH (z := ?_) | refine ZA (z := ?_))
    exact AWP.ret (rets rfl (.refl _) (.refl _) ⟨rfl, rfl⟩)
  | n + 1, hn, x, st => by
    have ih := whole_ok n (by omega)
    refine ACalls.ofBody Tryd.func26 rfl Tryd.ntmps26 rfl ?_
    rw [x.row_eq]
    have k0 : ¬ ((n + 1 : Nat) : Int) < 1 := by omega
    have l1 : (x.args.map XT.row).length = x.args.length := List.length_map ..
    by_cases h : 0 ≤ x.op ∧ x.op ≤ 17 ∧ x.args.length = opdN x.op
    · rw [whole_yes h]
      have k1 : ¬ x.op < 0 := by omega
      have k2 : ¬ x.op > 17 := by omega
      have k3 : ¬ (((x.args.map XT.row).length : Nat) : Int) ≠ (opdN x.op : Int) := by omega
      have hle := opdN_le x.op
      repeat (first | refine nl ?_ | refine AWP.seq ?_ | refine rg ?_ | refine ZA (z := ?_) | refine ZR (z := ?_))
      refine AWP.draw rfl 21 21 (fun _ _ => False) rfl ?_
      repeat (first | refine dq (v := .bool false) rfl rfl rfl (fun st1 hle => sm rfl (nl ⟨_, rfl, congrArg AV.bool (by (fail_if_success rfl); first | assumption | exact decide_eq_true (by assumption) | exact decide_eq_false (by assumption) | exact decide_eq_true rfl | exact decide_eq_true (by omega) | exact decide_eq_false (by omega)), rfl⟩)) ?_ | refine ds rfl rfl ?_ | refine dp (h := fun _ _ => ZF (z := nz)) (z := ?_) | refine dp (h := fun _ _ => ZC (z := nz)) (z := ?_) | refine dp (h := fun _ _ => ZJ (z := nz)) (z := ?_) | refine dp (h := fun _ _ => YC (z := nz)) (z := ?_))
      refine dn ⟨fun _ => ?_, fun h => absurd h (by decide)⟩
      repeat (first | refine nl ?_ | refine AWP.seq ?_ | refine rg ?_ | refine AWP.skip ?_ | refine AWP.block ?_ | refine YI (z := ?_) | refine ZA (z := ?_) | refine ZC (z := ?_) | refine ZF (z := ?_) | refine ZJ (z := ?_))
      rw [l1]
      refine AWP.loop (α := Nat) (fun i => [(31, .int .i64 (i : Int)), (30, .int .i64 (x.args.length : Int)), (29, .view 6 (x.args.map XT.row) .shared), (1, .int .i64 ((n + 1 : Nat) : Int))]) (fun _ => st) (fun i => i ≤ x.args.length ∧ ∀ j (hj : j < x.args.length), j < i → wholeX n x.args[j] = true) (fun i => x.args.length - i) 0
        ⟨Nat.zero_le _, fun j _ h => absurd h (by omega)⟩ (tl4 rfl rfl rfl rfl) (.refl _) ?_
      rintro i ⟨q1, q2⟩
      refine AWP.weaken (T' := [(31, .int .i64 (i : Int)), (30, .int .i64 (x.args.length : Int)), (29, .view 6 (x.args.map XT.row) .shared), (1, .int .i64 ((n + 1 : Nat) : Int))]) (tl4 rfl rfl rfl rfl) (.refl _) ?_
      by_cases hi : i < x.args.length
      · have hi' : i < (x.args.map XT.row).length := by omega
        have r1 := row_at hi
        have z1 := (x.args[i]).row_len
        repeat (first | refine nl ?_ | refine AWP.seq ?_ | refine rg ?_ | refine AWP.skip ?_ | refine AWP.block ?_ | refine YH (z := ?_) | refine ZA (z := ?_) | refine ZM (z := ?_))
        refine leW rfl rfl rfl r1 (by rw [z1]; rfl) ?_
        rw [(x.args[i]).row_eq]
        repeat (first | refine nl ?_ | refine AWP.seq ?_ | refine rg ?_ | refine ZA (z := ?_) | refine ZD (z := ?_) | refine YA (z := ?_))
        refine sbk (c := (n : Int)) rfl rfl rfl (by rw [wrap64 (by omega)]; omega) ?_
        rw [← (x.args[i]).row_eq]
        refine cle rfl rfl (ih x.args[i] _) ?_
        cases hw : wholeX n x.args[i] with
        | true =>
          repeat (first | refine nl ?_ | refine rg ?_ | refine AWP.skip ?_ | refine YI (z := ?_) | refine ZA (z := ?_) | refine ZO (z := ?_))
          refine ⟨i + 1, ⟨hi, fun j hj hji => ?_⟩, by omega, (tl4 rfl rfl rfl rfl), .refl _⟩
          rcases Nat.lt_or_ge j i with h | h
          · exact q2 j hj h
          · have : j = i := by omega
            subst this
            exact hw
        | false =>
          rw [not_all hi hw]
          repeat (first | refine nl ?_ | refine AWP.seq ?_ | refine rg ?_ | refine YH (z := ?_) | refine ZA (z := ?_))
          exact AWP.ret (rets rfl (.refl _) (.refl _) ⟨rfl, rfl⟩)
      · rw [all_at fun j hj => q2 j hj (by omega)]
        repeat (first | refine nl ?_ | refine AWP.seq ?_ | refine rg ?_ | refine YI (z := ?_) | refine ZA (z := ?_))
        refine AWP.exit (blk_hit ?_)
        repeat (first | refine nl ?_ | refine AWP.seq ?_ | refine rg ?_ | refine ZA (z := ?_))
        exact AWP.ret (rets rfl (.refl _) (.refl _) ⟨rfl, rfl⟩)
    · rw [whole_no h]
      by_cases k1 : x.op < 0
      · repeat (first | refine nl ?_ | refine AWP.seq ?_ | refine rg ?_ | refine ZA (z := ?_) | refine ZR (z := ?_))
        refine AWP.draw rfl 21 21 (fun _ _ => False) rfl ?_
        repeat (first | refine dq (v := .bool true) rfl rfl rfl (fun st1 hle => sm rfl (nl ⟨_, rfl, congrArg AV.bool (by (fail_if_success rfl); first | assumption | exact decide_eq_true (by assumption) | exact decide_eq_false (by assumption) | exact decide_eq_true rfl | exact decide_eq_true (by omega) | exact decide_eq_false (by omega)), rfl⟩)) ?_ | refine ds rfl rfl ?_ | refine du rfl rfl rfl ?_ | refine dp (h := fun _ _ => ZF (z := nz)) (z := ?_) | refine dp (h := fun _ _ => ZC (z := nz)) (z := ?_))
        refine dn ⟨fun _ => ?_, fun h => absurd h (by decide)⟩
        repeat (first | refine nl ?_ | refine AWP.seq ?_ | refine rg ?_ | refine YH (z := ?_) | refine ZA (z := ?_))
        exact AWP.ret (rets rfl (.refl _) (.refl _) ⟨rfl, rfl⟩)
      by_cases k2 : x.op > 17
      · repeat (first | refine nl ?_ | refine AWP.seq ?_ | refine rg ?_ | refine ZA (z := ?_) | refine ZR (z := ?_))
        refine AWP.draw rfl 21 21 (fun _ _ => False) rfl ?_
        repeat (first | refine dq (v := .bool true) rfl rfl rfl (fun st1 hle => sm rfl (nl ⟨_, rfl, congrArg AV.bool (by (fail_if_success rfl); first | assumption | exact decide_eq_true (by assumption) | exact decide_eq_false (by assumption) | exact decide_eq_true rfl | exact decide_eq_true (by omega) | exact decide_eq_false (by omega)), rfl⟩)) ?_ | refine dq (v := .bool false) rfl rfl rfl (fun st1 hle => sm rfl (nl ⟨_, rfl, congrArg AV.bool (by (fail_if_success rfl); first | assumption | exact decide_eq_true (by assumption) | exact decide_eq_false (by assumption) | exact decide_eq_true rfl | exact decide_eq_true (by omega) | exact decide_eq_false (by omega)), rfl⟩)) ?_ | refine ds rfl rfl ?_ | refine du rfl rfl rfl ?_ | refine dp (h := fun _ _ => ZF (z := nz)) (z := ?_) | refine dp (h := fun _ _ => ZC (z := nz)) (z := ?_))
        refine dn ⟨fun _ => ?_, fun h => absurd h (by decide)⟩
        repeat (first | refine nl ?_ | refine AWP.seq ?_ | refine rg ?_ | refine YH (z := ?_) | refine ZA (z := ?_))
        exact AWP.ret (rets rfl (.refl _) (.refl _) ⟨rfl, rfl⟩)
      have k3 : (((x.args.map XT.row).length : Nat) : Int) ≠ (opdN x.op : Int) := by omega
      repeat (first | refine nl ?_ | refine AWP.seq ?_ | refine rg ?_ | refine ZA (z := ?_) | refine ZR (z := ?_))
      refine AWP.draw rfl 21 21 (fun _ _ => False) rfl ?_
      repeat (first | refine dq (v := .bool true) rfl rfl rfl (fun st1 hle => sm rfl (nl ⟨_, rfl, congrArg AV.bool (by (fail_if_success rfl); first | assumption | exact decide_eq_true (by assumption) | exact decide_eq_false (by assumption) | exact decide_eq_true rfl | exact decide_eq_true (by omega) | exact decide_eq_false (by omega)), rfl⟩)) ?_ | refine dq (v := .bool false) rfl rfl rfl (fun st1 hle => sm rfl (nl ⟨_, rfl, congrArg AV.bool (by (fail_if_success rfl); first | assumption | exact decide_eq_true (by assumption) | exact decide_eq_false (by assumption) | exact decide_eq_true rfl | exact decide_eq_true (by omega) | exact decide_eq_false (by omega)), rfl⟩)) ?_ | refine ds rfl rfl ?_ | refine dp (h := fun _ _ => ZF (z := nz)) (z := ?_) | refine dp (h := fun _ _ => ZC (z := nz)) (z := ?_) | refine dp (h := fun _ _ => ZJ (z := nz)) (z := ?_) | refine dp (h := fun _ _ => YC (z := nz)) (z := ?_))
      refine dn ⟨fun _ => ?_, fun h => absurd h (by decide)⟩
      repeat (first | refine nl ?_ | refine AWP.seq ?_ | refine rg ?_ | refine YH (z := ?_) | refine ZA (z := ?_))
      exact AWP.ret (rets rfl (.refl _) (.refl _) ⟨rfl, rfl⟩)
end Go.Proofs
/- The reference's whole expressions; levels of operations, walked. No conditions: definitions and lemmas only. -/
namespace Go.Proofs
open Go.AM
attribute [local irreducible] AWP AOps ACalls AAny

set_option maxHeartbeats 2000000 in
theorem right_ok : ∀ (n : Nat), n ≤ 1000 → ∀ (x : XT) (st : St), ACalls Tryd.prog 17 [.agg x.row, .int .i64 (n : Int)] st (fun v st' => v = .bool (wholeX n x) ∧ st' = st) (fun _ _ => False)
  | 0, _, x, st => by
    refine ACalls.ofBody Tryd.func17 rfl Tryd.ntmps17 rfl ?_
    rw [x.row_eq]
    repeat (first | refine nl ?_ | refine AWP.seq ?_ | refine rg ?_ | refine ZA (z := ?_) | refine ZR (z := ?_))
    refine AWP.draw rfl 11 11 (fun _ _ => False) rfl ?_
    repeat (first | refine ds rfl rfl ?_ | refine du rfl rfl rfl ?_)
    refine dn ⟨fun _ => ?_, fun h => absurd h (by decide)⟩
    repeat (first | refine nl ?_ | refine AWP.seq ?_ | refine rg ?_ | refine YH (z := ?_) | refine ZA (z := ?_))
    exact AWP.ret (rets rfl (.refl _) (.refl _) ⟨rfl, rfl⟩)
  | n + 1, hn, x, st => by
    have ih := right_ok n (by omega)
    refine ACalls.ofBody Tryd.func17 rfl Tryd.ntmps17 rfl ?_
    rw [x.row_eq]
    have k0 : ¬ ((n + 1 : Nat) : Int) < 1 := by omega
    have l1 : (x.args.map XT.row).length = x.args.length := List.length_map ..
    by_cases h : 0 ≤ x.op ∧ x.op ≤ 17 ∧ x.args.length = opdN x.op
    · rw [whole_yes h]
      have ha : argN x.op = (opdN x.op : Int) := by rw [argN, if_neg (by omega)]
      have k3 : ¬ argN x.op ≠ (((x.args.map XT.row).length : Nat) : Int) := by omega
      have hle := opdN_le x.op
      repeat (first | refine nl ?_ | refine AWP.seq ?_ | refine rg ?_ | refine ZA (z := ?_) | refine ZR (z := ?_))
      refine AWP.draw rfl 11 11 (fun _ _ => False) rfl ?_
      repeat (first | refine dq (v := .bool false) rfl rfl rfl (fun st1 hle => sm rfl (nl ⟨_, rfl, congrArg AV.bool (by (fail_if_success rfl); first | assumption | exact decide_eq_true (by assumption) | exact decide_eq_false (by assumption) | exact decide_eq_true rfl | exact decide_eq_true (by omega) | exact decide_eq_false (by omega)), rfl⟩)) ?_ | refine ds rfl rfl ?_ | refine dp (h := fun _ _ => ZF (z := nz)) (z := ?_) | refine dp (h := fun _ _ => ZC (z := nz)) (z := ?_) | refine dp (h := fun _ _ => ZJ (z := nz)) (z := ?_) | refine dp (h := fun _ _ => YC (z := nz)) (z := ?_))
      refine dn ⟨fun _ => ?_, fun h => absurd h (by decide)⟩
      repeat (first | refine nl ?_ | refine AWP.seq ?_ | refine rg ?_ | refine AWP.skip ?_ | refine AWP.block ?_ | refine YI (z := ?_) | refine ZA (z := ?_))
      refine AWP.loop (α := Nat) (fun i => [(5, .int .i64 (i : Int)), (2, .eptr 6 [xcs x.op x.num x.vr x.name x.field (.view 6 (x.args.map XT.row) .shared)] 0 0), (1, .int .i64 ((n + 1 : Nat) : Int))]) (fun _ => st) (fun i => i ≤ x.args.length ∧ ∀ j (hj : j < x.args.length), j < i → wholeX n x.args[j] = true) (fun i => x.args.length - i) 0
        ⟨Nat.zero_le _, fun j _ h => absurd h (by omega)⟩ (tl3 rfl rfl rfl) (.refl _) ?_
      rintro i ⟨q1, q2⟩
      refine AWP.weaken (T' := [(5, .int .i64 (i : Int)), (2, .eptr 6 [xcs x.op x.num x.vr x.name x.field (.view 6 (x.args.map XT.row) .shared)] 0 0), (1, .int .i64 ((n + 1 : Nat) : Int))]) (tl3 rfl rfl rfl) (.refl _) ?_
      repeat (first | refine nl ?_ | refine AWP.seq ?_ | refine rg ?_ | refine ZA (z := ?_) | refine ZC (z := ?_) | refine ZF (z := ?_) | refine ZJ (z := ?_))
      rw [l1]
      by_cases hi : i < x.args.length
      · have hi' : i < (x.args.map XT.row).length := by omega
        have r1 := row_at hi
        have z1 := (x.args[i]).row_len
        repeat (first | refine AWP.seq ?_ | refine rg ?_ | refine AWP.skip ?_ | refine AWP.block ?_ | refine YH (z := ?_) | refine ZA (z := ?_) | refine ZC (z := ?_) | refine ZF (z := ?_) | refine ZM (z := ?_))
        refine leW rfl rfl rfl r1 (by rw [z1]; rfl) ?_
        rw [(x.args[i]).row_eq]
        repeat (refine ZA (z := ?_))
        refine sbk (c := (n : Int)) rfl rfl rfl (by rw [wrap64 (by omega)]; omega) ?_
        rw [← (x.args[i]).row_eq]
        refine cle rfl rfl (ih x.args[i] _) ?_
        cases hw : wholeX n x.args[i] with
        | true =>
          repeat (first | refine nl ?_ | refine rg ?_ | refine AWP.skip ?_ | refine YI (z := ?_) | refine ZA (z := ?_) | refine ZO (z := ?_))
          refine ⟨i + 1, ⟨hi, fun j hj hji => ?_⟩, by omega, (tl3 rfl rfl rfl), .refl _⟩
          rcases Nat.lt_or_ge j i with h | h
          · exact q2 j hj h
          · have : j = i := by omega
            subst this
            exact hw
        | false =>
          rw [not_all hi hw]
          repeat (first | refine nl ?_ | refine AWP.seq ?_ | refine rg ?_ | refine YH (z := ?_) | refine ZA (z := ?_))
          exact AWP.ret (rets rfl (.refl _) (.refl _) ⟨rfl, rfl⟩)
      · rw [all_at fun j hj => q2 j hj (by omega)]
        repeat (refine YI (z := ?_))
        refine AWP.exit (blk_hit ?_)
        repeat (first | refine nl ?_ | refine AWP.seq ?_ | refine rg ?_ | refine ZA (z := ?_))
        exact AWP.ret (rets rfl (.refl _) (.refl _) ⟨rfl, rfl⟩)
    · rw [whole_no h]
      have k3 : argN x.op ≠ (((x.args.map XT.row).length : Nat) : Int) := by
        unfold argN
        split <;> omega
      repeat (first | refine nl ?_ | refine AWP.seq ?_ | refine rg ?_ | refine ZA (z := ?_) | refine ZR (z := ?_))
      refine AWP.draw rfl 11 11 (fun _ _ => False) rfl ?_
      repeat (first | refine dq (v := .bool true) rfl rfl rfl (fun st1 hle => sm rfl (nl ⟨_, rfl, congrArg AV.bool (by (fail_if_success rfl); first | assumption | exact decide_eq_true (by assumption) | exact decide_eq_false (by assumption) | exact decide_eq_true rfl | exact decide_eq_true (by omega) | exact decide_eq_false (by omega)), rfl⟩)) ?_ | refine ds rfl rfl ?_ | refine dp (h := fun _ _ => ZF (z := nz)) (z := ?_) | refine dp (h := fun _ _ => ZC (z := nz)) (z := ?_) | refine dp (h := fun _ _ => ZJ (z := nz)) (z := ?_) | refine dp (h := fun _ _ => YC (z := nz)) (z := ?_))
      refine dn ⟨fun _ => ?_, fun h => absurd h (by decide)⟩
      repeat (first | refine nl ?_ | refine AWP.seq ?_ | refine rg ?_ | refine YH (z := ?_) | refine ZA (z := ?_))
      exact AWP.ret (rets rfl (.refl _) (.refl _) ⟨rfl, rfl⟩)
theorem opL_rk : ∀ (m : Nat) (s : List UInt8) (o l : Nat), opL[m]? = some (s, o, l) → (l : Int) = rk (o : Int) ∧ sgO o = s
  | 0, _, _, _, h => by cases h; exact ⟨by decide, by decide⟩
  | 1, _, _, _, h => by cases h; exact ⟨by decide, by decide⟩
  | 2, _, _, _, h => by cases h; exact ⟨by decide, by decide⟩
  | 3, _, _, _, h => by cases h; exact ⟨by decide, by decide⟩
  | 4, _, _, _, h => by cases h; exact ⟨by decide, by decide⟩
  | 5, _, _, _, h => by cases h; exact ⟨by decide, by decide⟩
  | 6, _, _, _, h => by cases h; exact ⟨by decide, by decide⟩
  | 7, _, _, _, h => by cases h; exact ⟨by decide, by decide⟩
  | 8, _, _, _, h => by cases h; exact ⟨by decide, by decide⟩
  | 9, _, _, _, h => by cases h; exact ⟨by decide, by decide⟩
  | 10, _, _, _, h => by cases h; exact ⟨by decide, by decide⟩
  | 11, _, _, _, h => by cases h; exact ⟨by decide, by decide⟩
  | n + 12, _, _, _, h => by cases h
/-- Where the table has an operation. -/
theorem opL_has {op : Int} (h6 : 6 ≤ op) (h17 : op ≤ 17) : ∃ (m : Nat) (s : List UInt8) (o l : Nat), opL[m]? = some (s, o, l) ∧ (o : Int) = op := by
  have h : op = 6 ∨ op = 7 ∨ op = 8 ∨ op = 9 ∨ op = 10 ∨ op = 11 ∨ op = 12 ∨ op = 13 ∨ op = 14 ∨ op = 15 ∨ op = 16 ∨ op = 17 := by omega
  rcases h with rfl | rfl | rfl | rfl | rfl | rfl | rfl | rfl | rfl | rfl | rfl | rfl
  · exact ⟨7, _, _, _, rfl, rfl⟩
  · exact ⟨8, _, _, _, rfl, rfl⟩
  · exact ⟨9, _, _, _, rfl, rfl⟩
  · exact ⟨10, _, _, _, rfl, rfl⟩
  · exact ⟨11, _, _, _, rfl, rfl⟩
  · exact ⟨4, _, _, _, rfl, rfl⟩
  · exact ⟨5, _, _, _, rfl, rfl⟩
  · exact ⟨6, _, _, _, rfl, rfl⟩
  · exact ⟨0, _, _, _, rfl, rfl⟩
  · exact ⟨1, _, _, _, rfl, rfl⟩
  · exact ⟨2, _, _, _, rfl, rfl⟩
  · exact ⟨3, _, _, _, rfl, rfl⟩

set_option maxHeartbeats 1000000 in
theorem level_ok (op : Int) (st : St) (hg : st.row 1 = some opRow) : ACalls Tryd.prog 42 [.int .i64 op] st (fun v st' => v = .int .i64 (rk op) ∧ st' = st) (fun _ _ => False) := by
  refine ACalls.ofBody Tryd.func42 rfl Tryd.ntmps42 rfl ?_
  repeat (refine AWP.seq ?_)
  refine rg ?_
  repeat (refine ZA (z := ?_))
  repeat (first | refine nl ?_ | refine AWP.seq ?_)
  refine rg ?_
  refine leW (row := opRow) (rows := [opRow]) (i := 0) (s := 36) rfl rfl (congrArg (Option.map fun row : List AV => AV.eptr row.length [row] 0 0) hg) rfl rfl ?_
  repeat (first | refine nl ?_ | refine AWP.block ?_ | refine ZA (z := ?_))
  refine AWP.loop (α := Nat) (fun i => [(6, .int .i64 (i : Int)), (5, .agg opRow), (0, .int .i64 op)]) (fun _ => st) (fun i => i ≤ 12 ∧ ∀ (j : Nat) (s : List UInt8) (o l : Nat), j < i → opL[j]? = some (s, o, l) → (o : Int) ≠ op) (fun i => 12 - i) 0
    ⟨by omega, fun j _ _ _ h => absurd h (by omega)⟩ (tl3 rfl rfl rfl) (.refl _) ?_
  rintro i ⟨h1, h2⟩
  refine AWP.weaken (T' := [(6, .int .i64 (i : Int)), (5, .agg opRow), (0, .int .i64 op)]) (tl3 rfl rfl rfl) (.refl _) ?_
  by_cases hi : i < 12
  · obtain ⟨s, o, l, q1, q2, q3⟩ := opRow_at i hi
    repeat (refine AWP.seq ?_)
    refine rg ?_
    repeat (refine ZA (z := ?_))
    repeat (first | refine nl ?_ | refine AWP.seq ?_)
    refine cT rfl (decide_eq_true (by omega)) ?_
    repeat (first | refine AWP.seq ?_ | refine AWP.skip ?_ | refine AWP.block ?_)
    refine rg ?_
    refine ixgA (m := i) rfl rfl rfl rfl rfl hi q2 q3 ?_
    repeat (first | refine nl ?_ | refine AWP.seq ?_ | refine rg ?_ | refine ZA (z := ?_) | refine ZC (z := ?_) | refine ZF (z := ?_) | refine YA (z := ?_))
    by_cases ho : (o : Int) = op
    · repeat (first | refine nl ?_ | refine AWP.seq ?_ | refine rg ?_ | refine YH (z := ?_) | refine ZA (z := ?_) | refine ZC (z := ?_) | refine ZF (z := ?_))
      refine AWP.ret (rets rfl (.refl _) (.refl _) ⟨?_, rfl⟩)
      rw [← ho, ← (opL_rk _ _ _ _ q1).1]
      rfl
    · repeat (first | refine nl ?_ | refine rg ?_ | refine AWP.skip ?_ | refine YI (z := ?_) | refine ZA (z := ?_) | refine ZO (z := ?_))
      refine ⟨i + 1, ⟨by omega, fun j s' o' l' hj hx => ?_⟩, by omega, (tl3 rfl rfl rfl), .refl _⟩
      rcases Nat.lt_or_ge j i with hji | hji
      · exact h2 j s' o' l' hji hx
      · have : j = i := by omega
        subst this
        rw [q1] at hx
        cases hx
        exact ho
  · have hno : ¬ (6 ≤ op ∧ op ≤ 17) := fun h => by
      obtain ⟨m, s, o, l, k1, k2⟩ := opL_has h.1 h.2
      have hm : m < 12 := (List.getElem?_eq_some_iff.1 k1).1
      exact h2 m s o l (by omega) k1 k2
    repeat (refine AWP.seq ?_)
    refine rg ?_
    repeat (refine ZA (z := ?_))
    repeat (first | refine nl ?_ | refine AWP.seq ?_)
    refine cF rfl (decide_eq_false (by omega)) ?_
    refine AWP.exit (blk_hit ?_)
    by_cases h4 : op = 4
    · repeat (first | refine nl ?_ | refine AWP.seq ?_ | refine rg ?_ | refine YH (z := ?_) | refine ZA (z := ?_) | refine ZB (z := ?_) | refine YD (z := ?_))
      refine AWP.ret (rets rfl (.refl _) (.refl _) ⟨?_, rfl⟩)
      subst h4
      rfl
    by_cases h5 : op = 5
    · repeat (first | refine nl ?_ | refine AWP.seq ?_ | refine rg ?_ | refine YH (z := ?_) | refine ZA (z := ?_) | refine YE (z := ?_))
      refine AWP.ret (rets rfl (.refl _) (.refl _) ⟨?_, rfl⟩)
      subst h5
      rfl
    · repeat (first | refine nl ?_ | refine AWP.seq ?_ | refine rg ?_ | refine AWP.skip ?_ | refine YI (z := ?_) | refine ZA (z := ?_) | refine YE (z := ?_))
      refine AWP.ret (rets rfl (.refl _) (.refl _) ⟨?_, rfl⟩)
      rw [rk, if_neg (by omega), if_neg (by omega), if_neg (by omega), if_neg (by omega), if_neg (by omega)]
      rfl
end Go.Proofs
