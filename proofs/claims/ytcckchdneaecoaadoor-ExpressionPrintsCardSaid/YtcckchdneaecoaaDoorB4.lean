/- A parsed expression's printed text is at most three times as long as the text. No program in sight. -/
import Derived.Test.YtcckchdneaecoaaDoorRows
import Derived.Test.YtcckchdneaecoaaDoorTie
import Derived.Test.YtcckchdneaecoaaDoorCards
import Derived.ProofKit
import Derived.OpenShut
import Derived.Lay
import Derived.Test.YtcckchdneaecoaaDoorB3
namespace Go.Proofs

def bl (x : Xp) : Nat := (xby x).length
def tl (x : Xp) : Nat := (xtk x).length

theorem tw_tail (ts : List Tk) : tw ts.tail + (wordOf (hd ts)).length = tw ts := by
  cases ts with
  | nil => rfl
  | cons t r =>
    rw [tw_cons]
    show tw r + (wordOf t).length = _
    omega
theorem len_tail {ts : List Tk} (h : (hd ts).kind ≠ 0) : ts.tail.length + 1 = ts.length := by
  cases ts with
  | nil => exact absurd rfl h
  | cons t r => rfl
theorem sg_word {t : Tk} {s : List UInt8} (h : sg t s = true) : (wordOf t).length = s.length ∧ t.kind ≠ 0 := by
  have h : t.kind = 4 ∧ t.text = s := of_decide_eq_true h
  unfold wordOf
  rw [if_neg (by omega), h.2]
  exact ⟨rfl, by omega⟩
theorem bin_text {t : Tk} (h : (bin t).1 ≠ 0) : (wordOf t).length = (sgO (bin t).2).length ∧ 1 ≤ (sgO (bin t).2).length ∧ t.kind ≠ 0 := by
  unfold bin at *
  cases hf : binL.find? fun o => sg t o.1 with
  | none => rw [hf] at h; exact absurd rfl h
  | some o =>
    have h1 := List.mem_of_find?_eq_some hf
    have h2 := List.find?_some hf
    have h3 : ∀ o ∈ binL, sgO o.2.2 = o.1 ∧ 1 ≤ o.1.length := by decide
    obtain ⟨a1, a2⟩ := h3 o h1
    obtain ⟨w1, w2⟩ := sg_word h2
    show _ = (sgO o.2.2).length ∧ 1 ≤ (sgO o.2.2).length ∧ _
    rw [a1]
    exact ⟨w1, a2, w2⟩

theorem bl_pby (b : Bool) (l : List UInt8) : (pby b l).length = l.length + 2 * b1 b := by
  cases b <;> simp [pby, b1]
theorem tl_par (b : Bool) (l : List Tk) : (par b l).length = l.length + 2 * b1 b := by
  cases b <;> simp [par, b1]
theorem bl_bin (op : Nat) (a b : Xp) : bl (.bin op a b) = bl a + 2 * b1 (lpar op a) + 2 + (sgO op).length + bl b + 2 * b1 (rpar op b) := by
  unfold bl
  simp only [xby, List.length_append, List.length_cons, bl_pby]
  omega
theorem tl_bin (op : Nat) (a b : Xp) : tl (.bin op a b) = tl a + 2 * b1 (lpar op a) + 1 + tl b + 2 * b1 (rpar op b) := by
  unfold tl
  simp only [xtk, List.length_append, List.length_cons, tl_par]
  omega
theorem bl_una (op : Nat) (a : Xp) : bl (.una op a) = 1 + bl a + 2 * pen 5 a ∧ tl (.una op a) = 1 + tl a + 2 * pen 5 a := by
  have h1 : bl (.una op a) = (pby (decide (lvX a < 5)) (xby a)).length + 1 := rfl
  have h2 : tl (.una op a) = (par (decide (lvX a < 5)) (xtk a)).length + 1 := rfl
  rw [bl_pby] at h1
  rw [tl_par] at h2
  have e1 : bl a = (xby a).length := rfl
  have e2 : tl a = (xtk a).length := rfl
  have e3 : pen 5 a = b1 (decide (lvX a < 5)) := rfl
  exact ⟨by omega, by omega⟩
theorem bl_elt (s : List UInt8) (a : Xp) : bl (.elt s a) = s.length + bl a + 2 ∧ tl (.elt s a) = tl a + 3 := by
  have h1 : bl (.elt s a) = (s ++ 91 :: (xby a ++ [93])).length := rfl
  have h2 : tl (.elt s a) = (xtk a ++ [tS [93]]).length + 1 + 1 := rfl
  rw [List.length_append, List.length_cons, List.length_append, List.length_cons, List.length_nil] at h1
  rw [List.length_append, List.length_cons, List.length_nil] at h2
  have e1 : bl a = (xby a).length := rfl
  have e2 : tl a = (xtk a).length := rfl
  exact ⟨by omega, by omega⟩

/-- Lengths of the printed text and of its tokens. -/
def WL (ts : List Tk) (x : Xp) (r : List Tk) (p : Nat) : Prop := 3 * tw r + bl x + 2 * p ≤ 3 * tw ts ∧ r.length + tl x + 2 * p ≤ ts.length

theorem wl : ∀ k : Nat, (∀ lv d ts x r, 1 ≤ lv → lv ≤ 5 → pe k lv d ts = .ok (x, r) → WL ts x r (pen lv x)) ∧
    (∀ lv d a ts x r, 1 ≤ lv → lv ≤ 4 → pl k lv d a ts = .ok (x, r) →
      3 * tw r + bl x + 2 * pen lv x ≤ 3 * tw ts + bl a + 2 * penL lv a ∧ r.length + tl x + 2 * pen lv x ≤ ts.length + tl a + 2 * penL lv a) ∧
    (∀ d ts x r, po k d ts = .ok (x, r) → WL ts x r (pen 5 x))
  | 0 => ⟨fun _ _ _ _ _ _ _ h => (by rw [pe] at h; cases h), fun _ _ _ _ _ _ _ _ h => (by rw [pl] at h; cases h), fun _ _ _ _ h => (by rw [po] at h; cases h)⟩
  | k + 1 => by
    obtain ⟨i1, i2, i3⟩ := wl k
    refine ⟨fun lv d ts x r h1 h5 h => ?_, fun lv d a ts x r h1 h4 h => ?_, fun d ts x r h => ?_⟩
    · rw [pe_succ] at h
      split at h
      · have : lv = 5 := by omega
        subst this
        exact i3 d ts x r h
      · cases hp : pe k (lv + 1) d ts with
        | error e => rw [hp] at h; cases h
        | ok p =>
          obtain ⟨a, r1⟩ := p
          rw [hp] at h
          simp only at h
          obtain ⟨a1, a2⟩ := i1 (lv + 1) d ts a r1 (by omega) (by omega) hp
          have hu := pen_up lv a h1
          obtain ⟨c1, c2⟩ := i2 lv d a r1 x r h1 (by omega) h
          exact ⟨by omega, by omega⟩
    · rw [pl_succ] at h
      split at h
      · rename_i hb
        obtain ⟨o1, o2, o3, o4⟩ := bin_op (t := hd ts) (by omega)
        obtain ⟨q1, q2, q3⟩ := bin_text (t := hd ts) (by omega)
        have ot := tw_tail ts
        have ol := len_tail q3
        cases hp : pe k (lv + 1) d ts.tail with
        | error e => rw [hp] at h; cases h
        | ok p =>
          obtain ⟨b, r1⟩ := p
          rw [hp] at h
          simp only at h
          obtain ⟨a1, a2⟩ := i1 (lv + 1) d ts.tail b r1 (by omega) (by omega) hp
          have hl : lvX (.bin (bin (hd ts)).2 a b) = lv := by rw [← hb, ← o1]; rfl
          have elp : b1 (lpar (bin (hd ts)).2 a) = penL lv a := by unfold lpar penL; rw [o1, hb]
          have erp : b1 (rpar (bin (hd ts)).2 b) = pen (lv + 1) b := by
            unfold rpar pen
            rw [o1, hb]
            congr 1
            exact decide_eq_decide.2 (by omega)
          have hbl := bl_bin (bin (hd ts)).2 a b
          have htl := tl_bin (bin (hd ts)).2 a b
          rw [elp, erp] at hbl htl
          have hp0 : pen lv (.bin (bin (hd ts)).2 a b) = 0 := by
            unfold pen
            rw [hl, decide_eq_false (by omega)]
            rfl
          split at h
          · cases h
            rw [hp0]
            exact ⟨by omega, by omega⟩
          · rename_i hl1
            have hp1 : penL lv (.bin (bin (hd ts)).2 a b) = 0 := by
              unfold penL
              rw [hl, decide_eq_false (by omega)]
              rfl
            obtain ⟨c1, c2⟩ := i2 lv d _ r1 x r h1 h4 h
            rw [hp1] at c1 c2
            exact ⟨by omega, by omega⟩
      · cases h
        have hp := pen_le lv a
        exact ⟨by omega, by omega⟩
    · rw [po_succ] at h
      have ot := tw_tail ts
      have ot2 := tw_tail ts.tail
      have ot3 := tw_tail ts.tail.tail
      split at h
      · rename_i hb
        have h0 : (hd ts).kind ≠ 0 := by
          intro e
          simp [beg, sg, e] at hb
        have ol := len_tail h0
        split at h
        · cases h
        split at h
        · rename_i c
          cases h
          have e : pen 5 (.lit (hd ts).num) = 0 := rfl
          have w : (wordOf (hd ts)).length = bl (.lit (hd ts).num) := by unfold wordOf bl; rw [if_pos c]; rfl
          rw [e]
          refine ⟨by omega, ?_⟩
          show _ + 1 + _ ≤ _
          omega
        split at h
        · rename_i c0 c1
          have w : (wordOf (hd ts)).length = (hd ts).text.length := by unfold wordOf; rw [if_neg (by omega)]
          split at h
          · rename_i c2
            obtain ⟨w2, k2⟩ := sg_word c2
            have ol2 := len_tail k2
            split at h
            · rename_i c3
              cases h
              have w3 : (wordOf (hd ts.tail.tail)).length = (hd ts.tail.tail).text.length := by unfold wordOf; rw [if_neg (by omega)]
              have ol3 := len_tail (ts := ts.tail.tail) (by omega)
              have e : pen 5 (.fld (hd ts).text (hd ts.tail.tail).text) = 0 := rfl
              have e2 : bl (.fld (hd ts).text (hd ts.tail.tail).text) = (hd ts).text.length + 1 + (hd ts.tail.tail).text.length := by
                unfold bl
                simp only [xby, List.length_append, List.length_cons]
                omega
              have e3 : tl (.fld (hd ts).text (hd ts.tail.tail).text) = 3 := rfl
              simp only [List.length_cons, List.length_nil] at w2
              rw [e]
              exact ⟨by omega, by omega⟩
            · cases h
          split at h
          · rename_i c2 c3
            obtain ⟨w2, k2⟩ := sg_word c3
            have ol2 := len_tail k2
            cases hp : pe k 1 (d + 1) ts.tail.tail with
            | error e => rw [hp] at h; cases h
            | ok p =>
              obtain ⟨a, r1⟩ := p
              rw [hp] at h
              simp only at h
              obtain ⟨a1, a2⟩ := i1 1 (d + 1) ts.tail.tail a r1 (by omega) (by omega) hp
              have or := tw_tail r1
              split at h
              · rename_i c4
                obtain ⟨w4, k4⟩ := sg_word c4
                have ol4 := len_tail k4
                cases h
                have e : pen 5 (.elt (hd ts).text a) = 0 := rfl
                obtain ⟨e2, e3⟩ := bl_elt (hd ts).text a
                simp only [List.length_cons, List.length_nil] at w2 w4
                rw [e]
                exact ⟨by omega, by omega⟩
              · cases h
          · cases h
            have e : pen 5 (.var (hd ts).text) = 0 := rfl
            have e2 : bl (.var (hd ts).text) = (hd ts).text.length := rfl
            have e3 : tl (.var (hd ts).text) = 1 := rfl
            rw [e]
            exact ⟨by omega, by omega⟩
        rename_i c1 c2
        have h4 : (hd ts).kind = 4 := by
          simp only [beg, Bool.or_eq_true, sg, decide_eq_true_eq] at hb
          omega
        have wt : (wordOf (hd ts)).length = 1 := by
          simp only [beg, Bool.or_eq_true, sg, decide_eq_true_eq] at hb
          unfold wordOf
          rw [if_neg c1]
          rcases hb with ((((h | h) | h) | h) | h)
          · omega
          · omega
          · rw [h.2]; rfl
          · rw [h.2]; rfl
          · rw [h.2]; rfl
        split at h
        · cases hp : pe k 1 (d + 1) ts.tail with
          | error e => rw [hp] at h; cases h
          | ok p =>
            obtain ⟨a, r1⟩ := p
            rw [hp] at h
            simp only at h
            obtain ⟨a1, a2⟩ := i1 1 (d + 1) ts.tail a r1 (by omega) (by omega) hp
            have or := tw_tail r1
            split at h
            · rename_i c4
              obtain ⟨w4, k4⟩ := sg_word c4
              have ol4 := len_tail k4
              cases h
              have hb1 : pen 5 x ≤ 1 := b1_le _
              simp only [List.length_cons, List.length_nil] at w4
              exact ⟨by omega, by omega⟩
            · cases h
        · cases hp : po k (d + 1) ts.tail with
          | error e => rw [hp] at h; cases h
          | ok p =>
            obtain ⟨a, r1⟩ := p
            rw [hp] at h
            simp only at h
            obtain ⟨a1, a2⟩ := i3 (d + 1) ts.tail a r1 hp
            cases h
            obtain ⟨e2, e3⟩ := bl_una (if (hd ts).text = [45] then 4 else 5) a
            have e : pen 5 (.una (if (hd ts).text = [45] then 4 else 5) a) = 0 := rfl
            rw [e]
            exact ⟨by omega, by omega⟩
      · cases h
end Go.Proofs
/- A text's expression; what is parsed, printed and parsed again. No program in sight. -/
namespace Go.Proofs

/-- The expression of a text, or the error. -/
def eparse (s : List UInt8) : Except Nat Xp :=
  if (scan s).2.2 = 0 then
    match qe 1 0 (scan s).1 with
    | .error e => .error e
    | .ok (x, r) => if (hd r).kind = 0 then .ok x else .error 7
  else .error (scan s).2.2

theorem tw_snoc (ts : List Tk) (l : Nat) : tw (ts ++ [⟨0, l, [], 0⟩]) = tw ts := by
  unfold tw
  rw [List.map_append, List.sum_append]
  rfl

/-- What is known of a text that is parsed. -/
theorem eparse_ok {s : List UInt8} {x : Xp} (h : eparse s = .ok x) : Wop x ∧ WX Nm Nu x ∧ nd x ≤ 8 ∧ np x ≤ c40 s ∧ bl x ≤ 3 * s.length := by
  unfold eparse at h
  split at h
  · rename_i he
    obtain ⟨ts, l, e, g1, g2, g3, g4⟩ := scan_tok s he
    rw [e] at h
    simp only at h
    cases hq : qe 1 0 (ts ++ [⟨0, l, [], 0⟩]) with
    | error e => rw [hq] at h; cases h
    | ok p =>
      obtain ⟨y, r⟩ := p
      rw [hq] at h
      simp only at h
      split at h
      · cases h
        have hp := qx (Pn := Nm) (Pm := Nu) hq
        have hw := (wl _).1 1 0 _ _ _ (by omega) (by omega) hq
        have hgt : GT Nm Nu (ts ++ [⟨0, l, [], 0⟩]) := by
          intro t ht
          rcases List.mem_append.1 ht with h | h
          · exact g1 t h
          · rw [List.mem_singleton.1 h]
            exact ⟨fun h => (by cases h), fun h => (by cases h)⟩
        have ho : opn (ts ++ [⟨0, l, [], 0⟩]) = opn ts := by
          unfold opn
          rw [List.countP_append]
          rfl
        have n1 := hp.nd
        have n2 := hp.np
        obtain ⟨w1, _⟩ := hw
        rw [ho] at n2
        rw [tw_snoc] at w1
        exact ⟨hp.op, (hp.wx hgt).1, by omega, by omega, by omega⟩
      · cases h
  · cases h

end Go.Proofs
/- An expression whose text is nested too deep is refused for that. No program in sight. -/
namespace Go.Proofs

/-- Refused at any level. -/
def RD (x : Xp) : Prop := (∀ lv d r, 1 ≤ lv → lv ≤ 4 → lv ≤ lvX x → 8 < d + nd x → qe lv d (xtk x ++ r) = .error 5) ∧ (5 ≤ lvX x → ∀ d r, 8 < d + nd x → qo d (xtk x ++ r) = .error 5)

theorem RD.paren {x : Xp} (h : RD x) (hw : Wop x) {d : Nat} {r : List Tk} (hn : 8 < d + (nd x + 1)) : qo d (par true (xtk x) ++ r) = .error 5 := by
  have e : par true (xtk x) ++ r = tS [40] :: (xtk x ++ (tS [41] :: r)) := by simp [par]
  rw [e, qo_eq, hd_cons, if_pos (by decide)]
  by_cases h8 : 8 < d
  · rw [if_pos h8]
  · rw [if_neg h8, if_neg (by decide), if_neg (by decide), if_pos (by decide), List.tail_cons, h.1 1 (d + 1) _ (by omega) (by omega) (lvX_pos hw) (by omega)]

end Go.Proofs
/- Parentheses of a printed text: how many, and balanced. No program in sight. -/
namespace Go.Proofs

def c41 (s : List UInt8) : Nat := s.countP (· == 41)
def NoP (s : List UInt8) : Prop := ∀ c ∈ s, c ≠ 40 ∧ c ≠ 41

theorem c40_append (a b : List UInt8) : c40 (a ++ b) = c40 a + c40 b := List.countP_append ..
theorem c41_append (a b : List UInt8) : c41 (a ++ b) = c41 a + c41 b := List.countP_append ..
theorem c40_cons (c : UInt8) (r : List UInt8) : c40 (c :: r) = c40 r + if c = 40 then 1 else 0 := by
  unfold c40
  rw [List.countP_cons]
  by_cases h : c = 40 <;> simp [h]
theorem c41_cons (c : UInt8) (r : List UInt8) : c41 (c :: r) = c41 r + if c = 41 then 1 else 0 := by
  unfold c41
  rw [List.countP_cons]
  by_cases h : c = 41 <;> simp [h]
theorem NoP.zero {s : List UInt8} (h : NoP s) : c40 s = 0 ∧ c41 s = 0 := by
  constructor
  · unfold c40
    rw [List.countP_eq_zero]
    intro c hc
    simpa using (h c hc).1
  · unfold c41
    rw [List.countP_eq_zero]
    intro c hc
    simpa using (h c hc).2

/-- As many close as open, and never more before. -/
structure Bal (s : List UInt8) : Prop where
  all : c40 s = c41 s
  pre : ∀ k, c41 (s.take k) ≤ c40 (s.take k)

theorem Bal.append {a b : List UInt8} (ha : Bal a) (hb : Bal b) : Bal (a ++ b) where
  all := by rw [c40_append, c41_append, ha.all, hb.all]
  pre := fun k => by
    rw [List.take_append, c40_append, c41_append]
    exact Nat.add_le_add (ha.pre k) (hb.pre _)
theorem Bal.par {l : List UInt8} (h : Bal l) (b : Bool) : Bal (pby b l) := by
  cases b with
  | false => exact h
  | true =>
    show Bal (40 :: (l ++ [41]))
    refine ⟨?_, fun k => ?_⟩
    · rw [c40_cons, c41_cons, c40_append, c41_append, h.all]
      rfl
    · cases k with
      | zero => exact Nat.le_refl _
      | succ k =>
        rw [List.take_succ_cons, c40_cons, c41_cons, List.take_append, c40_append, c41_append, if_pos rfl, if_neg (by decide)]
        have h1 := h.pre k
        have h2 : c41 (List.take (k - l.length) [41]) ≤ 1 := by
          cases k - l.length with
          | zero => exact Nat.zero_le _
          | succ n => rw [List.take_succ_cons, List.take_nil]; decide
        omega

/-- Behind an opening one at least as many close as open. -/
theorem Bal.rest {s : List UInt8} (h : Bal s) (k : Nat) : c40 (s.drop k) ≤ c41 (s.drop k) := by
  have h1 := h.pre k
  have h2 := h.all
  rw [← List.take_append_drop k s, c40_append, c41_append] at h2
  omega
end Go.Proofs
/- Printed expressions of any kind, plain. No conditions: definitions and lemmas only. -/
namespace Go.Proofs
open Go.AM

/-- How many operands an operation has. -/
def opdN (op : Int) : Nat := if op = 0 ∨ op = 1 ∨ op = 2 then 0 else if op = 3 ∨ op = 4 ∨ op = 5 then 1 else 2
/-- Operations that there are, with as many operands as they have, in at most so many levels. -/
def wholeX : Nat → XT → Bool
  | 0, _ => false
  | n + 1, x => decide (0 ≤ x.op ∧ x.op ≤ 17) && decide (x.args.length = opdN x.op) && x.args.all (wholeX n)
def x0 : XT := .mk 0 0 0 [] [] []
def XT.a (x : XT) : XT := (x.args[0]?).getD x0
def XT.b (x : XT) : XT := (x.args[1]?).getD x0
def XT.num : XT → Int | .mk _ num _ _ _ _ => num
/-- The text of a whole expression. -/
def txX : Nat → XT → List UInt8
  | 0, _ => []
  | n + 1, x =>
    if x.op = 0 then Lib.itoa x.num
    else if x.op = 1 then x.name
    else if x.op = 2 then x.name ++ [46] ++ x.field
    else if x.op = 3 then x.name ++ [91] ++ txX n x.a ++ [93]
    else if x.op = 4 then [45] ++ pby (decide (rk x.a.op < 5)) (txX n x.a)
    else if x.op = 5 then [33] ++ pby (decide (rk x.a.op < 5)) (txX n x.a)
    else pby (decide (rk x.a.op < rk x.op ∨ rk x.a.op = 1)) (txX n x.a) ++ [32] ++ sgO x.op.toNat ++ [32] ++ pby (decide (rk x.b.op ≤ rk x.op)) (txX n x.b)

mutual
def XT.nodes : XT → Nat
  | .mk _ _ _ _ _ args => 1 + xnodes args
def xnodes : List XT → Nat
  | [] => 0
  | x :: r => x.nodes + xnodes r
end
theorem XT.nodes_eq (x : XT) : x.nodes = 1 + xnodes x.args := by cases x; rw [XT.nodes]; rfl
/-- How long a string of an argument may be. -/
def Smax : Nat := 140737488351232
inductive GX : XT → Prop
  | mk (op num var : Int) (name field : List UInt8) (args : List XT) (h1 : w64 op) (h2 : w64 num) (h3 : name.length ≤ Smax) (h4 : field.length ≤ Smax) (h5 : ∀ a ∈ args, GX a) : GX (.mk op num var name field args)
theorem GX.all {x : XT} (h : GX x) : w64 x.op ∧ w64 x.num ∧ x.name.length ≤ Smax ∧ x.field.length ≤ Smax ∧ ∀ a ∈ x.args, GX a := by
  cases h with
  | mk op num var name field args h1 h2 h3 h4 h5 => exact ⟨h1, h2, h3, h4, h5⟩

theorem whole_spec {n : Nat} {x : XT} (h : wholeX (n + 1) x = true) : (0 ≤ x.op ∧ x.op ≤ 17) ∧ x.args.length = opdN x.op ∧ ∀ a ∈ x.args, wholeX n a = true := by
  rw [wholeX] at h
  simp only [Bool.and_eq_true, decide_eq_true_eq, List.all_eq_true] at h
  exact ⟨h.1.1, h.1.2, h.2⟩
/-- One operand. -/
theorem whole_one {n : Nat} {x : XT} (h : wholeX (n + 1) x = true) (h3 : x.op = 3 ∨ x.op = 4 ∨ x.op = 5) : x.args = [x.a] ∧ wholeX n x.a = true := by
  obtain ⟨_, h2, h4⟩ := whole_spec h
  have : opdN x.op = 1 := by rw [opdN, if_neg (by omega), if_pos h3]
  rw [this] at h2
  unfold XT.a
  match e : x.args, h2 with
  | [a], _ => exact ⟨rfl, by rw [e] at h4; exact h4 a (by simp)⟩
theorem whole_two {n : Nat} {x : XT} (h : wholeX (n + 1) x = true) (h3 : 6 ≤ x.op) : x.args = [x.a, x.b] ∧ wholeX n x.a = true ∧ wholeX n x.b = true := by
  obtain ⟨_, h2, h4⟩ := whole_spec h
  have : opdN x.op = 2 := by rw [opdN, if_neg (by omega), if_neg (by omega)]
  rw [this] at h2
  unfold XT.a XT.b
  match e : x.args, h2 with
  | [a, b], _ => exact ⟨rfl, by rw [e] at h4; exact ⟨h4 a (by simp), h4 b (by simp)⟩⟩
theorem sgO_len (op : Nat) : (sgO op).length ≤ 2 := by
  unfold sgO
  cases h : binL.find? fun o => decide (o.2.2 = op) with
  | none => decide
  | some o =>
    have := List.mem_of_find?_eq_some h
    have hall : ∀ o ∈ binL, o.1.length ≤ 2 := by decide
    exact hall o this
theorem pby_len (b : Bool) (l : List UInt8) : (pby b l).length ≤ l.length + 2 := by
  unfold pby
  split
  · simp
  · omega
theorem txX_len : ∀ (n : Nat) (x : XT), wholeX n x = true → GX x → (txX n x).length ≤ x.nodes * 281474976702528
  | 0, x, h, _ => by cases h
  | n + 1, x, h, g => by
    obtain ⟨⟨h1, h2⟩, _, _⟩ := whole_spec h
    obtain ⟨_, g2, g3, g4, g5⟩ := g.all
    have hn := x.nodes_eq
    unfold Smax at g3 g4
    rw [txX]
    by_cases e0 : x.op = 0
    · have := itoa_len g2
      rw [if_pos e0]
      omega
    rw [if_neg e0]
    by_cases e1 : x.op = 1
    · rw [if_pos e1]
      omega
    rw [if_neg e1]
    by_cases e2 : x.op = 2
    · rw [if_pos e2]
      simp only [List.length_append, List.length_cons, List.length_nil]
      omega
    rw [if_neg e2]
    by_cases e3 : x.op = 3 ∨ x.op = 4 ∨ x.op = 5
    · obtain ⟨ea, wa⟩ := whole_one h e3
      have ga := g5 x.a (by rw [ea]; simp)
      have la := txX_len n x.a wa ga
      have pa := pby_len (decide (rk x.a.op < 5)) (txX n x.a)
      rw [ea, xnodes, xnodes] at hn
      rcases e3 with e3 | e3 | e3
      · rw [if_pos e3]
        simp only [List.length_append, List.length_cons, List.length_nil]
        omega
      · rw [if_neg (by omega), if_pos e3]
        simp only [List.length_append, List.length_cons, List.length_nil]
        omega
      · rw [if_neg (by omega), if_neg (by omega), if_pos e3]
        simp only [List.length_append, List.length_cons, List.length_nil]
        omega
    · obtain ⟨ea, wa, wb⟩ := whole_two h (by omega)
      have ga := g5 x.a (by rw [ea]; simp)
      have gb := g5 x.b (by rw [ea]; simp)
      have la := txX_len n x.a wa ga
      have lb := txX_len n x.b wb gb
      have pa := pby_len (decide (rk x.a.op < rk x.op ∨ rk x.a.op = 1)) (txX n x.a)
      have pb := pby_len (decide (rk x.b.op ≤ rk x.op)) (txX n x.b)
      have ps := sgO_len x.op.toNat
      rw [ea, xnodes, xnodes, xnodes] at hn
      rw [if_neg (by omega), if_neg (by omega), if_neg (by omega)]
      simp only [List.length_append, List.length_cons, List.length_nil]
      omega
end Go.Proofs
/- debuggerref03.Expr walked. No conditions: definitions and lemmas only. -/
namespace Go.Proofs
open Go.AM
attribute [local irreducible] AWP AOps ACalls AAny
set_option linter.unusedSimpArgs false

def XT.vr : XT → Int | .mk _ _ v _ _ _ => v
theorem XT.row_eq (x : XT) : x.row = xcs x.op x.num x.vr x.name x.field (.view 6 (x.args.map XT.row) .shared) := by
  cases x
  rw [XT.row_mk]
  rfl
theorem XT.row_len (x : XT) : x.row.length = 6 := by rw [x.row_eq]; rfl
def sgn12 : List AV := [.str [43], .str [45], .str [42], .str [47], .str [37], .str [38], .str [124], .str [94], .str [60], .str [60, 61], .str [61, 61], .str [33, 61]]
theorem sgn_get : ∀ k : Nat, k < 12 → (chunk (0 + 1) 12 sgn12)[k]? = some [.str (sgO (6 + k))]
  | 0, _ => rfl
  | 1, _ => rfl
  | 2, _ => rfl
  | 3, _ => rfl
  | 4, _ => rfl
  | 5, _ => rfl
  | 6, _ => rfl
  | 7, _ => rfl
  | 8, _ => rfl
  | 9, _ => rfl
  | 10, _ => rfl
  | 11, _ => rfl
  | n + 12, h => absurd h (by omega)
theorem rk_range (op : Int) : 1 ≤ rk op ∧ rk op ≤ 6 := by
  unfold rk
  split
  · omega
  split
  · omega
  split
  · omega
  split
  · omega
  split <;> omega
theorem rk_bin {op : Int} (h1 : 6 ≤ op) (h2 : op ≤ 17) : rk op < 5 := by
  unfold rk
  split
  · omega
  split
  · omega
  split
  · omega
  split
  · omega
  split <;> omega
theorem rk_pre {op : Int} (h : op = 4 ∨ op = 5) : rk op = 5 := by
  rcases h with rfl | rfl <;> rfl
theorem rk_op {op : Int} (h0 : 0 ≤ op) (h : op ≤ 3) : rk op = 6 := by
  rw [rk, if_neg (by omega), if_neg (by omega), if_neg (by omega), if_neg (by omega), if_neg (by omega)]

def ExprOk (n : Nat) (x : XT) : Prop := ∀ (least : Int) (st : St), ACalls Tryd.prog 16 [.agg (xcs x.op x.num x.vr x.name x.field (.view 6 (x.args.map XT.row) .shared)), .int .i64 least] st (fun v st' => v = .str (pby (decide (rk x.op < least)) (txX n x)) ∧ st' = st) (fun _ _ => False)

set_option maxHeartbeats 4000000 in
theorem expr_step (n : Nat) (ih : ∀ x, wholeX n x = true → GX x → x.nodes ≤ 1000 → ExprOk n x) (x : XT) (hw : wholeX (n + 1) x = true) (hg : GX x) (hn : x.nodes ≤ 1000) : ExprOk (n + 1) x := by
  intro least st
  obtain ⟨⟨w1, w2⟩, wl, _⟩ := whole_spec hw
  obtain ⟨_, g2, g3, g4, g5⟩ := hg.all
  have hne := x.nodes_eq
  have htl := txX_len (n + 1) x hw hg
  unfold Smax at g3 g4
  have l1 : (x.args.map XT.row).length = x.args.length := List.length_map ..
  refine ACalls.ofBody Tryd.func16 rfl Tryd.ntmps16 rfl ?_
  repeat (first | refine nl ?_ | refine AWP.seq ?_ | refine rg ?_ | refine AWP.block ?_ | refine ZA (z := ?_) | refine ZC (z := ?_) | refine ZF (z := ?_) | refine ZR (z := ?_) | refine YC (z := ?_))
  refine AWP.cutK (α := List UInt8) (fun w => [(6, .str w), (5, .int .i64 (rk x.op)), (1, .int .i64 least)]) (fun _ => st) (fun w => w = txX (n + 1) x) ?_ ?_
  · rw [txX]
    by_cases e0 : x.op = 0
    · rw [if_pos e0]
      repeat (first | refine rg ?_ | refine YH (z := ?_) | refine ZC (z := ?_) | refine ZF (z := ?_))
      refine cle rfl rfl (dig_ok x.num g2 st) ?_
      repeat (first | refine nl ?_ | refine ZA (z := ?_))
      exact ⟨_, rfl, (tl3 rfl rfl rfl), .refl _⟩
    rw [if_neg e0]
    by_cases e1 : x.op = 1
    · have hr := rk_op w1 (show x.op ≤ 3 by omega)
      rw [if_pos e1]
      repeat (first | refine nl ?_ | refine AWP.seq ?_ | refine rg ?_ | refine AWP.skip ?_ | refine YI (z := ?_) | refine ZA (z := ?_) | refine ZB (z := ?_) | refine ZC (z := ?_) | refine ZF (z := ?_) | refine YE (z := ?_))
      exact ⟨_, rfl, (tl3 rfl rfl rfl), .refl _⟩
    rw [if_neg e1]
    by_cases e2 : x.op = 2
    · rw [if_pos e2]
      repeat (first | refine nl ?_ | refine AWP.seq ?_ | refine rg ?_ | refine YH (z := ?_) | refine YI (z := ?_) | refine ZA (z := ?_) | refine ZC (z := ?_) | refine ZF (z := ?_))
      refine sad rfl rfl rfl (by simp only [List.length_cons, List.length_nil]; omega) ?_
      repeat (first | refine ZC (z := ?_) | refine ZF (z := ?_))
      refine sad rfl rfl rfl (by simp only [List.length_append, List.length_cons, List.length_nil]; omega) ?_
      repeat (first | refine nl ?_ | refine ZA (z := ?_))
      exact ⟨_, rfl, (tl3 rfl rfl rfl), .refl _⟩
    rw [if_neg e2]
    by_cases e345 : x.op = 3 ∨ x.op = 4 ∨ x.op = 5
    · obtain ⟨ea, wa⟩ := whole_one hw e345
      have ga := g5 x.a (by rw [ea]; simp)
      rw [ea, xnodes, xnodes] at hne
      have la := txX_len n x.a wa ga
      have hA := ih x.a wa ga (by omega)
      have hra := rk_range x.a.op
      generalize x.a = a at *
      rw [ea, List.map_cons, List.map_nil, a.row_eq]
      by_cases e3 : x.op = 3
      · rw [if_pos e3]
        have hA1 := hA 1
        rw [decide_eq_false (show ¬ rk a.op < 1 by omega), pby, if_neg (by decide)] at hA1
        repeat (first | refine nl ?_ | refine AWP.seq ?_ | refine rg ?_ | refine YH (z := ?_) | refine YI (z := ?_) | refine ZA (z := ?_) | refine ZC (z := ?_) | refine ZF (z := ?_) | refine ZJ (z := ?_) | refine YD (z := ?_))
        refine AWP.draw rfl 10 10 (fun _ _ => False) rfl ?_
        repeat (first | refine dp (h := fun _ _ => ZF (z := nz)) (z := ?_) | refine dp (h := fun _ _ => ZC (z := nz)) (z := ?_))
        refine dq rfl rfl rfl (fun st1 hle => sad rfl rfl rfl (by simp only [List.length_cons, List.length_nil]; omega) (nl ⟨_, rfl, rfl, rfl⟩)) ?_
        repeat (first | refine dp (h := fun _ _ => ZD (z := nz)) (z := ?_) | refine dp (h := fun _ _ => ZF (z := nz)) (z := ?_) | refine dp (h := fun _ _ => ZC (z := nz)) (z := ?_) | refine dp (h := fun _ _ => ZM (z := nz)) (z := ?_))
        refine dq rfl rfl rfl (fun st1 hle => cle rfl rfl (hA1 st1) (nl ⟨_, rfl, rfl, rfl⟩)) ?_
        refine dq rfl rfl rfl (fun st1 hle => sad rfl rfl rfl (by simp only [List.length_append, List.length_cons, List.length_nil]; omega) (nl ⟨_, rfl, rfl, rfl⟩)) ?_
        refine dq rfl rfl rfl (fun st1 hle => sad rfl rfl rfl (by simp only [List.length_append, List.length_cons, List.length_nil]; omega) (nl ⟨_, rfl, rfl, rfl⟩)) ?_
        refine dn ⟨fun _ => ?_, fun h => absurd h (by decide)⟩
        repeat (first | refine nl ?_ | refine ZA (z := ?_))
        exact ⟨_, rfl, (tl3 rfl rfl rfl), .refl _⟩
      rw [if_neg e3]
      have hr5 := rk_pre (show x.op = 4 ∨ x.op = 5 by omega)
      have pl := pby_len (decide (rk a.op < 5)) (txX n a)
      by_cases e4 : x.op = 4
      · rw [if_pos e4]
        repeat (first | refine nl ?_ | refine AWP.seq ?_ | refine rg ?_ | refine YH (z := ?_) | refine YI (z := ?_) | refine ZA (z := ?_) | refine ZB (z := ?_) | refine ZC (z := ?_) | refine ZF (z := ?_) | refine ZJ (z := ?_) | refine YD (z := ?_) | refine YE (z := ?_))
        refine AWP.draw rfl 12 12 (fun _ _ => False) rfl ?_
        refine dq rfl rfl rfl (fun st1 hle => bsh (cs := [.str [45], .str [33]]) rfl rfl rfl rfl rfl (nl ⟨_, rfl, rfl, rfl⟩)) ?_
        repeat (first | refine dp (h := fun _ _ => ZF (z := nz)) (z := ?_) | refine dp (h := fun _ _ => ZC (z := nz)) (z := ?_) | refine dp (h := fun _ _ => YK (z := nz)) (z := ?_))
        refine dq rfl rfl rfl (fun st1 hle => ix (m := 0) rfl rfl rfl (by omega) (of_decide_eq_true rfl) (nl ⟨_, rfl, rfl, rfl⟩)) ?_
        refine dq (v := .str [45]) rfl rfl rfl (fun st1 hle => Go.AM.le rfl rfl rfl rfl (nl ⟨_, rfl, rfl, rfl⟩)) ?_
        repeat (first | refine dp (h := fun _ _ => ZD (z := nz)) (z := ?_) | refine dp (h := fun _ _ => ZF (z := nz)) (z := ?_) | refine dp (h := fun _ _ => ZC (z := nz)) (z := ?_) | refine dp (h := fun _ _ => ZM (z := nz)) (z := ?_))
        refine dq rfl rfl rfl (fun st1 hle => cle rfl rfl (hA 5 st1) (nl ⟨_, rfl, rfl, rfl⟩)) ?_
        refine dq rfl rfl rfl (fun st1 hle => sad rfl rfl rfl (by simp only [List.length_append, List.length_cons, List.length_nil]; omega) (nl ⟨_, rfl, rfl, rfl⟩)) ?_
        refine dn ⟨fun _ => ?_, fun h => absurd h (by decide)⟩
        repeat (first | refine nl ?_ | refine ZA (z := ?_))
        exact ⟨_, rfl, (tl3 rfl rfl rfl), .refl _⟩
      have e5 : x.op = 5 := by omega
      rw [if_neg e4, if_pos e5]
      repeat (first | refine nl ?_ | refine AWP.seq ?_ | refine rg ?_ | refine YH (z := ?_) | refine YI (z := ?_) | refine ZA (z := ?_) | refine ZB (z := ?_) | refine ZC (z := ?_) | refine ZF (z := ?_) | refine ZJ (z := ?_) | refine YD (z := ?_) | refine YE (z := ?_))
      refine AWP.draw rfl 12 12 (fun _ _ => False) rfl ?_
      refine dq rfl rfl rfl (fun st1 hle => bsh (cs := [.str [45], .str [33]]) rfl rfl rfl rfl rfl (nl ⟨_, rfl, rfl, rfl⟩)) ?_
      repeat (first | refine dp (h := fun _ _ => ZF (z := nz)) (z := ?_) | refine dp (h := fun _ _ => ZC (z := nz)) (z := ?_) | refine dp (h := fun _ _ => YK (z := nz)) (z := ?_))
      refine dq rfl rfl rfl (fun st1 hle => ix (m := 1) rfl rfl rfl (by omega) (of_decide_eq_true rfl) (nl ⟨_, rfl, rfl, rfl⟩)) ?_
      refine dq (v := .str [33]) rfl rfl rfl (fun st1 hle => Go.AM.le rfl rfl rfl rfl (nl ⟨_, rfl, rfl, rfl⟩)) ?_
      repeat (first | refine dp (h := fun _ _ => ZD (z := nz)) (z := ?_) | refine dp (h := fun _ _ => ZF (z := nz)) (z := ?_) | refine dp (h := fun _ _ => ZC (z := nz)) (z := ?_) | refine dp (h := fun _ _ => ZM (z := nz)) (z := ?_))
      refine dq rfl rfl rfl (fun st1 hle => cle rfl rfl (hA 5 st1) (nl ⟨_, rfl, rfl, rfl⟩)) ?_
      refine dq rfl rfl rfl (fun st1 hle => sad rfl rfl rfl (by simp only [List.length_append, List.length_cons, List.length_nil]; omega) (nl ⟨_, rfl, rfl, rfl⟩)) ?_
      refine dn ⟨fun _ => ?_, fun h => absurd h (by decide)⟩
      repeat (first | refine nl ?_ | refine ZA (z := ?_))
      exact ⟨_, rfl, (tl3 rfl rfl rfl), .refl _⟩
    · obtain ⟨ea, wa, wb⟩ := whole_two hw (by omega)
      have ga := g5 x.a (by rw [ea]; simp)
      have gb := g5 x.b (by rw [ea]; simp)
      rw [ea, xnodes, xnodes, xnodes] at hne
      have la := txX_len n x.a wa ga
      have lb := txX_len n x.b wb gb
      have hA := ih x.a wa ga (by omega)
      have hB := ih x.b wb gb (by omega)
      have pa := pby_len (decide (rk x.a.op < rk x.op ∨ rk x.a.op = 1)) (txX n x.a)
      have pb := pby_len (decide (rk x.b.op ≤ rk x.op)) (txX n x.b)
      have ps := sgO_len x.op.toNat
      have hra := rk_range x.a.op
      have hrx := rk_range x.op
      have hr5 := rk_bin (show 6 ≤ x.op by omega) w2
      generalize x.a = a at *
      generalize x.b = b at *
      rw [if_neg (by omega), if_neg (by omega), if_neg (by omega)]
      rw [ea, List.map_cons, List.map_cons, List.map_nil, a.row_eq, b.row_eq]
      obtain ⟨m, hm, hm2⟩ : ∃ m : Nat, x.op - 6 = (m : Int) ∧ m < 12 := ⟨(x.op - 6).toNat, by omega, by omega⟩
      have hs := sgn_get m hm2
      have hso : 6 + m = x.op.toNat := by omega
      rw [hso] at hs
      have hBr := hB (rk x.op + 1)
      rw [show decide (rk b.op < rk x.op + 1) = decide (rk b.op ≤ rk x.op) from decide_eq_decide.2 (by omega)] at hBr
      have hAl : ∀ left : Int, (left = if rk x.op = 1 then 2 else rk x.op) → decide (rk a.op < left) = decide (rk a.op < rk x.op ∨ rk a.op = 1) := by
        intro left hl
        refine decide_eq_decide.2 ?_
        split at hl <;> omega
      repeat (first | refine nl ?_ | refine AWP.seq ?_ | refine rg ?_ | refine YH (z := ?_) | refine YI (z := ?_) | refine ZA (z := ?_) | refine ZB (z := ?_) | refine ZC (z := ?_) | refine ZF (z := ?_) | refine ZJ (z := ?_) | refine YD (z := ?_) | refine YE (z := ?_))
      refine bsh (cs := sgn12) rfl rfl rfl rfl rfl ?_
      repeat (refine ZA (z := ?_))
      refine nl ?_
      repeat (refine AWP.seq ?_)
      refine rg ?_
      repeat (refine ZA (z := ?_))
      refine nl ?_
      refine cut (α := Int) (fun y => [(8, .int .i64 y), (7, .view 1 (chunk (0 + 1) 12 sgn12) .shared), (5, .int .i64 (rk x.op)), (2, .eptr 6 [xcs x.op x.num x.vr x.name x.field (.view 6 [xcs a.op a.num a.vr a.name a.field (.view 6 (a.args.map XT.row) .shared), xcs b.op b.num b.vr b.name b.field (.view 6 (b.args.map XT.row) .shared)] .shared)] 0 0), (1, .int .i64 least)]) (fun _ => st) (fun y => y = if rk x.op = 1 then 2 else rk x.op) ?_ ?_
      · by_cases r1 : rk x.op = 1
        · rw [if_pos r1]
          repeat (first | refine nl ?_ | refine AWP.seq ?_ | refine rg ?_ | refine YH (z := ?_) | refine ZA (z := ?_))
          exact ⟨2, rfl, (tl5 rfl rfl rfl rfl rfl), .refl _⟩
        · rw [if_neg r1]
          repeat (first | refine nl ?_ | refine AWP.seq ?_ | refine rg ?_ | refine AWP.skip ?_ | refine YI (z := ?_) | refine ZA (z := ?_))
          exact ⟨_, rfl, (tl5 rfl rfl rfl rfl rfl), .refl _⟩
      intro left hl
      have hA1 := hA left
      rw [hAl left hl] at hA1
      skip
      refine AWP.draw rfl 23 23 (fun _ _ => False) rfl ?_
      repeat (first | refine ds rfl rfl ?_ | refine dp (h := fun _ _ => ZD (z := nz)) (z := ?_) | refine dp (h := fun _ _ => ZF (z := nz)) (z := ?_) | refine dp (h := fun _ _ => ZC (z := nz)) (z := ?_) | refine dp (h := fun _ _ => ZM (z := nz)) (z := ?_))
      refine dq rfl rfl rfl (fun st1 hle => cle rfl rfl (hA1 st1) (nl ⟨_, rfl, rfl, rfl⟩)) ?_
      refine dq rfl rfl rfl (fun st1 hle => sad rfl rfl rfl (by simp only [List.length_cons, List.length_nil]; omega) (nl ⟨_, rfl, rfl, rfl⟩)) ?_
      repeat (first | refine ds rfl rfl ?_ | refine dp (h := fun _ _ => ZF (z := nz)) (z := ?_) | refine dp (h := fun _ _ => ZC (z := nz)) (z := ?_) | refine dp (h := fun _ _ => YK (z := nz)) (z := ?_))
      refine dq rfl rfl rfl (fun st1 hle => ix (m := m) rfl rfl rfl hm (by exact hm2) (nl ⟨_, rfl, rfl, rfl⟩)) ?_
      refine dq rfl rfl rfl (fun st1 hle => Go.AM.le rfl rfl hs rfl (nl ⟨_, rfl, rfl, rfl⟩)) ?_
      refine dq rfl rfl rfl (fun st1 hle => sad rfl rfl rfl (by simp only [List.length_append, List.length_cons, List.length_nil]; omega) (nl ⟨_, rfl, rfl, rfl⟩)) ?_
      refine dq rfl rfl rfl (fun st1 hle => sad rfl rfl rfl (by simp only [List.length_append, List.length_cons, List.length_nil]; omega) (nl ⟨_, rfl, rfl, rfl⟩)) ?_
      repeat (first | refine ds rfl rfl ?_ | refine dp (h := fun _ _ => ZD (z := nz)) (z := ?_) | refine dp (h := fun _ _ => ZF (z := nz)) (z := ?_) | refine dp (h := fun _ _ => ZC (z := nz)) (z := ?_) | refine dp (h := fun _ _ => ZM (z := nz)) (z := ?_) | refine dp (h := fun _ _ => YJ (z := nz)) (z := ?_))
      refine dq rfl rfl rfl (fun st1 hle => cle rfl rfl (hBr st1) (nl ⟨_, rfl, rfl, rfl⟩)) ?_
      refine dq rfl rfl rfl (fun st1 hle => sad rfl rfl rfl (by simp only [List.length_append, List.length_cons, List.length_nil]; omega) (nl ⟨_, rfl, rfl, rfl⟩)) ?_
      refine dn ⟨fun _ => ?_, fun h => absurd h (by decide)⟩
      repeat (first | refine nl ?_ | refine ZA (z := ?_))
      exact ⟨_, rfl, (tl3 rfl rfl rfl), .refl _⟩
  · rintro w rfl
    by_cases hl : rk x.op < least
    · rw [decide_eq_true hl]
      repeat (first | refine nl ?_ | refine AWP.seq ?_ | refine rg ?_ | refine YH (z := ?_) | refine ZA (z := ?_))
      refine sad rfl rfl rfl (by simp only [List.length_cons, List.length_nil]; omega) ?_
      refine sad rfl rfl rfl (by simp only [List.length_append, List.length_cons, List.length_nil]; omega) ?_
      repeat (first | refine nl ?_ | refine ZA (z := ?_))
      exact AWP.ret (rets rfl (.refl _) (.refl _) ⟨rfl, rfl⟩)
    · rw [decide_eq_false hl]
      repeat (first | refine nl ?_ | refine AWP.seq ?_ | refine rg ?_ | refine AWP.skip ?_ | refine YI (z := ?_) | refine ZA (z := ?_))
      exact AWP.ret (rets rfl (.refl _) (.refl _) ⟨rfl, rfl⟩)
end Go.Proofs
/- Whole expressions and levels of operations, walked on both sides. No conditions: definitions and lemmas only. -/
namespace Go.Proofs
open Go.AM
attribute [local irreducible] AWP AOps ACalls AAny

instance (op : Int) : PureFn Tryd.prog 39 [.int .i64 op] (.int .i64 (opdN op : Int)) where
  out st := by
    refine ACalls.ofBody Tryd.func39 rfl Tryd.ntmps39 rfl ?_
    unfold opdN
    by_cases h : op = 0 ∨ op = 1 ∨ op = 2
    · rw [if_pos h]
      rcases h with rfl | rfl | rfl
      · repeat (first | refine nl ?_ | refine AWP.seq ?_ | refine rg ?_ | refine AWP.skip ?_ | refine AWP.block ?_ | refine YH (z := ?_) | refine ZA (z := ?_))
        exact AWP.ret (rets rfl (.refl _) (.refl _) ⟨rfl, rfl⟩)
      · repeat (first | refine nl ?_ | refine AWP.seq ?_ | refine rg ?_ | refine AWP.skip ?_ | refine AWP.block ?_ | refine YH (z := ?_) | refine YI (z := ?_) | refine ZA (z := ?_))
        exact AWP.ret (rets rfl (.refl _) (.refl _) ⟨rfl, rfl⟩)
      · repeat (first | refine nl ?_ | refine AWP.seq ?_ | refine rg ?_ | refine AWP.block ?_ | refine YH (z := ?_) | refine YI (z := ?_) | refine ZA (z := ?_))
        exact AWP.ret (rets rfl (.refl _) (.refl _) ⟨rfl, rfl⟩)
    rw [if_neg h]
    by_cases h2 : op = 3 ∨ op = 4 ∨ op = 5
    · rw [if_pos h2]
      rcases h2 with rfl | rfl | rfl
      · repeat (first | refine nl ?_ | refine AWP.seq ?_ | refine rg ?_ | refine AWP.skip ?_ | refine AWP.block ?_ | refine YH (z := ?_) | refine YI (z := ?_) | refine ZA (z := ?_))
        exact AWP.ret (rets rfl (.refl _) (.refl _) ⟨rfl, rfl⟩)
      · repeat (first | refine nl ?_ | refine AWP.seq ?_ | refine rg ?_ | refine AWP.skip ?_ | refine AWP.block ?_ | refine YH (z := ?_) | refine YI (z := ?_) | refine ZA (z := ?_))
        exact AWP.ret (rets rfl (.refl _) (.refl _) ⟨rfl, rfl⟩)
      · repeat (first | refine nl ?_ | refine AWP.seq ?_ | refine rg ?_ | refine AWP.block ?_ | refine YH (z := ?_) | refine YI (z := ?_) | refine ZA (z := ?_))
        exact AWP.ret (rets rfl (.refl _) (.refl _) ⟨rfl, rfl⟩)
    rw [if_neg h2]
    repeat (first | refine nl ?_ | refine AWP.seq ?_ | refine rg ?_ | refine AWP.skip ?_ | refine AWP.block ?_ | refine YI (z := ?_) | refine ZA (z := ?_))
    exact AWP.ret (rets rfl (.refl _) (.refl _) ⟨rfl, rfl⟩)
def argN (op : Int) : Int := if op < 0 ∨ 17 < op then -1 else (opdN op : Int)
instance (op : Int) : PureFn Tryd.prog 30 [.int .i64 op] (.int .i64 (argN op)) where
  out st := by
    refine ACalls.ofBody Tryd.func30 rfl Tryd.ntmps30 rfl ?_
    unfold argN
    by_cases h : op < 0
    · rw [if_pos (.inl h)]
      repeat (first | refine nl ?_ | refine AWP.seq ?_ | refine rg ?_ | refine AWP.block ?_ | refine YH (z := ?_) | refine ZA (z := ?_) | refine ZB (z := ?_) | refine YD (z := ?_))
      exact AWP.ret (rets rfl (.refl _) (.refl _) ⟨rfl, rfl⟩)
    by_cases h1 : 17 < op
    · rw [if_pos (.inr h1)]
      repeat (first | refine nl ?_ | refine AWP.seq ?_ | refine rg ?_ | refine AWP.block ?_ | refine YH (z := ?_) | refine ZA (z := ?_) | refine YE (z := ?_))
      exact AWP.ret (rets rfl (.refl _) (.refl _) ⟨rfl, rfl⟩)
    rw [if_neg (by omega)]
    unfold opdN
    by_cases h2 : op ≤ 2
    · rw [if_pos (by omega)]
      repeat (first | refine nl ?_ | refine AWP.seq ?_ | refine rg ?_ | refine AWP.block ?_ | refine YH (z := ?_) | refine YI (z := ?_) | refine ZA (z := ?_) | refine YE (z := ?_))
      exact AWP.ret (rets rfl (.refl _) (.refl _) ⟨rfl, rfl⟩)
    rw [if_neg (by omega)]
    by_cases h3 : op ≤ 5
    · rw [if_pos (by omega)]
      repeat (first | refine nl ?_ | refine AWP.seq ?_ | refine rg ?_ | refine AWP.block ?_ | refine YH (z := ?_) | refine YI (z := ?_) | refine ZA (z := ?_) | refine YE (z := ?_))
      exact AWP.ret (rets rfl (.refl _) (.refl _) ⟨rfl, rfl⟩)
    rw [if_neg (by omega)]
    repeat (first | refine nl ?_ | refine AWP.seq ?_ | refine rg ?_ | refine AWP.skip ?_ | refine AWP.block ?_ | refine YI (z := ?_) | refine ZA (z := ?_) | refine YE (z := ?_))
    exact AWP.ret (rets rfl (.refl _) (.refl _) ⟨rfl, rfl⟩)

theorem row_at {l : List XT} {i : Nat} (h : i < l.length) : (l.map XT.row)[i]? = some l[i].row := by
  rw [List.getElem?_map, List.getElem?_eq_getElem h]
  rfl
theorem whole_no {n : Nat} {x : XT} (h : ¬ (0 ≤ x.op ∧ x.op ≤ 17 ∧ x.args.length = opdN x.op)) : wholeX (n + 1) x = false := by
  rw [wholeX]
  by_cases h1 : 0 ≤ x.op ∧ x.op ≤ 17
  · rw [decide_eq_true h1, decide_eq_false (fun h2 => h ⟨h1.1, h1.2, h2⟩)]
    rfl
  · rw [decide_eq_false h1]
    rfl
theorem whole_yes {n : Nat} {x : XT} (h : 0 ≤ x.op ∧ x.op ≤ 17 ∧ x.args.length = opdN x.op) : wholeX (n + 1) x = x.args.all (wholeX n) := by
  rw [wholeX, decide_eq_true ⟨h.1, h.2.1⟩, decide_eq_true h.2.2]
  rfl
theorem all_at {α : Type} {p : α → Bool} : ∀ {l : List α}, (∀ i (h : i < l.length), p l[i] = true) → l.all p = true
  | [], _ => rfl
  | x :: r, h => by
    have h0 : p x = true := h 0 (by simp)
    rw [List.all_cons, h0, Bool.true_and]
    exact all_at fun i hi => h (i + 1) (by simpa using hi)
theorem not_all {α : Type} {p : α → Bool} {l : List α} {i : Nat} (hi : i < l.length) (h : p l[i] = false) : l.all p = false := by
  rw [List.all_eq_false]
  exact ⟨l[i], List.getElem_mem hi, by rw [h]; decide⟩
theorem opdN_le (op : Int) : opdN op ≤ 2 := by
  unfold opdN
  split
  · omega
  · split <;> omega

set_option maxHeartbeats 2000000 in
theorem whole_ok : ∀ (n : Nat), n ≤ 1000 → ∀ (x : XT) (st : St), ACalls Tryd.prog 26 [.agg x.row, .int .i64 (n : Int)] st (fun v st' => v = .bool (wholeX n x) ∧ st' = st) (fun _ _ => False)
  | 0, _, x, st => by
    refine ACalls.ofBody Tryd.func26 rfl Tryd.ntmps26 rfl ?_
    rw [x.row_eq]
    repeat (first | refine nl ?_ | refine AWP.seq ?_ | refine rg ?_ | refine ZA (z := ?_) | refine ZR (z := ?_))
    refine AWP.draw rfl 21 21 (fun _ _ => False) rfl ?_
    repeat (first | refine ds rfl rfl ?_ | refine du rfl rfl rfl ?_)
    refine dn ⟨fun _ => ?_, fun h => absurd h (by decide)⟩
    repeat (first | refine nl ?_ | refine AWP.seq ?_ | refine rg ?_ | refine YH (z := ?_) | refine ZA (z := ?_))
    exact AWP.ret (rets rfl (.refl _) (.refl _) ⟨rfl, rfl⟩)
  | n + 1, hn, x, st => by
    have ih := whole_ok n (by omega)
    refine ACalls.ofBody Tryd.func26 rfl Tryd.ntmps26 rfl ?_
    rw [x.row_eq]
    have k0 : ¬ ((n + 1 : Nat) : Int) < 1 := by omega
    have l1 : (x.args.map XT.row).length = x.args.length := List.length_map ..
    by_cases h : 0 ≤ x.op ∧ x.op ≤ 17 ∧ x.args.length = opdN x.op
    · rw [whole_yes h]
      have k1 : ¬ x.op < 0 := by omega
      have k2 : ¬ x.op > 17 := by omega
      have k3 : ¬ (((x.args.map XT.row).length : Nat) : Int) ≠ (opdN x.op : Int) := by omega
      have hle := opdN_le x.op
      repeat (first | refine nl ?_ | refine AWP.seq ?_ | refine rg ?_ | refine ZA (z := ?_) | refine ZR (z := ?_))
      refine AWP.draw rfl 21 21 (fun _ _ => False) rfl ?_
      repeat (first | refine dq (v := .bool false) rfl rfl rfl (fun st1 hle => sm rfl (nl ⟨_, rfl, congrArg AV.bool (by (fail_if_success rfl); first | assumption | exact decide_eq_true (by assumption) | exact decide_eq_false (by assumption) | exact decide_eq_true rfl | exact decide_eq_true (by omega) | exact decide_eq_false (by omega)), rfl⟩)) ?_ | refine ds rfl rfl ?_ | refine dp (h := fun _ _ => ZF (z := nz)) (z := ?_) | refine dp (h := fun _ _ => ZC (z := nz)) (z := ?_) | refine dp (h := fun _ _ => ZJ (z := nz)) (z := ?_) | refine dp (h := fun _ _ => YC (z := nz)) (z := ?_))
      refine dn ⟨fun _ => ?_, fun h => absurd h (by decide)⟩
      repeat (first | refine nl ?_ | refine AWP.seq ?_ | refine rg ?_ | refine AWP.skip ?_ | refine AWP.block ?_ | refine YI (z := ?_) | refine ZA (z := ?_) | refine ZC (z := ?_) | refine ZF (z := ?_) | refine ZJ (z := ?_))
      rw [l1]
      refine AWP.loop (α := Nat) (fun i => [(31, .int .i64 (i : Int)), (30, .int .i64 (x.args.length : Int)), (29, .view 6 (x.args.map XT.row) .shared), (1, .int .i64 ((n + 1 : Nat) : Int))]) (fun _ => st) (fun i => i ≤ x.args.length ∧ ∀ j (hj : j < x.args.length), j < i → wholeX n x.args[j] = true) (fun i => x.args.length - i) 0
        ⟨Nat.zero_le _, fun j _ h => absurd h (by omega)⟩ (tl4 rfl rfl rfl rfl) (.refl _) ?_
      rintro i ⟨q1, q2⟩
      refine AWP.weaken (T' := [(31, .int .i64 (i : Int)), (30, .int .i64 (x.args.length : Int)), (29, .view 6 (x.args.map XT.row) .shared), (1, .int .i64 ((n + 1 : Nat) : Int))]) (tl4 rfl rfl rfl rfl) (.refl _) ?_
      by_cases hi : i < x.args.length
      · have hi' : i < (x.args.map XT.row).length := by omega
        have r1 := row_at hi
        have z1 := (x.args[i]).row_len
        repeat (first | refine nl ?_ | refine AWP.seq ?_ | refine rg ?_ | refine AWP.skip ?_ | refine AWP.block ?_ | refine YH (z := ?_) | refine ZA (z := ?_) | refine ZM (z := ?_))
        refine leW rfl rfl rfl r1 (by rw [z1]; rfl) ?_
        rw [(x.args[i]).row_eq]
        repeat (first | refine nl ?_ | refine AWP.seq ?_ | refine rg ?_ | refine ZA (z := ?_) | refine ZD (z := ?_) | refine YA (z := ?_))
        refine sbk (c := (n : Int)) rfl rfl rfl (by rw [wrap64 (by omega)]; omega) ?_
        rw [← (x.args[i]).row_eq]
        refine cle rfl rfl (ih x.args[i] _) ?_
        cases hw : wholeX n x.args[i] with
        | true =>
          repeat (first | refine nl ?_ | refine rg ?_ | refine AWP.skip ?_ | refine YI (z := ?_) | refine ZA (z := ?_) | refine ZO (z := ?_))
          refine ⟨i + 1, ⟨hi, fun j hj hji => ?_⟩, by omega, (tl4 rfl rfl rfl rfl), .refl _⟩
          rcases Nat.lt_or_ge j i with h | h
          · exact q2 j hj h
          · have : j = i := by omega
            subst this
            exact hw
        | false =>
          rw [not_all hi hw]
          repeat (first | refine nl ?_ | refine AWP.seq ?_ | refine rg ?_ | refine YH (z := ?_) | refine ZA (z := ?_))
          exact AWP.ret (rets rfl (.refl _) (.refl _) ⟨rfl, rfl⟩)
      · rw [all_at fun j hj => q2 j hj (by omega)]
        repeat (first | refine nl ?_ | refine AWP.seq ?_ | refine rg ?_ | refine YI (z := ?_) | refine ZA (z := ?_))
        refine AWP.exit (blk_hit ?_)
        repeat (first | refine nl ?_ | refine AWP.seq ?_ | refine rg ?_ | refine ZA (z := ?_))
        exact AWP.ret (rets rfl (.refl _) (.refl _) ⟨rfl, rfl⟩)
    · rw [whole_no h]
      by_cases k1 : x.op < 0
      · repeat (first | refine nl ?_ | refine AWP.seq ?_ | refine rg ?_ | refine ZA (z := ?_) | refine ZR (z := ?_))
        refine AWP.draw rfl 21 21 (fun _ _ => False) rfl ?_
        repeat (first | refine dq (v := .bool true) rfl rfl rfl (fun st1 hle => sm rfl (nl ⟨_, rfl, congrArg AV.bool (by (fail_if_success rfl); first | assumption | exact decide_eq_true (by assumption) | exact decide_eq_false (by assumption) | exact decide_eq_true rfl | exact decide_eq_true (by omega) | exact decide_eq_false (by omega)), rfl⟩)) ?_ | refine ds rfl rfl ?_ | refine du rfl rfl rfl ?_ | refine dp (h := fun _ _ => ZF (z := nz)) (z := ?_) | refine dp (h := fun _ _ => ZC (z := nz)) (z := ?_))
        refine dn ⟨fun _ => ?_, fun h => absurd h (by decide)⟩
        repeat (first | refine nl ?_ | refine AWP.seq ?_ | refine rg ?_ | refine YH (z := ?_) | refine ZA (z := ?_))
        exact AWP.ret (rets rfl (.refl _) (.refl _) ⟨rfl, rfl⟩)
      by_cases k2 : x.op > 17
      · repeat (first | refine nl ?_ | refine AWP.seq ?_ | refine rg ?_ | refine ZA (z := ?_) | refine ZR (z := ?_))
        refine AWP.draw rfl 21 21 (fun _ _ => False) rfl ?_
        repeat (first | refine dq (v := .bool true) rfl rfl rfl (fun st1 hle => sm rfl (nl ⟨_, rfl, congrArg AV.bool (by (fail_if_success rfl); first | assumption | exact decide_eq_true (by assumption) | exact decide_eq_false (by assumption) | exact decide_eq_true rfl | exact decide_eq_true (by omega) | exact decide_eq_false (by omega)), rfl⟩)) ?_ | refine dq (v := .bool false) rfl rfl rfl (fun st1 hle => sm rfl (nl ⟨_, rfl, congrArg AV.bool (by (fail_if_success rfl); first | assumption | exact decide_eq_true (by assumption) | exact decide_eq_false (by assumption) | exact decide_eq_true rfl | exact decide_eq_true (by omega) | exact decide_eq_false (by omega)), rfl⟩)) ?_ | refine ds rfl rfl ?_ | refine du rfl rfl rfl ?_ | refine dp (h := fun _ _ => ZF (z := nz)) (z := ?_) | refine dp (h := fun _ _ => ZC (z := nz)) (z := ?_))
        refine dn ⟨fun _ => ?_, fun h => absurd h (by decide)⟩
        repeat (first | refine nl ?_ | refine AWP.seq ?_ | refine rg ?_ | refine YH (z := ?_) | refine ZA (z := ?_))
        exact AWP.ret (rets rfl (.refl _) (.refl _) ⟨rfl, rfl⟩)
      have k3 : (((x.args.map XT.row).length : Nat) : Int) ≠ (opdN x.op : Int) := by omega
      repeat (first | refine nl ?_ | refine AWP.seq ?_ | refine rg ?_ | refine ZA (z := ?_) | refine ZR (z := ?_))
      refine AWP.draw rfl 21 21 (fun _ _ => False) rfl ?_
      repeat (first | refine dq (v := .bool true) rfl rfl rfl (fun st1 hle => sm rfl (nl ⟨_, rfl, congrArg AV.bool (by (fail_if_success rfl); first | assumption | exact decide_eq_true (by assumption) | exact decide_eq_false (by assumption) | exact decide_eq_true rfl | exact decide_eq_true (by omega) | exact decide_eq_false (by omega)), rfl⟩)) ?_ | refine dq (v := .bool false) rfl rfl rfl (fun st1 hle => sm rfl (nl ⟨_, rfl, congrArg AV.bool (by (fail_if_success rfl); first | assumption | exact decide_eq_true (by assumption) | exact decide_eq_false (by assumption) | exact decide_eq_true rfl | exact decide_eq_true (by omega) | exact decide_eq_false (by omega)), rfl⟩)) ?_ | refine ds rfl rfl ?_ | refine dp (h := fun _ _ => ZF (z := nz)) (z := ?_) | refine dp (h := fun _ _ => ZC (z := nz)) (z := ?_) | refine dp (h := fun _ _ => ZJ (z := nz)) (z := ?_) | refine dp (h := fun _ _ => YC (z := nz)) (z := ?_))
      refine dn ⟨fun _ => ?_, fun h => absurd h (by decide)⟩
      repeat (first | refine nl ?_ | refine AWP.seq ?_ | refine rg ?_ | refine YH (z := ?_) | refine ZA (z := ?_))
      exact AWP.ret (rets rfl (.refl _) (.refl _) ⟨rfl, rfl⟩)
end Go.Proofs
/- The reference's whole expressions; levels of operations, walked. No conditions: definitions and lemmas only. -/
namespace Go.Proofs
open Go.AM
attribute [local irreducible] AWP AOps ACalls AAny

set_option maxHeartbeats 2000000 in
theorem right_ok : ∀ (n : Nat), n ≤ 1000 → ∀ (x : XT) (st : St), ACalls Tryd.prog 17 [.agg x.row, .int .i64 (n : Int)] st (fun v st' => v = .bool (wholeX n x) ∧ st' = st) (fun _ _ => False)
  | 0, _, x, st => by
    refine ACalls.ofBody Tryd.func17 rfl Tryd.ntmps17 rfl ?_
    rw [x.row_eq]
    repeat (first | refine nl ?_ | refine AWP.seq ?_ | refine rg ?_ | refine ZA (z := ?_) | refine ZR (z := ?_))
    refine AWP.draw rfl 11 11 (fun _ _ => False) rfl ?_
    repeat (first | refine ds rfl rfl ?_ | refine du rfl rfl rfl ?_)
    refine dn ⟨fun _ => ?_, fun h => absurd h (by decide)⟩
    repeat (first | refine nl ?_ | refine AWP.seq ?_ | refine rg ?_ | refine YH (z := ?_) | refine ZA (z := ?_))
    exact AWP.ret (rets rfl (.refl _) (.refl _) ⟨rfl, rfl⟩)
  | n + 1, hn, x, st => by
    have ih := right_ok n (by omega)
    refine ACalls.ofBody Tryd.func17 rfl Tryd.ntmps17 rfl ?_
    rw [x.row_eq]
    have k0 : ¬ ((n + 1 : Nat) : Int) < 1 := by omega
    have l1 : (x.args.map XT.row).length = x.args.length := List.length_map ..
    by_cases h : 0 ≤ x.op ∧ x.op ≤ 17 ∧ x.args.length = opdN x.op
    · rw [whole_yes h]
      have ha : argN x.op = (opdN x.op : Int) := by rw [argN, if_neg (by omega)]
      have k3 : ¬ argN x.op ≠ (((x.args.map XT.row).length : Nat) : Int) := by omega
      have hle := opdN_le x.op
      repeat (first | refine nl ?_ | refine AWP.seq ?_ | refine rg ?_ | refine ZA (z := ?_) | refine ZR (z := ?_))
      refine AWP.draw rfl 11 11 (fun _ _ => False) rfl ?_
      repeat (first | refine dq (v := .bool false) rfl rfl rfl (fun st1 hle => sm rfl (nl ⟨_, rfl, congrArg AV.bool (by (fail_if_success rfl); first | assumption | exact decide_eq_true (by assumption) | exact decide_eq_false (by assumption) | exact decide_eq_true rfl | exact decide_eq_true (by omega) | exact decide_eq_false (by omega)), rfl⟩)) ?_ | refine ds rfl rfl ?_ | refine dp (h := fun _ _ => ZF (z := nz)) (z := ?_) | refine dp (h := fun _ _ => ZC (z := nz)) (z := ?_) | refine dp (h := fun _ _ => ZJ (z := nz)) (z := ?_) | refine dp (h := fun _ _ => YC (z := nz)) (z := ?_))
      refine dn ⟨fun _ => ?_, fun h => absurd h (by decide)⟩
      repeat (first | refine nl ?_ | refine AWP.seq ?_ | refine rg ?_ | refine AWP.skip ?_ | refine AWP.block ?_ | refine YI (z := ?_) | refine ZA (z := ?_))
      refine AWP.loop (α := Nat) (fun i => [(5, .int .i64 (i : Int)), (2, .eptr 6 [xcs x.op x.num x.vr x.name x.field (.view 6 (x.args.map XT.row) .shared)] 0 0), (1, .int .i64 ((n + 1 : Nat) : Int))]) (fun _ => st) (fun i => i ≤ x.args.length ∧ ∀ j (hj : j < x.args.length), j < i → wholeX n x.args[j] = true) (fun i => x.args.length - i) 0
        ⟨Nat.zero_le _, fun j _ h => absurd h (by omega)⟩ (tl3 rfl rfl rfl) (.refl _) ?_
      rintro i ⟨q1, q2⟩
      refine AWP.weaken (T' := [(5, .int .i64 (i : Int)), (2, .eptr 6 [xcs x.op x.num x.vr x.name x.field (.view 6 (x.args.map XT.row) .shared)] 0 0), (1, .int .i64 ((n + 1 : Nat) : Int))]) (tl3 rfl rfl rfl) (.refl _) ?_
      repeat (first | refine nl ?_ | refine AWP.seq ?_ | refine rg ?_ | refine ZA (z := ?_) | refine ZC (z := ?_) | refine ZF (z := ?_) | refine ZJ (z := ?_))
      rw [l1]
      by_cases hi : i < x.args.length
      · have hi' : i < (x.args.map XT.row).length := by omega
        have r1 := row_at hi
        have z1 := (x.args[i]).row_len
        repeat (first | refine AWP.seq ?_ | refine rg ?_ | refine AWP.skip ?_ | refine AWP.block ?_ | refine YH (z := ?_) | refine ZA (z := ?_) | refine ZC (z := ?_) | refine ZF (z := ?_) | refine ZM (z := ?_))
        refine leW rfl rfl rfl r1 (by rw [z1]; rfl) ?_
        rw [(x.args[i]).row_eq]
        repeat (refine ZA (z := ?_))
        refine sbk (c := (n : Int)) rfl rfl rfl (by rw [wrap64 (by omega)]; omega) ?_
        rw [← (x.args[i]).row_eq]
        refine cle rfl rfl (ih x.args[i] _) ?_
        cases hw : wholeX n x.args[i] with
        | true =>
          repeat (first | refine nl ?_ | refine rg ?_ | refine AWP.skip ?_ | refine YI (z := ?_) | refine ZA (z := ?_) | refine ZO (z := ?_))
          refine ⟨i + 1, ⟨hi, fun j hj hji => ?_⟩, by omega, (tl3 rfl rfl rfl), .refl _⟩
          rcases Nat.lt_or_ge j i with h | h
          · exact q2 j hj h
          · have : j = i := by omega
            subst this
            exact hw
        | false =>
          rw [not_all hi hw]
          repeat (first | refine nl ?_ | refine AWP.seq ?_ | refine rg ?_ | refine YH (z := ?_) | refine ZA (z := ?_))
          exact AWP.ret (rets rfl (.refl _) (.refl _) ⟨rfl, rfl⟩)
      · rw [all_at fun j hj => q2 j hj (by omega)]
        repeat (refine YI (z := ?_))
        refine AWP.exit (blk_hit ?_)
        repeat (first | refine nl ?_ | refine AWP.seq ?_ | refine rg ?_ | refine ZA (z := ?_))
        exact AWP.ret (rets rfl (.refl _) (.refl _) ⟨rfl, rfl⟩)
    · rw [whole_no h]
      have k3 : argN x.op ≠ (((x.args.map XT.row).length : Nat) : Int) := by
        unfold argN
        split <;> omega
      repeat (first | refine nl ?_ | refine AWP.seq ?_ | refine rg ?_ | refine ZA (z := ?_) | refine ZR (z := ?_))
      refine AWP.draw rfl 11 11 (fun _ _ => False) rfl ?_
      repeat (first | refine dq (v := .bool true) rfl rfl rfl (fun st1 hle => sm rfl (nl ⟨_, rfl, congrArg AV.bool (by (fail_if_success rfl); first | assumption | exact decide_eq_true (by assumption) | exact decide_eq_false (by assumption) | exact decide_eq_true rfl | exact decide_eq_true (by omega) | exact decide_eq_false (by omega)), rfl⟩)) ?_ | refine ds rfl rfl ?_ | refine dp (h := fun _ _ => ZF (z := nz)) (z := ?_) | refine dp (h := fun _ _ => ZC (z := nz)) (z := ?_) | refine dp (h := fun _ _ => ZJ (z := nz)) (z := ?_) | refine dp (h := fun _ _ => YC (z := nz)) (z := ?_))
      refine dn ⟨fun _ => ?_, fun h => absurd h (by decide)⟩
      repeat (first | refine nl ?_ | refine AWP.seq ?_ | refine rg ?_ | refine YH (z := ?_) | refine ZA (z := ?_))
      exact AWP.ret (rets rfl (.refl _) (.refl _) ⟨rfl, rfl⟩)
theorem opL_rk : ∀ (m : Nat) (s : List UInt8) (o l : Nat), opL[m]? = some (s, o, l) → (l : Int) = rk (o : Int) ∧ sgO o = s
  | 0, _, _, _, h => by cases h; exact ⟨by decide, by decide⟩
  | 1, _, _, _, h => by cases h; exact ⟨by decide, by decide⟩
  | 2, _, _, _, h => by cases h; exact ⟨by decide, by decide⟩
  | 3, _, _, _, h => by cases h; exact ⟨by decide, by decide⟩
  | 4, _, _, _, h => by cases h; exact ⟨by decide, by decide⟩
  | 5, _, _, _, h => by cases h; exact ⟨by decide, by decide⟩
  | 6, _, _, _, h => by cases h; exact ⟨by decide, by decide⟩
  | 7, _, _, _, h => by cases h; exact ⟨by decide, by decide⟩
  | 8, _, _, _, h => by cases h; exact ⟨by decide, by decide⟩
  | 9, _, _, _, h => by cases h; exact ⟨by decide, by decide⟩
  | 10, _, _, _, h => by cases h; exact ⟨by decide, by decide⟩
  | 11, _, _, _, h => by cases h; exact ⟨by decide, by decide⟩
  | n + 12, _, _, _, h => by cases h
/-- Where the table has an operation. -/
theorem opL_has {op : Int} (h6 : 6 ≤ op) (h17 : op ≤ 17) : ∃ (m : Nat) (s : List UInt8) (o l : Nat), opL[m]? = some (s, o, l) ∧ (o : Int) = op := by
  have h : op = 6 ∨ op = 7 ∨ op = 8 ∨ op = 9 ∨ op = 10 ∨ op = 11 ∨ op = 12 ∨ op = 13 ∨ op = 14 ∨ op = 15 ∨ op = 16 ∨ op = 17 := by omega
  rcases h with rfl | rfl | rfl | rfl | rfl | rfl | rfl | rfl | rfl | rfl | rfl | rfl
  · exact ⟨7, _, _, _, rfl, rfl⟩
  · exact ⟨8, _, _, _, rfl, rfl⟩
  · exact ⟨9, _, _, _, rfl, rfl⟩
  · exact ⟨10, _, _, _, rfl, rfl⟩
  · exact ⟨11, _, _, _, rfl, rfl⟩
  · exact ⟨4, _, _, _, rfl, rfl⟩
  · exact ⟨5, _, _, _, rfl, rfl⟩
  · exact ⟨6, _, _, _, rfl, rfl⟩
  · exact ⟨0, _, _, _, rfl, rfl⟩
  · exact ⟨1, _, _, _, rfl, rfl⟩
  · exact ⟨2, _, _, _, rfl, rfl⟩
  · exact ⟨3, _, _, _, rfl, rfl⟩

set_option maxHeartbeats 1000000 in
theorem level_ok (op : Int) (st : St) (hg : st.row 1 = some opRow) : ACalls Tryd.prog 42 [.int .i64 op] st (fun v st' => v = .int .i64 (rk op) ∧ st' = st) (fun _ _ => False) := by
  refine ACalls.ofBody Tryd.func42 rfl Tryd.ntmps42 rfl ?_
  repeat (refine AWP.seq ?_)
  refine rg ?_
  repeat (refine ZA (z := ?_))
  repeat (first | refine nl ?_ | refine AWP.seq ?_)
  refine rg ?_
  refine leW (row := opRow) (rows := [opRow]) (i := 0) (s := 36) rfl rfl (congrArg (Option.map fun row : List AV => AV.eptr row.length [row] 0 0) hg) rfl rfl ?_
  repeat (first | refine nl ?_ | refine AWP.block ?_ | refine ZA (z := ?_))
  refine AWP.loop (α := Nat) (fun i => [(6, .int .i64 (i : Int)), (5, .agg opRow), (0, .int .i64 op)]) (fun _ => st) (fun i => i ≤ 12 ∧ ∀ (j : Nat) (s : List UInt8) (o l : Nat), j < i → opL[j]? = some (s, o, l) → (o : Int) ≠ op) (fun i => 12 - i) 0
    ⟨by omega, fun j _ _ _ h => absurd h (by omega)⟩ (tl3 rfl rfl rfl) (.refl _) ?_
  rintro i ⟨h1, h2⟩
  refine AWP.weaken (T' := [(6, .int .i64 (i : Int)), (5, .agg opRow), (0, .int .i64 op)]) (tl3 rfl rfl rfl) (.refl _) ?_
  by_cases hi : i < 12
  · obtain ⟨s, o, l, q1, q2, q3⟩ := opRow_at i hi
    repeat (refine AWP.seq ?_)
    refine rg ?_
    repeat (refine ZA (z := ?_))
    repeat (first | refine nl ?_ | refine AWP.seq ?_)
    refine cT rfl (decide_eq_true (by omega)) ?_
    repeat (first | refine AWP.seq ?_ | refine AWP.skip ?_ | refine AWP.block ?_)
    refine rg ?_
    refine ixgA (m := i) rfl rfl rfl rfl rfl hi q2 q3 ?_
    repeat (first | refine nl ?_ | refine AWP.seq ?_ | refine rg ?_ | refine ZA (z := ?_) | refine ZC (z := ?_) | refine ZF (z := ?_) | refine YA (z := ?_))
    by_cases ho : (o : Int) = op
    · repeat (first | refine nl ?_ | refine AWP.seq ?_ | refine rg ?_ | refine YH (z := ?_) | refine ZA (z := ?_) | refine ZC (z := ?_) | refine ZF (z := ?_))
      refine AWP.ret (rets rfl (.refl _) (.refl _) ⟨?_, rfl⟩)
      rw [← ho, ← (opL_rk _ _ _ _ q1).1]
      rfl
    · repeat (first | refine nl ?_ | refine rg ?_ | refine AWP.skip ?_ | refine YI (z := ?_) | refine ZA (z := ?_) | refine ZO (z := ?_))
      refine ⟨i + 1, ⟨by omega, fun j s' o' l' hj hx => ?_⟩, by omega, (tl3 rfl rfl rfl), .refl _⟩
      rcases Nat.lt_or_ge j i with hji | hji
      · exact h2 j s' o' l' hji hx
      · have : j = i := by omega
        subst this
        rw [q1] at hx
        cases hx
        exact ho
  · have hno : ¬ (6 ≤ op ∧ op ≤ 17) := fun h => by
      obtain ⟨m, s, o, l, k1, k2⟩ := opL_has h.1 h.2
      have hm : m < 12 := (List.getElem?_eq_some_iff.1 k1).1
      exact h2 m s o l (by omega) k1 k2
    repeat (refine AWP.seq ?_)
    refine rg ?_
    repeat (refine ZA (z := ?_))
    repeat (first | refine nl ?_ | refine AWP.seq ?_)
    refine cF rfl (decide_eq_false (by omega)) ?_
    refine AWP.exit (blk_hit ?_)
    by_cases h4 : op = 4
    · repeat (first | refine nl ?_ | refine AWP.seq ?_ | refine rg ?_ | refine YH (z := ?_) | refine ZA (z := ?_) | refine ZB (z := ?_) | refine YD (z := ?_))
      refine AWP.ret (rets rfl (.refl _) (.refl _) ⟨?_, rfl⟩)
      subst h4
      rfl
    by_cases h5 : op = 5
    · repeat (first | refine nl ?_ | refine AWP.seq ?_ | refine rg ?_ | refine YH (z := ?_) | refine ZA (z := ?_) | refine YE (z := ?_))
      refine AWP.ret (rets rfl (.refl _) (.refl _) ⟨?_, rfl⟩)
      subst h5
      rfl
    · repeat (first | refine nl ?_ | refine AWP.seq ?_ | refine rg ?_ | refine AWP.skip ?_ | refine YI (z := ?_) | refine ZA (z := ?_) | refine YE (z := ?_))
      refine AWP.ret (rets rfl (.refl _) (.refl _) ⟨?_, rfl⟩)
      rw [rk, if_neg (by omega), if_neg (by omega), if_neg (by omega), if_neg (by omega), if_neg (by omega)]
      rfl
end Go.Proofs
/- expression.text walked. No conditions: definitions and lemmas only. -/
namespace Go.Proofs
open Go.AM
attribute [local irreducible] AWP AOps ACalls AAny
set_option linter.unusedSimpArgs false

/-- The tables that printing looks at. -/
def Tb (st : St) : Prop := st.row 1 = some opRow ∧ (3, powRow) ∈ st.glob
theorem Tb.low {st st1 : St} (h : Tb st) (hle : StLe st1 st.notok) : Tb st1 := by
  have e : st.glob = st1.glob := hle.glob
  unfold Tb St.row at *
  rw [← e]
  exact h
def TextOk (n : Nat) (x : XT) : Prop := ∀ st, Tb st → ACalls Tryd.prog 27 [.agg (xcs x.op x.num x.vr x.name x.field (.view 6 (x.args.map XT.row) .shared))] st (fun v st' => v = .str (txX n x) ∧ st' = st) (fun _ _ => False)
theorem part_ok {n : Nat} {x : XT} (h : TextOk n x) (hl : (txX n x).length ≤ 9000000000000000000) (b : Bool) (st : St) (hT : Tb st) :
    ACalls Tryd.prog 41 [.agg (xcs x.op x.num x.vr x.name x.field (.view 6 (x.args.map XT.row) .shared)), .bool b] st (fun v st' => v = .str (pby b (txX n x)) ∧ st' = st) (fun _ _ => False) := by
  refine ACalls.ofBody Tryd.func41 rfl Tryd.ntmps41 rfl ?_
  cases b with
  | true =>
    repeat (first | refine nl ?_ | refine AWP.seq ?_ | refine rg ?_ | refine YH (z := ?_) | refine ZA (z := ?_) | refine ZD (z := ?_) | refine ZR (z := ?_))
    refine cle rfl rfl (h st hT) ?_
    refine sad rfl rfl rfl (by simp only [List.length_cons, List.length_nil]; omega) ?_
    refine sad rfl rfl rfl (by simp only [List.length_append, List.length_cons, List.length_nil]; omega) ?_
    repeat (first | refine nl ?_ | refine ZA (z := ?_))
    exact AWP.ret (rets rfl (.refl _) (.refl _) ⟨rfl, rfl⟩)
  | false =>
    repeat (first | refine nl ?_ | refine AWP.seq ?_ | refine rg ?_ | refine AWP.skip ?_ | refine YI (z := ?_) | refine ZA (z := ?_) | refine ZD (z := ?_) | refine ZR (z := ?_))
    refine cle rfl rfl (h st hT) ?_
    repeat (first | refine nl ?_ | refine ZA (z := ?_))
    exact AWP.ret (rets rfl (.refl _) (.refl _) ⟨rfl, rfl⟩)

set_option maxHeartbeats 4000000 in
theorem text_step (n : Nat) (ih : ∀ x, wholeX n x = true → GX x → x.nodes ≤ 1000 → TextOk n x) (x : XT) (hw : wholeX (n + 1) x = true) (hg : GX x) (hn : x.nodes ≤ 1000) : TextOk (n + 1) x := by
  intro st hT
  obtain ⟨⟨w1, w2⟩, _, _⟩ := whole_spec hw
  obtain ⟨_, g2, g3, g4, g5⟩ := hg.all
  have hne := x.nodes_eq
  unfold Smax at g3 g4
  refine ACalls.ofBody Tryd.func27 rfl Tryd.ntmps27 rfl ?_
  rw [txX]
  by_cases e0 : x.op = 0
  · rw [if_pos e0]
    repeat (first | refine nl ?_ | refine AWP.seq ?_ | refine rg ?_ | refine AWP.block ?_ | refine YH (z := ?_) | refine ZA (z := ?_) | refine ZC (z := ?_) | refine ZF (z := ?_) | refine ZR (z := ?_))
    refine cle rfl rfl (itoa_ok x.num g2 st hT.2) ?_
    repeat (first | refine nl ?_ | refine ZA (z := ?_))
    exact AWP.ret (rets rfl (.refl _) (.refl _) ⟨rfl, rfl⟩)
  rw [if_neg e0]
  by_cases e1 : x.op = 1
  · rw [if_pos e1]
    repeat (first | refine nl ?_ | refine AWP.seq ?_ | refine rg ?_ | refine AWP.block ?_ | refine YH (z := ?_) | refine YI (z := ?_) | refine ZA (z := ?_) | refine ZC (z := ?_) | refine ZF (z := ?_) | refine ZR (z := ?_))
    exact AWP.ret (rets rfl (.refl _) (.refl _) ⟨rfl, rfl⟩)
  rw [if_neg e1]
  by_cases e2 : x.op = 2
  · rw [if_pos e2]
    repeat (first | refine nl ?_ | refine AWP.seq ?_ | refine rg ?_ | refine AWP.block ?_ | refine YH (z := ?_) | refine YI (z := ?_) | refine ZA (z := ?_) | refine ZC (z := ?_) | refine ZF (z := ?_) | refine ZR (z := ?_))
    refine sad rfl rfl rfl (by simp only [List.length_cons, List.length_nil]; omega) ?_
    repeat (first | refine ZC (z := ?_) | refine ZF (z := ?_))
    refine sad rfl rfl rfl (by simp only [List.length_append, List.length_cons, List.length_nil]; omega) ?_
    repeat (first | refine nl ?_ | refine ZA (z := ?_))
    exact AWP.ret (rets rfl (.refl _) (.refl _) ⟨rfl, rfl⟩)
  rw [if_neg e2]
  by_cases e345 : x.op = 3 ∨ x.op = 4 ∨ x.op = 5
  · obtain ⟨ea, wa⟩ := whole_one hw e345
    have ga := g5 x.a (by rw [ea]; simp)
    rw [ea, xnodes, xnodes] at hne
    have la := txX_len n x.a wa ga
    have hA := ih x.a wa ga (by omega)
    generalize x.a = a at *
    rw [ea, List.map_cons, List.map_nil, a.row_eq]
    by_cases e3 : x.op = 3
    · rw [if_pos e3]
      repeat (first | refine nl ?_ | refine AWP.seq ?_ | refine rg ?_ | refine AWP.block ?_ | refine YH (z := ?_) | refine YI (z := ?_) | refine ZA (z := ?_) | refine ZC (z := ?_) | refine ZF (z := ?_) | refine ZR (z := ?_))
      refine AWP.draw rfl 11 11 (fun _ _ => False) rfl ?_
      repeat (first | refine dp (h := fun _ _ => ZF (z := nz)) (z := ?_) | refine dp (h := fun _ _ => ZC (z := nz)) (z := ?_))
      refine dq rfl rfl rfl (fun st1 hle => sad rfl rfl rfl (by simp only [List.length_cons, List.length_nil]; omega) (nl ⟨_, rfl, rfl, rfl⟩)) ?_
      repeat (first | refine dp (h := fun _ _ => ZD (z := nz)) (z := ?_) | refine dp (h := fun _ _ => ZF (z := nz)) (z := ?_) | refine dp (h := fun _ _ => ZC (z := nz)) (z := ?_) | refine dp (h := fun _ _ => ZM (z := nz)) (z := ?_))
      refine dq rfl rfl rfl (fun st1 hle => cle rfl rfl (hA st1 (hT.low hle)) (nl ⟨_, rfl, rfl, rfl⟩)) ?_
      refine dq rfl rfl rfl (fun st1 hle => sad rfl rfl rfl (by simp only [List.length_append, List.length_cons, List.length_nil]; omega) (nl ⟨_, rfl, rfl, rfl⟩)) ?_
      refine dq rfl rfl rfl (fun st1 hle => sad rfl rfl rfl (by simp only [List.length_append, List.length_cons, List.length_nil]; omega) (nl ⟨_, rfl, rfl, rfl⟩)) ?_
      repeat (refine ds rfl rfl ?_)
      refine dn ⟨fun _ => ?_, fun h => absurd h (by decide)⟩
      refine nl ?_
      exact AWP.ret (rets rfl (.refl _) (.refl _) ⟨rfl, rfl⟩)
    rw [if_neg e3]
    by_cases e4 : x.op = 4
    · rw [if_pos e4]
      have pl := pby_len (decide (rk a.op < 5)) (txX n a)
      repeat (first | refine nl ?_ | refine AWP.seq ?_ | refine rg ?_ | refine AWP.block ?_ | refine YH (z := ?_) | refine YI (z := ?_) | refine ZA (z := ?_) | refine ZC (z := ?_) | refine ZF (z := ?_) | refine ZR (z := ?_))
      refine AWP.draw rfl 14 14 (fun _ _ => False) rfl ?_
      repeat (first | refine dp (h := fun _ _ => ZD (z := nz)) (z := ?_) | refine dp (h := fun _ _ => ZF (z := nz)) (z := ?_) | refine dp (h := fun _ _ => ZC (z := nz)) (z := ?_) | refine dp (h := fun _ _ => ZM (z := nz)) (z := ?_))
      refine dq rfl rfl rfl (fun st1 hle => cle rfl rfl (level_ok a.op st1 (hT.low hle).1) (nl ⟨_, rfl, rfl, rfl⟩)) ?_
      repeat (refine ds rfl rfl ?_)
      refine dq rfl rfl rfl (fun st1 hle => cle rfl rfl (part_ok hA (by omega) _ st1 (hT.low hle)) (nl ⟨_, rfl, rfl, rfl⟩)) ?_
      refine dq rfl rfl rfl (fun st1 hle => sad rfl rfl rfl (by simp only [List.length_append, List.length_cons, List.length_nil]; omega) (nl ⟨_, rfl, rfl, rfl⟩)) ?_
      repeat (refine ds rfl rfl ?_)
      refine dn ⟨fun _ => ?_, fun h => absurd h (by decide)⟩
      refine nl ?_
      exact AWP.ret (rets rfl (.refl _) (.refl _) ⟨rfl, rfl⟩)
    have e5 : x.op = 5 := by omega
    rw [if_neg e4, if_pos e5]
    have pl := pby_len (decide (rk a.op < 5)) (txX n a)
    repeat (first | refine nl ?_ | refine AWP.seq ?_ | refine rg ?_ | refine AWP.block ?_ | refine YH (z := ?_) | refine YI (z := ?_) | refine ZA (z := ?_) | refine ZC (z := ?_) | refine ZF (z := ?_) | refine ZR (z := ?_))
    refine AWP.draw rfl 14 14 (fun _ _ => False) rfl ?_
    repeat (first | refine dp (h := fun _ _ => ZD (z := nz)) (z := ?_) | refine dp (h := fun _ _ => ZF (z := nz)) (z := ?_) | refine dp (h := fun _ _ => ZC (z := nz)) (z := ?_) | refine dp (h := fun _ _ => ZM (z := nz)) (z := ?_))
    refine dq rfl rfl rfl (fun st1 hle => cle rfl rfl (level_ok a.op st1 (hT.low hle).1) (nl ⟨_, rfl, rfl, rfl⟩)) ?_
    repeat (refine ds rfl rfl ?_)
    refine dq rfl rfl rfl (fun st1 hle => cle rfl rfl (part_ok hA (by omega) _ st1 (hT.low hle)) (nl ⟨_, rfl, rfl, rfl⟩)) ?_
    refine dq rfl rfl rfl (fun st1 hle => sad rfl rfl rfl (by simp only [List.length_append, List.length_cons, List.length_nil]; omega) (nl ⟨_, rfl, rfl, rfl⟩)) ?_
    repeat (refine ds rfl rfl ?_)
    refine dn ⟨fun _ => ?_, fun h => absurd h (by decide)⟩
    refine nl ?_
    exact AWP.ret (rets rfl (.refl _) (.refl _) ⟨rfl, rfl⟩)
  · obtain ⟨ea, wa, wb⟩ := whole_two hw (by omega)
    have ga := g5 x.a (by rw [ea]; simp)
    have gb := g5 x.b (by rw [ea]; simp)
    rw [ea, xnodes, xnodes, xnodes] at hne
    have la := txX_len n x.a wa ga
    have lb := txX_len n x.b wb gb
    have hA := ih x.a wa ga (by omega)
    have hB := ih x.b wb gb (by omega)
    have pa := pby_len (decide (rk x.a.op < rk x.op ∨ rk x.a.op = 1)) (txX n x.a)
    have pb := pby_len (decide (rk x.b.op ≤ rk x.op)) (txX n x.b)
    have ps := sgO_len x.op.toNat
    generalize x.a = a at *
    generalize x.b = b at *
    rw [if_neg (by omega), if_neg (by omega), if_neg (by omega)]
    rw [ea, List.map_cons, List.map_cons, List.map_nil, a.row_eq, b.row_eq]
    repeat (first | refine nl ?_ | refine AWP.seq ?_ | refine rg ?_ | refine AWP.skip ?_ | refine AWP.block ?_ | refine YI (z := ?_) | refine ZA (z := ?_) | refine ZC (z := ?_) | refine ZF (z := ?_) | refine ZR (z := ?_))
    refine cle rfl rfl (level_ok x.op st hT.1) ?_
    repeat (first | refine nl ?_ | refine AWP.seq ?_ | refine ZA (z := ?_))
    refine AWP.draw rfl 14 14 (fun _ _ => False) rfl ?_
    repeat (first | refine dp (h := fun _ _ => ZF (z := nz)) (z := ?_) | refine dp (h := fun _ _ => ZC (z := nz)) (z := ?_) | refine dp (h := fun _ _ => ZM (z := nz)) (z := ?_))
    refine dq rfl rfl rfl (fun st1 hle => cle rfl rfl (level_ok a.op st1 (hT.low hle).1) (nl ⟨_, rfl, rfl, rfl⟩)) ?_
    repeat (first | refine dp (h := fun _ _ => ZF (z := nz)) (z := ?_) | refine dp (h := fun _ _ => ZC (z := nz)) (z := ?_) | refine dp (h := fun _ _ => ZM (z := nz)) (z := ?_))
    refine dq rfl rfl rfl (fun st1 hle => cle rfl rfl (level_ok b.op st1 (hT.low hle).1) (nl ⟨_, rfl, rfl, rfl⟩)) ?_
    repeat (refine ds rfl rfl ?_)
    refine dn ⟨fun _ => ?_, fun h => absurd h (by decide)⟩
    repeat (first | refine nl ?_ | refine AWP.seq ?_ | refine rg ?_ | refine ZA (z := ?_))
    refine leW (row := opRow) (rows := [opRow]) (i := 0) (s := 36) rfl rfl (congrArg (Option.map fun row : List AV => AV.eptr row.length [row] 0 0) hT.1) rfl rfl ?_
    repeat (first | refine nl ?_ | refine AWP.block ?_ | refine ZA (z := ?_))
    refine AWP.loop (α := Nat × List UInt8) (fun y => [(86, .int .i64 (y.1 : Int)), (85, .agg opRow), (6, .str y.2), (5, .int .i64 (rk b.op)), (4, .int .i64 (rk a.op)), (3, .int .i64 (rk x.op)), (1, .eptr 6 [xcs x.op x.num x.vr x.name x.field (.view 6 [xcs a.op a.num a.vr a.name a.field (.view 6 (a.args.map XT.row) .shared), xcs b.op b.num b.vr b.name b.field (.view 6 (b.args.map XT.row) .shared)] .shared)] 0 0)]) (fun _ => st) (fun y => y.1 ≤ 12 ∧ ((y.2 = [] ∧ ∀ (j : Nat) (s : List UInt8) (o l : Nat), j < y.1 → opL[j]? = some (s, o, l) → (o : Int) ≠ x.op) ∨ y.2 = sgO x.op.toNat)) (fun y => 12 - y.1) (0, [])
      ⟨Nat.zero_le _, .inl ⟨rfl, fun j _ _ _ h => absurd h (Nat.not_lt_zero _)⟩⟩ (tl7 rfl rfl rfl rfl rfl rfl rfl) (.refl _) ?_
    rintro ⟨i, w⟩ ⟨h1, h2⟩
    simp only at h1 h2
    refine AWP.weaken (T' := [(86, .int .i64 (i : Int)), (85, .agg opRow), (6, .str w), (5, .int .i64 (rk b.op)), (4, .int .i64 (rk a.op)), (3, .int .i64 (rk x.op)), (1, .eptr 6 [xcs x.op x.num x.vr x.name x.field (.view 6 [xcs a.op a.num a.vr a.name a.field (.view 6 (a.args.map XT.row) .shared), xcs b.op b.num b.vr b.name b.field (.view 6 (b.args.map XT.row) .shared)] .shared)] 0 0)]) (tl7 rfl rfl rfl rfl rfl rfl rfl) (.refl _) ?_
    by_cases hi : i < 12
    · obtain ⟨s, o, l, q1, q2, q3⟩ := opRow_at i hi
      repeat (refine AWP.seq ?_)
      refine rg ?_
      repeat (refine ZA (z := ?_))
      repeat (first | refine nl ?_ | refine AWP.seq ?_)
      refine cT rfl (decide_eq_true (by omega)) ?_
      repeat (first | refine AWP.seq ?_ | refine AWP.skip ?_ | refine AWP.block ?_)
      refine rg ?_
      refine ixgA (m := i) rfl rfl rfl rfl rfl hi q2 q3 ?_
      repeat (first | refine nl ?_ | refine AWP.seq ?_ | refine rg ?_ | refine ZA (z := ?_) | refine ZC (z := ?_) | refine ZF (z := ?_) | refine YA (z := ?_))
      by_cases ho : (o : Int) = x.op
      · repeat (first | refine nl ?_ | refine rg ?_ | refine YH (z := ?_) | refine ZA (z := ?_) | refine ZC (z := ?_) | refine ZF (z := ?_) | refine ZO (z := ?_))
        refine ⟨(i + 1, s), ⟨hi, .inr ?_⟩, by simp only; omega, (tl7 rfl rfl rfl rfl rfl rfl rfl), .refl _⟩
        rw [← (opL_rk _ _ _ _ q1).2, ← ho, Int.toNat_natCast]
      · repeat (first | refine nl ?_ | refine rg ?_ | refine AWP.skip ?_ | refine YI (z := ?_) | refine ZA (z := ?_) | refine ZO (z := ?_))
        refine ⟨(i + 1, w), ⟨hi, ?_⟩, by simp only; omega, (tl7 rfl rfl rfl rfl rfl rfl rfl), .refl _⟩
        rcases h2 with ⟨h2, h3⟩ | h2
        · refine .inl ⟨h2, fun j s' o' l' hj hx => ?_⟩
          rcases Nat.lt_or_ge j i with hji | hji
          · exact h3 j s' o' l' hji hx
          · have hji : j = i := by simp only at hj; omega
            subst hji
            rw [q1] at hx
            cases hx
            exact ho
        · exact .inr h2
    · have hw : w = sgO x.op.toNat := by
        rcases h2 with ⟨_, h3⟩ | h2
        · obtain ⟨m, s, o, l, k1, k2⟩ := opL_has (op := x.op) (by omega) w2
          have hm : m < 12 := (List.getElem?_eq_some_iff.1 k1).1
          exact absurd k2 (h3 m s o l (by omega) k1)
        · exact h2
      subst hw
      repeat (refine AWP.seq ?_)
      refine rg ?_
      repeat (refine ZA (z := ?_))
      repeat (first | refine nl ?_ | refine AWP.seq ?_)
      refine cF rfl (decide_eq_false (by omega)) ?_
      refine AWP.exit (blk_hit ?_)
      by_cases c1 : rk a.op < rk x.op
      · rw [decide_eq_true (show rk a.op < rk x.op ∨ rk a.op = 1 from .inl c1)] at pa ⊢
        repeat (refine AWP.seq ?_)
        refine AWP.draw rfl 25 25 (fun _ _ => False) rfl ?_
        repeat (first | refine dq (v := .bool true) rfl rfl rfl (fun st1 hle => sm rfl (nl ⟨_, rfl, congrArg AV.bool (by (fail_if_success rfl); first | assumption | exact decide_eq_true (by assumption) | exact decide_eq_false (by assumption) | exact decide_eq_true rfl | exact decide_eq_true (by omega) | exact decide_eq_false (by omega)), rfl⟩)) ?_ | refine ds rfl rfl ?_ | refine du rfl rfl rfl ?_ | refine dp (h := fun _ _ => ZD (z := nz)) (z := ?_) | refine dp (h := fun _ _ => ZF (z := nz)) (z := ?_) | refine dp (h := fun _ _ => ZC (z := nz)) (z := ?_) | refine dp (h := fun _ _ => ZM (z := nz)) (z := ?_))
        refine dq rfl rfl rfl (fun st1 hle => cle rfl rfl (part_ok hA (by omega) _ st1 (hT.low hle)) (nl ⟨_, rfl, rfl, rfl⟩)) ?_
        refine dq rfl rfl rfl (fun st1 hle => sad rfl rfl rfl (by simp only [List.length_cons, List.length_nil]; omega) (nl ⟨_, rfl, rfl, rfl⟩)) ?_
        repeat (refine ds rfl rfl ?_)
        refine dq rfl rfl rfl (fun st1 hle => sad rfl rfl rfl (by simp only [List.length_append, List.length_cons, List.length_nil]; omega) (nl ⟨_, rfl, rfl, rfl⟩)) ?_
        refine dq rfl rfl rfl (fun st1 hle => sad rfl rfl rfl (by simp only [List.length_append, List.length_cons, List.length_nil]; omega) (nl ⟨_, rfl, rfl, rfl⟩)) ?_
        repeat (first | refine ds rfl rfl ?_ | refine dp (h := fun _ _ => ZD (z := nz)) (z := ?_) | refine dp (h := fun _ _ => ZF (z := nz)) (z := ?_) | refine dp (h := fun _ _ => ZC (z := nz)) (z := ?_) | refine dp (h := fun _ _ => ZM (z := nz)) (z := ?_))
        refine dq rfl rfl rfl (fun st1 hle => cle rfl rfl (part_ok hB (by omega) _ st1 (hT.low hle)) (nl ⟨_, rfl, rfl, rfl⟩)) ?_
        refine dq rfl rfl rfl (fun st1 hle => sad rfl rfl rfl (by simp only [List.length_append, List.length_cons, List.length_nil]; omega) (nl ⟨_, rfl, rfl, rfl⟩)) ?_
        refine dn ⟨fun _ => ?_, fun h => absurd h (by decide)⟩
        repeat (first | refine nl ?_ | refine ZA (z := ?_))
        exact AWP.ret (rets rfl (.refl _) (.refl _) ⟨rfl, rfl⟩)
      by_cases c2 : rk a.op = 1
      · rw [decide_eq_true (show rk a.op < rk x.op ∨ rk a.op = 1 from .inr c2)] at pa ⊢
        repeat (refine AWP.seq ?_)
        refine AWP.draw rfl 25 25 (fun _ _ => False) rfl ?_
        repeat (first | refine dq (v := .bool true) rfl rfl rfl (fun st1 hle => sm rfl (nl ⟨_, rfl, congrArg AV.bool (by (fail_if_success rfl); first | assumption | exact decide_eq_true (by assumption) | exact decide_eq_false (by assumption) | exact decide_eq_true rfl | exact decide_eq_true (by omega) | exact decide_eq_false (by omega)), rfl⟩)) ?_ | refine dq (v := .bool false) rfl rfl rfl (fun st1 hle => sm rfl (nl ⟨_, rfl, congrArg AV.bool (by (fail_if_success rfl); first | assumption | exact decide_eq_true (by assumption) | exact decide_eq_false (by assumption) | exact decide_eq_true rfl | exact decide_eq_true (by omega) | exact decide_eq_false (by omega)), rfl⟩)) ?_ | refine ds rfl rfl ?_ | refine dp (h := fun _ _ => ZD (z := nz)) (z := ?_) | refine dp (h := fun _ _ => ZF (z := nz)) (z := ?_) | refine dp (h := fun _ _ => ZC (z := nz)) (z := ?_) | refine dp (h := fun _ _ => ZM (z := nz)) (z := ?_))
        refine dq rfl rfl rfl (fun st1 hle => cle rfl rfl (part_ok hA (by omega) _ st1 (hT.low hle)) (nl ⟨_, rfl, rfl, rfl⟩)) ?_
        refine dq rfl rfl rfl (fun st1 hle => sad rfl rfl rfl (by simp only [List.length_cons, List.length_nil]; omega) (nl ⟨_, rfl, rfl, rfl⟩)) ?_
        repeat (refine ds rfl rfl ?_)
        refine dq rfl rfl rfl (fun st1 hle => sad rfl rfl rfl (by simp only [List.length_append, List.length_cons, List.length_nil]; omega) (nl ⟨_, rfl, rfl, rfl⟩)) ?_
        refine dq rfl rfl rfl (fun st1 hle => sad rfl rfl rfl (by simp only [List.length_append, List.length_cons, List.length_nil]; omega) (nl ⟨_, rfl, rfl, rfl⟩)) ?_
        repeat (first | refine ds rfl rfl ?_ | refine dp (h := fun _ _ => ZD (z := nz)) (z := ?_) | refine dp (h := fun _ _ => ZF (z := nz)) (z := ?_) | refine dp (h := fun _ _ => ZC (z := nz)) (z := ?_) | refine dp (h := fun _ _ => ZM (z := nz)) (z := ?_))
        refine dq rfl rfl rfl (fun st1 hle => cle rfl rfl (part_ok hB (by omega) _ st1 (hT.low hle)) (nl ⟨_, rfl, rfl, rfl⟩)) ?_
        refine dq rfl rfl rfl (fun st1 hle => sad rfl rfl rfl (by simp only [List.length_append, List.length_cons, List.length_nil]; omega) (nl ⟨_, rfl, rfl, rfl⟩)) ?_
        refine dn ⟨fun _ => ?_, fun h => absurd h (by decide)⟩
        repeat (first | refine nl ?_ | refine ZA (z := ?_))
        exact AWP.ret (rets rfl (.refl _) (.refl _) ⟨rfl, rfl⟩)
      rw [decide_eq_false (show ¬ (rk a.op < rk x.op ∨ rk a.op = 1) from fun h => h.elim c1 c2)] at pa ⊢
      repeat (refine AWP.seq ?_)
      refine AWP.draw rfl 25 25 (fun _ _ => False) rfl ?_
      repeat (first | refine dq (v := .bool false) rfl rfl rfl (fun st1 hle => sm rfl (nl ⟨_, rfl, congrArg AV.bool (by (fail_if_success rfl); first | assumption | exact decide_eq_true (by assumption) | exact decide_eq_false (by assumption) | exact decide_eq_true rfl | exact decide_eq_true (by omega) | exact decide_eq_false (by omega)), rfl⟩)) ?_ | refine ds rfl rfl ?_ | refine dp (h := fun _ _ => ZD (z := nz)) (z := ?_) | refine dp (h := fun _ _ => ZF (z := nz)) (z := ?_) | refine dp (h := fun _ _ => ZC (z := nz)) (z := ?_) | refine dp (h := fun _ _ => ZM (z := nz)) (z := ?_))
      refine dq rfl rfl rfl (fun st1 hle => cle rfl rfl (part_ok hA (by omega) _ st1 (hT.low hle)) (nl ⟨_, rfl, rfl, rfl⟩)) ?_
      refine dq rfl rfl rfl (fun st1 hle => sad rfl rfl rfl (by simp only [List.length_cons, List.length_nil]; omega) (nl ⟨_, rfl, rfl, rfl⟩)) ?_
      repeat (refine ds rfl rfl ?_)
      refine dq rfl rfl rfl (fun st1 hle => sad rfl rfl rfl (by simp only [List.length_append, List.length_cons, List.length_nil]; omega) (nl ⟨_, rfl, rfl, rfl⟩)) ?_
      refine dq rfl rfl rfl (fun st1 hle => sad rfl rfl rfl (by simp only [List.length_append, List.length_cons, List.length_nil]; omega) (nl ⟨_, rfl, rfl, rfl⟩)) ?_
      repeat (first | refine ds rfl rfl ?_ | refine dp (h := fun _ _ => ZD (z := nz)) (z := ?_) | refine dp (h := fun _ _ => ZF (z := nz)) (z := ?_) | refine dp (h := fun _ _ => ZC (z := nz)) (z := ?_) | refine dp (h := fun _ _ => ZM (z := nz)) (z := ?_))
      refine dq rfl rfl rfl (fun st1 hle => cle rfl rfl (part_ok hB (by omega) _ st1 (hT.low hle)) (nl ⟨_, rfl, rfl, rfl⟩)) ?_
      refine dq rfl rfl rfl (fun st1 hle => sad rfl rfl rfl (by simp only [List.length_append, List.length_cons, List.length_nil]; omega) (nl ⟨_, rfl, rfl, rfl⟩)) ?_
      refine dn ⟨fun _ => ?_, fun h => absurd h (by decide)⟩
      repeat (first | refine nl ?_ | refine ZA (z := ?_))
      exact AWP.ret (rets rfl (.refl _) (.refl _) ⟨rfl, rfl⟩)
end Go.Proofs
/- Both Prints answer one text. No conditions: definitions and lemmas only. -/
namespace Go.Proofs
open Go.AM
attribute [local irreducible] AWP AOps ACalls AAny

theorem text_all : ∀ n x, wholeX n x = true → GX x → x.nodes ≤ 1000 → TextOk n x
  | 0, _, h => by cases h
  | n + 1, x, h => text_step n (text_all n) x h
theorem expr_all : ∀ n x, wholeX n x = true → GX x → x.nodes ≤ 1000 → ExprOk n x
  | 0, _, h => by cases h
  | n + 1, x, h => expr_step n (expr_all n) x h
/-- The text of an expression, or nothing. -/
def prX (x : XT) : List UInt8 := if wholeX 200 x = true then txX 200 x else []

theorem print1_ok (x : XT) (hg : GX x) (hn : x.nodes ≤ 1000) (st : St) (hT : Tb st) : ACalls Tryd.prog 15 [.agg x.row] st (fun v st' => v = .str (prX x) ∧ st' = st) (fun _ _ => False) := by
  have hw := whole_ok 200 (by decide) x st
  refine ACalls.ofBody Tryd.func15 rfl Tryd.ntmps15 rfl ?_
  rw [x.row_eq] at hw ⊢
  unfold prX
  cases h : wholeX 200 x with
  | true =>
    rw [h] at hw
    have ht := text_all 200 x h hg hn st hT
    rw [if_pos rfl]
    repeat (first | refine nl ?_ | refine AWP.seq ?_ | refine rg ?_ | refine ZA (z := ?_) | refine ZD (z := ?_) | refine ZR (z := ?_))
    refine cle rfl rfl hw ?_
    repeat (first | refine nl ?_ | refine AWP.seq ?_ | refine rg ?_ | refine AWP.skip ?_ | refine YI (z := ?_) | refine ZA (z := ?_) | refine ZD (z := ?_))
    refine cle rfl rfl ht ?_
    repeat (first | refine nl ?_ | refine ZA (z := ?_))
    exact AWP.ret (rets rfl (.refl _) (.refl _) ⟨rfl, rfl⟩)
  | false =>
    rw [h] at hw
    rw [if_neg (by decide)]
    repeat (first | refine nl ?_ | refine AWP.seq ?_ | refine rg ?_ | refine ZA (z := ?_) | refine ZD (z := ?_) | refine ZR (z := ?_))
    refine cle rfl rfl hw ?_
    repeat (first | refine nl ?_ | refine AWP.seq ?_ | refine rg ?_ | refine YH (z := ?_) | refine ZA (z := ?_))
    exact AWP.ret (rets rfl (.refl _) (.refl _) ⟨rfl, rfl⟩)
theorem print2_ok (x : XT) (hg : GX x) (hn : x.nodes ≤ 1000) (st : St) : ACalls Tryd.prog 8 [.agg x.row] st (fun v st' => v = .str (prX x) ∧ st' = st) (fun _ _ => False) := by
  have hw := right_ok 200 (by decide) x st
  refine ACalls.ofBody Tryd.func8 rfl Tryd.ntmps8 rfl ?_
  rw [x.row_eq] at hw ⊢
  unfold prX
  cases h : wholeX 200 x with
  | true =>
    rw [h] at hw
    have ht := expr_all 200 x h hg hn 1 st
    have hr := rk_range x.op
    rw [decide_eq_false (show ¬ rk x.op < 1 by omega), pby, if_neg (by decide)] at ht
    rw [if_pos rfl]
    repeat (first | refine nl ?_ | refine AWP.seq ?_ | refine rg ?_ | refine ZA (z := ?_) | refine ZD (z := ?_) | refine ZR (z := ?_))
    refine cle rfl rfl hw ?_
    repeat (first | refine nl ?_ | refine AWP.seq ?_ | refine rg ?_ | refine AWP.skip ?_ | refine YI (z := ?_) | refine ZA (z := ?_) | refine ZD (z := ?_))
    refine cle rfl rfl ht ?_
    repeat (first | refine nl ?_ | refine ZA (z := ?_))
    exact AWP.ret (rets rfl (.refl _) (.refl _) ⟨rfl, rfl⟩)
  | false =>
    rw [h] at hw
    rw [if_neg (by decide)]
    repeat (first | refine nl ?_ | refine AWP.seq ?_ | refine rg ?_ | refine ZA (z := ?_) | refine ZD (z := ?_) | refine ZR (z := ?_))
    refine cle rfl rfl hw ?_
    repeat (first | refine nl ?_ | refine AWP.seq ?_ | refine rg ?_ | refine YH (z := ?_) | refine ZA (z := ?_))
    exact AWP.ret (rets rfl (.refl _) (.refl _) ⟨rfl, rfl⟩)

/-- How many levels an expression has. -/
def dpx : Xp → Nat
  | .elt _ a => dpx a + 1
  | .una _ a => dpx a + 1
  | .bin _ a b => max (dpx a) (dpx b) + 1
  | _ => 1
theorem rk_lvO (op : Nat) (h4 : 4 ≤ op) (h17 : op ≤ 17) : rk (op : Int) = (lvO op : Int) := by
  have h : op = 4 ∨ op = 5 ∨ op = 6 ∨ op = 7 ∨ op = 8 ∨ op = 9 ∨ op = 10 ∨ op = 11 ∨ op = 12 ∨ op = 13 ∨ op = 14 ∨ op = 15 ∨ op = 16 ∨ op = 17 := by omega
  rcases h with rfl | rfl | rfl | rfl | rfl | rfl | rfl | rfl | rfl | rfl | rfl | rfl | rfl | rfl <;> decide
theorem rk_toXT : ∀ x : Xp, Wop x → rk (toXT x).op = (lvX x : Int)
  | .lit _, _ => rfl
  | .var _, _ => rfl
  | .fld _ _, _ => rfl
  | .elt _ _, _ => rfl
  | .una op _, h => by
    have h1 : op = 4 ∨ op = 5 := h.1
    rcases h1 with rfl | rfl <;> rfl
  | .bin op _ _, h => rk_lvO op (by have := h.1; omega) h.2.1
theorem whole_toXT : ∀ (n : Nat) (x : Xp), Wop x → dpx x ≤ n → wholeX n (toXT x) = true
  | 0, x, _, h => by cases x <;> simp [dpx] at h
  | n + 1, .lit _, _, _ => rfl
  | n + 1, .var _, _, _ => rfl
  | n + 1, .fld _ _, _, _ => rfl
  | n + 1, .elt s a, h, hd => by
    have ha := whole_toXT n a h (by simp only [dpx] at hd; omega)
    rw [toXT, wholeX]
    simp [XT.op, XT.args, opdN, ha]
  | n + 1, .una op a, h, hd => by
    have ha := whole_toXT n a h.2 (by simp only [dpx] at hd; omega)
    have h1 := h.1
    rw [toXT, wholeX]
    rcases h1 with rfl | rfl <;> simp [XT.op, XT.args, opdN, ha]
  | n + 1, .bin op a b, h, hd => by
    have ha := whole_toXT n a h.2.2.1 (by simp only [dpx] at hd; omega)
    have hb := whole_toXT n b h.2.2.2 (by simp only [dpx] at hd; omega)
    have h1 := h.1
    have h2 := h.2.1
    have ho : opdN (op : Int) = 2 := by rw [opdN, if_neg (by omega), if_neg (by omega)]
    rw [whole_yes (x := toXT (.bin op a b)) ⟨(by show (0 : Int) ≤ (op : Int); omega), (by show (op : Int) ≤ 17; omega), (by show 2 = opdN (op : Int); rw [ho])⟩]
    show (wholeX n (toXT a) && (wholeX n (toXT b) && true)) = true
    rw [ha, hb]
    rfl
theorem txX_bin {n : Nat} {x : XT} (h : 6 ≤ x.op) : txX (n + 1) x = pby (decide (rk x.a.op < rk x.op ∨ rk x.a.op = 1)) (txX n x.a) ++ [32] ++ sgO x.op.toNat ++ [32] ++ pby (decide (rk x.b.op ≤ rk x.op)) (txX n x.b) := by
  rw [txX, if_neg (by omega), if_neg (by omega), if_neg (by omega), if_neg (by omega), if_neg (by omega), if_neg (by omega)]
theorem tx_toXT : ∀ (n : Nat) (x : Xp), Wop x → WX (fun _ => True) (fun m => m < 10 ^ 20) x → dpx x ≤ n → txX n (toXT x) = xby x
  | 0, x, _, _, h => by cases x <;> simp [dpx] at h
  | n + 1, .lit m, _, hx, _ => by
    rw [toXT, txX, xby]
    exact itoa_dec hx
  | n + 1, .var _, _, _, _ => rfl
  | n + 1, .fld s f, _, _, _ => by
    rw [toXT, txX, xby]
    show s ++ [46] ++ f = _
    simp
  | n + 1, .elt s a, h, hx, hd => by
    have ha := tx_toXT n a h hx.2 (by simp only [dpx] at hd; omega)
    rw [toXT, txX, xby, ← ha]
    show s ++ [91] ++ txX n (toXT a) ++ [93] = _
    simp
  | n + 1, .una op a, h, hx, hd => by
    have ha := tx_toXT n a h.2 hx (by simp only [dpx] at hd; omega)
    have hr := rk_toXT a h.2
    have h1 := h.1
    have e : decide (rk (toXT a).op < 5) = decide (lvX a < 5) := decide_eq_decide.2 (by omega)
    rw [toXT, txX, xby, ← ha, ← e]
    rcases h1 with rfl | rfl
    · rfl
    · rfl
  | n + 1, .bin op a b, h, hx, hd => by
    have ha := tx_toXT n a h.2.2.1 hx.1 (by simp only [dpx] at hd; omega)
    have hb := tx_toXT n b h.2.2.2 hx.2 (by simp only [dpx] at hd; omega)
    have h1 := h.1
    have h2 := h.2.1
    have hra := rk_toXT a h.2.2.1
    have hrb := rk_toXT b h.2.2.2
    have hro := rk_lvO op (by omega) h2
    have e1 : decide (rk (toXT a).op < rk (op : Int) ∨ rk (toXT a).op = 1) = lpar op a := decide_eq_decide.2 (by omega)
    have e2 : decide (rk (toXT b).op ≤ rk (op : Int)) = rpar op b := decide_eq_decide.2 (by omega)
    rw [txX_bin (x := toXT (.bin op a b)) (by show (6 : Int) ≤ (op : Int); omega), xby, ← ha, ← hb, ← e1, ← e2]
    show pby (decide (rk (toXT a).op < rk (op : Int) ∨ rk (toXT a).op = 1)) (txX n (toXT a)) ++ [32] ++ sgO (op : Int).toNat ++ [32] ++ pby (decide (rk (toXT b).op ≤ rk (op : Int))) (txX n (toXT b)) = _
    rw [Int.toNat_natCast]
    simp only [List.append_assoc, List.cons_append, List.nil_append]
theorem pr_toXT {x : Xp} (h : Wop x) (hx : WX (fun _ => True) (fun m => m < 10 ^ 20) x) (hd : dpx x ≤ 200) : prX (toXT x) = xby x := by
  rw [prX, if_pos (whole_toXT 200 x h hd), tx_toXT 200 x h hx hd]
end Go.Proofs
/- Expressions made from numbers, plain. No conditions: definitions and lemmas only. -/
namespace Go.Proofs
open Go.AM

def nmL : List (List UInt8) := [[97], [98], [99], [100], [118, 49], [118, 50], [118, 51], [118, 52], [118, 53], [118, 54], [122, 122]]
def fdL : List (List UInt8) := [[120], [121], [122]]
/-- The number at a place, cut. -/
def trN (l : List Int) (a : Nat) : Nat := ((l[a]?).map fun x => (x % 1048576).toNat).getD 0
def trNm (n : Nat) : List UInt8 := (nmL[n / 32 % 11]?).getD []
def trFd (n : Nat) : List UInt8 := (fdL[n / 512 % 3]?).getD []
/-- The expression that is made, so many levels further down at most, and the place behind. -/
def tr (l : List Int) : Nat → Nat → Xp × Nat
  | 0, a => (.lit (trN l a / 32 % 1000), a + 1)
  | k + 1, a =>
    if trN l a % 32 < 5 then (.lit (trN l a / 32 % 1000), a + 1)
    else if trN l a % 32 < 11 then (.var (trNm (trN l a)), a + 1)
    else if trN l a % 32 < 13 then (.fld (trNm (trN l a)) (trFd (trN l a)), a + 1)
    else if trN l a % 32 < 15 then (.elt (trNm (trN l a)) (tr l k (a + 1)).1, (tr l k (a + 1)).2)
    else if trN l a % 32 < 18 then (.una (4 + trN l a % 32 % 2) (tr l k (a + 1)).1, (tr l k (a + 1)).2)
    else (.bin (6 + trN l a % 32 % 12) (tr l k (a + 1)).1 (tr l k (tr l k (a + 1)).2).1, (tr l k (tr l k (a + 1)).2).2)
def trM : Nat → Nat
  | 0 => 1
  | k + 1 => 2 * trM k + 1
def trP : Nat → Nat
  | 0 => 3
  | k + 1 => 2 * trP k + 6

theorem nm_all : ∀ s ∈ nmL ++ fdL, Nm s ∧ s.length ≤ 2 := by
  have h : ∀ s ∈ nmL ++ fdL, (match s with | [] => false | c :: _ => isLet c && s.all isNP) = true ∧ s.length ≤ 2 ∧ s ∉ words := by decide
  intro s hs
  obtain ⟨h1, h2, h3⟩ := h s hs
  cases s with
  | nil => cases h1
  | cons c r =>
    simp only [Bool.and_eq_true, List.all_eq_true] at h1
    exact ⟨⟨c, r, rfl, h1.1, h1.2, by omega, h3⟩, h2⟩
theorem trNm_at (n : Nat) : nmL[n / 32 % 11]? = some (trNm n) ∧ trNm n ∈ nmL := by
  have h : n / 32 % 11 < nmL.length := Nat.mod_lt _ (by decide)
  have e := List.getElem?_eq_getElem h
  unfold trNm
  rw [e]
  exact ⟨rfl, List.getElem_mem h⟩
theorem trFd_at (n : Nat) : fdL[n / 512 % 3]? = some (trFd n) ∧ trFd n ∈ fdL := by
  have h : n / 512 % 3 < fdL.length := Nat.mod_lt _ (by decide)
  have e := List.getElem?_eq_getElem h
  unfold trFd
  rw [e]
  exact ⟨rfl, List.getElem_mem h⟩

structure TrP (k : Nat) (x : Xp) : Prop where
  op : Wop x
  nm : WX Nm Nu x
  dpx : dpx x ≤ k + 1
  bl : bl x + 2 * b1 (decide (lvX x < 6)) ≤ trP k
  tl : tl x + 2 * b1 (decide (lvX x < 6)) ≤ trP k
  nodes : (toXT x).nodes ≤ trM k
theorem trP_pos (k : Nat) : 3 ≤ trP k := by
  cases k with
  | zero => decide
  | succ k => unfold trP; omega
theorem trM_pos (k : Nat) : 1 ≤ trM k := by
  cases k with
  | zero => decide
  | succ k => unfold trM; omega
theorem TrP.leaf {k : Nat} {x : Xp} (h1 : Wop x) (h2 : WX Nm Nu x) (h3 : _root_.Go.Proofs.dpx x = 1) (h4 : lvX x = 6) (h5 : _root_.Go.Proofs.bl x ≤ trP k) (h6 : _root_.Go.Proofs.tl x ≤ 3) (h7 : (toXT x).nodes = 1) : TrP k x := by
  have p := trP_pos k
  have m := trM_pos k
  exact ⟨h1, h2, by omega, by rw [h4]; show _ + 2 * 0 ≤ _; omega, by rw [h4]; show _ + 2 * 0 ≤ _; omega, by omega⟩
theorem tr_ok (l : List Int) : ∀ (k a : Nat), TrP k (tr l k a).1 ∧ (tr l k a).2 ≤ a + trM k ∧ a ≤ (tr l k a).2 := by
  have hlit : ∀ k a, TrP k (.lit (trN l a / 32 % 1000)) := by
    intro k a
    have hn : trN l a / 32 % 1000 < 10 ^ 3 := Nat.mod_lt _ (by decide)
    have hd := dec_len (by decide) (by decide) hn
    have p := trP_pos k
    refine .leaf trivial (show _ < 10 ^ 18 by omega) rfl rfl ?_ (by show 1 ≤ 3; decide) rfl
    show (dec _).length ≤ _
    omega
  intro k
  induction k with
  | zero => intro a; exact ⟨hlit 0 a, by show a + 1 ≤ a + 1; omega, by show a ≤ a + 1; omega⟩
  | succ k ih =>
    intro a
    have p := trP_pos k
    have m := trM_pos k
    have eP : trP (k + 1) = 2 * trP k + 6 := rfl
    have eM : trM (k + 1) = 2 * trM k + 1 := rfl
    obtain ⟨n1, n2⟩ := trNm_at (trN l a)
    obtain ⟨f1, f2⟩ := trFd_at (trN l a)
    obtain ⟨nn, nl⟩ := nm_all _ (List.mem_append_left _ n2)
    obtain ⟨fn, fl⟩ := nm_all _ (List.mem_append_right _ f2)
    unfold tr
    generalize trNm (trN l a) = s at *
    generalize trFd (trN l a) = f at *
    obtain ⟨i1, i2, i3⟩ := ih (a + 1)
    have hpen : ∀ x : Xp, pen 5 x ≤ b1 (decide (lvX x < 6)) := by
      intro x
      unfold pen
      by_cases h : lvX x < 5
      · rw [decide_eq_true h, decide_eq_true (show lvX x < 6 by omega)]
        exact Nat.le_refl _
      · rw [decide_eq_false h]
        exact Nat.zero_le _
    have hb1 := fun b => b1_le b
    split
    · exact ⟨hlit (k + 1) a, by simp only; omega, by simp only; omega⟩
    split
    · refine ⟨.leaf trivial nn rfl rfl ?_ (by show 1 ≤ 3; decide) rfl, by simp only; omega, by simp only; omega⟩
      show s.length ≤ _
      omega
    split
    · refine ⟨.leaf trivial ⟨nn, fn⟩ rfl rfl ?_ (by show 3 ≤ 3; decide) rfl, by simp only; omega, by simp only; omega⟩
      show (s ++ 46 :: f).length ≤ _
      simp only [List.length_append, List.length_cons]
      omega
    split
    · generalize tr l k (a + 1) = r at i1 i2 i3
      obtain ⟨x, a'⟩ := r
      simp only at i1 i2 i3 ⊢
      obtain ⟨e1, e2⟩ := bl_elt s x
      refine ⟨⟨i1.op, ⟨nn, i1.nm⟩, ?_, ?_, ?_, ?_⟩, by omega, by omega⟩
      · have := i1.dpx
        simp only [dpx]
        omega
      · have := i1.bl
        rw [show lvX (.elt s x) = 6 from rfl, e1, show b1 (decide (6 < 6)) = 0 from rfl]
        omega
      · have := i1.tl
        rw [show lvX (.elt s x) = 6 from rfl, e2, show b1 (decide (6 < 6)) = 0 from rfl]
        omega
      · have := i1.nodes
        rw [toXT, XT.nodes_eq]
        show 1 + ((toXT x).nodes + 0) ≤ _
        omega
    split
    · generalize tr l k (a + 1) = r at i1 i2 i3
      obtain ⟨x, a'⟩ := r
      simp only at i1 i2 i3 ⊢
      generalize ho : 4 + trN l a % 32 % 2 = op
      obtain ⟨e1, e2⟩ := bl_una op x
      have h5 := hpen x
      refine ⟨⟨⟨by omega, i1.op⟩, i1.nm, ?_, ?_, ?_, ?_⟩, by omega, by omega⟩
      · have := i1.dpx
        simp only [dpx]
        omega
      · have := i1.bl
        rw [show lvX (.una op x) = 5 from rfl, e1, show b1 (decide (5 < 6)) = 1 from rfl]
        omega
      · have := i1.tl
        rw [show lvX (.una op x) = 5 from rfl, e2, show b1 (decide (5 < 6)) = 1 from rfl]
        omega
      · have := i1.nodes
        rw [toXT, XT.nodes_eq]
        show 1 + ((toXT x).nodes + 0) ≤ _
        omega
    · obtain ⟨j1, j2, j3⟩ := ih (tr l k (a + 1)).2
      generalize tr l k (a + 1) = r at i1 i2 i3 j1 j2 j3
      obtain ⟨x, a'⟩ := r
      simp only at i1 i2 i3 j1 j2 j3 ⊢
      generalize tr l k a' = r at j1 j2 j3
      obtain ⟨y, a2⟩ := r
      simp only at j1 j2 j3 ⊢
      generalize ho : 6 + trN l a % 32 % 12 = op
      have e1 := bl_bin op x y
      have e2 := tl_bin op x y
      have hs := sgO_len op
      have hl : b1 (lpar op x) ≤ b1 (decide (lvX x < 6)) := by
        unfold lpar
        have : lvO op ≤ 4 := (sgO_bin op (by omega) (by omega)).2.2.1
        by_cases h : lvX x < lvO op ∨ lvX x = 1
        · rw [decide_eq_true h, decide_eq_true (show lvX x < 6 by omega)]
          exact Nat.le_refl _
        · rw [decide_eq_false h]
          exact Nat.zero_le _
      have hr : b1 (rpar op y) ≤ b1 (decide (lvX y < 6)) := by
        unfold rpar
        have : lvO op ≤ 4 := (sgO_bin op (by omega) (by omega)).2.2.1
        by_cases h : lvX y ≤ lvO op
        · rw [decide_eq_true h, decide_eq_true (show lvX y < 6 by omega)]
          exact Nat.le_refl _
        · rw [decide_eq_false h]
          exact Nat.zero_le _
      have h6 := hb1 (decide (lvX (.bin op x y) < 6))
      refine ⟨⟨⟨by omega, by omega, i1.op, j1.op⟩, ⟨i1.nm, j1.nm⟩, ?_, ?_, ?_, ?_⟩, by omega, by omega⟩
      · have := i1.dpx
        have := j1.dpx
        simp only [dpx]
        omega
      · have := i1.bl
        have := j1.bl
        omega
      · have := i1.tl
        have := j1.tl
        omega
      · have := i1.nodes
        have := j1.nodes
        rw [toXT, XT.nodes_eq]
        show 1 + ((toXT x).nodes + ((toXT y).nodes + 0)) ≤ _
        omega
end Go.Proofs
/- The reader of expressions: what follows a name. No conditions: definitions and lemmas only. -/
namespace Go.Proofs
open Go.AM
attribute [local irreducible] AWP AOps ACalls AAny

/-- What follows a name. -/
def tg (d : Nat) (s : List UInt8) (ts : List Tk) : PR :=
  if sg (hd ts) [46] then (if (hd ts.tail).kind = 1 then .ok (.fld s (hd ts.tail).text, ts.tail.tail) else .error 7)
  else if sg (hd ts) [91] then
    match qe 1 (d + 1) ts.tail with
    | .error e => .error e
    | .ok (x, r) => if sg (hd r) [93] then .ok (.elt s x, r.tail) else .error 7
  else .ok (.var s, ts)
/-- What follows in brackets or parentheses. -/
def inner (d : Nat) (c : List UInt8) (f : Xp → Xp) (ts : List Tk) : PR :=
  match qe 1 (d + 1) ts with
  | .error e => .error e
  | .ok (x, r) => if sg (hd r) c then .ok (f x, r.tail) else .error 7
theorem sg_kind {t : Tk} {s : List UInt8} (h : sg t s = true) : t.kind = 4 := (of_decide_eq_true h).1
theorem inner_err {d : Nat} {c : List UInt8} {f : Xp → Xp} {ts : List Tk} {e : Nat} (h : qe 1 (d + 1) ts = .error e) : inner d c f ts = .error e := by rw [inner, h]
theorem inner_ok {d : Nat} {c : List UInt8} {f : Xp → Xp} {ts : List Tk} {x : Xp} {r : List Tk} (h : qe 1 (d + 1) ts = .ok (x, r)) (hs : sg (hd r) c = true) : inner d c f ts = .ok (f x, r.tail) := by rw [inner, h]; simp only; rw [if_pos hs]
theorem inner_no {d : Nat} {c : List UInt8} {f : Xp → Xp} {ts : List Tk} {x : Xp} {r : List Tk} (h : qe 1 (d + 1) ts = .ok (x, r)) (hs : ¬ sg (hd r) c = true) : inner d c f ts = .error 7 := by rw [inner, h]; simp only; rw [if_neg hs]

/-- What a nested expression and a sign behind it leave behind. -/
theorem rinner {ts : List Tk} (H : RdH ts) {d : Nat} {c : List UInt8} (f : Xp → Xp) {l : List Tk} {x : Xp} {a' e : Nat} (ha' : a' < ts.length) (hr : (e = 0 ∧ qe 1 (d + 1) l = .ok (x, ts.drop a')) ∨ (e ≠ 0 ∧ qe 1 (d + 1) l = .error e)) (o : Nat) (st : St) :
    ∃ a2 e2, ACalls Tryd.prog 52 [.cptr o 3 0 0, .str c] (st.set o (rdC (ts.map tokRow) a' e)) (fun _ st' => st' = st.set o (rdC (ts.map tokRow) a2 e2)) (fun _ _ => False) ∧ a2 < ts.length ∧
      ((e2 = 0 ∧ inner d c f l = .ok (f x, ts.drop a2)) ∨ (e2 ≠ 0 ∧ inner d c f l = .error e2)) := by
  rcases hr with ⟨rfl, hr⟩ | ⟨he, hr⟩
  · obtain ⟨t, t1, t2, t3, t4, t5⟩ := map_at ha'
    have hl : (ts.map tokRow).length ≤ 100000 := by rw [List.length_map]; exact H.len
    have h := rexpect_ok (St.obj_set st o (rdC (ts.map tokRow) a' 0)) t4 t2 hl c
    rw [St.set_set] at h
    by_cases hs : sg t c = true
    · rw [if_pos hs] at h
      exact ⟨a' + 1, 0, h, H.last _ _ t1 (by rw [sg_kind hs]; decide), .inl ⟨rfl, by rw [inner_ok hr (by rw [t3]; exact hs), t5]⟩⟩
    · rw [if_neg hs] at h
      exact ⟨a', 7, h, ha', .inr ⟨by decide, inner_no hr (by rw [t3]; exact hs)⟩⟩
  · exact ⟨a', e, rexpect_err (St.obj_set _ _ _) he c, ha', .inr ⟨he, inner_err hr⟩⟩

set_option maxHeartbeats 1000000 in
theorem rtarget_ok {ts : List Tk} (H : RdH ts) {N : Nat} (hO : OpnOk ts N) (hU : OpdOk ts N) (s : List UInt8) (d a o : Nat) (st : St) (hd8 : d ≤ 8) (ha : a < ts.length) (hN : ts.length - a ≤ N) (ho : st.obj o = some (rdC (ts.map tokRow) a 0)) (hg : st.row 1 = some opRow) :
    ACalls Tryd.prog 50 [.cptr o 3 0 0, .str s, .int .i64 (d : Int)] st (RdR ts o st (tg d s (ts.drop a))) (fun _ _ => False) := by
  refine ACalls.ofBody Tryd.func50 rfl Tryd.ntmps50 rfl ?_
  obtain ⟨t, t1, t2, t3, t4, t5⟩ := map_at ha
  have hl : (ts.map tokRow).length ≤ 100000 := by rw [List.length_map]; exact H.len
  repeat (refine AWP.seq ?_)
  refine rg ?_
  refine al rfl rfl fun o6 h6 => ?_
  have hne : o ≠ o6 := St.ne_of_new h6 ho
  have ho1 : ∀ c, (st.set o6 c).obj o = some (rdC (ts.map tokRow) a 0) := fun c => St.obj_new h6 ho
  have hC : (st.set o6 (.cells 27 6 [exRow 0 0 [] [] nilV])).obj o = some (.cells 48 3 [[.view 4 (ts.map tokRow) .shared, .int .i64 (a : Int), .int .i64 0]]) := ho1 _
  repeat (first | refine nl ?_ | refine AWP.seq ?_ | refine AWP.block ?_)
  refine rg ?_
  repeat (refine ZA (z := ?_))
  refine cle rfl rfl (ris_ok (ho1 _) t4 t2 hl [46]) ?_
  have hS : ∀ w, decide (t.kind = 4 ∧ t.text = w) = sg t w := fun _ => rfl
  rw [hS]
  by_cases h1 : sg t [46] = true
  · rw [h1]
    have ha2 := H.last _ _ t1 (by rw [sg_kind h1]; decide)
    obtain ⟨u, u1, u2, u3, u4, u5⟩ := map_at ha2
    have e0 : tg d s (ts.drop a) = if u.kind = 1 then .ok (.fld s u.text, ts.drop (a + 1 + 1)) else .error 7 := by
      rw [tg, t3, if_pos h1, t5, u3, u5]
    repeat (first | refine nl ?_ | refine AWP.seq ?_ | refine rg ?_ | refine YH (z := ?_) | refine ZA (z := ?_) | refine ZC (z := ?_) | refine ZH (z := ?_) | refine ZO (z := ?_))
    refine so (rows' := [[.view 4 (ts.map tokRow) .shared, .int .i64 ((a + 1 : Nat) : Int), .int .i64 0]]) rfl rfl rfl (ho1 _) rfl rfl rfl rfl rfl ?_
    repeat (first | refine nl ?_ | refine AWP.seq ?_ | refine rg ?_ | refine ZA (z := ?_))
    refine cle rfl rfl (rtoken_ok (St.obj_set _ _ _) u4 u2 hl) ?_
    repeat (first | refine nl ?_ | refine AWP.seq ?_ | refine rg ?_ | refine ZA (z := ?_) | refine ZC (z := ?_) | refine ZF (z := ?_) | refine YA (z := ?_))
    by_cases hk : u.kind = 1
    · rw [if_pos hk] at e0
      have hk' : (u.kind : Int) = 1 := by omega
      have ha3 := H.last _ _ u1 (by rw [hk]; decide)
      repeat (first | refine AWP.seq ?_ | refine rg ?_ | refine AWP.skip ?_ | refine YI (z := ?_) | refine ZA (z := ?_) | refine ZC (z := ?_) | refine ZH (z := ?_) | refine ZO (z := ?_))
      refine so (rows' := [[.view 4 (ts.map tokRow) .shared, .int .i64 ((a + 1 + 1 : Nat) : Int), .int .i64 0]]) rfl rfl rfl (St.obj_set _ _ _) rfl rfl rfl rfl rfl ?_
      rw [St.set_set]
      repeat (first | refine nl ?_ | refine AWP.seq ?_ | refine rg ?_ | refine ZA (z := ?_) | refine ZC (z := ?_) | refine ZF (z := ?_))
      refine bds (cs := exRow 2 0 s u.text nilV) rfl rfl rfl rfl ?_
      refine so (rows' := [exRow 2 0 s u.text nilV]) rfl rfl rfl (St.obj_under hne _ _) rfl rfl rfl rfl rfl ?_
      repeat (refine nl ?_)
      exact AWP.ret (rets (resCW rfl (St.obj_set _ _ _) rfl rfl rfl rfl) (ex_nil _ _ _ _) (StLe.res h6 hne) ⟨.fld s u.text, a + 1 + 1, 0, rfl, ha3, rfl, .inl ⟨rfl, e0⟩⟩)
    · rw [if_neg hk] at e0
      have hk' : ¬ (u.kind : Int) = 1 := by omega
      repeat (first | refine AWP.seq ?_ | refine rg ?_ | refine YH (z := ?_) | refine ZA (z := ?_) | refine ZC (z := ?_))
      refine so (rows' := [[.view 4 (ts.map tokRow) .shared, .int .i64 ((a + 1 : Nat) : Int), .int .i64 7]]) rfl rfl rfl (St.obj_set _ _ _) rfl rfl rfl rfl rfl ?_
      rw [St.set_set]
      repeat (first | refine nl ?_ | refine AWP.seq ?_ | refine rg ?_)
      refine bds (cs := exRow 0 0 [] [] nilV) rfl rfl rfl rfl ?_
      refine so (rows' := [exRow 0 0 [] [] nilV]) rfl rfl rfl (St.obj_under hne _ _) rfl rfl rfl rfl rfl ?_
      repeat (refine nl ?_)
      exact AWP.ret (rets (resCW rfl (St.obj_set _ _ _) rfl rfl rfl rfl) (ex_nil _ _ _ _) (StLe.res h6 hne) ⟨.lit 0, a + 1, 7, rfl, ha2, rfl, .inr ⟨by decide, e0⟩⟩)
  rw [Bool.not_eq_true] at h1
  rw [h1]
  repeat (first | refine nl ?_ | refine AWP.seq ?_ | refine rg ?_ | refine YI (z := ?_) | refine ZA (z := ?_))
  refine cle rfl rfl (ris_ok (ho1 _) t4 t2 hl [91]) ?_
  rw [hS]
  by_cases h2 : sg t [91] = true
  · rw [h2]
    have ha2 := H.last _ _ t1 (by rw [sg_kind h2]; decide)
    have e0 : tg d s (ts.drop a) = inner d [93] (.elt s) (ts.drop (a + 1)) := by
      rw [tg, t3, h1, if_neg (by decide), if_pos h2, t5]
      rfl
    repeat (first | refine nl ?_ | refine AWP.seq ?_ | refine rg ?_ | refine YH (z := ?_) | refine ZA (z := ?_) | refine ZC (z := ?_) | refine ZH (z := ?_) | refine ZO (z := ?_))
    refine so (rows' := [[.view 4 (ts.map tokRow) .shared, .int .i64 ((a + 1 : Nat) : Int), .int .i64 0]]) rfl rfl rfl (ho1 _) rfl rfl rfl rfl rfl ?_
    repeat (first | refine nl ?_ | refine AWP.seq ?_ | refine rg ?_ | refine ZA (z := ?_))
    refine cl rfl rfl (rnested_ok H hO hU d (a + 1) o _ false hd8 ha2 (by omega) (St.obj_set _ _ _) hg) fun v st' ⟨x, a', e, hv, ha', hst, hr⟩ => ?_
    subst hv
    subst hst
    rw [St.set_set]
    simp only [Bool.false_eq_true, if_false] at hr
    obtain ⟨op, num, name, field, args, hx⟩ := xrow_ex x
    rw [hx]
    repeat (first | refine nl ?_ | refine AWP.seq ?_ | refine rg ?_ | refine ZA (z := ?_) | refine YA (z := ?_))
    obtain ⟨a2, e2, hc, ha2', hr2⟩ := rinner H (c := [93]) (.elt s) ha' hr o (st.set o6 (.cells 27 6 [exRow 0 0 [] [] nilV]))
    refine cl rfl rfl hc fun v st' hst => ?_
    subst hst
    repeat (first | refine nl ?_ | refine AWP.seq ?_ | refine rg ?_ | refine ZA (z := ?_) | refine ZD (z := ?_) | refine ZQ (z := ?_))
    refine bds (cs := exRow 3 0 s [] (.view 6 [exRow op num name field (.view 6 args .shared)] .shared)) rfl rfl rfl rfl ?_
    refine so (rows' := [exRow 3 0 s [] (.view 6 [exRow op num name field (.view 6 args .shared)] .shared)]) rfl rfl rfl (St.obj_under hne _ _) rfl rfl rfl rfl rfl ?_
    repeat (refine nl ?_)
    refine AWP.ret (rets (resCW rfl (St.obj_set _ _ _) rfl rfl rfl rfl) (.refl _) (StLe.res h6 hne) ⟨.elt s x, a2, e2, ?_, ha2', rfl, ?_⟩)
    · rw [← hx]
      rfl
    · rw [e0]
      exact hr2
  rw [Bool.not_eq_true] at h2
  rw [h2]
  have e0 : tg d s (ts.drop a) = .ok (.var s, ts.drop a) := by
    rw [tg, t3, h1, if_neg (by decide), h2, if_neg (by decide)]
  repeat (first | refine nl ?_ | refine AWP.seq ?_ | refine rg ?_ | refine AWP.skip ?_ | refine YI (z := ?_) | refine ZA (z := ?_))
  refine bds (cs := exRow 1 0 s [] nilV) rfl rfl rfl rfl ?_
  refine so (rows' := [exRow 1 0 s [] nilV]) rfl rfl rfl (St.obj_set _ _ _) rfl rfl rfl rfl rfl ?_
  repeat (refine nl ?_)
  have hst : (st.set o (rdC (ts.map tokRow) a 0)) = st := by
    have : (fun p => if p = o then some (rdC (ts.map tokRow) a 0) else st.obj p) = st.obj := by
      funext p
      split
      · rename_i h; rw [h, ho]
      · rfl
    show ({ st with obj := _ } : St) = st
    rw [this]
  refine AWP.ret (rets (resCW rfl (St.obj_set _ _ _) rfl rfl rfl rfl) (ex_nil _ _ _ _) ?_ ⟨.var s, a, 0, rfl, ha, rfl, .inl ⟨rfl, e0⟩⟩)
  rw [hst]
  rw [St.set_set]
  exact StLe.new h6 (.refl _)
end Go.Proofs
/- The reader of expressions: an operand. No conditions: definitions and lemmas only. -/
namespace Go.Proofs
open Go.AM
attribute [local irreducible] AWP AOps ACalls AAny

theorem beg_cases {t : Tk} (h : beg t = true) : t.kind = 1 ∨ t.kind = 2 ∨ (t.kind = 4 ∧ (t.text = [45] ∨ t.text = [33] ∨ t.text = [40])) := by
  unfold beg sg at h
  simp only [Bool.or_eq_true, decide_eq_true_eq] at h
  rcases h with (((h | h) | h) | h) | h
  · exact .inl h
  · exact .inr (.inl h)
  · exact .inr (.inr ⟨h.1, .inl h.2⟩)
  · exact .inr (.inr ⟨h.1, .inr (.inl h.2)⟩)
  · exact .inr (.inr ⟨h.1, .inr (.inr h.2)⟩)

set_option maxHeartbeats 2000000 in
theorem roperand_step {ts : List Tk} (H : RdH ts) {N : Nat} (hO : OpnOk ts N) (hU : OpdOk ts N) : OpdOk ts (N + 1) := by
  intro d a o st hd8 ha hN ho hg
  refine ACalls.ofBody Tryd.func33 rfl Tryd.ntmps33 rfl ?_
  obtain ⟨t, t1, t2, t3, t4, t5⟩ := map_at ha
  have hl : (ts.map tokRow).length ≤ 100000 := by rw [List.length_map]; exact H.len
  repeat (refine AWP.seq ?_)
  refine rg ?_
  refine al rfl rfl fun o6 h6 => ?_
  have hne : o ≠ o6 := St.ne_of_new h6 ho
  have ho1 : ∀ c, (st.set o6 c).obj o = some (rdC (ts.map tokRow) a 0) := fun c => St.obj_new h6 ho
  have hC : (st.set o6 (.cells 27 6 [exRow 0 0 [] [] nilV])).obj o = some (.cells 48 3 [[.view 4 (ts.map tokRow) .shared, .int .i64 (a : Int), .int .i64 0]]) := ho1 _
  repeat (first | refine nl ?_ | refine AWP.seq ?_)
  refine rg ?_
  repeat (refine ZA (z := ?_))
  refine cle rfl rfl (rtoken_ok (ho1 _) t4 t2 hl) ?_
  repeat (first | refine nl ?_ | refine AWP.seq ?_ | refine rg ?_ | refine ZA (z := ?_) | refine YA (z := ?_))
  refine cle rfl rfl (rbegins_ok (ho1 _) t4 t2 hl) ?_
  by_cases hb : beg t = true
  · rw [hb]
    have hk0 : t.kind ≠ 0 := by
      rcases beg_cases hb with h | h | ⟨h, _⟩ <;> rw [h] <;> decide
    have ha2 := H.last _ _ t1 hk0
    repeat (first | refine nl ?_ | refine AWP.seq ?_ | refine rg ?_ | refine AWP.skip ?_ | refine YI (z := ?_) | refine ZA (z := ?_) | refine ZC (z := ?_) | refine ZH (z := ?_) | refine ZO (z := ?_))
    refine so (rows' := [[.view 4 (ts.map tokRow) .shared, .int .i64 ((a + 1 : Nat) : Int), .int .i64 0]]) rfl rfl rfl (ho1 _) rfl rfl rfl rfl rfl ?_
    have hS : ∀ b c, (((st.set o6 b).set o (AObj.cells 48 3 [[.view 4 (ts.map tokRow) .shared, .int .i64 ((a + 1 : Nat) : Int), .int .i64 0]])).set o c) = (st.set o6 b).set o c := fun _ _ => St.set_set ..
    by_cases hk2 : t.kind = 2
    · have e0 : qo d (ts.drop a) = .ok (.lit t.num, ts.drop (a + 1)) := by
        rw [qo_eq, t3, if_pos hb, if_neg (by omega), if_pos hk2, t5]
      have hk2' : (t.kind : Int) = 2 := by omega
      repeat (first | refine nl ?_ | refine AWP.seq ?_ | refine rg ?_ | refine YH (z := ?_) | refine ZA (z := ?_) | refine ZC (z := ?_) | refine ZF (z := ?_))
      refine bds (cs := exRow 0 t.num [] [] nilV) rfl rfl rfl rfl ?_
      refine so (rows' := [exRow 0 t.num [] [] nilV]) rfl rfl rfl (St.obj_under hne _ _) rfl rfl rfl rfl rfl ?_
      repeat (refine nl ?_)
      exact AWP.ret (rets (resCW rfl (St.obj_set _ _ _) rfl rfl rfl rfl) (ex_nil _ _ _ _) (StLe.res h6 hne) ⟨.lit t.num, a + 1, 0, rfl, ha2, rfl, .inl ⟨rfl, e0⟩⟩)
    have hk2' : ¬ (t.kind : Int) = 2 := by omega
    by_cases hk1 : t.kind = 1
    · have e0 : qo d (ts.drop a) = tg d t.text (ts.drop (a + 1)) := by
        rw [qo_eq, t3, if_pos hb, if_neg (by omega), if_neg hk2, if_pos hk1, t5]
        rfl
      have hk1' : (t.kind : Int) = 1 := by omega
      repeat (first | refine nl ?_ | refine AWP.seq ?_ | refine rg ?_ | refine AWP.skip ?_ | refine YH (z := ?_) | refine YI (z := ?_) | refine ZA (z := ?_) | refine ZC (z := ?_) | refine ZF (z := ?_))
      refine cl rfl rfl (rtarget_ok H hO hU t.text d (a + 1) o _ hd8 ha2 (by omega) (St.obj_set _ _ _) hg) fun v st' ⟨x, a', e, hv, ha', hst, hr⟩ => ?_
      subst hv
      subst hst
      rw [hS]
      obtain ⟨op, num, name, field, args, hx⟩ := xrow_ex x
      rw [hx]
      refine so (rows' := [exRow op num name field (.view 6 args .shared)]) rfl rfl rfl (St.obj_under hne _ _) rfl rfl rfl rfl rfl ?_
      repeat (refine nl ?_)
      exact AWP.ret (rets (resCW rfl (St.obj_set _ _ _) rfl rfl rfl rfl) (.refl _) (StLe.res h6 hne) ⟨x, a', e, by rw [hx]; rfl, ha', rfl, by rw [e0]; exact hr⟩)
    have hk1' : ¬ (t.kind : Int) = 1 := by omega
    have htx : t.text = [45] ∨ t.text = [33] ∨ t.text = [40] := by
      rcases beg_cases hb with h | h | ⟨_, h⟩
      · exact absurd h hk1
      · exact absurd h hk2
      · exact h
    have e0 : qo d (ts.drop a) = if t.text = [40] then inner d [41] id (ts.drop (a + 1)) else match qo (d + 1) (ts.drop (a + 1)) with
        | .error e => .error e
        | .ok (x, r) => .ok (.una (if t.text = [45] then 4 else 5) x, r) := by
      rw [qo_eq, t3, if_pos hb, if_neg (by omega), if_neg hk2, if_neg hk1, t5]
      rfl
    rcases htx with htx | htx | htx
    · rw [htx, if_neg (by decide), if_pos rfl] at e0
      repeat (first | refine nl ?_ | refine AWP.seq ?_ | refine rg ?_ | refine AWP.skip ?_ | refine AWP.block ?_ | refine YH (z := ?_) | refine YI (z := ?_) | refine ZA (z := ?_) | refine ZC (z := ?_) | refine ZF (z := ?_))
      refine cl rfl rfl (rnested_ok H hO hU d (a + 1) o _ true hd8 ha2 (by omega) (St.obj_set _ _ _) hg) fun v st' ⟨x, a', e, hv, ha', hst, hr⟩ => ?_
      subst hv
      subst hst
      rw [hS]
      simp only [if_true] at hr
      obtain ⟨op, num, name, field, args, hx⟩ := xrow_ex x
      rw [hx]
      repeat (refine ZQ (z := ?_))
      refine bds (cs := exRow 4 0 [] [] (.view 6 [exRow op num name field (.view 6 args .shared)] .shared)) rfl rfl rfl rfl ?_
      refine so (rows' := [exRow 4 0 [] [] (.view 6 [exRow op num name field (.view 6 args .shared)] .shared)]) rfl rfl rfl (St.obj_under hne _ _) rfl rfl rfl rfl rfl ?_
      repeat (refine nl ?_)
      refine AWP.ret (rets (resCW rfl (St.obj_set _ _ _) rfl rfl rfl rfl) (.refl _) (StLe.res h6 hne) ⟨.una 4 x, a', e, ?_, ha', rfl, ?_⟩)
      · rw [← hx]
        rfl
      · rw [e0]
        rcases hr with ⟨h1, h2⟩ | ⟨h1, h2⟩
        · exact .inl ⟨h1, by rw [h2]⟩
        · exact .inr ⟨h1, by rw [h2]⟩
    · rw [htx, if_neg (by decide), if_neg (by decide)] at e0
      have n1 : ¬ t.text = [45] := by rw [htx]; decide
      repeat (first | refine nl ?_ | refine AWP.seq ?_ | refine rg ?_ | refine AWP.skip ?_ | refine AWP.block ?_ | refine YH (z := ?_) | refine YI (z := ?_) | refine ZA (z := ?_) | refine ZC (z := ?_) | refine ZF (z := ?_))
      refine cl rfl rfl (rnested_ok H hO hU d (a + 1) o _ true hd8 ha2 (by omega) (St.obj_set _ _ _) hg) fun v st' ⟨x, a', e, hv, ha', hst, hr⟩ => ?_
      subst hv
      subst hst
      rw [hS]
      simp only [if_true] at hr
      obtain ⟨op, num, name, field, args, hx⟩ := xrow_ex x
      rw [hx]
      repeat (refine ZQ (z := ?_))
      refine bds (cs := exRow 5 0 [] [] (.view 6 [exRow op num name field (.view 6 args .shared)] .shared)) rfl rfl rfl rfl ?_
      refine so (rows' := [exRow 5 0 [] [] (.view 6 [exRow op num name field (.view 6 args .shared)] .shared)]) rfl rfl rfl (St.obj_under hne _ _) rfl rfl rfl rfl rfl ?_
      repeat (refine nl ?_)
      refine AWP.ret (rets (resCW rfl (St.obj_set _ _ _) rfl rfl rfl rfl) (.refl _) (StLe.res h6 hne) ⟨.una 5 x, a', e, ?_, ha', rfl, ?_⟩)
      · rw [← hx]
        rfl
      · rw [e0]
        rcases hr with ⟨h1, h2⟩ | ⟨h1, h2⟩
        · exact .inl ⟨h1, by rw [h2]⟩
        · exact .inr ⟨h1, by rw [h2]⟩
    · rw [htx, if_pos rfl] at e0
      have n1 : ¬ t.text = [45] := by rw [htx]; decide
      have n2 : ¬ t.text = [33] := by rw [htx]; decide
      repeat (first | refine nl ?_ | refine AWP.seq ?_ | refine rg ?_ | refine AWP.skip ?_ | refine AWP.block ?_ | refine YI (z := ?_) | refine ZA (z := ?_) | refine ZC (z := ?_) | refine ZF (z := ?_))
      refine cl rfl rfl (rnested_ok H hO hU d (a + 1) o _ false hd8 ha2 (by omega) (St.obj_set _ _ _) hg) fun v st' ⟨x, a', e, hv, ha', hst, hr⟩ => ?_
      subst hv
      subst hst
      rw [hS]
      simp only [Bool.false_eq_true, if_false] at hr
      obtain ⟨op, num, name, field, args, hx⟩ := xrow_ex x
      rw [hx]
      repeat (first | refine nl ?_ | refine AWP.seq ?_ | refine rg ?_ | refine ZA (z := ?_) | refine YA (z := ?_))
      obtain ⟨a2, e2, hc, ha2', hr2⟩ := rinner H (c := [41]) id ha' hr o (st.set o6 (.cells 27 6 [exRow 0 0 [] [] nilV]))
      refine cl rfl rfl hc fun v st' hst => ?_
      subst hst
      repeat (first | refine nl ?_ | refine AWP.seq ?_ | refine rg ?_ | refine ZD (z := ?_))
      refine so (rows' := [exRow op num name field (.view 6 args .shared)]) rfl rfl rfl (St.obj_under hne _ _) rfl rfl rfl rfl rfl ?_
      repeat (refine nl ?_)
      refine AWP.ret (rets (resCW rfl (St.obj_set _ _ _) rfl rfl rfl rfl) (.refl _) (StLe.res h6 hne) ⟨x, a2, e2, ?_, ha2', rfl, ?_⟩)
      · rw [hx]
        rfl
      · rw [e0]
        exact hr2
  · have e0 : qo d (ts.drop a) = .error 7 := by
      rw [qo_eq, t3, if_neg hb]
    rw [Bool.not_eq_true] at hb
    rw [hb]
    repeat (first | refine nl ?_ | refine AWP.seq ?_ | refine rg ?_ | refine YH (z := ?_) | refine ZA (z := ?_) | refine ZC (z := ?_))
    refine so (rows' := [[.view 4 (ts.map tokRow) .shared, .int .i64 (a : Int), .int .i64 7]]) rfl rfl rfl (ho1 _) rfl rfl rfl rfl rfl ?_
    repeat (first | refine nl ?_ | refine AWP.seq ?_ | refine rg ?_)
    refine bds (cs := exRow 0 0 [] [] nilV) rfl rfl rfl rfl ?_
    refine so (rows' := [exRow 0 0 [] [] nilV]) rfl rfl rfl (St.obj_under hne _ _) rfl rfl rfl rfl rfl ?_
    repeat (refine nl ?_)
    exact AWP.ret (rets (resCW rfl (St.obj_set _ _ _) rfl rfl rfl rfl) (ex_nil _ _ _ _) (StLe.res h6 hne) ⟨.lit 0, a, 7, rfl, ha, rfl, .inr ⟨by decide, e0⟩⟩)
end Go.Proofs
/- The reader of expressions: operations. No conditions: definitions and lemmas only. -/
namespace Go.Proofs
open Go.AM
attribute [local irreducible] AWP AOps ACalls AAny

theorem roperator2 {X : List (List AV)} {a e o : Nat} {t : Tk} {st : St} (ho : st.obj o = some (rdC X a e)) (ha : a < X.length) (hX : X[a]? = some (tokRow t)) (hl : X.length ≤ 100000) (lv : Nat) (h1 : 1 ≤ lv) (h4 : lv ≤ 4) (hg : st.row 1 = some opRow) :
    ACalls Tryd.prog 34 [.cptr o 3 0 0, .int .i64 (lv : Int)] st (fun v st' => v = (if (bin t).1 = lv then .tuple [.int .i64 ((bin t).2 : Int), .bool true] else .tuple [.int .i64 0, .bool false]) ∧ st' = st) (fun _ _ => False) := by
  refine (roperator_ok ho ha hX hl lv hg).mono (fun v st' ⟨hv, hst⟩ => ⟨?_, hst⟩) (fun _ _ h => h)
  have h := opL_bin t lv h1 h4
  cases hf : opL.find? fun o => decide (o.2.2 = lv ∧ sg t o.1 = true) with
  | none =>
    rw [hf] at h hv
    by_cases hb : (bin t).1 = lv
    · rw [if_pos hb] at h; cases h
    · rw [if_neg hb]; exact hv
  | some x =>
    rw [hf] at h hv
    by_cases hb : (bin t).1 = lv
    · rw [if_pos hb] at h ⊢
      have h : x.2.1 = (bin t).2 := Option.some.inj h
      rw [← h]
      exact hv
    · rw [if_neg hb] at h; cases h

theorem drop_lt {ts : List Tk} {a b : Nat} (ha : a < ts.length) (h : (ts.drop b).length < (ts.drop a).length) : a < b := by
  rw [List.length_drop, List.length_drop] at h
  omega
theorem qe_lt_len {lv d : Nat} {ts : List Tk} {x : Xp} {r : List Tk} (h1 : 1 ≤ lv) (h5 : lv ≤ 5) (h : qe lv d ts = .ok (x, r)) : r.length < ts.length := by
  have h2 := (pe_all (7 * ts.length + 7)).1 lv d ts h1 h5 (by omega)
  rw [show pe (7 * ts.length + 7) lv d ts = qe lv d ts from rfl, h] at h2
  exact h2

theorem StLe.res2 {st : St} {o o' o2 : Nat} {z r v w : AObj} (h : st.obj o' = none) (hne : o ≠ o') (h2 : st.obj o2 = none) (e1 : o2 ≠ o') (e2 : o2 ≠ o) : StLe ((((st.set o' z).set o r).set o2 w).set o' v) (st.set o r) := by
  rw [St.set_comm _ e1]
  exact StLe.new (by
    rw [St.obj_set_ne e1, St.obj_set_ne e2, St.obj_set_ne e1]
    exact h2) (StLe.res h hne)

set_option maxHeartbeats 2000000 in
theorem roperation_step {ts : List Tk} (H : RdH ts) {N : Nat} (_ : OpnOk ts N) (hU : OpdOk ts (N + 1)) : OpnOk ts (N + 1) := by
  have key : ∀ j lv : Nat, lv + j = 5 → ∀ (d a o : Nat) (st : St), 1 ≤ lv → d ≤ 8 → a < ts.length → ts.length - a ≤ N + 1 → st.obj o = some (rdC (ts.map tokRow) a 0) → st.row 1 = some opRow →
      ACalls Tryd.prog 20 [.cptr o 3 0 0, .int .i64 (lv : Int), .int .i64 (d : Int)] st (RdR ts o st (qe lv d (ts.drop a))) (fun _ _ => False) := by
    intro j
    induction j with
    | zero =>
      intro lv hlv d a o st h1 hd8 ha hN ho hg
      have hlv : lv = 5 := by omega
      subst hlv
      refine ACalls.ofBody Tryd.func20 rfl Tryd.ntmps20 rfl ?_
      repeat (refine AWP.seq ?_)
      refine rg ?_
      refine al rfl rfl fun o6 h6 => ?_
      have hne : o ≠ o6 := St.ne_of_new h6 ho
      have ho1 : ∀ c, (st.set o6 c).obj o = some (rdC (ts.map tokRow) a 0) := fun c => St.obj_new h6 ho
      repeat (first | refine nl ?_ | refine AWP.seq ?_ | refine rg ?_ | refine YH (z := ?_) | refine ZA (z := ?_))
      refine cl rfl rfl (hU d a o _ hd8 ha hN (ho1 _) hg) fun v st' ⟨x, a', e, hv, ha', hst, hr⟩ => ?_
      subst hv
      subst hst
      obtain ⟨op, num, name, field, args, hx⟩ := xrow_ex x
      rw [hx]
      refine so (rows' := [exRow op num name field (.view 6 args .shared)]) rfl rfl rfl (St.obj_under hne _ _) rfl rfl rfl rfl rfl ?_
      repeat (refine nl ?_)
      exact AWP.ret (rets (resCW rfl (St.obj_set _ _ _) rfl rfl rfl rfl) (.refl _) (StLe.res h6 hne) ⟨x, a', e, by rw [hx]; rfl, ha', rfl, by rw [qe_5]; exact hr⟩)
    | succ j ih =>
      intro lv hlv d a o st h1 hd8 ha hN ho hg
      have ih := ih (lv + 1) (by omega)
      have h4 : lv ≤ 4 := by omega
      have hl : (ts.map tokRow).length ≤ 100000 := by rw [List.length_map]; exact H.len
      refine ACalls.ofBody Tryd.func20 rfl Tryd.ntmps20 rfl ?_
      repeat (refine AWP.seq ?_)
      refine rg ?_
      refine al rfl rfl fun o6 h6 => ?_
      have hne : o ≠ o6 := St.ne_of_new h6 ho
      have ho1 : ∀ c, (st.set o6 c).obj o = some (rdC (ts.map tokRow) a 0) := fun c => St.obj_new h6 ho
      repeat (first | refine nl ?_ | refine AWP.seq ?_ | refine rg ?_ | refine AWP.skip ?_ | refine YI (z := ?_) | refine ZA (z := ?_) | refine ZO (z := ?_))
      refine cl rfl rfl (ih d a o _ (by omega) hd8 ha hN (ho1 _) hg) fun v st' ⟨x, a', e, hv, ha', hst, hr⟩ => ?_
      subst hv
      subst hst
      refine al rfl rfl fun o7 h7 => ?_
      have n7 : o7 ≠ o := fun e => by subst e; rw [St.obj_set] at h7; cases h7
      rw [St.obj_set_ne n7] at h7
      have n76 : o7 ≠ o6 := fun e => by subst e; rw [St.obj_set] at h7; cases h7
      rw [St.obj_set_ne n76] at h7
      obtain ⟨op, num, name, field, args, hx⟩ := xrow_ex x
      rw [hx]
      refine soV rfl rfl rfl rfl rfl rfl ?_
      repeat (first | refine nl ?_ | refine AWP.seq ?_ | refine AWP.block ?_)
      refine AWP.loop (α := Xp × Nat × Nat) (fun _ => [(7, .cptr o7 6 0 0), (6, .cptr o6 6 0 0), (2, .int .i64 (d : Int)), (1, .int .i64 (lv : Int)), (0, .cptr o 3 0 0)])
        (fun y => ((st.set o6 (.cells 27 6 [exRow 0 0 [] [] nilV])).set o (rdC (ts.map tokRow) y.2.1 y.2.2)).set o7 (.cells 27 6 [xrow y.1]))
        (fun y => y.2.1 < ts.length ∧ ((y.2.2 = 0 ∧ a ≤ y.2.1 ∧ qe lv d (ts.drop a) = ql lv d y.1 (ts.drop y.2.1)) ∨ (y.2.2 ≠ 0 ∧ qe lv d (ts.drop a) = .error y.2.2)))
        (fun y => if y.2.2 = 0 then ts.length - y.2.1 + 1 else 0) (x, a', e) ⟨ha', ?_⟩ (tl5 rfl rfl rfl rfl rfl) (by rw [hx]; exact .refl _) ?_
      · rcases hr with ⟨k1, k2⟩ | ⟨k1, k2⟩
        · exact .inl ⟨k1, Nat.le_of_lt (drop_lt ha (qe_lt_len (by omega) (by omega) k2)), by rw [qe_lt h1 h4, k2]⟩
        · exact .inr ⟨k1, by rw [qe_lt h1 h4, k2]⟩
      clear hr hx op num name field args ha'
      rintro ⟨x, a', e⟩ ⟨ha', hr⟩
      simp only at ha' hr
      obtain ⟨op, num, name, field, args, hx⟩ := xrow_ex x
      rw [hx]
      refine AWP.weaken (T' := [(7, .cptr o7 6 0 0), (6, .cptr o6 6 0 0), (2, .int .i64 (d : Int)), (1, .int .i64 (lv : Int)), (0, .cptr o 3 0 0)]) (tl5 rfl rfl rfl rfl rfl) (.refl _) ?_
      have hC : ∀ c, (((st.set o6 (.cells 27 6 [exRow 0 0 [] [] nilV])).set o (rdC (ts.map tokRow) a' e)).set o7 c).obj o = some (.cells 48 3 [[.view 4 (ts.map tokRow) .shared, .int .i64 (a' : Int), .int .i64 (e : Int)]]) := fun c => St.obj_under n7 _ _
      have hC0 := hC (.cells 27 6 [exRow op num name field (.view 6 args .shared)])
      obtain ⟨t, t1, t2, t3, t4, t5⟩ := map_at ha'
      by_cases he : e = 0
      · subst he
        have hr : a ≤ a' ∧ qe lv d (ts.drop a) = ql lv d x (ts.drop a') := by
          rcases hr with h | h
          · exact h.2
          · exact absurd rfl h.1
        obtain ⟨haa, hr⟩ := hr
        rw [ql_eq h1 h4, t3, t5] at hr
        repeat (first | refine nl ?_ | refine AWP.seq ?_ | refine rg ?_ | refine AWP.skip ?_ | refine AWP.block ?_ | refine YH (z := ?_) | refine ZA (z := ?_) | refine ZC (z := ?_) | refine ZH (z := ?_))
        refine cle rfl rfl (roperator2 (hC _) t4 t2 hl lv h1 h4 hg) ?_
        by_cases hb : (bin t).1 = lv
        · rw [if_pos hb] at hr ⊢
          have hk : t.kind ≠ 0 := by
            intro h0
            have : (bin t).1 = 0 := by
              unfold bin binL sg
              simp [h0]
            omega
          have ha2 := H.last _ _ t1 hk
          generalize (bin t).2 = bop at hr
          repeat (first | refine nl ?_ | refine AWP.seq ?_ | refine rg ?_ | refine AWP.skip ?_ | refine YI (z := ?_) | refine ZA (z := ?_) | refine ZC (z := ?_) | refine ZH (z := ?_) | refine ZO (z := ?_))
          refine so (rows' := [[.view 4 (ts.map tokRow) .shared, .int .i64 ((a' + 1 : Nat) : Int), .int .i64 0]]) rfl rfl rfl (hC _) rfl rfl rfl rfl rfl ?_
          rw [St.set_inner n7]
          repeat (first | refine nl ?_ | refine AWP.seq ?_ | refine rg ?_ | refine ZA (z := ?_) | refine ZO (z := ?_))
          refine cl rfl rfl (ih d (a' + 1) o _ (by omega) hd8 ha2 (by omega) (St.obj_under n7 _ _) hg) fun v st' ⟨y, a2, e2, hv, ha2', hst, hr2⟩ => ?_
          subst hv
          subst hst
          rw [St.set_inner n7]
          obtain ⟨op2, num2, name2, field2, args2, hy⟩ := xrow_ex y
          rw [hy]
          repeat (first | refine nl ?_ | refine AWP.seq ?_ | refine rg ?_ | refine ZA (z := ?_) | refine ZD (z := ?_) | refine ZE (z := ?_) | refine YA (z := ?_))
          refine bsh (cs := exRow op num name field (.view 6 args .shared) ++ exRow op2 num2 name2 field2 (.view 6 args2 .shared)) rfl rfl rfl rfl rfl ?_
          refine bds (cs := exRow bop 0 [] [] (.view 6 [exRow op num name field (.view 6 args .shared), exRow op2 num2 name2 field2 (.view 6 args2 .shared)] .shared)) rfl rfl rfl rfl ?_
          refine soV rfl rfl rfl rfl rfl rfl ?_
          repeat (first | refine nl ?_ | refine AWP.seq ?_ | refine rg ?_ | refine ZA (z := ?_))
          by_cases hl1 : lv = 1
          · have hl1' : (lv : Int) = 1 := by omega
            repeat (refine YH (z := ?_))
            refine AWP.exit (blk_miss rfl (blk_hit ?_))
            repeat (first | refine AWP.seq ?_ | refine rg ?_ | refine ZE (z := ?_))
            refine so (rows' := [exRow bop 0 [] [] (.view 6 [exRow op num name field (.view 6 args .shared), exRow op2 num2 name2 field2 (.view 6 args2 .shared)] .shared)]) rfl rfl rfl (by rw [St.obj_set_ne (Ne.symm n76), St.obj_set_ne (Ne.symm hne)]; exact St.obj_set _ _ _) rfl rfl rfl rfl rfl ?_
            repeat (refine nl ?_)
            refine AWP.ret (rets (resCW rfl (St.obj_set _ _ _) rfl rfl rfl rfl) (.refl _) (StLe.res2 h6 hne h7 n76 n7) ⟨.bin bop x y, a2, e2, ?_, ha2', rfl, ?_⟩)
            · rw [xrow, hx, hy]
              rfl
            · rw [hr]
              rcases hr2 with ⟨k1, k2⟩ | ⟨k1, k2⟩
              · exact .inl ⟨k1, by rw [k2]; simp only; rw [if_pos hl1]⟩
              · exact .inr ⟨k1, by rw [k2]⟩
          · have hl1' : ¬ (lv : Int) = 1 := by omega
            repeat (first | refine AWP.skip ?_ | refine YI (z := ?_))
            refine ⟨(.bin bop x y, a2, e2), ⟨ha2', ?_⟩, ?_, (tl5 rfl rfl rfl rfl rfl), ?_⟩
            · rcases hr2 with ⟨k1, k2⟩ | ⟨k1, k2⟩
              · have := drop_lt ha2 (qe_lt_len (by omega) (by omega) k2)
                exact .inl ⟨k1, by simp only; omega, by rw [hr, k2]; simp only; rw [if_neg hl1]⟩
              · exact .inr ⟨k1, by rw [hr, k2]⟩
            · simp only [if_true]
              rcases hr2 with ⟨k1, k2⟩ | ⟨k1, k2⟩
              · have := drop_lt ha2 (qe_lt_len (by omega) (by omega) k2)
                rw [if_pos k1]
                omega
              · rw [if_neg k1]
                omega
            · rw [xrow, hx, hy]
              exact .refl _
        · rw [if_neg hb] at hr ⊢
          repeat (first | refine nl ?_ | refine AWP.seq ?_ | refine rg ?_ | refine YH (z := ?_) | refine ZA (z := ?_))
          refine AWP.exit (blk_miss rfl (blk_hit ?_))
          repeat (first | refine AWP.seq ?_ | refine rg ?_ | refine ZE (z := ?_))
          refine so (rows' := [exRow op num name field (.view 6 args .shared)]) rfl rfl rfl (by rw [St.obj_set_ne (Ne.symm n76), St.obj_set_ne (Ne.symm hne)]; exact St.obj_set _ _ _) rfl rfl rfl rfl rfl ?_
          repeat (refine nl ?_)
          refine AWP.ret (rets (resCW rfl (St.obj_set _ _ _) rfl rfl rfl rfl) (.refl _) (StLe.res2 h6 hne h7 n76 n7) ⟨x, a', 0, ?_, ha', rfl, ?_⟩)
          · rw [hx]
            rfl
          · exact .inl ⟨rfl, hr⟩
      · have hr : qe lv d (ts.drop a) = .error e := by
          rcases hr with h | h
          · exact absurd h.1 he
          · exact h.2
        have he' : ¬ (e : Int) = 0 := by omega
        repeat (first | refine nl ?_ | refine AWP.seq ?_ | refine rg ?_ | refine YI (z := ?_) | refine ZA (z := ?_) | refine ZC (z := ?_) | refine ZH (z := ?_))
        refine AWP.exit (blk_hit ?_)
        repeat (first | refine AWP.seq ?_ | refine rg ?_ | refine ZE (z := ?_))
        refine so (rows' := [exRow op num name field (.view 6 args .shared)]) rfl rfl rfl (by rw [St.obj_set_ne (Ne.symm n76), St.obj_set_ne (Ne.symm hne)]; exact St.obj_set _ _ _) rfl rfl rfl rfl rfl ?_
        repeat (refine nl ?_)
        refine AWP.ret (rets (resCW rfl (St.obj_set _ _ _) rfl rfl rfl rfl) (.refl _) (StLe.res2 h6 hne h7 n76 n7) ⟨x, a', e, ?_, ha', rfl, ?_⟩)
        · rw [hx]
          rfl
        · exact .inr ⟨he, hr⟩
  intro lv d a o st h1 h5
  exact key (5 - lv) lv (by omega) d a o st h1

theorem rd_all {ts : List Tk} (H : RdH ts) : ∀ N, OpnOk ts N ∧ OpdOk ts N
  | 0 => ⟨fun _ _ _ _ _ _ _ _ h1 h2 => absurd h2 (by omega), fun _ _ _ _ _ h1 h2 => absurd h2 (by omega)⟩
  | N + 1 => by
    obtain ⟨hO, hU⟩ := rd_all H N
    have h := roperand_step H hO hU
    exact ⟨roperation_step H hO h, h⟩
end Go.Proofs
/- expression.Parse answers eparse. No conditions: definitions and lemmas only. -/
namespace Go.Proofs
open Go.AM
attribute [local irreducible] AWP AOps ACalls AAny

/-- What both parsers hand back. -/
def epV : Except Nat Xp → AV
  | .ok x => .tuple [.agg (xrow x), .int .i64 0]
  | .error e => .tuple [.agg (xrow (.lit 0)), .int .i64 (e : Int)]

theorem scan_RdH {s : List UInt8} (he : (scan s).2.2 = 0) : RdH (scan s).1 ∧ 0 < (scan s).1.length := by
  have hl := scan_small s
  obtain ⟨ts, l, e, _, _, _, hk⟩ := scan_tok s he
  rw [e] at hl ⊢
  simp only at hl ⊢
  refine ⟨⟨by omega, fun i t ht hk0 => ?_⟩, by simp⟩
  rw [List.length_append, List.length_singleton]
  rcases Nat.lt_or_ge i ts.length with h | h
  · omega
  · exfalso
    rw [List.getElem?_append_right h] at ht
    have := (List.getElem?_eq_some_iff.1 ht).1
    simp only [List.length_singleton] at this
    rw [show i - ts.length = 0 by omega] at ht
    simp at ht
    rw [← ht] at hk0
    exact hk0 rfl

theorem St.new_none {st : St} {o o' : Nat} {z : AObj} (hne : o' ≠ o) (h2 : (st.set o' z).obj o = none) : st.obj o = none := by
  rw [St.obj_set_ne (Ne.symm hne)] at h2
  exact h2
theorem StLe.set2' {st : St} {o o' : Nat} {z r : AObj} (h : st.obj o' = none) (h2 : (st.set o' z).obj o = none) (_ : o' ≠ o) : StLe ((st.set o' z).set o r) st :=
  StLe.new h2 (StLe.new h (.refl _))
theorem StLe.set3 {st : St} {o o' : Nat} {z r w : AObj} (h : st.obj o' = none) (h2 : (st.set o' z).obj o = none) (hne : o' ≠ o) : StLe (((st.set o' z).set o r).set o' w) st := by
  rw [St.set_inner (Ne.symm hne)]
  exact StLe.new (by rw [St.obj_set_ne (Ne.symm hne)]; exact St.new_none hne h2) (StLe.new h (.refl _))

set_option maxHeartbeats 2000000 in
theorem eparse_ok1 (s : List UInt8) (st : St) (hg1 : st.row 2 = some signRow) (hg0 : st.row 0 = some wordRow) (hg : st.row 1 = some opRow) :
    ACalls Tryd.prog 11 [.str s] st (fun v st' => v = epV (eparse s) ∧ st' = st) (fun _ _ => False) := by
  refine ACalls.ofBody Tryd.func11 rfl Tryd.ntmps11 rfl ?_
  repeat (refine AWP.seq ?_)
  refine rg ?_
  refine al rfl rfl fun o2 h2 => ?_
  repeat (first | refine nl ?_ | refine AWP.seq ?_ | refine rg ?_ | refine ZA (z := ?_))
  refine cle rfl rfl (scan_ok s _ hg1 hg0) ?_
  unfold scanV
  repeat (first | refine nl ?_ | refine AWP.seq ?_ | refine rg ?_ | refine ZA (z := ?_))
  by_cases he : (scan s).2.2 = 0
  · have hep : eparse s = match qe 1 0 (scan s).1 with
        | .error e => .error e
        | .ok (x, r) => if (hd r).kind = 0 then .ok x else .error 7 := by rw [eparse, if_pos he] <;> rfl
    obtain ⟨H, h0⟩ := scan_RdH he
    rw [he]
    generalize (scan s).1 = ts at H h0 hep
    clear he
    have hl : (ts.map tokRow).length ≤ 100000 := by rw [List.length_map]; exact H.len
    repeat (first | refine AWP.seq ?_ | refine rg ?_ | refine AWP.skip ?_ | refine YI (z := ?_) | refine ZA (z := ?_))
    refine bds (cs := [.view 4 (ts.map tokRow) .shared, .int .i64 0, .int .i64 0]) rfl rfl rfl rfl ?_
    refine al rfl rfl fun o7 h7 => ?_
    have hne : o2 ≠ o7 := fun e => by subst e; rw [St.obj_set] at h7; cases h7
    refine soV rfl rfl rfl rfl rfl rfl ?_
    repeat (first | refine nl ?_ | refine AWP.seq ?_ | refine rg ?_)
    refine cl rfl rfl ((rd_all H ts.length).1 1 0 0 o7 _ (by decide) (by decide) (by decide) h0 (by omega) (St.obj_set _ _ _) hg) fun v st' ⟨x, a', e, hv, ha', hst, hr⟩ => ?_
    subst hv
    subst hst
    rw [St.set_set]
    rw [List.drop_zero] at hr
    obtain ⟨op, num, name, field, args, hx⟩ := xrow_ex x
    rw [hx]
    obtain ⟨t, t1, t2, t3, t4, t5⟩ := map_at ha'
    refine alN rfl rfl (fun _ => rfl) rfl rfl ?_
    refine nl ?_
    refine AWP.seq ?_
    refine AWP.cutK (α := Nat) (fun _ => [(8, .eptr 6 [exRow op num name field (.view 6 args .shared)] 0 0), (7, .cptr o7 3 0 0), (2, .cptr o2 6 0 0)]) (fun e2 => (st.set o2 (.cells 27 6 [exRow 0 0 [] [] nilV])).set o7 (.cells 48 3 [[.view 4 (ts.map tokRow) .shared, .int .i64 (a' : Int), .int .i64 (e2 : Int)]]))
      (fun e2 => (e2 = 0 ∧ eparse s = .ok x) ∨ (e2 ≠ 0 ∧ eparse s = .error e2)) ?_ ?_
    · have hC : ∀ e : Nat, ((st.set o2 (.cells 27 6 [exRow 0 0 [] [] nilV])).set o7 (rdC (ts.map tokRow) a' e)).obj o7 = some (rdC (ts.map tokRow) a' e) := fun e => St.obj_set _ _ _
      rcases hr with ⟨rfl, hr⟩ | ⟨he, hr⟩
      · rw [hr] at hep
        simp only [t3] at hep
        unfold rdC
        repeat (first | refine AWP.seq ?_ | refine rg ?_ | refine ZA (z := ?_) | refine ZC (z := ?_) | refine ZH (z := ?_))
        refine cle rfl rfl (rtoken_ok (hC 0) t4 t2 hl) ?_
        by_cases hk : t.kind = 0
        · rw [if_pos hk] at hep
          have hk' : (t.kind : Int) = 0 := by omega
          skip
          refine fd rfl rfl rfl ?_
          repeat (first | refine nl ?_ | refine AWP.skip ?_ | refine YI (z := ?_) | refine ZA (z := ?_))
          exact ⟨0, .inl ⟨rfl, hep⟩, (tl3 rfl rfl rfl), .refl _⟩
        · rw [if_neg hk] at hep
          have hk' : (t.kind : Int) ≠ 0 := by omega
          skip
          refine fd rfl rfl rfl ?_
          repeat (first | refine nl ?_ | refine rg ?_ | refine YH (z := ?_) | refine ZA (z := ?_) | refine ZC (z := ?_))
          refine so (rows' := [[.view 4 (ts.map tokRow) .shared, .int .i64 (a' : Int), .int .i64 7]]) rfl rfl rfl (St.obj_set _ _ _) rfl rfl rfl rfl rfl ?_
          rw [St.set_set]
          repeat (refine nl ?_)
          exact ⟨7, .inr ⟨by decide, hep⟩, (tl3 rfl rfl rfl), .refl _⟩
      · rw [hr] at hep
        simp only at hep
        have he' : ¬ (e : Int) = 0 := by omega
        unfold rdC
        repeat (first | refine nl ?_ | refine AWP.seq ?_ | refine rg ?_ | refine AWP.skip ?_ | refine YI (z := ?_) | refine ZA (z := ?_) | refine ZB (z := ?_) | refine ZC (z := ?_) | refine ZH (z := ?_) | refine YE (z := ?_))
        exact ⟨e, .inr ⟨he, hep⟩, (tl3 rfl rfl rfl), .refl _⟩
    · rintro e2 he2
      rcases he2 with ⟨rfl, he2⟩ | ⟨hne2, he2⟩
      · repeat (first | refine nl ?_ | refine AWP.seq ?_ | refine rg ?_ | refine AWP.skip ?_ | refine YI (z := ?_) | refine ZA (z := ?_) | refine ZC (z := ?_) | refine ZD (z := ?_) | refine ZH (z := ?_))
        refine so (rows' := [exRow op num name field (.view 6 args .shared)]) rfl rfl rfl (St.obj_under (Ne.symm hne) _ _) rfl rfl rfl rfl rfl ?_
        repeat (first | refine nl ?_ | refine ZA (z := ?_))
        refine AWP.ret ?_
        refine rets (vs := [.agg (exRow op num name field (.view 6 args .shared)), .int .i64 0]) (resCW rfl (St.obj_set _ _ _) rfl rfl rfl rfl) (.refl _) (StLe.set3 h2 h7 hne) ⟨?_, rfl⟩
        rw [he2, epV, hx]
        rfl
      · have he' : (e2 : Int) ≠ 0 := by omega
        repeat (first | refine nl ?_ | refine AWP.seq ?_ | refine rg ?_ | refine YH (z := ?_) | refine ZA (z := ?_) | refine ZC (z := ?_) | refine ZH (z := ?_))
        refine AWP.drawX rfl 4 [3] [(st.set o2 (.cells 27 6 [exRow 0 0 [] [] nilV])).set o7 (.cells 48 3 [[.view 4 (ts.map tokRow) .shared, .int .i64 (a' : Int), .int .i64 (e2 : Int)]]), (st.set o2 (.cells 27 6 [exRow 0 0 [] [] nilV])).set o7 (.cells 48 3 [[.view 4 (ts.map tokRow) .shared, .int .i64 (a' : Int), .int .i64 (e2 : Int)]])]
          ((st.set o2 (.cells 27 6 [exRow 0 0 [] [] nilV])).set o7 (.cells 48 3 [[.view 4 (ts.map tokRow) .shared, .int .i64 (a' : Int), .int .i64 (e2 : Int)]])) rfl rfl (.refl _) ?_
        refine dqS (v := .agg (exRow 0 0 [] [] nilV)) rfl rfl rfl (fun st1 hle => bds (cs := exRow 0 0 [] [] nilV) rfl rfl rfl rfl (nl ⟨_, rfl, rfl, rfl⟩)) ?_
        repeat (first | refine dpS (h := fun _ _ => ZC (z := nz)) (z := ?_) | refine dpS (h := fun _ _ => ZH (z := nz)) (z := ?_))
        refine deS rfl rfl rfl (.refl _) rfl rfl (so (rows' := [exRow 0 0 [] [] nilV]) rfl rfl rfl (St.obj_under (Ne.symm hne) _ _) rfl rfl rfl rfl rfl (nl ⟨rfl, ?_⟩)) ?_
        · exact St.set_inner (Ne.symm hne) _ _ _
        refine dnS rfl ?_
        repeat (first | refine nl ?_ | refine ZA (z := ?_))
        refine AWP.ret ?_
        refine rets (vs := [.agg (exRow 0 0 [] [] nilV), .int .i64 (e2 : Int)]) (resCW rfl (St.obj_under (Ne.symm hne) _ _) rfl rfl rfl rfl) (Le.pair (ex_nil 0 0 [] []) (.refl _)) (StLe.set2' h2 h7 hne) ⟨?_, rfl⟩
        rw [he2]
        rfl
  · have hep : eparse s = .error (scan s).2.2 := by rw [eparse, if_neg he]
    generalize (scan s).2.2 = e at he hep
    have he' : ¬ (e : Int) = 0 := by omega
    repeat (first | refine AWP.seq ?_ | refine rg ?_ | refine YH (z := ?_))
    refine bds (cs := exRow 0 0 [] [] nilV) rfl rfl rfl rfl ?_
    repeat (refine ZA (z := ?_))
    refine soV rfl rfl rfl rfl rfl rfl ?_
    repeat (first | refine nl ?_ | refine ZA (z := ?_))
    refine AWP.ret ?_
    refine rets (vs := [.agg (exRow 0 0 [] [] nilV), .int .i64 (e : Int)]) (resCW rfl (St.obj_set _ _ _) rfl rfl rfl rfl) (Le.pair (ex_nil 0 0 [] []) (.refl _)) (StLe.new h2 (.refl _)) ⟨?_, rfl⟩
    rw [hep]
    rfl
end Go.Proofs
/- The walk of Mod. No conditions: lemmas only. -/
namespace Go.Proofs
open Go.AM

theorem tmod_gt (n k : Int) (hk : 0 < k) : -k < n.tmod k := by
  have := Int.tmod_lt_of_pos (-n) hk
  rw [Int.neg_tmod] at this
  omega

theorem mod_rem (n k : Int) (hk : 0 < k) : n % k = if n.tmod k < 0 then n.tmod k + k else n.tmod k := by
  have h1 : n % k = n.tmod k % k := by
    conv => lhs; rw [← Int.tmod_add_mul_tdiv n k]
    rw [Int.add_mul_emod_self_left]
  have h2 := Int.tmod_lt_of_pos n hk
  have h3 := tmod_gt n k hk
  rw [h1]
  split
  · rw [← Int.add_emod_right, Int.emod_eq_of_lt (by omega) (by omega)]
  · exact Int.emod_eq_of_lt (by omega) (by omega)

theorem mod_ok (n k : Int) (hk : 0 < k) (hk2 : k ≤ 4611686018427387904) (st : St) : ACalls Tryd.prog 10 [.int .i64 n, .int .i64 k] st (fun v st' => v = .int .i64 (n % k) ∧ st' = st) (fun _ _ => False) := by
  refine ACalls.ofBody Tryd.func10 rfl Tryd.ntmps10 rfl ?_
  have hm := mod_rem n k hk
  repeat (first | refine nl ?_ | refine AWP.seq ?_ | refine rg ?_ | refine sm rfl ?_)
  refine rm rfl rfl rfl (by omega) ?_
  repeat (first | refine nl ?_ | refine AWP.seq ?_ | refine rg ?_ | refine sm rfl ?_)
  refine AWP.cond_dec rfl (fun h => ?_) (fun h => AWP.skip ?_)
  · rw [if_pos h] at hm
    have h3 := tmod_gt n k hk
    have h4 := Int.tmod_lt_of_pos n hk
    repeat (first | refine rg ?_ | refine sm rfl ?_)
    refine ad rfl rfl rfl (by omega) ?_
    repeat (first | refine nl ?_ | refine AWP.seq ?_ | refine rg ?_ | refine sm rfl ?_)
    refine AWP.ret (rets rfl (.refl _) (.refl _) ⟨?_, rfl⟩)
    rw [hm]
    rfl
  · rw [if_neg h] at hm
    repeat (first | refine nl ?_ | refine AWP.seq ?_ | refine rg ?_ | refine sm rfl ?_)
    refine AWP.ret (rets rfl (.refl _) (.refl _) ⟨?_, rfl⟩)
    rw [hm]
    rfl
end Go.Proofs
/- Tree walked. No conditions: definitions and lemmas only. -/
namespace Go.Proofs
open Go.AM
attribute [local irreducible] AWP AOps ACalls AAny

def atC (a : Nat) : AObj := .cells 3 1 [[.int .i64 (a : Int)]]
def nmV : List AV := [.str [97], .str [98], .str [99], .str [100], .str [118, 49], .str [118, 50], .str [118, 51], .str [118, 52], .str [118, 53], .str [118, 54], .str [122, 122]]
theorem nmV_get : ∀ k : Nat, k < 11 → ∀ s, nmL[k]? = some s → (chunk (0 + 1) 11 nmV)[k]? = some [.str s]
  | 0, _, _, h => by cases h; rfl
  | 1, _, _, h => by cases h; rfl
  | 2, _, _, h => by cases h; rfl
  | 3, _, _, h => by cases h; rfl
  | 4, _, _, h => by cases h; rfl
  | 5, _, _, h => by cases h; rfl
  | 6, _, _, h => by cases h; rfl
  | 7, _, _, h => by cases h; rfl
  | 8, _, _, h => by cases h; rfl
  | 9, _, _, h => by cases h; rfl
  | 10, _, _, h => by cases h; rfl
  | n + 11, h, _, _ => absurd h (by omega)
theorem fdV_get : ∀ k : Nat, k < 3 → ∀ s, fdL[k]? = some s → (chunk (0 + 1) 3 [AV.str [120], AV.str [121], AV.str [122]])[k]? = some [.str s]
  | 0, _, _, h => by cases h; rfl
  | 1, _, _, h => by cases h; rfl
  | 2, _, _, h => by cases h; rfl
  | n + 3, h, _, _ => absurd h (by omega)
theorem tdivN (n k : Nat) : ((n : Int)).tdiv (k : Int) = ((n / k : Nat) : Int) := by rw [Int.tdiv_eq_ediv_of_nonneg (by omega)]; rfl
theorem tmodN (n k : Nat) : ((n : Int)).tmod (k : Int) = ((n % k : Nat) : Int) := by rw [Int.tmod_eq_emod_of_nonneg (by omega)]; rfl

theorem StLe.setdrop {st : St} {o : Nat} {c c' : AObj} : StLe (st.set o c') ((st.set o c).drop o) where
  obj := fun p x hp => by
    by_cases h : p = o
    · subst h
      simp [St.drop] at hp
    · rw [St.obj_drop_ne h, St.obj_set_ne h] at hp
      rw [St.obj_set_ne h]
      exact hp
  tok := fun _ h => h
  glob := rfl
def TreeOk (l : List Int) (k : Nat) : Prop := ∀ (a o : Nat) (st : St), a + trM k ≤ 1000 → st.obj o = some (atC a) → ACalls Tryd.prog 18 [.view 1 (l.map fun x => [.int .i64 x]) .shared, .cptr o 1 0 0, .int .i64 (7 - (k : Int))] st
  (fun v st' => v = .agg (xrow (tr l k a).1) ∧ st' = st.set o (atC (tr l k a).2)) (fun _ _ => False)

set_option maxHeartbeats 4000000 in
theorem tree_step (l : List Int) (_ : l.length ≤ 17592186043904) (k : Nat) (hk : k ≤ 7) (ih : ∀ j, k = j + 1 → TreeOk l j) : TreeOk l k := by
  intro a o st ha ho
  have hm := trM_pos k
  refine ACalls.ofBody Tryd.func18 rfl Tryd.ntmps18 rfl ?_
  repeat (refine AWP.seq ?_)
  refine rg ?_
  refine al rfl rfl fun o6 h6 => ?_
  have hne : o ≠ o6 := St.ne_of_new h6 ho
  have ho1 : ∀ c, (st.set o6 c).obj o = some (atC a) := fun c => St.obj_new h6 ho
  have hC : (st.set o6 (.cells 27 6 [exRow 0 0 [] [] nilV])).obj o = some (.cells 3 1 [[.int .i64 (a : Int)]]) := ho1 _
  have l1 : (l.map fun x => [AV.int .i64 x]).length = l.length := List.length_map ..
  repeat (first | refine nl ?_ | refine AWP.seq ?_)
  refine rg ?_
  repeat (refine ZA (z := ?_))
  refine nl ?_
  refine AWP.seq ?_
  refine midk [(7, .int .i64 (trN l a : Int)), (6, .cptr o6 6 0 0), (2, .int .i64 (7 - (k : Int))), (1, .cptr o 1 0 0), (0, .view 1 (l.map fun x => [.int .i64 x]) .shared)] (st.set o6 (.cells 27 6 [exRow 0 0 [] [] nilV])) ?_ ?_
  · unfold trN
    by_cases hal : a < l.length
    · have hg : (l.map fun x => [AV.int .i64 x])[a]? = some [.int .i64 l[a]] := by rw [List.getElem?_map, List.getElem?_eq_getElem hal]; rfl
      have hal' : a < (l.map fun x => [AV.int .i64 x]).length := by rw [l1]; exact hal
      rw [List.getElem?_eq_getElem hal]
      repeat (first | refine nl ?_ | refine AWP.seq ?_ | refine rg ?_ | refine YH (z := ?_) | refine ZA (z := ?_) | refine ZF (z := ?_) | refine ZJ (z := ?_) | refine ZM (z := ?_) | refine ZH (z := ?_))
      rw [l1]
      skip
      refine cle rfl rfl (mod_ok _ 1048576 (by decide) (by decide) _) ?_
      repeat (first | refine nl ?_ | refine ZA (z := ?_))
      refine ⟨TLe.consE rfl ?_ (tl4 rfl rfl rfl rfl), .refl _⟩
      show AV.int .i64 _ = AV.int .i64 (((l[a] % 1048576).toNat : Nat) : Int)
      rw [Int.toNat_of_nonneg (Int.emod_nonneg _ (by decide))]
    · rw [List.getElem?_eq_none (by omega)]
      repeat (first | refine nl ?_ | refine AWP.seq ?_ | refine rg ?_ | refine AWP.skip ?_ | refine YI (z := ?_) | refine ZA (z := ?_) | refine ZJ (z := ?_) | refine ZH (z := ?_))
      rw [l1]
      skip
      exact ⟨(tl5 rfl rfl rfl rfl rfl), .refl _⟩
  have hn : trN l a < 1048576 := by
    unfold trN
    cases l[a]? with
    | none => decide
    | some x =>
      have := Int.emod_lt_of_pos x (show (0 : Int) < 1048576 by decide)
      show (x % 1048576).toNat < _
      omega
  obtain ⟨n1, _⟩ := trNm_at (trN l a)
  obtain ⟨f1, _⟩ := trFd_at (trN l a)
  have g1 := nmV_get _ (Nat.mod_lt _ (by decide)) _ n1
  have g2 := fdV_get _ (Nat.mod_lt _ (by decide)) _ f1
  have hlit : ∀ j, k = j → tr l k a = (.lit (trN l a / 32 % 1000), a + 1) → True := fun _ _ _ => trivial
  have hS : ∀ b c, (((st.set o6 b).set o (AObj.cells 3 1 [[.int .i64 ((a + 1 : Nat) : Int)]])).set o c) = (st.set o6 b).set o c := fun _ _ => St.set_set ..
  repeat (first | refine AWP.seq ?_ | refine rg ?_ | refine ZA (z := ?_) | refine ZH (z := ?_) | refine ZO (z := ?_))
  refine so (rows' := [[.int .i64 ((a + 1 : Nat) : Int)]]) rfl rfl rfl (ho1 _) rfl rfl rfl rfl rfl ?_
  repeat (first | refine nl ?_ | refine AWP.seq ?_ | refine rg ?_)
  refine bsh (cs := nmV) rfl rfl rfl rfl rfl ?_
  repeat (first | refine nl ?_ | refine AWP.seq ?_ | refine rg ?_ | refine ZA (z := ?_))
  have e32 := tdivN (trN l a) 32
  have m32 := tmodN (trN l a) 32
  have e512 := tdivN (trN l a) 512
  refine qu rfl rfl rfl (by decide) (by rw [show ((32 : Int)) = ((32 : Nat) : Int) from rfl, e32]; omega) ?_
  rw [show ((trN l a : Nat) : Int).tdiv 32 = ((trN l a / 32 : Nat) : Int) from e32]
  repeat (first | refine ZA (z := ?_) | refine ZJ (z := ?_))
  refine rm (b := ((11 : Nat) : Int)) rfl rfl rfl (by decide) ?_
  rw [tmodN]
  refine ix (m := trN l a / 32 % 11) rfl rfl rfl rfl (Nat.mod_lt _ (by decide)) ?_
  refine Go.AM.le rfl rfl g1 rfl ?_
  repeat (first | refine nl ?_ | refine AWP.seq ?_ | refine rg ?_ | refine ZA (z := ?_))
  refine rm rfl rfl rfl (by decide) ?_
  rw [show ((trN l a : Nat) : Int).tmod 32 = ((trN l a % 32 : Nat) : Int) from m32]
  have hk32 : trN l a % 32 < 32 := Nat.mod_lt _ (by decide)
  match k, ih, hk, ha with
  | 0, _, _, ha =>
    have et : tr l 0 a = (.lit (trN l a / 32 % 1000), a + 1) := rfl
    rw [et]
    repeat (first | refine nl ?_ | refine AWP.seq ?_ | refine rg ?_ | refine AWP.block ?_ | refine YH (z := ?_) | refine ZA (z := ?_) | refine ZB (z := ?_))
    refine qu rfl rfl rfl (by decide) (by rw [show ((32 : Int)) = ((32 : Nat) : Int) from rfl, e32]; omega) ?_
    rw [show ((trN l a : Nat) : Int).tdiv 32 = ((trN l a / 32 : Nat) : Int) from e32]
    refine rm (b := ((1000 : Nat) : Int)) rfl rfl rfl (by decide) ?_
    rw [tmodN]
    refine bds (cs := exRow 0 (trN l a / 32 % 1000 : Nat) [] [] nilV) rfl rfl rfl rfl ?_
    refine so (rows' := [exRow 0 (trN l a / 32 % 1000 : Nat) [] [] nilV]) rfl rfl rfl (St.obj_under hne _ _) rfl rfl rfl rfl rfl ?_
    repeat (refine nl ?_)
    exact AWP.ret (rets (resCW rfl (St.obj_set _ _ _) rfl rfl rfl rfl) (ex_nil _ _ _ _) (StLe.res h6 hne) ⟨rfl, rfl⟩)
  | j + 1, ih, hk, ha =>
    have ih := ih j rfl
    have hM : trM (j + 1) = 2 * trM j + 1 := rfl
    obtain ⟨i1, i2, i3⟩ := tr_ok l j (a + 1)
    obtain ⟨j1, j2, j3⟩ := tr_ok l j (tr l j (a + 1)).2
    have hj : ¬ (7 - ((j + 1 : Nat) : Int)) > 6 := by omega
    rw [tr]
    generalize trN l a = n at *
    generalize n % 32 = kk at *
    by_cases c1 : kk < 5
    · rw [if_pos c1]
      repeat (first | refine nl ?_ | refine AWP.seq ?_ | refine rg ?_ | refine AWP.block ?_ | refine YH (z := ?_) | refine ZA (z := ?_) | refine YE (z := ?_))
      refine qu rfl rfl rfl (by decide) (by rw [show ((32 : Int)) = ((32 : Nat) : Int) from rfl, e32]; omega) ?_
      rw [show ((n : Nat) : Int).tdiv 32 = ((n / 32 : Nat) : Int) from e32]
      refine rm (b := ((1000 : Nat) : Int)) rfl rfl rfl (by decide) ?_
      rw [tmodN]
      refine bds (cs := exRow 0 (n / 32 % 1000 : Nat) [] [] nilV) rfl rfl rfl rfl ?_
      refine so (rows' := [exRow 0 (n / 32 % 1000 : Nat) [] [] nilV]) rfl rfl rfl (St.obj_under hne _ _) rfl rfl rfl rfl rfl ?_
      repeat (refine nl ?_)
      exact AWP.ret (rets (resCW rfl (St.obj_set _ _ _) rfl rfl rfl rfl) (ex_nil _ _ _ _) (StLe.res h6 hne) ⟨rfl, rfl⟩)
    rw [if_neg c1]
    by_cases c2 : kk < 11
    · rw [if_pos c2]
      repeat (first | refine nl ?_ | refine AWP.seq ?_ | refine rg ?_ | refine AWP.block ?_ | refine YH (z := ?_) | refine YI (z := ?_) | refine ZA (z := ?_) | refine YE (z := ?_))
      refine bds (cs := exRow 1 0 (trNm n) [] nilV) rfl rfl rfl rfl ?_
      refine so (rows' := [exRow 1 0 (trNm n) [] nilV]) rfl rfl rfl (St.obj_under hne _ _) rfl rfl rfl rfl rfl ?_
      repeat (refine nl ?_)
      exact AWP.ret (rets (resCW rfl (St.obj_set _ _ _) rfl rfl rfl rfl) (ex_nil _ _ _ _) (StLe.res h6 hne) ⟨rfl, rfl⟩)
    rw [if_neg c2]
    by_cases c3 : kk < 13
    · rw [if_pos c3]
      repeat (first | refine nl ?_ | refine AWP.seq ?_ | refine rg ?_ | refine AWP.block ?_ | refine YH (z := ?_) | refine YI (z := ?_) | refine ZA (z := ?_) | refine YE (z := ?_))
      refine bsh (cs := [.str [120], .str [121], .str [122]]) rfl rfl rfl rfl rfl ?_
      repeat (refine ZA (z := ?_))
      refine qu rfl rfl rfl (by decide) (by rw [show ((512 : Int)) = ((512 : Nat) : Int) from rfl, e512]; omega) ?_
      rw [show ((n : Nat) : Int).tdiv 512 = ((n / 512 : Nat) : Int) from e512]
      refine rm (b := ((3 : Nat) : Int)) rfl rfl rfl (by decide) ?_
      rw [tmodN]
      refine ix (m := n / 512 % 3) rfl rfl rfl rfl (Nat.mod_lt _ (by decide)) ?_
      refine Go.AM.le rfl rfl g2 rfl ?_
      refine bds (cs := exRow 2 0 (trNm n) (trFd n) nilV) rfl rfl rfl rfl ?_
      refine so (rows' := [exRow 2 0 (trNm n) (trFd n) nilV]) rfl rfl rfl (St.obj_under hne _ _) rfl rfl rfl rfl rfl ?_
      repeat (refine nl ?_)
      exact AWP.ret (rets (resCW rfl (St.obj_set _ _ _) rfl rfl rfl rfl) (ex_nil _ _ _ _) (StLe.res h6 hne) ⟨rfl, rfl⟩)
    rw [if_neg c3]
    have hd : (7 - ((j + 1 : Nat) : Int) + 1) = 7 - (j : Int) := by omega
    by_cases c4 : kk < 15
    · rw [if_pos c4]
      repeat (first | refine nl ?_ | refine AWP.seq ?_ | refine rg ?_ | refine AWP.block ?_ | refine YH (z := ?_) | refine YI (z := ?_) | refine ZA (z := ?_) | refine YE (z := ?_))
      refine Go.AM.ad rfl rfl rfl (by omega) ?_
      rw [hd]
      refine cl rfl rfl (ih (a + 1) o _ (by omega) (St.obj_set _ _ _)) fun v st' ⟨hv, hst⟩ => ?_
      subst hv
      subst hst
      rw [hS]
      obtain ⟨op, num, name, field, args, hx⟩ := xrow_ex (tr l j (a + 1)).1
      rw [hx]
      repeat (refine ZQ (z := ?_))
      refine bds (cs := exRow 3 0 (trNm n) [] (.view 6 [exRow op num name field (.view 6 args .shared)] .shared)) rfl rfl rfl rfl ?_
      refine so (rows' := [exRow 3 0 (trNm n) [] (.view 6 [exRow op num name field (.view 6 args .shared)] .shared)]) rfl rfl rfl (St.obj_under hne _ _) rfl rfl rfl rfl rfl ?_
      repeat (refine nl ?_)
      refine AWP.ret (rets (resCW rfl (St.obj_set _ _ _) rfl rfl rfl rfl) (.refl _) (StLe.res h6 hne) ⟨?_, rfl⟩)
      rw [xrow, hx]
      rfl
    rw [if_neg c4]
    by_cases c5 : kk < 18
    · rw [if_pos c5]
      repeat (first | refine nl ?_ | refine AWP.seq ?_ | refine rg ?_ | refine AWP.block ?_ | refine YH (z := ?_) | refine YI (z := ?_) | refine ZA (z := ?_) | refine YE (z := ?_))
      refine rm (b := ((2 : Nat) : Int)) rfl rfl rfl (by decide) ?_
      rw [tmodN]
      have h2 : kk % 2 < 2 := Nat.mod_lt _ (by decide)
      refine adn (a := 4) rfl rfl rfl (by omega) ?_
      repeat (refine ZA (z := ?_))
      refine Go.AM.ad rfl rfl rfl (by omega) ?_
      rw [hd]
      refine cl rfl rfl (ih (a + 1) o _ (by omega) (St.obj_set _ _ _)) fun v st' ⟨hv, hst⟩ => ?_
      subst hv
      subst hst
      rw [hS]
      obtain ⟨op, num, name, field, args, hx⟩ := xrow_ex (tr l j (a + 1)).1
      rw [hx]
      repeat (refine ZQ (z := ?_))
      refine bds (cs := exRow ((4 + kk % 2 : Nat) : Int) 0 [] [] (.view 6 [exRow op num name field (.view 6 args .shared)] .shared)) rfl rfl rfl rfl ?_
      refine so (rows' := [exRow ((4 + kk % 2 : Nat) : Int) 0 [] [] (.view 6 [exRow op num name field (.view 6 args .shared)] .shared)]) rfl rfl rfl (St.obj_under hne _ _) rfl rfl rfl rfl rfl ?_
      repeat (refine nl ?_)
      refine AWP.ret (rets (resCW rfl (St.obj_set _ _ _) rfl rfl rfl rfl) (.refl _) (StLe.res h6 hne) ⟨?_, rfl⟩)
      rw [xrow, hx]
      rfl
    rw [if_neg c5]
    repeat (first | refine nl ?_ | refine AWP.seq ?_ | refine rg ?_ | refine AWP.skip ?_ | refine AWP.block ?_ | refine YI (z := ?_) | refine ZA (z := ?_) | refine YE (z := ?_))
    refine Go.AM.ad rfl rfl rfl (by omega) ?_
    rw [hd]
    refine cl rfl rfl (ih (a + 1) o _ (by omega) (St.obj_set _ _ _)) fun v st' ⟨hv, hst⟩ => ?_
    subst hv
    subst hst
    rw [hS]
    generalize tr l j (a + 1) = r1 at *
    obtain ⟨x, a1⟩ := r1
    simp only at i2 i3 j2 j3 ⊢
    have ih2 := ih a1 o ((st.set o6 (.cells 27 6 [exRow 0 0 [] [] nilV])).set o (atC a1)) (by omega) (St.obj_set _ _ _)
    generalize tr l j a1 = r2 at *
    obtain ⟨y, a2⟩ := r2
    simp only at j2 j3 ih2 ⊢
    rw [St.set_set] at ih2
    obtain ⟨op, num, name, field, args, hx⟩ := xrow_ex x
    obtain ⟨op2, num2, name2, field2, args2, hy⟩ := xrow_ex y
    rw [hx]
    rw [hy] at ih2
    have h12 : kk % 12 < 12 := Nat.mod_lt _ (by decide)
    repeat (first | refine nl ?_ | refine AWP.seq ?_ | refine YA (z := ?_))
    refine AWP.drawX rfl 11 [8] [(st.set o6 (.cells 27 6 [exRow 0 0 [] [] nilV])).set o (atC a1), (st.set o6 (.cells 27 6 [exRow 0 0 [] [] nilV])).set o (atC a2)] (((st.set o6 (.cells 27 6 [exRow 0 0 [] [] nilV])).set o (atC a1)).drop o) rfl rfl (StLe.drop _) ?_
    repeat (refine dsS rfl rfl ?_)
    refine dqS (v := .int .i64 ((kk % 12 : Nat) : Int)) rfl rfl rfl (fun st1 hle => rm (b := ((12 : Nat) : Int)) rfl rfl rfl (by decide) (nl ⟨_, rfl, congrArg (AV.int .i64) (tmodN kk 12), rfl⟩)) ?_
    refine dqS (v := .int .i64 ((6 + kk % 12 : Nat) : Int)) rfl rfl rfl (fun st1 hle => adn (a := 6) rfl rfl rfl (by omega) (nl ⟨_, rfl, rfl, rfl⟩)) ?_
    repeat (first | refine dsS rfl rfl ?_ | refine dpS (h := fun _ _ => ZD (z := nz)) (z := ?_) | refine dpS (h := fun _ _ => YJ (z := nz)) (z := ?_))
    rw [hd]
    refine deSv rfl rfl rfl StLe.setdrop rfl rfl (cl rfl rfl ih2 fun v st' ⟨hv, hst⟩ => by subst hv; subst hst; exact nl ⟨_, rfl, rfl, rfl⟩) ?_
    refine dqS rfl rfl rfl (fun st1 hle => bsh (cs := exRow op num name field (.view 6 args .shared) ++ exRow op2 num2 name2 field2 (.view 6 args2 .shared)) rfl rfl rfl rfl rfl (nl ⟨_, rfl, rfl, rfl⟩)) ?_
    refine dqS rfl rfl rfl (fun st1 hle => bds (cs := exRow ((6 + kk % 12 : Nat) : Int) 0 [] [] (.view 6 [exRow op num name field (.view 6 args .shared), exRow op2 num2 name2 field2 (.view 6 args2 .shared)] .shared)) rfl rfl rfl rfl (nl ⟨_, rfl, rfl, rfl⟩)) ?_
    refine dnS rfl ?_
    refine so (rows' := [exRow ((6 + kk % 12 : Nat) : Int) 0 [] [] (.view 6 [exRow op num name field (.view 6 args .shared), exRow op2 num2 name2 field2 (.view 6 args2 .shared)] .shared)]) rfl rfl rfl (St.obj_under hne _ _) rfl rfl rfl rfl rfl ?_
    repeat (refine nl ?_)
    refine AWP.ret (rets (resCW rfl (St.obj_set _ _ _) rfl rfl rfl rfl) (.refl _) (StLe.res h6 hne) ⟨?_, rfl⟩)
    rw [xrow, hx, hy]
    rfl
theorem tree_all (l : List Int) (hl : l.length ≤ 17592186043904) : ∀ k, k ≤ 7 → TreeOk l k
  | 0, h => tree_step l hl 0 h fun j hj => by cases hj
  | k + 1, h => tree_step l hl (k + 1) h fun j hj => by cases hj; exact tree_all l hl k (by omega)
/-- The expression that is made. -/
def tre (l : List Int) : Xp := (tr l 7 0).1
theorem tree_ok (l : List Int) (hl : l.length ≤ 17592186043904) (st : St) : ACalls Tryd.prog 9 [.view 1 (l.map fun x => [.int .i64 x]) .shared] st (fun v st' => v = .agg (xrow (tre l)) ∧ st' = st) (fun _ _ => False) := by
  refine ACalls.ofBody Tryd.func9 rfl Tryd.ntmps9 rfl ?_
  repeat (refine AWP.seq ?_)
  refine rg ?_
  refine al rfl rfl fun o2 h2 => ?_
  repeat (first | refine nl ?_ | refine AWP.seq ?_)
  refine rg ?_
  refine al rfl rfl fun o3 h3 => ?_
  have hne : o2 ≠ o3 := fun e => by subst e; rw [St.obj_set] at h3; cases h3
  refine soV rfl rfl rfl rfl rfl rfl ?_
  repeat (first | refine nl ?_ | refine AWP.seq ?_ | refine rg ?_ | refine ZA (z := ?_))
  refine cl rfl rfl (tree_all l hl 7 (by decide) 0 o3 _ (by decide) (St.obj_set _ _ _)) fun v st' ⟨hv, hst⟩ => ?_
  subst hv
  subst hst
  rw [St.set_set]
  obtain ⟨op, num, name, field, args, hx⟩ := xrow_ex (tr l 7 0).1
  rw [hx]
  refine so (rows' := [exRow op num name field (.view 6 args .shared)]) rfl rfl rfl (St.obj_under (Ne.symm hne) _ _) rfl rfl rfl rfl rfl ?_
  repeat (refine nl ?_)
  refine AWP.ret (rets (resCW rfl (St.obj_set _ _ _) rfl rfl rfl rfl) (.refl _) (StLe.set3 h2 h3 hne) ⟨?_, rfl⟩)
  rw [tre, hx]
  rfl
end Go.Proofs
/- The reference's reader of expressions: kinds, signs, errors. No conditions: definitions and lemmas only. -/
namespace Go.Proofs
open Go.AM
attribute [local irreducible] AWP AOps ACalls AAny

end Go.Proofs
/- The reference's reader of expressions: the operator that follows. No conditions: definitions and lemmas only. -/
namespace Go.Proofs
open Go.AM
attribute [local irreducible] AWP AOps ACalls AAny

end Go.Proofs
/- The reference's reader of expressions: an operand. No conditions: definitions and lemmas only. -/
namespace Go.Proofs
open Go.AM
attribute [local irreducible] AWP AOps ACalls AAny

end Go.Proofs
/- The reference's reader of expressions: operations. No conditions: definitions and lemmas only. -/
namespace Go.Proofs
open Go.AM
attribute [local irreducible] AWP AOps ACalls AAny

end Go.Proofs
/- The walk of the reference lexer's Scan. No conditions: lemmas only. -/
namespace Go.Proofs
open Go.AM

end Go.Proofs
/- debuggerref30.Parse answers eparse. No conditions: definitions and lemmas only. -/
namespace Go.Proofs
open Go.AM
attribute [local irreducible] AWP AOps ACalls AAny

end Go.Proofs
/- The sanity check of the laws of expressions. No conditions: definitions and lemmas only. -/
namespace Go.Proofs
open Go.AM
attribute [local irreducible] AWP AOps ACalls AAny

/-- The tables that are laid. -/
structure LTb (st : St) : Prop where
  signs : st.row 2 = some signRow
  words : st.row 0 = some wordRow
  tb : Tb st
theorem LTb.low {st st1 : St} (h : LTb st) (hle : StLe st1 st.notok) : LTb st1 := by
  have e : st.glob = st1.glob := hle.glob
  obtain ⟨h1, h2, h3⟩ := h
  refine ⟨?_, ?_, h3.low hle⟩
  · unfold St.row at *; rw [← e]; exact h1
  · unfold St.row at *; rw [← e]; exact h2
theorem gx_toXT : ∀ x : Xp, Wop x → WX Nm Nu x → GX (toXT x)
  | .lit n, _, h => .mk _ _ _ _ _ _ (by unfold w64; decide) (by have h : n < 10 ^ 18 := h; unfold w64; omega) (by decide) (by decide) (fun a h => by cases h)
  | .var s, _, h => .mk _ _ _ _ _ _ (by unfold w64; decide) (by unfold w64; decide) (by obtain ⟨_, _, _, _, _, h, _⟩ := h; unfold Smax; omega) (by decide) (fun a h => by cases h)
  | .fld s f, _, h => .mk _ _ _ _ _ _ (by unfold w64; decide) (by unfold w64; decide) (by obtain ⟨_, _, _, _, _, h, _⟩ := h.1; unfold Smax; omega) (by obtain ⟨_, _, _, _, _, h, _⟩ := h.2; unfold Smax; omega) (fun a h => by cases h)
  | .elt s x, hw, h => .mk _ _ _ _ _ _ (by unfold w64; decide) (by unfold w64; decide) (by obtain ⟨_, _, _, _, _, h, _⟩ := h.1; unfold Smax; omega) (by decide) (fun a ha => by
      rw [List.mem_singleton.1 ha]
      exact gx_toXT x hw h.2)
  | .una op x, hw, h => .mk _ _ _ _ _ _ (by have := hw.1; unfold w64; omega) (by unfold w64; decide) (by decide) (by decide) (fun a ha => by
      rw [List.mem_singleton.1 ha]
      exact gx_toXT x hw.2 h)
  | .bin op x y, hw, h => .mk _ _ _ _ _ _ (by have := hw.1; have := hw.2.1; unfold w64; omega) (by unfold w64; decide) (by decide) (by decide) (fun a ha => by
      simp only [List.mem_cons, List.not_mem_nil, or_false] at ha
      rcases ha with rfl | rfl
      · exact gx_toXT x hw.2.2.1 h.1
      · exact gx_toXT y hw.2.2.2 h.2)
theorem wx_weak : ∀ x : Xp, WX Nm Nu x → WX (fun _ => True) (fun m => m < 10 ^ 20) x
  | .lit n, h => by have h : n < 10 ^ 18 := h; show n < 10 ^ 20; omega
  | .var _, _ => trivial
  | .fld _ _, _ => ⟨trivial, trivial⟩
  | .elt _ a, h => ⟨trivial, wx_weak a h.2⟩
  | .una _ a, h => wx_weak a h
  | .bin _ a b, h => ⟨wx_weak a h.1, wx_weak b h.2⟩

/-- Print, of an expression that was parsed or made. -/
theorem print1_xp (x : Xp) (h1 : Wop x) (h2 : WX Nm Nu x) (h3 : dpx x ≤ 200) (h4 : (toXT x).nodes ≤ 1000) (st : St) (hT : Tb st) : ACalls Tryd.prog 15 [.agg (xrow x)] st (fun v st' => v = .str (xby x) ∧ st' = st) (fun _ _ => False) := by
  have h := print1_ok (toXT x) (gx_toXT x h1 h2) h4 st hT
  rw [toXT_row, pr_toXT h1 (wx_weak x h2) h3] at h
  exact h
def awX : Xp := .bin 6 (.fld [97] [98]) (.bin 8 (.lit 2) (.bin 7 (.elt [99] (.var [105])) (.lit 1)))
theorem aw_parse : eparse [97, 46, 98, 43, 40, 50, 42, 40, 99, 91, 105, 93, 45, 40, 49, 41, 41, 41] = .ok awX := by kernel_rfl
theorem aw_bad : eparse [97, 32, 43] = .error 7 := by kernel_rfl
theorem aw_text : xby awX = [97, 46, 98, 32, 43, 32, 50, 32, 42, 32, 40, 99, 91, 105, 93, 32, 45, 32, 49, 41] := by kernel_rfl
theorem aw_facts : Wop awX ∧ WX Nm Nu awX ∧ dpx awX ≤ 200 ∧ (toXT awX).nodes ≤ 1000 := by
  have h := (eparse_ok aw_parse)
  exact ⟨h.1, h.2.1, by decide, by decide⟩
theorem awake_ok (st : St) (hT : LTb st) : ACalls Tryd.prog 7 [] st (fun v st' => v = .bool true ∧ st' = st) (fun _ _ => False) := by
  refine ACalls.ofBody Tryd.func7 rfl Tryd.ntmps7 rfl ?_
  obtain ⟨f1, f2, f3, f4⟩ := aw_facts
  have p1 := eparse_ok1 [97, 46, 98, 43, 40, 50, 42, 40, 99, 91, 105, 93, 45, 40, 49, 41, 41, 41] st hT.signs hT.words hT.tb.1
  rw [aw_parse, epV] at p1
  have p2 := eparse_ok1 [97, 32, 43] st hT.signs hT.words hT.tb.1
  rw [aw_bad, epV] at p2
  have p3 := print1_xp awX f1 f2 f3 f4 st hT.tb
  rw [aw_text] at p3
  obtain ⟨op, num, name, field, args, hx⟩ := xrow_ex awX
  rw [hx] at p1 p3
  repeat (first | refine nl ?_ | refine AWP.seq ?_ | refine rg ?_ | refine ZA (z := ?_))
  refine cle rfl rfl p1 ?_
  repeat (first | refine nl ?_ | refine AWP.seq ?_ | refine rg ?_ | refine ZA (z := ?_) | refine YA (z := ?_))
  refine cle rfl rfl p2 ?_
  repeat (first | refine nl ?_ | refine AWP.seq ?_ | refine rg ?_ | refine ZA (z := ?_) | refine ZD (z := ?_) | refine YA (z := ?_))
  refine cle rfl rfl p3 ?_
  repeat (first | refine nl ?_ | refine ZA (z := ?_))
  exact AWP.ret (rets rfl (.refl _) (.refl _) ⟨rfl, rfl⟩)
end Go.Proofs
/- What the laws of this seat share: the laid tables, the arguments' kinds. No conditions: lemmas only. -/
namespace Go.Proofs.YtcckchdneaecoaaDoor
open Go.ChangeShapes Go.WideShapes Go.ChangeAt Go.RowKit Go.AM

theorem own : ownKnob Tryd.prog.godebug = none := by kernel_rfl
theorem laidOut : laidOutB Tryd.prog = true := by kernel_rfl
def laidAll : List (String × DataW Unit) := [("math/bits.deBruijn32tab", Rows.laid_math_bits_deBruijn32tab), ("math/bits.deBruijn64tab", Rows.laid_math_bits_deBruijn64tab), ("internal/strconv.uint64pow10", Rows.laid_internal_strconv_uint64pow10), ("debugger/lexer.words", Rows.laid_debugger_lexer_words), ("debugger/lexer.signs", Rows.laid_debugger_lexer_signs), ("debugger/expression.operators", Rows.laid_debugger_expression_operators)]

theorem kinds : ∀ t ∈ [3, 9, 22, 27, 25, 63, 84, 94, 100, 76, 77], Go.AM.kindOk Tryd.prog [3, 9, 22, 27, 25, 63, 84, 94, 100, 76, 77] t = true := by
  intro t ht
  simp only [List.mem_cons, List.not_mem_nil, or_false] at ht
  rcases ht with rfl | rfl | rfl | rfl | rfl | rfl | rfl | rfl | rfl | rfl | rfl <;> kernel_rfl
theorem pow_row : litRow (Rows.laid_internal_strconv_uint64pow10 : DataW Unit) = some powRow := by kernel_rfl
theorem op_row : litRow (Rows.laid_debugger_expression_operators : DataW Unit) = some opRow := by kernel_rfl
def tabL : List (Nat × List AV) := [(0, wordRow), (2, signRow), (1, opRow), (3, powRow)]
theorem tables {W : World} (h : laidMetH Tryd.prog laidAll W) : ∀ gi row, (gi, row) ∈ tabL → GlobAt (G0 W) W gi row := by
  have h' : laidMet Tryd.prog laidAll W := h
  intro gi row hm
  simp only [tabL, List.mem_cons, List.not_mem_nil, or_false] at hm
  rcases hm with hm | hm | hm | hm
  · cases hm
    exact laid_row kinds h' (n := "debugger/lexer.words") (t := 63) (.tail _ (.tail _ (.tail _ (.head _)))) rfl (by kernel_rfl) (by kernel_rfl) (by decide) (by decide)
  · cases hm
    exact laid_row kinds h' (n := "debugger/lexer.signs") (t := 84) (.tail _ (.tail _ (.tail _ (.tail _ (.head _))))) rfl (by kernel_rfl) (by kernel_rfl) (by decide) (by decide)
  · cases hm
    exact laid_row kinds h' (n := "debugger/expression.operators") (t := 77) (.tail _ (.tail _ (.tail _ (.tail _ (.tail _ (.head _)))))) op_row (by kernel_rfl) (by kernel_rfl) (by decide) (by decide)
  · cases hm
    exact laid_row kinds h' (n := "internal/strconv.uint64pow10") (t := 100) (.tail _ (.tail _ (.head _))) pow_row (by kernel_rfl) (by kernel_rfl) (by decide) (by decide)
theorem hT {o : Nat → Option AObj} {tk : Nat → Bool} : LTb { obj := o, tok := tk, glob := tabL } := ⟨rfl, rfl, rfl, .tail _ (.tail _ (.tail _ (.head _)))⟩
end Go.Proofs.YtcckchdneaecoaaDoor
/- ExpressionParses. No conditions: definitions and lemmas only. -/
namespace Go.Proofs
open Go.AM
attribute [local irreducible] AWP AOps ACalls AAny
set_option linter.unusedSimpArgs false

theorem modN_ok (n k : Int) (c : Nat) (hk : 0 < k) (hk2 : k ≤ 4611686018427387904) (h : n % k = (c : Int)) (st : St) : ACalls Tryd.prog 10 [.int .i64 n, .int .i64 k] st (fun v st' => v = .int .i64 (c : Int) ∧ st' = st) (fun _ _ => False) := by
  have := mod_ok n k hk hk2 st
  rw [h] at this
  exact this
theorem mod_nat (n k : Int) (hk : 0 < k) : ∃ c : Nat, n % k = (c : Int) ∧ (c : Int) < k :=
  ⟨(n % k).toNat, (Int.toNat_of_nonneg (Int.emod_nonneg _ (by omega))).symm, by rw [Int.toNat_of_nonneg (Int.emod_nonneg _ (by omega))]; exact Int.emod_lt_of_pos _ hk⟩
theorem tre_f (l : List Int) : TrP 7 (tre l) := (tr_ok l 7 0).1
end Go.Proofs
/- The law's size of an expression. No conditions: definitions and lemmas only. -/
namespace Go.Proofs
open Go.AM
attribute [local irreducible] AWP AOps ACalls AAny

theorem xnodes_take : ∀ (l : List XT) (i : Nat) (h : i < l.length), xnodes (l.take (i + 1)) = xnodes (l.take i) + l[i].nodes
  | x :: r, 0, _ => by
    show xnodes [x] = xnodes [] + x.nodes
    rw [xnodes, xnodes]
    exact Nat.add_comm _ _
  | x :: r, i + 1, h => by
    have hi : i < r.length := by simpa using h
    have ih := xnodes_take r i hi
    rw [List.take_succ_cons, List.take_succ_cons, xnodes, xnodes, ih]
    show _ = _ + r[i].nodes
    omega
def SizeOk (N : Nat) : Prop := ∀ (x : XT), SizeOf.sizeOf x < N → ∀ (most : Nat), most ≤ 100 → ∀ st, ACalls Tryd.prog 14 [.agg x.row, .int .i64 (most : Int)] st
  (fun v st' => (∃ m : Nat, v = .int .i64 (m : Int) ∧ 1 ≤ m ∧ m ≤ most + 1 ∧ (m ≤ most → x.nodes ≤ m)) ∧ st' = st) (fun _ _ => False)

set_option maxHeartbeats 1000000 in
theorem size_step (N : Nat) (ih : SizeOk N) : SizeOk (N + 1) := by
  intro x hx most hm st
  refine ACalls.ofBody Tryd.func14 rfl Tryd.ntmps14 rfl ?_
  rw [x.row_eq]
  have l1 : (x.args.map XT.row).length = x.args.length := List.length_map ..
  have hsz : ∀ a ∈ x.args, SizeOf.sizeOf a < N := fun a ha => by
    obtain ⟨op, num, var, name, field, args⟩ := x
    have := XT.size_lt (op := op) (num := num) (var := var) (name := name) (field := field) (show a ∈ args from ha)
    omega
  have hn := x.nodes_eq
  repeat (first | refine nl ?_ | refine AWP.seq ?_ | refine rg ?_ | refine AWP.block ?_ | refine ZA (z := ?_) | refine ZR (z := ?_))
  refine AWP.loop (α := Nat × Nat) (fun y => [(6, .int .i64 (y.1 : Int)), (5, .int .i64 (y.2 : Int)), (2, .eptr 6 [xcs x.op x.num x.vr x.name x.field (.view 6 (x.args.map XT.row) .shared)] 0 0), (1, .int .i64 (most : Int))]) (fun _ => st)
    (fun y => y.1 ≤ x.args.length ∧ y.1 + 1 ≤ y.2 ∧ y.2 ≤ most + 1 ∧ (y.2 ≤ most → 1 + xnodes (x.args.take y.1) ≤ y.2)) (fun y => x.args.length - y.1) (0, 1)
    ⟨Nat.zero_le _, Nat.le_refl _, by simp only; omega, fun _ => by simp only [List.take_zero, xnodes]; omega⟩ (tl4 rfl rfl rfl rfl) (.refl _) ?_
  rintro ⟨i, n⟩ ⟨q1, q2, q3, q4⟩
  simp only at q1 q2 q3 q4
  refine AWP.weaken (T' := [(6, .int .i64 (i : Int)), (5, .int .i64 (n : Int)), (2, .eptr 6 [xcs x.op x.num x.vr x.name x.field (.view 6 (x.args.map XT.row) .shared)] 0 0), (1, .int .i64 (most : Int))]) (tl4 rfl rfl rfl rfl) (.refl _) ?_
  have fin : (¬ (i < x.args.length ∧ n ≤ most)) → n ≤ most → x.nodes ≤ n := by
    intro h hnm
    have hi : i = x.args.length := by omega
    have := q4 hnm
    rw [hi, List.take_length] at this
    omega
  repeat (first | refine AWP.seq ?_ | refine rg ?_ | refine ZA (z := ?_) | refine ZC (z := ?_) | refine ZF (z := ?_) | refine ZJ (z := ?_))
  rw [l1]
  by_cases hi : i < x.args.length
  · by_cases hnm : n ≤ most
    · have hi' : i < (x.args.map XT.row).length := by omega
      have r1 := row_at hi
      have z1 := (x.args[i]).row_len
      repeat (first | refine nl ?_ | refine AWP.seq ?_ | refine rg ?_ | refine AWP.skip ?_ | refine AWP.block ?_ | refine YH (z := ?_) | refine ZA (z := ?_) | refine ZC (z := ?_) | refine ZF (z := ?_) | refine ZM (z := ?_) | refine YD (z := ?_))
      refine leW rfl rfl rfl r1 (by rw [z1]; rfl) ?_
      repeat (refine ZA (z := ?_))
      refine sbn rfl rfl rfl (by omega) ?_
      refine cl rfl rfl (ih x.args[i] (hsz _ (List.getElem_mem hi)) (most - n) (by omega) st) fun v st' ⟨⟨c, hv, c1, c2, c3⟩, hst⟩ => ?_
      subst hv
      subst hst
      repeat (first | refine nl ?_ | refine rg ?_ | refine ZA (z := ?_) | refine ZO (z := ?_) | refine ZP (z := ?_))
      refine ⟨(i + 1, n + c), ⟨hi, by simp only; omega, by simp only; omega, fun h => ?_⟩, by simp only; omega, (tl4 rfl rfl rfl rfl), .refl _⟩
      simp only at h ⊢
      rw [xnodes_take _ _ hi]
      have := c3 (by omega)
      have := q4 hnm
      omega
    · repeat (first | refine nl ?_ | refine YI (z := ?_) | refine ZA (z := ?_) | refine YD (z := ?_))
      refine AWP.exit (blk_hit ?_)
      repeat (first | refine nl ?_ | refine AWP.seq ?_ | refine rg ?_ | refine ZA (z := ?_))
      exact AWP.ret (rets rfl (.refl _) (.refl _) ⟨⟨n, rfl, by omega, q3, fin (fun h => hnm h.2)⟩, rfl⟩)
  · repeat (first | refine nl ?_ | refine YI (z := ?_) | refine ZA (z := ?_) | refine ZB (z := ?_) | refine YE (z := ?_))
    refine AWP.exit (blk_hit ?_)
    repeat (first | refine nl ?_ | refine AWP.seq ?_ | refine rg ?_ | refine ZA (z := ?_))
    exact AWP.ret (rets rfl (.refl _) (.refl _) ⟨⟨n, rfl, by omega, q3, fin (fun h => hi h.1)⟩, rfl⟩)
theorem size_all : ∀ N, SizeOk N
  | 0 => fun _ h => absurd h (by omega)
  | N + 1 => size_step N (size_all N)
theorem size_ok (x : XT) (most : Nat) (hm : most ≤ 100) (st : St) : ACalls Tryd.prog 14 [.agg x.row, .int .i64 (most : Int)] st
  (fun v st' => (∃ m : Nat, v = .int .i64 (m : Int) ∧ 1 ≤ m ∧ m ≤ most + 1 ∧ (m ≤ most → x.nodes ≤ m)) ∧ st' = st) (fun _ _ => False) := size_all _ x (Nat.lt_succ_self _) most hm st
end Go.Proofs
/- ExpressionPrints. No conditions: definitions and lemmas only. -/
namespace Go.Proofs
open Go.AM
attribute [local irreducible] AWP AOps ACalls AAny
set_option linter.unusedSimpArgs false

set_option maxHeartbeats 2000000 in
theorem ExpressionPrints_ok (X : XT) (hX : GX X) (l : List Int) (hl : l.length ≤ 17592186043904) (_ : ∀ x ∈ l, (Lit.int .i64 x).wf = true) (op_ : Int) (_ : (Lit.int .i64 op_).wf = true) (st : St) (hT : LTb st) :
    ACalls Tryd.prog 4 [.agg X.row, .view 1 (l.map fun x => [.int .i64 x]) .shared, .int .i64 op_] st (fun v _ => v = .bool true) (fun _ _ => False) := by
  refine ACalls.ofBody Tryd.func4 rfl Tryd.ntmps4 rfl ?_
  have hs := size_ok X 60 (by decide) st
  have hXr := X.row_eq
  rw [hXr] at hs ⊢
  repeat (first | refine nl ?_ | refine AWP.seq ?_ | refine rg ?_ | refine ZA (z := ?_) | refine ZD (z := ?_) | refine ZR (z := ?_))
  refine cl rfl rfl hs fun v st' ⟨⟨m, hv, m1, m2, m3⟩, hst⟩ => ?_
  subst hv
  subst hst
  by_cases h60 : 60 < m
  · repeat (first | refine nl ?_ | refine AWP.seq ?_ | refine rg ?_ | refine YH (z := ?_) | refine ZA (z := ?_))
    refine cle rfl rfl (awake_ok st' hT) ?_
    repeat (first | refine nl ?_ | refine ZA (z := ?_))
    exact AWP.ret (rets rfl (.refl _) (.refl _) rfl)
  have hXn := m3 (by omega)
  obtain ⟨c, hc, hc2⟩ := mod_nat op_ 20 (by decide)
  have hf := tre_f l
  have eM : trM 7 = 255 := rfl
  have hTn : (toXT (tre l)).nodes ≤ 255 := hf.nodes
  have hTg := gx_toXT (tre l) hf.op hf.nm
  have hTr : xrow (tre l) = (toXT (tre l)).row := (toXT_row _).symm
  have hTe := (toXT (tre l)).row_eq
  repeat (first | refine nl ?_ | refine AWP.seq ?_ | refine rg ?_ | refine AWP.skip ?_ | refine YI (z := ?_) | refine ZA (z := ?_))
  refine cle rfl rfl (tree_ok l hl st') ?_
  rw [hTr]
  generalize toXT (tre l) = T at hTn hTg hTe
  have hy : (XT.mk ((c : Int) - 1) T.num T.vr T.name T.field T.args).row = xcs ((c : Int) - 1) T.num T.vr T.name T.field (.view 6 (T.args.map XT.row) .shared) := XT.row_mk ..
  have hyg : GX (XT.mk ((c : Int) - 1) T.num T.vr T.name T.field T.args) := by
    obtain ⟨_, g2, g3, g4, g5⟩ := hTg.all
    exact .mk _ _ _ _ _ _ (by unfold w64; omega) g2 g3 g4 g5
  have hyn : (XT.mk ((c : Int) - 1) T.num T.vr T.name T.field T.args).nodes ≤ 255 := by
    have := T.nodes_eq
    rw [XT.nodes_eq]
    show 1 + xnodes T.args ≤ 255
    omega
  have hn : (XT.mk 4 0 0 [] [] [T]).row = xcs 4 0 0 [] [] (.view 6 [T.row] .shared) := XT.row_mk ..
  have hng : GX (XT.mk 4 0 0 [] [] [T]) := .mk _ _ _ _ _ _ (by unfold w64; decide) (by unfold w64; decide) (Nat.zero_le _) (Nat.zero_le _) (fun a ha => by rw [List.mem_singleton.1 ha]; exact hTg)
  have hnn : (XT.mk 4 0 0 [] [] [T]).nodes ≤ 1000 := by
    rw [XT.nodes_eq]
    show 1 + (T.nodes + 0) ≤ 1000
    omega
  generalize XT.mk ((c : Int) - 1) T.num T.vr T.name T.field T.args = Y at hy hyg hyn
  have hm : (XT.mk 8 0 0 [] [] [T, Y]).row = xcs 8 0 0 [] [] (.view 6 [T.row, Y.row] .shared) := XT.row_mk ..
  have hmg : GX (XT.mk 8 0 0 [] [] [T, Y]) := .mk _ _ _ _ _ _ (by unfold w64; decide) (by unfold w64; decide) (Nat.zero_le _) (Nat.zero_le _) (fun a ha => by
    simp only [List.mem_cons, List.not_mem_nil, or_false] at ha
    rcases ha with rfl | rfl
    · exact hTg
    · exact hyg)
  have hmn : (XT.mk 8 0 0 [] [] [T, Y]).nodes ≤ 1000 := by
    rw [XT.nodes_eq]
    show 1 + (T.nodes + (Y.nodes + 0)) ≤ 1000
    omega
  rw [hTe, hy] at hm
  rw [hTe] at hn ⊢
  refine alN rfl rfl (fun _ => rfl) rfl rfl ?_
  refine nl ?_
  repeat (refine AWP.seq ?_)
  refine rg ?_
  refine leW rfl rfl rfl rfl rfl ?_
  refine al rfl rfl fun o8 h8 => ?_
  refine soV rfl rfl rfl rfl rfl rfl ?_
  repeat (first | refine nl ?_ | refine AWP.seq ?_ | refine rg ?_ | refine ZA (z := ?_))
  refine cle rfl rfl (modN_ok op_ 20 c (by decide) (by decide) hc _) ?_
  refine Go.AM.sb rfl rfl rfl (by omega) ?_
  repeat (refine ZC (z := ?_))
  refine so (rows' := [xcs ((c : Int) - 1) T.num T.vr T.name T.field (.view 6 (T.args.map XT.row) .shared)]) rfl rfl rfl (St.obj_set _ _ _) rfl rfl rfl rfl rfl ?_
  rw [St.set_set]
  repeat (first | refine nl ?_ | refine AWP.seq ?_ | refine rg ?_ | refine ZD (z := ?_) | refine ZE (z := ?_) | refine ZQ (z := ?_))
  refine bds (cs := xcs 4 0 0 [] [] (.view 6 [xcs T.op T.num T.vr T.name T.field (.view 6 (T.args.map XT.row) .shared)] .shared)) rfl rfl rfl rfl ?_
  repeat (first | refine ZD (z := ?_) | refine ZE (z := ?_))
  refine bsh (cs := xcs T.op T.num T.vr T.name T.field (.view 6 (T.args.map XT.row) .shared) ++ xcs ((c : Int) - 1) T.num T.vr T.name T.field (.view 6 (T.args.map XT.row) .shared)) rfl rfl rfl rfl rfl ?_
  refine bds (cs := xcs 8 0 0 [] [] (.view 6 [xcs T.op T.num T.vr T.name T.field (.view 6 (T.args.map XT.row) .shared), xcs ((c : Int) - 1) T.num T.vr T.name T.field (.view 6 (T.args.map XT.row) .shared)] .shared)) rfl rfl rfl rfl ?_
  refine bsh (cs := xcs X.op X.num X.vr X.name X.field (.view 6 (X.args.map XT.row) .shared) ++ (xcs T.op T.num T.vr T.name T.field (.view 6 (T.args.map XT.row) .shared) ++ (xcs ((c : Int) - 1) T.num T.vr T.name T.field (.view 6 (T.args.map XT.row) .shared) ++
    (xcs 4 0 0 [] [] (.view 6 [xcs T.op T.num T.vr T.name T.field (.view 6 (T.args.map XT.row) .shared)] .shared) ++
     xcs 8 0 0 [] [] (.view 6 [xcs T.op T.num T.vr T.name T.field (.view 6 (T.args.map XT.row) .shared), xcs ((c : Int) - 1) T.num T.vr T.name T.field (.view 6 (T.args.map XT.row) .shared)] .shared))))) rfl rfl rfl rfl rfl ?_
  repeat (first | refine nl ?_ | refine AWP.block ?_ | refine ZA (z := ?_) | refine ZJ (z := ?_))
  refine AWP.weaken (T' := [(34, .int .i64 0), (33, .int .i64 5), (32, .view 6 [X.row, T.row, Y.row, (XT.mk 4 0 0 [] [] [T]).row, (XT.mk 8 0 0 [] [] [T, Y]).row] .shared)]) (st' := st') (by rw [hXr, hTe, hy, hn, hm]; exact (tl3 rfl rfl rfl)) (StLe.new h8 (.refl _)) ?_
  have hR : ∀ r ∈ [X.row, T.row, Y.row, (XT.mk 4 0 0 [] [] [T]).row, (XT.mk 8 0 0 [] [] [T, Y]).row], ∃ z : XT, r = z.row ∧ GX z ∧ z.nodes ≤ 1000 := by
    intro r hr
    simp only [List.mem_cons, List.not_mem_nil, or_false] at hr
    rcases hr with rfl | rfl | rfl | rfl | rfl
    · exact ⟨_, rfl, hX, by omega⟩
    · exact ⟨_, rfl, hTg, by omega⟩
    · exact ⟨_, rfl, hyg, by omega⟩
    · exact ⟨_, rfl, hng, hnn⟩
    · exact ⟨_, rfl, hmg, hmn⟩
  have hRl : [X.row, T.row, Y.row, (XT.mk 4 0 0 [] [] [T]).row, (XT.mk 8 0 0 [] [] [T, Y]).row].length = 5 := rfl
  generalize [X.row, T.row, Y.row, (XT.mk 4 0 0 [] [] [T]).row, (XT.mk 8 0 0 [] [] [T, Y]).row] = RR at hR hRl
  refine AWP.loop (α := Nat) (fun i => [(34, .int .i64 (i : Int)), (33, .int .i64 5), (32, .view 6 RR .shared)]) (fun _ => st') (fun i => i ≤ 5) (fun i => 5 - i) 0 (Nat.zero_le _) (tl3 rfl rfl rfl) (.refl _) ?_
  intro i hi5
  refine AWP.weaken (T' := [(34, .int .i64 (i : Int)), (33, .int .i64 5), (32, .view 6 RR .shared)]) (tl3 rfl rfl rfl) (.refl _) ?_
  by_cases hi : i < 5
  · have hiR : i < RR.length := by omega
    have hg : RR[i]? = some RR[i] := List.getElem?_eq_getElem hiR
    obtain ⟨z, hz, zg, zn⟩ := hR _ (List.getElem_mem hiR)
    rw [hz] at hg
    have z1 := z.row_len
    have p1 := print1_ok z zg zn
    have p2 := print2_ok z zg zn
    rw [z.row_eq] at p1 p2
    repeat (first | refine nl ?_ | refine AWP.seq ?_ | refine rg ?_ | refine AWP.skip ?_ | refine AWP.block ?_ | refine YH (z := ?_) | refine ZA (z := ?_) | refine ZM (z := ?_))
    refine leW rfl rfl rfl hg (by rw [z1]; rfl) ?_
    rw [z.row_eq]
    repeat (first | refine nl ?_ | refine AWP.seq ?_ | refine YA (z := ?_))
    refine AWP.draw rfl 5 5 (fun _ _ => False) rfl ?_
    repeat (refine dp (h := fun _ _ => ZD (z := nz)) (z := ?_))
    refine dq rfl rfl rfl (fun st1 hle => cle rfl rfl (p1 st1 (hT.low hle).tb) (nl ⟨_, rfl, rfl, rfl⟩)) ?_
    repeat (refine dp (h := fun _ _ => ZD (z := nz)) (z := ?_))
    refine dq rfl rfl rfl (fun st1 hle => cle rfl rfl (p2 st1) (nl ⟨_, rfl, rfl, rfl⟩)) ?_
    repeat (refine ds rfl rfl ?_)
    refine dn ⟨fun _ => ?_, fun h => absurd h (by decide)⟩
    have hne : ¬ (prX z ≠ prX z) := fun h => h rfl
    repeat (first | refine nl ?_ | refine rg ?_ | refine AWP.skip ?_ | refine YI (z := ?_) | refine ZA (z := ?_) | refine ZO (z := ?_))
    exact ⟨i + 1, hi, by omega, (tl3 rfl rfl rfl), .refl _⟩
  · repeat (first | refine nl ?_ | refine AWP.seq ?_ | refine rg ?_ | refine YI (z := ?_) | refine ZA (z := ?_))
    refine AWP.exit (blk_hit ?_)
    repeat (first | refine AWP.seq ?_ | refine rg ?_)
    refine cle rfl rfl (awake_ok st' hT) ?_
    repeat (first | refine nl ?_ | refine ZA (z := ?_))
    exact AWP.ret (rets rfl (.refl _) (.refl _) rfl)
end Go.Proofs
/- Arguments whose every part is no larger than memory; a law's contract over them. No conditions: definitions and lemmas only. -/
namespace Go.AM
open Go.RowKit (Below shut_bool)
open Go.ChangeShapes Go.WideShapes Go.ChangeAt

/-- Cells of a type, avs abstract values; no string and no slice larger than memory. -/
def HasTyW (P : Program) : Nat → TypeId → List AV → Prop
  | 0, _, _ => False
  | n + 1, t, cs => match P.underlying t with
    | some .bool => ∃ b, cs = [.bool b]
    | some (.int k) => ∃ x, cs = [.int k x] ∧ (Lit.int k x).wf = true
    | some .string => ∃ l : List UInt8, cs = [.str l] ∧ l.length ≤ reachBytes
    | some (.slice e) => ∃ rows : List (List AV), cs = [.view (P.cellsOf e) rows .shared] ∧ rows.length * P.bytesOf e ≤ reachBytes ∧ ∀ row ∈ rows, HasTyW P n e row
    | some (.struct fs) => cs.length = P.cellsOf t ∧ ∀ f ∈ fs.toList, HasTyW P n f.type ((cs.drop f.offset).take (P.cellsOf f.type))
    | some (.array m e) => cs.length = P.cellsOf t ∧ ∀ i, i < m → HasTyW P n e ((cs.drop (i * P.cellsOf e)).take (P.cellsOf e))
    | _ => False
section
variable {H : Type} {enc : TypeId × Value → H} {P : Program}
theorem weightsAll_get {e : TypeId} {p : Nat → Bool} : ∀ {l : List (DataW H)}, (DataW.weightsAll P e l).all p = true → ∀ d ∈ l, (d.weights P e).all p = true
  | d0 :: r, h, d, hd => by
    unfold DataW.weightsAll at h
    rw [List.all_append, Bool.and_eq_true] at h
    rcases List.mem_cons.1 hd with rfl | hd
    · exact h.1
    · exact weightsAll_get h.2 d hd
theorem trodAll_len {W : World} {sp : Nat → Bool} {held : Bool} : ∀ {ts : List TypeId} {vs : List Value} {ds : List (DataW H)} {p : List MemPlace}, DataW.TrodAll enc P W 0 sp held ts vs ds p → ts.length = vs.length ∧ ds.length = ts.length
  | [], [], [], _, _ => ⟨rfl, rfl⟩
  | t :: ts, v :: vs, d :: ds, p, h => by
    obtain ⟨p1, q1, k1, k2, _⟩ := h
    obtain ⟨h1, h2⟩ := trodAll_len k2
    exact ⟨by simp [h1], by simp [h2]⟩
  | [], _ :: _, _, _, h => h.elim
  | [], [], _ :: _, _, h => h.elim
  | _ :: _, [], _, _, h => h.elim
  | _ :: _, _ :: _, [], _, h => h.elim
theorem choose_args {A : Nat → AV → Prop} : ∀ (n : Nat), (∀ i, i < n → ∃ a, A i a) → ∃ avs : List AV, avs.length = n ∧ ∀ i a, avs[i]? = some a → A i a
  | 0, _ => ⟨[], rfl, fun i a h => by simp at h⟩
  | n + 1, h => by
    obtain ⟨avs, h1, h2⟩ := choose_args n fun i hi => h i (by omega)
    obtain ⟨a, ha⟩ := h n (by omega)
    refine ⟨avs ++ [a], by simp [h1], fun i b hb => ?_⟩
    by_cases hin : i < n
    · rw [List.getElem?_append_left (by omega)] at hb; exact h2 i b hb
    · rw [List.getElem?_append_right (by omega)] at hb
      have hi := (List.getElem?_eq_some_iff.1 hb).1
      simp only [List.length_singleton] at hi
      have : i = n := by omega
      subst this
      rw [h1, Nat.sub_self] at hb
      cases hb
      exact ha
theorem trod_RW {S : List TypeId} (hS : ∀ t ∈ S, kindOk P S t = true) {w : World} {sp : Nat → Bool} (hsp : ∀ b, sp b = true) : ∀ (fuel : Nat) (t : TypeId) (cs : List Value) (d : DataW H) (ps : List MemPlace), t ∈ S →
    DataW.trod enc P w 0 sp true fuel t cs = some (d, ps) → (d.weights P t).all (· ≤ reachBytes) = true → ∃ avs, HasTyW P fuel t avs ∧ RL (G0 w) w avs cs
  | 0, t, cs, d, ps, _, h, _ => by cases h
  | fuel + 1, t, cs, d, ps, ht, h, hw => by
    have hk := hS t ht
    have ih := fun t cs d ps => trod_RW hS (w := w) hsp fuel t cs d ps
    have h0 := h
    unfold DataW.trod at h
    unfold HasTyW
    unfold kindOk at hk
    cases hu : P.underlying t with
    | none => rw [hu] at hk; cases hk
    | some td =>
      rw [hu] at h hk
      cases td <;> simp only [Bool.false_eq_true] at hk
      case bool =>
        split at h <;> first | (cases h; done) | skip
        all_goals (try (rename_i heq _; cases heq; done))
        all_goals (try (rename_i heq; cases heq; done))
        rename_i b heq
        exact ⟨[.bool b], ⟨b, rfl⟩, .single rfl (.bool b)⟩
      case int k =>
        split at h <;> first | (cases h; done) | skip
        all_goals (try (rename_i heq _; cases heq; done))
        all_goals (try (rename_i heq; cases heq; done))
        rename_i k1 k' x heq
        cases heq
        split at h
        · rename_i hc
          obtain ⟨rfl, hwf⟩ := hc
          exact ⟨[.int k' x], ⟨x, rfl, hwf⟩, .single rfl (.int k' x)⟩
        · cases h
      case string =>
        split at h <;> first | (cases h; done) | skip
        all_goals (try (rename_i heq _; cases heq; done))
        all_goals (try (rename_i heq; cases heq; done))
        rename_i s heq
        split at h
        · rename_i hc
          obtain ⟨⟨l⟩⟩ := s
          cases h
          simp only [DataW.weights, List.all_cons, List.all_nil, Bool.and_true, decide_eq_true_eq] at hw
          exact ⟨[.str l], ⟨l, rfl, hw⟩, .single rfl (.str l)⟩
        · cases h
      case slice e =>
        simp only [Bool.and_eq_true] at hk
        obtain ⟨⟨_, heS⟩, hes⟩ := hk
        have heS' : e ∈ S := by simpa using heS
        have hs1 := Nat.ble_le hes
        split at h <;> first | (cases h; done) | skip
        all_goals (try (rename_i heq _; cases heq; done))
        all_goals (try (rename_i heq; cases heq; done))
        · exact ⟨[.view (P.cellsOf e) [] .shared], ⟨[], rfl, by simp, fun row hr => by cases hr⟩, .single rfl (.vnil _ _ trivial)⟩
        · rename_i e' a len cap heq
          cases heq
          simp only at h
          split at h
          · rename_i hc
            obtain ⟨_, hlc, hcm⟩ := hc
            obtain ⟨elems, h1, h2⟩ := Option.bind_eq_some_iff.1 h
            rw [hsp, if_pos rfl] at h2
            obtain ⟨rest, h3, h3'⟩ := Option.map_eq_some_iff.1 h2
            cases h3'
            unfold DataW.weights at hw
            rw [hu] at hw
            simp only [List.all_cons, List.all_append, Bool.and_eq_true, decide_eq_true_eq, List.length_map] at hw
            obtain ⟨hw1, hw2, _⟩ := hw
            have hl1 := mapM_some_length h1
            have hl3 := mapM_some_length h3
            simp only [List.length_range] at hl1 hl3
            -- one element
            have elem : ∀ q, q < cap → ∃ cells x, w.cells? 0 (a.add (q * P.cellsOf e)) (P.cellsOf e) = some cells ∧ DataW.trod enc P w 0 sp true fuel e cells = some x := by
              intro q hq
              have hx : ∃ x, (w.cells? 0 (a.add (q * P.cellsOf e)) (P.cellsOf e)).bind (DataW.trod enc P w 0 sp true fuel e) = some x := by
                by_cases hql : q < len
                · have := mapM_some_get h1 q q (List.getElem?_range hql)
                  rw [List.getElem?_eq_getElem (by omega)] at this
                  exact ⟨_, this⟩
                · have := mapM_some_get h3 (q - len) (q - len) (List.getElem?_range (by omega))
                  rw [List.getElem?_eq_getElem (by omega)] at this
                  rw [show len + (q - len) = q by omega] at this
                  exact ⟨_, this⟩
              obtain ⟨x, hx⟩ := hx
              obtain ⟨cells, h4, h5⟩ := Option.bind_eq_some_iff.1 hx
              exact ⟨cells, x, h4, h5⟩
            by_cases hcap : cap = 0
            · subst hcap
              have : len = 0 := by omega
              subst this
              exact ⟨[.view (P.cellsOf e) [] .shared], ⟨[], rfl, by simp, fun row hr => by cases hr⟩, .single rfl (.vemp _ _ _ (fun h => by cases h) trivial)⟩
            · have hspot : a.spot = none ∧ a.block < w.heap.size := by
                obtain ⟨cells, x, h4, _⟩ := elem 0 (by omega)
                obtain ⟨h6, h7⟩ := cells?_get h4
                have h8 := h7 0 hs1
                rw [List.getElem?_eq_getElem (by omega)] at h8
                simp only [Nat.zero_mul, Addr.add_zero'] at h8
                exact ⟨World.cell?_spot h8, block_lt_of_cell h8⟩
              obtain ⟨b, off, spot⟩ := a
              obtain ⟨rfl, hb⟩ := hspot
              simp only at hb
              obtain ⟨rows, hrl, hrows⟩ := choose_rows (p := fun i row => ∃ cells, w.cells? 0 ((⟨b, off, none⟩ : Addr).add (i * P.cellsOf e)) (P.cellsOf e) = some cells ∧ HasTyW P fuel e row ∧ RL (G0 w) w row cells) len (fun i hi => by
                have g1 := mapM_some_get h1 i i (List.getElem?_range hi)
                rw [List.getElem?_eq_getElem (by omega)] at g1
                obtain ⟨cells, h4, h5⟩ := Option.bind_eq_some_iff.1 g1
                obtain ⟨avs, h6, h7⟩ := ih e cells _ _ heS' h5 (weightsAll_get hw2 _ (List.mem_map.2 ⟨_, List.getElem_mem (by omega), rfl⟩))
                exact ⟨avs, cells, h4, h6, h7⟩)
              have hcellat : ∀ i row, rows[i]? = some row → row.length = P.cellsOf e ∧ ∀ j, j < P.cellsOf e → ∃ v, w.cell? ⟨b, off + (i * P.cellsOf e + j), none⟩ = some v ∧ ∀ c, row[j]? = some c → R (G0 w) w c v := by
                intro i row hr
                obtain ⟨cells, h4, _, h7⟩ := hrows i row hr
                obtain ⟨h8, h9⟩ := cells?_get h4
                refine ⟨h7.len.trans h8, fun j hj => ?_⟩
                have := h9 j hj
                rw [addr_add, addr_add, Nat.add_assoc, List.getElem?_eq_getElem (by omega)] at this
                exact ⟨_, this, fun c hc => h7.rel j c _ hc (List.getElem?_eq_getElem (by omega))⟩
              refine ⟨[.view (P.cellsOf e) rows .shared], ⟨rows, rfl, Nat.le_trans (Nat.mul_le_mul_right _ (by omega)) hw1, fun row hr => ?_⟩, .single rfl ?_⟩
              · obtain ⟨i, hi, rfl⟩ := List.getElem_of_mem hr
                obtain ⟨_, _, h6, _⟩ := hrows i _ (List.getElem?_eq_getElem hi)
                exact h6
              · rw [← hrl]
                refine R.view _ rows .shared b off cap (fun i j => (w.cell? ⟨b, off + (i * P.cellsOf e + j), none⟩).getD undef) (by omega) hcm (fun row hr => ?_) (fun row hr => ?_) trivial (fun i j hi hj => ⟨hb, ?_⟩) (fun i j row c hr hc => ?_)
                · obtain ⟨i, hi, rfl⟩ := List.getElem_of_mem hr
                  exact (hcellat i _ (List.getElem?_eq_getElem hi)).1
                · obtain ⟨i, hi, rfl⟩ := List.getElem_of_mem hr
                  obtain ⟨_, _, _, h7⟩ := hrows i _ (List.getElem?_eq_getElem hi)
                  exact h7.one
                · obtain ⟨v, h1, _⟩ := (hcellat i _ (List.getElem?_eq_getElem hi)).2 j hj
                  rw [h1]; rfl
                · obtain ⟨hl, hh⟩ := hcellat i row hr
                  have hj : j < P.cellsOf e := by rw [← hl]; exact (List.getElem?_eq_some_iff.1 hc).1
                  obtain ⟨v, h1, h2⟩ := hh j hj
                  rw [h1]
                  exact h2 c hc
          · cases h
      case array m e =>
        simp only [Bool.and_eq_true] at hk
        obtain ⟨hsz, heS⟩ := hk
        have heS' : e ∈ S := by simpa using heS
        have hsz' := Nat.eq_of_beq_eq_true hsz
        clear h
        obtain ⟨xs, m0, hm0, hxd, hlen, hxl, h1⟩ := DataW.trod_array hu h0
        obtain rfl : fuel = m0 := by omega
        cases hxd
        unfold DataW.weights at hw
        rw [hu] at hw
        simp only at hw
        · skip
          have hcont : contig 0 (((List.range m).map fun i => (i * P.cellsOf e, P.cellsOf e, e)).map fun x => (x.1, x.2.1)) cs.length = true := by
            rw [List.map_map, hlen, ← hsz']
            have := contig_range (P.cellsOf e) m 0
            rw [Nat.zero_mul, Nat.zero_add] at this
            rw [List.range_eq_range']
            exact this
          obtain ⟨_, hle⟩ := contig_le _ _ _ hcont
          obtain ⟨avs, h2, h3⟩ := segs_R (g := G0 w) (w := w) (p := fun x avs => HasTyW P fuel x.2.2 avs) (cs := cs) _ 0 hcont (fun x hx => by
            simp only [List.mem_map, List.mem_range] at hx
            obtain ⟨i, hi, rfl⟩ := hx
            have := h1 i hi
            rw [List.getElem?_eq_getElem (by omega)] at this
            exact ih e _ _ _ heS' this (weightsAll_get hw _ (List.mem_map.2 ⟨_, List.getElem_mem (by omega), rfl⟩))) (fun x hx => by
            have := hle (x.1, x.2.1) (List.mem_map.2 ⟨x, hx, rfl⟩)
            simp only at this
            simp; omega)
          rw [List.drop_zero] at h2
          refine ⟨avs, ⟨h2.len.trans hlen, fun i hi => ?_⟩, h2⟩
          have := (h3 (i * P.cellsOf e, P.cellsOf e, e) (List.mem_map.2 ⟨i, by simp [hi], rfl⟩)).2
          simpa using this
      case struct fs =>
        simp only [Bool.and_eq_true] at hk
        obtain ⟨hcont0, hall⟩ := hk
        clear h
        obtain ⟨xs, m0, hm0, hxd, hlen, hxl, h1⟩ := DataW.trod_struct hu h0
        obtain rfl : fuel = m0 := by omega
        cases hxd
        unfold DataW.weights at hw
        rw [hu] at hw
        simp only at hw
        · skip
          have hcont : contig 0 ((fs.toList.map fun f => (f.offset, P.cellsOf f.type, f.type)).map fun x => (x.1, x.2.1)) cs.length = true := by
            rw [List.map_map, hlen]
            exact hcont0
          obtain ⟨_, hle⟩ := contig_le _ _ _ hcont
          obtain ⟨avs, h2, h3⟩ := segs_R (g := G0 w) (w := w) (p := fun x avs => HasTyW P fuel x.2.2 avs) (cs := cs) _ 0 hcont (fun x hx => by
            simp only [List.mem_map] at hx
            obtain ⟨f, hf, rfl⟩ := hx
            obtain ⟨i, hi, rfl⟩ := List.getElem_of_mem hf
            have := h1 i _ (by rw [← Array.getElem?_toList]; exact List.getElem?_eq_getElem hi)
            rw [List.getElem?_eq_getElem (by simp at hi; omega)] at this
            have hfS : (fs.toList[i]).type ∈ S := by
              have := List.all_eq_true.1 hall _ (List.getElem_mem hi)
              simpa using this
            have hlx : i < xs.length := by simp at hi; omega
            refine ih _ _ _ _ hfS this (weights_get (us := []) (gs := []) (ts := fs.toList.map (·.type)) (ds := xs.map (·.1)) (by simp [hxl]) (by rw [List.append_nil, List.append_nil]; exact hw) i _ _ (by rw [List.getElem?_map, List.getElem?_eq_getElem hi]; rfl) (by rw [List.getElem?_map, List.getElem?_eq_getElem hlx]; rfl))) (fun x hx => by
            have := hle (x.1, x.2.1) (List.mem_map.2 ⟨x, hx, rfl⟩)
            simp only at this
            simp; omega)
          rw [List.drop_zero] at h2
          refine ⟨avs, ⟨h2.len.trans hlen, fun f hf => ?_⟩, h2⟩
          have := (h3 (f.offset, P.cellsOf f.type, f.type) (List.mem_map.2 ⟨f, hf, rfl⟩)).2
          simpa using this

/-- An argument of a type, its parts no larger than memory. -/
def ArgTyW (P : Program) (t : TypeId) (a : AV) : Prop := ∃ fuel cs, HasTyW P fuel t cs ∧ ((∃ td, P.underlying t = some td ∧ aggD td = true ∧ a = .agg cs) ∨ (∃ td, P.underlying t = some td ∧ aggD td = false ∧ cs = [a]))
theorem HasTyW.one {fuel : Nat} {t : TypeId} {cs : List AV} (h : HasTyW P fuel t cs) {td : TypeDesc} (hu : P.underlying t = some td) (ha : aggD td = false) : ∃ a, cs = [a] ∧ a.cells = [a] := by
  cases fuel with
  | zero => cases h
  | succ n =>
    unfold HasTyW at h
    rw [hu] at h
    cases td <;> simp only [aggD, reduceCtorEq] at ha h
    · obtain ⟨b, rfl⟩ := h; exact ⟨_, rfl, rfl⟩
    · obtain ⟨x, rfl, _⟩ := h; exact ⟨_, rfl, rfl⟩
    · obtain ⟨l, rfl, _⟩ := h; exact ⟨_, rfl, rfl⟩
    · obtain ⟨rows, rfl, _⟩ := h; exact ⟨_, rfl, rfl⟩
theorem arg_RW {S : List TypeId} (hS : ∀ t ∈ S, kindOk P S t = true) {W : World} {t : TypeId} {v : Value} {d : DataW H} {p : List MemPlace} {base : Nat} (ht : t ∈ S) (hok : Value.okWide P W .any base t v)
    (h : DataW.Trod enc P W 0 (fun _ => true) true t v d p) (hw : (d.weights P t).all (· ≤ reachBytes) = true) : ∃ a, R (G0 W) W a v ∧ ArgTyW P t a := by
  obtain ⟨fuel, hf⟩ := h
  obtain ⟨avs, h1, h2⟩ := trod_RW hS (fun _ => rfl) fuel t _ d p ht hf hw
  have hk := hS t ht
  cases hu : P.underlying t with
  | none => unfold kindOk at hk; rw [hu] at hk; cases hk
  | some td =>
    cases ha : aggD td with
    | true =>
      have hv : ∃ cs, v = .agg cs := by
        unfold Value.okWide at hok
        rw [hu] at hok
        cases td <;> simp only [aggD, Bool.false_eq_true] at ha hok
        · obtain ⟨cs, h, _⟩ := hok; exact ⟨cs, h⟩
        · obtain ⟨cs, h, _⟩ := hok; exact ⟨cs, h⟩
      obtain ⟨cs, rfl⟩ := hv
      refine ⟨.agg avs, .agg avs cs (by rw [h2.len]; rfl) h2.one (fun i c v hc hv => h2.rel i c v hc (by simpa [Value.cells] using hv)), fuel, avs, h1, .inl ⟨td, hu, ha, rfl⟩⟩
    | false =>
      obtain ⟨a, rfl, hc⟩ := HasTyW.one h1 hu ha
      have hl := h2.len
      -- one cell
      have hv : v.cells = #[v] := by
        cases v <;> first | rfl | skip
        rename_i cs
        exfalso
        unfold Value.okWide at hok
        rw [hu] at hok
        unfold Cell.okWide Cell.ok at hok
        cases td <;> simp only [aggD, reduceCtorEq] at ha hok <;> (try (rw [hu] at hok; simp at hok)) <;> (try (simp [hu] at hok))
      refine ⟨a, h2.rel 0 a v rfl (by rw [hv]; rfl), fuel, [a], h1, .inr ⟨td, hu, ha, rfl⟩⟩
/-- The contract of a law: its abstract walk answers true whatever the arguments. -/
theorem law_contractW {s : ChangeSpec} {fn : Func} {f : FuncId} {tb : TypeId} {S : List TypeId} (globs : List (Nat × List AV)) (hl : laidOutB P = true) (hS : ∀ t ∈ S, kindOk P S t = true) (hparams : ∀ t ∈ fn.params.toList, t ∈ S ∧ P.readableRec t = true ∧ t < P.types.size)
    (hvars : s.vars = []) (hfn : ∀ ds : List (DataW H), ds.length = fn.params.size → s.fn H ds = { results := [.lit (.bool true)], args := ds }) (hres : fn.resultTypes = #[tb]) (hb : P.underlying tb = some .bool)
    (W : World) (base : Nat) (args : Array Value) (ds gs : List (DataW H)) (before : List MemPlace)
    (hval : ∀ (j : Nat) t v, fn.params[j]? = some t → args[j]? = some v → Value.okWide P W .any base t v)
    (hW : DataW.Whole enc P fn.params.toList s.vars false W args.toList ds gs before)
    {us : List TypeId} (hwt : (DataW.weightsEach P (fn.params.toList ++ us) (ds ++ gs)).all (· ≤ reachBytes) = true)
    (hglob : ∀ gi row, (gi, row) ∈ globs → GlobAt (G0 W) W gi row)
    (walk : ∀ avs : List AV, avs.length = fn.params.size → (∀ (i : Nat) t a, fn.params[i]? = some t → avs[i]? = some a → ArgTyW P t a) →
      ACalls P f avs { obj := fun _ => none, tok := fun _ => false, glob := globs } (fun v _ => v = .bool true) (fun _ _ => False)) :
    Calls P f args W fun e W' => ∃ v, e = .returned v ∧ s.post enc P fn false true false false W args v W' := by
  have hW' := hW
  obtain ⟨p, q, hA, hV, rfl, _, _⟩ := hW
  obtain ⟨l2, l3⟩ := trodAll_len hA
  obtain ⟨avs, l1, hRT⟩ := choose_args (A := fun i a => ∀ t v, fn.params[i]? = some t → args[i]? = some v → R (G0 W) W a v ∧ ArgTyW P t a) args.size (fun i hi => by
    have hv : args.toList[i]? = some args[i] := by rw [Array.getElem?_toList]; exact Array.getElem?_eq_getElem hi
    have hpi : i < fn.params.toList.length := by rw [l2]; simpa using hi
    have ht : fn.params.toList[i]? = some fn.params.toList[i] := List.getElem?_eq_getElem hpi
    have hd : ds[i]? = some (ds[i]'(by omega)) := List.getElem?_eq_getElem _
    obtain ⟨q, hq⟩ := trodAll_get hA i _ _ _ ht hv hd
    obtain ⟨a, h1, h2⟩ := arg_RW hS (hparams _ (List.getElem_mem hpi)).1 (hval i _ _ (by simp) (by simp)) hq (weights_get (by omega) hwt i _ _ ht hd)
    refine ⟨a, fun t v k1 k2 => ?_⟩
    rw [Array.getElem?_eq_getElem hi] at k2
    cases k2
    rw [← Array.getElem?_toList, ht] at k1
    cases k1
    exact ⟨h1, h2⟩)
  rw [hvars] at hV
  obtain ⟨rfl, rfl⟩ := trodVars_none hV
  have hpl : fn.params.size = args.size := by simpa using l2
  have hlen : avs.length = fn.params.size := by rw [l1, hpl]
  have hcall := walk avs hlen (fun i t a h1 h2 => by
    have hi : i < args.size := by rw [← l1]; exact (List.getElem?_eq_some_iff.1 h2).1
    exact (hRT i a h2 t _ h1 (Array.getElem?_eq_getElem hi)).2) (G0 W) W args (Sim0 W globs hglob) l1 (fun i c v h1 h2 => by
    have hi : i < fn.params.size := by rw [← hlen]; exact (List.getElem?_eq_some_iff.1 h1).1
    exact (hRT i c h1 _ v (Array.getElem?_eq_getElem hi) h2).1)
  refine hcall.mono fun e W' ⟨g', st', he, _, hq⟩ => ?_
  cases e with
  | panicked ch => obtain ⟨_, _, _, _, h⟩ := hq; exact h.elim
  | outgrown => exact hq.elim
  | returned rv =>
    obtain ⟨v, hRv, rfl⟩ := hq
    have hrv : rv = .bool true := by cases hRv; rfl
    subst hrv
    have hbelow : Below W.heap.size W W' := he.below
    have hsp := hfn (ds ++ []) (by simp; rw [l3]; simp)
    refine ⟨_, rfl, ds, [], p ++ [], [], p ++ [], [], hW', ?_, ?_, ?_, hbelow.frame _, fun h => by cases h⟩
    · rw [hsp, hres]
      exact trodAll_cons_mk (shut_bool hb true) trodAll_mk0
    · rw [hsp, List.append_nil, List.append_nil]
      exact TrodAll.below hl hbelow _ _ _ _ (fun t ht => (hparams t ht).2) (fun x hx => hW'.lt x (by simpa using hx)) hA
    · rw [hsp, hvars]
      rfl

end
end Go.AM
/- A law's arguments whose parts are no larger than memory, opened by their types. No conditions: lemmas only. -/
namespace Go.AM
section
variable {P : Program} {t : TypeId} {a : AV} {n : Nat} {cs : List AV}
theorem HasTyW.field (h : HasTyW P (n + 1) t cs) (f : Nat) {off : Nat} {ft : TypeId} [hf : Fld P t f off ft] : HasTyW P n ft ((cs.drop off).take (P.cellsOf ft)) := by
  obtain ⟨fs, fld, h1, h2, h3, h4⟩ := hf.out
  unfold HasTyW at h
  rw [h1] at h
  have hm : fld ∈ fs.toList := by
    rw [← Array.getElem?_toList] at h2
    exact List.mem_of_getElem? h2
  have := h.2 fld hm
  rw [h3, h4] at this
  exact this
theorem HasTyW.len {fs : Array Field} (h : HasTyW P (n + 1) t cs) (hu : P.underlying t = some (.struct fs)) : cs.length = P.cellsOf t := by
  unfold HasTyW at h
  rw [hu] at h
  exact h.1
theorem HasTyW.int {k : IntKind} (h : HasTyW P n t cs) (hu : P.underlying t = some (.int k)) : ∃ x, cs = [.int k x] ∧ (Lit.int k x).wf = true := by
  cases n with
  | zero => cases h
  | succ n =>
    unfold HasTyW at h
    rw [hu] at h
    exact h
theorem HasTyW.str (h : HasTyW P n t cs) (hu : P.underlying t = some .string) : ∃ l : List UInt8, cs = [.str l] ∧ l.length ≤ 140737488351232 := by
  cases n with
  | zero => cases h
  | succ n =>
    unfold HasTyW at h
    rw [hu] at h
    exact h
theorem HasTyW.slice {e : TypeId} (h : HasTyW P n t cs) (hu : P.underlying t = some (.slice e)) : ∃ m rows, n = m + 1 ∧ cs = [.view (P.cellsOf e) rows .shared] ∧ rows.length * P.bytesOf e ≤ 140737488351232 ∧ ∀ row ∈ rows, HasTyW P m e row := by
  cases n with
  | zero => cases h
  | succ n =>
    unfold HasTyW at h
    rw [hu] at h
    obtain ⟨rows, h1, h2, h3⟩ := h
    exact ⟨n, rows, rfl, h1, h2, h3⟩
theorem ArgTyW.one {td : TypeDesc} (h : ArgTyW P t a) (hu : P.underlying t = some td) (ha : aggD td = false) : ∃ fuel, HasTyW P fuel t [a] := by
  obtain ⟨fuel, cs, h1, h2⟩ := h
  rcases h2 with ⟨td', hu', ha', _⟩ | ⟨_, _, _, rfl⟩
  · rw [hu] at hu'
    cases hu'
    rw [ha] at ha'
    cases ha'
  · exact ⟨fuel, h1⟩
theorem ArgTyW.agg {td : TypeDesc} (h : ArgTyW P t a) (hu : P.underlying t = some td) (ha : aggD td = true) : ∃ fuel cs, a = .agg cs ∧ HasTyW P fuel t cs := by
  obtain ⟨fuel, cs, h1, h2⟩ := h
  rcases h2 with ⟨td', hu', ha', e⟩ | ⟨td', hu', ha', _⟩
  · exact ⟨fuel, cs, e, h1⟩
  · rw [hu] at hu'
    cases hu'
    rw [ha] at ha'
    cases ha'
theorem argW_int {k : IntKind} (hu : P.underlying t = some (.int k)) (h : ArgTyW P t a) : ∃ x, a = .int k x ∧ (Lit.int k x).wf = true := by
  obtain ⟨fuel, h⟩ := h.one hu rfl
  obtain ⟨x, h1, h2⟩ := h.int hu
  cases h1
  exact ⟨x, rfl, h2⟩
/-- A slice of numbers. -/
theorem argW_ints {e : TypeId} {k : IntKind} (hu : P.underlying t = some (.slice e)) (he : P.underlying e = some (.int k)) (hc : P.cellsOf e = 1) (h : ArgTyW P t a) :
    ∃ l : List Int, a = .view 1 (l.map fun x => [.int k x]) .shared ∧ l.length * P.bytesOf e ≤ 140737488351232 ∧ ∀ x ∈ l, (Lit.int k x).wf = true := by
  obtain ⟨fuel, h⟩ := h.one hu rfl
  obtain ⟨m, rows, rfl, h1, h2, h3⟩ := h.slice hu
  cases h1
  rw [hc]
  have key : ∀ rows : List (List AV), (∀ row ∈ rows, HasTyW P m e row) → ∃ l : List Int, rows = l.map (fun x => [AV.int k x]) ∧ ∀ x ∈ l, (Lit.int k x).wf = true := by
    intro rows
    induction rows with
    | nil => intro _; exact ⟨[], rfl, fun x h => by cases h⟩
    | cons r rs ih =>
      intro hr
      obtain ⟨l, rfl, hl⟩ := ih fun row h => hr row (List.mem_cons_of_mem _ h)
      obtain ⟨x, rfl, hx⟩ := (hr r (by simp)).int he
      refine ⟨x :: l, rfl, fun y hy => ?_⟩
      rcases List.mem_cons.1 hy with rfl | hy
      · exact hx
      · exact hl y hy
  obtain ⟨l, rfl, hl⟩ := key rows h3
  exact ⟨l, rfl, by simpa using h2, hl⟩
end
end Go.AM
/- An argument that is an expression, opened. No conditions: lemmas only. -/
namespace Go.Proofs
open Go.AM

theorem wf64 {x : Int} (h : (Lit.int .i64 x).wf = true) : w64 x := by
  simp only [Lit.wf, Bool.and_eq_true, decide_eq_true_eq] at h
  have h1 : (-9223372036854775808 : Int) ≤ x := h.1
  have h2 : x ≤ (9223372036854775807 : Int) := h.2
  unfold w64
  omega
theorem expr_ty (N : Nat) : ∀ n : Nat, n < N → ∀ cs, HasTyW Tryd.prog n 27 cs → ∃ X : XT, cs = X.row ∧ GX X := by
  induction N with
  | zero => intro n h; omega
  | succ N ihN =>
    intro n hn cs h
    obtain ⟨n, rfl⟩ : ∃ k, n = k + 1 := by
      cases n with
      | zero => exact False.elim h
      | succ n => exact ⟨n, rfl⟩
    have c6 : Program.cellsOf Tryd.prog 27 = 6 := by kernel_rfl
    have c1' : Program.cellsOf Tryd.prog 3 = 1 := by kernel_rfl
    have c1s : Program.cellsOf Tryd.prog 9 = 1 := by kernel_rfl
    have c1v : Program.cellsOf Tryd.prog 25 = 1 := by kernel_rfl
    have hl : cs.length = 6 := (h.len Tryd.underlying27).trans c6
    obtain ⟨c0, c1, c2, c3, c4, c5, rfl⟩ : ∃ c0 c1 c2 c3 c4 c5, cs = [c0, c1, c2, c3, c4, c5] := by
      clear h
      match cs, hl with
      | [c0, c1, c2, c3, c4, c5], _ => exact ⟨_, _, _, _, _, _, rfl⟩
    have f0 := h.field 0
    have f1 := h.field 1
    have f2 := h.field 2
    have f3 := h.field 3
    have f4 := h.field 4
    have f5 := h.field 5
    rw [c1'] at f0 f1 f2
    rw [c1s] at f3 f4
    rw [c1v] at f5
    obtain ⟨x0, e0, w0⟩ := f0.int Tryd.underlying3
    obtain ⟨x1, e1, w1⟩ := f1.int Tryd.underlying3
    obtain ⟨x2, e2, w2⟩ := f2.int Tryd.underlying3
    obtain ⟨x3, e3, w3⟩ := f3.str Tryd.underlying9
    obtain ⟨x4, e4, w4⟩ := f4.str Tryd.underlying9
    obtain ⟨m, rows, rfl, e5, w5, hr⟩ := f5.slice Tryd.underlying25
    rw [c6] at e5
    have e0 : c0 = .int .i64 x0 := by have : [c0] = _ := e0; exact List.cons.inj this |>.1
    have e1 : c1 = .int .i64 x1 := by have : [c1] = _ := e1; exact List.cons.inj this |>.1
    have e2 : c2 = .int .i64 x2 := by have : [c2] = _ := e2; exact List.cons.inj this |>.1
    have e3 : c3 = .str x3 := by have : [c3] = _ := e3; exact List.cons.inj this |>.1
    have e4 : c4 = .str x4 := by have : [c4] = _ := e4; exact List.cons.inj this |>.1
    have e5 : c5 = .view 6 rows .shared := by have : [c5] = _ := e5; exact List.cons.inj this |>.1
    have ih := ihN m (by omega)
    have key : ∀ rows : List (List AV), (∀ row ∈ rows, HasTyW Tryd.prog m 27 row) → ∃ l : List XT, rows = l.map XT.row ∧ ∀ x ∈ l, GX x := by
      intro rows
      induction rows with
      | nil => intro _; exact ⟨[], rfl, fun x h => by cases h⟩
      | cons r rs ih2 =>
        intro hr
        obtain ⟨l, rfl, hl⟩ := ih2 fun row h => hr row (List.mem_cons_of_mem _ h)
        obtain ⟨x, rfl, hx⟩ := ih r (hr r (by simp))
        refine ⟨x :: l, rfl, fun y hy => ?_⟩
        rcases List.mem_cons.1 hy with rfl | hy
        · exact hx
        · exact hl y hy
    obtain ⟨l, rfl, hl⟩ := key rows hr
    refine ⟨.mk x0 x1 x2 x3 x4 l, ?_, .mk _ _ _ _ _ _ (wf64 w0) (wf64 w1) w3 w4 hl⟩
    rw [XT.row_mk, e0, e1, e2, e3, e4, e5]
    rfl
theorem arg_expr {a : AV} (h : ArgTyW Tryd.prog 27 a) : ∃ X : XT, a = .agg X.row ∧ GX X := by
  obtain ⟨fuel, cs, e, h2⟩ := h.agg Tryd.underlying27 rfl
  obtain ⟨X, rfl, hX⟩ := expr_ty _ fuel (Nat.lt_succ_self _) cs h2
  subst e
  exact ⟨X, rfl, hX⟩
end Go.Proofs
