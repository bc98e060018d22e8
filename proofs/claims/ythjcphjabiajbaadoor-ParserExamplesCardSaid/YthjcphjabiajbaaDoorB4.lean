/- Tokens and the lexer, in plain lists of bytes. No conditions: definitions only. -/
import Derived.Test.YthjcphjabiajbaaDoorB3
namespace Go.Proofs
open Go.AM

structure Tk where
  kind : Nat
  line : Nat
  text : List UInt8
  num : Nat
  deriving DecidableEq

def tokRow (t : Tk) : List AV := [.int .i64 (t.kind : Int), .int .i64 (t.line : Int), .str t.text, .int .i64 (t.num : Int)]

def isLet (c : UInt8) : Bool := (decide (97 ≤ c.toNat) && decide (c.toNat ≤ 122)) || (decide (65 ≤ c.toNat) && decide (c.toNat ≤ 90)) || decide (c.toNat = 95)
def isDig (c : UInt8) : Bool := decide (48 ≤ c.toNat) && decide (c.toNat ≤ 57)
def isNP (c : UInt8) : Bool := isLet c || isDig c

/-- Blanks and comments are passed; the first: within a comment. -/
def skip : Bool → List UInt8 → Nat → List UInt8 × Nat
  | _, [], l => ([], l)
  | cm, c :: r, l => if c = 10 then skip false r (l + 1) else bif cm then skip true r l else if c = 32 ∨ c = 9 ∨ c = 13 then skip false r l else if c = 47 ∧ r.head? = some 47 then skip true r l else (c :: r, l)

def words : List (List UInt8) := [[114, 101, 99, 111, 114, 100], [102, 117, 110, 99], [118, 97, 114], [105, 110, 116], [105, 102], [101, 108, 115, 101], [119, 104, 105, 108, 101], [114, 101, 116, 117, 114, 110], [116, 104, 114, 111, 119], [116, 114, 121], [99, 97, 116, 99, 104], [112, 114, 105, 110, 116]]
def signs2 : List (List UInt8) := [[60, 61], [61, 61], [33, 61]]
def signs1 : List UInt8 := [40, 41, 123, 125, 91, 93, 44, 59, 58, 46, 43, 45, 42, 47, 37, 38, 124, 94, 60, 61, 33]

def sign (s : List UInt8) : List UInt8 :=
  if s.take 2 ∈ signs2 then s.take 2 else match s with
    | c :: _ => if c ∈ signs1 then [c] else []
    | [] => []

def digits (l : List UInt8) : Nat := l.foldl (fun v c => v * 10 + (c.toNat - 48)) 0

/-- The token that begins here, and how many bytes it has; or an error. -/
def one (s : List UInt8) (line : Nat) : Except Nat (Tk × Nat) :=
  match s with
  | [] => .error 6
  | c :: _ => bif isLet c then (let nm := s.takeWhile isNP; if 12 < nm.length then .error 5 else .ok (⟨if nm ∈ words then 3 else 1, line, nm, 0⟩, nm.length))
    else bif isDig c then (let ds := s.takeWhile isDig; if 18 < ds.length then .error 5 else if ((s.drop ds.length).head?.map isNP).getD false = true then .error 6 else .ok (⟨2, line, [], digits ds⟩, ds.length))
    else if sign s = [] then .error 6 else .ok (⟨4, line, sign s, 0⟩, (sign s).length)

def scanL : Nat → List UInt8 → Nat → List Tk → List Tk × Nat × Nat
  | 0, _, _, _ => ([], 0, 0)
  | _ + 1, [], line, out => (out ++ [⟨0, line, [], 0⟩], 0, 0)
  | k + 1, c :: r, line, out => match one (c :: r) line with
    | .error e => ([], line, e)
    | .ok (t, m) => if 2000 ≤ out.length then ([], line, 5) else
      scanL k (skip false ((c :: r).drop m) line).1 (skip false ((c :: r).drop m) line).2 (out ++ [t])

def scan (s : List UInt8) : List Tk × Nat × Nat :=
  if 4000 < s.length then ([], 0, 5) else scanL (s.length + 1) (skip false s 1).1 (skip false s 1).2 []

def scanV (r : List Tk × Nat × Nat) : AV := .tuple [.view 4 (r.1.map tokRow) .shared, .int .i64 (r.2.1 : Int), .int .i64 (r.2.2 : Int)]
end Go.Proofs
/- The walks of the lexer's small functions. No conditions: lemmas only. -/
namespace Go.Proofs
open Go.AM

def digA (r : Nat) : Bool := decide (48 ≤ r) && decide (r ≤ 57)
def letA (r : Nat) : Bool := (decide (97 ≤ r) && decide (r ≤ 122)) || (decide (65 ≤ r) && decide (r ≤ 90)) || decide (r = 95)
def npA (r : Nat) : Bool := letA r || digA r

theorem isDigit_ok (r : Nat) (st : St) : ACalls Tryd.prog 40 [.int .i32 (r : Int)] st (fun v st' => v = .bool (digA r) ∧ st' = st) (fun _ _ => False) := by
  refine ACalls.ofBody Tryd.func40 rfl Tryd.ntmps40 rfl ?_
  repeat (first | refine nl ?_ | refine AWP.seq ?_ | refine rg ?_ | refine sm rfl ?_)
  refine AOps.split 5 rfl (fun h => ?_) (fun h => ?_)
  · have h' : 48 ≤ r := by have : (48 : Int) ≤ (r : Int) := h; omega
    repeat (first | refine nl ?_ | refine sm rfl ?_)
    refine AWP.ret (rets rfl (.refl _) (.refl _) ⟨?_, rfl⟩)
    simp only [packA, digA, h', decide_true, Bool.true_and]
    congr 1
    exact decide_eq_decide.2 (by omega)
  · have h' : ¬ 48 ≤ r := by have : ¬ (48 : Int) ≤ (r : Int) := h; omega
    repeat (first | refine nl ?_ | refine sm rfl ?_ | refine uw rfl ?_)
    refine AWP.ret (rets rfl (.refl _) (.refl _) ⟨?_, rfl⟩)
    simp [packA, digA, h', absV, abs1]

theorem notNl_ok (r : Nat) (st : St) : ACalls Tryd.prog 39 [.int .i32 (r : Int)] st (fun v st' => v = .bool (decide (r ≠ 10)) ∧ st' = st) (fun _ _ => False) := by
  refine ACalls.ofBody Tryd.func39 rfl Tryd.ntmps39 rfl ?_
  repeat (first | refine nl ?_ | refine AWP.seq ?_ | refine rg ?_ | refine sm rfl ?_)
  refine AWP.ret (rets rfl (.refl _) (.refl _) ⟨?_, rfl⟩)
  simp only [packA]
  congr 1
  exact decide_eq_decide.2 (by omega)

theorem isNamePart_ok (r : Nat) (st : St) : ACalls Tryd.prog 42 [.int .i32 (r : Int)] st (fun v st' => v = .bool (npA r) ∧ st' = st) (fun _ _ => False) := by
  refine ACalls.ofBody Tryd.func42 rfl Tryd.ntmps42 rfl ?_
  have fin : ∀ {b : Bool}, b = npA r → AV.bool b = .bool (npA r) := fun h => by rw [h]
  repeat (first | refine nl ?_ | refine AWP.seq ?_ | refine rg ?_ | refine sm rfl ?_)
  refine AOps.split 5 rfl (fun h => ?_) (fun h => ?_)
  · have h' : 97 ≤ r := by have : (97 : Int) ≤ (r : Int) := h; omega
    repeat (refine sm rfl ?_)
    refine AOps.split 9 rfl (fun h2 => ?_) (fun h2 => ?_)
    · have h2' : r ≤ 122 := by have : (r : Int) ≤ 122 := h2; omega
      repeat (first | refine nl ?_ | refine sm rfl ?_ | refine uw rfl ?_)
      exact AWP.ret (rets rfl (.refl _) (.refl _) ⟨fin (by simp [npA, letA, h', h2']), rfl⟩)
    · have h2' : ¬ r ≤ 122 := by have : ¬ (r : Int) ≤ 122 := h2; omega
      repeat (refine sm rfl ?_)
      refine AOps.split 12 rfl (fun h3 => ?_) (fun h3 => absurd (show (65 : Int) ≤ (r : Int) by omega) h3)
      repeat (refine sm rfl ?_)
      refine AOps.split 17 rfl (fun h4 => absurd (show (r : Int) ≤ 90 from h4) (by omega)) (fun h4 => ?_)
      repeat (refine sm rfl ?_)
      refine AOps.split 21 rfl (fun h5 => absurd (show (r : Int) = 95 from h5) (by omega)) (fun h5 => ?_)
      repeat (refine sm rfl ?_)
      refine cle rfl rfl (isDigit_ok r st) ?_
      repeat (first | refine nl ?_ | refine sm rfl ?_)
      refine AWP.ret (rets rfl (.refl _) (.refl _) ⟨fin ?_, rfl⟩)
      simp only [npA, letA, h2', show ¬ r ≤ 90 by omega, show ¬ r = 95 by omega, decide_false, Bool.and_false, Bool.or_false, Bool.false_or]
  · have h' : ¬ 97 ≤ r := by have : ¬ (97 : Int) ≤ (r : Int) := h; omega
    repeat (first | refine sm rfl ?_ | refine uw rfl ?_)
    refine AOps.split 12 rfl (fun h3 => ?_) (fun h3 => ?_)
    · have h3' : 65 ≤ r := by have : (65 : Int) ≤ (r : Int) := h3; omega
      repeat (refine sm rfl ?_)
      refine AOps.split 17 rfl (fun h4 => ?_) (fun h4 => ?_)
      · have h4' : r ≤ 90 := by have : (r : Int) ≤ 90 := h4; omega
        repeat (first | refine nl ?_ | refine sm rfl ?_ | refine uw rfl ?_)
        exact AWP.ret (rets rfl (.refl _) (.refl _) ⟨fin (by simp [npA, letA, h3', h4']), rfl⟩)
      · have h4' : ¬ r ≤ 90 := by have : ¬ (r : Int) ≤ 90 := h4; omega
        repeat (refine sm rfl ?_)
        refine AOps.split 21 rfl (fun h5 => ?_) (fun h5 => ?_)
        · have h5' : r = 95 := by have : (r : Int) = 95 := h5; omega
          repeat (first | refine nl ?_ | refine sm rfl ?_ | refine uw rfl ?_)
          exact AWP.ret (rets rfl (.refl _) (.refl _) ⟨fin (by simp [npA, letA, h5']), rfl⟩)
        · have h5' : ¬ r = 95 := by have : ¬ (r : Int) = 95 := h5; omega
          repeat (refine sm rfl ?_)
          refine cle rfl rfl (isDigit_ok r st) ?_
          repeat (first | refine nl ?_ | refine sm rfl ?_)
          refine AWP.ret (rets rfl (.refl _) (.refl _) ⟨fin ?_, rfl⟩)
          simp only [npA, letA, h', h4', h5', decide_false, Bool.false_and, Bool.and_false, Bool.or_false, Bool.false_or]
    · have h3' : ¬ 65 ≤ r := by have : ¬ (65 : Int) ≤ (r : Int) := h3; omega
      repeat (first | refine sm rfl ?_ | refine uw rfl ?_)
      refine AOps.split 21 rfl (fun h5 => absurd (show (r : Int) = 95 from h5) (by omega)) (fun h5 => ?_)
      repeat (refine sm rfl ?_)
      refine cle rfl rfl (isDigit_ok r st) ?_
      repeat (first | refine nl ?_ | refine sm rfl ?_)
      refine AWP.ret (rets rfl (.refl _) (.refl _) ⟨fin ?_, rfl⟩)
      simp only [npA, letA, h', h3', show ¬ r = 95 by omega, decide_false, Bool.false_and, Bool.or_false, Bool.false_or]

theorem hasPrefixL_ok (s p : List UInt8) (st : St) : ACalls Tryd.prog 50 [.str s, .str p] st (fun v st' => v = .bool (decide (s.take p.length = p)) ∧ st' = st) (fun _ _ => False) := by
  refine ACalls.ofBody Tryd.func50 rfl Tryd.ntmps50 rfl ?_
  repeat (first | refine nl ?_ | refine AWP.seq ?_ | refine rg ?_ | refine sm rfl ?_ | refine lns rfl rfl ?_)
  refine AOps.split 10 rfl (fun h => ?_) (fun h => ?_)
  · have h' : p.length ≤ s.length := by have : (p.length : Int) ≤ (s.length : Int) := h; omega
    repeat (first | refine nl ?_ | refine sm rfl ?_ | refine lns rfl rfl ?_ | refine ssh rfl rfl rfl (by omega) ?_)
    exact AWP.ret (rets rfl (.refl _) (.refl _) ⟨rfl, rfl⟩)
  · have h' : ¬ p.length ≤ s.length := by have : ¬ (p.length : Int) ≤ (s.length : Int) := h; omega
    repeat (first | refine nl ?_ | refine sm rfl ?_ | refine uw rfl ?_)
    refine AWP.ret (rets rfl (.refl _) (.refl _) ⟨?_, rfl⟩)
    have : ¬ s.take p.length = p := fun e => by
      have := congrArg List.length e
      simp only [List.length_take] at this
      omega
    simp [packA, absV, abs1, this]

theorem hasPrefix_ok (s p : List UInt8) (st : St) : ACalls Tryd.prog 37 [.str s, .str p] st (fun v st' => v = .bool (decide (s.take p.length = p)) ∧ st' = st) (fun _ _ => False) := by
  refine ACalls.ofBody Tryd.func37 rfl Tryd.ntmps37 rfl ?_
  repeat (first | refine nl ?_ | refine AWP.seq ?_ | refine rg ?_ | refine sm rfl ?_)
  refine cle rfl rfl (hasPrefixL_ok s p st) ?_
  repeat (first | refine nl ?_ | refine sm rfl ?_)
  exact AWP.ret (rets rfl (.refl _) (.refl _) ⟨rfl, rfl⟩)
end Go.Proofs
/- The walk of prefix. No conditions: lemmas only. -/
namespace Go.Proofs
open Go.AM

theorem tw_len {q : UInt8 → Bool} {l : List UInt8} : ∀ {p : Nat}, (∀ j, j < p → ∃ b, l[j]? = some b ∧ q b = true) → ((∃ c, l[p]? = some c ∧ q c = false) ∨ l.length ≤ p) → p ≤ l.length → (l.takeWhile q).length = p := by
  induction l with
  | nil => intro p _ _ h; simp at h; simp [h]
  | cons a l ih =>
    intro p h1 h2 h3
    cases p with
    | zero =>
      rcases h2 with ⟨c, hc, hq⟩ | h
      · cases hc
        simp [hq]
      · simp at h
    | succ p =>
      obtain ⟨b, hb, hq⟩ := h1 0 (by omega)
      cases hb
      rw [List.takeWhile_cons, hq, if_pos rfl, List.length_cons]
      rw [ih (p := p) (fun j hj => h1 (j + 1) (by omega)) (by
        rcases h2 with ⟨c, hc, hq⟩ | h
        · exact .inl ⟨c, hc, hq⟩
        · exact .inr (by simpa using h)) (by simpa using h3)]

set_option maxHeartbeats 1000000 in
theorem prefix_ok (l : List UInt8) (f : Nat) [GoFun Tryd.prog f] (acc : Nat → Bool) (hacc : ∀ r, 128 ≤ r → acc r = acc 128) (st : St)
    (hf : ∀ (r : Nat) (st : St), ACalls Tryd.prog f [.int .i32 (r : Int)] st (fun v st' => v = .bool (acc r) ∧ st' = st) (fun _ _ => False)) :
    ACalls Tryd.prog 38 [.str l, .func (.func f) [] []] st (fun v st' => v = .int .i64 ((l.takeWhile fun c => acc c.toNat).length : Int) ∧ st' = st) (fun _ _ => False) := by
  refine ACalls.ofBody Tryd.func38 rfl Tryd.ntmps38 rfl ?_
  repeat (first | refine nl ?_ | refine AWP.seq ?_ | refine rg ?_ | refine sm rfl ?_)
  refine rgs rfl rfl fun o ho => ?_
  repeat (first | refine nl ?_ | refine AWP.block ?_)
  refine AWP.loop (α := Nat) (fun _ => [(8, .iter o), (0, .str l), (1, .func (.func f) [] [])]) (fun p => st.set o (.iter l p)) (fun p => p ≤ l.length ∧ ∀ j, j < p → ∃ b, l[j]? = some b ∧ acc b.toNat = true) (fun p => l.length - p) 0 ⟨Nat.zero_le _, fun j hj => by omega⟩ (tl3 rfl rfl rfl) (.refl _) ?_
  rintro p ⟨hp, hall⟩
  repeat (refine AWP.seq ?_)
  refine rg ?_
  rcases Nat.lt_or_ge p l.length with hlt | hge
  · have hc : l[p]? = some l[p] := List.getElem?_eq_getElem hlt
    refine nxu rfl rfl (St.obj_set _ _ _) hc fun r w hch => ?_
    rw [St.set_set]
    repeat (first | refine nl ?_ | refine AWP.seq ?_ | refine sm rfl ?_)
    refine AWP.cond_true rfl (AWP.skip ?_)
    repeat (first | refine nl ?_ | refine AWP.seq ?_ | refine rg ?_ | refine AWP.block ?_ | refine sm rfl ?_)
    refine clv rfl rfl rfl (hf r _) ?_
    repeat (first | refine nl ?_ | refine sm rfl ?_)
    have hpos := hch.pos
    have hle := hch.le
    have hre : acc r = acc (l[p]).toNat := by
      rcases Nat.lt_or_ge (l[p]).toNat 128 with h | h
      · rw [(hch.low h).1]
      · rw [hacc r (hch.high h).1, hacc _ h]
    refine AWP.cond_bool rfl (fun hb => ?_) (fun hb => AWP.skip ?_)
    · have hb' : acc (l[p]).toNat = false := by rw [← hre]; simpa using hb
      repeat (first | refine nl ?_ | refine AWP.seq ?_ | refine rg ?_ | refine sm rfl ?_)
      refine AWP.ret (rets rfl (.refl _) (StLe.new ho (.refl _)) ⟨?_, rfl⟩)
      rw [tw_len (q := fun c => acc c.toNat) hall (.inl ⟨_, hc, hb'⟩) hp]
      rfl
    · have hb' : acc (l[p]).toNat = true := by rw [← hre]; simpa using hb
      refine ⟨p + w, ⟨hle, fun j hj => ?_⟩, by omega, (tl3 rfl rfl rfl), .refl _⟩
      rcases Nat.lt_or_ge j p with h | h
      · exact hall j h
      · rcases Nat.lt_or_ge (l[p]).toNat 128 with h' | h'
        · have := (hch.low h').2
          have : j = p := by omega
          subst this
          exact ⟨_, hc, hb'⟩
        · obtain ⟨b, hb1, hb2⟩ := (hch.high h').2 j h hj
          refine ⟨b, hb1, ?_⟩
          rw [hacc _ hb2, ← hacc _ h', hb']
  · refine nxe rfl rfl (St.obj_set _ _ _) hge ?_
    repeat (first | refine nl ?_ | refine AWP.seq ?_ | refine sm rfl ?_)
    refine AWP.cond_false rfl (AWP.exit (blk_hit ?_))
    repeat (first | refine nl ?_ | refine AWP.seq ?_ | refine rg ?_ | refine sm rfl ?_ | refine lns rfl rfl ?_)
    refine AWP.ret (rets rfl (.refl _) (StLe.new ho (.refl _)) ⟨?_, rfl⟩)
    rw [tw_len (q := fun c => acc c.toNat) hall (.inr hge) hp]
    have : p = l.length := by omega
    rw [this]
    rfl
end Go.Proofs
/- The walk of the scanner's skip. No conditions: definitions and lemmas only. -/
namespace Go.Proofs
open Go.AM

theorem skip_comment : ∀ (x : List UInt8) (l : Nat), skip true x l = skip false (x.drop (x.takeWhile fun c => decide (c.toNat ≠ 10)).length) l
  | [], l => rfl
  | c :: r, l => by
    by_cases hc : c = 10
    · subst hc
      rfl
    · have hn : c.toNat ≠ 10 := fun h => hc (UInt8.toNat_inj.1 h)
      rw [skip, if_neg hc, cond_true, skip_comment r l, List.takeWhile_cons, if_pos (by simpa using hn), List.length_cons, List.drop_succ_cons]

def scanRow (s : List UInt8) (pos line : Nat) (om : Nat) : List AV := [.str s, .int .i64 (pos : Int), .int .i64 (line : Int), .amap om]

theorem skip_le : ∀ (cm : Bool) (x : List UInt8) (l : Nat), (skip cm x l).1.length ≤ x.length ∧ (skip cm x l).2 ≤ l + x.length ∧ l ≤ (skip cm x l).2 ∧ ∃ k, (skip cm x l).1 = x.drop k
  | cm, [], l => by simp [skip]
  | cm, c :: r, l => by
    have pass : ∀ cm' l', l ≤ l' → l' ≤ l + 1 → ((skip cm' r l').1.length ≤ (c :: r).length ∧ (skip cm' r l').2 ≤ l + (c :: r).length ∧ l ≤ (skip cm' r l').2 ∧ ∃ k, (skip cm' r l').1 = (c :: r).drop k) := by
      intro cm' l' h1 h2
      obtain ⟨q1, q2, q3, k, q4⟩ := skip_le cm' r l'
      refine ⟨?_, ?_, by omega, k + 1, by rw [q4, List.drop_succ_cons]⟩
      · simp only [List.length_cons]; omega
      · simp only [List.length_cons]; omega
    unfold skip
    split
    · exact pass _ _ (by omega) (by omega)
    · cases cm
      · rw [cond_false]
        split
        · exact pass _ _ (by omega) (by omega)
        · split
          · exact pass _ _ (by omega) (by omega)
          · exact ⟨Nat.le_refl _, by simp, Nat.le_refl _, 0, rfl⟩
      · exact pass _ _ (by omega) (by omega)

set_option maxHeartbeats 4000000 in
theorem skip_ok (s : List UInt8) (hs : s.length ≤ 1000000) (pos line om os : Nat) (hp : pos ≤ s.length) (hline : line ≤ 1000000 + pos) (st : St) :
    ACalls Tryd.prog 25 [.cptr os 4 0 0] (st.set os (.cells 76 4 [scanRow s pos line om]))
      (fun _ st' => st' = st.set os (.cells 76 4 [scanRow s (s.length - (skip false (s.drop pos) line).1.length) (skip false (s.drop pos) line).2 om])) (fun _ _ => False) := by
  refine ACalls.ofBody Tryd.func25 rfl Tryd.ntmps25 rfl ?_
  repeat (refine AWP.block ?_)
  refine AWP.loop (α := Nat × Nat) (fun _ => [(0, .cptr os 4 0 0)]) (fun x => st.set os (.cells 76 4 [scanRow s x.1 x.2 om])) (fun x => x.1 ≤ s.length ∧ x.2 ≤ 1000000 + x.1 ∧ skip false (s.drop x.1) x.2 = skip false (s.drop pos) line) (fun x => s.length - x.1) (pos, line) ⟨hp, hline, rfl⟩ (tl1 rfl) (.refl _) ?_
  rintro ⟨p, ln⟩ ⟨h1, h2, h3⟩
  simp only at h1 h2 h3
  repeat (refine AWP.seq ?_)
  refine AWP.draw rfl 10 10 (fun _ _ => False) rfl ?_
  repeat (first | refine ds rfl rfl ?_ | refine dq rfl rfl rfl (fun st1 hle => fa rfl rfl (nl ⟨_, rfl, rfl, rfl⟩)) ?_ | refine dq rfl rfl rfl (fun st1 hle => lns rfl rfl (nl ⟨_, rfl, rfl, rfl⟩)) ?_ | refine dq rfl rfl rfl (fun st1 hle => lc rfl rfl (hle.obj _ _ (St.obj_set _ _ _)) rfl rfl (nl ⟨_, rfl, rfl, rfl⟩)) ?_)
  refine dn ⟨fun _ => ?_, fun h => absurd h (by decide)⟩
  repeat (refine nl ?_)
  refine AWP.cond_dec rfl (fun h => AWP.skip ?_) (fun h => AWP.exit (blk_hit ?_))
  · have hlt : p < s.length := by have : (p : Int) < (s.length : Int) := h; omega
    have hc : s[p]? = some s[p] := List.getElem?_eq_getElem hlt
    have hd : s.drop p = s[p] :: s.drop (p + 1) := List.drop_eq_getElem_cons hlt
    generalize s[p] = c at hc hd
    refine AWP.weaken (tl1 (i0 := 0) rfl) (.refl _) ?_
    repeat (first | refine AWP.seq ?_ | refine AWP.block ?_)
    refine AWP.draw rfl 10 10 (fun _ _ => False) rfl ?_
    repeat (first | refine ds rfl rfl ?_ | refine dq rfl rfl rfl (fun st1 hle => fa rfl rfl (nl ⟨_, rfl, rfl, rfl⟩)) ?_ | refine dq rfl rfl rfl (fun st1 hle => lc rfl rfl (hle.obj _ _ (St.obj_set _ _ _)) rfl rfl (nl ⟨_, rfl, rfl, rfl⟩)) ?_ | refine dq rfl rfl rfl (fun st1 hle => sx rfl rfl rfl rfl (by assumption) (nl ⟨_, rfl, rfl, rfl⟩)) ?_)
    refine dn ⟨fun _ => ?_, fun h => absurd h (by decide)⟩
    repeat (first | refine nl ?_ | refine AWP.seq ?_ | refine rg ?_ | refine AWP.block ?_ | refine sm rfl ?_)
    have hcn : ∀ k : Nat, ((c.toNat : Int) = (k : Int)) ↔ c.toNat = k := fun k => by omega
    refine AWP.cond_dec rfl (fun h => ?_) (fun h => ?_)
    · have hc10 : c = 10 := UInt8.toNat_inj.1 (by have : (c.toNat : Int) = 10 := h; show c.toNat = 10; omega)
      repeat (first | refine AWP.seq ?_ | refine rg ?_ | refine sm rfl ?_ | refine fa rfl rfl ?_ | refine lc rfl rfl (St.obj_set _ _ _) rfl rfl ?_ | refine inc rfl rfl rfl (by omega) ?_)
      refine sos (rows' := [scanRow s p (ln + 1) om]) rfl rfl rfl rfl rfl rfl rfl rfl ?_
      repeat (first | refine nl ?_ | refine rg ?_ | refine sm rfl ?_ | refine fa rfl rfl ?_ | refine lc rfl rfl (St.obj_set _ _ _) rfl rfl ?_ | refine inc rfl rfl rfl (by omega) ?_)
      refine sos (rows' := [scanRow s (p + 1) (ln + 1) om]) rfl rfl rfl rfl rfl rfl rfl rfl ?_
      repeat (refine nl ?_)
      refine ⟨(p + 1, ln + 1), ⟨hlt, by simp only; omega, ?_⟩, by simp only; omega, (tl1 rfl), .refl _⟩
      rw [← h3, hd, hc10]
      rfl
    · have hc10 : c ≠ 10 := fun e => h (by rw [e]; rfl)
      have hnum : ∀ k : UInt8, ((c.toNat : Int) = (k.toNat : Int)) ↔ c = k := fun k => by
        rw [Int.ofNat_inj]
        exact UInt8.toNat_inj
      refine AWP.weaken (tl2 (i0 := 2) (i1 := 0) rfl rfl) (.refl _) ?_
      refine tst 39 (.bool (decide (c = 32 ∨ c = 9 ∨ c = 13))) (rg ?_) ?_
      · repeat (refine sm rfl ?_)
        refine AOps.split 42 rfl (fun h1 => ?_) (fun h1 => ?_)
        · have h1' : c = 32 := (hnum 32).1 h1
          repeat (first | refine sm rfl ?_ | refine uw rfl ?_)
          exact nl ⟨TLe.consE rfl (by simp [h1', absV, abs1]) (tl2 rfl rfl), .refl _⟩
        · have h1' : c ≠ 32 := fun e => h1 ((hnum 32).2 e)
          repeat (refine sm rfl ?_)
          refine AOps.split 46 rfl (fun h2 => ?_) (fun h2 => ?_)
          · have h2' : c = 9 := (hnum 9).1 h2
            repeat (first | refine sm rfl ?_ | refine uw rfl ?_)
            exact nl ⟨TLe.consE rfl (by simp [h2', absV, abs1]) (tl2 rfl rfl), .refl _⟩
          · have h2' : c ≠ 9 := fun e => h2 ((hnum 9).2 e)
            repeat (refine sm rfl ?_)
            exact nl ⟨TLe.consE rfl (by simp only [h1', h2', false_or]; congr 1; exact decide_eq_decide.2 (hnum 13)) (tl2 rfl rfl), .refl _⟩
      · refine AWP.cond_dec rfl (fun hb => ?_) (fun hb => ?_)
        · repeat (first | refine rg ?_ | refine sm rfl ?_ | refine fa rfl rfl ?_ | refine lc rfl rfl (St.obj_set _ _ _) rfl rfl ?_ | refine inc rfl rfl rfl (by omega) ?_)
          refine sos (rows' := [scanRow s (p + 1) ln om]) rfl rfl rfl rfl rfl rfl rfl rfl ?_
          repeat (refine nl ?_)
          refine ⟨(p + 1, ln), ⟨hlt, by simp only; omega, ?_⟩, by simp only; omega, (tl1 rfl), .refl _⟩
          rw [← h3, hd, skip, if_neg hc10, cond_false, if_pos hb]
        · have hpl : p ≤ s.length := h1
          repeat (refine AWP.seq ?_)
          refine AWP.draw rfl 8 8 (fun _ _ => False) rfl ?_
          repeat (first | refine ds rfl rfl ?_ | refine dq rfl rfl rfl (fun st1 hle => fa rfl rfl (nl ⟨_, rfl, rfl, rfl⟩)) ?_ | refine dq rfl rfl rfl (fun st1 hle => lc rfl rfl (hle.obj _ _ (St.obj_set _ _ _)) rfl rfl (nl ⟨_, rfl, rfl, rfl⟩)) ?_)
          refine dn ⟨fun _ => ?_, fun h => absurd h (by decide)⟩
          repeat (refine ssl rfl rfl rfl (by omega) ?_)
          refine cle rfl rfl (hasPrefix_ok (s.drop p) [47, 47] _) ?_
          repeat (first | refine nl ?_ | refine sm rfl ?_)
          have htw : (s.drop p).take [47, 47].length = [47, 47] ↔ (c = 47 ∧ (s.drop (p + 1)).head? = some 47) := by
            rw [hd]
            cases hr : s.drop (p + 1) with
            | nil => simp
            | cons b r => simp
          refine AWP.cond_dec rfl (fun ht => ?_) (fun ht => ?_)
          · obtain ⟨ht1, ht2⟩ := htw.1 ht
            skip
            refine AWP.draw rfl 14 14 (fun _ _ => False) rfl ?_
            repeat (first | refine ds rfl rfl ?_ | refine dq rfl rfl rfl (fun st1 hle => fa rfl rfl (nl ⟨_, rfl, rfl, rfl⟩)) ?_ | refine dq rfl rfl rfl (fun st1 hle => lc rfl rfl (hle.obj _ _ (St.obj_set _ _ _)) rfl rfl (nl ⟨_, rfl, rfl, rfl⟩)) ?_ | refine dq rfl rfl rfl (fun st1 hle => ssl rfl rfl rfl (by omega) (nl ⟨_, rfl, rfl, rfl⟩)) ?_)
            refine dq rfl rfl rfl (fun st1 hle => cle rfl rfl (prefix_ok (s.drop p) 39 (fun r => decide (r ≠ 10)) (fun r hr => by simp; omega) st1 notNl_ok) (nl ⟨_, rfl, rfl, rfl⟩)) ?_
            refine dn ⟨fun _ => ?_, fun h => absurd h (by decide)⟩
            have htl := (List.takeWhile_prefix (fun c : UInt8 => decide (c.toNat ≠ 10)) (l := s.drop p)).length_le
            have htp : 1 ≤ ((s.drop p).takeWhile fun c => decide (c.toNat ≠ 10)).length := by
              have hn : c.toNat ≠ 10 := fun h => hc10 (UInt8.toNat_inj.1 h)
              rw [hd, List.takeWhile_cons, if_pos (by simpa using hn)]
              simp
            rw [List.length_drop] at htl
            have hsk : skip false (s.drop p) ln = skip false (s.drop (p + ((s.drop p).takeWhile fun c => decide (c.toNat ≠ 10)).length)) ln := by
              have e1 : skip false (s.drop p) ln = skip true (s.drop p) ln := by
                rw [hd, skip, if_neg hc10, cond_false, if_neg hb, if_pos ⟨ht1, ht2⟩, skip, if_neg hc10, cond_true]
              rw [e1, skip_comment, List.drop_drop]
            generalize ((s.drop p).takeWhile fun c => decide (c.toNat ≠ 10)).length = m at htl htp hsk
            repeat (first | refine sm rfl ?_ | refine fa rfl rfl ?_ | refine adn rfl rfl rfl (by omega) ?_)
            refine sos (rows' := [scanRow s (p + m) ln om]) rfl rfl rfl rfl rfl rfl rfl rfl ?_
            repeat (refine nl ?_)
            refine ⟨(p + m, ln), ⟨by simp only; omega, by simp only; omega, ?_⟩, by simp only; omega, (tl1 rfl), .refl _⟩
            rw [← h3]
            exact hsk.symm
          · refine AWP.ret (rets rfl (.refl _) (.refl _) ?_)
            have hfin : skip false (s.drop p) ln = (s.drop p, ln) := by
              rw [hd, skip, if_neg hc10, cond_false, if_neg hb, if_neg (fun e => ht (htw.2 e))]
            rw [← h3, hfin, List.length_drop, show s.length - (s.length - p) = p by omega]
  · have hpe : p = s.length := by have : ¬ (p : Int) < (s.length : Int) := h; omega
    subst hpe
    refine rets rfl (.refl _) (.refl _) ?_
    rw [← h3, List.drop_length]
    rfl
end Go.Proofs
/- The walk of the scanner's number. No conditions: definitions and lemmas only. -/
namespace Go.Proofs
open Go.AM

def zTk : Tk := ⟨0, 0, [], 0⟩
def tkE (t : Tk) (e : Nat) : AV := .tuple [.agg (tokRow t), .int .i64 (e : Int)]

theorem digits_snoc (l : List UInt8) (c : UInt8) : digits (l ++ [c]) = digits l * 10 + (c.toNat - 48) := by simp [digits]

theorem digits_lt : ∀ (n : Nat) (l : List UInt8), l.length = n → (∀ c ∈ l, isDig c = true) → digits l < 10 ^ n
  | 0, l, h, _ => by
    have : l = [] := List.eq_nil_of_length_eq_zero h
    subst this
    simp [digits]
  | n + 1, l, h, hd => by
    obtain ⟨l', c, rfl⟩ : ∃ l' c, l = l' ++ [c] := ⟨l.dropLast, l.getLast (by rintro rfl; simp at h), (List.dropLast_concat_getLast _).symm⟩
    have ih := digits_lt n l' (by simpa using h) fun c hc => hd c (by simp [hc])
    have hc := hd c (by simp)
    simp only [isDig, Bool.and_eq_true, decide_eq_true_eq] at hc
    rw [digits_snoc, Nat.pow_succ]
    omega

theorem wrap32 {a : Int} (h : -2147483648 ≤ a ∧ a < 2147483648) : IntKind.i32.wrap a = a := by
  simp only [IntKind.wrap, IntKind.bits, IntKind.signed]
  simp
  split <;> omega

theorem npA_const : ∀ r, 128 ≤ r → npA r = npA 128 := by
  intro r hr
  have h1 : ¬ r ≤ 122 := by omega
  have h2 : ¬ r ≤ 90 := by omega
  have h3 : ¬ r = 95 := by omega
  have h4 : ¬ r ≤ 57 := by omega
  simp [npA, letA, digA, h1, h2, h3, h4]
theorem digA_const : ∀ r, 128 ≤ r → digA r = digA 128 := by
  intro r hr
  have h4 : ¬ r ≤ 57 := by omega
  simp [digA, h4]

theorem tw_pos (q : UInt8 → Bool) (l : List UInt8) : 0 < (l.takeWhile q).length ↔ (l.head?.map q).getD false = true := by
  cases l with
  | nil => simp
  | cons c l =>
    cases h : q c <;> simp [h]

/-- What number answers, and where it goes on. -/
def numR (rest : List UInt8) (n line : Nat) : Except Nat Tk := if 18 < n then .error 5 else if ((rest.drop n).head?.map isNP).getD false = true then .error 6 else .ok ⟨2, line, [], digits (rest.take n)⟩

def exV : Except Nat Tk → AV
  | .error e => tkE zTk e
  | .ok t => tkE t 0
def exP {α : Type} (pos n : Nat) : Except Nat α → Nat
  | .error _ => pos
  | .ok _ => pos + n

set_option maxHeartbeats 4000000 in
theorem number_ok (s rest : List UInt8) (hs : s.length ≤ 1000000) (n pos line om os : Nat) (hn : n ≤ rest.length) (hp : pos + n ≤ s.length) (hd : ∀ c ∈ rest.take n, isDig c = true) (st : St) :
    ACalls Tryd.prog 41 [.cptr os 4 0 0, .str rest, .int .i64 (n : Int)] (st.set os (.cells 76 4 [scanRow s pos line om]))
      (fun v st' => v = exV (numR rest n line) ∧ st' = st.set os (.cells 76 4 [scanRow s (exP pos n (numR rest n line)) line om])) (fun _ _ => False) := by
  refine ACalls.ofBody Tryd.func41 rfl Tryd.ntmps41 rfl ?_
  repeat (refine AWP.seq ?_)
  refine rg ?_
  refine al rfl rfl fun o6 ho6 => ?_
  have hne : o6 ≠ os := by rintro rfl; rw [St.obj_set] at ho6; cases ho6
  have hn6 : st.obj o6 = none := by rwa [St.obj_set_ne hne] at ho6
  have hos : ∀ (c : AObj) (d : AObj), ((st.set os c).set o6 d).obj os = some c := fun c d => (St.obj_set_ne (fun e => hne e.symm)).trans (St.obj_set _ _ _)
  repeat (first | refine nl ?_ | refine AWP.seq ?_ | refine rg ?_ | refine sm rfl ?_)
  refine AWP.cond_dec rfl (fun h => ?_) (fun h => AWP.skip ?_)
  · have h' : 18 < n := by have : (18 : Int) < (n : Int) := h; omega
    have e : numR rest n line = .error 5 := by rw [numR, if_pos h']
    repeat (refine AWP.seq ?_)
    refine rg ?_
    refine bds (cs := tokRow zTk) rfl rfl rfl rfl ?_
    refine soV rfl rfl rfl rfl rfl rfl ?_
    repeat (first | refine nl ?_ | refine sm rfl ?_)
    refine AWP.ret (rets (resCW rfl (St.obj_set _ _ _) rfl rfl rfl rfl) (.refl _) (StLe.new ho6 (.refl _)) ⟨?_, ?_⟩)
    · rw [e]; rfl
    · rw [e]; rfl
  · have h' : n ≤ 18 := by have : ¬ (18 : Int) < (n : Int) := h; omega
    repeat (first | refine AWP.seq ?_ | refine rg ?_ | refine sm rfl ?_ | refine ssl rfl rfl rfl (by omega) ?_)
    refine cle rfl rfl (prefix_ok (rest.drop n) 42 npA npA_const _ isNamePart_ok) ?_
    repeat (first | refine nl ?_ | refine sm rfl ?_)
    refine AWP.cond_dec rfl (fun h2 => ?_) (fun h2 => AWP.skip ?_)
    · have h2' : ((rest.drop n).head?.map isNP).getD false = true := (tw_pos isNP _).1 (Int.ofNat_lt.1 h2)
      have e : numR rest n line = .error 6 := by rw [numR, if_neg (by omega), if_pos h2']
      repeat (refine AWP.seq ?_)
      refine rg ?_
      refine bds (cs := tokRow zTk) rfl rfl rfl rfl ?_
      refine soV rfl rfl rfl rfl rfl rfl ?_
      repeat (first | refine nl ?_ | refine sm rfl ?_)
      refine AWP.ret (rets (resCW rfl (St.obj_set _ _ _) rfl rfl rfl rfl) (.refl _) (StLe.new ho6 (.refl _)) ⟨?_, ?_⟩)
      · rw [e]; rfl
      · rw [e]; rfl
    · have h2' : ¬ ((rest.drop n).head?.map isNP).getD false = true := fun e => h2 (Int.ofNat_lt.2 ((tw_pos isNP _).2 e))
      have e : numR rest n line = .ok ⟨2, line, [], digits (rest.take n)⟩ := by rw [numR, if_neg (by omega), if_neg h2']
      rw [e]
      refine AWP.weaken (tl4 (i0 := 0) (i1 := 1) (i2 := 2) (i3 := 6) rfl rfl rfl rfl) (.refl _) ?_
      repeat (refine AWP.seq ?_)
      refine rg ?_
      refine sm rfl ?_
      refine sm rfl ?_
      refine fa rfl rfl ?_
      refine lc rfl rfl (hos _ _) rfl rfl ?_
      repeat (first | refine sm rfl ?_ | refine fa rfl rfl ?_ | refine adn rfl rfl rfl (by omega) ?_)
      refine so (rows' := [scanRow s (pos + n) line om]) rfl rfl rfl (hos _ _) rfl rfl rfl rfl rfl ?_
      rw [St.set_inner hne]
      repeat (first | refine nl ?_ | refine AWP.seq ?_ | refine rg ?_ | refine sm rfl ?_ | refine ssh rfl rfl rfl (by omega) ?_)
      refine rgs rfl rfl fun oi hoi => ?_
      repeat (first | refine nl ?_ | refine AWP.block ?_)
      have hds : (rest.take n).length = n := by rw [List.length_take]; omega
      have hneo := St.new_ne hoi
      refine AWP.loop (α := Nat) (fun j => [(31, .iter oi), (8, .int .i64 ((digits ((rest.take n).take j) : Nat) : Int)), (0, .cptr os 4 0 0), (6, .cptr o6 4 0 0)])
        (fun j => ((st.set os (.cells 76 4 [scanRow s (pos + n) line om])).set o6 (.cells 67 4 [tokRow zTk])).set oi (.iter (rest.take n) j)) (fun j => j ≤ n) (fun j => n - j) 0 (Nat.zero_le _) (tl4 rfl rfl rfl rfl) (.refl _) ?_
      intro j hj
      repeat (refine AWP.seq ?_)
      refine rg ?_
      rcases Nat.lt_or_ge j n with hlt | hge
      · have hc : (rest.take n)[j]? = some (rest.take n)[j] := List.getElem?_eq_getElem (by omega)
        have hdc := hd _ (List.getElem_mem (show j < (rest.take n).length by omega))
        have hsn : digits ((rest.take n).take (j + 1)) = digits ((rest.take n).take j) * 10 + ((rest.take n)[j].toNat - 48) := by
          rw [List.take_add_one, hc, Option.toList_some, digits_snoc]
        have hb : digits ((rest.take n).take j) < 10 ^ j := digits_lt j _ (by rw [List.length_take, hds]; omega) fun c hc => hd c (List.mem_of_mem_take hc)
        have hb2 : 10 ^ j ≤ 10 ^ 17 := Nat.pow_le_pow_right (by omega) (by omega)
        generalize (rest.take n)[j] = c at hc hdc hsn
        simp only [isDig, Bool.and_eq_true, decide_eq_true_eq] at hdc
        refine nxu rfl rfl (St.obj_set _ _ _) hc fun r w hch => ?_
        obtain ⟨rfl, rfl⟩ := hch.low (by omega)
        rw [St.set_set]
        repeat (first | refine nl ?_ | refine AWP.seq ?_ | refine sm rfl ?_)
        refine AWP.cond_true rfl (AWP.skip ?_)
        repeat (first | refine nl ?_ | refine AWP.seq ?_ | refine rg ?_ | refine AWP.block ?_ | refine sm rfl ?_)
        generalize digits ((rest.take n).take j) = v at hsn hb
        have hb3 : v < 10 ^ 17 := by omega
        refine mlk (c := ((v * 10 : Nat) : Int)) rfl rfl rfl (by rw [wrap64 (by omega)]; omega) ?_
        repeat (refine sm rfl ?_)
        refine sbk (c := ((c.toNat - 48 : Nat) : Int)) rfl rfl rfl (by rw [wrap32 (by omega)]; omega) ?_
        refine cv (c := ((c.toNat - 48 : Nat) : Int)) rfl rfl (wrap64 (by omega)) ?_
        repeat (first | refine nl ?_ | refine sm rfl ?_ | refine adn rfl rfl rfl (by omega) ?_)
        refine ⟨j + 1, hlt, by omega, ?_, .refl _⟩
        rw [hsn]
        exact (tl4 rfl rfl rfl rfl)
      · have hjn : j = n := by omega
        subst hjn
        refine nxe rfl rfl (St.obj_set _ _ _) (by omega) ?_
        repeat (first | refine nl ?_ | refine AWP.seq ?_ | refine sm rfl ?_)
        refine AWP.cond_false rfl (AWP.exit (blk_hit ?_))
        rw [show (rest.take j).take j = rest.take j from List.take_of_length_le (by omega)]
        refine AWP.weaken (T' := [(8, .int .i64 ((digits (rest.take j) : Nat) : Int)), (0, .cptr os 4 0 0), (6, .cptr o6 4 0 0)]) (tl3 rfl rfl rfl) (StLe.new hoi (.refl _)) ?_
        repeat (refine AWP.seq ?_)
        refine rg ?_
        refine sm rfl ?_
        refine sm rfl ?_
        refine fa rfl rfl ?_
        refine lc rfl rfl (hos _ _) rfl rfl ?_
        repeat (refine sm rfl ?_)
        refine bds (cs := tokRow ⟨2, line, [], digits (rest.take j)⟩) rfl rfl rfl rfl ?_
        refine soV rfl rfl rfl rfl rfl rfl ?_
        repeat (first | refine nl ?_ | refine sm rfl ?_)
        refine AWP.ret (rets (resCW rfl (St.obj_set _ _ _) rfl rfl rfl rfl) (.refl _) (StLe.new (by rw [St.obj_set_ne hne]; exact hn6) (.refl _)) ⟨rfl, rfl⟩)
end Go.Proofs
/- The walk of the scanner's token. No conditions: definitions and lemmas only. -/
namespace Go.Proofs
open Go.AM

def allSigns : List (List UInt8) := signs2 ++ signs1.map fun c => [c]
def signRow : List AV := allSigns.map .str

theorem find_len (k : Nat) (rest : List UInt8) : ∀ (S : List (List UInt8)), (∀ g ∈ S, g.length = k) → S.find? (fun g => decide (rest.take g.length = g)) = if rest.take k ∈ S then some (rest.take k) else none
  | [], _ => by simp
  | g :: S, h => by
    have hg := h g (by simp)
    have ih := find_len k rest S fun g hg => h g (List.mem_cons_of_mem _ hg)
    rw [List.find?_cons]
    by_cases e : rest.take k = g
    · simp [hg, e]
    · rw [hg, decide_eq_false e, ih]
      simp [List.mem_cons, e]

theorem sign_find (rest : List UInt8) : sign rest = (allSigns.find? fun g => decide (rest.take g.length = g)).getD [] := by
  unfold allSigns
  rw [List.find?_append, find_len 2 rest signs2 (by decide), find_len 1 rest _ (by decide)]
  unfold sign
  by_cases h2 : rest.take 2 ∈ signs2
  · simp [h2]
  · rw [if_neg h2, if_neg h2]
    cases rest with
    | nil => simp
    | cons c r =>
      by_cases h1 : c ∈ signs1
      · have : (c :: r).take 1 ∈ signs1.map fun c => [c] := List.mem_map.2 ⟨c, h1, by simp⟩
        rw [if_pos this]
        simp [h1]
      · have : ¬ (c :: r).take 1 ∈ signs1.map fun c => [c] := by
          simp only [List.mem_map, List.take_succ_cons, List.take_zero, List.cons.injEq, and_true, exists_eq_right]
          exact h1
        rw [if_neg this]
        simp [h1]

theorem sign_at {rest : List UInt8} {i : Nat} {g : List UInt8} (hi : allSigns[i]? = some g) (hno : ∀ j, j < i → ∀ g', allSigns[j]? = some g' → ¬ rest.take g'.length = g') (hg : rest.take g.length = g) : sign rest = g := by
  rw [sign_find]
  have : allSigns.find? (fun g => decide (rest.take g.length = g)) = some g := by
    rw [List.find?_eq_some_iff_getElem]
    refine ⟨by simpa using hg, i, (List.getElem?_eq_some_iff.1 hi).1, (List.getElem?_eq_some_iff.1 hi).2, fun j hj => ?_⟩
    have hjl : j < allSigns.length := by have := (List.getElem?_eq_some_iff.1 hi).1; omega
    simpa using hno j hj _ (List.getElem?_eq_getElem hjl)
  rw [this]
  rfl

theorem sign_none {rest : List UInt8} (hno : ∀ j, j < 24 → ∀ g', allSigns[j]? = some g' → ¬ rest.take g'.length = g') : sign rest = [] := by
  rw [sign_find]
  have : allSigns.find? (fun g => decide (rest.take g.length = g)) = none := by
    rw [List.find?_eq_none]
    intro g hg
    obtain ⟨j, hj, rfl⟩ := List.getElem_of_mem hg
    simpa using hno j hj _ (List.getElem?_eq_getElem hj)
  rw [this]
  rfl

theorem mem_tw {q : UInt8 → Bool} : ∀ {l : List UInt8} {c : UInt8}, c ∈ l.takeWhile q → q c = true
  | [], c, h => by cases h
  | a :: l, c, h => by
    rw [List.takeWhile_cons] at h
    split at h
    · rename_i ha
      rcases List.mem_cons.1 h with rfl | h
      · exact ha
      · exact mem_tw h
    · cases h

def oneV : Except Nat (Tk × Nat) → AV
  | .error e => tkE zTk e
  | .ok (t, _) => tkE t 0
def oneP (pos : Nat) : Except Nat (Tk × Nat) → Nat
  | .error _ => pos
  | .ok (_, m) => pos + m

structure WMap (m : List (List UInt8 × AV)) : Prop where
  look : ∀ nm, slook nm m = if nm ∈ words then some (.bool true) else none

set_option maxHeartbeats 8000000 in
theorem token_ok (s : List UInt8) (hs : s.length ≤ 1000000) (pos line om os : Nat) (hp : pos < s.length) (wm : List (List UInt8 × AV)) (hwm : WMap wm) (st : St) (hom : st.obj om = some (.smap wm)) (hoo : om ≠ os) (hg : st.row 1 = some signRow) :
    ACalls Tryd.prog 26 [.cptr os 4 0 0] (st.set os (.cells 76 4 [scanRow s pos line om]))
      (fun v st' => v = oneV (one (s.drop pos) line) ∧ st' = st.set os (.cells 76 4 [scanRow s (oneP pos (one (s.drop pos) line)) line om])) (fun _ _ => False) := by
  refine ACalls.ofBody Tryd.func26 rfl Tryd.ntmps26 rfl ?_
  have hple : pos ≤ s.length := by omega
  have hd : s.drop pos = s[pos] :: s.drop (pos + 1) := List.drop_eq_getElem_cons hp
  have hdl : (s.drop pos).length = s.length - pos := List.length_drop ..
  repeat (refine AWP.seq ?_)
  refine rg ?_
  refine al rfl rfl fun o2 ho2 => ?_
  have hne := St.new_ne ho2
  have hn2 := St.new_old ho2
  have hos : ∀ (c : AObj) (d : AObj), ((st.set os c).set o2 d).obj os = some c := fun c d => St.obj_under hne c d
  have hosn : ∀ (c : AObj) (d : AObj), ((st.set os c).set o2 d).notok.obj os = some c := fun c d => St.obj_under hne c d
  have homn : ∀ (c : AObj) (d : AObj), ((st.set os c).set o2 d).obj om = some (.smap wm) := fun c d => by
    have h2 : om ≠ o2 := by rintro rfl; rw [hn2] at hom; cases hom
    rw [St.obj_set_ne h2, St.obj_set_ne hoo]
    exact hom
  repeat (first | refine nl ?_ | refine AWP.seq ?_ | refine sm rfl ?_)
  have hosn1 := hosn (.cells 76 4 [scanRow s pos line om]) (.cells 67 4 [tokRow zTk])
  refine AWP.draw rfl 8 8 (fun _ _ => False) rfl ?_
  repeat (first | refine ds rfl rfl ?_ | refine dq rfl rfl rfl (fun st1 hle => fa rfl rfl (nl ⟨_, rfl, rfl, rfl⟩)) ?_ | refine dq rfl rfl rfl (fun st1 hle => lc rfl rfl (hle.obj _ _ (by assumption)) rfl rfl (nl ⟨_, rfl, rfl, rfl⟩)) ?_)
  refine dn ⟨fun _ => ?_, fun h => absurd h (by decide)⟩
  repeat (first | refine nl ?_ | refine AWP.seq ?_ | refine rg ?_ | refine sm rfl ?_ | refine ssl rfl rfl rfl (by omega) ?_)
  refine cle rfl rfl (prefix_ok (s.drop pos) 40 digA digA_const _ isDigit_ok) ?_
  repeat (first | refine nl ?_ | refine AWP.seq ?_ | refine rg ?_ | refine sm rfl ?_)
  have hdt := tw_pos isDig (s.drop pos)
  have hnt := tw_pos isNP (s.drop pos)
  have hdle := (List.takeWhile_prefix isDig (l := s.drop pos)).length_le
  have hnle := (List.takeWhile_prefix isNP (l := s.drop pos)).length_le
  rw [hdl] at hdle hnle
  have hone : one (s.drop pos) line = bif isLet s[pos] then (let nm := (s.drop pos).takeWhile isNP; if 12 < nm.length then .error 5 else .ok (⟨if nm ∈ words then 3 else 1, line, nm, 0⟩, nm.length))
    else bif isDig s[pos] then (let ds := (s.drop pos).takeWhile isDig; if 18 < ds.length then .error 5 else if (((s.drop pos).drop ds.length).head?.map isNP).getD false = true then .error 6 else .ok (⟨2, line, [], digits ds⟩, ds.length))
    else if sign (s.drop pos) = [] then .error 6 else .ok (⟨4, line, sign (s.drop pos), 0⟩, (sign (s.drop pos)).length) := by
    rw [hd]
    rfl
  have hhead : (s.drop pos).head? = some s[pos] := by rw [hd]; rfl
  rw [hhead] at hdt hnt
  simp only [Option.map_some, Option.getD_some] at hdt hnt
  generalize s[pos] = c at hone hdt hnt
  refine AWP.cond_dec rfl (fun h => ?_) (fun h => AWP.skip ?_)
  · have hcd : isDig c = true := hdt.1 (Int.ofNat_lt.1 h)
    have hcl : isLet c = false := by
      cases hl : isLet c with
      | false => rfl
      | true => simp [isLet, isDig] at hl hcd; omega
    rw [hcl, cond_false, hcd, cond_true] at hone
    have htk : (s.drop pos).take ((s.drop pos).takeWhile isDig).length = (s.drop pos).takeWhile isDig := (List.prefix_iff_eq_take.1 (List.takeWhile_prefix isDig)).symm
    have hres : one (s.drop pos) line = (match numR (s.drop pos) ((s.drop pos).takeWhile isDig).length line with | .error e => .error e | .ok t => .ok (t, ((s.drop pos).takeWhile isDig).length)) := by
      rw [hone, numR, htk]
      simp only
      split
      · rfl
      · split <;> rfl
    repeat (first | refine AWP.seq ?_ | refine rg ?_ | refine sm rfl ?_)
    rw [St.set_comm st (Ne.symm hne)]
    refine cl rfl rfl (number_ok s (s.drop pos) hs ((s.drop pos).takeWhile isDig).length pos line om os (by omega) (by omega) (by
      rw [htk]
      intro c hc
      exact mem_tw hc) _) fun v st' ⟨hv, hst⟩ => ?_
    subst hv
    subst hst
    rw [St.set_comm st hne]
    have hn2' : ∀ c : AObj, (st.set os c).obj o2 = none := fun c => by rw [St.obj_set_ne hne]; exact hn2
    cases hnr : numR (s.drop pos) ((s.drop pos).takeWhile isDig).length line with
    | error e =>
      rw [hnr] at hres
      rw [hres]
      refine AOps.weaken (T' := [(26, exV (.error e)), (2, .cptr o2 4 0 0)]) (tl2 rfl rfl) (.refl _) ?_
      repeat (refine sm rfl ?_)
      refine soV rfl rfl rfl rfl rfl rfl ?_
      repeat (first | refine nl ?_ | refine sm rfl ?_)
      exact AWP.ret (rets (resCW rfl (St.obj_set _ _ _) rfl rfl rfl rfl) (.refl _) (StLe.new (hn2' _) (.refl _)) ⟨rfl, rfl⟩)
    | ok t =>
      rw [hnr] at hres
      rw [hres]
      refine AOps.weaken (T' := [(26, exV (.ok t)), (2, .cptr o2 4 0 0)]) (tl2 rfl rfl) (.refl _) ?_
      repeat (refine sm rfl ?_)
      refine soV rfl rfl rfl rfl rfl rfl ?_
      repeat (first | refine nl ?_ | refine sm rfl ?_)
      exact AWP.ret (rets (resCW rfl (St.obj_set _ _ _) rfl rfl rfl rfl) (.refl _) (StLe.new (hn2' _) (.refl _)) ⟨rfl, rfl⟩)
  · have hcd : isDig c = false := by
      cases hl : isDig c with
      | false => rfl
      | true => exact absurd (Int.ofNat_lt.2 (hdt.2 hl)) h
    have hn2' : ∀ c : AObj, (st.set os c).obj o2 = none := fun c => by rw [St.obj_set_ne hne]; exact hn2
    refine AWP.weaken (tl4 (i0 := 4) (i1 := 3) (i2 := 2) (i3 := 0) rfl rfl rfl rfl) (.refl _) ?_
    repeat (first | refine AWP.seq ?_ | refine rg ?_ | refine sm rfl ?_)
    refine cle rfl rfl (prefix_ok (s.drop pos) 42 npA npA_const _ isNamePart_ok) ?_
    repeat (first | refine nl ?_ | refine AWP.seq ?_ | refine rg ?_ | refine sm rfl ?_)
    refine AWP.cond_dec rfl (fun h => ?_) (fun h => AWP.skip ?_)
    · have hcl : isLet c = true := by
        have h1 : isNP c = true := hnt.1 (Int.ofNat_lt.1 h)
        simpa [isNP, hcd] using h1
      rw [hcl, cond_true] at hone
      have htk : (s.drop pos).take ((s.drop pos).takeWhile isNP).length = (s.drop pos).takeWhile isNP := (List.prefix_iff_eq_take.1 (List.takeWhile_prefix isNP)).symm
      change _ = (((s.drop pos).takeWhile fun c => npA c.toNat)) at htk
      have hnpe : ((s.drop pos).takeWhile fun c => npA c.toNat) = (s.drop pos).takeWhile isNP := rfl
      rw [hnpe] at htk ⊢
      generalize (s.drop pos).takeWhile isNP = nm at hone htk hnle
      simp only at hone
      refine AWP.weaken (tl5 (i0 := 6) (i1 := 4) (i2 := 3) (i3 := 2) (i4 := 0) rfl rfl rfl rfl rfl) (.refl _) ?_
      repeat (first | refine nl ?_ | refine AWP.seq ?_ | refine rg ?_ | refine sm rfl ?_)
      refine AWP.cond_dec rfl (fun h2 => ?_) (fun h2 => AWP.skip ?_)
      · have h2' : 12 < nm.length := by have : (12 : Int) < (nm.length : Int) := h2; omega
        rw [if_pos h2'] at hone
        rw [hone]
        repeat (refine AWP.seq ?_)
        refine rg ?_
        refine bds (cs := tokRow zTk) rfl rfl rfl rfl ?_
        refine soV rfl rfl rfl rfl rfl rfl ?_
        repeat (first | refine nl ?_ | refine sm rfl ?_)
        exact AWP.ret (rets (resCW rfl (St.obj_set _ _ _) rfl rfl rfl rfl) (.refl _) (StLe.new ho2 (.refl _)) ⟨rfl, rfl⟩)
      · have h2' : ¬ 12 < nm.length := by have : ¬ (12 : Int) < (nm.length : Int) := h2; omega
        rw [if_neg h2'] at hone
        rw [hone]
        have hos1 := hos (.cells 76 4 [scanRow s pos line om]) (.cells 67 4 [tokRow zTk])
        repeat (first | refine AWP.seq ?_ | refine rg ?_ | refine sm rfl ?_ | refine fa rfl rfl ?_ | refine lc rfl rfl (by assumption) rfl rfl ?_ | refine adn rfl rfl rfl (by omega) ?_)
        refine so (rows' := [scanRow s (pos + nm.length) line om]) rfl rfl rfl (hos _ _) rfl rfl rfl rfl rfl ?_
        rw [St.set_inner hne]
        repeat (first | refine nl ?_ | refine AWP.seq ?_ | refine rg ?_ | refine sm rfl ?_)
        have hosn2 := hosn (.cells 76 4 [scanRow s (pos + nm.length) line om]) (.cells 67 4 [tokRow zTk])
        refine AWP.weaken (tl5 (i0 := 7) (i1 := 6) (i2 := 4) (i3 := 2) (i4 := 0) rfl rfl rfl rfl rfl) (.refl _) ?_
        skip
        refine AWP.draw rfl 7 7 (fun _ _ => False) rfl ?_
        repeat (first | refine ds rfl rfl ?_ | refine dq rfl rfl rfl (fun st1 hle => fa rfl rfl (nl ⟨_, rfl, rfl, rfl⟩)) ?_ | refine dq rfl rfl rfl (fun st1 hle => lc rfl rfl (hle.obj _ _ (by assumption)) rfl rfl (nl ⟨_, rfl, rfl, rfl⟩)) ?_ | refine dq rfl rfl rfl (fun st1 hle => ssh rfl rfl rfl (by omega) (nl ⟨_, rfl, rfl, rfl⟩)) ?_)
        refine dn ⟨fun _ => ?_, fun h => absurd h (by decide)⟩
        refine lku rfl rfl rfl (homn _ _) ?_
        rw [htk, hwm.look]
        have hval : ((if nm ∈ words then some (AV.bool true) else none).getD (absV (.bool false))) = .bool (decide (nm ∈ words)) := by
          by_cases hw : nm ∈ words <;> simp [hw, absV, abs1]
        rw [hval]
        repeat (refine nl ?_)
        refine midk [(7, .int .i64 ((if nm ∈ words then 3 else 1 : Nat) : Int)), (6, .int .i64 (nm.length : Int)), (4, .str (s.drop pos)), (2, .cptr o2 4 0 0), (0, .cptr os 4 0 0)] ((st.set os (.cells 76 4 [scanRow s (pos + nm.length) line om])).set o2 (.cells 67 4 [tokRow zTk])) ?_ ?_
        · refine AWP.cond_dec rfl (fun hw => ?_) (fun hw => AWP.skip ?_)
          · rw [if_pos hw]
            repeat (first | refine nl ?_ | refine rg ?_ | refine sm rfl ?_)
            exact ⟨(tl5 rfl rfl rfl rfl rfl), .refl _⟩
          · rw [if_neg hw]
            exact ⟨(tl5 rfl rfl rfl rfl rfl), .refl _⟩
        · repeat (refine AWP.seq ?_)
          refine AWP.draw rfl 8 8 (fun _ _ => False) rfl ?_
          repeat (first | refine ds rfl rfl ?_ | refine dq rfl rfl rfl (fun st1 hle => fa rfl rfl (nl ⟨_, rfl, rfl, rfl⟩)) ?_ | refine dq rfl rfl rfl (fun st1 hle => lc rfl rfl (hle.obj _ _ (by assumption)) rfl rfl (nl ⟨_, rfl, rfl, rfl⟩)) ?_ | refine dq rfl rfl rfl (fun st1 hle => ssh rfl rfl rfl (by omega) (nl ⟨_, rfl, rfl, rfl⟩)) ?_)
          refine dn ⟨fun _ => ?_, fun h => absurd h (by decide)⟩
          rw [htk]
          refine bds (cs := tokRow ⟨if nm ∈ words then 3 else 1, line, nm, 0⟩) rfl rfl rfl rfl ?_
          refine soV rfl rfl rfl rfl rfl rfl ?_
          repeat (first | refine nl ?_ | refine sm rfl ?_)
          exact AWP.ret (rets (resCW rfl (St.obj_set _ _ _) rfl rfl rfl rfl) (.refl _) (StLe.new (hn2' _) (.refl _)) ⟨rfl, rfl⟩)
    · have hcn : isNP c = false := by
        cases hl : isNP c with
        | false => rfl
        | true => exact absurd (Int.ofNat_lt.2 (hnt.2 hl)) h
      have hcl : isLet c = false := by
        simp only [isNP, Bool.or_eq_false_iff] at hcn
        exact hcn.1
      rw [hcl, cond_false, hcd, cond_false] at hone
      refine AWP.weaken (tl3 (i0 := 4) (i1 := 2) (i2 := 0) rfl rfl rfl) (.refl _) ?_
      repeat (refine AWP.seq ?_)
      refine rg ?_
      refine leW (row := signRow) (rows := [signRow]) (i := 0) (s := 24) rfl rfl (congrArg (Option.map fun row : List AV => AV.eptr row.length [row] 0 0) hg) rfl rfl ?_
      repeat (first | refine nl ?_ | refine AWP.block ?_ | refine sm rfl ?_)
      refine AWP.loop (α := Nat) (fun i => [(62, .int .i64 (i : Int)), (61, .agg signRow), (4, .str (s.drop pos)), (2, .cptr o2 4 0 0), (0, .cptr os 4 0 0)]) (fun _ => (st.set os (.cells 76 4 [scanRow s pos line om])).set o2 (.cells 67 4 [tokRow zTk]))
        (fun i => i ≤ 24 ∧ ∀ j, j < i → ∀ g', allSigns[j]? = some g' → ¬ (s.drop pos).take g'.length = g') (fun i => 24 - i) 0 ⟨Nat.zero_le _, fun j hj => by omega⟩ (tl5 rfl rfl rfl rfl rfl) (.refl _) ?_
      rintro i ⟨hi, hno⟩
      repeat (first | refine nl ?_ | refine AWP.seq ?_ | refine rg ?_ | refine sm rfl ?_)
      refine AWP.cond_dec rfl (fun h => AWP.skip ?_) (fun h => AWP.exit (blk_hit ?_))
      · have hi' : i < 24 := by have : (i : Int) < 24 := h; omega
        have hil : i < allSigns.length := hi'
        have hgi : allSigns[i]? = some allSigns[i] := List.getElem?_eq_getElem hil
        have hlen : allSigns[i].length ≤ 2 ∧ allSigns[i] ≠ [] := (show ∀ g ∈ allSigns, g.length ≤ 2 ∧ g ≠ [] by decide) _ (List.getElem_mem hil)
        have hrow : signRow[i * 1]? = some (.str allSigns[i]) := by simp [signRow, hil]
        generalize allSigns[i] = sg at hgi hlen hrow
        refine AWP.weaken (tl5 (i0 := 62) (i1 := 61) (i2 := 4) (i3 := 2) (i4 := 0) rfl rfl rfl rfl rfl) (.refl _) ?_
        repeat (first | refine AWP.seq ?_ | refine AWP.block ?_)
        refine rg ?_
        refine ixg rfl rfl rfl rfl rfl hi' hrow ?_
        repeat (first | refine nl ?_ | refine AWP.seq ?_ | refine rg ?_ | refine sm rfl ?_)
        refine cle rfl rfl (hasPrefix_ok (s.drop pos) sg _) ?_
        repeat (refine nl ?_)
        refine AWP.cond_dec rfl (fun hm => ?_) (fun hm => AWP.skip ?_)
        · have hsg := sign_at hgi hno hm
          rw [hsg, if_neg hlen.2] at hone
          rw [hone]
          have hle : sg.length ≤ s.length - pos := by
            have := congrArg List.length hm
            rw [List.length_take, hdl] at this
            omega
          have hos1 := hos (.cells 76 4 [scanRow s pos line om]) (.cells 67 4 [tokRow zTk])
          repeat (first | refine AWP.seq ?_ | refine rg ?_ | refine sm rfl ?_ | refine fa rfl rfl ?_ | refine lns rfl rfl ?_ | refine lc rfl rfl (by assumption) rfl rfl ?_ | refine adn rfl rfl rfl (by omega) ?_)
          refine so (rows' := [scanRow s (pos + sg.length) line om]) rfl rfl rfl (hos _ _) rfl rfl rfl rfl rfl ?_
          rw [St.set_inner hne]
          have hos2 := hos (.cells 76 4 [scanRow s (pos + sg.length) line om]) (.cells 67 4 [tokRow zTk])
          repeat (first | refine nl ?_ | refine AWP.seq ?_ | refine rg ?_ | refine sm rfl ?_ | refine fa rfl rfl ?_ | refine lc rfl rfl (by assumption) rfl rfl ?_)
          refine bds (cs := tokRow ⟨4, line, sg, 0⟩) rfl rfl rfl rfl ?_
          refine soV rfl rfl rfl rfl rfl rfl ?_
          repeat (first | refine nl ?_ | refine sm rfl ?_)
          exact AWP.ret (rets (resCW rfl (St.obj_set _ _ _) rfl rfl rfl rfl) (.refl _) (StLe.new (hn2' _) (.refl _)) ⟨rfl, rfl⟩)
        · repeat (first | refine nl ?_ | refine rg ?_ | refine sm rfl ?_ | refine inc rfl rfl rfl (by omega) ?_)
          refine ⟨i + 1, ⟨hi', fun j hj g' hg' => ?_⟩, by omega, (tl5 rfl rfl rfl rfl rfl), .refl _⟩
          rcases Nat.lt_or_ge j i with h1 | h1
          · exact hno j h1 g' hg'
          · have : j = i := by omega
            subst this
            rw [hgi] at hg'
            cases hg'
            exact hm
      · have hi' : i = 24 := by have : ¬ (i : Int) < 24 := h; omega
        subst hi'
        rw [sign_none hno, if_pos rfl] at hone
        rw [hone]
        repeat (refine AWP.seq ?_)
        refine rg ?_
        refine bds (cs := tokRow zTk) rfl rfl rfl rfl ?_
        refine soV rfl rfl rfl rfl rfl rfl ?_
        repeat (first | refine nl ?_ | refine sm rfl ?_)
        exact AWP.ret (rets (resCW rfl (St.obj_set _ _ _) rfl rfl rfl rfl) (.refl _) (StLe.new ho2 (.refl _)) ⟨rfl, rfl⟩)
end Go.Proofs
/- The walk of lexer.Scan. No conditions: definitions and lemmas only. -/
namespace Go.Proofs
open Go.AM

def wordRow : List AV := words.map .str

theorem slook_supd (k k' : List UInt8) (v : AV) : ∀ m, slook k (supd k' v m) = if k = k' then some v else slook k m
  | [] => by simp [supd, slook]
  | (a, b) :: m => by
    have ih := slook_supd k k' v m
    rw [supd]
    by_cases h1 : k' = a
    · subst h1
      rw [if_pos rfl, slook, slook]
      by_cases h2 : k = k' <;> simp [h2]
    · rw [if_neg h1, slook, slook, ih]
      by_cases h2 : k = a
      · subst h2
        have : ¬ k = k' := fun e => h1 e.symm
        simp [this]
      · simp [h2]

def wmap (l : List (List UInt8)) : List (List UInt8 × AV) := l.foldl (fun m w => supd w (.bool true) m) []

theorem wmap_snoc (l : List (List UInt8)) (w : List UInt8) : wmap (l ++ [w]) = supd w (.bool true) (wmap l) := by simp [wmap]

theorem wmap_look (nm : List UInt8) : ∀ (n : Nat) (l : List (List UInt8)), l.length = n → slook nm (wmap l) = if nm ∈ l then some (.bool true) else none
  | 0, l, h => by
    have : l = [] := List.eq_nil_of_length_eq_zero h
    subst this
    rfl
  | n + 1, l, h => by
    obtain ⟨l', c, rfl⟩ : ∃ l' c, l = l' ++ [c] := ⟨l.dropLast, l.getLast (by rintro rfl; simp at h), (List.dropLast_concat_getLast _).symm⟩
    rw [wmap_snoc, slook_supd, wmap_look nm n l' (by simpa using h)]
    by_cases h1 : nm = c
    · simp [h1]
    · simp [h1]

theorem WMap.words : WMap (wmap words) := ⟨fun nm => wmap_look nm 12 _ rfl⟩

theorem skip_sum : ∀ (cm : Bool) (x : List UInt8) (l : Nat), (skip cm x l).2 + (skip cm x l).1.length ≤ l + x.length
  | cm, [], l => by simp [skip]
  | cm, c :: r, l => by
    have pass : ∀ cm' l', l' ≤ l + 1 → (skip cm' r l').2 + (skip cm' r l').1.length ≤ l + (c :: r).length := by
      intro cm' l' h2
      have := skip_sum cm' r l'
      simp only [List.length_cons]
      omega
    unfold skip
    split
    · exact pass _ _ (by omega)
    · cases cm
      · rw [cond_false]
        split
        · exact pass _ _ (by omega)
        · split
          · exact pass _ _ (by omega)
          · exact Nat.le_refl _
      · exact pass _ _ (by omega)

theorem skip_tail (s : List UInt8) (line : Nat) : s.drop (s.length - (skip false s line).1.length) = (skip false s line).1 := by
  obtain ⟨q1, q2, q3, k, q4⟩ := skip_le false s line
  have hl := congrArg List.length q4
  rw [List.length_drop] at hl
  rcases Nat.lt_or_ge k s.length with hk | hk
  · rw [show s.length - (skip false s line).1.length = k by omega, q4]
  · have : (skip false s line).1 = [] := by rw [q4, List.drop_eq_nil_of_le hk]
    rw [this, List.length_nil, Nat.sub_zero, List.drop_length]

theorem one_err {s : List UInt8} {line e : Nat} (h : one s line = .error e) : e = 5 ∨ e = 6 := by
  unfold one at h
  split at h
  · cases h; exact .inr rfl
  · rename_i c r
    cases hl : isLet c
    · cases hd : isDig c
      · simp only [hl, hd, cond_false] at h
        split at h
        · cases h; exact .inr rfl
        · cases h
      · simp only [hl, hd, cond_false, cond_true] at h
        split at h
        · cases h; exact .inl rfl
        · split at h
          · cases h; exact .inr rfl
          · cases h
    · simp only [hl, cond_true] at h
      split at h
      · cases h; exact .inl rfl
      · cases h

theorem sign_le (s : List UInt8) : (sign s).length ≤ s.length := by
  unfold sign
  split
  · exact List.length_take_le' ..
  · split
    · split
      · simp
      · simp
    · simp

theorem one_ok {s : List UInt8} {line m : Nat} {t : Tk} (h : one s line = .ok (t, m)) : 1 ≤ m ∧ m ≤ s.length ∧ t.line = line := by
  unfold one at h
  split at h
  · cases h
  · rename_i c r
    have hnp : isLet c = true → isNP c = true := fun h => by simp [isNP, h]
    cases hl : isLet c
    · cases hd : isDig c
      · simp only [hl, hd, cond_false] at h
        split at h
        · cases h
        · rename_i hs
          cases h
          exact ⟨by have := List.length_pos_iff.2 hs; omega, sign_le _, rfl⟩
      · simp only [hl, hd, cond_false, cond_true] at h
        split at h
        · cases h
        · split at h
          · cases h
          · cases h
            exact ⟨by simp [hd], (List.takeWhile_prefix isDig).length_le, rfl⟩
    · simp only [hl, cond_true] at h
      split at h
      · cases h
      · cases h
        exact ⟨by simp [hnp hl], (List.takeWhile_prefix isNP).length_le, rfl⟩

set_option maxHeartbeats 8000000 in
theorem scan_ok (s : List UInt8) (st : St) (hg1 : st.row 1 = some signRow) (hg0 : st.row 0 = some wordRow) :
    ACalls Tryd.prog 15 [.str s] st (fun v st' => v = scanV (scan s) ∧ st' = st) (fun _ _ => False) := by
  refine ACalls.ofBody Tryd.func15 rfl Tryd.ntmps15 rfl ?_
  repeat (first | refine nl ?_ | refine AWP.seq ?_ | refine rg ?_ | refine sm rfl ?_ | refine lns rfl rfl ?_)
  refine AWP.cond_dec rfl (fun h => ?_) (fun h => AWP.skip ?_)
  · have h' : 4000 < s.length := by have : (4000 : Int) < (s.length : Int) := h; omega
    repeat (first | refine nl ?_ | refine AWP.seq ?_ | refine rg ?_ | refine sm rfl ?_)
    refine AWP.ret (rets rfl (Le.tri (.nilShared 0 4) (.refl _) (.refl _)) (.refl _) ⟨?_, rfl⟩)
    rw [scan, if_pos h']
    rfl
  · have h' : s.length ≤ 4000 := by have : ¬ (4000 : Int) < (s.length : Int) := h; omega
    have hscan : scan s = scanL (s.length + 1) (skip false s 1).1 (skip false s 1).2 [] := by rw [scan, if_neg (by omega)]
    repeat (refine AWP.seq ?_)
    refine rg ?_
    refine sm rfl ?_
    refine mkm rfl fun om hom => ?_
    refine bds (cs := scanRow s 0 1 om) rfl rfl rfl rfl ?_
    refine al rfl rfl fun os hos => ?_
    have hne := St.new_ne hos
    have hns := St.new_old hos
    refine soV rfl rfl rfl rfl rfl rfl ?_
    repeat (first | refine nl ?_ | refine AWP.seq ?_)
    refine rg ?_
    refine leW (row := wordRow) (rows := [wordRow]) (i := 0) (s := 12) rfl rfl (congrArg (Option.map fun row : List AV => AV.eptr row.length [row] 0 0) hg0) rfl rfl ?_
    repeat (first | refine nl ?_ | refine AWP.block ?_ | refine sm rfl ?_)
    refine AWP.loop (α := Nat) (fun i => [(18, .int .i64 (i : Int)), (17, .agg wordRow), (5, .cptr os 4 0 0), (0, .str s)]) (fun i => (st.set om (.smap (wmap (words.take i)))).set os (.cells 76 4 [scanRow s 0 1 om])) (fun i => i ≤ 12) (fun i => 12 - i) 0 (Nat.zero_le _) (tl4 rfl rfl rfl rfl) (.refl _) ?_
    intro i hi
    repeat (first | refine nl ?_ | refine AWP.seq ?_ | refine rg ?_ | refine sm rfl ?_)
    refine AWP.cond_dec rfl (fun h => AWP.skip ?_) (fun h => AWP.exit (blk_hit ?_))
    · have hi' : i < 12 := by have : (i : Int) < 12 := h; omega
      have hil : i < words.length := hi'
      have hrow : wordRow[i * 1]? = some (.str words[i]) := by simp [wordRow, hil]
      have hsn : wmap (words.take (i + 1)) = supd words[i] (.bool true) (wmap (words.take i)) := by
        rw [List.take_add_one, List.getElem?_eq_getElem hil, Option.toList_some, wmap_snoc]
      generalize words[i] = w at hrow hsn
      repeat (first | refine AWP.seq ?_ | refine rg ?_ | refine AWP.block ?_)
      refine ixg rfl rfl rfl rfl rfl hi' hrow ?_
      repeat (first | refine nl ?_ | refine rg ?_ | refine sm rfl ?_ | refine fa rfl rfl ?_ | refine lc rfl rfl (St.obj_set _ _ _) rfl rfl ?_)
      refine mup rfl rfl rfl rfl (St.obj_under hne _ _) ?_
      rw [St.set_inner hne]
      repeat (first | refine nl ?_ | refine rg ?_ | refine sm rfl ?_ | refine inc rfl rfl rfl (by omega) ?_)
      refine ⟨i + 1, hi', by omega, (tl4 rfl rfl rfl rfl), ?_⟩
      rw [hsn]
      exact .refl _
    · have hi' : i = 12 := by have : ¬ (i : Int) < 12 := h; omega
      subst hi'
      rw [show words.take 12 = words from rfl]
      refine AWP.weaken (tl2 (i0 := 5) (i1 := 0) rfl rfl) (.refl _) ?_
      repeat (refine AWP.seq ?_)
      refine rg ?_
      repeat (refine sm rfl ?_)
      repeat (first | refine nl ?_ | refine AWP.seq ?_)
      refine AWP.nilTok 8 67 4 rfl fun tk htk => ?_
      have hst : ∀ (tk : Nat) (c : AObj), ((st.set om (.smap (wmap words))).set os c).addTok tk = ((st.set om (.smap (wmap words))).addTok tk).set os c := fun _ _ => rfl
      rw [hst]
      skip
      refine rg ?_
      refine cl rfl rfl (skip_ok s (by omega) 0 1 om os (Nat.zero_le _) (by omega) _) fun _ st' hst' => ?_
      subst hst'
      rw [List.drop_zero]
      obtain ⟨q1, q2, q3, q4⟩ := skip_le false s 1
      have q6 := skip_sum false s 1
      repeat (first | refine nl ?_ | refine AWP.block ?_)
      refine AWP.loop (α := Nat × Nat × Nat × List Tk × Nat)
        (fun x => [(8, .view 4 (x.2.2.2.1.map tokRow) (.own x.2.2.2.2 67)), (5, .cptr os 4 0 0), (0, .str s)])
        (fun x => ((st.set om (.smap (wmap words))).addTok x.2.2.2.2).set os (.cells 76 4 [scanRow s x.2.1 x.2.2.1 om]))
        (fun x => x.2.1 ≤ s.length ∧ x.2.2.1 ≤ x.2.1 + 1 ∧ scan s = scanL x.1 (s.drop x.2.1) x.2.2.1 x.2.2.2.1 ∧ s.length - x.2.1 < x.1 ∧ x.2.2.2.1.length ≤ 2000 ∧ st.tok x.2.2.2.2 = false) (fun x => x.1)
        (s.length + 1, s.length - (skip false s 1).1.length, (skip false s 1).2, [], tk) ⟨by simp only; omega, by simp only; omega, ?_, by simp only; omega, by simp, htk⟩ (tl3 rfl rfl rfl) (.refl _) ?_
      · simp only
        rw [hscan]
        congr 1
        exact (skip_tail s 1).symm
      · rintro ⟨fuel, pos, line, out, tk⟩ ⟨h1, h2, h3, h4, h5, h6⟩
        simp only at h1 h2 h3 h4 h5 h6
        repeat (first | refine nl ?_ | refine AWP.seq ?_ | refine rg ?_ | refine sm rfl ?_ | refine fa rfl rfl ?_ | refine lns rfl rfl ?_ | refine lc rfl rfl (St.obj_set _ _ _) rfl rfl ?_)
        refine AWP.cond_dec rfl (fun h => AWP.skip ?_) (fun h => AWP.exit (blk_hit ?_))
        · have hlt : pos < s.length := by have : (pos : Int) < (s.length : Int) := h; omega
          obtain ⟨fuel, rfl⟩ : ∃ k, fuel = k + 1 := ⟨fuel - 1, by omega⟩
          have hd : s.drop pos = s[pos] :: s.drop (pos + 1) := List.drop_eq_getElem_cons hlt
          have hstep : scan s = match one (s.drop pos) line with
              | .error e => ([], line, e)
              | .ok (t, m) => if 2000 ≤ out.length then ([], line, 5) else scanL fuel (skip false ((s.drop pos).drop m) line).1 (skip false ((s.drop pos).drop m) line).2 (out ++ [t]) := by
            rw [h3, hd]
            rfl
          clear h3
          refine AWP.weaken (tl3 (i0 := 8) (i1 := 5) (i2 := 0) rfl rfl rfl) (.refl _) ?_
          repeat (first | refine AWP.seq ?_ | refine AWP.block ?_)
          refine rg ?_
          refine cl rfl rfl (token_ok s (by omega) pos line om os hlt (wmap words) WMap.words ((st.set om (.smap (wmap words))).addTok tk) (St.obj_set _ _ _) (Ne.symm hne) hg1) fun v st' ⟨hv, hst'⟩ => ?_
          subst hv
          subst hst'
          cases ho : one (s.drop pos) line with
          | error e =>
            rw [ho] at hstep
            refine AOps.weaken (T' := [(33, tkE zTk e), (8, .view 4 (out.map tokRow) (.own tk 67)), (5, .cptr os 4 0 0), (0, .str s)]) (tl4 rfl rfl rfl rfl) (.refl _) ?_
            repeat (refine sm rfl ?_)
            refine al rfl rfl fun o9 ho9 => ?_
            refine soN 9 rfl rfl rfl rfl rfl rfl ho9 ?_
            have he := one_err ho
            have he0 : (AV.bool (decide ((e : Int) = 0))) = .bool false := by
              have : ¬ e = 0 := by omega
              simp [this]
            have he1 : (AV.bool (decide ((e : Int) ≠ 0))) = .bool true := by
              have : ¬ e = 0 := by omega
              simp [this]
            repeat (first | refine nl ?_ | refine AWP.seq ?_ | refine rg ?_ | refine sm rfl ?_)
            rw [he0]
            repeat (first | refine nl ?_ | refine sm rfl ?_ | refine uw rfl ?_)
            refine AWP.cond_false rfl (AWP.skip ?_)
            repeat (first | refine nl ?_ | refine AWP.seq ?_ | refine rg ?_ | refine sm rfl ?_)
            rw [he1]
            skip
            refine AWP.cond_true rfl ?_
            repeat (refine AWP.seq ?_)
            refine AWP.draw rfl 5 5 (fun _ _ => False) rfl ?_
            repeat (first | refine ds rfl rfl ?_ | refine dq rfl rfl rfl (fun st1 hle => fa rfl rfl (nl ⟨_, rfl, rfl, rfl⟩)) ?_ | refine dq rfl rfl rfl (fun st1 hle => lc rfl rfl (hle.obj _ _ (St.obj_set _ _ _)) rfl rfl (nl ⟨_, rfl, rfl, rfl⟩)) ?_)
            refine dn ⟨fun _ => ?_, fun h => absurd h (by decide)⟩
            repeat (first | refine nl ?_ | refine sm rfl ?_)
            refine AWP.ret (rets rfl (Le.tri (.nilShared 0 4) (.refl _) (.refl _)) (StLe.new (show ((st.set om (.smap (wmap words))).addTok tk).obj os = none from (St.obj_set_ne hne).trans hns) (StLe.new (st := st.addTok tk) hom (StLe.addTok _ (.refl _)))) ⟨?_, rfl⟩)
            rw [hstep]
            rfl
          | ok p =>
            obtain ⟨t, m⟩ := p
            rw [ho] at hstep
            simp only at hstep
            obtain ⟨m1, m2, m3⟩ := one_ok ho
            rw [List.length_drop] at m2
            refine AOps.weaken (T' := [(33, tkE t 0), (8, .view 4 (out.map tokRow) (.own tk 67)), (5, .cptr os 4 0 0), (0, .str s)]) (tl4 rfl rfl rfl rfl) (.refl _) ?_
            repeat (refine sm rfl ?_)
            refine al rfl rfl fun o9 ho9 => ?_
            refine soN 9 rfl rfl rfl rfl rfl rfl ho9 ?_
            repeat (first | refine nl ?_ | refine AWP.seq ?_ | refine rg ?_ | refine sm rfl ?_ | refine lnv rfl rfl ?_)
            refine AWP.cond_dec rfl (fun h => ?_) (fun h => AWP.skip ?_)
            · have hge : 2000 ≤ out.length := by
                rw [List.length_map] at h
                omega
              rw [if_pos hge] at hstep
              repeat (first | refine nl ?_ | refine AWP.seq ?_ | refine rg ?_ | refine sm rfl ?_)
              refine AWP.cond_true rfl ?_
              repeat (refine AWP.seq ?_)
              refine AWP.draw rfl 5 5 (fun _ _ => False) rfl ?_
              repeat (first | refine ds rfl rfl ?_ | refine dq rfl rfl rfl (fun st1 hle => fa rfl rfl (nl ⟨_, rfl, rfl, rfl⟩)) ?_ | refine dq rfl rfl rfl (fun st1 hle => lc rfl rfl (hle.obj _ _ (St.obj_set _ _ _)) rfl rfl (nl ⟨_, rfl, rfl, rfl⟩)) ?_)
              refine dn ⟨fun _ => ?_, fun h => absurd h (by decide)⟩
              repeat (first | refine nl ?_ | refine sm rfl ?_)
              refine AWP.ret (rets rfl (Le.tri (.nilShared 0 4) (.refl _) (.refl _)) (StLe.new (show ((st.set om (.smap (wmap words))).addTok tk).obj os = none from (St.obj_set_ne hne).trans hns) (StLe.new (st := st.addTok tk) hom (StLe.addTok _ (.refl _)))) ⟨?_, rfl⟩)
              rw [hstep]
              rfl
            · have hge : ¬ 2000 ≤ out.length := by
                rw [List.length_map] at h
                omega
              rw [if_neg hge] at hstep
              repeat (first | refine nl ?_ | refine AWP.seq ?_ | refine rg ?_ | refine sm rfl ?_)
              refine AWP.cond_false rfl (AWP.skip ?_)
              repeat (first | refine rg ?_ | refine sm rfl ?_ | refine leW rfl rfl rfl rfl rfl ?_ | refine bs1 rfl rfl rfl rfl rfl rfl ?_)
              refine ap rfl rfl rfl (St.tok_addTok _ _) rfl (by simp only [List.length_cons, List.length_nil, List.length_map]; omega) (by simp only [List.length_cons, List.length_nil, List.length_map, maxLen]; omega) fun tk' htk' => ?_
              have hm : out.map tokRow ++ [(AV.agg (AV.agg (tokRow t)).cells).cells] = (out ++ [t]).map tokRow := by rw [List.map_append]; rfl
              rw [hm]
              have hst2 : ∀ (c : AObj), ((((st.set om (.smap (wmap words))).addTok tk).set os c).untok tk).addTok tk' = ((((st.set om (.smap (wmap words))).addTok tk).untok tk).addTok tk').set os c := fun _ => rfl
              rw [hst2]
              have htk2 : st.tok tk' = false := St.tok_of_add (st := st) htk'
              repeat (first | refine nl ?_ | refine rg ?_ | refine sm rfl ?_)
              refine AOps.weaken (tl3 (i0 := 8) (i1 := 5) (i2 := 0) rfl rfl rfl) (.refl _) ?_
              have hdd : (s.drop pos).drop m = s.drop (pos + m) := List.drop_drop ..
              rw [hdd] at hstep
              refine cl rfl rfl (skip_ok s (by omega) (pos + m) line om os (by omega) (by omega) _) fun _ st' hst' => ?_
              subst hst'
              obtain ⟨w1, w2, w3, w4⟩ := skip_le false (s.drop (pos + m)) line
              have w6 := skip_sum false (s.drop (pos + m)) line
              have w7 := skip_tail (s.drop (pos + m)) line
              rw [List.length_drop] at w1 w2 w6 w7
              rw [List.drop_drop] at w7
              generalize skip false (s.drop (pos + m)) line = sk at w1 w2 w3 w6 w7 hstep ⊢
              repeat (refine nl ?_)
              refine ⟨(fuel, s.length - sk.1.length, sk.2, out ++ [t], tk'), ⟨by simp only; omega, by simp only; omega, ?_, by simp only; omega, by simp only [List.length_append, List.length_cons, List.length_nil]; omega, htk2⟩, by simp only; omega, (tl3 rfl rfl rfl), ?_⟩
              · simp only
                rw [hstep]
                have w8 : s.length - sk.1.length = pos + m + (s.length - (pos + m) - sk.1.length) := by omega
                rw [w8, w7]
              · exact StLe.set _ _ (StLe.reTok (st := st.set om (.smap (wmap words))) h6 tk')
        · have hlt : pos = s.length := by have : ¬ (pos : Int) < (s.length : Int) := h; omega
          subst hlt
          obtain ⟨fuel, rfl⟩ : ∃ k, fuel = k + 1 := ⟨fuel - 1, by omega⟩
          rw [List.drop_length] at h3
          have hstep : scan s = (out ++ [⟨0, line, [], 0⟩], 0, 0) := h3
          refine AWP.weaken (T' := [(8, .view 4 (out.map tokRow) (.own tk 67)), (5, .cptr os 4 0 0), (0, .str s)]) (st' := ((st.set om (.smap (wmap words))).addTok tk).set os (.cells 76 4 [scanRow s s.length line om])) (tl3 rfl rfl rfl) (.refl _) ?_
          repeat (first | refine AWP.seq ?_ | refine rg ?_ | refine sm rfl ?_ | refine fa rfl rfl ?_ | refine lc rfl rfl (St.obj_set _ _ _) rfl rfl ?_)
          refine bds (cs := tokRow ⟨0, line, [], 0⟩) rfl rfl rfl rfl ?_
          repeat (refine bs1 rfl rfl rfl rfl rfl rfl ?_)
          refine ap rfl rfl rfl (St.tok_addTok _ _) rfl (by simp only [List.length_cons, List.length_nil, List.length_map]; omega) (by simp only [List.length_cons, List.length_nil, List.length_map, maxLen]; omega) fun tk' htk' => ?_
          have hm : out.map tokRow ++ [(AV.agg (tokRow ⟨0, line, [], 0⟩)).cells] = (out ++ [(⟨0, line, [], 0⟩ : Tk)]).map tokRow := by rw [List.map_append]; rfl
          rw [hm]
          repeat (first | refine nl ?_ | refine sm rfl ?_)
          refine AWP.ret (rets rfl (Le.tri (.shared _ _ _) (.refl _) (.refl _)) (StLe.new (st := (((st.set om (.smap (wmap words))).addTok tk).untok tk).addTok tk') (show ((((st.set om (.smap (wmap words))).addTok tk).untok tk).addTok tk').obj os = none from (St.obj_set_ne hne).trans hns) (StLe.new (st := ((st.addTok tk).untok tk).addTok tk') hom ((StLe.reTok h6 tk').trans (StLe.addTok _ (.refl _))))) ⟨?_, rfl⟩)
          rw [hstep]
          rfl
end Go.Proofs
/- Expressions out of tokens, in plain Lean. No program in sight. -/
namespace Go.Proofs

inductive Xp where
  | lit (n : Nat)
  | var (s : List UInt8)
  | fld (s f : List UInt8)
  | elt (s : List UInt8) (a : Xp)
  | una (op : Nat) (a : Xp)
  | bin (op : Nat) (a b : Xp)

def tk0 : Tk := ⟨0, 0, [], 0⟩
def hd (ts : List Tk) : Tk := ts.headD tk0
def sg (t : Tk) (s : List UInt8) : Bool := decide (t.kind = 4 ∧ t.text = s)
def beg (t : Tk) : Bool := decide (t.kind = 1) || decide (t.kind = 2) || sg t [45] || sg t [33] || sg t [40]

/-- The signs of operators, their levels, their operations. -/
def binL : List (List UInt8 × Nat × Nat) := [([43], 3, 6), ([45], 3, 7), ([42], 4, 8), ([47], 4, 9), ([37], 4, 10), ([38], 2, 11), ([124], 2, 12), ([94], 2, 13), ([60], 1, 14), ([60, 61], 1, 15), ([61, 61], 1, 16), ([33, 61], 1, 17)]
def bin (t : Tk) : Nat × Nat := ((binL.find? fun o => sg t o.1).map Prod.snd).getD (0, 0)

/-- Fuel, level, depth, tokens: an expression and the tokens behind it, or an error (7 syntax, 5 limit; 99: too little fuel). -/
abbrev PR := Except Nat (Xp × List Tk)
mutual
def pe : Nat → Nat → Nat → List Tk → PR
  | 0, _, _, _ => .error 99
  | k + 1, lv, d, ts =>
    if 5 ≤ lv then po k d ts
    else match pe k (lv + 1) d ts with
      | .error e => .error e
      | .ok (x, r) => pl k lv d x r
def pl : Nat → Nat → Nat → Xp → List Tk → PR
  | 0, _, _, _, _ => .error 99
  | k + 1, lv, d, x, ts =>
    if (bin (hd ts)).1 = lv then
      match pe k (lv + 1) d ts.tail with
      | .error e => .error e
      | .ok (y, r) => if lv = 1 then .ok (.bin (bin (hd ts)).2 x y, r) else pl k lv d (.bin (bin (hd ts)).2 x y) r
    else .ok (x, ts)
def po : Nat → Nat → List Tk → PR
  | 0, _, _ => .error 99
  | k + 1, d, ts =>
    if beg (hd ts) then
      if 8 < d then .error 5
      else if (hd ts).kind = 2 then .ok (.lit (hd ts).num, ts.tail)
      else if (hd ts).kind = 1 then
        if sg (hd ts.tail) [46] then
          if (hd ts.tail.tail).kind = 1 then .ok (.fld (hd ts).text (hd ts.tail.tail).text, ts.tail.tail.tail) else .error 7
        else if sg (hd ts.tail) [91] then
          match pe k 1 (d + 1) ts.tail.tail with
          | .error e => .error e
          | .ok (x, r) => if sg (hd r) [93] then .ok (.elt (hd ts).text x, r.tail) else .error 7
        else .ok (.var (hd ts).text, ts.tail)
      else if (hd ts).text = [40] then
        match pe k 1 (d + 1) ts.tail with
        | .error e => .error e
        | .ok (x, r) => if sg (hd r) [41] then .ok (x, r.tail) else .error 7
      else match po k (d + 1) ts.tail with
        | .error e => .error e
        | .ok (x, r) => .ok (.una (if (hd ts).text = [45] then 4 else 5) x, r)
    else .error 7
end

theorem beg_nil : beg (hd []) = false := by decide
theorem bin_nil : bin (hd []) = (0, 0) := by decide

/-- What an answer says about the tokens that are left. -/
def PRlt (n : Nat) : PR → Prop
  | .error e => e = 5 ∨ e = 7
  | .ok (_, r) => r.length < n

theorem pe_all : ∀ k : Nat, (∀ lv d ts, 1 ≤ lv → lv ≤ 5 → 7 * ts.length + (6 - lv) < k → PRlt ts.length (pe k lv d ts)) ∧
    (∀ lv d x ts, 1 ≤ lv → lv ≤ 4 → 7 * ts.length < k → PRlt (ts.length + 1) (pl k lv d x ts)) ∧
    (∀ d ts, 7 * ts.length < k → PRlt ts.length (po k d ts))
  | 0 => ⟨fun _ _ _ _ _ h => absurd h (Nat.not_lt_zero _), fun _ _ _ _ _ _ h => absurd h (Nat.not_lt_zero _), fun _ _ h => absurd h (Nat.not_lt_zero _)⟩
  | k + 1 => by
    obtain ⟨i1, i2, i3⟩ := pe_all k
    refine ⟨fun lv d ts h1 h5 hk => ?_, fun lv d x ts h1 h4 hk => ?_, fun d ts hk => ?_⟩
    · rw [pe]
      split
      · exact i3 d ts (by omega)
      · rename_i hlv
        have h := i1 (lv + 1) d ts (by omega) (by omega) (by omega)
        cases hp : pe k (lv + 1) d ts with
        | error e => rw [hp] at h; exact h
        | ok p =>
          obtain ⟨x, r⟩ := p
          rw [hp] at h
          have h : r.length < ts.length := h
          have h2 := i2 lv d x r h1 (by omega) (by omega)
          simp only
          cases hq : pl k lv d x r with
          | error e => rw [hq] at h2; exact h2
          | ok q =>
            rw [hq] at h2
            have h2 : q.2.length < r.length + 1 := h2
            show q.2.length < ts.length
            omega
    · rw [pl]
      split
      · rename_i hb
        have hne : ts ≠ [] := by
          intro e
          subst e
          rw [bin_nil] at hb
          simp only at hb
          omega
        have ht : ts.tail.length + 1 = ts.length := by
          cases ts with
          | nil => exact absurd rfl hne
          | cons a b => rfl
        have h := i1 (lv + 1) d ts.tail (by omega) (by omega) (by omega)
        cases hp : pe k (lv + 1) d ts.tail with
        | error e => rw [hp] at h; exact h
        | ok p =>
          obtain ⟨y, r⟩ := p
          rw [hp] at h
          have h : r.length < ts.tail.length := h
          simp only
          split
          · show r.length < ts.length + 1
            omega
          · have h2 := i2 lv d (.bin (bin (hd ts)).2 x y) r h1 h4 (by omega)
            cases hq : pl k lv d (.bin (bin (hd ts)).2 x y) r with
            | error e => rw [hq] at h2; exact h2
            | ok q =>
              rw [hq] at h2
              have h2 : q.2.length < r.length + 1 := h2
              show q.2.length < ts.length + 1
              omega
      · show ts.length < ts.length + 1
        omega
    · rw [po]
      split
      · rename_i hb
        have hne : ts ≠ [] := by
          intro e
          subst e
          rw [beg_nil] at hb
          cases hb
        have ht : ts.tail.length + 1 = ts.length := by
          cases ts with
          | nil => exact absurd rfl hne
          | cons a b => rfl
        have ht2 : ts.tail.tail.length ≤ ts.tail.length := by rw [List.length_tail]; omega
        have ht3 : ts.tail.tail.tail.length ≤ ts.tail.tail.length := by rw [List.length_tail]; omega
        split
        · exact .inl rfl
        split
        · show ts.tail.length < ts.length
          omega
        split
        · split
          · split
            · show ts.tail.tail.tail.length < ts.length
              omega
            · exact .inr rfl
          split
          · have h := i1 1 (d + 1) ts.tail.tail (by omega) (by omega) (by omega)
            cases hp : pe k 1 (d + 1) ts.tail.tail with
            | error e => rw [hp] at h; exact h
            | ok p =>
              obtain ⟨y, r⟩ := p
              rw [hp] at h
              have h : r.length < ts.tail.tail.length := h
              have h4 : r.tail.length ≤ r.length := by rw [List.length_tail]; omega
              simp only
              split
              · show r.tail.length < ts.length
                omega
              · exact .inr rfl
          · show ts.tail.length < ts.length
            omega
        split
        · have h := i1 1 (d + 1) ts.tail (by omega) (by omega) (by omega)
          cases hp : pe k 1 (d + 1) ts.tail with
          | error e => rw [hp] at h; exact h
          | ok p =>
            obtain ⟨y, r⟩ := p
            rw [hp] at h
            have h : r.length < ts.tail.length := h
            have h4 : r.tail.length ≤ r.length := by rw [List.length_tail]; omega
            simp only
            split
            · show r.tail.length < ts.length
              omega
            · exact .inr rfl
        · have h := i3 (d + 1) ts.tail (by omega)
          cases hp : po k (d + 1) ts.tail with
          | error e => rw [hp] at h; exact h
          | ok p =>
            obtain ⟨y, r⟩ := p
            rw [hp] at h
            have h : r.length < ts.tail.length := h
            show r.length < ts.length
            omega
      · exact .inr rfl

end Go.Proofs
/- Expressions out of tokens, with the place of an error, in plain Lean. No program in sight. -/
namespace Go.Proofs

/-- Fuel, level, depth, tokens: an expression and the tokens behind it, or an error (7 syntax, 5 limit; 99: too little fuel). -/
abbrev FR := Except (Nat × List Tk) (Xp × List Tk)
mutual
def fe : Nat → Nat → Nat → List Tk → FR
  | 0, _, _, _ => .error (99, [])
  | k + 1, lv, d, ts =>
    if 5 ≤ lv then fo k d ts
    else match fe k (lv + 1) d ts with
      | .error e => .error e
      | .ok (x, r) => fl k lv d x r
def fl : Nat → Nat → Nat → Xp → List Tk → FR
  | 0, _, _, _, _ => .error (99, [])
  | k + 1, lv, d, x, ts =>
    if (bin (hd ts)).1 = lv then
      match fe k (lv + 1) d ts.tail with
      | .error e => .error e
      | .ok (y, r) => if lv = 1 then .ok (.bin (bin (hd ts)).2 x y, r) else fl k lv d (.bin (bin (hd ts)).2 x y) r
    else .ok (x, ts)
def fo : Nat → Nat → List Tk → FR
  | 0, _, _ => .error (99, [])
  | k + 1, d, ts =>
    if beg (hd ts) then
      if 8 < d then .error (5, ts)
      else if (hd ts).kind = 2 then .ok (.lit (hd ts).num, ts.tail)
      else if (hd ts).kind = 1 then
        if sg (hd ts.tail) [46] then
          if (hd ts.tail.tail).kind = 1 then .ok (.fld (hd ts).text (hd ts.tail.tail).text, ts.tail.tail.tail) else .error (7, ts.tail.tail)
        else if sg (hd ts.tail) [91] then
          match fe k 1 (d + 1) ts.tail.tail with
          | .error e => .error e
          | .ok (x, r) => if sg (hd r) [93] then .ok (.elt (hd ts).text x, r.tail) else .error (7, r)
        else .ok (.var (hd ts).text, ts.tail)
      else if (hd ts).text = [40] then
        match fe k 1 (d + 1) ts.tail with
        | .error e => .error e
        | .ok (x, r) => if sg (hd r) [41] then .ok (x, r.tail) else .error (7, r)
      else match fo k (d + 1) ts.tail with
        | .error e => .error e
        | .ok (x, r) => .ok (.una (if (hd ts).text = [45] then 4 else 5) x, r)
    else .error (7, ts)
end

/-- What an answer says about the tokens that are left. -/
def FRlt (n : Nat) : FR → Prop
  | .error e => e.1 = 5 ∨ e.1 = 7
  | .ok (_, r) => r.length < n

theorem fe_all : ∀ k : Nat, (∀ lv d ts, 1 ≤ lv → lv ≤ 5 → 7 * ts.length + (6 - lv) < k → FRlt ts.length (fe k lv d ts)) ∧
    (∀ lv d x ts, 1 ≤ lv → lv ≤ 4 → 7 * ts.length < k → FRlt (ts.length + 1) (fl k lv d x ts)) ∧
    (∀ d ts, 7 * ts.length < k → FRlt ts.length (fo k d ts))
  | 0 => ⟨fun _ _ _ _ _ h => absurd h (Nat.not_lt_zero _), fun _ _ _ _ _ _ h => absurd h (Nat.not_lt_zero _), fun _ _ h => absurd h (Nat.not_lt_zero _)⟩
  | k + 1 => by
    obtain ⟨i1, i2, i3⟩ := fe_all k
    refine ⟨fun lv d ts h1 h5 hk => ?_, fun lv d x ts h1 h4 hk => ?_, fun d ts hk => ?_⟩
    · rw [fe]
      split
      · exact i3 d ts (by omega)
      · rename_i hlv
        have h := i1 (lv + 1) d ts (by omega) (by omega) (by omega)
        cases hp : fe k (lv + 1) d ts with
        | error e => rw [hp] at h; exact h
        | ok p =>
          obtain ⟨x, r⟩ := p
          rw [hp] at h
          have h : r.length < ts.length := h
          have h2 := i2 lv d x r h1 (by omega) (by omega)
          simp only
          cases hq : fl k lv d x r with
          | error e => rw [hq] at h2; exact h2
          | ok q =>
            rw [hq] at h2
            have h2 : q.2.length < r.length + 1 := h2
            show q.2.length < ts.length
            omega
    · rw [fl]
      split
      · rename_i hb
        have hne : ts ≠ [] := by
          intro e
          subst e
          rw [bin_nil] at hb
          simp only at hb
          omega
        have ht : ts.tail.length + 1 = ts.length := by
          cases ts with
          | nil => exact absurd rfl hne
          | cons a b => rfl
        have h := i1 (lv + 1) d ts.tail (by omega) (by omega) (by omega)
        cases hp : fe k (lv + 1) d ts.tail with
        | error e => rw [hp] at h; exact h
        | ok p =>
          obtain ⟨y, r⟩ := p
          rw [hp] at h
          have h : r.length < ts.tail.length := h
          simp only
          split
          · show r.length < ts.length + 1
            omega
          · have h2 := i2 lv d (.bin (bin (hd ts)).2 x y) r h1 h4 (by omega)
            cases hq : fl k lv d (.bin (bin (hd ts)).2 x y) r with
            | error e => rw [hq] at h2; exact h2
            | ok q =>
              rw [hq] at h2
              have h2 : q.2.length < r.length + 1 := h2
              show q.2.length < ts.length + 1
              omega
      · show ts.length < ts.length + 1
        omega
    · rw [fo]
      split
      · rename_i hb
        have hne : ts ≠ [] := by
          intro e
          subst e
          rw [beg_nil] at hb
          cases hb
        have ht : ts.tail.length + 1 = ts.length := by
          cases ts with
          | nil => exact absurd rfl hne
          | cons a b => rfl
        have ht2 : ts.tail.tail.length ≤ ts.tail.length := by rw [List.length_tail]; omega
        have ht3 : ts.tail.tail.tail.length ≤ ts.tail.tail.length := by rw [List.length_tail]; omega
        split
        · exact .inl rfl
        split
        · show ts.tail.length < ts.length
          omega
        split
        · split
          · split
            · show ts.tail.tail.tail.length < ts.length
              omega
            · exact .inr rfl
          split
          · have h := i1 1 (d + 1) ts.tail.tail (by omega) (by omega) (by omega)
            cases hp : fe k 1 (d + 1) ts.tail.tail with
            | error e => rw [hp] at h; exact h
            | ok p =>
              obtain ⟨y, r⟩ := p
              rw [hp] at h
              have h : r.length < ts.tail.tail.length := h
              have h4 : r.tail.length ≤ r.length := by rw [List.length_tail]; omega
              simp only
              split
              · show r.tail.length < ts.length
                omega
              · exact .inr rfl
          · show ts.tail.length < ts.length
            omega
        split
        · have h := i1 1 (d + 1) ts.tail (by omega) (by omega) (by omega)
          cases hp : fe k 1 (d + 1) ts.tail with
          | error e => rw [hp] at h; exact h
          | ok p =>
            obtain ⟨y, r⟩ := p
            rw [hp] at h
            have h : r.length < ts.tail.length := h
            have h4 : r.tail.length ≤ r.length := by rw [List.length_tail]; omega
            simp only
            split
            · show r.tail.length < ts.length
              omega
            · exact .inr rfl
        · have h := i3 (d + 1) ts.tail (by omega)
          cases hp : fo k (d + 1) ts.tail with
          | error e => rw [hp] at h; exact h
          | ok p =>
            obtain ⟨y, r⟩ := p
            rw [hp] at h
            have h : r.length < ts.tail.length := h
            show r.length < ts.length
            omega
      · exact .inr rfl

end Go.Proofs
/- An expression's cells. No conditions: definitions and lemmas only. -/
namespace Go.Proofs
open Go.AM

/-- An expression's cells. -/
def exRow (op num : Int) (name field : List UInt8) (args : AV) : List AV := [.int .i64 op, .int .i64 num, .int .i64 0, .str name, .str field, args]
def nilV : AV := .view 0 [] .nil
def noE : AV := .view 6 [] .shared
theorem ex_nil (op num : Int) (name field : List UInt8) : Le (.agg (exRow op num name field nilV)) (.agg (exRow op num name field noE)) := by
  refine .agg _ _ rfl (fun c hc => by simp only [exRow, List.mem_cons, List.not_mem_nil, or_false] at hc; rcases hc with rfl | rfl | rfl | rfl | rfl | rfl <;> rfl) fun i a b h1 h2 => ?_
  match i, h1, h2 with
  | 0, h1, h2 => cases h1; cases h2; exact .refl _
  | 1, h1, h2 => cases h1; cases h2; exact .refl _
  | 2, h1, h2 => cases h1; cases h2; exact .refl _
  | 3, h1, h2 => cases h1; cases h2; exact .refl _
  | 4, h1, h2 => cases h1; cases h2; exact .refl _
  | 5, h1, h2 => cases h1; cases h2; exact .nilShared 0 6
  | n + 6, h1, _ => cases h1
end Go.Proofs
/- The parser: its token, fail, signs, words, names. No conditions: definitions and lemmas only. -/
namespace Go.Proofs
open Go.AM
attribute [local irreducible] AWP AOps ACalls AAny

def prC (X : List (List AV)) (a : Nat) : AObj := .cells 60 2 [[.view 4 X .shared, .int .i64 (a : Int)]]
/-- What the parser panics with. -/
def fai (line err : Int) : AV := .iface 56 (.agg [.int .i64 line, .int .i64 err])
/-- Tokens whose last one alone is of kind 0. -/
structure RdH (ts : List Tk) : Prop where
  len : ts.length ≤ 100000
  last : ∀ i t, ts[i]? = some t → t.kind ≠ 0 → i + 1 < ts.length
theorem map_at {ts : List Tk} {a : Nat} (h : a < ts.length) : ∃ t, ts[a]? = some t ∧ (ts.map tokRow)[a]? = some (tokRow t) ∧ hd (ts.drop a) = t ∧ a < (ts.map tokRow).length ∧ (ts.drop a).tail = ts.drop (a + 1) := by
  refine ⟨ts[a], List.getElem?_eq_getElem h, ?_, ?_, by rw [List.length_map]; exact h, ?_⟩
  · rw [List.getElem?_map, List.getElem?_eq_getElem h]; rfl
  · rw [List.drop_eq_getElem_cons h]; rfl
  · rw [List.tail_drop]
theorem ptoken_ok {X : List (List AV)} {a o : Nat} {t : Tk} {st : St} (ho : st.obj o = some (prC X a)) (ha : a < X.length) (hX : X[a]? = some (tokRow t)) (_ : X.length ≤ 100000) :
    ACalls Tryd.prog 20 [.cptr o 2 0 0] st (fun v st' => v = .agg (tokRow t) ∧ st' = st) (fun _ _ => False) := by
  refine ACalls.ofBody Tryd.func20 rfl Tryd.ntmps20 rfl ?_
  unfold prC at ho
  repeat (refine AWP.seq ?_)
  refine rg ?_
  refine al rfl rfl fun o2 h2 => ?_
  have hne : o ≠ o2 := fun h => by subst h; rw [ho] at h2; cases h2
  have hM : ∀ c, (st.set o2 c).obj o = some (.cells 60 2 [[.view 4 X .shared, .int .i64 (a : Int)]]) := fun c => by
    rw [← ho]
    simp [St.set, hne]
  have hM0 := hM (.cells 67 4 [tokRow ⟨0, 0, [], 0⟩])
  repeat (first | refine nl ?_ | refine AWP.seq ?_)
  refine AWP.draw rfl 10 10 (fun _ _ => False) rfl ?_
  repeat (first | refine ds rfl rfl ?_ | refine dp (h := fun _ _ => ZD (z := nz)) (z := ?_) | refine dp (h := fun _ _ => ZC (z := nz)) (z := ?_) | refine dp (h := fun _ _ => ZM (z := nz)) (z := ?_) | refine dp (h := fun _ _ => ZH (z := nz)) (z := ?_))
  refine dn ⟨fun _ => ?_, fun h => absurd h (by decide)⟩
  skip
  refine soV rfl rfl rfl rfl rfl rfl ?_
  repeat (refine nl ?_)
  exact AWP.ret (rets (resCW rfl (St.obj_set _ _ _) rfl rfl rfl rfl) (.refl _) (StLe.new h2 (.refl _)) ⟨rfl, rfl⟩)
theorem pfail_ok {ts : List Tk} (H : RdH ts) {a o : Nat} {st : St} (ho : st.obj o = some (prC (ts.map tokRow) a)) (ha : a < ts.length) (e : Int) :
    ACalls Tryd.prog 21 [.cptr o 2 0 0, .int .i64 e] st (fun _ _ => False) (fun pv st' => pv = fai (hd (ts.drop a)).line e ∧ st' = st) := by
  refine ACalls.ofBody Tryd.func21 rfl Tryd.ntmps21 rfl ?_
  obtain ⟨t, t1, t2, t3, t4, _⟩ := map_at ha
  have hl : (ts.map tokRow).length ≤ 100000 := by rw [List.length_map]; exact H.len
  refine rg ?_
  repeat (refine ZA (z := ?_))
  refine cle rfl rfl (ptoken_ok ho t4 t2 hl) ?_
  skip
  refine fd (v := .int .i64 (t.line : Int)) rfl rfl rfl ?_
  repeat (refine ZA (z := ?_))
  refine bds (cs := [.int .i64 (t.line : Int), .int .i64 e]) rfl rfl rfl rfl ?_
  refine mif rfl rfl rfl ?_
  refine pnk rfl rfl ?_
  exact ⟨st, .refl _, by rw [t3]; rfl, rfl⟩
theorem psees_ok {X : List (List AV)} {a o : Nat} {t : Tk} {st : St} (ho : st.obj o = some (prC X a)) (ha : a < X.length) (hX : X[a]? = some (tokRow t)) (hl : X.length ≤ 100000) (k : Nat) (s : List UInt8) :
    ACalls Tryd.prog 27 [.cptr o 2 0 0, .int .i64 (k : Int), .str s] st (fun v st' => v = .bool (decide (t.kind = k ∧ t.text = s)) ∧ st' = st) (fun _ _ => False) := by
  refine ACalls.ofBody Tryd.func27 rfl Tryd.ntmps27 rfl ?_
  repeat (refine AWP.seq ?_)
  refine rg ?_
  repeat (refine sm rfl ?_)
  repeat (first | refine nl ?_ | refine AWP.seq ?_ | refine rg ?_ | refine ZA (z := ?_))
  refine cle rfl rfl (ptoken_ok ho ha hX hl) ?_
  repeat (first | refine nl ?_ | refine AWP.seq ?_ | refine rg ?_ | refine ZA (z := ?_) | refine ZC (z := ?_) | refine ZF (z := ?_) | refine YA (z := ?_))
  refine AOps.split 13 rfl (fun h1 => ?_) (fun h1 => ?_)
  · have h2 : t.kind = k := by have h0 : (t.kind : Int) = k := h1; omega
    have h3 : decide (t.kind = k ∧ t.text = s) = decide (t.text = s) := decide_eq_decide.2 ⟨fun h => h.2, fun h => ⟨h2, h⟩⟩
    rw [h3]
    repeat (first | refine nl ?_ | refine ZA (z := ?_) | refine ZC (z := ?_) | refine ZF (z := ?_) | refine YD (z := ?_))
    exact AWP.ret (rets rfl (.refl _) (.refl _) ⟨rfl, rfl⟩)
  · have h2 : ¬ t.kind = k := fun h0 => h1 (by show (t.kind : Int) = k; omega)
    have h3 : decide (t.kind = k ∧ t.text = s) = false := decide_eq_false fun h => h2 h.1
    rw [h3]
    repeat (first | refine nl ?_ | refine ZA (z := ?_) | refine ZB (z := ?_) | refine YE (z := ?_))
    exact AWP.ret (rets rfl (.refl _) (.refl _) ⟨rfl, rfl⟩)
end Go.Proofs
/- The parser: words, signs, names. No conditions: definitions and lemmas only. -/
namespace Go.Proofs
open Go.AM
attribute [local irreducible] AWP AOps ACalls AAny

def kw (t : Tk) (s : List UInt8) : Bool := decide (t.kind = 3 ∧ t.text = s)
theorem pword_ok {X : List (List AV)} {a o : Nat} {t : Tk} {st : St} (ho : st.obj o = some (prC X a)) (ha : a < X.length) (hX : X[a]? = some (tokRow t)) (hl : X.length ≤ 100000) (s : List UInt8) :
    ACalls Tryd.prog 17 [.cptr o 2 0 0, .str s] st (fun v st' => v = .bool (kw t s) ∧ st' = if kw t s = true then st.set o (prC X (a + 1)) else st) (fun _ _ => False) := by
  refine ACalls.ofBody Tryd.func17 rfl Tryd.ntmps17 rfl ?_
  have ho' := ho
  unfold prC at ho
  repeat (first | refine nl ?_ | refine AWP.seq ?_ | refine rg ?_ | refine ZA (z := ?_))
  refine cle rfl rfl (psees_ok ho' ha hX hl 3 s) ?_
  unfold kw
  by_cases h : t.kind = 3 ∧ t.text = s
  · rw [decide_eq_true h, if_pos rfl]
    repeat (first | refine nl ?_ | refine AWP.seq ?_ | refine rg ?_ | refine AWP.skip ?_ | refine YI (z := ?_) | refine ZA (z := ?_) | refine ZC (z := ?_) | refine ZH (z := ?_) | refine ZO (z := ?_))
    refine so (rows' := [[.view 4 X .shared, .int .i64 ((a + 1 : Nat) : Int)]]) rfl rfl rfl ho rfl rfl rfl rfl rfl ?_
    repeat (first | refine nl ?_ | refine AWP.seq ?_ | refine rg ?_ | refine ZA (z := ?_))
    exact AWP.ret (rets rfl (.refl _) (.refl _) ⟨rfl, rfl⟩)
  · rw [decide_eq_false h, if_neg (by decide)]
    repeat (first | refine nl ?_ | refine AWP.seq ?_ | refine rg ?_ | refine YH (z := ?_) | refine ZA (z := ?_))
    exact AWP.ret (rets rfl (.refl _) (.refl _) ⟨rfl, rfl⟩)
theorem psign_ok {X : List (List AV)} {a o : Nat} {t : Tk} {st : St} (ho : st.obj o = some (prC X a)) (ha : a < X.length) (hX : X[a]? = some (tokRow t)) (hl : X.length ≤ 100000) (s : List UInt8) :
    ACalls Tryd.prog 43 [.cptr o 2 0 0, .str s] st (fun v st' => v = .bool (sg t s) ∧ st' = if sg t s = true then st.set o (prC X (a + 1)) else st) (fun _ _ => False) := by
  refine ACalls.ofBody Tryd.func43 rfl Tryd.ntmps43 rfl ?_
  have ho' := ho
  unfold prC at ho
  repeat (first | refine nl ?_ | refine AWP.seq ?_ | refine rg ?_ | refine ZA (z := ?_))
  refine cle rfl rfl (psees_ok ho' ha hX hl 4 s) ?_
  unfold sg
  by_cases h : t.kind = 4 ∧ t.text = s
  · rw [decide_eq_true h, if_pos rfl]
    repeat (first | refine nl ?_ | refine AWP.seq ?_ | refine rg ?_ | refine AWP.skip ?_ | refine YI (z := ?_) | refine ZA (z := ?_) | refine ZC (z := ?_) | refine ZH (z := ?_) | refine ZO (z := ?_))
    refine so (rows' := [[.view 4 X .shared, .int .i64 ((a + 1 : Nat) : Int)]]) rfl rfl rfl ho rfl rfl rfl rfl rfl ?_
    repeat (first | refine nl ?_ | refine AWP.seq ?_ | refine rg ?_ | refine ZA (z := ?_))
    exact AWP.ret (rets rfl (.refl _) (.refl _) ⟨rfl, rfl⟩)
  · rw [decide_eq_false h, if_neg (by decide)]
    repeat (first | refine nl ?_ | refine AWP.seq ?_ | refine rg ?_ | refine YH (z := ?_) | refine ZA (z := ?_))
    exact AWP.ret (rets rfl (.refl _) (.refl _) ⟨rfl, rfl⟩)
/-- What a part of the parser answers, and how it panics. -/
abbrev QR (α : Type) := Except (Nat × List Tk) (α × List Tk)
def PaR {α : Type} (ts : List Tk) (o : Nat) (st : St) (row : α → AV) (r : QR α) (v : AV) (st' : St) : Prop :=
  ∃ x k, v = row x ∧ k < ts.length ∧ st' = st.set o (prC (ts.map tokRow) k) ∧ r = .ok (x, ts.drop k)
def PaU {α : Type} (ts : List Tk) (o : Nat) (st : St) (r : QR α) (_ : AV) (st' : St) : Prop :=
  ∃ x k, k < ts.length ∧ st' = st.set o (prC (ts.map tokRow) k) ∧ r = .ok (x, ts.drop k)
def PaP {α : Type} (ts : List Tk) (o : Nat) (st : St) (r : QR α) (pv : AV) (st' : St) : Prop :=
  ∃ e k, k < ts.length ∧ pv = fai (hd (ts.drop k)).line (e : Nat) ∧ st' = st.set o (prC (ts.map tokRow) k) ∧ r = .error (e, ts.drop k)
theorem St.set_same {st : St} {o : Nat} {c : AObj} (h : st.obj o = some c) : st.set o c = st := by
  have : (fun p => if p = o then some c else st.obj p) = st.obj := by
    funext p
    split
    · rename_i e; rw [e, h]
    · rfl
  show ({ st with obj := _ } : St) = st
  rw [this]

def fneed (s : List UInt8) (ts : List Tk) : QR Unit := if sg (hd ts) s then .ok ((), ts.tail) else .error (7, ts)
def fname (ts : List Tk) : QR (List UInt8) := if (hd ts).kind = 1 then .ok ((hd ts).text, ts.tail) else .error (7, ts)

theorem pfail_P {ts : List Tk} (H : RdH ts) {α : Type} {a o : Nat} {st : St} (ho : st.obj o = some (prC (ts.map tokRow) a)) (ha : a < ts.length) (e : Nat) {r : QR α} (hr : r = .error (e, ts.drop a)) :
    ACalls Tryd.prog 21 [.cptr o 2 0 0, .int .i64 (e : Int)] st (fun _ _ => False) (PaP ts o st r) :=
  (pfail_ok H ho ha e).mono (fun _ _ h => h) fun pv st' ⟨h1, h2⟩ => ⟨e, a, ha, h1, by rw [h2, St.set_same ho], hr⟩
theorem pneed_ok {ts : List Tk} (H : RdH ts) {a o : Nat} {st : St} (ho : st.obj o = some (prC (ts.map tokRow) a)) (ha : a < ts.length) (s : List UInt8) :
    ACalls Tryd.prog 29 [.cptr o 2 0 0, .str s] st (PaU ts o st (fneed s (ts.drop a))) (PaP ts o st (fneed s (ts.drop a))) := by
  refine ACalls.ofBody Tryd.func29 rfl Tryd.ntmps29 rfl ?_
  obtain ⟨t, t1, t2, t3, t4, t5⟩ := map_at ha
  have hl : (ts.map tokRow).length ≤ 100000 := by rw [List.length_map]; exact H.len
  unfold fneed
  rw [t3, t5]
  repeat (first | refine AWP.seq ?_ | refine rg ?_ | refine ZA (z := ?_))
  refine cl rfl rfl (psign_ok ho t4 t2 hl s) fun v st' ⟨hv, hst⟩ => ?_
  subst hv
  subst hst
  by_cases hs : sg t s = true
  · rw [hs, if_pos rfl, if_pos rfl]
    repeat (first | refine nl ?_ | refine AWP.skip ?_ | refine YI (z := ?_) | refine ZA (z := ?_))
    exact rets rfl (.refl _) (.refl _) ⟨(), a + 1, H.last _ _ t1 (by rw [(of_decide_eq_true hs).1]; decide), rfl, rfl⟩
  · rw [if_neg hs, if_neg hs]
    rw [Bool.not_eq_true] at hs
    rw [hs]
    repeat (first | refine nl ?_ | refine rg ?_ | refine YH (z := ?_) | refine ZA (z := ?_))
    exact clq rfl rfl (pfail_P H ho ha 7 rfl) (fun v st' h => ⟨st', .refl _, h⟩) fun v st' h => h.elim
theorem pname_ok {ts : List Tk} (H : RdH ts) {a o : Nat} {st : St} (ho : st.obj o = some (prC (ts.map tokRow) a)) (ha : a < ts.length) :
    ACalls Tryd.prog 28 [.cptr o 2 0 0] st (PaR ts o st .str (fname (ts.drop a))) (PaP ts o st (fname (ts.drop a))) := by
  refine ACalls.ofBody Tryd.func28 rfl Tryd.ntmps28 rfl ?_
  obtain ⟨t, t1, t2, t3, t4, t5⟩ := map_at ha
  have hl : (ts.map tokRow).length ≤ 100000 := by rw [List.length_map]; exact H.len
  have ho' := ho
  unfold prC at ho
  unfold fname
  rw [t3, t5]
  repeat (first | refine nl ?_ | refine AWP.seq ?_ | refine rg ?_ | refine ZA (z := ?_))
  refine cle rfl rfl (ptoken_ok ho' t4 t2 hl) ?_
  by_cases hk : t.kind = 1
  · have hk' : (t.kind : Int) = 1 := by omega
    rw [if_pos hk]
    repeat (first | refine nl ?_ | refine AWP.seq ?_ | refine rg ?_ | refine AWP.skip ?_ | refine YI (z := ?_) | refine ZA (z := ?_) | refine ZC (z := ?_) | refine ZF (z := ?_) | refine ZH (z := ?_) | refine ZO (z := ?_) | refine YA (z := ?_))
    refine so (rows' := [[.view 4 (ts.map tokRow) .shared, .int .i64 ((a + 1 : Nat) : Int)]]) rfl rfl rfl ho rfl rfl rfl rfl rfl ?_
    repeat (first | refine nl ?_ | refine AWP.seq ?_ | refine rg ?_ | refine ZA (z := ?_) | refine ZC (z := ?_) | refine ZF (z := ?_))
    exact AWP.ret (rets rfl (.refl _) (.refl _) ⟨t.text, a + 1, rfl, H.last _ _ t1 (by rw [hk]; decide), rfl, rfl⟩)
  · have hk' : ¬ (t.kind : Int) = 1 := by omega
    rw [if_neg hk]
    repeat (first | refine nl ?_ | refine AWP.seq ?_ | refine rg ?_ | refine YH (z := ?_) | refine ZA (z := ?_) | refine ZC (z := ?_) | refine ZF (z := ?_) | refine YA (z := ?_))
    exact clq rfl rfl (pfail_P H ho' ha 7 rfl) (fun v st' h => ⟨st', .refl _, h⟩) fun v st' h => h.elim
end Go.Proofs
/- The parser: lists of names. No conditions: definitions and lemmas only. -/
namespace Go.Proofs
open Go.AM
attribute [local irreducible] AWP AOps ACalls AAny

abbrev Names := List (List UInt8)
def fmore : Nat → Names → List Tk → QR Names
  | 0, _, _ => .error (99, [])
  | k + 1, l, ts => if sg (hd ts) [44] then
      match fname ts.tail with
      | .error e => .error e
      | .ok (n, r) => fmore k (l ++ [n]) r
    else .ok (l, ts)
def fnames (ts : List Tk) : QR Names :=
  match fname ts with
  | .error e => .error e
  | .ok (n, r) => fmore (ts.length + 1) [n] r
def nrow (l : Names) : List (List AV) := l.map fun s => [.str s]
theorem nrow_len (l : Names) : (nrow l).length = l.length := List.length_map ..
theorem fname_lt {ts : List Tk} {n : List UInt8} {r : List Tk} (h : fname ts = .ok (n, r)) (h0 : ts ≠ []) : r.length < ts.length := by
  unfold fname at h
  split at h
  · cases h
    cases ts with
    | nil => exact absurd rfl h0
    | cons a b => exact Nat.lt_succ_self _
  · cases h
theorem drop_lt {ts : List Tk} {a b : Nat} (ha : a < ts.length) (h : (ts.drop b).length < (ts.drop a).length) : a < b := by
  rw [List.length_drop, List.length_drop] at h
  omega
theorem drop_ne {ts : List Tk} {a : Nat} (h : a < ts.length) : ts.drop a ≠ [] := fun e => by
  have := congrArg List.length e
  rw [List.length_drop, List.length_nil] at this
  omega

theorem pnames_ok {ts : List Tk} (H : RdH ts) {a o : Nat} {st : St} (ho : st.obj o = some (prC (ts.map tokRow) a)) (ha : a < ts.length) :
    ACalls Tryd.prog 30 [.cptr o 2 0 0] st (PaR ts o st (fun l => .view 1 (nrow l) .shared) (fnames (ts.drop a))) (PaP ts o st (fnames (ts.drop a))) := by
  refine ACalls.ofBody Tryd.func30 rfl Tryd.ntmps30 rfl ?_
  have hl : (ts.map tokRow).length ≤ 100000 := by rw [List.length_map]; exact H.len
  repeat (first | refine nl ?_ | refine AWP.seq ?_ | refine rg ?_ | refine ZA (z := ?_))
  refine clq rfl rfl (pname_ok H ho ha) (fun v st' ⟨e, k, h1, h2, h3, h4⟩ => ⟨st', .refl _, e, k, h1, h2, h3, by rw [fnames, h4]⟩) fun v st' hR => ?_
  obtain ⟨n, k, hv, hk, hst, hr⟩ := hR
  subst hv
  subst hst
  have hak := drop_lt ha (fname_lt hr (drop_ne ha))
  refine bs1o rfl rfl rfl rfl rfl rfl fun tk htk => ?_
  repeat (first | refine nl ?_ | refine AWP.seq ?_ | refine AWP.block ?_ | refine ZA (z := ?_))
  refine AWP.loop (α := Names × Nat × Nat × Nat) (fun y => [(3, .view 1 (nrow y.1) (.own y.2.2.1 9)), (0, .cptr o 2 0 0)]) (fun y => (st.set o (prC (ts.map tokRow) y.2.1)).addTok y.2.2.1)
    (fun y => a < y.2.1 ∧ y.2.1 < ts.length ∧ st.tok y.2.2.1 = false ∧ y.1.length + a ≤ y.2.1 ∧ (ts.drop y.2.1).length < y.2.2.2 ∧ fnames (ts.drop a) = fmore y.2.2.2 y.1 (ts.drop y.2.1)) (fun y => ts.length - y.2.1) ([n], k, tk, (ts.drop a).length + 1)
    ⟨hak, hk, htk, by simp only [List.length_cons, List.length_nil]; omega, by simp only [List.length_drop]; omega, by rw [fnames, hr]⟩ (tl2 rfl rfl) (.refl _) ?_
  clear htk hak hr hk n k tk
  rintro ⟨l, k, tk, fu⟩ ⟨h1, h2, h3, h4, h5, h6⟩
  simp only at h1 h2 h3 h4 h5 h6
  refine AWP.weaken (T' := [(3, .view 1 (nrow l) (.own tk 9)), (0, .cptr o 2 0 0)]) (st' := (st.set o (prC (ts.map tokRow) k)).addTok tk) (tl2 rfl rfl) (.refl _) ?_
  obtain ⟨t, t1, t2, t3, t4, t5⟩ := map_at h2
  have hok : ∀ k', ((st.set o (prC (ts.map tokRow) k')).addTok tk).obj o = some (prC (ts.map tokRow) k') := fun k' => St.obj_set _ _ _
  obtain ⟨fu, rfl⟩ : ∃ f, fu = f + 1 := ⟨fu - 1, by omega⟩
  rw [fmore, t3, t5] at h6
  repeat (first | refine AWP.seq ?_ | refine rg ?_ | refine ZA (z := ?_))
  refine cl rfl rfl (psign_ok (hok k) t4 t2 hl [44]) fun v st' ⟨hv, hst⟩ => ?_
  subst hv
  subst hst
  by_cases hs : sg t [44] = true
  · rw [if_pos hs] at h6
    rw [hs, if_pos rfl]
    have hk1 := H.last _ _ t1 (by rw [(of_decide_eq_true hs).1]; decide)
    repeat (first | refine nl ?_ | refine rg ?_ | refine AWP.skip ?_ | refine AWP.block ?_ | refine YH (z := ?_) | refine ZA (z := ?_))
    have hS : ((st.set o (prC (ts.map tokRow) k)).addTok tk).set o (prC (ts.map tokRow) (k + 1)) = (st.set o (prC (ts.map tokRow) (k + 1))).addTok tk := by
      show ((st.addTok tk).set o _).set o _ = (st.addTok tk).set o _
      rw [St.set_set]
    rw [hS]
    have hset : ∀ k', ((st.set o (prC (ts.map tokRow) (k + 1))).addTok tk).set o (prC (ts.map tokRow) k') = (st.set o (prC (ts.map tokRow) k')).addTok tk := fun k' => by
      show ((st.addTok tk).set o _).set o _ = (st.addTok tk).set o _
      rw [St.set_set]
    refine clq rfl rfl (pname_ok H (hok (k + 1)) hk1) (fun v st' ⟨e, k', g1, g2, g3, g4⟩ => ⟨st.set o (prC (ts.map tokRow) k'), by rw [g3, hset]; exact StLe.addTok _ (.refl _), e, k', g1, g2, rfl, by rw [h6, g4]⟩) fun v st' hR => ?_
    obtain ⟨n, k', hv, hk', hst, hr⟩ := hR
    subst hv
    subst hst
    rw [hset]
    have hkk := drop_lt hk1 (fname_lt hr (drop_ne hk1))
    repeat (refine ZQ (z := ?_))
    refine ap rfl rfl rfl (St.tok_addTok _ _) rfl (by simp only [List.length_cons, List.length_nil, nrow_len]; have := H.len; omega) (by simp only [List.length_cons, List.length_nil, nrow_len, maxLen]; have := H.len; omega) fun tk' htk' => ?_
    have hm : nrow l ++ [(AV.str n).cells] = nrow (l ++ [n]) := by unfold nrow; rw [List.map_append]; rfl
    rw [hm]
    repeat (first | refine nl ?_ | refine ZA (z := ?_))
    refine ⟨(l ++ [n], k', tk', fu), ⟨by simp only; omega, hk', St.tok_of_add htk', by simp only [List.length_append, List.length_cons, List.length_nil]; omega, by simp only [List.length_drop] at h5 ⊢; omega, by rw [h6, hr]⟩, by simp only; omega, (tl2 rfl rfl), StLe.reTok (st := st.set o (prC (ts.map tokRow) k')) h3 tk'⟩
  · rw [if_neg hs] at h6
    rw [if_neg hs]
    rw [Bool.not_eq_true] at hs
    rw [hs]
    repeat (first | refine nl ?_ | refine YI (z := ?_))
    refine AWP.exit (blk_hit ?_)
    repeat (first | refine nl ?_ | refine AWP.seq ?_ | refine rg ?_ | refine ZA (z := ?_))
    exact AWP.ret (rets rfl (.shared _ _ _) (StLe.addTok _ (.refl _)) ⟨l, k, rfl, h2, rfl, h6⟩)
end Go.Proofs
/- The printer's writer: texts, tabs, lines. No conditions: definitions and lemmas only. -/
namespace Go.Proofs
open Go.AM
attribute [local irreducible] AWP AOps ACalls AAny

def wMax : Nat := 140737488355328
/-- What a function of the writer leaves behind. -/
def WrP (st : St) (o : Nat) (L : List UInt8) (_ : AV) (st' : St) : Prop := ∃ u oo, WOk st o L oo ∧ st' = wS st o u L oo
theorem wS_push {st : St} {o p : Nat} {u : Bool} {l : List UInt8} {oo : Option Nat} (h : WOk st o l oo) (hp : (wS st o u l oo).obj p = none) (c : AObj) :
    (wS st o u l oo).set p c = wS (st.set p c) o u l oo ∧ WOk (st.set p c) o l oo ∧ st.obj p = none ∧ p ≠ o := by
  unfold wS at hp ⊢
  cases oo with
  | none =>
    have hne : p ≠ o := fun e => by subst e; rw [mst, St.obj_set] at hp; cases hp
    refine ⟨?_, ⟨fun o' e => (by cases e), h.nil⟩, by rwa [mst, St.obj_set_ne hne] at hp, hne⟩
    exact St.set_comm _ hne.symm ..
  | some o' =>
    obtain ⟨h1, h2, h3⟩ := h.ne o' rfl
    have hp' : ((st.set o _).set o' _).obj p = none := hp
    have hne' : p ≠ o' := fun e => by subst e; rw [St.obj_set] at hp'; cases hp'
    rw [St.obj_set_ne hne'] at hp'
    have hne : p ≠ o := fun e => by subst e; rw [St.obj_set] at hp'; cases hp'
    rw [St.obj_set_ne hne] at hp'
    refine ⟨?_, ⟨fun o2 e => ?_, fun e => (by cases e)⟩, hp', hne⟩
    · show ((st.set o _).set o' _).set p c = ((st.set p c).set o _).set o' _
      rw [St.set_comm _ hne'.symm, St.set_comm _ hne.symm]
    · cases e
      exact ⟨h1, by rw [St.obj_set_ne hne'.symm]; exact h2, h3⟩
theorem wS_pop {st : St} {o p : Nat} {u : Bool} {l : List UInt8} {oo : Option Nat} {c : AObj} (h : WOk (st.set p c) o l oo) (hp : st.obj p = none) : StLe (wS (st.set p c) o u l oo) (wS st o u l oo) ∧ WOk st o l oo := by
  refine ⟨?_, ⟨fun o' e => ?_, h.nil⟩⟩
  · unfold wS
    cases oo with
    | none => exact StLe.set _ _ (StLe.new hp (.refl _))
    | some o' => exact StLe.set _ _ (StLe.set _ _ (StLe.new hp (.refl _)))
  · obtain ⟨h1, h2, h3⟩ := h.ne o' e
    refine ⟨h1, ?_, h3⟩
    by_cases hpo : o' = p
    · rw [hpo]; exact hp
    · rwa [St.obj_set_ne hpo] at h2
theorem WrP.pop {st : St} {o p : Nat} {L : List UInt8} {c : AObj} (hp : st.obj p = none) {v : AV} {st' : St} (h : WrP (st.set p c) o L v st') : ∃ st2, StLe st' st2 ∧ WrP st o L v st2 := by
  obtain ⟨u, oo, h1, rfl⟩ := h
  obtain ⟨h2, h3⟩ := wS_pop (u := u) h1 hp
  exact ⟨_, h2, u, oo, h3, rfl⟩
theorem wS_row {st : St} {o : Nat} {u : Bool} {l : List UInt8} {oo : Option Nat} (g : Nat) : (wS st o u l oo).row g = st.row g := by
  cases oo <;> rfl

theorem flatten_take (l : Names) (i : Nat) (s : List UInt8) (h : l[i]? = some s) : (l.take (i + 1)).flatten = (l.take i).flatten ++ s := by
  rw [List.take_add_one, h]
  simp
theorem flatten_le (l : Names) (i : Nat) : (l.take i).flatten.length ≤ l.flatten.length := by
  have h : l.flatten = (l.take i).flatten ++ (l.drop i).flatten := by rw [← List.flatten_append, List.take_append_drop]
  rw [h, List.length_append]
  omega
set_option maxHeartbeats 1000000 in
theorem texts_ok {st : St} {o : Nat} {u : Bool} {L : List UInt8} {oo : Option Nat} (h : WOk st o L oo) (l : Names) (tk : Go.AM.Tok) (hl : l.length ≤ 100000) (hb : L.length + l.flatten.length ≤ wMax) :
    ACalls Tryd.prog 46 [.cptr o 2 0 0, .view 1 (nrow l) tk] (wS st o u L oo) (WrP st o (L ++ l.flatten)) (fun _ _ => False) := by
  refine ACalls.ofBody Tryd.func46 rfl Tryd.ntmps46 rfl ?_
  unfold wMax at hb
  repeat (first | refine nl ?_ | refine AWP.seq ?_ | refine rg ?_ | refine AWP.block ?_ | refine ZA (z := ?_) | refine ZJ (z := ?_))
  refine AWP.loop (α := Nat × Bool × Option Nat) (fun y => [(8, .int .i64 (y.1 : Int)), (7, .int .i64 ((nrow l).length : Int)), (6, .view 1 (nrow l) tk), (0, .cptr o 2 0 0)]) (fun y => wS st o y.2.1 (L ++ (l.take y.1).flatten) y.2.2) (fun y => y.1 ≤ l.length ∧ WOk st o (L ++ (l.take y.1).flatten) y.2.2) (fun y => l.length - y.1) (0, u, oo)
    ⟨Nat.zero_le _, by simpa using h⟩ (tl4 rfl rfl rfl rfl) (by simp only [List.take_zero, List.flatten_nil, List.append_nil]; exact .refl _) ?_
  clear h oo u
  rintro ⟨i, u, oo⟩ ⟨hi, h⟩
  simp only at hi h
  refine AWP.weaken (T' := [(8, .int .i64 (i : Int)), (7, .int .i64 ((nrow l).length : Int)), (6, .view 1 (nrow l) tk), (0, .cptr o 2 0 0)]) (st' := wS st o u (L ++ (l.take i).flatten) oo) (tl4 rfl rfl rfl rfl) (.refl _) ?_
  have hnl := nrow_len l
  by_cases hlt : i < l.length
  · obtain ⟨s, hs⟩ : ∃ s, l[i]? = some s := ⟨_, List.getElem?_eq_getElem hlt⟩
    have hr : (nrow l)[i]? = some [.str s] := by unfold nrow; rw [List.getElem?_map, hs]; rfl
    have hir : i < (nrow l).length := by omega
    have hft := flatten_take l i s hs
    have hle := flatten_le l (i + 1)
    rw [hft, List.length_append] at hle
    repeat (first | refine nl ?_ | refine AWP.seq ?_ | refine rg ?_ | refine AWP.skip ?_ | refine AWP.block ?_ | refine YH (z := ?_) | refine ZA (z := ?_) | refine ZC (z := ?_) | refine ZF (z := ?_) | refine ZM (z := ?_))
    refine cl rfl rfl (writeString_ok h (by rw [List.length_append]; omega)) fun v st' ⟨oo', h', hst⟩ => ?_
    subst hst
    rw [List.append_assoc, ← hft] at h' ⊢
    repeat (first | refine nl ?_ | refine rg ?_ | refine ZA (z := ?_) | refine ZO (z := ?_))
    exact ⟨(i + 1, true, oo'), ⟨by simp only; omega, h'⟩, by simp only; omega, (tl4 rfl rfl rfl rfl), .refl _⟩
  · have hil : i = l.length := by omega
    subst hil
    rw [List.take_length] at h ⊢
    repeat (first | refine nl ?_ | refine AWP.seq ?_ | refine rg ?_ | refine YI (z := ?_) | refine ZA (z := ?_))
    refine AWP.exit (blk_hit ?_)
    exact rets rfl (.refl _) (.refl _) ⟨u, oo, h, rfl⟩
set_option maxHeartbeats 1000000 in
theorem tabs_ok {st : St} {o : Nat} {u : Bool} {L : List UInt8} {oo : Option Nat} (h : WOk st o L oo) (n : Nat) (hb : L.length + n ≤ wMax) :
    ACalls Tryd.prog 45 [.cptr o 2 0 0, .int .i64 (n : Int)] (wS st o u L oo) (WrP st o (L ++ List.replicate n 9)) (fun _ _ => False) := by
  refine ACalls.ofBody Tryd.func45 rfl Tryd.ntmps45 rfl ?_
  unfold wMax at hb
  repeat (first | refine nl ?_ | refine AWP.seq ?_ | refine rg ?_ | refine AWP.block ?_ | refine ZA (z := ?_))
  refine AWP.loop (α := Nat × Bool × Option Nat) (fun y => [(5, .int .i64 (y.1 : Int)), (4, .int .i64 (n : Int)), (0, .cptr o 2 0 0)]) (fun y => wS st o y.2.1 (L ++ List.replicate y.1 9) y.2.2) (fun y => y.1 ≤ n ∧ WOk st o (L ++ List.replicate y.1 9) y.2.2) (fun y => n - y.1) (0, u, oo)
    ⟨Nat.zero_le _, by simpa using h⟩ (tl3 rfl rfl rfl) (by simp only [List.replicate_zero, List.append_nil]; exact .refl _) ?_
  clear h oo u
  rintro ⟨i, u, oo⟩ ⟨hi, h⟩
  simp only at hi h
  refine AWP.weaken (T' := [(5, .int .i64 (i : Int)), (4, .int .i64 (n : Int)), (0, .cptr o 2 0 0)]) (st' := wS st o u (L ++ List.replicate i 9) oo) (tl3 rfl rfl rfl) (.refl _) ?_
  by_cases hlt : i < n
  · repeat (first | refine nl ?_ | refine AWP.seq ?_ | refine rg ?_ | refine AWP.skip ?_ | refine AWP.block ?_ | refine YH (z := ?_) | refine ZA (z := ?_) | refine ZC (z := ?_))
    refine cl rfl rfl (writeByte_ok (c := 9) h (by rw [List.length_append, List.length_replicate]; omega)) fun v st' ⟨oo', h', hst⟩ => ?_
    subst hst
    rw [List.append_assoc, ← List.replicate_succ'] at h' ⊢
    repeat (first | refine nl ?_ | refine rg ?_ | refine ZA (z := ?_) | refine ZO (z := ?_))
    exact ⟨(i + 1, true, oo'), ⟨by simp only; omega, h'⟩, by simp only; omega, (tl3 rfl rfl rfl), .refl _⟩
  · have hil : i = n := by omega
    subst hil
    repeat (first | refine nl ?_ | refine AWP.seq ?_ | refine rg ?_ | refine YI (z := ?_) | refine ZA (z := ?_))
    refine AWP.exit (blk_hit ?_)
    exact rets rfl (.refl _) (.refl _) ⟨u, oo, h, rfl⟩
def lnT (d : Nat) (l : Names) : List UInt8 := List.replicate d 9 ++ (l.flatten ++ [10])
theorem line_ok {st : St} {o : Nat} {u : Bool} {L : List UInt8} {oo : Option Nat} (h : WOk st o L oo) (d : Nat) (l : Names) (tk : Go.AM.Tok) (hl : l.length ≤ 100000) (hb : L.length + (lnT d l).length ≤ wMax) :
    ACalls Tryd.prog 32 [.cptr o 2 0 0, .int .i64 (d : Int), .view 1 (nrow l) tk] (wS st o u L oo) (WrP st o (L ++ lnT d l)) (fun _ _ => False) := by
  refine ACalls.ofBody Tryd.func32 rfl Tryd.ntmps32 rfl ?_
  simp only [lnT, List.length_append, List.length_replicate, List.length_cons, List.length_nil] at hb
  repeat (first | refine AWP.seq ?_ | refine rg ?_ | refine ZA (z := ?_))
  refine cl rfl rfl (tabs_ok h d (by omega)) fun v st' ⟨u2, oo2, h2, hst⟩ => ?_
  subst hst
  repeat (first | refine nl ?_ | refine AWP.seq ?_ | refine rg ?_ | refine ZA (z := ?_))
  refine cl rfl rfl (texts_ok h2 l tk hl (by simp only [List.length_append, List.length_replicate]; omega)) fun v st' ⟨u3, oo3, h3, hst⟩ => ?_
  subst hst
  repeat (first | refine nl ?_ | refine rg ?_ | refine ZA (z := ?_) | refine ZQ (z := ?_))
  refine cl rfl rfl (texts_ok h3 [[10]] _ (by decide) (by simp only [List.length_append, List.length_replicate, List.flatten_cons, List.flatten_nil, List.length_cons, List.length_nil]; omega)) fun v st' ⟨u4, oo4, h4, hst⟩ => ?_
  subst hst
  have e : L ++ List.replicate d 9 ++ l.flatten ++ [[10]].flatten = L ++ lnT d l := by simp [lnT]
  rw [e] at h4 ⊢
  repeat (refine nl ?_)
  exact rets rfl (.refl _) (.refl _) ⟨u4, oo4, h4, rfl⟩
end Go.Proofs
/- The parser: a record. No conditions: definitions and lemmas only. -/
namespace Go.Proofs
open Go.AM
attribute [local irreducible] AWP AOps ACalls AAny

def qb {α β : Type} (r : QR α) (f : α → List Tk → QR β) : QR β :=
  match r with
  | .error e => .error e
  | .ok (x, r) => f x r
theorem qb_ok {α β : Type} {r : QR α} {f : α → List Tk → QR β} {x : α} {t : List Tk} (h : r = .ok (x, t)) : qb r f = f x t := by rw [h]; rfl
theorem qb_err {α β : Type} {r : QR α} {f : α → List Tk → QR β} {e : Nat × List Tk} (h : r = .error e) : qb r f = .error e := by rw [h]; rfl

structure Rec where
  name : List UInt8
  fields : Names
def recRow (r : Rec) : List AV := [.str r.name, .view 1 (nrow r.fields) .shared]
def frecord (ts : List Tk) : QR Rec :=
  qb (fname ts) fun n r1 => qb (fneed [123] r1) fun _ r2 => qb (fnames r2) fun l r3 => qb (fneed [125] r3) fun _ r4 => .ok (⟨n, l⟩, r4)

/-! States: the parser's object innermost, what is local behind it. -/
theorem set_ne_new {st : St} {o p : Nat} {a : AObj} (h : (st.set o a).obj p = none) : o ≠ p := fun e => by subst e; rw [St.obj_set] at h; cases h
theorem none_set {st : St} {o p : Nat} {a : AObj} (h : (st.set o a).obj p = none) (r : AObj) : (st.set o r).obj p = none := by
  have hne := set_ne_new h
  rw [St.obj_set_ne (Ne.symm hne)] at h ⊢
  exact h
theorem none_set2 {st : St} {o o2 p : Nat} {a y : AObj} (h : ((st.set o a).set o2 y).obj p = none) (r z : AObj) : ((st.set o r).set o2 z).obj p = none := by
  have hne := set_ne_new h
  rw [St.obj_set_ne (Ne.symm hne)] at h ⊢
  exact none_set h r
theorem none_set3 {st : St} {o o2 o3 p : Nat} {a y x : AObj} (h : (((st.set o a).set o2 y).set o3 x).obj p = none) (r z w : AObj) : (((st.set o r).set o2 z).set o3 w).obj p = none := by
  have hne := set_ne_new h
  rw [St.obj_set_ne (Ne.symm hne)] at h ⊢
  exact none_set2 h r z
theorem ne_inner {st : St} {o o2 p : Nat} {a y : AObj} (h : ((st.set o a).set o2 y).obj p = none) : o ≠ p := by
  have hne := set_ne_new h
  rw [St.obj_set_ne (Ne.symm hne)] at h
  exact set_ne_new h
theorem ne_inner2 {st : St} {o o2 o3 p : Nat} {a y x : AObj} (h : (((st.set o a).set o2 y).set o3 x).obj p = none) : o ≠ p := by
  have hne := set_ne_new h
  rw [St.obj_set_ne (Ne.symm hne)] at h
  exact ne_inner h
def ob0 : AObj := .iter [] 0
section
variable {st : St} {o o2 o3 o4 : Nat} (h2 : ∀ r, (st.set o r).obj o2 = none) (h3 : ∀ r z, ((st.set o r).set o2 z).obj o3 = none) (h4 : ∀ r z w, (((st.set o r).set o2 z).set o3 w).obj o4 = none)
include h2 in
theorem push1 (b z r : AObj) : ((st.set o b).set o2 z).set o r = (st.set o r).set o2 z := by
  rw [St.set_comm _ (Ne.symm (set_ne_new (h2 ob0))), St.set_set]
include h2 h3 in
theorem push2 (b z w r : AObj) : (((st.set o b).set o2 z).set o3 w).set o r = ((st.set o r).set o2 z).set o3 w := by
  rw [St.set_comm _ (Ne.symm (ne_inner (h3 ob0 ob0))), push1 h2]
include h2 in
theorem drop1 (z r : AObj) : StLe ((st.set o r).set o2 z) (st.set o r) := StLe.new (h2 r) (.refl _)
include h2 h3 in
theorem drop2 (z w r : AObj) : StLe (((st.set o r).set o2 z).set o3 w) (st.set o r) := StLe.new (h3 r z) (drop1 h2 z r)
include h2 in
theorem obj1 (z r : AObj) : ((st.set o r).set o2 z).obj o = some r := St.obj_under (Ne.symm (set_ne_new (h2 ob0))) _ _
include h2 h3 in
theorem obj2 (z w r : AObj) : (((st.set o r).set o2 z).set o3 w).obj o = some r := by
  rw [St.obj_set_ne (ne_inner (h3 ob0 ob0))]
  exact obj1 h2 z r
end
theorem ACalls.inSet {P : Program} {f : FuncId} {args : List AV} {st : St} {Rt RP : AV → St → Prop} {o : Nat} {c : AObj} (ho : st.obj o = some c) (h : ACalls P f args (st.set o c) Rt RP) : ACalls P f args st Rt RP := by
  rw [St.set_same ho] at h
  exact h

theorem precord_ok {ts : List Tk} (H : RdH ts) {a o : Nat} {st : St} (ho : st.obj o = some (prC (ts.map tokRow) a)) (ha : a < ts.length) :
    ACalls Tryd.prog 18 [.cptr o 2 0 0] st (PaR ts o st (fun r => .agg (recRow r)) (frecord (ts.drop a))) (PaP ts o st (frecord (ts.drop a))) := by
  refine ACalls.inSet ho (ACalls.ofBody Tryd.func18 rfl Tryd.ntmps18 rfl ?_)
  have hl : (ts.map tokRow).length ≤ 100000 := by rw [List.length_map]; exact H.len
  repeat (refine AWP.seq ?_)
  refine rg ?_
  refine al rfl rfl fun o2 h2 => ?_
  replace h2 := none_set h2
  repeat (first | refine nl ?_ | refine AWP.seq ?_ | refine rg ?_ | refine ZA (z := ?_))
  refine clq rfl rfl (pname_ok H (obj1 h2 _ _) ha) (fun v st' ⟨e, k, q1, q2, q3, q4⟩ => ⟨_, by rw [q3, push1 h2]; exact drop1 h2 _ _, e, k, q1, q2, rfl, by rw [frecord, qb_err q4]⟩) fun v st' hR => ?_
  obtain ⟨n, k, hv, hk, hst, hr⟩ := hR
  subst hv
  subst hst
  rw [push1 h2, frecord, qb_ok hr]
  clear hr
  skip
  refine bds (cs := [.str n, nilV]) rfl rfl rfl rfl ?_
  refine al rfl rfl fun o3 h3 => ?_
  replace h3 := none_set2 h3
  refine soV rfl rfl rfl rfl rfl rfl ?_
  repeat (first | refine nl ?_ | refine AWP.seq ?_ | refine rg ?_ | refine ZA (z := ?_))
  refine clq rfl rfl (pneed_ok H (obj2 h2 h3 _ _ _) hk [123]) (fun v st' ⟨e, k, q1, q2, q3, q4⟩ => ⟨_, by rw [q3, push2 h2 h3]; exact drop2 h2 h3 _ _ _, e, k, q1, q2, rfl, by rw [qb_err q4]⟩) fun v st' hR => ?_
  obtain ⟨x1, k2, hk2, hst, hr⟩ := hR
  subst hst
  rw [push2 h2 h3, qb_ok hr]
  clear hr
  repeat (first | refine nl ?_ | refine AWP.seq ?_ | refine rg ?_ | refine ZA (z := ?_))
  refine clq rfl rfl (pnames_ok H (obj2 h2 h3 _ _ _) hk2) (fun v st' ⟨e, k, q1, q2, q3, q4⟩ => ⟨_, by rw [q3, push2 h2 h3]; exact drop2 h2 h3 _ _ _, e, k, q1, q2, rfl, by rw [qb_err q4]⟩) fun v st' hR => ?_
  obtain ⟨l, k3, hv, hk3, hst, hr⟩ := hR
  subst hv
  subst hst
  rw [push2 h2 h3, qb_ok hr]
  clear hr
  repeat (refine ZC (z := ?_))
  refine so1 (row' := recRow ⟨n, l⟩) rfl rfl rfl rfl rfl (by exact Nat.le_of_ble_eq_true rfl) rfl ?_
  repeat (first | refine nl ?_ | refine AWP.seq ?_ | refine rg ?_ | refine ZA (z := ?_))
  refine clq rfl rfl (pneed_ok H (obj2 h2 h3 _ _ _) hk3 [125]) (fun v st' ⟨e, k, q1, q2, q3, q4⟩ => ⟨_, by rw [q3, push2 h2 h3]; exact drop2 h2 h3 _ _ _, e, k, q1, q2, rfl, by rw [qb_err q4]⟩) fun v st' hR => ?_
  obtain ⟨x1, k4, hk4, hst, hr⟩ := hR
  subst hst
  rw [push2 h2 h3, qb_ok hr]
  clear hr
  repeat (first | refine nl ?_ | refine AWP.seq ?_ | refine rg ?_ | refine ZE (z := ?_))
  refine soU rfl (Ne.symm (set_ne_new (h3 ob0 ob0))) rfl rfl rfl rfl rfl ?_
  repeat (refine nl ?_)
  exact AWP.ret (rets (resCW rfl (St.obj_under (Ne.symm (set_ne_new (h3 ob0 ob0))) _ _) rfl rfl rfl rfl) (.refl _) (drop2 h2 h3 _ _ _) ⟨⟨n, l⟩, k4, rfl, hk4, rfl, rfl⟩)
end Go.Proofs
/- The parser: what an expression begins with, operators. No conditions: definitions and lemmas only. -/
namespace Go.Proofs
open Go.AM
attribute [local irreducible] AWP AOps ACalls AAny

theorem pbeg_ok (t : Tk) (st : St) : ACalls Tryd.prog 83 [.agg (tokRow t)] st (fun v st' => v = .bool (beg t) ∧ st' = st) (fun _ _ => False) := by
  refine ACalls.ofBody Tryd.func83 rfl Tryd.ntmps83 rfl ?_
  by_cases h1 : t.kind = 1
  · have hb : beg t = true := by unfold beg; rw [h1]; rfl
    rw [hb]
    have h1' : (t.kind : Int) = 1 := by omega
    repeat (first | refine nl ?_ | refine AWP.seq ?_ | refine rg ?_ | refine AWP.skip ?_ | refine AWP.block ?_ | refine YH (z := ?_) | refine ZA (z := ?_) | refine ZC (z := ?_) | refine ZF (z := ?_) | refine ZR (z := ?_))
    exact AWP.ret (rets rfl (.refl _) (.refl _) ⟨rfl, rfl⟩)
  have h1' : ¬ (t.kind : Int) = 1 := by omega
  by_cases h2 : t.kind = 2
  · have hb : beg t = true := by unfold beg; rw [h2]; rfl
    rw [hb]
    have h2' : (t.kind : Int) = 2 := by omega
    repeat (first | refine nl ?_ | refine AWP.seq ?_ | refine rg ?_ | refine AWP.block ?_ | refine YH (z := ?_) | refine YI (z := ?_) | refine ZA (z := ?_) | refine ZC (z := ?_) | refine ZF (z := ?_) | refine ZR (z := ?_))
    exact AWP.ret (rets rfl (.refl _) (.refl _) ⟨rfl, rfl⟩)
  have h2' : ¬ (t.kind : Int) = 2 := by omega
  by_cases h4 : t.kind = 4
  · have h4' : (t.kind : Int) = 4 := by omega
    have hb : beg t = (decide (t.text = [45]) || decide (t.text = [33]) || decide (t.text = [40])) := by
      unfold beg sg
      simp only [h4, true_and]
      rfl
    rw [hb]
    clear hb
    repeat (first | refine nl ?_ | refine AWP.seq ?_ | refine rg ?_ | refine AWP.block ?_ | refine YH (z := ?_) | refine YI (z := ?_) | refine ZA (z := ?_) | refine ZC (z := ?_) | refine ZF (z := ?_) | refine ZR (z := ?_))
    by_cases k1 : t.text = [45]
    · rw [decide_eq_true k1, Bool.true_or, Bool.true_or]
      repeat (first | refine nl ?_ | refine ZA (z := ?_) | refine ZB (z := ?_))
      exact AWP.ret (rets rfl (.refl _) (.refl _) ⟨rfl, rfl⟩)
    rw [decide_eq_false k1, Bool.false_or]
    by_cases k2 : t.text = [33]
    · rw [decide_eq_true k2, Bool.true_or]
      repeat (first | refine nl ?_ | refine ZA (z := ?_) | refine ZB (z := ?_) | refine ZC (z := ?_) | refine ZF (z := ?_) | refine YD (z := ?_))
      exact AWP.ret (rets rfl (.refl _) (.refl _) ⟨rfl, rfl⟩)
    rw [decide_eq_false k2, Bool.false_or]
    repeat (first | refine nl ?_ | refine ZA (z := ?_) | refine ZC (z := ?_) | refine ZF (z := ?_) | refine YE (z := ?_))
    exact AWP.ret (rets rfl (.refl _) (.refl _) ⟨rfl, rfl⟩)
  · have h4' : ¬ (t.kind : Int) = 4 := by omega
    have hb : beg t = false := by
      unfold beg sg
      simp [h1, h2, h4]
    rw [hb]
    repeat (first | refine nl ?_ | refine AWP.seq ?_ | refine rg ?_ | refine AWP.skip ?_ | refine AWP.block ?_ | refine YI (z := ?_) | refine ZA (z := ?_) | refine ZC (z := ?_) | refine ZF (z := ?_) | refine ZR (z := ?_))
    exact AWP.ret (rets rfl (.refl _) (.refl _) ⟨rfl, rfl⟩)

def sgnRow : List AV := [.str [43], .str [45], .str [42], .str [47], .str [37], .str [38], .str [124], .str [94], .str [60], .str [60, 61], .str [61, 61], .str [33, 61]]
/-- The operators of a level, by numbers. -/
def opLo : Nat → Nat
  | 1 => 14 | 2 => 11 | 3 => 6 | _ => 8
def opHi : Nat → Nat
  | 1 => 17 | 2 => 13 | 3 => 7 | _ => 10
theorem sgnRow_at : ∀ m, m < 12 → ∃ s l, binL[m]? = some (s, l, m + 6) ∧ sgnRow[m]? = some (.str s) ∧ 1 ≤ l ∧ l ≤ 4 ∧ (∀ lv, 1 ≤ lv → lv ≤ 4 → (l = lv ↔ opLo lv ≤ m + 6 ∧ m + 6 ≤ opHi lv))
  | 0, _ => ⟨_, _, rfl, rfl, by decide, by decide, fun lv h1 h4 => by rcases (by omega : lv = 1 ∨ lv = 2 ∨ lv = 3 ∨ lv = 4) with rfl | rfl | rfl | rfl <;> decide⟩
  | 1, _ => ⟨_, _, rfl, rfl, by decide, by decide, fun lv h1 h4 => by rcases (by omega : lv = 1 ∨ lv = 2 ∨ lv = 3 ∨ lv = 4) with rfl | rfl | rfl | rfl <;> decide⟩
  | 2, _ => ⟨_, _, rfl, rfl, by decide, by decide, fun lv h1 h4 => by rcases (by omega : lv = 1 ∨ lv = 2 ∨ lv = 3 ∨ lv = 4) with rfl | rfl | rfl | rfl <;> decide⟩
  | 3, _ => ⟨_, _, rfl, rfl, by decide, by decide, fun lv h1 h4 => by rcases (by omega : lv = 1 ∨ lv = 2 ∨ lv = 3 ∨ lv = 4) with rfl | rfl | rfl | rfl <;> decide⟩
  | 4, _ => ⟨_, _, rfl, rfl, by decide, by decide, fun lv h1 h4 => by rcases (by omega : lv = 1 ∨ lv = 2 ∨ lv = 3 ∨ lv = 4) with rfl | rfl | rfl | rfl <;> decide⟩
  | 5, _ => ⟨_, _, rfl, rfl, by decide, by decide, fun lv h1 h4 => by rcases (by omega : lv = 1 ∨ lv = 2 ∨ lv = 3 ∨ lv = 4) with rfl | rfl | rfl | rfl <;> decide⟩
  | 6, _ => ⟨_, _, rfl, rfl, by decide, by decide, fun lv h1 h4 => by rcases (by omega : lv = 1 ∨ lv = 2 ∨ lv = 3 ∨ lv = 4) with rfl | rfl | rfl | rfl <;> decide⟩
  | 7, _ => ⟨_, _, rfl, rfl, by decide, by decide, fun lv h1 h4 => by rcases (by omega : lv = 1 ∨ lv = 2 ∨ lv = 3 ∨ lv = 4) with rfl | rfl | rfl | rfl <;> decide⟩
  | 8, _ => ⟨_, _, rfl, rfl, by decide, by decide, fun lv h1 h4 => by rcases (by omega : lv = 1 ∨ lv = 2 ∨ lv = 3 ∨ lv = 4) with rfl | rfl | rfl | rfl <;> decide⟩
  | 9, _ => ⟨_, _, rfl, rfl, by decide, by decide, fun lv h1 h4 => by rcases (by omega : lv = 1 ∨ lv = 2 ∨ lv = 3 ∨ lv = 4) with rfl | rfl | rfl | rfl <;> decide⟩
  | 10, _ => ⟨_, _, rfl, rfl, by decide, by decide, fun lv h1 h4 => by rcases (by omega : lv = 1 ∨ lv = 2 ∨ lv = 3 ∨ lv = 4) with rfl | rfl | rfl | rfl <;> decide⟩
  | 11, _ => ⟨_, _, rfl, rfl, by decide, by decide, fun lv h1 h4 => by rcases (by omega : lv = 1 ∨ lv = 2 ∨ lv = 3 ∨ lv = 4) with rfl | rfl | rfl | rfl <;> decide⟩
  | n + 12, h => absurd h (by omega)
theorem bin_at {t : Tk} {s : List UInt8} {x : List UInt8 × Nat × Nat} (hx : x ∈ binL) (hs : x.1 = s) (h : sg t s = true) : bin t = x.2 := by
  have hk := of_decide_eq_true h
  subst hs
  obtain ⟨k1, k2⟩ := hk
  unfold bin binL sg
  simp only [k1, k2, true_and]
  simp only [binL, List.mem_cons, List.not_mem_nil, or_false] at hx
  rcases hx with rfl | rfl | rfl | rfl | rfl | rfl | rfl | rfl | rfl | rfl | rfl | rfl <;> decide
theorem bin_no {t : Tk} {lv : Nat} (h1 : 1 ≤ lv) (h : ∀ x, x ∈ binL → x.2.1 = lv → sg t x.1 = false) : (bin t).1 ≠ lv := by
  unfold bin
  cases hf : binL.find? fun o => sg t o.1 with
  | none => intro e; simp at e; omega
  | some x =>
    intro e
    have hm := List.mem_of_find?_eq_some hf
    have hp := List.find?_some hf
    simp only [Option.map_some, Option.getD_some] at e
    rw [h x hm e] at hp
    cases hp
theorem poperator_ok {X : List (List AV)} {a o : Nat} {t : Tk} {st : St} (ho : st.obj o = some (prC X a)) (ha : a < X.length) (hX : X[a]? = some (tokRow t)) (hl : X.length ≤ 100000) (lv : Nat) (h1 : 1 ≤ lv) (h4 : lv ≤ 4) (hg : st.row 2 = some sgnRow) :
    ACalls Tryd.prog 62 [.cptr o 2 0 0, .int .i64 (opLo lv : Int), .int .i64 (opHi lv : Int)] st
      (fun v st' => v = .int .i64 ((if (bin t).1 = lv then (bin t).2 else 0 : Nat) : Int) ∧ st' = if (bin t).1 = lv then st.set o (prC X (a + 1)) else st) (fun _ _ => False) := by
  refine ACalls.ofBody Tryd.func62 rfl Tryd.ntmps62 rfl ?_
  have hlo : 6 ≤ opLo lv ∧ opLo lv ≤ opHi lv ∧ opHi lv ≤ 17 := by rcases (by omega : lv = 1 ∨ lv = 2 ∨ lv = 3 ∨ lv = 4) with rfl | rfl | rfl | rfl <;> decide
  repeat (first | refine nl ?_ | refine AWP.seq ?_ | refine rg ?_ | refine AWP.block ?_ | refine ZA (z := ?_))
  refine AWP.loop (α := Nat) (fun i => [(7, .int .i64 (i : Int)), (2, .int .i64 (opHi lv : Int)), (0, .cptr o 2 0 0)]) (fun _ => st) (fun i => opLo lv ≤ i ∧ i ≤ opHi lv + 1 ∧ ∀ x, x ∈ binL → opLo lv ≤ x.2.2 → x.2.2 < i → sg t x.1 = false) (fun i => 18 - i) (opLo lv)
    ⟨Nat.le_refl _, by omega, fun x _ h2 h3 => by omega⟩ (tl3 rfl rfl rfl) (.refl _) ?_
  rintro i ⟨k1, k2, k3⟩
  refine AWP.weaken (T' := [(7, .int .i64 (i : Int)), (2, .int .i64 (opHi lv : Int)), (0, .cptr o 2 0 0)]) (tl3 rfl rfl rfl) (.refl _) ?_
  by_cases hi : i ≤ opHi lv
  · obtain ⟨m, rfl⟩ : ∃ m, i = m + 6 := ⟨i - 6, by omega⟩
    obtain ⟨s, l, q1, q2, q3, q4, q5⟩ := sgnRow_at m (by omega)
    repeat (first | refine nl ?_ | refine AWP.seq ?_ | refine rg ?_ | refine AWP.skip ?_ | refine AWP.block ?_ | refine YH (z := ?_) | refine ZA (z := ?_))
    refine sbn (a := m + 6) (b := 6) rfl rfl rfl (by omega) ?_
    skip
    have hgl : ∀ T : Tmps, ev st T (.global 2) = some (.eptr 12 [sgnRow] 0 0) := fun T => congrArg (Option.map fun row : List AV => AV.eptr row.length [row] 0 0) hg
    refine ixa (m := m) (q := .eptr 12 [sgnRow] 0 (0 + m * 1)) rfl rfl (by omega) (by omega) (by rw [hgl]; rfl) ?_
    refine Go.AM.le (v := .str s) rfl rfl rfl (by rw [Nat.zero_add, Nat.mul_one]; exact sel_one q2) ?_
    skip
    refine cl rfl rfl (psign_ok ho ha hX hl s) fun v st' ⟨hv, hst⟩ => ?_
    subst hv
    subst hst
    by_cases hs : sg t s = true
    · have hb : bin t = (l, m + 6) := bin_at (List.mem_of_getElem? q1) rfl hs
      have hl : l = lv := (q5 lv h1 h4).2 ⟨k1, hi⟩
      rw [hb, if_pos hl, if_pos hl, hs, if_pos rfl]
      repeat (first | refine nl ?_ | refine AWP.seq ?_ | refine rg ?_ | refine YH (z := ?_) | refine ZA (z := ?_))
      exact AWP.ret (rets rfl (.refl _) (.refl _) ⟨rfl, rfl⟩)
    · rw [if_neg hs]
      rw [Bool.not_eq_true] at hs
      rw [hs]
      repeat (first | refine nl ?_ | refine rg ?_ | refine AWP.skip ?_ | refine YI (z := ?_) | refine ZA (z := ?_) | refine ZO (z := ?_))
      refine ⟨m + 6 + 1, ⟨by omega, by omega, fun x hx h2 h3 => ?_⟩, by omega, (tl3 rfl rfl rfl), .refl _⟩
      rcases Nat.lt_or_ge x.2.2 (m + 6) with h | h
      · exact k3 x hx h2 h
      · obtain ⟨m', hm'⟩ := List.getElem?_of_mem hx
        obtain ⟨s', l', r1, _, _, _, _⟩ := sgnRow_at m' (List.getElem?_eq_some_iff.1 hm').1
        rw [r1] at hm'
        cases hm'
        simp only at h h3
        have : m' = m := by omega
        subst this
        rw [q1] at r1
        cases r1
        exact hs
  · repeat (first | refine nl ?_ | refine AWP.seq ?_ | refine rg ?_ | refine YI (z := ?_) | refine ZA (z := ?_))
    refine AWP.exit (blk_hit ?_)
    repeat (first | refine nl ?_ | refine AWP.seq ?_ | refine rg ?_ | refine ZA (z := ?_))
    have hno : (bin t).1 ≠ lv := bin_no h1 fun x hx he => by
      obtain ⟨m, hm⟩ := List.getElem?_of_mem hx
      have hm12 : m < 12 := (List.getElem?_eq_some_iff.1 hm).1
      obtain ⟨s, l, q1, q2, q3, q4, q5⟩ := sgnRow_at m hm12
      rw [q1] at hm
      cases hm
      have := (q5 lv h1 h4).1 he
      exact k3 _ hx this.1 (by simp only; omega)
    rw [if_neg hno, if_neg hno]
    exact AWP.ret (rets rfl (.refl _) (.refl _) ⟨rfl, rfl⟩)
end Go.Proofs
/- The parser: a variable, field or element. No conditions: definitions and lemmas only. -/
namespace Go.Proofs
open Go.AM
attribute [local irreducible] AWP AOps ACalls AAny

/-- An expression's cells. -/
def xrow : Xp → List AV
  | .lit n => exRow 0 n [] [] noE
  | .var s => exRow 1 0 s [] noE
  | .fld s f => exRow 2 0 s f noE
  | .elt s a => exRow 3 0 s [] (.view 6 [xrow a] .shared)
  | .una op a => exRow op 0 [] [] (.view 6 [xrow a] .shared)
  | .bin op a b => exRow op 0 [] [] (.view 6 [xrow a, xrow b] .shared)
theorem xrow_ex (x : Xp) : ∃ (op num : Int) (name field : List UInt8) (args : List (List AV)), xrow x = exRow op num name field (.view 6 args .shared) := by
  cases x <;> exact ⟨_, _, _, _, _, rfl⟩
def xv (x : Xp) : AV := .agg (xrow x)

def ftg (k d : Nat) (ts : List Tk) : FR :=
  qb (fname ts) fun n r => if sg (hd r) [46] then qb (fname r.tail) fun f r2 => .ok (.fld n f, r2)
    else if sg (hd r) [91] then qb (fe k 1 (d + 1) r.tail) fun x r2 => qb (fneed [93] r2) fun _ r3 => .ok (.elt n x, r3)
    else .ok (.var n, r)
theorem fo_name {k d : Nat} {ts : List Tk} (h1 : (hd ts).kind = 1) (h8 : ¬ 8 < d) : fo (k + 1) d ts = ftg k d ts := by
  have hb : beg (hd ts) = true := by unfold beg; rw [h1]; rfl
  rw [fo, if_pos hb, if_neg h8, if_neg (by omega), if_pos h1, ftg, fname, if_pos h1, qb_ok rfl]
  split
  · rw [fname]
    split <;> rfl
  · split
    · cases fe k 1 (d + 1) ts.tail.tail with
      | error e => rfl
      | ok p =>
        obtain ⟨x, r⟩ := p
        rw [qb_ok rfl, fneed]
        simp only
        split <;> rfl
    · rfl

/-- The functions of the levels. -/
def fnLv : Nat → Nat
  | 1 => 53 | 2 => 61 | 3 => 71 | 4 => 74 | _ => 78
def FeOk (ts : List Tk) (K : Nat) : Prop := ∀ k, k ≤ K → ∀ (lv d a o : Nat) (st : St), 1 ≤ lv → lv ≤ 5 → d ≤ 9 → a < ts.length → 7 * (ts.length - a) + (6 - lv) < k → st.obj o = some (prC (ts.map tokRow) a) → st.row 2 = some sgnRow →
  ACalls Tryd.prog (fnLv lv) [.cptr o 2 0 0, .int .i64 (d : Int)] st (PaR ts o st xv (fe k lv d (ts.drop a))) (PaP ts o st (fe k lv d (ts.drop a)))

theorem pneed_of {ts : List Tk} (H : RdH ts) {a o : Nat} {st : St} (ho : st.obj o = some (prC (ts.map tokRow) a)) (ha : a < ts.length) : ∃ t, ts[a]? = some t ∧ hd (ts.drop a) = t ∧ (ts.drop a).tail = ts.drop (a + 1) ∧ (t.kind ≠ 0 → a + 1 < ts.length) ∧
    (∀ s, ACalls Tryd.prog 43 [.cptr o 2 0 0, .str s] st (fun v st' => v = .bool (sg t s) ∧ st' = if sg t s = true then st.set o (prC (ts.map tokRow) (a + 1)) else st) (fun _ _ => False)) ∧
    (∀ s, ACalls Tryd.prog 17 [.cptr o 2 0 0, .str s] st (fun v st' => v = .bool (kw t s) ∧ st' = if kw t s = true then st.set o (prC (ts.map tokRow) (a + 1)) else st) (fun _ _ => False)) ∧
    ACalls Tryd.prog 20 [.cptr o 2 0 0] st (fun v st' => v = .agg (tokRow t) ∧ st' = st) (fun _ _ => False) := by
  obtain ⟨t, t1, t2, t3, t4, t5⟩ := map_at ha
  have hl : (ts.map tokRow).length ≤ 100000 := by rw [List.length_map]; exact H.len
  exact ⟨t, t1, t3, t5, H.last _ _ t1, psign_ok ho t4 t2 hl, pword_ok ho t4 t2 hl, ptoken_ok ho t4 t2 hl⟩
theorem sg_kind {t : Tk} {s : List UInt8} (h : sg t s = true) : t.kind ≠ 0 := by rw [(of_decide_eq_true h).1]; decide

theorem ptarget_ok {ts : List Tk} (H : RdH ts) {k : Nat} (hK : FeOk ts k) {d a o : Nat} {st : St} (hd8 : d ≤ 8) (ho : st.obj o = some (prC (ts.map tokRow) a)) (ha : a < ts.length) (hk : 7 * (ts.length - a) < k + 2) (hg : st.row 2 = some sgnRow) :
    ACalls Tryd.prog 65 [.cptr o 2 0 0, .int .i64 (d : Int)] st (PaR ts o st xv (ftg k d (ts.drop a))) (PaP ts o st (ftg k d (ts.drop a))) := by
  refine ACalls.inSet ho (ACalls.ofBody Tryd.func65 rfl Tryd.ntmps65 rfl ?_)
  repeat (refine AWP.seq ?_)
  refine rg ?_
  refine al rfl rfl fun o2 h2 => ?_
  replace h2 := none_set h2
  repeat (first | refine nl ?_ | refine AWP.seq ?_ | refine rg ?_ | refine ZA (z := ?_))
  refine clq rfl rfl (pname_ok H (obj1 h2 _ _) ha) (fun v st' ⟨e, k, q1, q2, q3, q4⟩ => ⟨_, by rw [q3, push1 h2]; exact drop1 h2 _ _, e, k, q1, q2, rfl, by rw [ftg, qb_err q4]⟩) fun v st' hR => ?_
  obtain ⟨n, b, hv, hb, hst, hr⟩ := hR
  subst hv
  subst hst
  have hab := drop_lt ha (fname_lt hr (drop_ne ha))
  rw [push1 h2, ftg, qb_ok hr]
  clear hr
  refine bds (cs := exRow 1 0 n [] nilV) rfl rfl rfl rfl ?_
  refine al rfl rfl fun o3 h3 => ?_
  replace h3 := none_set2 h3
  refine soV rfl rfl rfl rfl rfl rfl ?_
  repeat (first | refine nl ?_ | refine AWP.seq ?_ | refine rg ?_ | refine ZA (z := ?_))
  obtain ⟨t, t1, t3, t5, t6, ps, _, _⟩ := pneed_of H (obj2 h2 h3 (.cells 37 6 [exRow 0 0 [] [] nilV]) (.cells 37 6 [exRow 1 0 n [] nilV]) _) hb
  rw [t3, t5]
  refine cl rfl rfl (ps [46]) fun v st' ⟨hv, hst⟩ => ?_
  subst hv
  subst hst
  by_cases c1 : sg t [46] = true
  · rw [if_pos c1, if_pos c1, c1, push2 h2 h3]
    have hb1 := t6 (sg_kind c1)
    obtain ⟨u, _, u3, u5, u6, _, _, _⟩ := pneed_of H (obj2 h2 h3 (.cells 37 6 [exRow 0 0 [] [] nilV]) (.cells 37 6 [exRow 1 0 n [] nilV]) _) hb1
    repeat (first | refine nl ?_ | refine AWP.seq ?_ | refine rg ?_ | refine YH (z := ?_) | refine ZC (z := ?_))
    refine so1 (row' := exRow 2 0 n [] nilV) rfl rfl rfl rfl rfl (by exact Nat.le_of_ble_eq_true rfl) rfl ?_
    repeat (first | refine nl ?_ | refine rg ?_ | refine ZA (z := ?_))
    refine clq rfl rfl (pname_ok H (obj2 h2 h3 _ _ _) hb1) (fun v st' ⟨e, k, q1, q2, q3, q4⟩ => ⟨_, by rw [q3, push2 h2 h3]; exact drop2 h2 h3 _ _ _, e, k, q1, q2, rfl, by rw [qb_err q4]⟩) fun v st' hR => ?_
    obtain ⟨f, c, hv, hc, hst, hr⟩ := hR
    subst hv
    subst hst
    rw [push2 h2 h3, qb_ok hr]
    repeat (refine ZC (z := ?_))
    refine so1 (row' := exRow 2 0 n f nilV) rfl rfl rfl rfl rfl (by exact Nat.le_of_ble_eq_true rfl) rfl ?_
    repeat (first | refine nl ?_ | refine AWP.seq ?_ | refine rg ?_ | refine ZE (z := ?_))
    refine soU rfl (Ne.symm (set_ne_new (h3 ob0 ob0))) rfl rfl rfl rfl rfl ?_
    repeat (refine nl ?_)
    exact AWP.ret (rets (resCW rfl (St.obj_under (Ne.symm (set_ne_new (h3 ob0 ob0))) _ _) rfl rfl rfl rfl) (ex_nil _ _ _ _) (drop2 h2 h3 _ _ _) ⟨.fld n f, c, rfl, hc, rfl, rfl⟩)
  rw [if_neg c1, if_neg c1]
  rw [Bool.not_eq_true] at c1
  rw [c1]
  repeat (first | refine nl ?_ | refine AWP.seq ?_ | refine rg ?_ | refine YI (z := ?_) | refine ZA (z := ?_))
  refine cl rfl rfl (ps [91]) fun v st' ⟨hv, hst⟩ => ?_
  subst hv
  subst hst
  by_cases c2 : sg t [91] = true
  · rw [if_pos c2, if_pos c2, c2, push2 h2 h3]
    have hb1 := t6 (sg_kind c2)
    repeat (first | refine nl ?_ | refine AWP.seq ?_ | refine rg ?_ | refine YH (z := ?_) | refine ZC (z := ?_))
    refine so1 (row' := exRow 3 0 n [] nilV) rfl rfl rfl rfl rfl (by exact Nat.le_of_ble_eq_true rfl) rfl ?_
    repeat (first | refine nl ?_ | refine AWP.seq ?_ | refine rg ?_ | refine ZA (z := ?_) | refine ZO (z := ?_))
    refine clq rfl rfl (hK k (Nat.le_refl _) 1 (d + 1) (b + 1) o _ (Nat.le_refl _) (by omega) (by omega) hb1 (by omega) (obj2 h2 h3 _ _ _) hg) (fun v st' ⟨e, k, q1, q2, q3, q4⟩ => ⟨_, by rw [q3, push2 h2 h3]; exact drop2 h2 h3 _ _ _, e, k, q1, q2, rfl, by rw [qb_err q4]⟩) fun v st' hR => ?_
    obtain ⟨x, c, hv, hc, hst, hr⟩ := hR
    subst hv
    subst hst
    rw [push2 h2 h3, qb_ok hr]
    obtain ⟨op, num, name, field, args, hx⟩ := xrow_ex x
    rw [xv, hx]
    refine bsh (cs := exRow op num name field (.view 6 args .shared)) rfl rfl rfl rfl rfl ?_
    repeat (refine ZC (z := ?_))
    refine so1 (row' := exRow 3 0 n [] (.view 6 [exRow op num name field (.view 6 args .shared)] .shared)) rfl rfl rfl rfl rfl (by exact Nat.le_of_ble_eq_true rfl) rfl ?_
    repeat (first | refine nl ?_ | refine rg ?_ | refine ZA (z := ?_))
    refine clq rfl rfl (pneed_ok H (obj2 h2 h3 _ _ _) hc [93]) (fun v st' ⟨e, k, q1, q2, q3, q4⟩ => ⟨_, by rw [q3, push2 h2 h3]; exact drop2 h2 h3 _ _ _, e, k, q1, q2, rfl, by rw [qb_err q4]⟩) fun v st' hR => ?_
    obtain ⟨_, c2, hc2, hst, hr2⟩ := hR
    subst hst
    rw [push2 h2 h3, qb_ok hr2]
    repeat (first | refine nl ?_ | refine AWP.seq ?_ | refine rg ?_ | refine ZE (z := ?_))
    refine soU rfl (Ne.symm (set_ne_new (h3 ob0 ob0))) rfl rfl rfl rfl rfl ?_
    repeat (refine nl ?_)
    refine AWP.ret (rets (resCW rfl (St.obj_under (Ne.symm (set_ne_new (h3 ob0 ob0))) _ _) rfl rfl rfl rfl) (.refl _) (drop2 h2 h3 _ _ _) ⟨.elt n x, c2, ?_, hc2, rfl, rfl⟩)
    show AV.agg _ = AV.agg (exRow 3 0 n [] (.view 6 [xrow x] .shared))
    rw [hx] <;> rfl
  · rw [if_neg c2, if_neg c2]
    rw [Bool.not_eq_true] at c2
    rw [c2]
    repeat (first | refine nl ?_ | refine AWP.seq ?_ | refine rg ?_ | refine AWP.skip ?_ | refine YI (z := ?_) | refine ZE (z := ?_))
    refine soU rfl (Ne.symm (set_ne_new (h3 ob0 ob0))) rfl rfl rfl rfl rfl ?_
    repeat (refine nl ?_)
    exact AWP.ret (rets (resCW rfl (St.obj_under (Ne.symm (set_ne_new (h3 ob0 ob0))) _ _) rfl rfl rfl rfl) (ex_nil _ _ _ _) (drop2 h2 h3 _ _ _) ⟨.var n, b, rfl, hb, rfl, rfl⟩)
end Go.Proofs
/- More fuel changes nothing. No program in sight. -/
namespace Go.Proofs

theorem pe_succ (k lv d : Nat) (ts : List Tk) : pe (k + 1) lv d ts = if 5 ≤ lv then po k d ts
    else match pe k (lv + 1) d ts with
      | .error e => .error e
      | .ok (x, r) => pl k lv d x r := by
  rw [pe]
  all_goals rfl
theorem pl_succ (k lv d : Nat) (x : Xp) (ts : List Tk) : pl (k + 1) lv d x ts = if (bin (hd ts)).1 = lv then
      match pe k (lv + 1) d ts.tail with
      | .error e => .error e
      | .ok (y, r) => if lv = 1 then .ok (.bin (bin (hd ts)).2 x y, r) else pl k lv d (.bin (bin (hd ts)).2 x y) r
    else .ok (x, ts) := by
  rw [pl]
  all_goals rfl
theorem po_succ (k d : Nat) (ts : List Tk) : po (k + 1) d ts = if beg (hd ts) then
      if 8 < d then .error 5
      else if (hd ts).kind = 2 then .ok (.lit (hd ts).num, ts.tail)
      else if (hd ts).kind = 1 then
        if sg (hd ts.tail) [46] then
          if (hd ts.tail.tail).kind = 1 then .ok (.fld (hd ts).text (hd ts.tail.tail).text, ts.tail.tail.tail) else .error 7
        else if sg (hd ts.tail) [91] then
          match pe k 1 (d + 1) ts.tail.tail with
          | .error e => .error e
          | .ok (x, r) => if sg (hd r) [93] then .ok (.elt (hd ts).text x, r.tail) else .error 7
        else .ok (.var (hd ts).text, ts.tail)
      else if (hd ts).text = [40] then
        match pe k 1 (d + 1) ts.tail with
        | .error e => .error e
        | .ok (x, r) => if sg (hd r) [41] then .ok (x, r.tail) else .error 7
      else match po k (d + 1) ts.tail with
        | .error e => .error e
        | .ok (x, r) => .ok (.una (if (hd ts).text = [45] then 4 else 5) x, r)
    else .error 7 := by
  rw [po]
  all_goals rfl

theorem pe_mono : ∀ k : Nat, (∀ lv d ts, pe k lv d ts ≠ .error 99 → pe (k + 1) lv d ts = pe k lv d ts) ∧
    (∀ lv d x ts, pl k lv d x ts ≠ .error 99 → pl (k + 1) lv d x ts = pl k lv d x ts) ∧
    (∀ d ts, po k d ts ≠ .error 99 → po (k + 1) d ts = po k d ts)
  | 0 => ⟨fun _ _ _ h => absurd (by rw [pe]) h, fun _ _ _ _ h => absurd (by rw [pl]) h, fun _ _ h => absurd (by rw [po]) h⟩
  | k + 1 => by
    obtain ⟨i1, i2, i3⟩ := pe_mono k
    refine ⟨fun lv d ts h => ?_, fun lv d x ts h => ?_, fun d ts h => ?_⟩
    · rw [pe_succ k lv d ts] at h
      rw [pe_succ (k + 1) lv d ts, pe_succ k lv d ts]
      split
      · rename_i h5
        rw [if_pos h5] at h
        exact i3 d ts h
      · rename_i h5
        rw [if_neg h5] at h
        have h0 : pe k (lv + 1) d ts ≠ .error 99 := by
          intro e
          rw [e] at h
          exact h rfl
        rw [i1 _ _ _ h0]
        cases hp : pe k (lv + 1) d ts with
        | error e => rfl
        | ok p =>
          rw [hp] at h
          exact i2 _ _ _ _ h
    · rw [pl_succ k lv d x ts] at h
      rw [pl_succ (k + 1) lv d x ts, pl_succ k lv d x ts]
      split
      · rename_i hb
        rw [if_pos hb] at h
        have h0 : pe k (lv + 1) d ts.tail ≠ .error 99 := by
          intro e
          rw [e] at h
          exact h rfl
        rw [i1 _ _ _ h0]
        cases hp : pe k (lv + 1) d ts.tail with
        | error e => rfl
        | ok p =>
          rw [hp] at h
          simp only at h ⊢
          split
          · rfl
          · rename_i h1
            rw [if_neg h1] at h
            exact i2 _ _ _ _ h
      · rfl
    · rw [po_succ k d ts] at h
      rw [po_succ (k + 1) d ts, po_succ k d ts]
      by_cases c1 : beg (hd ts) = true
      · rw [if_pos c1] at h
        rw [if_pos c1, if_pos c1]
        by_cases c2 : 8 < d
        · rw [if_pos c2, if_pos c2]
        rw [if_neg c2] at h
        rw [if_neg c2, if_neg c2]
        by_cases c3 : (hd ts).kind = 2
        · rw [if_pos c3, if_pos c3]
        rw [if_neg c3] at h
        rw [if_neg c3, if_neg c3]
        by_cases c4 : (hd ts).kind = 1
        · rw [if_pos c4] at h
          rw [if_pos c4, if_pos c4]
          by_cases c5 : sg (hd ts.tail) [46] = true
          · rw [if_pos c5, if_pos c5]
          rw [if_neg c5] at h
          rw [if_neg c5, if_neg c5]
          by_cases c6 : sg (hd ts.tail) [91] = true
          · rw [if_pos c6] at h
            rw [if_pos c6, if_pos c6]
            have h0 : pe k 1 (d + 1) ts.tail.tail ≠ .error 99 := by
              intro e
              rw [e] at h
              exact h rfl
            rw [i1 _ _ _ h0]
          · rw [if_neg c6, if_neg c6]
        rw [if_neg c4] at h
        rw [if_neg c4, if_neg c4]
        by_cases c5 : (hd ts).text = [40]
        · rw [if_pos c5] at h
          rw [if_pos c5, if_pos c5]
          have h0 : pe k 1 (d + 1) ts.tail ≠ .error 99 := by
            intro e
            rw [e] at h
            exact h rfl
          rw [i1 _ _ _ h0]
        · rw [if_neg c5] at h
          rw [if_neg c5, if_neg c5]
          have h0 : po k (d + 1) ts.tail ≠ .error 99 := by
            intro e
            rw [e] at h
            exact h rfl
          rw [i3 _ _ h0]
      · rw [if_neg c1, if_neg c1]

theorem pe_more {k lv d : Nat} {ts : List Tk} (h : pe k lv d ts ≠ .error 99) : ∀ j, pe (k + j) lv d ts = pe k lv d ts
  | 0 => rfl
  | j + 1 => by
    have ih := pe_more h j
    rw [← Nat.add_assoc, (pe_mono (k + j)).1 _ _ _ (by rw [ih]; exact h), ih]
theorem pl_more {k lv d : Nat} {x : Xp} {ts : List Tk} (h : pl k lv d x ts ≠ .error 99) : ∀ j, pl (k + j) lv d x ts = pl k lv d x ts
  | 0 => rfl
  | j + 1 => by
    have ih := pl_more h j
    rw [← Nat.add_assoc, (pe_mono (k + j)).2.1 _ _ _ _ (by rw [ih]; exact h), ih]
theorem po_more {k d : Nat} {ts : List Tk} (h : po k d ts ≠ .error 99) : ∀ j, po (k + j) d ts = po k d ts
  | 0 => rfl
  | j + 1 => by
    have ih := po_more h j
    rw [← Nat.add_assoc, (pe_mono (k + j)).2.2 _ _ (by rw [ih]; exact h), ih]

/-- The answers with fuel enough. -/
def qe (lv d : Nat) (ts : List Tk) : PR := pe (7 * ts.length + 7) lv d ts
def ql (lv d : Nat) (x : Xp) (ts : List Tk) : PR := pl (7 * ts.length + 7) lv d x ts
def qo (d : Nat) (ts : List Tk) : PR := po (7 * ts.length + 7) d ts

theorem PRlt.ne {n : Nat} {r : PR} (h : PRlt n r) : r ≠ .error 99 := by
  intro e
  subst e
  rcases h with h | h <;> omega
theorem pe_q {k lv d : Nat} {ts : List Tk} (h1 : 1 ≤ lv) (h5 : lv ≤ 5) (hk : 7 * ts.length + 6 ≤ k) : pe k lv d ts = qe lv d ts := by
  have h := ((pe_all (7 * ts.length + 6)).1 lv d ts h1 h5 (by omega)).ne
  have e1 := pe_more h (k - (7 * ts.length + 6))
  have e2 := pe_more h 1
  rw [show 7 * ts.length + 6 + (k - (7 * ts.length + 6)) = k by omega] at e1
  rw [e1, qe, ← e2]
theorem pl_q {k lv d : Nat} {x : Xp} {ts : List Tk} (h1 : 1 ≤ lv) (h4 : lv ≤ 4) (hk : 7 * ts.length < k) : pl k lv d x ts = ql lv d x ts := by
  have h := ((pe_all (7 * ts.length + 1)).2.1 lv d x ts h1 h4 (by omega)).ne
  have e1 := pl_more h (k - (7 * ts.length + 1))
  have e2 := pl_more h 6
  rw [show 7 * ts.length + 1 + (k - (7 * ts.length + 1)) = k by omega] at e1
  rw [e1, ql, ← e2]
theorem po_q {k d : Nat} {ts : List Tk} (hk : 7 * ts.length < k) : po k d ts = qo d ts := by
  have h := ((pe_all (7 * ts.length + 1)).2.2 d ts (by omega)).ne
  have e1 := po_more h (k - (7 * ts.length + 1))
  have e2 := po_more h 6
  rw [show 7 * ts.length + 1 + (k - (7 * ts.length + 1)) = k by omega] at e1
  rw [e1, qo, ← e2]
end Go.Proofs
/- The answers with fuel enough, step by step. No program in sight. -/
namespace Go.Proofs

theorem qe_5 (d : Nat) (ts : List Tk) : qe 5 d ts = qo d ts := by
  rw [qe, pe_succ, if_pos (by omega)]
  exact po_q (by omega)
theorem qe_lt {lv d : Nat} {ts : List Tk} (h1 : 1 ≤ lv) (h4 : lv ≤ 4) : qe lv d ts = match qe (lv + 1) d ts with
      | .error e => .error e
      | .ok (x, r) => ql lv d x r := by
  rw [qe, pe_succ, if_neg (by omega), pe_q (by omega) (by omega) (by omega)]
  have h := (pe_all (7 * ts.length + 7)).1 (lv + 1) d ts (by omega) (by omega) (by omega)
  rw [show pe (7 * ts.length + 7) (lv + 1) d ts = qe (lv + 1) d ts from rfl] at h
  cases hq : qe (lv + 1) d ts with
  | error e => rfl
  | ok p =>
    rw [hq] at h
    have h : p.2.length < ts.length := h
    exact pl_q h1 h4 (by omega)
theorem ql_eq {lv d : Nat} {x : Xp} {ts : List Tk} (h1 : 1 ≤ lv) (h4 : lv ≤ 4) : ql lv d x ts = if (bin (hd ts)).1 = lv then
      match qe (lv + 1) d ts.tail with
      | .error e => .error e
      | .ok (y, r) => if lv = 1 then .ok (.bin (bin (hd ts)).2 x y, r) else ql lv d (.bin (bin (hd ts)).2 x y) r
    else .ok (x, ts) := by
  have ht : ts.tail.length ≤ ts.length := by rw [List.length_tail]; omega
  rw [ql, pl_succ, pe_q (by omega) (by omega) (by omega)]
  split
  · have h := (pe_all (7 * ts.tail.length + 7)).1 (lv + 1) d ts.tail (by omega) (by omega) (by omega)
    rw [show pe (7 * ts.tail.length + 7) (lv + 1) d ts.tail = qe (lv + 1) d ts.tail from rfl] at h
    cases hq : qe (lv + 1) d ts.tail with
    | error e => rfl
    | ok p =>
      obtain ⟨y, r⟩ := p
      rw [hq] at h
      have h : r.length < ts.tail.length := h
      simp only
      split
      · rfl
      · exact pl_q h1 h4 (by omega)
  · rfl
theorem qo_eq (d : Nat) (ts : List Tk) : qo d ts = if beg (hd ts) then
      if 8 < d then .error 5
      else if (hd ts).kind = 2 then .ok (.lit (hd ts).num, ts.tail)
      else if (hd ts).kind = 1 then
        if sg (hd ts.tail) [46] then
          if (hd ts.tail.tail).kind = 1 then .ok (.fld (hd ts).text (hd ts.tail.tail).text, ts.tail.tail.tail) else .error 7
        else if sg (hd ts.tail) [91] then
          match qe 1 (d + 1) ts.tail.tail with
          | .error e => .error e
          | .ok (x, r) => if sg (hd r) [93] then .ok (.elt (hd ts).text x, r.tail) else .error 7
        else .ok (.var (hd ts).text, ts.tail)
      else if (hd ts).text = [40] then
        match qe 1 (d + 1) ts.tail with
        | .error e => .error e
        | .ok (x, r) => if sg (hd r) [41] then .ok (x, r.tail) else .error 7
      else match qo (d + 1) ts.tail with
        | .error e => .error e
        | .ok (x, r) => .ok (.una (if (hd ts).text = [45] then 4 else 5) x, r)
    else .error 7 := by
  have ht : ts.tail.length ≤ ts.length := by rw [List.length_tail]; omega
  have ht2 : ts.tail.tail.length ≤ ts.tail.length := by rw [List.length_tail]; omega
  have e1 : pe (7 * ts.length + 6) 1 (d + 1) ts.tail.tail = qe 1 (d + 1) ts.tail.tail := pe_q (by omega) (by omega) (by omega)
  have e2 : pe (7 * ts.length + 6) 1 (d + 1) ts.tail = qe 1 (d + 1) ts.tail := pe_q (by omega) (by omega) (by omega)
  have e3 : po (7 * ts.length + 6) (d + 1) ts.tail = qo (d + 1) ts.tail := po_q (by omega)
  rw [qo, po_succ, e1, e2, e3]
  all_goals rfl

end Go.Proofs
/- The tokens of a printed expression are parsed to that expression. No program in sight. -/
namespace Go.Proofs

def lvO (op : Nat) : Nat := if 14 ≤ op then 1 else if 11 ≤ op then 2 else if 8 ≤ op then 4 else if 6 ≤ op then 3 else if 4 ≤ op then 5 else 6
def lvX : Xp → Nat
  | .una _ _ => 5
  | .bin op _ _ => lvO op
  | _ => 6
def sgO (op : Nat) : List UInt8 := ((binL.find? fun o => decide (o.2.2 = op)).map Prod.fst).getD []
def tS (s : List UInt8) : Tk := ⟨4, 1, s, 0⟩
def tN (s : List UInt8) : Tk := ⟨1, 1, s, 0⟩
def par (b : Bool) (l : List Tk) : List Tk := if b then tS [40] :: (l ++ [tS [41]]) else l
/-- Whether the left and the right operand stand in parentheses. -/
def lpar (op : Nat) (a : Xp) : Bool := decide (lvX a < lvO op ∨ lvX a = 1)
def rpar (op : Nat) (b : Xp) : Bool := decide (lvX b ≤ lvO op)
def xtk : Xp → List Tk
  | .lit n => [⟨2, 1, [], n⟩]
  | .var s => [tN s]
  | .fld s f => [tN s, tS [46], tN f]
  | .elt s a => tN s :: tS [91] :: (xtk a ++ [tS [93]])
  | .una op a => tS (if op = 4 then [45] else [33]) :: par (decide (lvX a < 5)) (xtk a)
  | .bin op a b => par (lpar op a) (xtk a) ++ tS (sgO op) :: par (rpar op b) (xtk b)
/-- How deep an expression's printed text is nested. -/
def nd : Xp → Nat
  | .elt _ a => nd a + 1
  | .una _ a => 1 + (nd a + if lvX a < 5 then 1 else 0)
  | .bin op a b => max (nd a + if lpar op a then 1 else 0) (nd b + if rpar op b then 1 else 0)
  | _ => 0
/-- Operations that there are. -/
def Wop : Xp → Prop
  | .elt _ a => Wop a
  | .una op a => (op = 4 ∨ op = 5) ∧ Wop a
  | .bin op a b => 6 ≤ op ∧ op ≤ 17 ∧ Wop a ∧ Wop b
  | _ => True

/-- What may stand behind an operand: no "." and no "[". -/
def St0 (rest : List Tk) : Prop := sg (hd rest) [46] = false ∧ sg (hd rest) [91] = false

theorem hd_cons (t : Tk) (r : List Tk) : hd (t :: r) = t := rfl
theorem sgO_bin (op : Nat) (h1 : 6 ≤ op) (h2 : op ≤ 17) : bin (tS (sgO op)) = (lvO op, op) ∧ 1 ≤ lvO op ∧ lvO op ≤ 4 ∧ sg (tS (sgO op)) [46] = false ∧ sg (tS (sgO op)) [91] = false := by
  have : op = 6 ∨ op = 7 ∨ op = 8 ∨ op = 9 ∨ op = 10 ∨ op = 11 ∨ op = 12 ∨ op = 13 ∨ op = 14 ∨ op = 15 ∨ op = 16 ∨ op = 17 := by omega
  rcases this with rfl | rfl | rfl | rfl | rfl | rfl | rfl | rfl | rfl | rfl | rfl | rfl <;> decide

theorem ql_stop {lv d : Nat} {x : Xp} {rest : List Tk} (h1 : 1 ≤ lv) (h4 : lv ≤ 4) (hb : (bin (hd rest)).1 ≠ lv) : ql lv d x rest = .ok (x, rest) := by
  rw [ql_eq h1 h4, if_neg hb]

/-- From an operand up to an expression of a level. -/
theorem climb {d : Nat} {ts rest : List Tk} {x : Xp} (ho : qo d ts = .ok (x, rest)) : ∀ (n lv : Nat), lv + n = 4 → 1 ≤ lv → (bin (hd rest)).1 ≤ lv → qe lv d ts = ql lv d x rest
  | 0, lv, h, h1, hb => by
    have : lv = 4 := by omega
    subst this
    rw [qe_lt (by omega) (by omega), qe_5, ho]
  | n + 1, lv, h, h1, hb => by
    rw [qe_lt h1 (by omega), climb ho n (lv + 1) (by omega) (by omega) (by omega), ql_stop (by omega) (by omega) (by omega)]

/-- What is wanted of an expression's tokens. -/
structure RT (x : Xp) : Prop where
  a : ∀ lv d rest, 1 ≤ lv → lv ≤ 4 → lv ≤ lvX x → lvX x ≠ 1 → d + nd x ≤ 8 → (bin (hd rest)).1 ≤ lv → St0 rest → qe lv d (xtk x ++ rest) = ql lv d x rest
  b : lvX x = 1 → ∀ d rest, d + nd x ≤ 8 → (bin (hd rest)).1 ≤ 1 → St0 rest → qe 1 d (xtk x ++ rest) = .ok (x, rest)
  c : 5 ≤ lvX x → ∀ d rest, d + nd x ≤ 8 → St0 rest → qo d (xtk x ++ rest) = .ok (x, rest)

theorem RT.top {x : Xp} (h : RT x) (hl : 1 ≤ lvX x) {d : Nat} {rest : List Tk} (hn : d + nd x ≤ 8) (hb : (bin (hd rest)).1 = 0) (hs : St0 rest) : qe 1 d (xtk x ++ rest) = .ok (x, rest) := by
  by_cases h1 : lvX x = 1
  · exact h.b h1 d rest hn (by omega) hs
  · rw [h.a 1 d rest (by omega) (by omega) hl h1 hn (by omega) hs, ql_stop (by omega) (by omega) (by omega)]

/-- In parentheses it is an operand. -/
theorem RT.paren {x : Xp} (h : RT x) (hl : 1 ≤ lvX x) {d : Nat} {rest : List Tk} (hn : d + (nd x + 1) ≤ 8) : qo d (par true (xtk x) ++ rest) = .ok (x, rest) := by
  have e : par true (xtk x) ++ rest = tS [40] :: (xtk x ++ (tS [41] :: rest)) := by
    simp [par]
  have ht : qe 1 (d + 1) (xtk x ++ (tS [41] :: rest)) = .ok (x, tS [41] :: rest) := h.top hl (by omega) (by rw [hd_cons]; decide) ⟨by rw [hd_cons]; decide, by rw [hd_cons]; decide⟩
  rw [e, qo_eq, hd_cons, List.tail_cons, ht, if_pos (by decide), if_neg (by omega), if_neg (by decide), if_neg (by decide), if_pos (by decide)]
  simp only
  rw [hd_cons, if_pos (by decide), List.tail_cons]

theorem RT.of_c {x : Xp} (h5 : 5 ≤ lvX x) (c : ∀ d rest, d + nd x ≤ 8 → St0 rest → qo d (xtk x ++ rest) = .ok (x, rest)) : RT x where
  a := fun lv d rest h1 h4 _ _ hn hb hs => climb (c d rest hn hs) (4 - lv) lv (by omega) h1 hb
  b := fun h => by omega
  c := fun _ => c

theorem lvX_pos {x : Xp} (h : Wop x) : 1 ≤ lvX x := by
  cases x <;> simp only [lvX] <;> try omega
  rename_i op a b
  exact (sgO_bin op h.1 h.2.1).2.1

theorem St0_op {op : Nat} (h1 : 6 ≤ op) (h2 : op ≤ 17) (r : List Tk) : St0 (tS (sgO op) :: r) := by
  obtain ⟨_, _, _, h4, h5⟩ := sgO_bin op h1 h2
  exact ⟨h4, h5⟩

theorem rt : ∀ x : Xp, Wop x → RT x
  | .lit n, _ => RT.of_c (Nat.le_of_ble_eq_true rfl) fun d rest hn hs => by
    have hn : d + 0 ≤ 8 := hn
    show qo d (_ :: rest) = _
    rw [qo_eq, hd_cons, if_pos (by simp [beg]), if_neg (by omega), if_pos (by rfl), List.tail_cons]
  | .var s, _ => RT.of_c (Nat.le_of_ble_eq_true rfl) fun d rest hn hs => by
    have hn : d + 0 ≤ 8 := hn
    show qo d (_ :: rest) = _
    rw [qo_eq, hd_cons, if_pos (by simp [beg, tN]), if_neg (by omega), if_neg (by simp [tN]), if_pos (by rfl), List.tail_cons, hs.1, hs.2]
    rfl
  | .fld s f, _ => RT.of_c (Nat.le_of_ble_eq_true rfl) fun d rest hn hs => by
    have hn : d + 0 ≤ 8 := hn
    show qo d (_ :: _ :: _ :: rest) = _
    rw [qo_eq, hd_cons, if_pos (by simp [beg, tN]), if_neg (by omega), if_neg (by simp [tN]), if_pos (by rfl), List.tail_cons, hd_cons, if_pos (by decide), List.tail_cons, hd_cons, if_pos (by rfl), List.tail_cons]
    rfl
  | .elt s a, h => RT.of_c (Nat.le_of_ble_eq_true rfl) fun d rest hn hs => by
    have hn : d + (nd a + 1) ≤ 8 := hn
    have h : Wop a := h
    have e : xtk (.elt s a) ++ rest = tN s :: tS [91] :: (xtk a ++ (tS [93] :: rest)) := by simp [xtk]
    have ht : qe 1 (d + 1) (xtk a ++ (tS [93] :: rest)) = .ok (a, tS [93] :: rest) := (rt a h).top (lvX_pos h) (by omega) (by rw [hd_cons]; decide) ⟨by rw [hd_cons]; decide, by rw [hd_cons]; decide⟩
    rw [e, qo_eq, hd_cons, if_pos (by simp [beg, tN]), if_neg (by omega), if_neg (by simp [tN]), if_pos (by rfl), List.tail_cons, hd_cons, if_neg (by decide), if_pos (by decide), List.tail_cons, ht]
    simp only
    rw [hd_cons, if_pos (by decide), List.tail_cons]
    rfl
  | .una op a, h => RT.of_c (Nat.le_of_ble_eq_true rfl) fun d rest hn hs => by
    obtain ⟨hop, ha⟩ := h
    have hn : d + (1 + (nd a + if lvX a < 5 then 1 else 0)) ≤ 8 := hn
    have ih := rt a ha
    have hsub : qo (d + 1) (par (decide (lvX a < 5)) (xtk a) ++ rest) = .ok (a, rest) := by
      by_cases h5 : lvX a < 5
      · rw [if_pos h5] at hn
        rw [decide_eq_true h5]
        exact ih.paren (lvX_pos ha) (by omega)
      · rw [if_neg h5] at hn
        rw [decide_eq_false h5]
        exact ih.c (by omega) (d + 1) rest (by omega) hs
    show qo d (_ :: (par (decide (lvX a < 5)) (xtk a) ++ rest)) = _
    rcases hop with rfl | rfl
    · rw [qo_eq, hd_cons, if_pos (by decide), if_neg (by omega), if_neg (by decide), if_neg (by decide), if_neg (by decide), List.tail_cons, hsub]
      rfl
    · rw [qo_eq, hd_cons, if_pos (by decide), if_neg (by omega), if_neg (by decide), if_neg (by decide), if_neg (by decide), List.tail_cons, hsub]
      rfl
  | .bin op a b, h => by
    obtain ⟨h6, h17, ha, hb⟩ := h
    obtain ⟨g1, g2, g3, g4, g5⟩ := sgO_bin op h6 h17
    have iha := rt a ha
    have ihb := rt b hb
    -- the right operand
    have hr : ∀ d rest, d + nd (.bin op a b) ≤ 8 → (bin (hd rest)).1 ≤ lvO op → St0 rest → qe (lvO op + 1) d (par (rpar op b) (xtk b) ++ rest) = .ok (b, rest) := by
      intro d rest hn hbin hs
      have hn : d + max (nd a + if lpar op a then 1 else 0) (nd b + if rpar op b then 1 else 0) ≤ 8 := hn
      cases hp : rpar op b with
      | true =>
        rw [hp, if_pos rfl] at hn
        have h0 := ihb.paren (lvX_pos hb) (d := d) (rest := rest) (by omega)
        by_cases h4 : lvO op = 4
        · rw [h4, qe_5]
          exact h0
        · rw [climb h0 (4 - (lvO op + 1)) (lvO op + 1) (by omega) (by omega) (by omega), ql_stop (by omega) (by omega) (by omega)]
      | false =>
        rw [hp] at hn
        have hlt : lvO op < lvX b := by
          have := of_decide_eq_false hp
          omega
        have hn' : d + nd b ≤ 8 := by
          simp only [Bool.false_eq_true, if_false] at hn
          omega
        show qe (lvO op + 1) d (xtk b ++ rest) = _
        by_cases h4 : lvO op = 4
        · rw [h4, qe_5]
          exact ihb.c (by omega) d rest hn' hs
        · rw [ihb.a (lvO op + 1) d rest (by omega) (by omega) (by omega) (by omega) hn' (by omega) hs, ql_stop (by omega) (by omega) (by omega)]
    -- the left operand
    have hleft : ∀ d rest, d + nd (.bin op a b) ≤ 8 → St0 rest → qe (lvO op) d (xtk (.bin op a b) ++ rest) = ql (lvO op) d a (tS (sgO op) :: (par (rpar op b) (xtk b) ++ rest)) := by
      intro d rest hn hs
      have hn : d + max (nd a + if lpar op a then 1 else 0) (nd b + if rpar op b then 1 else 0) ≤ 8 := hn
      have e : xtk (.bin op a b) ++ rest = par (lpar op a) (xtk a) ++ (tS (sgO op) :: (par (rpar op b) (xtk b) ++ rest)) := by simp [xtk]
      rw [e]
      cases hp : lpar op a with
      | true =>
        rw [hp, if_pos rfl] at hn
        have h0 := iha.paren (lvX_pos ha) (d := d) (rest := tS (sgO op) :: (par (rpar op b) (xtk b) ++ rest)) (by omega)
        exact climb h0 (4 - lvO op) (lvO op) (by omega) g2 (by rw [hd_cons, g1]; exact Nat.le_refl _)
      | false =>
        rw [hp] at hn
        have hlt := of_decide_eq_false hp
        have hn' : d + nd a ≤ 8 := by
          simp only [Bool.false_eq_true, if_false] at hn
          omega
        show qe (lvO op) d (xtk a ++ _) = _
        exact iha.a (lvO op) d _ g2 g3 (by omega) (by omega) hn' (by rw [hd_cons, g1]; exact Nat.le_refl _) (St0_op h6 h17 _)
    have hboth : ∀ d rest, d + nd (.bin op a b) ≤ 8 → (bin (hd rest)).1 ≤ lvO op → St0 rest → qe (lvO op) d (xtk (.bin op a b) ++ rest) = if lvO op = 1 then .ok (.bin op a b, rest) else ql (lvO op) d (.bin op a b) rest := by
      intro d rest hn hbin hs
      rw [hleft d rest hn hs, ql_eq g2 g3, hd_cons, g1, if_pos (by rfl), List.tail_cons, hr d rest hn hbin hs]
    refine ⟨fun lv d rest h1 h4 hlv hne hn hbin hs => ?_, fun h1 d rest hn hbin hs => ?_, fun h5 => ?_⟩
    · have hlv : lv ≤ lvO op := hlv
      have hne : lvO op ≠ 1 := hne
      have down : ∀ n lv, lv + n = lvO op → 1 ≤ lv → (bin (hd rest)).1 ≤ lv → qe lv d (xtk (.bin op a b) ++ rest) = ql lv d (.bin op a b) rest := by
        intro n
        induction n with
        | zero =>
          intro lv hl hl1 hb1
          have : lv = lvO op := by omega
          subst this
          rw [hboth d rest hn hb1 hs, if_neg hne]
        | succ n ih =>
          intro lv hl hl1 hb1
          rw [qe_lt hl1 (by omega), ih (lv + 1) (by omega) (by omega) (by omega), ql_stop (by omega) (by omega) (by omega)]
      exact down (lvO op - lv) lv (by omega) h1 hbin
    · have h1 : lvO op = 1 := h1
      have := hboth d rest hn (by omega) hs
      rw [h1] at this
      rw [this, if_pos rfl]
    · have h5 : 5 ≤ lvO op := h5
      omega
end Go.Proofs
/- What an expression that was parsed is like: depth, parentheses, names. No program in sight. -/
namespace Go.Proofs

/-- How many tokens open parentheses. -/
def opn (ts : List Tk) : Nat := ts.countP fun t => sg t [40]
def b1 (b : Bool) : Nat := if b then 1 else 0
/-- Parentheses of the printed text. -/
def np : Xp → Nat
  | .elt _ a => np a
  | .una _ a => np a + b1 (decide (lvX a < 5))
  | .bin op a b => (np a + b1 (lpar op a)) + (np b + b1 (rpar op b))
  | _ => 0
/-- Names and numbers of an expression. -/
def WX (Pn : List UInt8 → Prop) (Pm : Nat → Prop) : Xp → Prop
  | .lit n => Pm n
  | .var s => Pn s
  | .fld s f => Pn s ∧ Pn f
  | .elt s a => Pn s ∧ WX Pn Pm a
  | .una _ a => WX Pn Pm a
  | .bin _ a b => WX Pn Pm a ∧ WX Pn Pm b
def GT (Pn : List UInt8 → Prop) (Pm : Nat → Prop) (ts : List Tk) : Prop := ∀ t ∈ ts, (t.kind = 1 → Pn t.text) ∧ (t.kind = 2 → Pm t.num)

theorem bin_op {t : Tk} (h : (bin t).1 ≠ 0) : lvO (bin t).2 = (bin t).1 ∧ 6 ≤ (bin t).2 ∧ (bin t).2 ≤ 17 ∧ sg t [40] = false := by
  unfold bin at *
  cases hf : binL.find? fun o => sg t o.1 with
  | none => rw [hf] at h; exact absurd rfl h
  | some o =>
    have h1 := List.mem_of_find?_eq_some hf
    have h2 := List.find?_some hf
    have h3 : ∀ o ∈ binL, lvO o.2.2 = o.2.1 ∧ 6 ≤ o.2.2 ∧ o.2.2 ≤ 17 ∧ o.1 ≠ [40] := by decide
    obtain ⟨a1, a2, a3, a4⟩ := h3 o h1
    refine ⟨a1, a2, a3, ?_⟩
    have h2 : t.kind = 4 ∧ t.text = o.1 := of_decide_eq_true h2
    exact decide_eq_false fun h4 => a4 (h2.2.symm.trans h4.2)

theorem opn_tail {ts : List Tk} : opn ts.tail + b1 (sg (hd ts) [40]) = opn ts := by
  cases ts with
  | nil => rfl
  | cons t r =>
    show opn r + b1 (sg t [40]) = opn (t :: r)
    unfold opn b1
    rw [List.countP_cons]
theorem opn_le (ts : List Tk) : opn ts.tail ≤ opn ts := by rw [← opn_tail (ts := ts)]; omega
theorem GT_tail {Pn Pm} {ts : List Tk} (h : GT Pn Pm ts) : GT Pn Pm ts.tail := fun t ht => h t (List.mem_of_mem_tail ht)
theorem GT_hd {Pn Pm} {ts : List Tk} (h : GT Pn Pm ts) (h1 : (hd ts).kind ≠ 0) : ((hd ts).kind = 1 → Pn (hd ts).text) ∧ ((hd ts).kind = 2 → Pm (hd ts).num) := by
  cases ts with
  | nil => exact absurd rfl h1
  | cons t r => exact h t (List.mem_cons_self ..)

/-- What a parsed expression is like. -/
structure PX (Pn : List UInt8 → Prop) (Pm : Nat → Prop) (d : Nat) (ts : List Tk) (x : Xp) (r : List Tk) (p : Nat) : Prop where
  nd : d + nd x + p ≤ 8
  np : opn r + np x + p ≤ opn ts
  op : Wop x
  wx : GT Pn Pm ts → WX Pn Pm x ∧ GT Pn Pm r

def pen (lv : Nat) (x : Xp) : Nat := b1 (decide (lvX x < lv))
def penL (lv : Nat) (x : Xp) : Nat := b1 (decide (lvX x < lv ∨ lvX x = 1))
theorem pen_le (lv : Nat) (x : Xp) : pen lv x ≤ penL lv x := by
  unfold pen penL b1
  by_cases h : lvX x < lv
  · simp [h]
  · simp [h]
theorem pen_up (lv : Nat) (x : Xp) (h : 1 ≤ lv) : penL lv x ≤ pen (lv + 1) x := by
  unfold pen penL b1
  by_cases h1 : lvX x < lv ∨ lvX x = 1
  · have : lvX x < lv + 1 := by omega
    simp [h1, this]
  · simp [h1]
theorem b1_le (b : Bool) : b1 b ≤ 1 := by cases b <;> decide

variable {Pn : List UInt8 → Prop} {Pm : Nat → Prop}

theorem px : ∀ k : Nat, (∀ lv d ts x r, 1 ≤ lv → lv ≤ 5 → pe k lv d ts = .ok (x, r) → PX Pn Pm d ts x r (pen lv x)) ∧
    (∀ lv d a ts x r, 1 ≤ lv → lv ≤ 4 → pl k lv d a ts = .ok (x, r) → d + nd a + penL lv a ≤ 8 → Wop a →
      d + nd x + pen lv x ≤ 8 ∧ opn r + np x + pen lv x ≤ opn ts + np a + penL lv a ∧ Wop x ∧ (GT Pn Pm ts → WX Pn Pm a → WX Pn Pm x ∧ GT Pn Pm r)) ∧
    (∀ d ts x r, po k d ts = .ok (x, r) → PX Pn Pm d ts x r (pen 5 x))
  | 0 => ⟨fun _ _ _ _ _ _ _ h => (by rw [pe] at h; cases h), fun _ _ _ _ _ _ _ _ h => (by rw [pl] at h; cases h), fun _ _ _ _ h => (by rw [po] at h; cases h)⟩
  | k + 1 => by
    obtain ⟨i1, i2, i3⟩ := px k
    refine ⟨fun lv d ts x r h1 h5 h => ?_, fun lv d a ts x r h1 h4 h hn hw => ?_, fun d ts x r h => ?_⟩
    · rw [pe_succ] at h
      split at h
      · have : lv = 5 := by omega
        subst this
        exact i3 d ts x r h
      · cases hp : pe k (lv + 1) d ts with
        | error e => rw [hp] at h; cases h
        | ok p =>
          obtain ⟨a, r1⟩ := p
          rw [hp] at h
          simp only at h
          obtain ⟨a1, a2, a3, a4⟩ := i1 (lv + 1) d ts a r1 (by omega) (by omega) hp
          have hu := pen_up lv a h1
          obtain ⟨c1, c2, c3, c4⟩ := i2 lv d a r1 x r h1 (by omega) h (by omega) a3
          exact ⟨c1, by omega, c3, fun g => c4 (a4 g).2 (a4 g).1⟩
    · rw [pl_succ] at h
      split at h
      · rename_i hb
        obtain ⟨o1, o2, o3, o4⟩ := bin_op (t := hd ts) (by omega)
        have ot := opn_tail (ts := ts)
        rw [o4] at ot
        have ot : opn ts.tail + 0 = opn ts := ot
        cases hp : pe k (lv + 1) d ts.tail with
        | error e => rw [hp] at h; cases h
        | ok p =>
          obtain ⟨b, r1⟩ := p
          rw [hp] at h
          simp only at h
          obtain ⟨a1, a2, a3, a4⟩ := i1 (lv + 1) d ts.tail b r1 (by omega) (by omega) hp
          have hl : lvX (.bin (bin (hd ts)).2 a b) = lv := by rw [← hb, ← o1]; rfl
          have hw2 : Wop (.bin (bin (hd ts)).2 a b) := ⟨o2, o3, hw, a3⟩
          have elp : b1 (lpar (bin (hd ts)).2 a) = penL lv a := by unfold lpar penL; rw [o1, hb]
          have erp : b1 (rpar (bin (hd ts)).2 b) = pen (lv + 1) b := by
            unfold rpar pen
            rw [o1, hb]
            congr 1
            exact decide_eq_decide.2 (by omega)
          have hnp : np (.bin (bin (hd ts)).2 a b) = (np a + penL lv a) + (np b + pen (lv + 1) b) := by
            show (np a + b1 _) + (np b + b1 _) = _
            rw [elp, erp]
          have hnd : nd (.bin (bin (hd ts)).2 a b) = max (nd a + penL lv a) (nd b + pen (lv + 1) b) := by
            show max (nd a + b1 _) (nd b + b1 _) = _
            rw [elp, erp]
          have hp0 : pen lv (.bin (bin (hd ts)).2 a b) = 0 := by
            unfold pen
            rw [hl, decide_eq_false (by omega)]
            rfl
          have hx : d + nd (.bin (bin (hd ts)).2 a b) + 0 ≤ 8 := by rw [hnd]; omega
          have hy : opn r1 + np (.bin (bin (hd ts)).2 a b) ≤ opn ts + np a + penL lv a := by rw [hnp]; omega
          split at h
          · cases h
            refine ⟨by rw [hp0]; exact hx, by rw [hp0]; omega, hw2, fun g ga => ⟨⟨ga, (a4 (GT_tail g)).1⟩, (a4 (GT_tail g)).2⟩⟩
          · rename_i hl1
            have hp1 : penL lv (.bin (bin (hd ts)).2 a b) = 0 := by
              unfold penL
              rw [hl, decide_eq_false (by omega)]
              rfl
            obtain ⟨c1, c2, c3, c4⟩ := i2 lv d _ r1 x r h1 h4 h (by rw [hp1]; exact hx) hw2
            rw [hp1] at c2
            exact ⟨c1, by omega, c3, fun g ga => c4 (a4 (GT_tail g)).2 ⟨ga, (a4 (GT_tail g)).1⟩⟩
      · cases h
        have hp := pen_le lv a
        exact ⟨by omega, by omega, hw, fun g ga => ⟨ga, g⟩⟩
    · rw [po_succ] at h
      have ot := opn_tail (ts := ts)
      have ot2 := opn_le ts.tail
      have ot3 := opn_le ts.tail.tail
      split at h
      · rename_i hb
        have h0 : (hd ts).kind ≠ 0 := by
          intro e
          simp [beg, sg, e] at hb
        split at h
        · cases h
        rename_i h8
        split at h
        · rename_i c
          cases h
          have e : pen 5 (.lit (hd ts).num) = 0 := rfl
          refine ⟨by rw [e]; show d + 0 + 0 ≤ 8; omega, by rw [e]; show opn ts.tail + 0 + 0 ≤ _; omega, trivial, fun g => ⟨(GT_hd g h0).2 c, GT_tail g⟩⟩
        split at h
        · rename_i c1
          split at h
          · split at h
            · rename_i c2 c3
              cases h
              refine ⟨?_, ?_, trivial, fun g => ⟨⟨(GT_hd g h0).1 c1, (GT_hd (GT_tail (GT_tail g)) (by omega)).1 c3⟩, GT_tail (GT_tail (GT_tail g))⟩⟩
              · show d + 0 + 0 ≤ 8
                omega
              · show opn ts.tail.tail.tail + 0 + 0 ≤ _
                omega
            · cases h
          split at h
          · cases hp : pe k 1 (d + 1) ts.tail.tail with
            | error e => rw [hp] at h; cases h
            | ok p =>
              obtain ⟨a, r1⟩ := p
              rw [hp] at h
              simp only at h
              obtain ⟨a1, a2, a3, a4⟩ := i1 1 (d + 1) ts.tail.tail a r1 (by omega) (by omega) hp
              have or := opn_le r1
              split at h
              · cases h
                refine ⟨?_, ?_, a3, fun g => ⟨⟨(GT_hd g h0).1 c1, (a4 (GT_tail (GT_tail g))).1⟩, GT_tail (a4 (GT_tail (GT_tail g))).2⟩⟩
                · show d + (nd a + 1) + 0 ≤ 8
                  omega
                · show opn r1.tail + np a + 0 ≤ _
                  omega
              · cases h
          · cases h
            refine ⟨?_, ?_, trivial, fun g => ⟨(GT_hd g h0).1 c1, GT_tail g⟩⟩
            · show d + 0 + 0 ≤ 8
              omega
            · show opn ts.tail + 0 + 0 ≤ _
              omega
        rename_i c1 c2
        have h4 : (hd ts).kind = 4 := by
          simp only [beg, Bool.or_eq_true, sg, decide_eq_true_eq] at hb
          omega
        split at h
        · rename_i c3
          have hs : sg (hd ts) [40] = true := decide_eq_true ⟨h4, c3⟩
          rw [hs] at ot
          have ot : opn ts.tail + 1 = opn ts := ot
          cases hp : pe k 1 (d + 1) ts.tail with
          | error e => rw [hp] at h; cases h
          | ok p =>
            obtain ⟨a, r1⟩ := p
            rw [hp] at h
            simp only at h
            obtain ⟨a1, a2, a3, a4⟩ := i1 1 (d + 1) ts.tail a r1 (by omega) (by omega) hp
            have or := opn_le r1
            split at h
            · cases h
              have hb1 : pen 5 x ≤ 1 := b1_le _
              exact ⟨by omega, by omega, a3, fun g => ⟨(a4 (GT_tail g)).1, GT_tail (a4 (GT_tail g)).2⟩⟩
            · cases h
        · cases hp : po k (d + 1) ts.tail with
          | error e => rw [hp] at h; cases h
          | ok p =>
            obtain ⟨a, r1⟩ := p
            rw [hp] at h
            simp only at h
            obtain ⟨a1, a2, a3, a4⟩ := i3 (d + 1) ts.tail a r1 hp
            cases h
            refine ⟨?_, ?_, ⟨by split <;> simp, a3⟩, fun g => ⟨(a4 (GT_tail g)).1, (a4 (GT_tail g)).2⟩⟩
            · show d + (1 + (nd a + if lvX a < 5 then 1 else 0)) + 0 ≤ 8
              rw [show (if lvX a < 5 then 1 else 0) = b1 (decide (lvX a < 5)) by unfold b1; by_cases h5 : lvX a < 5 <;> simp [h5]]
              unfold pen at a1
              omega
            · show opn r + (np a + b1 (decide (lvX a < 5))) + 0 ≤ _
              unfold pen at a2
              omega
      · cases h

theorem qxE {d : Nat} {ts : List Tk} {x : Xp} {r : List Tk} (h : qe 1 d ts = .ok (x, r)) : PX Pn Pm d ts x r (pen 1 x) := (px _).1 1 d ts x r (by omega) (by omega) h

/-- What is parsed is printed to tokens that are parsed to the same. -/
theorem back {ts : List Tk} {x : Xp} {r : List Tk} (h : qe 1 0 ts = .ok (x, r)) (l : Nat) : qe 1 0 (xtk x ++ [⟨0, l, [], 0⟩]) = .ok (x, [⟨0, l, [], 0⟩]) := by
  have hq := qxE (Pn := fun _ => True) (Pm := fun _ => True) h
  exact (rt x hq.op).top (lvX_pos hq.op) (by have := hq.nd; omega) (by rw [hd_cons]; rfl) ⟨by rw [hd_cons]; rfl, by rw [hd_cons]; rfl⟩
end Go.Proofs
/- The lexer in plain Lean: texts joined, lines shifted. No program in sight. -/
namespace Go.Proofs

/-- The tokens before the end or the error, the line there, the error. -/
def lx : Nat → List UInt8 → Nat → List Tk × Nat × Nat
  | 0, _, _ => ([], 0, 0)
  | _ + 1, [], line => ([], line, 0)
  | k + 1, c :: r, line => match one (c :: r) line with
    | .error e => ([], line, e)
    | .ok (t, m) => (t :: (lx k (skip false ((c :: r).drop m) line).1 (skip false ((c :: r).drop m) line).2).1, (lx k (skip false ((c :: r).drop m) line).1 (skip false ((c :: r).drop m) line).2).2)

theorem rest_lt {s : List UInt8} {line m : Nat} {t : Tk} (h : one s line = .ok (t, m)) (l : Nat) : (skip false (s.drop m) l).1.length < s.length := by
  obtain ⟨h1, h2, _⟩ := one_ok h
  have := (skip_le false (s.drop m) l).1
  rw [List.length_drop] at this
  omega

/-- What scanL answers, out of lx, where the limit is not met. -/
def fin (out : List Tk) (r : List Tk × Nat × Nat) : List Tk × Nat × Nat := if r.2.2 = 0 then (out ++ r.1 ++ [⟨0, r.2.1, [], 0⟩], 0, 0) else ([], r.2.1, r.2.2)

theorem skip_cons (cm : Bool) (c : UInt8) (r : List UInt8) (l : Nat) : skip cm (c :: r) l = if c = 10 then skip false r (l + 1) else bif cm then skip true r l else if c = 32 ∨ c = 9 ∨ c = 13 then skip false r l else if c = 47 ∧ r.head? = some 47 then skip true r l else (c :: r, l) := rfl

end Go.Proofs
/- Numbers in decimal, tokens as words, how many tokens a scan has: plain. No program in sight. -/
namespace Go.Proofs

theorem scan_small (s : List UInt8) : (scan s).1.length ≤ 2001 := by
  have h : ∀ (k : Nat) (s : List UInt8) (line : Nat) (out : List Tk), out.length ≤ 2000 → (scanL k s line out).1.length ≤ 2001 := by
    intro k
    induction k with
    | zero => intro s line out _; simp [scanL]
    | succ k ih =>
      intro s line out ho
      cases s with
      | nil => simp [scanL]; omega
      | cons c r =>
        rw [scanL]
        split
        · simp
        · split
          · simp
          · exact ih _ _ _ (by simp; omega)
  unfold scan
  split
  · simp
  · exact h _ _ _ _ (by simp)

/-- A number in decimal, in front of what is there. -/
def decF : Nat → Nat → List UInt8 → List UInt8
  | 0, _, acc => acc
  | k + 1, n, acc => if n = 0 ∧ acc ≠ [] then acc else decF k (n / 10) (UInt8.ofNat (48 + n % 10) :: acc)
def dec (n : Nat) : List UInt8 := decF 20 n []

def wordOf (t : Tk) : List UInt8 := if t.kind = 2 then dec t.num else t.text

end Go.Proofs
/- Lines of tokens, in plain Lean. No program in sight. -/
namespace Go.Proofs

theorem sign_take (s : List UInt8) : sign s = s.take (sign s).length := by
  unfold sign
  split
  · rename_i h
    have : ∀ w ∈ signs2, w.length = 2 := by decide
    rw [this _ h]
  · split
    · split
      · rfl
      · rfl
    · rfl

end Go.Proofs
/- Tokens between gaps, in plain Lean. No program in sight. -/
namespace Go.Proofs

theorem tw_app {q : UInt8 → Bool} {rest : List UInt8} (hr : rest = [] ∨ ∃ c r, rest = c :: r ∧ q c = false) : ∀ {w : List UInt8}, (∀ c ∈ w, q c = true) → (w ++ rest).takeWhile q = w
  | [], _ => by
    rcases hr with rfl | ⟨c, r, rfl, hc⟩
    · rfl
    · simp [hc]
  | a :: w, h => by
    rw [List.cons_append, List.takeWhile_cons, if_pos (h a (by simp)), tw_app hr fun c hc => h c (by simp [hc])]

/-- A gap's first byte, or the end. -/
def Gap (rest : List UInt8) : Prop := rest = [] ∨ ∃ c r, rest = c :: r ∧ (c = 32 ∨ c = 9 ∨ c = 10 ∨ c = 13)

theorem Gap.no {rest : List UInt8} (h : Gap rest) {q : UInt8 → Bool} (h1 : q 32 = false) (h2 : q 9 = false) (h3 : q 10 = false) (h4 : q 13 = false) : rest = [] ∨ ∃ c r, rest = c :: r ∧ q c = false := by
  rcases h with h | ⟨c, r, h, hc⟩
  · exact .inl h
  · refine .inr ⟨c, r, h, ?_⟩
    rcases hc with rfl | rfl | rfl | rfl <;> assumption

/-- A token that is scanned again from its text. -/
structure Good (t : Tk) : Prop where
  one : ∀ rest line, Gap rest → one (wordOf t ++ rest) line = .ok ({ t with line := line }, (wordOf t).length)
  skip : ∀ rest line, Gap rest → skip false (wordOf t ++ rest) line = (wordOf t ++ rest, line)
  num : t.num < 10 ^ 18
  len : (wordOf t).length ≤ 20

theorem decF_spec : ∀ (j k n : Nat) (acc : List UInt8), n < 10 ^ j → j ≤ k → acc ≠ [] → ∃ ds, decF k n acc = ds ++ acc ∧ ds.length ≤ j ∧ (∀ c ∈ ds, isDig c = true) ∧ digits ds = n
  | 0, k, n, acc, hn, _, ha => by
    have : n = 0 := by omega
    subst this
    refine ⟨[], ?_, Nat.le_refl _, (fun c hc => by cases hc), rfl⟩
    cases k with
    | zero => rfl
    | succ k => rw [decF, if_pos ⟨rfl, ha⟩]; rfl
  | j + 1, k, n, acc, hn, hk, ha => by
    obtain ⟨k, rfl⟩ : ∃ x, k = x + 1 := ⟨k - 1, by omega⟩
    by_cases h0 : n = 0
    · subst h0
      exact ⟨[], by rw [decF, if_pos ⟨rfl, ha⟩]; rfl, Nat.zero_le _, (fun c hc => by cases hc), rfl⟩
    · have hb : (UInt8.ofNat (48 + n % 10)).toNat = 48 + n % 10 := by
        rw [UInt8.toNat_ofNat']
        omega
      rw [Nat.pow_succ] at hn
      obtain ⟨ds, h1, h2, h3, h4⟩ := decF_spec j k (n / 10) (UInt8.ofNat (48 + n % 10) :: acc) (by omega) (by omega) (by simp)
      refine ⟨ds ++ [UInt8.ofNat (48 + n % 10)], ?_, by simp; omega, fun c hc => ?_, ?_⟩
      · rw [decF, if_neg (fun h => h0 h.1), h1]
        simp
      · rcases List.mem_append.1 hc with h | h
        · exact h3 c h
        · rw [List.mem_singleton.1 h]
          simp only [isDig, hb, Bool.and_eq_true, decide_eq_true_eq]
          omega
      · rw [digits_snoc, h4, hb]
        omega

theorem dec_spec (n : Nat) (hn : n < 10 ^ 18) : dec n ≠ [] ∧ (dec n).length ≤ 18 ∧ (∀ c ∈ dec n, isDig c = true) ∧ digits (dec n) = n := by
  have hb : (UInt8.ofNat (48 + n % 10)).toNat = 48 + n % 10 := by
    rw [UInt8.toNat_ofNat']
    omega
  obtain ⟨ds, h1, h2, h3, h4⟩ := decF_spec 17 19 (n / 10) [UInt8.ofNat (48 + n % 10)] (by omega) (by omega) (by simp)
  have e : dec n = ds ++ [UInt8.ofNat (48 + n % 10)] := by
    rw [← h1, dec, decF, if_neg (by simp)]
  rw [e]
  refine ⟨by simp, by simp; omega, fun c hc => ?_, ?_⟩
  · rcases List.mem_append.1 hc with h | h
    · exact h3 c h
    · rw [List.mem_singleton.1 h]
      simp only [isDig, hb, Bool.and_eq_true, decide_eq_true_eq]
      omega
  · rw [digits_snoc, h4, hb]
    omega

theorem sign_good : ∀ sg, (sg ∈ signs2 ∨ ∃ c ∈ signs1, sg = [c]) → ∃ c r, sg = c :: r ∧ isLet c = false ∧ isDig c = false ∧ c ≠ 10 ∧ c ≠ 32 ∧ c ≠ 9 ∧ c ≠ 13 ∧ (c = 47 → r = []) ∧ sg.length ≤ 2 := by
  have h2 : ∀ sg ∈ signs2, ∃ c r, sg = c :: r ∧ isLet c = false ∧ isDig c = false ∧ c ≠ 10 ∧ c ≠ 32 ∧ c ≠ 9 ∧ c ≠ 13 ∧ (c = 47 → r = []) ∧ sg.length ≤ 2 := by
    intro sg h
    simp only [signs2, List.mem_cons, List.not_mem_nil, or_false] at h
    rcases h with rfl | rfl | rfl <;> exact ⟨_, _, rfl, rfl, rfl, by decide, by decide, by decide, by decide, by decide, by decide⟩
  have h1 : ∀ c ∈ signs1, isLet c = false ∧ isDig c = false ∧ c ≠ 10 ∧ c ≠ 32 ∧ c ≠ 9 ∧ c ≠ 13 := by decide
  rintro sg (h | ⟨c, hc, rfl⟩)
  · exact h2 sg h
  · obtain ⟨a1, a2, a3, a4, a5, a6⟩ := h1 c hc
    exact ⟨c, [], rfl, a1, a2, a3, a4, a5, a6, fun _ => rfl, by simp⟩

theorem sign_app {sg rest : List UInt8} (hr : Gap rest) (h : sg ∈ signs2 ∨ ∃ c ∈ signs1, sg = [c]) (h1 : ∀ c, sg = [c] → c ∈ signs1) : sign (sg ++ rest) = sg := by
  have hlen : ∀ w ∈ signs2, w.length = 2 := by decide
  rcases h with h | ⟨c, hc, rfl⟩
  · unfold sign
    have : (sg ++ rest).take 2 = sg := by
      rw [List.take_append_of_le_length (by rw [hlen _ h]; omega), List.take_of_length_le (by rw [hlen _ h]; omega)]
    rw [this, if_pos h]
  · have hn : ¬ ([c] ++ rest).take 2 ∈ signs2 := by
      rcases hr with rfl | ⟨d, r, rfl, hd⟩
      · intro h
        have := hlen _ h
        simp at this
      · intro h
        have h2 : ∀ w ∈ signs2, ∃ a, w = [a, 61] := by
          intro w hw
          simp only [signs2, List.mem_cons, List.not_mem_nil, or_false] at hw
          rcases hw with rfl | rfl | rfl <;> exact ⟨_, rfl⟩
        obtain ⟨a, ha⟩ := h2 _ h
        simp at ha
        rcases hd with rfl | rfl | rfl | rfl <;> exact absurd ha.2 (by decide)
    unfold sign
    rw [if_neg hn]
    show (if c ∈ signs1 then [c] else []) = [c]
    rw [if_pos hc]

theorem sign_is (s : List UInt8) (h : sign s ≠ []) : sign s ∈ signs2 ∨ ∃ c ∈ signs1, sign s = [c] := by
  unfold sign at h ⊢
  split
  · rename_i h2
    exact .inl h2
  · rename_i h2
    rw [if_neg h2] at h
    split at h
    · rename_i c r
      split at h
      · rename_i hc
        simp only [hc, if_true]
        exact .inr ⟨c, hc, rfl⟩
      · exact absurd rfl h
    · exact absurd rfl h

theorem skip_word {w rest : List UInt8} (hr : Gap rest) {c : UInt8} {r : List UInt8} (hw : w = c :: r) (h : c ≠ 10 ∧ c ≠ 32 ∧ c ≠ 9 ∧ c ≠ 13 ∧ (c = 47 → r = [])) (line : Nat) : skip false (w ++ rest) line = (w ++ rest, line) := by
  obtain ⟨h1, h2, h3, h4, h5⟩ := h
  subst hw
  rw [List.cons_append, skip_cons, if_neg h1, cond_false, if_neg (by rintro (h | h | h) <;> contradiction), if_neg]
  rintro ⟨h6, h7⟩
  rw [h5 h6] at h7
  rcases hr with rfl | ⟨d, q, rfl, hd⟩
  · cases h7
  · simp at h7
    rcases hd with rfl | rfl | rfl | rfl <;> exact absurd h7 (by decide)

theorem let_facts {c : UInt8} (h : isNP c = true) : c ≠ 10 ∧ c ≠ 32 ∧ c ≠ 9 ∧ c ≠ 13 ∧ c ≠ 47 := by
  refine ⟨?_, ?_, ?_, ?_, ?_⟩ <;> (rintro rfl; exact absurd h (by decide))

theorem good_of_one {s : List UInt8} {line m : Nat} {t : Tk} (h : Go.Proofs.one s line = .ok (t, m)) : Good t := by
  unfold Go.Proofs.one at h
  split at h
  · cases h
  · rename_i c r
    cases hl : isLet c
    · cases hd : isDig c
      · -- a sign
        simp only [hl, hd, cond_false] at h
        split at h
        · cases h
        · rename_i hne
          cases h
          have hs := sign_is (c :: r) hne
          generalize sign (c :: r) = sg at hs hne
          obtain ⟨a, q, hsg, f1, f2, f3, f4, f5, f6, f7, f8⟩ := sign_good sg hs
          have hw : wordOf ⟨4, line, sg, 0⟩ = sg := rfl
          refine ⟨fun rest line' hr => ?_, fun rest line' hr => ?_, show 0 < 10 ^ 18 by decide, by rw [hw]; omega⟩
          · rw [hw]
            have h2 : sign (sg ++ rest) = sg := sign_app hr hs fun c hc => by
              rcases hs with hs | ⟨c', hc', e⟩
              · have hlen : ∀ w ∈ signs2, w.length = 2 := by decide
                have := hlen _ hs
                rw [hc] at this
                cases this
              · rw [hc] at e
                cases e
                exact hc'
            subst hsg
            unfold Go.Proofs.one
            simp only [List.cons_append, f1, f2, cond_false] at h2 ⊢
            rw [h2, if_neg (by simp)]
          · rw [hw]
            exact skip_word hr hsg ⟨f3, f4, f5, f6, f7⟩ line'
      · -- a number
        simp only [hl, hd, cond_false, cond_true] at h
        split at h
        · cases h
        · rename_i h18
          split at h
          · cases h
          · cases h
            have hall : ∀ x ∈ (c :: r).takeWhile isDig, isDig x = true := fun x hx => mem_tw hx
            have hlt := digits_lt _ _ rfl hall
            have hp : 10 ^ ((c :: r).takeWhile isDig).length ≤ 10 ^ 18 := Nat.pow_le_pow_right (by omega) (by omega)
            generalize digits ((c :: r).takeWhile isDig) = v at hlt
            have hv : v < 10 ^ 18 := by omega
            obtain ⟨d1, d2, d3, d4⟩ := dec_spec v hv
            have hw : wordOf ⟨2, line, [], v⟩ = dec v := rfl
            generalize dec v = ds at d1 d2 d3 d4 hw
            obtain ⟨a, q, rfl⟩ : ∃ a q, ds = a :: q := by
              cases ds with
              | nil => exact absurd rfl d1
              | cons a q => exact ⟨a, q, rfl⟩
            have ha := d3 a (by simp)
            have hal : isLet a = false := by
              cases hl : isLet a with
              | false => rfl
              | true => simp [isLet, isDig] at hl ha; omega
            obtain ⟨g1, g2, g3, g4, g5⟩ := let_facts (c := a) (by simp [isNP, ha])
            refine ⟨fun rest line' hr => ?_, fun rest line' hr => ?_, hv, by rw [hw]; omega⟩
            · rw [hw]
              have htw : (a :: q ++ rest).takeWhile isDig = a :: q := tw_app (hr.no rfl rfl rfl rfl) d3
              have hhd : (((a :: q ++ rest).drop (a :: q).length).head?.map isNP).getD false = false := by
                rw [List.drop_left]
                rcases hr.no (q := isNP) rfl rfl rfl rfl with rfl | ⟨d, r', rfl, hd⟩
                · rfl
                · simpa using hd
              unfold Go.Proofs.one
              simp only [List.cons_append, hal, ha, cond_false, cond_true] at htw hhd ⊢
              simp only [htw, hhd, if_neg (show ¬ 18 < (a :: q).length by omega), d4]
              rfl
            · rw [hw]
              exact skip_word hr rfl ⟨g1, g2, g3, g4, fun h => absurd h g5⟩ line'
    · -- a name or a word
      simp only [hl, cond_true] at h
      split at h
      · cases h
      · rename_i h12
        cases h
        have hall : ∀ x ∈ (c :: r).takeWhile isNP, isNP x = true := fun x hx => mem_tw hx
        have hhd : ∃ q, (c :: r).takeWhile isNP = c :: q := ⟨r.takeWhile isNP, by rw [List.takeWhile_cons, if_pos (by simp [isNP, hl])]⟩
        obtain ⟨q, hq⟩ := hhd
        generalize (c :: r).takeWhile isNP = nm at hall hq h12
        subst hq
        have hw : wordOf ⟨if c :: q ∈ words then 3 else 1, line, c :: q, 0⟩ = c :: q := by
          unfold wordOf
          rw [if_neg]
          simp only
          split <;> decide
        obtain ⟨g1, g2, g3, g4, g5⟩ := let_facts (hall c (by simp))
        refine ⟨fun rest line' hr => ?_, fun rest line' hr => ?_, show 0 < 10 ^ 18 by decide, by rw [hw]; omega⟩
        · rw [hw]
          have htw : (c :: q ++ rest).takeWhile isNP = c :: q := tw_app (hr.no rfl rfl rfl rfl) hall
          unfold Go.Proofs.one
          simp only [List.cons_append, hl, cond_true] at htw ⊢
          simp only [htw, if_neg h12]
        · rw [hw]
          exact skip_word hr rfl ⟨g1, g2, g3, g4, fun h => absurd h g5⟩ line'

/-- The gaps of the law. -/
def gaps : List (List UInt8) := [[32], [9, 32], [10], [32, 47, 47, 32, 97, 32, 42, 32, 49, 98, 32, 36, 10], [13, 10]]
end Go.Proofs
/- The printed text of an expression is scanned as its tokens. No program in sight. -/
namespace Go.Proofs

/-- A name that is no reserved word. -/
def Nm (s : List UInt8) : Prop := ∃ c r, s = c :: r ∧ isLet c = true ∧ (∀ x ∈ s, isNP x = true) ∧ s.length ≤ 12 ∧ s ∉ words
def Nu (n : Nat) : Prop := n < 10 ^ 18
def pby (b : Bool) (l : List UInt8) : List UInt8 := if b then 40 :: (l ++ [41]) else l
/-- The printed text. -/
def xby : Xp → List UInt8
  | .lit n => dec n
  | .var s => s
  | .fld s f => s ++ 46 :: f
  | .elt s a => s ++ 91 :: (xby a ++ [93])
  | .una op a => (if op = 4 then 45 else 33) :: pby (decide (lvX a < 5)) (xby a)
  | .bin op a b => pby (lpar op a) (xby a) ++ 32 :: (sgO op ++ 32 :: pby (rpar op b) (xby b))

end Go.Proofs
/- The parser: an operand. No conditions: definitions and lemmas only. -/
namespace Go.Proofs
open Go.AM
attribute [local irreducible] AWP AOps ACalls AAny

theorem beg_cases {t : Tk} (h : beg t = true) : t.kind = 1 ∨ t.kind = 2 ∨ (t.kind = 4 ∧ (t.text = [45] ∨ t.text = [33] ∨ t.text = [40])) := by
  unfold beg sg at h
  simp only [Bool.or_eq_true, decide_eq_true_eq] at h
  rcases h with (((h | h) | h) | h) | h
  · exact .inl h
  · exact .inr (.inl h)
  · exact .inr (.inr ⟨h.1, .inl h.2⟩)
  · exact .inr (.inr ⟨h.1, .inr (.inl h.2)⟩)
  · exact .inr (.inr ⟨h.1, .inr (.inr h.2)⟩)
theorem fo_sign {k d : Nat} {ts : List Tk} (hb : beg (hd ts) = true) (h8 : ¬ 8 < d) (h2 : ¬ (hd ts).kind = 2) (h1 : ¬ (hd ts).kind = 1) : fo (k + 1) d ts = if (hd ts).text = [40] then qb (fe k 1 (d + 1) ts.tail) fun x r => qb (fneed [41] r) fun _ r2 => .ok (x, r2)
    else qb (fo k (d + 1) ts.tail) fun x r => .ok (.una (if (hd ts).text = [45] then 4 else 5) x, r) := by
  rw [fo, if_pos hb, if_neg h8, if_neg h2, if_neg h1]
  split
  · cases fe k 1 (d + 1) ts.tail with
    | error e => rfl
    | ok p =>
      obtain ⟨x, r⟩ := p
      rw [qb_ok rfl, fneed]
      simp only
      split <;> rfl
  · cases fo k (d + 1) ts.tail <;> rfl
theorem fe_5 (k d : Nat) (ts : List Tk) : fe (k + 1) 5 d ts = fo k d ts := by rw [fe, if_pos (Nat.le_refl 5)]

set_option maxHeartbeats 1000000 in
theorem punary_step {ts : List Tk} (H : RdH ts) {k : Nat} (hK : FeOk ts (k + 1)) {d a o : Nat} {st : St} (hd9 : d ≤ 9) (ho : st.obj o = some (prC (ts.map tokRow) a)) (ha : a < ts.length) (hk : 7 * (ts.length - a) < k + 1) (hg : st.row 2 = some sgnRow) :
    ACalls Tryd.prog 78 [.cptr o 2 0 0, .int .i64 (d : Int)] st (PaR ts o st xv (fo (k + 1) d (ts.drop a))) (PaP ts o st (fo (k + 1) d (ts.drop a))) := by
  refine ACalls.inSet ho (ACalls.ofBody Tryd.func78 rfl Tryd.ntmps78 rfl ?_)
  have hoA : ∀ S : St, (S.set o (prC (ts.map tokRow) a)).obj o = some (.cells 60 2 [[.view 4 (ts.map tokRow) .shared, .int .i64 (a : Int)]]) := fun S => St.obj_set _ _ _
  repeat (refine AWP.seq ?_)
  refine rg ?_
  refine al rfl rfl fun o2 h2 => ?_
  replace h2 := none_set h2
  repeat (first | refine nl ?_ | refine AWP.seq ?_ | refine rg ?_ | refine ZA (z := ?_))
  obtain ⟨t, t1, t3, t5, t6, ps, _, pt⟩ := pneed_of H (obj1 h2 (.cells 37 6 [exRow 0 0 [] [] nilV]) _) ha
  refine cle rfl rfl pt ?_
  repeat (first | refine nl ?_ | refine AWP.seq ?_ | refine rg ?_ | refine ZD (z := ?_) | refine YA (z := ?_))
  refine cle rfl rfl (pbeg_ok t _) ?_
  by_cases hb : beg t = true
  rotate_left
  · have e0 : fo (k + 1) d (ts.drop a) = .error (7, ts.drop a) := by rw [fo, t3, if_neg hb]
    rw [Bool.not_eq_true] at hb
    rw [hb]
    repeat (first | refine nl ?_ | refine rg ?_ | refine YH (z := ?_) | refine ZA (z := ?_))
    exact clq rfl rfl (pfail_P H (obj1 h2 _ _) ha 7 e0) (fun v st' ⟨e, k, q1, q2, q3, q4⟩ => ⟨_, by rw [q3, push1 h2]; exact drop1 h2 _ _, e, k, q1, q2, rfl, q4⟩) fun v st' h => h.elim
  rw [hb]
  by_cases h8 : 8 < d
  · have e0 : fo (k + 1) d (ts.drop a) = .error (5, ts.drop a) := by rw [fo, t3, if_pos hb, if_pos h8]
    repeat (first | refine nl ?_ | refine AWP.seq ?_ | refine rg ?_ | refine AWP.skip ?_ | refine YH (z := ?_) | refine YI (z := ?_) | refine ZA (z := ?_))
    exact clq rfl rfl (pfail_P H (obj1 h2 _ _) ha 5 e0) (fun v st' ⟨e, k, q1, q2, q3, q4⟩ => ⟨_, by rw [q3, push1 h2]; exact drop1 h2 _ _, e, k, q1, q2, rfl, q4⟩) fun v st' h => h.elim
  repeat (first | refine nl ?_ | refine AWP.seq ?_ | refine rg ?_ | refine AWP.skip ?_ | refine AWP.block ?_ | refine YI (z := ?_) | refine ZA (z := ?_))
  refine cl rfl rfl (ps [45]) fun v st' ⟨hv, hst⟩ => ?_
  subst hv
  subst hst
  by_cases c1 : sg t [45] = true
  · skip
    have hx4 := of_decide_eq_true c1
    have e0 : fo (k + 1) d (ts.drop a) = qb (fo k (d + 1) (ts.drop (a + 1))) fun x r => .ok (.una 4 x, r) := by
      rw [fo_sign (by rw [t3]; exact hb) h8 (by rw [t3, hx4.1]; decide) (by rw [t3, hx4.1]; decide), t3, t5, hx4.2, if_neg (by decide)]
      rfl
    rw [if_pos c1, c1, push1 h2]
    have hb1 := t6 (sg_kind c1)
    have hu := hK (k + 1) (Nat.le_refl _) 5 (d + 1) (a + 1) o _ (by decide) (by decide) (by omega) hb1 (by omega) (obj1 h2 (.cells 37 6 [exRow 0 0 [] [] nilV]) _) hg
    rw [fe_5] at hu
    repeat (first | refine nl ?_ | refine AWP.seq ?_ | refine rg ?_ | refine YH (z := ?_) | refine ZA (z := ?_) | refine ZO (z := ?_))
    refine clq rfl rfl hu (fun v st' ⟨e, k, q1, q2, q3, q4⟩ => ⟨_, by rw [q3, push1 h2]; exact drop1 h2 _ _, e, k, q1, q2, rfl, by rw [e0, qb_err q4]⟩) fun v st' hR => ?_
    obtain ⟨x, c, hv, hc, hst, hr⟩ := hR
    subst hv
    subst hst
    rw [push1 h2]
    obtain ⟨op, num, name, field, args, hx⟩ := xrow_ex x
    rw [xv, hx]
    refine bsh (cs := exRow op num name field (.view 6 args .shared)) rfl rfl rfl rfl rfl ?_
    refine bds (cs := exRow 4 0 [] [] (.view 6 [exRow op num name field (.view 6 args .shared)] .shared)) rfl rfl rfl rfl ?_
    refine soV rfl rfl rfl rfl rfl rfl ?_
    repeat (refine nl ?_)
    refine AWP.ret (rets (resCW rfl (St.obj_set _ _ _) rfl rfl rfl rfl) (.refl _) (drop1 h2 _ _) ⟨.una 4 x, c, ?_, hc, rfl, by rw [e0, qb_ok hr]⟩)
    show AV.agg _ = AV.agg (exRow 4 0 [] [] (.view 6 [xrow x] .shared))
    rw [hx] <;> rfl
  rw [if_neg c1]
  have n1 := c1
  rw [Bool.not_eq_true] at c1
  rw [c1]
  repeat (first | refine nl ?_ | refine AWP.seq ?_ | refine rg ?_ | refine YI (z := ?_) | refine ZA (z := ?_))
  refine cl rfl rfl (ps [33]) fun v st' ⟨hv, hst⟩ => ?_
  subst hv
  subst hst
  rename_i z1 z2
  clear c1
  by_cases c1 : sg t [33] = true
  · skip
    have hx4 := of_decide_eq_true c1
    have e0 : fo (k + 1) d (ts.drop a) = qb (fo k (d + 1) (ts.drop (a + 1))) fun x r => .ok (.una 5 x, r) := by
      rw [fo_sign (by rw [t3]; exact hb) h8 (by rw [t3, hx4.1]; decide) (by rw [t3, hx4.1]; decide), t3, t5, hx4.2, if_neg (by decide)]
      rfl
    rw [if_pos c1, c1, push1 h2]
    have hb1 := t6 (sg_kind c1)
    have hu := hK (k + 1) (Nat.le_refl _) 5 (d + 1) (a + 1) o _ (by decide) (by decide) (by omega) hb1 (by omega) (obj1 h2 (.cells 37 6 [exRow 0 0 [] [] nilV]) _) hg
    rw [fe_5] at hu
    repeat (first | refine nl ?_ | refine AWP.seq ?_ | refine rg ?_ | refine YH (z := ?_) | refine ZA (z := ?_) | refine ZO (z := ?_))
    refine clq rfl rfl hu (fun v st' ⟨e, k, q1, q2, q3, q4⟩ => ⟨_, by rw [q3, push1 h2]; exact drop1 h2 _ _, e, k, q1, q2, rfl, by rw [e0, qb_err q4]⟩) fun v st' hR => ?_
    obtain ⟨x, c, hv, hc, hst, hr⟩ := hR
    subst hv
    subst hst
    rw [push1 h2]
    obtain ⟨op, num, name, field, args, hx⟩ := xrow_ex x
    rw [xv, hx]
    refine bsh (cs := exRow op num name field (.view 6 args .shared)) rfl rfl rfl rfl rfl ?_
    refine bds (cs := exRow 5 0 [] [] (.view 6 [exRow op num name field (.view 6 args .shared)] .shared)) rfl rfl rfl rfl ?_
    refine soV rfl rfl rfl rfl rfl rfl ?_
    repeat (refine nl ?_)
    refine AWP.ret (rets (resCW rfl (St.obj_set _ _ _) rfl rfl rfl rfl) (.refl _) (drop1 h2 _ _) ⟨.una 5 x, c, ?_, hc, rfl, by rw [e0, qb_ok hr]⟩)
    show AV.agg _ = AV.agg (exRow 5 0 [] [] (.view 6 [xrow x] .shared))
    rw [hx] <;> rfl
  rw [if_neg c1]
  have n2 := c1
  rw [Bool.not_eq_true] at c1
  rw [c1]
  repeat (first | refine nl ?_ | refine AWP.seq ?_ | refine rg ?_ | refine YI (z := ?_) | refine ZA (z := ?_))
  refine cl rfl rfl (ps [40]) fun v st' ⟨hv, hst⟩ => ?_
  subst hv
  subst hst
  clear c1
  by_cases c1 : sg t [40] = true
  · have hx4 := of_decide_eq_true c1
    have e0 : fo (k + 1) d (ts.drop a) = qb (fe k 1 (d + 1) (ts.drop (a + 1))) fun x r => qb (fneed [41] r) fun _ r2 => .ok (x, r2) := by
      rw [fo_sign (by rw [t3]; exact hb) h8 (by rw [t3, hx4.1]; decide) (by rw [t3, hx4.1]; decide), t3, t5, hx4.2, if_pos rfl]
    rw [if_pos c1, c1, push1 h2]
    have hb1 := t6 (sg_kind c1)
    have hu := hK k (Nat.le_succ _) 1 (d + 1) (a + 1) o _ (by decide) (by decide) (by omega) hb1 (by omega) (obj1 h2 (.cells 37 6 [exRow 0 0 [] [] nilV]) _) hg
    repeat (first | refine nl ?_ | refine AWP.seq ?_ | refine rg ?_ | refine YH (z := ?_) | refine ZA (z := ?_) | refine ZO (z := ?_))
    refine clq rfl rfl hu (fun v st' ⟨e, k, q1, q2, q3, q4⟩ => ⟨_, by rw [q3, push1 h2]; exact drop1 h2 _ _, e, k, q1, q2, rfl, by rw [e0, qb_err q4]⟩) fun v st' hR => ?_
    obtain ⟨x, c, hv, hc, hst, hr⟩ := hR
    subst hv
    subst hst
    rw [push1 h2, e0, qb_ok hr]
    obtain ⟨op, num, name, field, args, hx⟩ := xrow_ex x
    rw [xv, hx]
    repeat (first | refine nl ?_ | refine AWP.seq ?_ | refine rg ?_ | refine ZA (z := ?_) | refine YA (z := ?_))
    refine clq rfl rfl (pneed_ok H (obj1 h2 _ _) hc [41]) (fun v st' ⟨e, k, q1, q2, q3, q4⟩ => ⟨_, by rw [q3, push1 h2]; exact drop1 h2 _ _, e, k, q1, q2, rfl, by rw [qb_err q4]⟩) fun v st' hR => ?_
    obtain ⟨_, c2, hc2, hst, hr2⟩ := hR
    subst hst
    rw [push1 h2, qb_ok hr2]
    repeat (first | refine nl ?_ | refine AWP.seq ?_ | refine rg ?_ | refine ZD (z := ?_))
    refine soV rfl rfl rfl rfl rfl rfl ?_
    repeat (refine nl ?_)
    refine AWP.ret (rets (resCW rfl (St.obj_set _ _ _) rfl rfl rfl rfl) (.refl _) (drop1 h2 _ _) ⟨x, c2, ?_, hc2, rfl, rfl⟩)
    show AV.agg _ = AV.agg (xrow x)
    rw [hx] <;> rfl
  rw [if_neg c1]
  have n3 := c1
  rw [Bool.not_eq_true] at c1
  rw [c1]
  by_cases k2 : t.kind = 2
  · have k2' : (t.kind : Int) = 2 := by omega
    have hl := H.len
    have e0 : fo (k + 1) d (ts.drop a) = .ok (.lit t.num, ts.drop (a + 1)) := by
      rw [fo, t3, if_pos hb, if_neg h8, if_pos k2, t5]
    have hb1 := t6 (by rw [k2]; decide)
    have ho2 : ((st.set o (prC (ts.map tokRow) a)).set o2 (.cells 37 6 [exRow 0 0 [] [] nilV])).obj o = some (.cells 60 2 [[.view 4 (ts.map tokRow) .shared, .int .i64 (a : Int)]]) := obj1 h2 _ _
    repeat (first | refine nl ?_ | refine AWP.seq ?_ | refine rg ?_ | refine YH (z := ?_) | refine YI (z := ?_) | refine ZA (z := ?_) | refine ZC (z := ?_) | refine ZF (z := ?_) | refine ZH (z := ?_) | refine ZO (z := ?_))
    refine so (rows' := [[.view 4 (ts.map tokRow) .shared, .int .i64 ((a + 1 : Nat) : Int)]]) rfl rfl rfl ho2 rfl rfl rfl rfl rfl ?_
    rw [push1 h2]
    repeat (first | refine nl ?_ | refine AWP.seq ?_ | refine rg ?_ | refine ZC (z := ?_) | refine ZF (z := ?_))
    refine bds (cs := exRow 0 t.num [] [] nilV) rfl rfl rfl rfl ?_
    refine soV rfl rfl rfl rfl rfl rfl ?_
    repeat (refine nl ?_)
    exact AWP.ret (rets (resCW rfl (St.obj_set _ _ _) rfl rfl rfl rfl) (ex_nil _ _ _ _) (drop1 h2 _ _) ⟨.lit t.num, a + 1, rfl, hb1, rfl, e0⟩)
  · have k2' : ¬ (t.kind : Int) = 2 := by omega
    have k1 : t.kind = 1 := by
      rcases beg_cases hb with h | h | ⟨h, h' | h' | h'⟩
      · exact h
      · exact absurd h k2
      · exact absurd (decide_eq_true ⟨h, h'⟩) n1
      · exact absurd (decide_eq_true ⟨h, h'⟩) n2
      · exact absurd (decide_eq_true ⟨h, h'⟩) n3
    have e0 : fo (k + 1) d (ts.drop a) = ftg k d (ts.drop a) := fo_name (by rw [t3]; exact k1) h8
    have hK' : FeOk ts k := fun k' hk' => hK k' (by omega)
    repeat (first | refine nl ?_ | refine AWP.seq ?_ | refine rg ?_ | refine AWP.skip ?_ | refine YI (z := ?_) | refine ZA (z := ?_) | refine ZC (z := ?_) | refine ZF (z := ?_))
    refine clq rfl rfl (ptarget_ok H hK' (by omega) (obj1 h2 _ _) ha (by omega) hg) (fun v st' ⟨e, k, q1, q2, q3, q4⟩ => ⟨_, by rw [q3, push1 h2]; exact drop1 h2 _ _, e, k, q1, q2, rfl, by rw [e0, q4]⟩) fun v st' hR => ?_
    obtain ⟨x, c, hv, hc, hst, hr⟩ := hR
    subst hv
    subst hst
    rw [push1 h2, e0]
    obtain ⟨op, num, name, field, args, hx⟩ := xrow_ex x
    rw [xv, hx]
    refine soV rfl rfl rfl rfl rfl rfl ?_
    repeat (refine nl ?_)
    refine AWP.ret (rets (resCW rfl (St.obj_set _ _ _) rfl rfl rfl rfl) (.refl _) (drop1 h2 _ _) ⟨x, c, ?_, hc, rfl, hr⟩)
    show AV.agg _ = AV.agg (xrow x)
    rw [hx] <;> rfl
end Go.Proofs
/- The parser: operands with operators between them. No conditions: definitions and lemmas only. -/
namespace Go.Proofs
open Go.AM
attribute [local irreducible] AWP AOps ACalls AAny

theorem fe_lt {k lv d : Nat} {ts : List Tk} (h4 : lv ≤ 4) : fe (k + 1) lv d ts = qb (fe k (lv + 1) d ts) fun x r => fl k lv d x r := by
  rw [fe, if_neg (by omega)]
  cases fe k (lv + 1) d ts <;> rfl
theorem fl_eq {k lv d : Nat} {x : Xp} {ts : List Tk} (h2 : lv ≠ 1) : fl (k + 1) lv d x ts = if (bin (hd ts)).1 = lv then qb (fe k (lv + 1) d ts.tail) fun y r => fl k lv d (.bin (bin (hd ts)).2 x y) r else .ok (x, ts) := by
  rw [fl]
  split
  · cases fe k (lv + 1) d ts.tail with
    | error e => rfl
    | ok p => rfl
  · rfl
theorem fl_one {k d : Nat} {x : Xp} {ts : List Tk} : fl (k + 1) 1 d x ts = if (bin (hd ts)).1 = 1 then qb (fe k 2 d ts.tail) fun y r => .ok (.bin (bin (hd ts)).2 x y, r) else .ok (x, ts) := by
  rw [fl]
  split
  · cases fe k 2 d ts.tail with
    | error e => rfl
    | ok p => rfl
  · rfl
instance gofun_lv (n : Nat) : GoFun Tryd.prog (fnLv n) := by
  unfold fnLv
  split <;> infer_instance
theorem fe_lt_len {k lv d : Nat} {ts : List Tk} {x : Xp} {r : List Tk} (h1 : 1 ≤ lv) (h5 : lv ≤ 5) (hk : 7 * ts.length + (6 - lv) < k) (h : fe k lv d ts = .ok (x, r)) : r.length < ts.length := by
  have := (fe_all k).1 lv d ts h1 h5 hk
  rw [h] at this
  exact this
/-- An operand in a drawn region: done or not. -/
def OpJ {ts : List Tk} (S0 : St) (o : Nat) (r : FR) : List (Option AV) → St → Prop
  | [none], s => s = S0
  | [some v], s => PaR ts o S0 xv r v s
  | _, _ => False
theorem vs1 {vs : List (Option AV)} {b : Bool} (h : vs.map Option.isSome = [b]) : ∃ v, vs = [v] ∧ v.isSome = b := by
  match vs, h with
  | [v], h => simp at h; exact ⟨v, rfl, h⟩
theorem StLe.drop_set {st : St} {o : Nat} {r : AObj} : StLe (st.set o r) (st.drop o) := by
  refine ⟨fun p c hp => ?_, fun _ h => h, rfl⟩
  by_cases h : p = o
  · subst h
    simp [St.drop] at hp
  · rw [St.obj_set_ne h]
    simpa [St.drop, h] using hp

theorem bin_or (t : Tk) : (bin t).1 = 0 ∨ 6 ≤ (bin t).2 := by
  unfold bin
  cases hf : binL.find? fun o => sg t o.1 with
  | none => exact .inl rfl
  | some x =>
    have hm := List.mem_of_find?_eq_some hf
    simp only [binL, List.mem_cons, List.not_mem_nil, or_false] at hm
    right
    rcases hm with rfl | rfl | rfl | rfl | rfl | rfl | rfl | rfl | rfl | rfl | rfl | rfl <;> decide

set_option maxHeartbeats 1000000 in
theorem pchain_ok {ts : List Tk} (H : RdH ts) {k : Nat} (hK : FeOk ts k) {lv d a o : Nat} {st : St} (h2l : 2 ≤ lv) (h4l : lv ≤ 4) (hd9 : d ≤ 9) (ho : st.obj o = some (prC (ts.map tokRow) a)) (ha : a < ts.length) (hk : 7 * (ts.length - a) + (6 - lv) < k + 1) (hg : st.row 2 = some sgnRow) :
    ACalls Tryd.prog 70 [.cptr o 2 0 0, .int .i64 (d : Int), .func (.func (fnLv (lv + 1))) [] [], .int .i64 (opLo lv : Int), .int .i64 (opHi lv : Int)] st (PaR ts o st xv (fe (k + 1) lv d (ts.drop a))) (PaP ts o st (fe (k + 1) lv d (ts.drop a))) := by
  refine ACalls.inSet ho (ACalls.ofBody Tryd.func70 rfl Tryd.ntmps70 rfl ?_)
  have hlm : (ts.map tokRow).length ≤ 100000 := by rw [List.length_map]; exact H.len
  rw [fe_lt h4l]
  repeat (refine AWP.seq ?_)
  refine rg ?_
  refine al rfl rfl fun o2 h2 => ?_
  replace h2 := none_set h2
  repeat (first | refine nl ?_ | refine AWP.seq ?_ | refine rg ?_ | refine ZA (z := ?_))
  refine clcq rfl rfl rfl (hK k (Nat.le_refl _) (lv + 1) d a o _ (by omega) (by omega) hd9 ha (by omega) (obj1 h2 _ _) hg) (fun v st' ⟨e, k, q1, q2, q3, q4⟩ => ⟨_, by rw [q3, push1 h2]; exact drop1 h2 _ _, e, k, q1, q2, rfl, by rw [qb_err q4]⟩) fun v st' hR => ?_
  obtain ⟨x, b, hv, hb, hst, hr⟩ := hR
  subst hv
  subst hst
  have hab := drop_lt ha (fe_lt_len (by omega) (by omega) (by rw [List.length_drop]; omega) hr)
  rw [push1 h2, qb_ok hr]
  clear hr
  refine al rfl rfl fun o3 h3 => ?_
  replace h3 := none_set2 h3
  obtain ⟨op, num, name, field, args, hx⟩ := xrow_ex x
  rw [xv, hx]
  refine soV rfl rfl rfl rfl rfl rfl ?_
  repeat (first | refine nl ?_ | refine AWP.block ?_)
  refine AWP.loop (α := Xp × Nat × Nat) (fun _ => [(11, .cptr o3 6 0 0), (10, .cptr o2 6 0 0), (4, .int .i64 (opHi lv : Int)), (3, .int .i64 (opLo lv : Int)), (2, .func (.func (fnLv (lv + 1))) [] []), (1, .int .i64 (d : Int)), (0, .cptr o 2 0 0)])
    (fun y => ((st.set o (prC (ts.map tokRow) y.2.1)).set o2 (.cells 37 6 [exRow 0 0 [] [] nilV])).set o3 (.cells 37 6 [xrow y.1]))
    (fun y => y.2.1 < ts.length ∧ y.2.2 ≤ k ∧ 7 * (ts.length - y.2.1) < y.2.2 ∧ fl k lv d x (ts.drop b) = fl y.2.2 lv d y.1 (ts.drop y.2.1)) (fun y => ts.length - y.2.1) (x, b, k) ⟨hb, Nat.le_refl _, by simp only; omega, rfl⟩ (tl7 rfl rfl rfl rfl rfl rfl rfl) (by rw [hx]; exact .refl _) ?_
  generalize fl k lv d x (ts.drop b) = Res
  clear hx hb hab op num name field args x b
  rintro ⟨x, b, fu⟩ ⟨hb, hfk, hfu, hR⟩
  simp only at hb hfk hfu hR
  obtain ⟨op, num, name, field, args, hx⟩ := xrow_ex x
  rw [hx]
  refine AWP.weaken (T' := [(11, .cptr o3 6 0 0), (10, .cptr o2 6 0 0), (4, .int .i64 (opHi lv : Int)), (3, .int .i64 (opLo lv : Int)), (2, .func (.func (fnLv (lv + 1))) [] []), (1, .int .i64 (d : Int)), (0, .cptr o 2 0 0)]) (tl7 rfl rfl rfl rfl rfl rfl rfl) (.refl _) ?_
  obtain ⟨fu, rfl⟩ : ∃ f, fu = f + 1 := ⟨fu - 1, by omega⟩
  obtain ⟨t, t1, t2, t3, t4, t5⟩ := map_at hb
  rw [fl_eq (by omega), t3, t5] at hR
  repeat (first | refine AWP.seq ?_ | refine rg ?_ | refine AWP.block ?_ | refine ZA (z := ?_))
  refine cl rfl rfl (poperator_ok (obj2 h2 h3 _ _ _) t4 t2 hlm lv (by omega) h4l hg) fun v st' ⟨hv, hst⟩ => ?_
  subst hv
  subst hst
  by_cases hbn : (bin t).1 = lv
  · rw [if_pos hbn] at hR
    rw [if_pos hbn, if_pos hbn, push2 h2 h3]
    have hk0 : t.kind ≠ 0 := by
      intro h0
      have : (bin t).1 = 0 := by
        unfold bin binL sg
        simp [h0]
      omega
    have hb1 := H.last _ _ t1 hk0
    have hop : 6 ≤ (bin t).2 := by
      have := bin_or t
      omega
    generalize (bin t).2 = bop at hR hop
    have hop0 : ¬ (bop : Int) = 0 := by omega
    repeat (first | refine nl ?_ | refine AWP.seq ?_ | refine rg ?_ | refine AWP.skip ?_ | refine YI (z := ?_) | refine ZA (z := ?_))
    refine AWP.any rfl ?_
    obtain ⟨S0, hS0⟩ : ∃ S0, S0 = ((st.set o (prC (ts.map tokRow) (b + 1))).set o2 (.cells 37 6 [exRow 0 0 [] [] nilV])).set o3 (.cells 37 6 [exRow op num name field (.view 6 args .shared)]) := ⟨_, rfl⟩
    have hS0o : S0.obj o = some (prC (ts.map tokRow) (b + 1)) := by rw [hS0]; exact obj2 h2 h3 _ _ _
    have hS0s : ∀ c, S0.set o (prC (ts.map tokRow) c) = ((st.set o (prC (ts.map tokRow) c)).set o2 (.cells 37 6 [exRow 0 0 [] [] nilV])).set o3 (.cells 37 6 [exRow op num name field (.view 6 args .shared)]) := fun c => by rw [hS0, push2 h2 h3]
    rw [← hS0]
    obtain ⟨y, hy0⟩ : ∃ y, ∀ x r, fe fu (lv + 1) d (ts.drop (b + 1)) = .ok (x, r) → x = y := by
      cases fe fu (lv + 1) d (ts.drop (b + 1)) with
      | error e => exact ⟨.lit 0, fun x r h => by cases h⟩
      | ok p => exact ⟨p.1, fun x r h => by cases h; rfl⟩
    obtain ⟨op2, num2, name2, field2, args2, hy⟩ := xrow_ex y
    have hS0le : ∀ c, StLe (S0.set o (prC (ts.map tokRow) c)) (((st.drop o).set o2 (.cells 37 6 [exRow 0 0 [] [] nilV])).set o3 (.cells 37 6 [exRow op num name field (.view 6 args .shared)])) := fun c => by
      rw [hS0s]; exact StLe.set _ _ (StLe.set _ _ StLe.drop_set)
    apply AAny.segX (X := fun pv st' => ∃ st1, StLe st' st1 ∧ PaP ts o st Res pv st1) (hX := fun _ _ h => h) (k' := 8) (Es := [5]) (J := OpJ (ts := ts) S0 o (fe fu (lv + 1) d (ts.drop (b + 1))))
      (base := ((st.drop o).set o2 (.cells 37 6 [exRow 0 0 [] [] nilV])).set o3 (.cells 37 6 [exRow op num name field (.view 6 args .shared)])) (hok := by decide +kernel) (hJ := rfl) (hb := by have := hS0le (b + 1); rwa [St.set_same hS0o] at this)
    repeat (first | apply dsP (hi := rfl) (hs := rfl) | apply dqP (hi := rfl) (hd := rfl) (hw := rfl) (h := fun _ _ => ZE (z := nz)))
    apply deP (Q := fun v => v = .agg (exRow op2 num2 name2 field2 (.view 6 args2 .shared))) (L := [[false]]) (hL := rfl) (hd := rfl) (hw := rfl) (hex := ⟨_, rfl⟩) (h := by
      refine ⟨?_, trivial⟩
      intro vs hvs hlk s hJ hle
      obtain ⟨v1, rfl, e1⟩ := vs1 hvs
      obtain rfl : v1 = none := by simpa using e1
      have hs0 : S0 = s := Eq.symm hJ
      subst hs0
      refine clcq rfl rfl rfl (hK fu (by omega) (lv + 1) d (b + 1) o S0 (by omega) (by omega) hd9 hb1 (by omega) hS0o (by rw [hS0]; exact hg)) (fun v st' ⟨e, k, q1, q2, q3, q4⟩ => ⟨_, by rw [q3, hS0s]; exact drop2 h2 h3 _ _ _, e, k, q1, q2, rfl, by rw [hR, qb_err q4]⟩) fun v st' hR => ?_
      obtain ⟨y', c, hv, hc, hst, hr⟩ := hR
      subst hv
      subst hst
      obtain rfl := hy0 _ _ hr
      exact nl ⟨_, rfl, by rw [xv, hy], ⟨y', c, rfl, hc, rfl, hr⟩, hS0le c⟩)
    rintro v rfl
    apply dqP (hi := rfl) (hd := rfl) (hw := rfl) (h := fun _ _ => bsh (cs := exRow op num name field (.view 6 args .shared) ++ exRow op2 num2 name2 field2 (.view 6 args2 .shared)) rfl rfl rfl rfl rfl nz)
    apply dqP (hi := rfl) (hd := rfl) (hw := rfl) (h := fun _ _ => bds (cs := exRow bop 0 [] [] (.view 6 [exRow op num name field (.view 6 args .shared), exRow op2 num2 name2 field2 (.view 6 args2 .shared)] .shared)) rfl rfl rfl rfl nz)
    refine dnP fun s hs => ?_
    obtain ⟨y', c, hv, hc, hst, hr⟩ := hs
    subst hst
    have hv' : exRow op2 num2 name2 field2 (.view 6 args2 .shared) = xrow y' := AV.agg.inj hv
    rw [hS0s]
    refine AAny.text rfl ?_
    refine soV rfl rfl rfl rfl rfl rfl ?_
    have hbc := drop_lt hb1 (fe_lt_len (by omega) (by omega) (by rw [List.length_drop]; omega) hr)
    refine nl ⟨(.bin bop x y', c, fu), ⟨hc, by simp only; omega, by simp only; omega, by rw [hR, qb_ok hr]⟩, by simp only; omega, (tl7 rfl rfl rfl rfl rfl rfl rfl), ?_⟩
    have hrow : xrow (.bin bop x y') = exRow bop 0 [] [] (.view 6 [exRow op num name field (.view 6 args .shared), exRow op2 num2 name2 field2 (.view 6 args2 .shared)] .shared) := by
      show exRow bop 0 [] [] (.view 6 [xrow x, xrow y'] .shared) = _
      rw [hx, ← hv']
    show StLe _ (((st.set o _).set o2 _).set o3 (.cells _ 6 [xrow (.bin bop x y')]))
    rw [hrow]
    exact .refl _
  · rw [if_neg hbn] at hR
    rw [if_neg hbn, if_neg hbn]
    repeat (first | refine nl ?_ | refine AWP.seq ?_ | refine rg ?_ | refine YH (z := ?_) | refine ZA (z := ?_) | refine ZE (z := ?_))
    refine soU rfl (Ne.symm (set_ne_new (h3 ob0 ob0))) rfl rfl rfl rfl rfl ?_
    repeat (refine nl ?_)
    refine AWP.ret (rets (resCW rfl (St.obj_under (Ne.symm (set_ne_new (h3 ob0 ob0))) _ _) rfl rfl rfl rfl) (.refl _) (drop2 h2 h3 _ _ _) ⟨x, b, ?_, hb, rfl, hR⟩)
    show AV.agg _ = AV.agg (xrow x)
    rw [hx] <;> rfl
end Go.Proofs
/- The parser: the levels of expressions. No conditions: definitions and lemmas only. -/
namespace Go.Proofs
open Go.AM
attribute [local irreducible] AWP AOps ACalls AAny

theorem pbits_ok {ts : List Tk} (H : RdH ts) {k : Nat} (hK : FeOk ts k) {d a o : Nat} {st : St} (hd9 : d ≤ 9) (ho : st.obj o = some (prC (ts.map tokRow) a)) (ha : a < ts.length) (hk : 7 * (ts.length - a) + (6 - 2) < k + 1) (hg : st.row 2 = some sgnRow) :
    ACalls Tryd.prog 61 [.cptr o 2 0 0, .int .i64 (d : Int)] st (PaR ts o st xv (fe (k + 1) 2 d (ts.drop a))) (PaP ts o st (fe (k + 1) 2 d (ts.drop a))) := by
  refine ACalls.inSet ho (ACalls.ofBody Tryd.func61 rfl Tryd.ntmps61 rfl ?_)
  repeat (refine AWP.seq ?_)
  refine rg ?_
  refine al rfl rfl fun o2 h2 => ?_
  replace h2 := none_set h2
  have hc := pchain_ok H hK (lv := 2) (by decide) (by decide) hd9 (obj1 h2 (.cells 37 6 [exRow 0 0 [] [] nilV]) (prC (ts.map tokRow) a)) ha hk hg
  repeat (first | refine nl ?_ | refine AWP.seq ?_ | refine rg ?_ | refine ZA (z := ?_))
  refine clq rfl rfl hc (fun v st' ⟨e, k, q1, q2, q3, q4⟩ => ⟨_, by rw [q3, push1 h2]; exact drop1 h2 _ _, e, k, q1, q2, rfl, q4⟩) fun v st' hR => ?_
  obtain ⟨x, c, hv, hc, hst, hr⟩ := hR
  subst hv
  subst hst
  rw [push1 h2]
  obtain ⟨op, num, name, field, args, hx⟩ := xrow_ex x
  rw [xv, hx]
  refine soV rfl rfl rfl rfl rfl rfl ?_
  repeat (refine nl ?_)
  refine AWP.ret (rets (resCW rfl (St.obj_set _ _ _) rfl rfl rfl rfl) (.refl _) (drop1 h2 _ _) ⟨x, c, ?_, hc, rfl, hr⟩)
  show AV.agg _ = AV.agg (xrow x)
  rw [hx] <;> rfl
theorem psum_ok {ts : List Tk} (H : RdH ts) {k : Nat} (hK : FeOk ts k) {d a o : Nat} {st : St} (hd9 : d ≤ 9) (ho : st.obj o = some (prC (ts.map tokRow) a)) (ha : a < ts.length) (hk : 7 * (ts.length - a) + (6 - 3) < k + 1) (hg : st.row 2 = some sgnRow) :
    ACalls Tryd.prog 71 [.cptr o 2 0 0, .int .i64 (d : Int)] st (PaR ts o st xv (fe (k + 1) 3 d (ts.drop a))) (PaP ts o st (fe (k + 1) 3 d (ts.drop a))) := by
  refine ACalls.inSet ho (ACalls.ofBody Tryd.func71 rfl Tryd.ntmps71 rfl ?_)
  repeat (refine AWP.seq ?_)
  refine rg ?_
  refine al rfl rfl fun o2 h2 => ?_
  replace h2 := none_set h2
  have hc := pchain_ok H hK (lv := 3) (by decide) (by decide) hd9 (obj1 h2 (.cells 37 6 [exRow 0 0 [] [] nilV]) (prC (ts.map tokRow) a)) ha hk hg
  repeat (first | refine nl ?_ | refine AWP.seq ?_ | refine rg ?_ | refine ZA (z := ?_))
  refine clq rfl rfl hc (fun v st' ⟨e, k, q1, q2, q3, q4⟩ => ⟨_, by rw [q3, push1 h2]; exact drop1 h2 _ _, e, k, q1, q2, rfl, q4⟩) fun v st' hR => ?_
  obtain ⟨x, c, hv, hc, hst, hr⟩ := hR
  subst hv
  subst hst
  rw [push1 h2]
  obtain ⟨op, num, name, field, args, hx⟩ := xrow_ex x
  rw [xv, hx]
  refine soV rfl rfl rfl rfl rfl rfl ?_
  repeat (refine nl ?_)
  refine AWP.ret (rets (resCW rfl (St.obj_set _ _ _) rfl rfl rfl rfl) (.refl _) (drop1 h2 _ _) ⟨x, c, ?_, hc, rfl, hr⟩)
  show AV.agg _ = AV.agg (xrow x)
  rw [hx] <;> rfl
theorem pproduct_ok {ts : List Tk} (H : RdH ts) {k : Nat} (hK : FeOk ts k) {d a o : Nat} {st : St} (hd9 : d ≤ 9) (ho : st.obj o = some (prC (ts.map tokRow) a)) (ha : a < ts.length) (hk : 7 * (ts.length - a) + (6 - 4) < k + 1) (hg : st.row 2 = some sgnRow) :
    ACalls Tryd.prog 74 [.cptr o 2 0 0, .int .i64 (d : Int)] st (PaR ts o st xv (fe (k + 1) 4 d (ts.drop a))) (PaP ts o st (fe (k + 1) 4 d (ts.drop a))) := by
  refine ACalls.inSet ho (ACalls.ofBody Tryd.func74 rfl Tryd.ntmps74 rfl ?_)
  repeat (refine AWP.seq ?_)
  refine rg ?_
  refine al rfl rfl fun o2 h2 => ?_
  replace h2 := none_set h2
  have hc := pchain_ok H hK (lv := 4) (by decide) (by decide) hd9 (obj1 h2 (.cells 37 6 [exRow 0 0 [] [] nilV]) (prC (ts.map tokRow) a)) ha hk hg
  repeat (first | refine nl ?_ | refine AWP.seq ?_ | refine rg ?_ | refine ZA (z := ?_))
  refine clq rfl rfl hc (fun v st' ⟨e, k, q1, q2, q3, q4⟩ => ⟨_, by rw [q3, push1 h2]; exact drop1 h2 _ _, e, k, q1, q2, rfl, q4⟩) fun v st' hR => ?_
  obtain ⟨x, c, hv, hc, hst, hr⟩ := hR
  subst hv
  subst hst
  rw [push1 h2]
  obtain ⟨op, num, name, field, args, hx⟩ := xrow_ex x
  rw [xv, hx]
  refine soV rfl rfl rfl rfl rfl rfl ?_
  repeat (refine nl ?_)
  refine AWP.ret (rets (resCW rfl (St.obj_set _ _ _) rfl rfl rfl rfl) (.refl _) (drop1 h2 _ _) ⟨x, c, ?_, hc, rfl, hr⟩)
  show AV.agg _ = AV.agg (xrow x)
  rw [hx] <;> rfl
end Go.Proofs
/- The parser: expressions, all levels. No conditions: definitions and lemmas only. -/
namespace Go.Proofs
open Go.AM
attribute [local irreducible] AWP AOps ACalls AAny

set_option maxHeartbeats 1000000 in
theorem pexpr_step {ts : List Tk} (H : RdH ts) {k : Nat} (hK : FeOk ts (k + 1)) {d a o : Nat} {st : St} (hd9 : d ≤ 9) (ho : st.obj o = some (prC (ts.map tokRow) a)) (ha : a < ts.length) (hk : 7 * (ts.length - a) + (6 - 1) < k + 2) (hg : st.row 2 = some sgnRow) :
    ACalls Tryd.prog 53 [.cptr o 2 0 0, .int .i64 (d : Int)] st (PaR ts o st xv (fe (k + 2) 1 d (ts.drop a))) (PaP ts o st (fe (k + 2) 1 d (ts.drop a))) := by
  refine ACalls.inSet ho (ACalls.ofBody Tryd.func53 rfl Tryd.ntmps53 rfl ?_)
  have hlm : (ts.map tokRow).length ≤ 100000 := by rw [List.length_map]; exact H.len
  rw [fe_lt (by decide)]
  repeat (refine AWP.seq ?_)
  refine rg ?_
  refine al rfl rfl fun o2 h2 => ?_
  replace h2 := none_set h2
  repeat (first | refine nl ?_ | refine AWP.seq ?_ | refine rg ?_ | refine ZA (z := ?_))
  refine clq rfl rfl (hK (k + 1) (Nat.le_refl _) 2 d a o _ (by decide) (by decide) hd9 ha (by omega) (obj1 h2 _ _) hg) (fun v st' ⟨e, k, q1, q2, q3, q4⟩ => ⟨_, by rw [q3, push1 h2]; exact drop1 h2 _ _, e, k, q1, q2, rfl, by rw [qb_err q4]⟩) fun v st' hR => ?_
  obtain ⟨x, b, hv, hb, hst, hr⟩ := hR
  subst hv
  subst hst
  have hab := drop_lt ha (fe_lt_len (by decide) (by decide) (by rw [List.length_drop]; omega) hr)
  rw [push1 h2, qb_ok hr]
  clear hr
  refine al rfl rfl fun o3 h3 => ?_
  replace h3 := none_set2 h3
  obtain ⟨op, num, name, field, args, hx⟩ := xrow_ex x
  rw [xv, hx]
  refine soV rfl rfl rfl rfl rfl rfl ?_
  repeat (first | refine nl ?_ | refine AWP.seq ?_ | refine rg ?_ | refine ZA (z := ?_))
  obtain ⟨t, t1, t2, t3, t4, t5⟩ := map_at hb
  rw [fl_one, t3, t5]
  refine cl rfl rfl (poperator_ok (obj2 h2 h3 _ _ _) t4 t2 hlm 1 (by decide) (by decide) hg) fun v st' ⟨hv, hst⟩ => ?_
  subst hv
  subst hst
  by_cases hbn : (bin t).1 = 1
  · rw [if_pos hbn, if_pos hbn, if_pos hbn, push2 h2 h3]
    have hk0 : t.kind ≠ 0 := by
      intro h0
      have : (bin t).1 = 0 := by
        unfold bin binL sg
        simp [h0]
      omega
    have hb1 := H.last _ _ t1 hk0
    have hop : 6 ≤ (bin t).2 := by
      have := bin_or t
      omega
    generalize (bin t).2 = bop at hop
    have hop0 : ¬ (bop : Int) = 0 := by omega
    repeat (first | refine nl ?_ | refine AWP.seq ?_ | refine rg ?_ | refine YH (z := ?_) | refine ZA (z := ?_))
    refine AWP.weaken (T' := [(6, .int .i64 (bop : Int)), (5, .cptr o3 6 0 0), (4, .cptr o2 6 0 0), (1, .int .i64 (d : Int)), (0, .cptr o 2 0 0)]) (st' := ((st.set o (prC (ts.map tokRow) (b + 1))).set o2 (.cells 37 6 [exRow 0 0 [] [] nilV])).set o3 (.cells 37 6 [exRow op num name field (.view 6 args .shared)])) (tl5 rfl rfl rfl rfl rfl) (.refl _) ?_
    refine AWP.any rfl ?_
    obtain ⟨S0, hS0⟩ : ∃ S0, S0 = ((st.set o (prC (ts.map tokRow) (b + 1))).set o2 (.cells 37 6 [exRow 0 0 [] [] nilV])).set o3 (.cells 37 6 [exRow op num name field (.view 6 args .shared)]) := ⟨_, rfl⟩
    have hS0o : S0.obj o = some (prC (ts.map tokRow) (b + 1)) := by rw [hS0]; exact obj2 h2 h3 _ _ _
    have hS0s : ∀ c, S0.set o (prC (ts.map tokRow) c) = ((st.set o (prC (ts.map tokRow) c)).set o2 (.cells 37 6 [exRow 0 0 [] [] nilV])).set o3 (.cells 37 6 [exRow op num name field (.view 6 args .shared)]) := fun c => by rw [hS0, push2 h2 h3]
    rw [← hS0]
    obtain ⟨y, hy0⟩ : ∃ y, ∀ x r, fe k 2 d (ts.drop (b + 1)) = .ok (x, r) → x = y := by
      cases fe k 2 d (ts.drop (b + 1)) with
      | error e => exact ⟨.lit 0, fun x r h => by cases h⟩
      | ok p => exact ⟨p.1, fun x r h => by cases h; rfl⟩
    obtain ⟨op2, num2, name2, field2, args2, hy⟩ := xrow_ex y
    have hS0le : ∀ c, StLe (S0.set o (prC (ts.map tokRow) c)) (((st.drop o).set o2 (.cells 37 6 [exRow 0 0 [] [] nilV])).set o3 (.cells 37 6 [exRow op num name field (.view 6 args .shared)])) := fun c => by
      rw [hS0s]; exact StLe.set _ _ (StLe.set _ _ StLe.drop_set)
    apply AAny.segX (X := fun pv st' => ∃ st1, StLe st' st1 ∧ PaP ts o st (qb (fe k 2 d (ts.drop (b + 1))) fun y r => .ok (Xp.bin bop x y, r)) pv st1) (hX := fun _ _ h => h) (k' := 7) (Es := [4]) (J := OpJ (ts := ts) S0 o (fe k 2 d (ts.drop (b + 1))))
      (base := ((st.drop o).set o2 (.cells 37 6 [exRow 0 0 [] [] nilV])).set o3 (.cells 37 6 [exRow op num name field (.view 6 args .shared)])) (hok := by decide +kernel) (hJ := rfl) (hb := by have := hS0le (b + 1); rwa [St.set_same hS0o] at this)
    repeat (first | apply dsP (hi := rfl) (hs := rfl) | apply dqP (hi := rfl) (hd := rfl) (hw := rfl) (h := fun _ _ => ZE (z := nz)))
    apply deP (Q := fun v => v = .agg (exRow op2 num2 name2 field2 (.view 6 args2 .shared))) (L := [[false]]) (hL := rfl) (hd := rfl) (hw := rfl) (hex := ⟨_, rfl⟩) (h := by
      refine ⟨?_, trivial⟩
      intro vs hvs hlk s hJ hle
      obtain ⟨v1, rfl, e1⟩ := vs1 hvs
      obtain rfl : v1 = none := by simpa using e1
      have hs0 : S0 = s := Eq.symm hJ
      subst hs0
      refine clq rfl rfl (hK k (Nat.le_succ _) 2 d (b + 1) o S0 (by decide) (by decide) hd9 hb1 (by omega) hS0o (by rw [hS0]; exact hg)) (fun v st' ⟨e, k, q1, q2, q3, q4⟩ => ⟨_, by rw [q3, hS0s]; exact drop2 h2 h3 _ _ _, e, k, q1, q2, rfl, by rw [qb_err q4]⟩) fun v st' hR => ?_
      obtain ⟨y', c, hv, hc, hst, hr⟩ := hR
      subst hv
      subst hst
      obtain rfl := hy0 _ _ hr
      exact nl ⟨_, rfl, by rw [xv, hy], ⟨y', c, rfl, hc, rfl, hr⟩, hS0le c⟩)
    rintro v rfl
    apply dqP (hi := rfl) (hd := rfl) (hw := rfl) (h := fun _ _ => bsh (cs := exRow op num name field (.view 6 args .shared) ++ exRow op2 num2 name2 field2 (.view 6 args2 .shared)) rfl rfl rfl rfl rfl nz)
    apply dqP (hi := rfl) (hd := rfl) (hw := rfl) (h := fun _ _ => bds (cs := exRow bop 0 [] [] (.view 6 [exRow op num name field (.view 6 args .shared), exRow op2 num2 name2 field2 (.view 6 args2 .shared)] .shared)) rfl rfl rfl rfl nz)
    refine dnP fun s hs => ?_
    obtain ⟨y', c, hv, hc, hst, hr⟩ := hs
    subst hst
    have hv' : exRow op2 num2 name2 field2 (.view 6 args2 .shared) = xrow y' := AV.agg.inj hv
    rw [hS0s]
    refine AAny.text rfl ?_
    refine soV rfl rfl rfl rfl rfl rfl ?_
    repeat (first | refine nl ?_ | refine AWP.seq ?_ | refine rg ?_ | refine ZE (z := ?_))
    refine soU rfl (Ne.symm (set_ne_new (h3 ob0 ob0))) rfl rfl rfl rfl rfl ?_
    repeat (refine nl ?_)
    refine AWP.ret (rets (resCW rfl (St.obj_under (Ne.symm (set_ne_new (h3 ob0 ob0))) _ _) rfl rfl rfl rfl) (.refl _) (drop2 h2 h3 _ _ _) ⟨.bin bop x y', c, ?_, hc, rfl, by rw [qb_ok hr]⟩)
    show AV.agg _ = AV.agg (exRow bop 0 [] [] (.view 6 [xrow x, xrow y'] .shared))
    rw [hx, ← hv'] <;> rfl
  · rw [if_neg hbn, if_neg hbn, if_neg hbn]
    repeat (first | refine nl ?_ | refine AWP.seq ?_ | refine rg ?_ | refine AWP.skip ?_ | refine YI (z := ?_) | refine ZA (z := ?_) | refine ZE (z := ?_))
    refine soU rfl (Ne.symm (set_ne_new (h3 ob0 ob0))) rfl rfl rfl rfl rfl ?_
    repeat (refine nl ?_)
    refine AWP.ret (rets (resCW rfl (St.obj_under (Ne.symm (set_ne_new (h3 ob0 ob0))) _ _) rfl rfl rfl rfl) (.refl _) (drop2 h2 h3 _ _ _) ⟨x, b, ?_, hb, rfl, rfl⟩)
    show AV.agg _ = AV.agg (xrow x)
    rw [hx] <;> rfl

theorem fe_ok {ts : List Tk} (H : RdH ts) : ∀ K, FeOk ts K
  | 0 => fun k hk lv d a o st h1 h5 hd ha hb => by omega
  | K + 1 => by
    have ih := fe_ok H K
    intro k hk lv d a o st h1 h5 hd ha hb ho hg
    rcases Nat.lt_or_ge k (K + 1) with h | h
    · exact ih k (by omega) lv d a o st h1 h5 hd ha hb ho hg
    · obtain rfl : k = K + 1 := by omega
      rcases (by omega : lv = 1 ∨ lv = 2 ∨ lv = 3 ∨ lv = 4 ∨ lv = 5) with rfl | rfl | rfl | rfl | rfl
      · obtain ⟨k, rfl⟩ : ∃ k, K = k + 1 := ⟨K - 1, by omega⟩
        exact pexpr_step H ih hd ho ha hb hg
      · exact pbits_ok H ih hd ho ha hb hg
      · exact psum_ok H ih hd ho ha hb hg
      · exact pproduct_ok H ih hd ho ha hb hg
      · obtain ⟨k, rfl⟩ : ∃ k, K = k + 1 := ⟨K - 1, by omega⟩
        rw [fe_5]
        exact punary_step H ih hd ho ha (by omega) hg
/-- An expression of a statement. -/
def qx (ts : List Tk) : FR := fe (7 * ts.length + 7) 1 0 ts
def qt (ts : List Tk) : FR := ftg (7 * ts.length + 7) 0 ts
theorem pexpr_ok {ts : List Tk} (H : RdH ts) {a o : Nat} {st : St} (ho : st.obj o = some (prC (ts.map tokRow) a)) (ha : a < ts.length) (hg : st.row 2 = some sgnRow) :
    ACalls Tryd.prog 53 [.cptr o 2 0 0, .int .i64 0] st (PaR ts o st xv (qx (ts.drop a))) (PaP ts o st (qx (ts.drop a))) :=
  fe_ok H _ _ (Nat.le_refl _) 1 0 a o st (by decide) (by decide) (by decide) ha (by rw [List.length_drop]; omega) ho hg
theorem ptarget_ok0 {ts : List Tk} (H : RdH ts) {a o : Nat} {st : St} (ho : st.obj o = some (prC (ts.map tokRow) a)) (ha : a < ts.length) (hg : st.row 2 = some sgnRow) :
    ACalls Tryd.prog 65 [.cptr o 2 0 0, .int .i64 0] st (PaR ts o st xv (qt (ts.drop a))) (PaP ts o st (qt (ts.drop a))) :=
  ptarget_ok H (fe_ok H _) (by decide) ho ha (by rw [List.length_drop]; omega) hg
end Go.Proofs
