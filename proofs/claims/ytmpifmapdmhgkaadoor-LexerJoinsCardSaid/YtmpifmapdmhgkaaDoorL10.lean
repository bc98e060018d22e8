/- The lexer in plain Lean: texts joined, lines shifted. No program in sight. -/
import Derived.Test.YtmpifmapdmhgkaaDoorL9
namespace Go.Proofs

/-- The tokens before the end or the error, the line there, the error. -/
def lx : Nat → List UInt8 → Nat → List Tk × Nat × Nat
  | 0, _, _ => ([], 0, 0)
  | _ + 1, [], line => ([], line, 0)
  | k + 1, c :: r, line => match one (c :: r) line with
    | .error e => ([], line, e)
    | .ok (t, m) => (t :: (lx k (skip false ((c :: r).drop m) line).1 (skip false ((c :: r).drop m) line).2).1, (lx k (skip false ((c :: r).drop m) line).1 (skip false ((c :: r).drop m) line).2).2)

theorem lx_err {k : Nat} {s : List UInt8} {line e : Nat} (hs : s ≠ []) (h : one s line = .error e) : lx (k + 1) s line = ([], line, e) := by
  cases s with
  | nil => exact absurd rfl hs
  | cons c r => rw [lx, h]
theorem lx_ok {k : Nat} {s : List UInt8} {line m : Nat} {t : Tk} (hs : s ≠ []) (h : one s line = .ok (t, m)) :
    lx (k + 1) s line = (t :: (lx k (skip false (s.drop m) line).1 (skip false (s.drop m) line).2).1, (lx k (skip false (s.drop m) line).1 (skip false (s.drop m) line).2).2) := by
  cases s with
  | nil => exact absurd rfl hs
  | cons c r => rw [lx, h]

theorem rest_lt {s : List UInt8} {line m : Nat} {t : Tk} (h : one s line = .ok (t, m)) (l : Nat) : (skip false (s.drop m) l).1.length < s.length := by
  obtain ⟨h1, h2, _⟩ := one_ok h
  have := (skip_le false (s.drop m) l).1
  rw [List.length_drop] at this
  omega

/-- Fuel enough is fuel enough. -/
theorem lx_fuel : ∀ (n : Nat) (s : List UInt8) (line k k' : Nat), s.length ≤ n → s.length < k → s.length < k' → lx k s line = lx k' s line
  | n, [], line, k + 1, k' + 1, _, _, _ => rfl
  | n + 1, c :: r, line, k + 1, k' + 1, hn, hk, hk' => by
    cases ho : one (c :: r) line with
    | error e => rw [lx_err (by simp) ho, lx_err (by simp) ho]
    | ok p =>
      obtain ⟨t, m⟩ := p
      have := rest_lt ho line
      rw [lx_ok (by simp) ho, lx_ok (by simp) ho, lx_fuel n _ _ k k' (by omega) (by omega) (by omega)]

def lex (s : List UInt8) (line : Nat) : List Tk × Nat × Nat := lx (s.length + 1) (skip false s line).1 (skip false s line).2

theorem skip_len (s : List UInt8) (line : Nat) : (skip false s line).1.length ≤ s.length := (skip_le false s line).1

theorem lex_fuel (s : List UInt8) (line k : Nat) (hk : (skip false s line).1.length < k) : lx k (skip false s line).1 (skip false s line).2 = lex s line := by
  have := skip_len s line
  exact lx_fuel _ _ _ _ _ (Nat.le_refl _) hk (by omega)

theorem lx_ok' {k : Nat} {s : List UInt8} {line m : Nat} {t : Tk} (hs : s ≠ []) (hk : s.length < k + 1) (h : one s line = .ok (t, m)) : lx (k + 1) s line = (t :: (lex (s.drop m) line).1, (lex (s.drop m) line).2) := by
  have := rest_lt h line
  rw [lx_ok hs h, lex_fuel _ _ _ (by omega)]

/-- What counts: bytes that are no line ends. -/
def ink (s : List UInt8) : Nat := s.countP (· != 10)
theorem ink_le (s : List UInt8) : ink s ≤ s.length := List.countP_le_length
theorem ink_append (s u : List UInt8) : ink (s ++ u) = ink s + ink u := List.countP_append ..
theorem ink_drop (s : List UInt8) (m : Nat) : ink (s.drop m) ≤ ink s := by
  conv => rhs; rw [← List.take_append_drop m s, ink_append]
  omega
theorem skip_ink (s : List UInt8) (line : Nat) : ink (skip false s line).1 ≤ ink s := by
  obtain ⟨_, _, _, k, hk⟩ := skip_le false s line
  rw [hk]
  exact ink_drop s k

theorem one_ink {s : List UInt8} {line m : Nat} {t : Tk} (h : one s line = .ok (t, m)) : ink (s.drop m) + 1 ≤ ink s := by
  obtain ⟨h1, h2, _⟩ := one_ok h
  cases s with
  | nil => simp at h2; omega
  | cons c r =>
    have hc : c ≠ 10 := by
      rintro rfl
      have : one (10 :: r) line = .error 6 := by
        have hs : sign (10 :: r) = [] := by
          unfold sign
          rw [if_neg (by
            cases r with
            | nil => simp [signs2]
            | cons d r => simp [signs2])]
          rfl
        unfold one
        simp only [show isLet 10 = false from rfl, show isDig 10 = false from rfl, cond_false, hs, if_true]
      rw [this] at h
      cases h
    obtain ⟨m, rfl⟩ : ∃ k, m = k + 1 := ⟨m - 1, by omega⟩
    rw [List.drop_succ_cons]
    have h3 := ink_drop r m
    have h4 : ink (c :: r) = ink r + 1 := by
      unfold ink
      rw [List.countP_cons_of_pos (by simpa using hc)]
    omega

theorem lx_ink : ∀ (n : Nat) (s : List UInt8) (line k : Nat), s.length ≤ n → s.length < k → (lx k s line).1.length ≤ ink s
  | n, [], line, k + 1, _, _ => Nat.zero_le _
  | n + 1, c :: r, line, k + 1, hn, hk => by
    cases ho : one (c :: r) line with
    | error e => rw [lx_err (by simp) ho]; exact Nat.zero_le _
    | ok p =>
      obtain ⟨t, m⟩ := p
      have h1 := rest_lt ho line
      rw [lx_ok (by simp) ho, List.length_cons]
      have h2 := lx_ink n (skip false ((c :: r).drop m) line).1 (skip false ((c :: r).drop m) line).2 k (by omega) (by omega)
      have h3 := skip_ink ((c :: r).drop m) line
      have h4 := one_ink ho
      omega

theorem lex_ink (s : List UInt8) (line : Nat) : (lex s line).1.length ≤ ink s :=
  Nat.le_trans (lx_ink _ _ _ _ (Nat.le_refl _) (by have := skip_len s line; omega)) (skip_ink s line)

/-- What scanL answers, out of lx, where the limit is not met. -/
def fin (out : List Tk) (r : List Tk × Nat × Nat) : List Tk × Nat × Nat := if r.2.2 = 0 then (out ++ r.1 ++ [⟨0, r.2.1, [], 0⟩], 0, 0) else ([], r.2.1, r.2.2)

theorem scanL_lx : ∀ (k : Nat) (s : List UInt8) (line : Nat) (out : List Tk), s.length < k → out.length + (lx k s line).1.length ≤ 2000 → scanL k s line out = fin out (lx k s line)
  | k + 1, [], line, out, _, _ => by simp [scanL, lx, fin]
  | k + 1, c :: r, line, out, hk, hl => by
    cases ho : one (c :: r) line with
    | error e =>
      have he := one_err ho
      rw [lx_err (by simp) ho, scanL, ho]
      unfold fin
      rw [if_neg (by simp only; omega)]
    | ok p =>
      obtain ⟨t, m⟩ := p
      have h1 := rest_lt ho line
      rw [lx_ok (by simp) ho] at hl ⊢
      simp only [List.length_cons] at hl
      rw [scanL, ho]
      simp only
      rw [if_neg (by omega), scanL_lx k _ _ _ (by simp only [List.length_cons] at hk h1; omega) (by simp only [List.length_append, List.length_cons, List.length_nil]; omega)]
      unfold fin
      simp only [List.append_assoc, List.cons_append, List.nil_append]

theorem scan_lex (s : List UInt8) (h : s.length ≤ 4000) (hi : ink s ≤ 2000) : scan s = fin [] (lex s 1) := by
  unfold scan
  have h1 := skip_len s 1
  have h2 := lex_ink s 1
  rw [if_neg (by omega), scanL_lx _ _ _ _ (by omega) (by
    show ([] : List Tk).length + (lex s 1).1.length ≤ 2000
    simp only [List.length_nil]
    omega)]
  rfl

/-- Every line later by d. -/
def shT (d : Nat) (t : Tk) : Tk := { t with line := t.line + d }
def shR (d : Nat) (r : List Tk × Nat × Nat) : List Tk × Nat × Nat := (r.1.map (shT d), r.2.1 + d, r.2.2)

theorem skip_shift (d : Nat) : ∀ (cm : Bool) (s : List UInt8) (l : Nat), skip cm s (l + d) = ((skip cm s l).1, (skip cm s l).2 + d)
  | cm, [], l => rfl
  | cm, c :: r, l => by
    unfold skip
    split
    · have := skip_shift d false r (l + 1)
      rw [show l + d + 1 = l + 1 + d by omega]
      exact this
    · cases cm
      · simp only [cond_false]
        split
        · exact skip_shift d false r l
        · split
          · exact skip_shift d true r l
          · rfl
      · exact skip_shift d true r l

theorem one_shift (d : Nat) (s : List UInt8) (l : Nat) : one s (l + d) = match one s l with | .error e => .error e | .ok (t, m) => .ok (shT d t, m) := by
  unfold one
  split
  · rfl
  · rename_i c r
    cases isLet c
    · cases isDig c
      · simp only [cond_false]
        split <;> rfl
      · simp only [cond_false, cond_true]
        split
        · rfl
        · split <;> rfl
    · simp only [cond_true]
      split <;> rfl

theorem lx_shift (d : Nat) : ∀ (k : Nat) (s : List UInt8) (l : Nat), s.length < k → lx k s (l + d) = shR d (lx k s l)
  | k + 1, [], l, _ => rfl
  | k + 1, c :: r, l, hk => by
    have hs := one_shift d (c :: r) l
    cases ho : one (c :: r) l with
    | error e =>
      rw [ho] at hs
      rw [lx_err (by simp) ho, lx_err (by simp) hs]
      rfl
    | ok p =>
      obtain ⟨t, m⟩ := p
      rw [ho] at hs
      have h1 := rest_lt ho l
      rw [lx_ok (by simp) ho, lx_ok (by simp) hs, skip_shift]
      simp only
      rw [lx_shift d k _ _ (by omega)]
      rfl

theorem lex_shift (d : Nat) (s : List UInt8) (l : Nat) : lex s (l + d) = shR d (lex s l) := by
  unfold lex
  rw [skip_shift]
  exact lx_shift d _ _ _ (by have := skip_len s l; simp only; omega)

theorem skip_cons (cm : Bool) (c : UInt8) (r : List UInt8) (l : Nat) : skip cm (c :: r) l = if c = 10 then skip false r (l + 1) else bif cm then skip true r l else if c = 32 ∨ c = 9 ∨ c = 13 then skip false r l else if c = 47 ∧ r.head? = some 47 then skip true r l else (c :: r, l) := rfl

/-- A line end between two texts. -/
theorem skip_join (b : List UInt8) : ∀ (cm : Bool) (a : List UInt8) (l : Nat), skip cm (a ++ 10 :: b) l = if (skip cm a l).1 = [] then skip false b ((skip cm a l).2 + 1) else ((skip cm a l).1 ++ 10 :: b, (skip cm a l).2)
  | cm, [], l => by simp [skip]
  | cm, c :: r, l => by
    have hh : (c = 47 ∧ (r ++ 10 :: b).head? = some 47) ↔ (c = 47 ∧ r.head? = some 47) := by
      cases r with
      | nil => simp
      | cons d r => simp
    rw [List.cons_append, skip_cons cm c r l, skip_cons cm c (r ++ 10 :: b) l]
    by_cases h1 : c = 10
    · rw [if_pos h1, if_pos h1]
      exact skip_join b false r (l + 1)
    · rw [if_neg h1, if_neg h1]
      cases cm
      · simp only [cond_false]
        by_cases h2 : c = 32 ∨ c = 9 ∨ c = 13
        · rw [if_pos h2, if_pos h2]
          exact skip_join b false r l
        · rw [if_neg h2, if_neg h2]
          by_cases h3 : c = 47 ∧ r.head? = some 47
          · rw [if_pos h3, if_pos (hh.2 h3)]
            exact skip_join b true r l
          · rw [if_neg h3, if_neg (fun h => h3 (hh.1 h)), if_neg (by simp)]
            rfl
      · exact skip_join b true r l

theorem takeWhile_join {p : UInt8 → Bool} (hp : p 10 = false) (b : List UInt8) : ∀ s : List UInt8, (s ++ 10 :: b).takeWhile p = s.takeWhile p
  | [] => by simp [hp]
  | c :: r => by
    rw [List.cons_append, List.takeWhile_cons, List.takeWhile_cons, takeWhile_join hp b r]

theorem sign_join (b : List UInt8) (c : UInt8) (r : List UInt8) : sign (c :: r ++ 10 :: b) = sign (c :: r) := by
  cases r with
  | nil =>
    unfold sign
    rw [if_neg (by simp [signs2]), if_neg (by simp [signs2])]
    rfl
  | cons d r => rfl

theorem one_join (b : List UInt8) {s : List UInt8} (hs : s ≠ []) (l : Nat) : one (s ++ 10 :: b) l = one s l := by
  cases s with
  | nil => exact absurd rfl hs
  | cons c r =>
    have h1 := takeWhile_join (p := isNP) rfl b (c :: r)
    have h2 := takeWhile_join (p := isDig) rfl b (c :: r)
    have h3 := sign_join b c r
    have h4 : (((c :: r ++ 10 :: b).drop ((c :: r).takeWhile isDig).length).head?.map isNP).getD false = (((c :: r).drop ((c :: r).takeWhile isDig).length).head?.map isNP).getD false := by
      have hle : ((c :: r).takeWhile isDig).length ≤ (c :: r).length := (List.takeWhile_prefix isDig).length_le
      rw [List.drop_append_of_le_length hle]
      cases (c :: r).drop ((c :: r).takeWhile isDig).length with
      | nil => rfl
      | cons d r => rfl
    rw [List.cons_append] at h1 h2 h3 h4 ⊢
    unfold one
    simp only [h1, h2, h3, h4]

theorem lx_join (b : List UInt8) : ∀ (n : Nat) (s : List UInt8) (l k k' : Nat), s.length ≤ n → s ≠ [] → s.length < k → (s ++ 10 :: b).length < k' →
    lx k' (s ++ 10 :: b) l = if (lx k s l).2.2 = 0 then ((lx k s l).1 ++ (lex b ((lx k s l).2.1 + 1)).1, (lex b ((lx k s l).2.1 + 1)).2) else lx k s l
  | n, [], _, _, _, _, h, _, _ => absurd rfl h
  | n + 1, c :: r, l, k + 1, k' + 1, hn, hs, hk, hk' => by
    have hj := one_join b hs l
    cases ho : one (c :: r) l with
    | error e =>
      rw [ho] at hj
      have he := one_err ho
      rw [lx_err hs ho, lx_err (by simp) hj, if_neg (by simp only; omega)]
    | ok p =>
      obtain ⟨t, m⟩ := p
      rw [ho] at hj
      obtain ⟨m1, m2, _⟩ := one_ok ho
      have h1 := rest_lt ho l
      have h2 := rest_lt hj l
      rw [lx_ok hs ho, lx_ok (by simp) hj, List.drop_append_of_le_length m2]
      rw [List.drop_append_of_le_length m2] at h2
      rw [skip_join] at h2 ⊢
      by_cases he : (skip false ((c :: r).drop m) l).1 = []
      · rw [if_pos he] at h2 ⊢
        obtain ⟨k, rfl⟩ : ∃ x, k = x + 1 := ⟨k - 1, by simp only [List.length_cons] at hk; omega⟩
        rw [lex_fuel _ _ _ (by omega), he]
        simp [lx]
      · rw [if_neg he] at h2 ⊢
        simp only at h2 ⊢
        have ih := lx_join b n _ (skip false ((c :: r).drop m) l).2 k k' (by omega) he (by omega) (by omega)
        rw [ih]
        generalize lx k (skip false ((c :: r).drop m) l).1 (skip false ((c :: r).drop m) l).2 = q
        obtain ⟨q1, q2, q3⟩ := q
        by_cases h0 : q3 = 0
        · simp only [if_pos h0, List.cons_append]
        · simp only [if_neg h0]

theorem lex_join (a b : List UInt8) (l : Nat) : lex (a ++ 10 :: b) l = if (lex a l).2.2 = 0 then ((lex a l).1 ++ (lex b ((lex a l).2.1 + 1)).1, (lex b ((lex a l).2.1 + 1)).2) else lex a l := by
  have h1 := skip_len a l
  have h2 := skip_len (a ++ 10 :: b) l
  unfold lex
  rw [skip_join] at h2 ⊢
  by_cases he : (skip false a l).1 = []
  · rw [if_pos he] at h2 ⊢
    rw [he]
    have : lx ((a ++ 10 :: b).length + 1) (skip false b ((skip false a l).2 + 1)).1 (skip false b ((skip false a l).2 + 1)).2 = lex b ((skip false a l).2 + 1) := lex_fuel _ _ _ (by omega)
    rw [this]
    simp [lx, lex]
  · rw [if_neg he] at h2 ⊢
    simp only at h2 ⊢
    exact lx_join b _ _ _ _ _ (Nat.le_refl _) he (by omega) (by omega)
end Go.Proofs
