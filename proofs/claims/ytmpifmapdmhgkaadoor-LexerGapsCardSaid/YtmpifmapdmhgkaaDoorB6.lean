/- Tokens between gaps, in plain Lean. No program in sight. -/
import Derived.Test.YtmpifmapdmhgkaaDoorB5
namespace Go.Proofs

theorem tw_app {q : UInt8 → Bool} {rest : List UInt8} (hr : rest = [] ∨ ∃ c r, rest = c :: r ∧ q c = false) : ∀ {w : List UInt8}, (∀ c ∈ w, q c = true) → (w ++ rest).takeWhile q = w
  | [], _ => by
    rcases hr with rfl | ⟨c, r, rfl, hc⟩
    · rfl
    · simp [hc]
  | a :: w, h => by
    rw [List.cons_append, List.takeWhile_cons, if_pos (h a (by simp)), tw_app hr fun c hc => h c (by simp [hc])]

/-- A gap's first byte, or the end. -/
def Gap (rest : List UInt8) : Prop := rest = [] ∨ ∃ c r, rest = c :: r ∧ (c = 32 ∨ c = 9 ∨ c = 10 ∨ c = 13)

theorem Gap.no {rest : List UInt8} (h : Gap rest) {q : UInt8 → Bool} (h1 : q 32 = false) (h2 : q 9 = false) (h3 : q 10 = false) (h4 : q 13 = false) : rest = [] ∨ ∃ c r, rest = c :: r ∧ q c = false := by
  rcases h with h | ⟨c, r, h, hc⟩
  · exact .inl h
  · refine .inr ⟨c, r, h, ?_⟩
    rcases hc with rfl | rfl | rfl | rfl <;> assumption

/-- A token that is scanned again from its text. -/
structure Good (t : Tk) : Prop where
  one : ∀ rest line, Gap rest → one (wordOf t ++ rest) line = .ok ({ t with line := line }, (wordOf t).length)
  skip : ∀ rest line, Gap rest → skip false (wordOf t ++ rest) line = (wordOf t ++ rest, line)
  num : t.num < 10 ^ 18
  len : (wordOf t).length ≤ 20

theorem decF_spec : ∀ (j k n : Nat) (acc : List UInt8), n < 10 ^ j → j ≤ k → acc ≠ [] → ∃ ds, decF k n acc = ds ++ acc ∧ ds.length ≤ j ∧ (∀ c ∈ ds, isDig c = true) ∧ digits ds = n
  | 0, k, n, acc, hn, _, ha => by
    have : n = 0 := by omega
    subst this
    refine ⟨[], ?_, Nat.le_refl _, (fun c hc => by cases hc), rfl⟩
    cases k with
    | zero => rfl
    | succ k => rw [decF, if_pos ⟨rfl, ha⟩]; rfl
  | j + 1, k, n, acc, hn, hk, ha => by
    obtain ⟨k, rfl⟩ : ∃ x, k = x + 1 := ⟨k - 1, by omega⟩
    by_cases h0 : n = 0
    · subst h0
      exact ⟨[], by rw [decF, if_pos ⟨rfl, ha⟩]; rfl, Nat.zero_le _, (fun c hc => by cases hc), rfl⟩
    · have hb : (UInt8.ofNat (48 + n % 10)).toNat = 48 + n % 10 := by
        rw [UInt8.toNat_ofNat']
        omega
      rw [Nat.pow_succ] at hn
      obtain ⟨ds, h1, h2, h3, h4⟩ := decF_spec j k (n / 10) (UInt8.ofNat (48 + n % 10) :: acc) (by omega) (by omega) (by simp)
      refine ⟨ds ++ [UInt8.ofNat (48 + n % 10)], ?_, by simp; omega, fun c hc => ?_, ?_⟩
      · rw [decF, if_neg (fun h => h0 h.1), h1]
        simp
      · rcases List.mem_append.1 hc with h | h
        · exact h3 c h
        · rw [List.mem_singleton.1 h]
          simp only [isDig, hb, Bool.and_eq_true, decide_eq_true_eq]
          omega
      · rw [digits_snoc, h4, hb]
        omega

theorem dec_spec (n : Nat) (hn : n < 10 ^ 18) : dec n ≠ [] ∧ (dec n).length ≤ 18 ∧ (∀ c ∈ dec n, isDig c = true) ∧ digits (dec n) = n := by
  have hb : (UInt8.ofNat (48 + n % 10)).toNat = 48 + n % 10 := by
    rw [UInt8.toNat_ofNat']
    omega
  obtain ⟨ds, h1, h2, h3, h4⟩ := decF_spec 17 19 (n / 10) [UInt8.ofNat (48 + n % 10)] (by omega) (by omega) (by simp)
  have e : dec n = ds ++ [UInt8.ofNat (48 + n % 10)] := by
    rw [← h1, dec, decF, if_neg (by simp)]
  rw [e]
  refine ⟨by simp, by simp; omega, fun c hc => ?_, ?_⟩
  · rcases List.mem_append.1 hc with h | h
    · exact h3 c h
    · rw [List.mem_singleton.1 h]
      simp only [isDig, hb, Bool.and_eq_true, decide_eq_true_eq]
      omega
  · rw [digits_snoc, h4, hb]
    omega

theorem sign_good : ∀ sg, (sg ∈ signs2 ∨ ∃ c ∈ signs1, sg = [c]) → ∃ c r, sg = c :: r ∧ isLet c = false ∧ isDig c = false ∧ c ≠ 10 ∧ c ≠ 32 ∧ c ≠ 9 ∧ c ≠ 13 ∧ (c = 47 → r = []) ∧ sg.length ≤ 2 := by
  have h2 : ∀ sg ∈ signs2, ∃ c r, sg = c :: r ∧ isLet c = false ∧ isDig c = false ∧ c ≠ 10 ∧ c ≠ 32 ∧ c ≠ 9 ∧ c ≠ 13 ∧ (c = 47 → r = []) ∧ sg.length ≤ 2 := by
    intro sg h
    simp only [signs2, List.mem_cons, List.not_mem_nil, or_false] at h
    rcases h with rfl | rfl | rfl <;> exact ⟨_, _, rfl, rfl, rfl, by decide, by decide, by decide, by decide, by decide, by decide⟩
  have h1 : ∀ c ∈ signs1, isLet c = false ∧ isDig c = false ∧ c ≠ 10 ∧ c ≠ 32 ∧ c ≠ 9 ∧ c ≠ 13 := by decide
  rintro sg (h | ⟨c, hc, rfl⟩)
  · exact h2 sg h
  · obtain ⟨a1, a2, a3, a4, a5, a6⟩ := h1 c hc
    exact ⟨c, [], rfl, a1, a2, a3, a4, a5, a6, fun _ => rfl, by simp⟩

theorem sign_app {sg rest : List UInt8} (hr : Gap rest) (h : sg ∈ signs2 ∨ ∃ c ∈ signs1, sg = [c]) (h1 : ∀ c, sg = [c] → c ∈ signs1) : sign (sg ++ rest) = sg := by
  have hlen : ∀ w ∈ signs2, w.length = 2 := by decide
  rcases h with h | ⟨c, hc, rfl⟩
  · unfold sign
    have : (sg ++ rest).take 2 = sg := by
      rw [List.take_append_of_le_length (by rw [hlen _ h]; omega), List.take_of_length_le (by rw [hlen _ h]; omega)]
    rw [this, if_pos h]
  · have hn : ¬ ([c] ++ rest).take 2 ∈ signs2 := by
      rcases hr with rfl | ⟨d, r, rfl, hd⟩
      · intro h
        have := hlen _ h
        simp at this
      · intro h
        have h2 : ∀ w ∈ signs2, ∃ a, w = [a, 61] := by
          intro w hw
          simp only [signs2, List.mem_cons, List.not_mem_nil, or_false] at hw
          rcases hw with rfl | rfl | rfl <;> exact ⟨_, rfl⟩
        obtain ⟨a, ha⟩ := h2 _ h
        simp at ha
        rcases hd with rfl | rfl | rfl | rfl <;> exact absurd ha.2 (by decide)
    unfold sign
    rw [if_neg hn]
    show (if c ∈ signs1 then [c] else []) = [c]
    rw [if_pos hc]

theorem sign_is (s : List UInt8) (h : sign s ≠ []) : sign s ∈ signs2 ∨ ∃ c ∈ signs1, sign s = [c] := by
  unfold sign at h ⊢
  split
  · rename_i h2
    exact .inl h2
  · rename_i h2
    rw [if_neg h2] at h
    split at h
    · rename_i c r
      split at h
      · rename_i hc
        simp only [hc, if_true]
        exact .inr ⟨c, hc, rfl⟩
      · exact absurd rfl h
    · exact absurd rfl h

theorem skip_word {w rest : List UInt8} (hr : Gap rest) {c : UInt8} {r : List UInt8} (hw : w = c :: r) (h : c ≠ 10 ∧ c ≠ 32 ∧ c ≠ 9 ∧ c ≠ 13 ∧ (c = 47 → r = [])) (line : Nat) : skip false (w ++ rest) line = (w ++ rest, line) := by
  obtain ⟨h1, h2, h3, h4, h5⟩ := h
  subst hw
  rw [List.cons_append, skip_cons, if_neg h1, cond_false, if_neg (by rintro (h | h | h) <;> contradiction), if_neg]
  rintro ⟨h6, h7⟩
  rw [h5 h6] at h7
  rcases hr with rfl | ⟨d, q, rfl, hd⟩
  · cases h7
  · simp at h7
    rcases hd with rfl | rfl | rfl | rfl <;> exact absurd h7 (by decide)

theorem let_facts {c : UInt8} (h : isNP c = true) : c ≠ 10 ∧ c ≠ 32 ∧ c ≠ 9 ∧ c ≠ 13 ∧ c ≠ 47 := by
  refine ⟨?_, ?_, ?_, ?_, ?_⟩ <;> (rintro rfl; exact absurd h (by decide))

theorem good_of_one {s : List UInt8} {line m : Nat} {t : Tk} (h : Go.Proofs.one s line = .ok (t, m)) : Good t := by
  unfold Go.Proofs.one at h
  split at h
  · cases h
  · rename_i c r
    cases hl : isLet c
    · cases hd : isDig c
      · -- a sign
        simp only [hl, hd, cond_false] at h
        split at h
        · cases h
        · rename_i hne
          cases h
          have hs := sign_is (c :: r) hne
          generalize sign (c :: r) = sg at hs hne
          obtain ⟨a, q, hsg, f1, f2, f3, f4, f5, f6, f7, f8⟩ := sign_good sg hs
          have hw : wordOf ⟨4, line, sg, 0⟩ = sg := rfl
          refine ⟨fun rest line' hr => ?_, fun rest line' hr => ?_, show 0 < 10 ^ 18 by decide, by rw [hw]; omega⟩
          · rw [hw]
            have h2 : sign (sg ++ rest) = sg := sign_app hr hs fun c hc => by
              rcases hs with hs | ⟨c', hc', e⟩
              · have hlen : ∀ w ∈ signs2, w.length = 2 := by decide
                have := hlen _ hs
                rw [hc] at this
                cases this
              · rw [hc] at e
                cases e
                exact hc'
            subst hsg
            unfold Go.Proofs.one
            simp only [List.cons_append, f1, f2, cond_false] at h2 ⊢
            rw [h2, if_neg (by simp)]
          · rw [hw]
            exact skip_word hr hsg ⟨f3, f4, f5, f6, f7⟩ line'
      · -- a number
        simp only [hl, hd, cond_false, cond_true] at h
        split at h
        · cases h
        · rename_i h18
          split at h
          · cases h
          · cases h
            have hall : ∀ x ∈ (c :: r).takeWhile isDig, isDig x = true := fun x hx => mem_tw hx
            have hlt := digits_lt _ _ rfl hall
            have hp : 10 ^ ((c :: r).takeWhile isDig).length ≤ 10 ^ 18 := Nat.pow_le_pow_right (by omega) (by omega)
            generalize digits ((c :: r).takeWhile isDig) = v at hlt
            have hv : v < 10 ^ 18 := by omega
            obtain ⟨d1, d2, d3, d4⟩ := dec_spec v hv
            have hw : wordOf ⟨2, line, [], v⟩ = dec v := rfl
            generalize dec v = ds at d1 d2 d3 d4 hw
            obtain ⟨a, q, rfl⟩ : ∃ a q, ds = a :: q := by
              cases ds with
              | nil => exact absurd rfl d1
              | cons a q => exact ⟨a, q, rfl⟩
            have ha := d3 a (by simp)
            have hal : isLet a = false := by
              cases hl : isLet a with
              | false => rfl
              | true => simp [isLet, isDig] at hl ha; omega
            obtain ⟨g1, g2, g3, g4, g5⟩ := let_facts (c := a) (by simp [isNP, ha])
            refine ⟨fun rest line' hr => ?_, fun rest line' hr => ?_, hv, by rw [hw]; omega⟩
            · rw [hw]
              have htw : (a :: q ++ rest).takeWhile isDig = a :: q := tw_app (hr.no rfl rfl rfl rfl) d3
              have hhd : (((a :: q ++ rest).drop (a :: q).length).head?.map isNP).getD false = false := by
                rw [List.drop_left]
                rcases hr.no (q := isNP) rfl rfl rfl rfl with rfl | ⟨d, r', rfl, hd⟩
                · rfl
                · simpa using hd
              unfold Go.Proofs.one
              simp only [List.cons_append, hal, ha, cond_false, cond_true] at htw hhd ⊢
              simp only [htw, hhd, if_neg (show ¬ 18 < (a :: q).length by omega), d4]
              rfl
            · rw [hw]
              exact skip_word hr rfl ⟨g1, g2, g3, g4, fun h => absurd h g5⟩ line'
    · -- a name or a word
      simp only [hl, cond_true] at h
      split at h
      · cases h
      · rename_i h12
        cases h
        have hall : ∀ x ∈ (c :: r).takeWhile isNP, isNP x = true := fun x hx => mem_tw hx
        have hhd : ∃ q, (c :: r).takeWhile isNP = c :: q := ⟨r.takeWhile isNP, by rw [List.takeWhile_cons, if_pos (by simp [isNP, hl])]⟩
        obtain ⟨q, hq⟩ := hhd
        generalize (c :: r).takeWhile isNP = nm at hall hq h12
        subst hq
        have hw : wordOf ⟨if c :: q ∈ words then 3 else 1, line, c :: q, 0⟩ = c :: q := by
          unfold wordOf
          rw [if_neg]
          simp only
          split <;> decide
        obtain ⟨g1, g2, g3, g4, g5⟩ := let_facts (hall c (by simp))
        refine ⟨fun rest line' hr => ?_, fun rest line' hr => ?_, show 0 < 10 ^ 18 by decide, by rw [hw]; omega⟩
        · rw [hw]
          have htw : (c :: q ++ rest).takeWhile isNP = c :: q := tw_app (hr.no rfl rfl rfl rfl) hall
          unfold Go.Proofs.one
          simp only [List.cons_append, hl, cond_true] at htw ⊢
          simp only [htw, if_neg h12]
        · rw [hw]
          exact skip_word hr rfl ⟨g1, g2, g3, g4, fun h => absurd h g5⟩ line'

/-- The gaps of the law. -/
def gaps : List (List UInt8) := [[32], [9, 32], [10], [32, 47, 47, 32, 97, 32, 42, 32, 49, 98, 32, 36, 10], [13, 10]]
def gap (g : Nat) : List UInt8 := (gaps[g]?).getD []
def gapNl (g : Nat) : Nat := if 2 ≤ g then 1 else 0

theorem gap_skip (g : Nat) (hg : g < 5) (x : List UInt8) (line : Nat) : skip false (gap g ++ x) line = skip false x (line + gapNl g) := by
  have : g = 0 ∨ g = 1 ∨ g = 2 ∨ g = 3 ∨ g = 4 := by omega
  rcases this with rfl | rfl | rfl | rfl | rfl <;> rfl

theorem gap_gap (g : Nat) (hg : g < 5) (x : List UInt8) : Gap (gap g ++ x) := by
  have : g = 0 ∨ g = 1 ∨ g = 2 ∨ g = 3 ∨ g = 4 := by omega
  rcases this with rfl | rfl | rfl | rfl | rfl <;> exact .inr ⟨_, _, rfl, by decide⟩

theorem gap_len (g : Nat) : (gap g).length ≤ 13 := by
  rcases Nat.lt_or_ge g 5 with h | h
  · have : g = 0 ∨ g = 1 ∨ g = 2 ∨ g = 3 ∨ g = 4 := by omega
    rcases this with rfl | rfl | rfl | rfl | rfl <;> decide
  · have : gap g = [] := by
      unfold gap
      rw [List.getElem?_eq_none (by simpa [gaps] using h)]
      rfl
    rw [this]
    decide

/-- The text and the tokens that are wanted. -/
def gtext : List (Nat × Tk) → List UInt8
  | [] => []
  | (g, t) :: r => gap g ++ (wordOf t ++ gtext r)
def gwant : Nat → List (Nat × Tk) → List Tk
  | _, [] => []
  | line, (g, t) :: r => { t with line := line + gapNl g } :: gwant (line + gapNl g) r
def gline : Nat → List (Nat × Tk) → Nat
  | line, [] => line
  | line, (g, _) :: r => gline (line + gapNl g) r

theorem word_ne {t : Tk} (h : Good t) : wordOf t ≠ [] := by
  intro e
  have := h.one [] 1 (.inl rfl)
  rw [e] at this
  cases this

theorem lex_gtext : ∀ (l : List (Nat × Tk)) (line : Nat), (∀ x ∈ l, x.1 < 5 ∧ Good x.2) → ∀ ge : Nat, ge < 5 → lex (gtext l ++ gap ge) line = (gwant line l, gline line l + gapNl ge, 0)
  | [], line, _, ge, hge => by
    have := gap_skip ge hge [] line
    rw [List.append_nil] at this
    show lex (gap ge) line = _
    unfold lex
    rw [this]
    simp [skip, lx, gwant, gline]
  | (g, t) :: r, line, h, ge, hge => by
    obtain ⟨hg, ht⟩ := h (g, t) (by simp)
    have ih := lex_gtext r (line + gapNl g) (fun x hx => h x (List.mem_cons_of_mem _ hx)) ge hge
    have hgap : Gap (gtext r ++ gap ge) := by
      cases r with
      | nil => exact (by have := gap_gap ge hge []; rwa [List.append_nil] at this)
      | cons x r =>
        obtain ⟨g', t'⟩ := x
        show Gap ((gap g' ++ (wordOf t' ++ gtext r)) ++ gap ge)
        rw [List.append_assoc]
        exact gap_gap g' (h (g', t') (by simp)).1 _
    have ho := ht.one (gtext r ++ gap ge) (line + gapNl g) hgap
    have hs := ht.skip (gtext r ++ gap ge) (line + gapNl g) hgap
    have e : gtext ((g, t) :: r) ++ gap ge = gap g ++ (wordOf t ++ (gtext r ++ gap ge)) := by
      simp only [gtext, List.append_assoc]
    rw [e]
    have hne : wordOf t ++ (gtext r ++ gap ge) ≠ [] := fun h => word_ne ht (List.append_eq_nil_iff.1 h).1
    unfold lex
    rw [gap_skip g hg, hs]
    simp only
    rw [lx_ok' hne (by simp only [List.length_append]; omega) ho, List.drop_left, ih]
    rfl
end Go.Proofs
/- What a scan that succeeds has: tokens that are scanned again. No program in sight. -/
namespace Go.Proofs

theorem scanL_good : ∀ (k : Nat) (s : List UInt8) (line : Nat) (out : List Tk), s.length < k → (∀ t ∈ out, Good t) → out.length ≤ 2000 → (scanL k s line out).2.2 = 0 →
    ∃ ts l, scanL k s line out = (ts ++ [⟨0, l, [], 0⟩], 0, 0) ∧ (∀ t ∈ ts, Good t) ∧ ts.length ≤ 2000
  | k + 1, [], line, out, _, h, hl, _ => ⟨out, line, rfl, h, hl⟩
  | k + 1, c :: r, line, out, hk, h, hl, he => by
    cases ho : one (c :: r) line with
    | error e =>
      have h1 := one_err ho
      rw [scanL, ho] at he
      simp only at he
      omega
    | ok p =>
      obtain ⟨t, m⟩ := p
      have hr := rest_lt ho line
      rw [scanL, ho] at he ⊢
      simp only at he ⊢
      split
      · rename_i h2
        rw [if_pos h2] at he
        cases he
      · rename_i h2
        rw [if_neg h2] at he
        exact scanL_good k _ _ _ (by omega) (fun u hu => by
          rcases List.mem_append.1 hu with hu | hu
          · exact h u hu
          · rw [List.mem_singleton.1 hu]
            exact good_of_one ho) (by simp; omega) he

theorem scan_good (s : List UInt8) (he : (scan s).2.2 = 0) : ∃ ts l, scan s = (ts ++ [⟨0, l, [], 0⟩], 0, 0) ∧ (∀ t ∈ ts, Good t) ∧ ts.length ≤ 2000 := by
  unfold scan at he ⊢
  split at he
  · cases he
  · rename_i h
    rw [if_neg h]
    have h1 := skip_len s 1
    exact scanL_good _ _ _ _ (by omega) (fun t h => by cases h) (by decide) he

theorem gwant_len : ∀ (l : List (Nat × Tk)) (line : Nat), (gwant line l).length = l.length
  | [], _ => rfl
  | (g, t) :: r, line => by rw [gwant, List.length_cons, List.length_cons, gwant_len r]

/-- The text of tokens between gaps is scanned as they are, with their lines. -/
theorem scan_gtext (l : List (Nat × Tk)) (ge : Nat) (h : ∀ x ∈ l, x.1 < 5 ∧ Good x.2) (hge : ge < 5) (hl : l.length ≤ 2000) :
    scan (gtext l ++ gap ge) = if 4000 < (gtext l ++ gap ge).length then ([], 0, 5) else (gwant 1 l ++ [⟨0, gline 1 l + gapNl ge, [], 0⟩], 0, 0) := by
  unfold scan
  by_cases h4 : 4000 < (gtext l ++ gap ge).length
  · rw [if_pos h4, if_pos h4]
  · rw [if_neg h4, if_neg h4]
    have h1 := skip_len (gtext l ++ gap ge) 1
    have h2 := lex_gtext l 1 h ge hge
    have h3 : lx ((gtext l ++ gap ge).length + 1) (skip false (gtext l ++ gap ge) 1).1 (skip false (gtext l ++ gap ge) 1).2 = (gwant 1 l, gline 1 l + gapNl ge, 0) := h2
    rw [scanL_lx _ _ _ _ (by omega) (by rw [h3, gwant_len]; simpa using hl), h3]
    rfl
end Go.Proofs
/- LexerGaps: it answers true at every input. No conditions: lemmas only. -/
namespace Go.Proofs
open Go.AM

theorem gtext_snoc (g : Nat) (t : Tk) : ∀ l : List (Nat × Tk), gtext (l ++ [(g, t)]) = gtext l ++ (gap g ++ wordOf t)
  | [] => by simp [gtext]
  | (g', t') :: r => by
    rw [List.cons_append, gtext, gtext, gtext_snoc g t r]
    simp only [List.append_assoc]
theorem gline_snoc (g : Nat) (t : Tk) : ∀ (l : List (Nat × Tk)) (line : Nat), gline line (l ++ [(g, t)]) = gline line l + gapNl g
  | [], line => by rw [List.nil_append, gline, gline, gline]
  | (g', t') :: r, line => by rw [List.cons_append, gline, gline, gline_snoc g t r]
theorem gwant_snoc (g : Nat) (t : Tk) : ∀ (l : List (Nat × Tk)) (line : Nat), gwant line (l ++ [(g, t)]) = gwant line l ++ [{ t with line := gline line l + gapNl g }]
  | [], line => by rw [List.nil_append, gwant, gwant, gwant, gline, List.nil_append]
  | (g', t') :: r, line => by rw [List.cons_append, gwant, gwant, gwant_snoc g t r, gline, List.cons_append]
theorem gline_le : ∀ (l : List (Nat × Tk)) (line : Nat), gline line l ≤ line + l.length
  | [], line => by rw [gline]; omega
  | (g, t) :: r, line => by
    have h := gline_le r (line + gapNl g)
    have h2 : gapNl g ≤ 1 := by unfold gapNl; split <;> omega
    rw [gline, List.length_cons]
    omega
theorem gtext_len : ∀ (l : List (Nat × Tk)), (∀ x ∈ l, (wordOf x.2).length ≤ 20) → (gtext l).length ≤ 33 * l.length
  | [], _ => by rw [gtext]; simp
  | (g, t) :: r, h => by
    have h1 := gtext_len r fun x hx => h x (List.mem_cons_of_mem _ hx)
    have h2 := h (g, t) (List.mem_cons_self ..)
    have h3 := gap_len g
    rw [gtext]
    simp only [List.length_append, List.length_cons] at *
    omega

/-- The law's text is scanned as the tokens that it wants, or is too long. -/
theorem gaps_scan (ts0 : List Tk) (l : Nat) (Z : List (Nat × Tk)) (hg : ∀ t ∈ ts0, Good t) (hl : ts0.length ≤ 2000) (hZ : Z.map (·.2) = ts0 ++ [⟨0, l, [], 0⟩]) (h5 : ∀ x ∈ Z, x.1 < 5) :
    scan (gtext Z) = if 4000 < (gtext Z).length then ([], 0, 5) else (gwant 1 Z, 0, 0) := by
  obtain ⟨Z0, ⟨ge, te⟩, rfl⟩ : ∃ Z0 x, Z = Z0 ++ [x] := by
    rcases List.eq_nil_or_concat Z with h | ⟨Z0, x, h⟩
    · subst h
      simp at hZ
    · exact ⟨Z0, x, by simpa using h⟩
  rw [List.map_append] at hZ
  have hz := List.append_inj' hZ rfl
  obtain ⟨h1, h2⟩ := hz
  have h3 : te = ⟨0, l, [], 0⟩ := by simpa using h2
  subst h3
  have hge : ge < 5 := h5 (ge, ⟨0, l, [], 0⟩) (by simp)
  have hw : wordOf ⟨0, l, [], 0⟩ = [] := rfl
  rw [gtext_snoc, hw, List.append_nil, gwant_snoc]
  refine scan_gtext Z0 ge (fun x hx => ⟨h5 x (List.mem_append_left _ hx), hg _ ?_⟩) hge ?_
  · rw [← h1]
    exact List.mem_map_of_mem hx
  · rw [← h1, List.length_map] at hl
    exact hl

set_option maxHeartbeats 2000000 in
theorem LexerGaps_ok (l : List Int) (hl : l.length ≤ 17592186043904) (_ : ∀ x ∈ l, (Lit.int .i64 x).wf = true) (m : List Int) (_ : m.length ≤ 17592186043904) (_ : ∀ x ∈ m, (Lit.int .i64 x).wf = true) (st : St) (hg0 : st.row 0 = some wordRow) (hg1 : st.row 1 = some signRow) :
    ACalls Tryd.prog 5 [.view 1 (l.map fun x => [.int .i64 x]) .shared, .view 1 (m.map fun x => [.int .i64 x]) .shared] st (fun v _ => v = .bool true) (fun _ _ => False) := by
  refine ACalls.ofBody Tryd.func5 rfl Tryd.ntmps5 rfl ?_
  have hmm : (m.map fun x => [AV.int .i64 x]).length = m.length := List.length_map ..
  have hmr : ∀ i (h : i < m.length), (m.map fun x => [AV.int .i64 x])[i]? = some [.int .i64 m[i]] := fun i h => by rw [List.getElem?_map, List.getElem?_eq_getElem h]; rfl
  generalize (m.map fun x => [AV.int .i64 x]) = M at hmm hmr
  repeat (refine AWP.seq ?_)
  refine rg ?_
  repeat (refine sm rfl ?_)
  repeat (first | refine nl ?_ | refine AWP.seq ?_ | refine rg ?_ | refine sm rfl ?_)
  refine cle rfl rfl (short_ok l hl st) ?_
  refine cl rfl rfl (text_ok (l.take 200) (by rw [List.length_take]; omega) st) fun v s' ⟨⟨t, hv, ht⟩, hs⟩ => ?_
  subst hv
  obtain rfl : st = s' := hs.symm
  have hsc := scan_ok t st hg1 hg0
  have hgood := scan_good t
  generalize scan t = q at hsc hgood
  obtain ⟨ts, line, e⟩ := q
  simp only [scanV] at hsc
  simp only at hgood
  refine cle rfl rfl hsc ?_
  repeat (first | refine nl ?_ | refine AWP.seq ?_ | refine rg ?_ | refine sm rfl ?_)
  refine AWP.cond_dec rfl (fun h => ?_) (fun h => AWP.skip ?_)
  · repeat (first | refine AWP.seq ?_ | refine rg ?_)
    refine cle rfl rfl (known_ok _ hg1 hg0) ?_
    repeat (first | refine nl ?_ | refine sm rfl ?_)
    exact AWP.ret (rets rfl (.refl _) (.refl _) rfl)
  have he : e = 0 := by have h0 : ¬ (e : Int) ≠ 0 := h; omega
  obtain ⟨ts0, l0, hq, hg, hlen⟩ := hgood he
  have hts : ts = ts0 ++ [⟨0, l0, [], 0⟩] := congrArg Prod.fst hq
  have htl : ts.length = ts0.length + 1 := by rw [hts]; simp
  have htm : ∀ t ∈ ts, (wordOf t).length ≤ 20 ∧ t.num < 10 ^ 18 := by
    intro t ht
    rw [hts] at ht
    rcases List.mem_append.1 ht with h | h
    · exact ⟨(hg t h).len, (hg t h).num⟩
    · rw [List.mem_singleton.1 h]
      exact ⟨by rw [show wordOf ⟨0, l0, [], 0⟩ = [] from rfl]; decide, by show 0 < 10 ^ 18; decide⟩
  have hXl : (ts.map tokRow).length = ts.length := List.length_map ..
  have hXr : ∀ i (h : i < ts.length), (ts.map tokRow)[i]? = some (tokRow ts[i]) := fun i h => by rw [List.getElem?_map, List.getElem?_eq_getElem h]; rfl
  generalize ts.map tokRow = X at hXl hXr
  repeat (refine AWP.seq ?_)
  refine rg ?_
  repeat (refine sm rfl ?_)
  repeat (first | refine nl ?_ | refine AWP.seq ?_)
  refine rg ?_
  repeat (refine sm rfl ?_)
  repeat (first | refine nl ?_ | refine AWP.seq ?_)
  refine rg ?_
  repeat (refine sm rfl ?_)
  refine nl ?_
  refine AWP.nilTok 10 36 4 rfl fun tk htk => ?_
  repeat (refine AWP.seq ?_)
  refine rg ?_
  repeat (first | refine sm rfl ?_ | refine lnv rfl rfl ?_)
  refine nl ?_
  refine AWP.weaken (T' := [(30, .int .i64 ((0 : Nat) : Int)), (29, .int .i64 (X.length : Int)), (28, .view 4 X .shared), (8, .str []), (9, .int .i64 ((1 : Nat) : Int)), (10, .view 4 [] (.own tk 36)), (1, .view 1 M .shared)]) (st' := st.addTok tk) (tl7 rfl rfl rfl rfl rfl rfl rfl) (.refl _) ?_
  repeat (refine AWP.block ?_)
  refine AWP.loop (α := List (Nat × Tk) × Nat) (fun x => [(30, .int .i64 (x.1.length : Int)), (29, .int .i64 (X.length : Int)), (28, .view 4 X .shared), (8, .str (gtext x.1)), (9, .int .i64 (gline 1 x.1 : Int)), (10, .view 4 ((gwant 1 x.1).map tokRow) (.own x.2 36)), (1, .view 1 M .shared)])
    (fun x => st.addTok x.2) (fun x => x.1.map (·.2) = ts.take x.1.length ∧ (∀ y ∈ x.1, y.1 < 5) ∧ x.1.length ≤ ts.length ∧ st.tok x.2 = false) (fun x => ts.length - x.1.length) ([], tk) ⟨rfl, fun y h => (by cases h), Nat.zero_le _, htk⟩ (tl7 rfl rfl rfl rfl rfl rfl rfl) (.refl _) ?_
  rintro ⟨Z, tk⟩ ⟨g1, g2, g3, g4⟩
  simp only at g1 g2 g3 g4
  have gl := gline_le Z 1
  have gw := gwant_len Z 1
  have gt := gtext_len Z fun y hy => by
    have : y.2 ∈ Z.map (·.2) := List.mem_map_of_mem hy
    rw [g1] at this
    exact (htm _ (List.mem_of_mem_take this)).1
  refine AWP.weaken (T' := [(30, .int .i64 (Z.length : Int)), (29, .int .i64 (X.length : Int)), (28, .view 4 X .shared), (8, .str (gtext Z)), (9, .int .i64 (gline 1 Z : Int)), (10, .view 4 ((gwant 1 Z).map tokRow) (.own tk 36)), (1, .view 1 M .shared)]) (st' := st.addTok tk) (tl7 rfl rfl rfl rfl rfl rfl rfl) (.refl _) ?_
  repeat (first | refine nl ?_ | refine AWP.seq ?_ | refine rg ?_ | refine sm rfl ?_)
  refine AWP.cond_dec rfl (fun h => AWP.skip ?_) (fun h => AWP.exit (blk_hit ?_))
  · have hk : Z.length < ts.length := by have h0 : (Z.length : Int) < (X.length : Int) := h; omega
    have hkX : Z.length < X.length := by omega
    have hr := hXr _ hk
    have htk' : ts.take (Z.length + 1) = ts.take Z.length ++ [ts[Z.length]] := by rw [List.take_add_one, List.getElem?_eq_getElem hk]; rfl
    have hb := htm _ (List.getElem_mem hk)
    generalize ts[Z.length] = tt at hr htk' hb
    obtain ⟨hb1, hb2⟩ := hb
    repeat (first | refine AWP.seq ?_ | refine rg ?_ | refine AWP.block ?_ | refine sm rfl ?_ | refine leW rfl rfl rfl (by assumption) rfl ?_ | refine ix rfl rfl rfl rfl (by assumption) ?_)
    refine al rfl rfl fun o12 ho12 => ?_
    repeat (refine sm rfl ?_)
    refine soV rfl rfl rfl rfl rfl rfl ?_
    repeat (first | refine nl ?_ | refine AWP.seq ?_)
    refine rg ?_
    repeat (refine sm rfl ?_)
    refine nl ?_
    refine AWP.seq ?_
    refine AWP.cutK (α := Nat) (fun g => [(13, .int .i64 (g : Int)), (12, .cptr o12 4 0 0), (30, .int .i64 (Z.length : Int)), (29, .int .i64 (X.length : Int)), (28, .view 4 X .shared), (8, .str (gtext Z)), (9, .int .i64 (gline 1 Z : Int)), (10, .view 4 ((gwant 1 Z).map tokRow) (.own tk 36)), (1, .view 1 M .shared)]) (fun _ => (st.addTok tk).set o12 (.cells 36 4 [tokRow tt])) (fun g => g < 5) ?_ ?_
    · repeat (first | refine nl ?_ | refine AWP.seq ?_ | refine rg ?_ | refine sm rfl ?_ | refine lnv rfl rfl ?_)
      refine AWP.cond_dec rfl (fun h => ?_) (fun h => AWP.skip ⟨0, by decide, (tl9 rfl rfl rfl rfl rfl rfl rfl rfl rfl), .refl _⟩)
      have hi : Z.length < m.length := by have h0 : (Z.length : Int) < (M.length : Int) := h; omega
      have hiM : Z.length < M.length := by omega
      have hr2 := hmr _ hi
      generalize m[Z.length] = gx at hr2
      repeat (first | refine rg ?_ | refine ZA (z := ?_) | refine ZF (z := ?_) | refine ZM (z := ?_))
      refine cle rfl rfl (mod_ok gx 5 (by decide) (by decide) _) ?_
      repeat (first | refine nl ?_ | refine sm rfl ?_)
      obtain ⟨g, hg1', hg2'⟩ : ∃ g : Nat, gx % 5 = (g : Int) ∧ g < 5 := ⟨(gx % 5).toNat, by omega, by omega⟩
      rw [hg1']
      exact ⟨g, hg2', (tl9 rfl rfl rfl rfl rfl rfl rfl rfl rfl), .refl _⟩
    intro g hg5
    repeat (refine AWP.seq ?_)
    refine rg ?_
    repeat (refine sm rfl ?_)
    refine bsh (cs := [.str [32], .str [9, 32], .str [10], .str [32, 47, 47, 32, 97, 32, 42, 32, 49, 98, 32, 36, 10], .str [13, 10]]) rfl rfl rfl rfl rfl ?_
    have hG : ∃ G, chunk (0 + 1) 5 [AV.str [32], .str [9, 32], .str [10], .str [32, 47, 47, 32, 97, 32, 42, 32, 49, 98, 32, 36, 10], .str [13, 10]] = G ∧ G.length = 5 ∧ G[g]? = some [AV.str (gap g)] := by
      refine ⟨_, rfl, rfl, ?_⟩
      have : g = 0 ∨ g = 1 ∨ g = 2 ∨ g = 3 ∨ g = 4 := by omega
      rcases this with rfl | rfl | rfl | rfl | rfl <;> rfl
    obtain ⟨G, hG1, hG2, hG3⟩ := hG
    rw [hG1]
    have hgG : g < G.length := by omega
    have hgl := gap_len g
    repeat (first | refine ZA (z := ?_) | refine ZF (z := ?_) | refine ZM (z := ?_))
    refine sad rfl rfl rfl (by omega) ?_
    repeat (refine sm rfl ?_)
    refine nl ?_
    refine AWP.seq ?_
    refine AWP.cutK (α := Unit) (fun _ => [(12, .cptr o12 4 0 0), (30, .int .i64 (Z.length : Int)), (29, .int .i64 (X.length : Int)), (28, .view 4 X .shared), (8, .str (gtext Z ++ gap g)), (9, .int .i64 ((gline 1 Z + gapNl g : Nat) : Int)), (10, .view 4 ((gwant 1 Z).map tokRow) (.own tk 36)), (1, .view 1 M .shared)]) (fun _ => (st.addTok tk).set o12 (.cells 36 4 [tokRow tt])) (fun _ => True) ?_ ?_
    · repeat (first | refine nl ?_ | refine AWP.seq ?_ | refine rg ?_ | refine sm rfl ?_)
      refine AWP.cond_dec rfl (fun h => ?_) (fun h => AWP.skip ?_)
      · have h2 : 2 ≤ g := by have h0 : (2 : Int) ≤ (g : Int) := h; omega
        repeat (first | refine nl ?_ | refine rg ?_ | refine sm rfl ?_ | refine inc rfl rfl rfl (by omega) ?_)
        refine ⟨(), trivial, ?_, .refl _⟩
        rw [gapNl, if_pos h2]
        exact (tl8 rfl rfl rfl rfl rfl rfl rfl rfl)
      · have h2 : ¬ 2 ≤ g := fun h0 => h (by show (2 : Int) ≤ (g : Int); omega)
        refine ⟨(), trivial, ?_, .refl _⟩
        rw [gapNl, if_neg h2]
        exact (tl8 rfl rfl rfl rfl rfl rfl rfl rfl)
    intro _ _
    repeat (first | refine AWP.seq ?_ | refine rg ?_ | refine sm rfl ?_ | refine fa rfl rfl ?_)
    refine so1 (row' := tokRow { tt with line := gline 1 Z + gapNl g }) rfl rfl rfl rfl rfl (Nat.le_of_ble_eq_true rfl) rfl ?_
    repeat (first | refine nl ?_ | refine AWP.seq ?_ | refine rg ?_ | refine sm rfl ?_ | refine lcW rfl rfl rfl (St.obj_set _ _ _) rfl rfl ?_ | refine bs1 rfl rfl rfl rfl rfl rfl ?_)
    refine ap rfl rfl rfl (St.tok_addTok _ _) rfl (by simp only [List.length_cons, List.length_nil, List.length_map]; omega) (by simp only [List.length_cons, List.length_nil, List.length_map, maxLen]; omega) fun tk' htk2 => ?_
    have hm : (gwant 1 Z).map tokRow ++ [(AV.agg (tokRow { tt with line := gline 1 Z + gapNl g })).cells] = (gwant 1 (Z ++ [(g, tt)])).map tokRow := by rw [gwant_snoc, List.map_append]; rfl
    have hst2 : ∀ (c : AObj), (((st.addTok tk).set o12 c).untok tk).addTok tk' = (((st.addTok tk).untok tk).addTok tk').set o12 c := fun _ => rfl
    have htk3 : st.tok tk' = false := St.tok_of_add (st := st) htk2
    have e1 : gtext (Z ++ [(g, tt)]) = (gtext Z ++ gap g) ++ wordOf tt := by rw [gtext_snoc, List.append_assoc]
    have e2 : wordOf { tt with line := gline 1 Z + gapNl g } = wordOf tt := rfl
    rw [hst2]
    repeat (first | refine nl ?_ | refine rg ?_ | refine sm rfl ?_ | refine lcW rfl rfl rfl (St.obj_set _ _ _) rfl rfl ?_)
    refine cle rfl rfl (word_ok { tt with line := gline 1 Z + gapNl g } hb2 _) ?_
    rw [e2]
    refine sad rfl rfl rfl (by simp only [List.length_append]; omega) ?_
    repeat (first | refine nl ?_ | refine rg ?_ | refine sm rfl ?_ | refine inc rfl rfl rfl (by omega) ?_)
    refine ⟨(Z ++ [(g, tt)], tk'), ⟨?_, ?_, ?_, htk3⟩, ?_, ?_, ?_⟩
    · simp only [List.map_append, List.length_append, List.length_cons, List.length_nil, List.map_cons, List.map_nil]
      rw [htk', g1]
    · intro y hy
      rcases List.mem_append.1 hy with h1 | h1
      · exact g2 y h1
      · rw [List.mem_singleton.1 h1]
        exact hg5
    · simp only [List.length_append, List.length_cons, List.length_nil]
      omega
    · simp only [List.length_append, List.length_cons, List.length_nil]
      omega
    · simp only [e1, gline_snoc, ← hm, List.length_append, List.length_cons, List.length_nil]
      exact (tl7 rfl rfl rfl rfl rfl rfl rfl)
    · exact StLe.new (st := ((st.addTok tk).untok tk).addTok tk') ho12 (StLe.reTok g4 tk')
  · have hk : Z.length = ts.length := by have h0 : ¬ (Z.length : Int) < (X.length : Int) := h; omega
    rw [hk, List.take_length, hts] at g1
    have hfin := gaps_scan ts0 l0 Z hg hlen g1 g2
    have hsc2 := scan_ok (gtext Z) (st.addTok tk) hg1 hg0
    generalize scan (gtext Z) = q2 at hfin hsc2
    obtain ⟨ts2, line2, e2⟩ := q2
    simp only [scanV] at hsc2
    repeat (first | refine AWP.seq ?_ | refine rg ?_ | refine sm rfl ?_)
    refine cle rfl rfl hsc2 ?_
    repeat (first | refine nl ?_ | refine AWP.seq ?_ | refine rg ?_ | refine sm rfl ?_ | refine lns rfl rfl ?_)
    refine AWP.cond_dec rfl (fun h => ?_) (fun h => AWP.skip ?_)
    · have h4 : 4000 < (gtext Z).length := by have h0 : (4000 : Int) < ((gtext Z).length : Int) := h; omega
      rw [if_pos h4] at hfin
      cases hfin
      repeat (first | refine AWP.seq ?_ | refine rg ?_ | refine sm rfl ?_)
      refine AOps.split 76 rfl (fun _ => ?_) (fun h => absurd rfl h)
      skip
      refine cle rfl rfl (known_ok _ hg1 hg0) ?_
      repeat (first | refine nl ?_ | refine sm rfl ?_)
      exact AWP.ret (rets rfl (.refl _) (StLe.addTok _ (.refl _)) rfl)
    · have h4 : ¬ 4000 < (gtext Z).length := fun h0 => h (by show (4000 : Int) < ((gtext Z).length : Int); omega)
      rw [if_neg h4] at hfin
      cases hfin
      repeat (first | refine AWP.seq ?_ | refine rg ?_ | refine sm rfl ?_)
      refine AOps.split 81 rfl (fun _ => ?_) (fun h => absurd rfl h)
      skip
      refine cle rfl rfl (same_ok (gwant 1 Z) .shared (.own tk 36) (by omega) _) ?_
      repeat (refine sm rfl ?_)
      refine AOps.splitB 86 rfl (fun _ => ?_) (fun h => absurd h (by decide))
      skip
      refine cle rfl rfl (known_ok _ hg1 hg0) ?_
      repeat (first | refine nl ?_ | refine sm rfl ?_)
      exact AWP.ret (rets rfl (.refl _) (StLe.addTok _ (.refl _)) rfl)
end Go.Proofs
