/- The same rules, their premises paid by themselves. No conditions: lemmas only. -/
import Derived.Test.YtmpifmapdmhgkaaDoorB3
namespace Go.AM
section
variable {P : Program} {n : Nat} {K : Post} {E : EPost} {T : Tmps} {st : St} {ops : Array Oper} {rest : List Oper}
variable {ty ty2 : TypeId} {pos pos2 : String} {es es2 : Array Edge} {gd : Option (Nat × Bool)} {d : Tmp} {x y : Operand} {dd : Option Tmp}
theorem ZA {o : Oper} {d : Tmp} {v : AV} (h : step1 ops n st T o = some (d, v) := by exact rfl) (z : AOps P n ops rest K E ((d, v) :: T) st) : AOps P n ops (o :: rest) K E T st := sm h z
theorem ZB {o : Oper} {d : Tmp} (h : step0 ops n T o = some d := by exact rfl) (z : AOps P n ops rest K E ((d, .lit undef) :: T) st) : AOps P n ops (o :: rest) K E T st := uw h z
theorem ZC {t ft : TypeId} {f off : Nat} [hf : Fld P t f off ft] {sz by_ : Nat} {zz : Value} [hi : Inf P ft (sz + 1) by_ zz] {q : AV} (hg : goes ops n T ⟨dd, .fieldAddr t x f, ty, pos, es, gd⟩ = some d := by exact rfl)
    (hx : ptrA off (ev st T x) = some q := by exact rfl)
    (z : AOps P n ops rest K E ((d, q) :: T) st) : AOps P n ops (⟨dd, .fieldAddr t x f, ty, pos, es, gd⟩ :: rest) K E T st := fa hg hx z
theorem ZD {t : TypeId} {td : TypeDesc} [hu : Und P t td] {sz by_ : Nat} {zz : Value} [hi : Inf P t sz by_ zz] {s : Nat} {rows : List (List AV)} {i : Nat} {row : List AV}
    (hg : goes ops n T ⟨dd, .load t x, ty, pos, es, gd⟩ = some d := by exact rfl) (ha : aggD td = true := by exact rfl) (hx : ev st T x = some (.eptr s rows i 0) := by exact rfl) (hr : rows[i]? = some row := by first | exact rfl | assumption) (hl : Nat.beq sz row.length = true := by exact rfl)
    (z : AOps P n ops rest K E ((d, .agg row) :: T) st) : AOps P n ops (⟨dd, .load t x, ty, pos, es, gd⟩ :: rest) K E T st := leW hg ha hx hr hl z
theorem ZE {t : TypeId} {td : TypeDesc} [hu : Und P t td] {sz by_ : Nat} {zz : Value} [hi : Inf P t sz by_ zz] {o s : Nat} {rows : List (List AV)} {i : Nat} {row : List AV} {oty : TypeId}
    (hg : goes ops n T ⟨dd, .load t x, ty, pos, es, gd⟩ = some d := by exact rfl) (ha : aggD td = true := by exact rfl) (hx : ev st T x = some (.cptr o s i 0) := by exact rfl) (ho : st.obj o = some (.cells oty s rows) := by first | exact St.obj_set _ _ _ | (rename_i hle; exact hle.obj _ _ (St.obj_set _ _ _)) | (rename_i hle; exact hle.obj _ _ (by assumption))) (hr : rows[i]? = some row := by exact rfl) (hl : Nat.beq sz row.length = true := by exact rfl)
    (z : AOps P n ops rest K E ((d, .agg row) :: T) st) : AOps P n ops (⟨dd, .load t x, ty, pos, es, gd⟩ :: rest) K E T st := lcW hg ha hx ho hr hl z
theorem ZF {t : TypeId} {td : TypeDesc} [hu : Und P t td] {sz by_ : Nat} {zz : Value} [hi : Inf P t sz by_ zz] {s : Nat} {rows : List (List AV)} {i off : Nat} {row : List AV} {v : AV}
    (hg : goes ops n T ⟨dd, .load t x, ty, pos, es, gd⟩ = some d := by exact rfl) (hx : ev st T x = some (.eptr s rows i off) := by exact rfl) (hr : rows[i]? = some row := by first | exact rfl | assumption) (hv : sel (aggD td) sz row off = some v := by exact rfl)
    (z : AOps P n ops rest K E ((d, v) :: T) st) : AOps P n ops (⟨dd, .load t x, ty, pos, es, gd⟩ :: rest) K E T st := le hg hx hr hv z
theorem ZH {t : TypeId} {td : TypeDesc} [hu : Und P t td] {sz by_ : Nat} {zz : Value} [hi : Inf P t sz by_ zz] {o s : Nat} {rows : List (List AV)} {i off : Nat} {row : List AV} {v : AV} {oty : TypeId}
    (hg : goes ops n T ⟨dd, .load t x, ty, pos, es, gd⟩ = some d := by exact rfl) (hx : ev st T x = some (.cptr o s i off) := by exact rfl) (ho : st.obj o = some (.cells oty s rows) := by first | exact St.obj_set _ _ _ | assumption | (rename_i hle; exact hle.obj _ _ (St.obj_set _ _ _)) | (rename_i hle; exact hle.obj _ _ (by assumption))) (hr : rows[i]? = some row := by first | exact rfl | assumption) (hv : sel (aggD td) sz row off = some v := by exact rfl)
    (z : AOps P n ops rest K E ((d, v) :: T) st) : AOps P n ops (⟨dd, .load t x, ty, pos, es, gd⟩ :: rest) K E T st := lc hg hx ho hr hv z
theorem ZJ {t u : TypeId} {e : TypeId} [hu : Und P t (.slice e)] {sz : Nat} {rows : List (List AV)} {tk : Tok}
    (hg : goes ops n T ⟨dd, .call ⟨.builtin .len, #[x], #[t]⟩, u, pos, es, gd⟩ = some d := by exact rfl) (hx : ev st T x = some (.view sz rows tk) := by exact rfl)
    (z : AOps P n ops rest K E ((d, .int .i64 rows.length) :: T) st) : AOps P n ops (⟨dd, .call ⟨.builtin .len, #[x], #[t]⟩, u, pos, es, gd⟩ :: rest) K E T st := lnv hg hx z
theorem ZM {t e : TypeId} [hu : Und P t (.slice e)] {sz by_ : Nat} {zz : Value} [hi : Inf P e sz by_ zz] {rows : List (List AV)} {tk : Tok} {k : IntKind} {i : Int} {m : Nat}
    (hg : goes ops n T ⟨dd, .indexAddr t x y, ty, pos, es, gd⟩ = some d := by exact rfl) (hx : ev st T x = some (.view sz rows tk) := by exact rfl) (hy : ev st T y = some (.int k i) := by exact rfl)
    (hm : i = m := by first | exact rfl | exact (rfl : (0 : Int) = ((0 : Nat) : Int)) | exact (rfl : (1 : Int) = ((1 : Nat) : Int)) | exact (rfl : (2 : Int) = ((2 : Nat) : Int)) | exact (rfl : (3 : Int) = ((3 : Nat) : Int)) | exact (rfl : (4 : Int) = ((4 : Nat) : Int)) | exact (rfl : (5 : Int) = ((5 : Nat) : Int)) | exact (rfl : (6 : Int) = ((6 : Nat) : Int)))
    (hlt : m < rows.length := by first | assumption | exact of_decide_eq_true rfl)
    (z : AOps P n ops rest K E ((d, .eptr sz rows m 0) :: T) st) : AOps P n ops (⟨dd, .indexAddr t x y, ty, pos, es, gd⟩ :: rest) K E T st := ix hg hx hy hm hlt z
theorem ZO {t u : TypeId} {a : Nat} (hg : goes ops n T ⟨dd, .binOp .add t x y u, ty, pos, es, gd⟩ = some d := by exact rfl)
    (hx : ev st T x = some (.int .i64 (a : Int)) := by exact rfl) (hy : ev st T y = some (.int .i64 1) := by exact rfl) (hc : a < 9223372036854775807 := by omega)
    (z : AOps P n ops rest K E ((d, .int .i64 ((a + 1 : Nat) : Int)) :: T) st) : AOps P n ops (⟨dd, .binOp .add t x y u, ty, pos, es, gd⟩ :: rest) K E T st := inc hg hx hy hc z
theorem ZQ {t e : TypeId} {esz eby : Nat} {ez : Value} {v : AV} [hu : Und P t (.slice e)] [hie : Inf P e (esz + 1) eby ez] (hg : goes ops n T ⟨dd, .buildSlice t 1 #[(0, x)], ty, pos, es, gd⟩ = some d := by exact rfl)
    (hz : zok (esz + 1) ez = true := by exact rfl) (hsm : Nat.ble (1 * (esz + 1)) 16777216 = true := by exact rfl) (hx : ev st T x = some v := by exact rfl) (hl : Nat.beq v.cells.length (esz + 1) = true := by exact rfl) (hv : storable v = true := by exact rfl)
    (z : AOps P n ops rest K E ((d, .view (esz + 1) [v.cells] .shared) :: T) st) : AOps P n ops (⟨dd, .buildSlice t 1 #[(0, x)], ty, pos, es, gd⟩ :: rest) K E T st := bs1 hg hz hsm hx hl hv z
theorem ZR {t : TypeId} {v : AV} {sz : Nat} (hg : goes ops n T ⟨dd, .box t x, ty, pos, es, gd⟩ = some d := by exact rfl) (hx : ev st T x = some v := by exact rfl) (hv : storable v = true := by exact rfl) (hsz : v.cells.length = sz := by exact rfl)
    (z : AOps P n ops rest K E ((d, .eptr sz [v.cells] 0 0) :: T) st) : AOps P n ops (⟨dd, .box t x, ty, pos, es, gd⟩ :: rest) K E T st := bxe hg hx hv hsz z
theorem ZY {t : TypeId} [hu : Und P t .string] {l : List UInt8} {k : IntKind} {a : Nat} (hg : goes ops n T ⟨dd, .slice t x (some y) none none, ty, pos, es, gd⟩ = some d := by exact rfl)
    (hx : ev st T x = some (.str l) := by exact rfl) (hy : ev st T y = some (.int k (a : Int)) := by exact rfl) (ha : a ≤ l.length := by omega)
    (z : AOps P n ops rest K E ((d, .str (l.drop a)) :: T) st) : AOps P n ops (⟨dd, .slice t x (some y) none none, ty, pos, es, gd⟩ :: rest) K E T st := ssl hg hx hy ha z
theorem ZZ {t : TypeId} [hu : Und P t .string] {l : List UInt8} {k : IntKind} {b : Nat} (hg : goes ops n T ⟨dd, .slice t x none (some y) none, ty, pos, es, gd⟩ = some d := by exact rfl)
    (hx : ev st T x = some (.str l) := by exact rfl) (hy : ev st T y = some (.int k (b : Int)) := by exact rfl) (hb : b ≤ l.length := by omega)
    (z : AOps P n ops rest K E ((d, .str (l.take b)) :: T) st) : AOps P n ops (⟨dd, .slice t x none (some y) none, ty, pos, es, gd⟩ :: rest) K E T st := ssh hg hx hy hb z
theorem YA {t : TypeId} {sz by_ : Nat} {zz : Value} [hi : Inf P t sz by_ zz] {v : AV} (hg : goes ops n T ⟨dd, .alloc t, ty, pos, es, gd⟩ = some d := by exact rfl) (hz : zok sz zz = true := by exact rfl) (hy : ∀ o, ev (st.set o (.cells t sz [zrow zz])) ((d, .cptr o sz 0 0) :: T) y = some v := by exact fun _ => rfl)
    (hv : storable v = true := by exact rfl) (hsz : Nat.beq v.cells.length sz = true := by exact rfl)
    (z : AOps P n ops rest K E ((d, .eptr sz [v.cells] 0 0) :: T) st) :
    AOps P n ops (⟨dd, .alloc t, ty, pos, es, gd⟩ :: ⟨none, .store t (.tmp d) y, ty2, pos2, es2, none⟩ :: rest) K E T st := alN hg hz hy hv hsz z
theorem YB {t : TypeId} {sz by_ : Nat} {zz : Value} [hi : Inf P t sz by_ zz] {o s : Nat} {off : Nat} {row row' : List AV} {v : AV} {oty : TypeId}
    (hw : wantedA ops T ⟨none, .store t x y, ty, pos, es, gd⟩ = some true := by exact rfl) (hx : ev (st.set o (.cells oty s [row])) T x = some (.cptr o s 0 off) := by exact rfl) (hy : ev (st.set o (.cells oty s [row])) T y = some v := by exact rfl)
    (hv : storable v = true := by exact rfl) (hsz : Nat.beq v.cells.length sz = true := by exact rfl) (hle : off + v.cells.length ≤ row.length := by assumption) (he : rowSet row off v.cells = row' := by assumption)
    (z : AOps P n ops rest K E T (st.set o (.cells oty s [row']))) : AOps P n ops (⟨none, .store t x y, ty, pos, es, gd⟩ :: rest) K E T (st.set o (.cells oty s [row])) := so1 hw hx hy hv hsz hle he z
theorem YC {f : FuncId} [hf : GoFun P f] {args : Array Operand} {tys : Array TypeId} {avs : List AV} {X : AV}
    (hg : goes ops n T ⟨dd, .call ⟨.value (.func f), args, tys⟩, ty, pos, es, gd⟩ = some d := by exact rfl) (ha : evs st T args.toList = some avs := by exact rfl)
    (hc : PureFn P f avs X := by exact inferInstance) (z : AOps P n ops rest K E ((d, X) :: T) st) :
    AOps P n ops (⟨dd, .call ⟨.value (.func f), args, tys⟩, ty, pos, es, gd⟩ :: rest) K E T st := clp hg ha hc z
theorem YD {o : Oper} {t : Nat} {b : Bool} (h : gtmp ops T o = some (t, b) := by exact rfl) (hb : b = true := by (fail_if_success rfl); first | assumption | exact decide_eq_true (by assumption) | exact decide_eq_true rfl | exact decide_eq_true (by omega)) (z : AOps P n ops (o :: rest) K E ((t, .bool true) :: T) st) : AOps P n ops (o :: rest) K E T st := gB true h hb z
theorem YE {o : Oper} {t : Nat} {b : Bool} (h : gtmp ops T o = some (t, b) := by exact rfl) (hb : b = false := by (fail_if_success rfl); first | assumption | exact decide_eq_false (by assumption) | exact decide_eq_false (by omega)) (z : AOps P n ops (o :: rest) K E ((t, .bool false) :: T) st) : AOps P n ops (o :: rest) K E T st := gB false h hb z
theorem YH {c : Operand} {x y : Code} {b : Bool} (hc : ev st T c = some (.bool b) := by exact rfl) (hb : b = true := by first | exact rfl | assumption | exact decide_eq_true (by assumption) | exact decide_eq_true rfl | exact decide_eq_true (by omega)) (z : AWP P n x K E T st) : AWP P n (.cond c x y) K E T st := cT hc hb z
theorem YI {c : Operand} {x y : Code} {b : Bool} (hc : ev st T c = some (.bool b) := by exact rfl) (hb : b = false := by first | exact rfl | assumption | exact decide_eq_false (by assumption) | exact decide_eq_false (by omega)) (z : AWP P n y K E T st) : AWP P n (.cond c x y) K E T st := cF hc hb z
theorem YJ {t u : TypeId} {a b : Int} (hg : goes ops n T ⟨dd, .binOp .add t x y u, ty, pos, es, gd⟩ = some d := by exact rfl)
    (hx : ev st T x = some (.int .i64 a) := by exact rfl) (hy : ev st T y = some (.int .i64 b) := by exact rfl) (hc : -9223372036854775808 ≤ a + b ∧ a + b < 9223372036854775808 := by omega)
    (z : AOps P n ops rest K E ((d, .int .i64 (a + b)) :: T) st) : AOps P n ops (⟨dd, .binOp .add t x y u, ty, pos, es, gd⟩ :: rest) K E T st := Go.AM.ad hg hx hy hc z
theorem YK {t u : TypeId} {a b : Int} (hg : goes ops n T ⟨dd, .binOp .sub t x y u, ty, pos, es, gd⟩ = some d := by exact rfl)
    (hx : ev st T x = some (.int .i64 a) := by exact rfl) (hy : ev st T y = some (.int .i64 b) := by exact rfl) (hc : -9223372036854775808 ≤ a - b ∧ a - b < 9223372036854775808 := by omega)
    (z : AOps P n ops rest K E ((d, .int .i64 (a - b)) :: T) st) : AOps P n ops (⟨dd, .binOp .sub t x y u, ty, pos, es, gd⟩ :: rest) K E T st := Go.AM.sb hg hx hy hc z
theorem nz {v : AV} : AOps P n ops [] (fun T' st'' => ∃ u, T' = (d, u) :: T ∧ (u = v ∧ st'' = st)) E ((d, v) :: T) st := nl ⟨_, rfl, rfl, rfl⟩
theorem dp {e : Nat} {Φ : AV → St → Prop} {i : Nat} {o : Oper} {r : List Oper} {d : Tmp} {v : AV} {k : Tmps → Prop} (hi : Nat.beq i e = false := by exact rfl) (hd : dstA n o.dst = some d := by exact rfl) (hw : wantedA ops (see ops o T) o = some true := by exact rfl)
    (h : ∀ st', StLe st' st.notok → AOps P n ops [o] (fun T' st'' => ∃ u, T' = (d, u) :: see ops o T ∧ (u = v ∧ st'' = st')) (fun _ _ _ => False) (see ops o T) st')
    (z : DRun P n st ops e Φ (i + 1) r ((d, v) :: T) k) : DRun P n st ops e Φ i (o :: r) T k := dq hi hd hw h z
end
end Go.AM
/- The generator's small functions: Mod, tape.next, tape.more, number, literal, variable. No conditions: definitions and lemmas only. -/
namespace Go.AM
/-- What is known behind the first part of two. -/
theorem AWP.cut {P : Program} {n : Nat} {K : Post} {E : EPost} {T : Tmps} {st : St} {x y : Code} (p : Prop) (T' : Tmps) (st' : St) (h : AWP P n x (fun T1 st1 => TLe T1 T' ∧ StLe st1 st' ∧ p) E T st) (k : p → AWP P n y K E T' st') : AWP P n (.seq x y) K E T st :=
  AWP.seq (h.mono (fun _ _ h => AWP.weaken h.1 h.2.1 (k h.2.2)) (fun _ _ _ h => h))
end Go.AM
namespace Go.Proofs
open Go.AM
attribute [local irreducible] AWP AOps ACalls
set_option linter.unusedSimpArgs false

theorem g_tmod_gt (n k : Int) (hk : 0 < k) : -k < n.tmod k := by
  have := Int.tmod_lt_of_pos (-n) hk
  rw [Int.neg_tmod] at this
  omega

theorem g_mod_rem (n k : Int) (hk : 0 < k) : n % k = if n.tmod k < 0 then n.tmod k + k else n.tmod k := by
  have h1 : n % k = n.tmod k % k := by
    conv => lhs; rw [← Int.tmod_add_mul_tdiv n k]
    rw [Int.add_mul_emod_self_left]
  have h2 := Int.tmod_lt_of_pos n hk
  have h3 := g_tmod_gt n k hk
  rw [h1]
  split
  · rw [← Int.add_emod_right, Int.emod_eq_of_lt (by omega) (by omega)]
  · exact Int.emod_eq_of_lt (by omega) (by omega)

theorem g_mod_ok (n k : Int) (hk : 0 < k) (hk2 : k ≤ 4611686018427387904) (st : St) : ACalls Tryd.prog 14 [.int .i64 n, .int .i64 k] st (fun v st' => v = .int .i64 (n % k) ∧ st' = st) (fun _ _ => False) := by
  refine ACalls.ofBody Tryd.func14 rfl Tryd.ntmps14 rfl ?_
  have hm := g_mod_rem n k hk
  repeat (first | refine nl ?_ | refine AWP.seq ?_ | refine rg ?_ | refine ZA (z := ?_))
  refine rm rfl rfl rfl (by omega) ?_
  repeat (first | refine nl ?_ | refine AWP.seq ?_ | refine rg ?_ | refine ZA (z := ?_))
  refine AWP.cond_dec rfl (fun h => ?_) (fun h => AWP.skip ?_)
  · rw [if_pos h] at hm
    have h3 := g_tmod_gt n k hk
    have h4 := Int.tmod_lt_of_pos n hk
    repeat (first | refine rg ?_ | refine ZA (z := ?_))
    refine Go.AM.ad rfl rfl rfl (by omega) ?_
    repeat (first | refine nl ?_ | refine AWP.seq ?_ | refine rg ?_ | refine ZA (z := ?_))
    refine AWP.ret (rets rfl (.refl _) (.refl _) ⟨?_, rfl⟩)
    rw [hm]
    rfl
  · rw [if_neg h] at hm
    repeat (first | refine nl ?_ | refine AWP.seq ?_ | refine rg ?_ | refine ZA (z := ?_))
    refine AWP.ret (rets rfl (.refl _) (.refl _) ⟨?_, rfl⟩)
    rw [hm]
    rfl

theorem St.ext3 {a b : St} (h1 : a.obj = b.obj) (h2 : a.tok = b.tok) (h3 : a.glob = b.glob) : a = b := by
  cases a; cases b; simp only at h1 h2 h3; subst h1 h2 h3; rfl
/-- The tape: the numbers, and how many are read. -/
def tapeRow (l : List Int) (i : Nat) : List AV := [.view 1 (l.map fun x => [.int .i64 x]) .shared, .int .i64 (i : Int)]
def tapeC (l : List Int) (i : Nat) : AObj := .cells 69 2 [tapeRow l i]
theorem next_ok (l : List Int) (hl : l.length ≤ 17592186043904) (i : Nat) (hi : i ≤ l.length) (k : Int) (hk : 0 < k) (hk2 : k ≤ 4611686018427387904) (o : Nat) (st : St) (ho : st.obj o = some (tapeC l i)) :
    ACalls Tryd.prog 28 [.cptr o 2 0 0, .int .i64 k] st (fun v st' => ∃ n : Int, v = .int .i64 n ∧ 0 ≤ n ∧ n < k ∧ ∃ j : Nat, j ≤ l.length ∧ st' = st.set o (tapeC l j)) (fun _ _ => False) := by
  refine ACalls.ofBody Tryd.func28 rfl Tryd.ntmps28 rfl ?_
  have ll : (l.map fun x => [AV.int .i64 x]).length = l.length := List.length_map ..
  have e0 : st.set o (tapeC l i) = st := by
    refine St.ext3 (funext fun p => ?_) rfl rfl
    simp only [St.set]
    by_cases e : p = o
    · subst e; simp [ho]
    · simp [e]
  rw [← e0]
  repeat (refine AWP.seq ?_)
  refine rg ?_
  repeat (refine ZA (z := ?_))
  repeat (first | refine nl ?_ | refine AWP.seq ?_)
  refine AWP.draw rfl 10 10 (fun _ _ => False) rfl ?_
  repeat (first | refine ds rfl rfl ?_ | refine dp (h := fun _ _ => ZC (z := nz)) (z := ?_) | refine dp (h := fun _ _ => ZJ (z := nz)) (z := ?_) | refine dp (h := fun _ _ => ZH (z := nz)) (z := ?_))
  refine dn ⟨fun _ => ?_, fun h => absurd h (by decide)⟩
  rw [ll]
  repeat (refine nl ?_)
  refine AWP.cond_dec rfl (fun h => ?_) (fun h => AWP.skip ?_)
  · repeat (first | refine nl ?_ | refine AWP.seq ?_ | refine rg ?_ | refine ZA (z := ?_))
    exact AWP.ret (rets rfl (.refl _) (.refl _) ⟨0, rfl, Int.le_refl _, hk, i, hi, (St.set_set _ _ _ _).symm⟩)
  · have hi' : i < l.length := by have h0 : ¬ (l.length : Int) ≤ (i : Int) := h; omega
    repeat (first | refine AWP.seq ?_ | refine rg ?_ | refine ZA (z := ?_) | refine ZC (z := ?_) | refine ZH (z := ?_) | refine ZO (z := ?_))
    refine so1 (row' := tapeRow l (i + 1)) rfl rfl rfl rfl rfl (Nat.le_of_ble_eq_true rfl) rfl ?_
    repeat (first | refine nl ?_ | refine AWP.seq ?_)
    refine AWP.draw rfl 14 14 (fun _ _ => False) rfl ?_
    repeat (first | refine ds rfl rfl ?_ | refine dp (h := fun _ _ => ZC (z := nz)) (z := ?_) | refine dp (h := fun _ _ => ZH (z := nz)) (z := ?_) | refine dp (h := fun _ _ => YK (z := nz)) (z := ?_))
    have hv : (l.map fun x => [AV.int .i64 x])[i]? = some [.int .i64 l[i]] := by rw [List.getElem?_map, List.getElem?_eq_getElem hi']; rfl
    generalize l[i] = x at hv
    refine dq rfl rfl rfl (fun st1 hle => ix (m := i) rfl rfl rfl (by omega) (by rw [ll]; exact hi') (nl ⟨_, rfl, rfl, rfl⟩)) ?_
    repeat (first | refine ds rfl rfl ?_ | refine dp (h := fun _ _ => ZF (z := nz)) (z := ?_))
    refine dq rfl rfl rfl (fun st1 hle => cle rfl rfl (g_mod_ok x k hk hk2 _) (nl ⟨_, rfl, rfl, rfl⟩)) ?_
    repeat (refine ds rfl rfl ?_)
    refine dn ⟨fun _ => ?_, fun h => absurd h (by decide)⟩
    repeat (refine nl ?_)
    exact AWP.ret (rets rfl (.refl _) (.refl _) ⟨x % k, rfl, Int.emod_nonneg _ (by omega), Int.emod_lt_of_pos _ hk, i + 1, hi', (St.set_set _ _ _ _).symm⟩)
end Go.Proofs
/- Steps of a region that draws its order, every operation keeping an invariant. No conditions: lemmas only. -/
namespace Go.AM
section
variable {P : Program} {n : Nat} {T : Tmps} {I : St → Prop} {ops : Array Oper} {Qs : List (AV → Prop)}
/-- A quiet step: the same value in every state of the invariant. -/
theorem diQ {o : Oper} {r : List Oper} {d : Tmp} {v : AV} {k : Tmps → St → Prop} (hd : dstA n o.dst = some d) (hw : wantedA ops (see ops o T) o = some true)
    (h : ∀ st', I st' → AOps P n ops [o] (fun T' st'' => ∃ u, T' = (d, u) :: see ops o T ∧ (u = v ∧ st'' = st')) (fun _ _ _ => False) (see ops o T) st')
    (hr : DRunI P n I ops r Qs ((d, v) :: T) k) : DRunI P n I ops (o :: r) ((fun u => u = v) :: Qs) T k := by
  obtain ⟨hd1, hd2⟩ := dstA_some hd
  have hdn : d < n := dstOk_lt hd2 d hd1
  refine ⟨d, hd1, by simpa using hdn, ⟨v, rfl⟩, .inl ⟨hw, ?_⟩, fun u hu => by subst hu; exact hr⟩
  intro st' g w a K' Q' hI hs hk hn hK
  exact AOps.single hd1 hdn (h st' hI) hw hs hk K' Q' (fun rv g' w' u st'' he hs' hR hu => by obtain ⟨rfl, rfl⟩ := hu; exact hK rv g' w' _ _ he hs' hR rfl hI) hn
/-- A step that leads from the invariant to the invariant, its outcome known by Q. -/
theorem diE (Q : AV → Prop) {o : Oper} {r : List Oper} {d : Tmp} {k : Tmps → St → Prop} (hd : dstA n o.dst = some d) (hw : wantedA ops (see ops o T) o = some true) (hex : ∃ u, Q u)
    (h : ∀ st', I st' → AOps P n ops [o] (fun T' st'' => ∃ u, T' = (d, u) :: see ops o T ∧ (Q u ∧ I st'')) (fun _ _ _ => False) (see ops o T) st')
    (hr : ∀ u, Q u → DRunI P n I ops r Qs ((d, u) :: T) k) : DRunI P n I ops (o :: r) (Q :: Qs) T k := by
  obtain ⟨hd1, hd2⟩ := dstA_some hd
  have hdn : d < n := dstOk_lt hd2 d hd1
  refine ⟨d, hd1, by simpa using hdn, hex, .inl ⟨hw, ?_⟩, hr⟩
  intro st' g w a K' Q' hI hs hk hn hK
  exact AOps.single hd1 hdn (h st' hI) hw hs hk K' Q' (fun rv g' w' u st'' he hs' hR hu => hK rv g' w' _ _ he hs' hR hu.1 hu.2) hn
theorem diN {k : Tmps → St → Prop} (h : ∀ st, I st → k T st) : DRunI P n I ops [] [] T k := h
end
end Go.AM
/- The generator: number, literal, variable. No conditions: definitions and lemmas only. -/
namespace Go.Proofs
open Go.AM
attribute [local irreducible] AWP AOps ACalls
set_option linter.unusedSimpArgs false

def numL : List Int := [0, 1, 2, 3, 5, 7, 4, 10, 100, 1048576, 2147483648, 1099511627776, 999999999999999999, 6, 8, 9]
theorem g_number_ok (l : List Int) (hl : l.length ≤ 17592186043904) (i : Nat) (hi : i ≤ l.length) (o : Nat) (st : St) (ho : st.obj o = some (tapeC l i)) :
    ACalls Tryd.prog 56 [.cptr o 2 0 0] st (fun v st' => ∃ n : Int, v = .int .i64 n ∧ 0 ≤ n ∧ n ≤ 999999999999999999 ∧ ∃ j : Nat, j ≤ l.length ∧ st' = st.set o (tapeC l j)) (fun _ _ => False) := by
  refine ACalls.ofBody Tryd.func56 rfl Tryd.ntmps56 rfl ?_
  repeat (refine AWP.seq ?_)
  refine rg ?_
  repeat (refine ZA (z := ?_))
  repeat (first | refine nl ?_ | refine AWP.seq ?_)
  refine rg ?_
  refine bsh (cs := numL.map (AV.int .i64)) rfl rfl rfl rfl rfl ?_
  repeat (first | refine nl ?_ | refine AWP.seq ?_ | refine rg ?_ | refine ZA (z := ?_) | refine ZJ (z := ?_))
  refine cl rfl rfl (next_ok l hl i hi 16 (by decide) (by decide) o _ ho) fun v st' ⟨n, hv, n0, n1, j, hj, hst⟩ => ?_
  subst hv
  subst hst
  obtain ⟨m, rfl⟩ : ∃ m : Nat, n = (m : Int) := ⟨n.toNat, by omega⟩
  have hm : m < 16 := by omega
  obtain ⟨x, hx, x0, x1⟩ : ∃ x : Int, (chunk (0 + 1) 16 (numL.map (AV.int .i64)))[m]? = some [.int .i64 x] ∧ 0 ≤ x ∧ x ≤ 999999999999999999 := by
    match m, hm with
    | 0, _ => exact ⟨_, rfl, by decide, by decide⟩
    | 1, _ => exact ⟨_, rfl, by decide, by decide⟩
    | 2, _ => exact ⟨_, rfl, by decide, by decide⟩
    | 3, _ => exact ⟨_, rfl, by decide, by decide⟩
    | 4, _ => exact ⟨_, rfl, by decide, by decide⟩
    | 5, _ => exact ⟨_, rfl, by decide, by decide⟩
    | 6, _ => exact ⟨_, rfl, by decide, by decide⟩
    | 7, _ => exact ⟨_, rfl, by decide, by decide⟩
    | 8, _ => exact ⟨_, rfl, by decide, by decide⟩
    | 9, _ => exact ⟨_, rfl, by decide, by decide⟩
    | 10, _ => exact ⟨_, rfl, by decide, by decide⟩
    | 11, _ => exact ⟨_, rfl, by decide, by decide⟩
    | 12, _ => exact ⟨_, rfl, by decide, by decide⟩
    | 13, _ => exact ⟨_, rfl, by decide, by decide⟩
    | 14, _ => exact ⟨_, rfl, by decide, by decide⟩
    | 15, _ => exact ⟨_, rfl, by decide, by decide⟩
  refine ix (m := m) rfl rfl rfl rfl (by exact hm) ?_
  refine Go.AM.le rfl rfl hx rfl ?_
  repeat (first | refine nl ?_ | refine ZA (z := ?_))
  exact AWP.ret (rets rfl (.refl _) (.refl _) ⟨x, rfl, x0, x1, j, hj, rfl⟩)

/-- An expression's cells. -/
def exRow (op num : Int) (name field : List UInt8) (args : AV) : List AV := [.int .i64 op, .int .i64 num, .int .i64 0, .str name, .str field, args]
def nilV : AV := .view 0 [] .nil
def noE : AV := .view 6 [] .shared
theorem ex_nil (op num : Int) (name field : List UInt8) : Le (.agg (exRow op num name field nilV)) (.agg (exRow op num name field noE)) := by
  refine .agg _ _ rfl (fun c hc => by simp only [exRow, List.mem_cons, List.not_mem_nil, or_false] at hc; rcases hc with rfl | rfl | rfl | rfl | rfl | rfl <;> rfl) fun i a b h1 h2 => ?_
  match i, h1, h2 with
  | 0, h1, h2 => cases h1; cases h2; exact .refl _
  | 1, h1, h2 => cases h1; cases h2; exact .refl _
  | 2, h1, h2 => cases h1; cases h2; exact .refl _
  | 3, h1, h2 => cases h1; cases h2; exact .refl _
  | 4, h1, h2 => cases h1; cases h2; exact .refl _
  | 5, h1, h2 => cases h1; cases h2; exact .nilShared 0 6
  | n + 6, h1, _ => cases h1
instance (n : Int) : PureFn Tryd.prog 55 [.int .i64 n] (.agg (exRow 0 n [] [] noE)) where
  out st := by
    refine ACalls.ofBody Tryd.func55 rfl Tryd.ntmps55 rfl ?_
    repeat (refine AWP.seq ?_)
    refine rg ?_
    refine al rfl rfl fun o2 h2 => ?_
    repeat (first | refine nl ?_ | refine AWP.seq ?_)
    refine rg ?_
    repeat (refine ZA (z := ?_))
    refine bds (cs := exRow 0 n [] [] nilV) rfl rfl rfl rfl ?_
    refine soV rfl rfl rfl rfl rfl rfl ?_
    repeat (refine nl ?_)
    exact AWP.ret (rets (resCW rfl (St.obj_set _ _ _) rfl rfl rfl rfl) (ex_nil _ _ _ _) (StLe.new h2 (.refl _)) ⟨rfl, rfl⟩)
instance (s : List UInt8) : PureFn Tryd.prog 30 [.str s] (.agg (exRow 1 0 s [] noE)) where
  out st := by
    refine ACalls.ofBody Tryd.func30 rfl Tryd.ntmps30 rfl ?_
    repeat (refine AWP.seq ?_)
    refine rg ?_
    refine al rfl rfl fun o2 h2 => ?_
    repeat (first | refine nl ?_ | refine AWP.seq ?_)
    refine rg ?_
    repeat (refine ZA (z := ?_))
    refine bds (cs := exRow 1 0 s [] nilV) rfl rfl rfl rfl ?_
    refine soV rfl rfl rfl rfl rfl rfl ?_
    repeat (refine nl ?_)
    exact AWP.ret (rets (resCW rfl (St.obj_set _ _ _) rfl rfl rfl rfl) (ex_nil _ _ _ _) (StLe.new h2 (.refl _)) ⟨rfl, rfl⟩)
/-- An expression of at most so many levels, its strings short, its numbers those of the maker. -/
def GE : Nat → List AV → Prop
  | 0, _ => False
  | d + 1, row => ∃ (op num : Int) (name field : List UInt8) (rows : List (List AV)), row = exRow op num name field (.view 6 rows .shared) ∧ 0 ≤ op ∧ op ≤ 30 ∧ 0 ≤ num ∧ num ≤ 999999999999999999 ∧ name.length ≤ 30 ∧ field.length ≤ 1 ∧
      rows.length ≤ 2 ∧ ∀ r ∈ rows, GE d r
theorem GE_row {d : Nat} {row : List AV} (h : GE d row) : ∃ (op num : Int) (name field : List UInt8) (rows : List (List AV)), row = exRow op num name field (.view 6 rows .shared) := by
  cases d with
  | zero => exact h.elim
  | succ d => obtain ⟨op, num, name, field, rows, rfl, _⟩ := h; exact ⟨_, _, _, _, _, rfl⟩
theorem GE_lit (d : Nat) {n : Int} (h0 : 0 ≤ n) (h1 : n ≤ 999999999999999999) : GE (d + 1) (exRow 0 n [] [] noE) :=
  ⟨0, n, [], [], [], rfl, by decide, by decide, h0, h1, by decide, by decide, by decide, fun r h => by cases h⟩
theorem GE_var (d : Nat) {s : List UInt8} (h : s.length ≤ 30) : GE (d + 1) (exRow 1 0 s [] noE) :=
  ⟨1, 0, s, [], [], rfl, by decide, by decide, by decide, by decide, h, by decide, by decide, fun r h => by cases h⟩
end Go.Proofs
/- The generator: the maker's cells, element and expr. No conditions: definitions and lemmas only. -/
namespace Go.Proofs
open Go.AM
attribute [local irreducible] AWP AOps ACalls
set_option linter.unusedSimpArgs false

/-- The maker's cells. -/
def mkRow (oT : Nat) (f funcs : Int) (pv sv tv av : AV) (count left : Int) : List AV := [.cptr oT 2 0 0, .int .i64 f, .int .i64 funcs, pv, sv, tv, av, .int .i64 count, .int .i64 left]
def mkC (oT : Nat) (f funcs : Int) (pv sv tv av : AV) (count left : Int) : AObj := .cells 73 9 [mkRow oT f funcs pv sv tv av count left]
/-- A list of names. -/
structure NL (v : AV) where
  rows : List (List AV)
  tok : AM.Tok
  is : v = .view 1 rows tok
  len : rows.length ≤ 60
  name : ∀ (i : Nat), i < rows.length → ∃ s : List UInt8, rows[i]? = some [.str s] ∧ s.length ≤ 30
/-- The state while an expression is made. -/
def TI (l : List Int) (oT : Nat) (st s : St) : Prop := ∃ j : Nat, j ≤ l.length ∧ s = st.set oT (tapeC l j)
theorem TI.set {l : List Int} {oT j : Nat} {st : St} (hj : j ≤ l.length) : TI l oT st (st.set oT (tapeC l j)) := ⟨j, hj, rfl⟩
theorem TI.obj {l : List Int} {oT : Nat} {st s : St} (h : TI l oT st s) : ∃ j : Nat, j ≤ l.length ∧ s.obj oT = some (tapeC l j) := by
  obtain ⟨j, hj, rfl⟩ := h
  exact ⟨j, hj, St.obj_set _ _ _⟩
theorem TI.trans {l : List Int} {oT : Nat} {st s s' : St} (h : TI l oT st s) (k : TI l oT s s') : TI l oT st s' := by
  obtain ⟨j, hj, rfl⟩ := h
  obtain ⟨i, hi, rfl⟩ := k
  exact ⟨i, hi, St.set_set _ _ _ _⟩
theorem TI.other {l : List Int} {oT p : Nat} {st s : St} (h : TI l oT st s) (hp : p ≠ oT) : s.obj p = st.obj p := by
  obtain ⟨j, hj, rfl⟩ := h
  exact St.obj_set_ne hp
theorem next_ti (l : List Int) (hl : l.length ≤ 17592186043904) (k : Int) (hk : 0 < k) (hk2 : k ≤ 4611686018427387904) (o : Nat) (st s : St) (h : TI l o st s) :
    ACalls Tryd.prog 28 [.cptr o 2 0 0, .int .i64 k] s (fun v s' => (∃ n : Int, v = .int .i64 n ∧ 0 ≤ n ∧ n < k) ∧ TI l o st s') (fun _ _ => False) := by
  obtain ⟨j, hj, ho⟩ := h.obj
  refine (next_ok l hl j hj k hk hk2 o s ho).mono (fun v s' h' => ?_) (fun _ _ h => h)
  obtain ⟨n, hv, n0, n1, i, hi, hs⟩ := h'
  exact ⟨⟨n, hv, n0, n1⟩, h.trans ⟨i, hi, hs⟩⟩
theorem number_ti (l : List Int) (hl : l.length ≤ 17592186043904) (o : Nat) (st s : St) (h : TI l o st s) :
    ACalls Tryd.prog 56 [.cptr o 2 0 0] s (fun v s' => (∃ n : Int, v = .int .i64 n ∧ 0 ≤ n ∧ n ≤ 999999999999999999) ∧ TI l o st s') (fun _ _ => False) := by
  obtain ⟨j, hj, ho⟩ := h.obj
  refine (g_number_ok l hl j hj o s ho).mono (fun v s' h' => ?_) (fun _ _ h => h)
  obtain ⟨n, hv, n0, n1, i, hi, hs⟩ := h'
  exact ⟨⟨n, hv, n0, n1⟩, h.trans ⟨i, hi, hs⟩⟩
theorem TI.under {l : List Int} {oT p : Nat} {st s : St} {c : AObj} (h : TI l oT st s) (hp : p ≠ oT) : TI l oT (st.set p c) (s.set p c) := by
  obtain ⟨j, hj, rfl⟩ := h
  exact ⟨j, hj, St.set_comm _ (fun e => hp e.symm) _ _⟩
/-- What expr answers. -/
def ExprC (l : List Int) (oT oM : Nat) (st : St) (deep : Int) (d : Nat) : Prop := ∀ st0 s, st0.obj oM = st.obj oM → TI l oT st0 s →
  ACalls Tryd.prog 46 [.cptr oM 9 0 0, .int .i64 deep] s (fun v s' => (∃ row, v = .agg row ∧ GE d row) ∧ TI l oT st0 s') (fun _ _ => False)
set_option maxHeartbeats 4000000 in
theorem element_ok (l : List Int) (hl : l.length ≤ 17592186043904) (oT oM : Nat) (hne : oM ≠ oT) (st0 s : St) (f funcs : Int) (pv sv tv av : AV) (count left : Int) (A : NL av) (hA : 0 < A.rows.length) (hM0 : st0.obj oM = some (mkC oT f funcs pv sv tv av count left)) (h : TI l oT st0 s) (deep : Int) (d : Nat) (hd : ∀ n : Int, 0 ≤ n → n ≤ 999999999999999999 → GE d (exRow 0 n [] [] noE)) (hE : ExprC l oT oM st0 deep d) :
    ACalls Tryd.prog 57 [.cptr oM 9 0 0, .int .i64 deep] s (fun v s' => (∃ row, v = .agg row ∧ GE (d + 1) row) ∧ TI l oT st0 s') (fun _ _ => False) := by
  refine ACalls.ofBody Tryd.func57 rfl Tryd.ntmps57 rfl ?_
  obtain ⟨rows, tok, rfl, rl, rn⟩ := A
  simp only at hA
  repeat (refine AWP.seq ?_)
  refine rg ?_
  refine al rfl rfl fun o4 h4 => ?_
  have o4T : o4 ≠ oT := fun e => by obtain ⟨j, _, hj⟩ := h.obj; rw [e, hj] at h4; cases h4
  have o4M : oM ≠ o4 := fun e => by rw [← e, h.other hne, hM0] at h4; cases h4
  generalize hz : AObj.cells 77 6 [zrow (Value.agg #[.int .i64 0, .int .i64 0, .int .i64 0, .string ⟨#[]⟩, .string ⟨#[]⟩, .slice none 0 0])] = z
  have h1 := h.under (c := z) o4T
  obtain ⟨b1, hb1⟩ : ∃ b1, b1 = st0.set o4 z := ⟨_, rfl⟩
  rw [← hb1] at h1
  have hM1 : b1.obj oM = some (mkC oT f funcs pv sv tv (.view 1 rows tok) count left) := by rw [hb1, St.obj_set_ne o4M]; exact hM0
  have hM : ∀ x, TI l oT b1 x → x.obj oM = some (mkC oT f funcs pv sv tv (.view 1 rows tok) count left) := fun x hx => by rw [hx.other hne]; exact hM1
  generalize s.set o4 z = s1 at h1
  repeat (first | refine nl ?_ | refine AWP.seq ?_)
  apply AWP.drawI (hm := rfl) (k := 14) (I := TI l oT b1) (hI := h1)
  case hok => rfl
  repeat (first | apply diQ (hd := rfl) (hw := rfl) (h := fun st1 hI => lc rfl rfl (hM st1 hI) rfl rfl (nl ⟨_, rfl, rfl, rfl⟩)) | apply diQ (hd := rfl) (hw := rfl) (h := fun _ _ => ZA (z := nz)) | apply diQ (hd := rfl) (hw := rfl) (h := fun _ _ => ZC (z := nz)) | apply diQ (hd := rfl) (hw := rfl) (h := fun _ _ => ZJ (z := nz)))
  apply diE (Q := fun v => ∃ n : Int, v = .int .i64 n ∧ 0 ≤ n ∧ n < (rows.length : Int)) (hd := rfl) (hw := rfl) (hex := ⟨_, 0, rfl, by decide, by omega⟩) (h := fun x hx => cl rfl rfl (next_ti l hl (rows.length : Int) (by omega) (by omega) oT b1 x hx) fun v s' hv => nl ⟨v, rfl, hv⟩)
  rintro v ⟨n, rfl, n0, n1⟩
  refine diN fun s2 h2 => ?_
  obtain ⟨m, rfl⟩ : ∃ m : Nat, n = (m : Int) := ⟨n.toNat, by omega⟩
  obtain ⟨w, hw, wl⟩ := rn m (by omega)
  refine ix (m := m) rfl rfl rfl rfl (by omega) ?_
  refine Go.AM.le rfl rfl hw rfl ?_
  repeat (first | refine nl ?_ | refine AWP.seq ?_ | refine rg ?_ | refine ZA (z := ?_) | refine ZC (z := ?_))
  refine lc rfl rfl (hM s2 h2) rfl rfl ?_
  refine cl rfl rfl (next_ti l hl 3 (by decide) (by decide) oT b1 s2 h2) fun v s3 ⟨⟨c, hv, c0, c1⟩, h3⟩ => ?_
  subst hv
  repeat (first | refine nl ?_ | refine ZA (z := ?_))
  have fin : ∀ x, TI l oT b1 x → ∃ y, TI l oT st0 y ∧ x = y.set o4 z ∧ y.obj o4 = none := fun x ⟨j, hj, hx⟩ => ⟨st0.set oT (tapeC l j), ⟨j, hj, rfl⟩, by rw [hx, hb1, St.set_comm _ o4T], by
    obtain ⟨i, _, hi⟩ := h
    rw [hi, St.obj_set_ne o4T] at h4
    rw [St.obj_set_ne o4T, h4]⟩
  refine AWP.cond_dec rfl (fun h0 => ?_) (fun h0 => AWP.skip ?_)
  · repeat (first | refine AWP.seq ?_ | refine rg ?_ | refine ZA (z := ?_) | refine ZC (z := ?_))
    refine lc rfl rfl (hM s3 h3) rfl rfl ?_
    refine cl rfl rfl (next_ti l hl 3 (by decide) (by decide) oT b1 s3 h3) fun v s4 ⟨⟨e, hv, e0, e1⟩, h4'⟩ => ?_
    subst hv
    repeat (first | refine ZQ (z := ?_) | refine YC (z := ?_))
    refine bds (cs := exRow 3 0 w [] (.view 6 [exRow 0 e [] [] noE] .shared)) rfl rfl rfl rfl ?_
    obtain ⟨y, hy, rfl, y4⟩ := fin s4 h4'
    subst hz
    refine soV rfl rfl rfl rfl rfl rfl ?_
    repeat (refine nl ?_)
    exact AWP.ret (rets (resCW rfl (St.obj_set _ _ _) rfl rfl rfl rfl) (.refl _) (StLe.new y4 (.refl _)) ⟨⟨_, rfl, 3, 0, w, [], _, rfl, by decide, by decide, by decide, by decide, wl, by decide, by simp, fun r hr => by rw [List.mem_singleton] at hr; subst hr; exact hd e e0 (by omega)⟩, hy⟩)
  · repeat (first | refine AWP.seq ?_ | refine rg ?_ | refine ZA (z := ?_))
    refine cl rfl rfl (hE b1 s3 (hM1.trans hM0.symm) h3) fun v s4 ⟨⟨row, hv, hg⟩, h4'⟩ => ?_
    subst hv
    obtain ⟨p1, p2, p3, p4, p5, rfl⟩ := GE_row hg
    repeat (refine ZQ (z := ?_))
    refine bds (cs := exRow 3 0 w [] (.view 6 [exRow p1 p2 p3 p4 (.view 6 p5 .shared)] .shared)) rfl rfl rfl rfl ?_
    obtain ⟨y, hy, rfl, y4⟩ := fin s4 h4'
    subst hz
    refine soV rfl rfl rfl rfl rfl rfl ?_
    repeat (refine nl ?_)
    exact AWP.ret (rets (resCW rfl (St.obj_set _ _ _) rfl rfl rfl rfl) (.refl _) (StLe.new y4 (.refl _)) ⟨⟨_, rfl, 3, 0, w, [], _, rfl, by decide, by decide, by decide, by decide, wl, by decide, by simp, fun r hr => by rw [List.mem_singleton] at hr; subst hr; exact hg⟩, hy⟩)
end Go.Proofs
/- The generator: expr. No conditions: lemmas only. -/
namespace Go.Proofs
open Go.AM
attribute [local irreducible] AWP AOps ACalls
set_option linter.unusedSimpArgs false

set_option maxHeartbeats 4000000 in
theorem expr_step (l : List Int) (hl : l.length ≤ 17592186043904) (oT oM : Nat) (hne : oM ≠ oT) (st0 s : St) (f funcs : Int) (pv sv tv av : AV) (count left : Int) (S : NL sv) (D : NL tv) (A : NL av) (hM0 : st0.obj oM = some (mkC oT f funcs pv sv tv av count left)) (h : TI l oT st0 s) (deep : Int) (d : Nat)
    (d0 : 0 ≤ deep) (d1 : deep < 3) (hE : ExprC l oT oM st0 (deep + 1) (d + 1)) :
    ACalls Tryd.prog 46 [.cptr oM 9 0 0, .int .i64 deep] s (fun v s' => (∃ row, v = .agg row ∧ GE (d + 2) row) ∧ TI l oT st0 s') (fun _ _ => False) := by
  refine ACalls.ofBody Tryd.func46 rfl Tryd.ntmps46 rfl ?_
  obtain ⟨rS, kS, rfl, lS, nS⟩ := S
  obtain ⟨rD, kD, rfl, lD, nD⟩ := D
  obtain ⟨rA, kA, hA, lA, nA⟩ := A
  subst hA
  repeat (refine AWP.seq ?_)
  refine rg ?_
  refine al rfl rfl fun o4 h4 => ?_
  have o4T : o4 ≠ oT := fun e => by obtain ⟨j, _, hj⟩ := h.obj; rw [e, hj] at h4; cases h4
  have o4M : oM ≠ o4 := fun e => by rw [← e, h.other hne, hM0] at h4; cases h4
  generalize hz : AObj.cells 77 6 [zrow (Value.agg #[.int .i64 0, .int .i64 0, .int .i64 0, .string ⟨#[]⟩, .string ⟨#[]⟩, .slice none 0 0])] = z
  have h1 := h.under (c := z) o4T
  obtain ⟨b1, hb1⟩ : ∃ b1, b1 = st0.set o4 z := ⟨_, rfl⟩
  rw [← hb1] at h1
  have hM1 : b1.obj oM = some (mkC oT f funcs pv (.view 1 rS kS) (.view 1 rD kD) (.view 1 rA kA) count left) := by rw [hb1, St.obj_set_ne o4M]; exact hM0
  have hM : ∀ x, TI l oT b1 x → x.obj oM = some (mkC oT f funcs pv (.view 1 rS kS) (.view 1 rD kD) (.view 1 rA kA) count left) := fun x hx => by rw [hx.other hne]; exact hM1
  have fin : ∀ x, TI l oT b1 x → ∃ y, TI l oT st0 y ∧ x = y.set o4 z ∧ y.obj o4 = none := fun x ⟨j, hj, hx⟩ => ⟨st0.set oT (tapeC l j), ⟨j, hj, rfl⟩, by rw [hx, hb1, St.set_comm _ o4T], by
    obtain ⟨i, _, hi⟩ := h
    rw [hi, St.obj_set_ne o4T] at h4
    rw [St.obj_set_ne o4T, h4]⟩
  have hEb : ∀ b, b.obj oM = some (mkC oT f funcs pv (.view 1 rS kS) (.view 1 rD kD) (.view 1 rA kA) count left) → ExprC l oT oM b (deep + 1) (d + 1) := fun b hb st1 x hx hx' => hE st1 x (hx.trans (hb.trans hM0.symm)) hx'
  generalize s.set o4 z = s1 at h1
  repeat (first | refine nl ?_ | refine AWP.seq ?_ | refine rg ?_ | refine ZA (z := ?_) | refine ZC (z := ?_))
  refine lc rfl rfl (hM s1 h1) rfl rfl ?_
  refine cl rfl rfl (next_ti l hl 16 (by decide) (by decide) oT b1 s1 h1) fun v s2 ⟨⟨k, hv, k0, k1⟩, h2⟩ => ?_
  subst hv
  clear h1 h
  have m2 := hM s2 h2
  repeat (refine ZA (z := ?_))
  refine nl ?_
  refine AWP.cut True [(4, .cptr o4 6 0 0), (1, .int .i64 deep), (0, .cptr oM 9 0 0)] s2 ?_ fun _ => ?_
  · repeat (first | refine AWP.seq ?_ | refine AWP.block ?_)
    by_cases c1 : k < 3
    · repeat (first | refine nl ?_ | refine AWP.seq ?_ | refine rg ?_ | refine YH (z := ?_) | refine ZA (z := ?_) | refine ZC (z := ?_) | refine ZH (z := ?_) | refine YE (z := ?_))
      refine cl rfl rfl (number_ti l hl oT b1 s2 h2) fun v s3 ⟨⟨x, hv, x0, x1⟩, h3⟩ => ?_
      subst hv
      repeat (refine YC (z := ?_))
      obtain ⟨y, hy, rfl, y4⟩ := fin s3 h3
      subst hz
      refine soV rfl rfl rfl rfl rfl rfl ?_
      repeat (refine nl ?_)
      exact AWP.ret (rets (resCW rfl (St.obj_set _ _ _) rfl rfl rfl rfl) (.refl _) (StLe.new y4 (.refl _)) ⟨⟨_, rfl, GE_lit (d + 1) x0 x1⟩, hy⟩)
    by_cases c2 : k < 8
    · by_cases c3 : 0 < (rS.length : Int)
      · repeat (first | refine nl ?_ | refine AWP.seq ?_ | refine rg ?_ | refine YH (z := ?_) | refine YI (z := ?_) | refine ZA (z := ?_) | refine ZC (z := ?_) | refine ZJ (z := ?_) | refine ZH (z := ?_) | refine YD (z := ?_) | refine YE (z := ?_))
        apply AWP.drawI (hm := rfl) (k := 14) (I := TI l oT b1) (hI := h2)
        case hok => rfl
        repeat (first | apply diQ (hd := rfl) (hw := rfl) (h := fun st1 hI => lc rfl rfl (hM st1 hI) rfl rfl (nl ⟨_, rfl, rfl, rfl⟩)) | apply diQ (hd := rfl) (hw := rfl) (h := fun _ _ => ZA (z := nz)) | apply diQ (hd := rfl) (hw := rfl) (h := fun _ _ => ZC (z := nz)) | apply diQ (hd := rfl) (hw := rfl) (h := fun _ _ => ZJ (z := nz)))
        apply diE (Q := fun v => ∃ n : Int, v = .int .i64 n ∧ 0 ≤ n ∧ n < (rS.length : Int)) (hd := rfl) (hw := rfl) (hex := ⟨_, 0, rfl, by decide, by omega⟩) (h := fun x hx => cl rfl rfl (next_ti l hl (rS.length : Int) (by omega) (by omega) oT b1 x hx) fun v s' hv => nl ⟨v, rfl, hv⟩)
        rintro v ⟨n, rfl, n0, n1⟩
        refine diN fun s3 h3 => ?_
        obtain ⟨m, rfl⟩ : ∃ m : Nat, n = (m : Int) := ⟨n.toNat, by omega⟩
        obtain ⟨w, hw, wl⟩ := nS m (by omega)
        refine ix (m := m) rfl rfl rfl rfl (by omega) ?_
        refine Go.AM.le rfl rfl hw rfl ?_
        repeat (refine YC (z := ?_))
        obtain ⟨y, hy, rfl, y4⟩ := fin s3 h3
        subst hz
        refine soV rfl rfl rfl rfl rfl rfl ?_
        repeat (refine nl ?_)
        exact AWP.ret (rets (resCW rfl (St.obj_set _ _ _) rfl rfl rfl rfl) (.refl _) (StLe.new y4 (.refl _)) ⟨⟨_, rfl, GE_var (d + 1) wl⟩, hy⟩)
      · repeat (first | refine nl ?_ | refine AWP.seq ?_ | refine rg ?_ | refine AWP.skip ?_ | refine YI (z := ?_) | refine ZA (z := ?_) | refine ZB (z := ?_) | refine ZC (z := ?_) | refine ZJ (z := ?_) | refine ZH (z := ?_) | refine YD (z := ?_) | refine YE (z := ?_))
        exact ⟨(tl3 rfl rfl rfl), .refl _, trivial⟩
    by_cases c4 : k = 8
    · by_cases c5 : 0 < (rD.length : Int)
      · repeat (first | refine nl ?_ | refine AWP.seq ?_ | refine rg ?_ | refine YH (z := ?_) | refine YI (z := ?_) | refine ZA (z := ?_) | refine ZB (z := ?_) | refine ZC (z := ?_) | refine ZJ (z := ?_) | refine ZH (z := ?_) | refine YD (z := ?_) | refine YE (z := ?_))
        apply AWP.drawI (hm := rfl) (k := 24) (I := TI l oT b1) (hI := h2)
        case hok => rfl
        repeat (first | apply diQ (hd := rfl) (hw := rfl) (h := fun st1 hI => lc rfl rfl (hM st1 hI) rfl rfl (nl ⟨_, rfl, rfl, rfl⟩)) | apply diQ (hd := rfl) (hw := rfl) (h := fun _ _ => ZA (z := nz)) | apply diQ (hd := rfl) (hw := rfl) (h := fun _ _ => ZC (z := nz)) | apply diQ (hd := rfl) (hw := rfl) (h := fun _ _ => ZJ (z := nz)))
        apply diE (Q := fun v => ∃ m : Nat, v = .int .i64 (m : Int) ∧ m < rD.length) (hd := rfl) (hw := rfl) (hex := ⟨_, 0, rfl, by omega⟩) (h := fun x hx => cl rfl rfl (next_ti l hl (rD.length : Int) (by omega) (by omega) oT b1 x hx) fun v s' ⟨⟨n, hv, n0, n1⟩, hs⟩ => nl ⟨v, rfl, ⟨n.toNat, by rw [hv, Int.toNat_of_nonneg n0], by omega⟩, hs⟩)
        rintro v ⟨m, rfl, hm⟩
        obtain ⟨q0, hq0, hq0l⟩ := nD m hm
        apply diE (Q := fun v => ∃ m : Nat, v = .eptr 1 rD m 0 ∧ m < rD.length) (hd := rfl) (hw := rfl) (hex := ⟨_, m, rfl, hm⟩) (h := fun x hx => ix (m := m) rfl rfl rfl rfl hm (nl ⟨_, rfl, ⟨m, rfl, hm⟩, hx⟩))
        rintro v ⟨m1, rfl, hm1⟩
        obtain ⟨q1, hq1, hq1l⟩ := nD m1 hm1
        apply diE (Q := fun v => ∃ w : List UInt8, v = .str w ∧ w.length ≤ 30) (hd := rfl) (hw := rfl) (hex := ⟨_, q1, rfl, hq1l⟩) (h := fun x hx => Go.AM.le rfl rfl hq1 rfl (nl ⟨_, rfl, ⟨q1, rfl, hq1l⟩, hx⟩))
        rintro v ⟨w, rfl, wl⟩
        apply diQ (hd := rfl) (hw := rfl) (h := fun x hx => bsh (cs := [.str [120], .str [121]]) rfl rfl rfl rfl rfl (nl ⟨_, rfl, rfl, rfl⟩))
        repeat (first | apply diQ (hd := rfl) (hw := rfl) (h := fun st1 hI => lc rfl rfl (hM st1 hI) rfl rfl (nl ⟨_, rfl, rfl, rfl⟩)) | apply diQ (hd := rfl) (hw := rfl) (h := fun _ _ => ZA (z := nz)) | apply diQ (hd := rfl) (hw := rfl) (h := fun _ _ => ZC (z := nz)))
        apply diE (Q := fun v => ∃ m : Nat, v = .int .i64 (m : Int) ∧ m < 2) (hd := rfl) (hw := rfl) (hex := ⟨_, 0, rfl, by decide⟩) (h := fun x hx => cl rfl rfl (next_ti l hl 2 (by decide) (by decide) oT b1 x hx) fun v s' ⟨⟨n, hv, n0, n1⟩, hs⟩ => nl ⟨v, rfl, ⟨n.toNat, by rw [hv, Int.toNat_of_nonneg n0], by omega⟩, hs⟩)
        rintro v ⟨m2, rfl, hm2⟩
        have fxy : ∀ m, m < 2 → ∃ b : List UInt8, (chunk (0 + 1) 2 [AV.str [120], AV.str [121]])[m]? = some [.str b] ∧ b.length ≤ 1 := fun m hm => match m, hm with
          | 0, _ => ⟨_, rfl, by decide⟩
          | 1, _ => ⟨_, rfl, by decide⟩
        apply diE (Q := fun v => ∃ m : Nat, v = .eptr 1 (chunk (0 + 1) 2 [AV.str [120], AV.str [121]]) m 0 ∧ m < 2) (hd := rfl) (hw := rfl) (hex := ⟨_, m2, rfl, hm2⟩) (h := fun x hx => ix (m := m2) rfl rfl rfl rfl (by exact hm2) (nl ⟨_, rfl, ⟨m2, rfl, hm2⟩, hx⟩))
        rintro v ⟨m3, rfl, hm3⟩
        obtain ⟨b3, hb3, hb3l⟩ := fxy m3 hm3
        apply diE (Q := fun v => ∃ w : List UInt8, v = .str w ∧ w.length ≤ 1) (hd := rfl) (hw := rfl) (hex := ⟨_, b3, rfl, hb3l⟩) (h := fun x hx => Go.AM.le rfl rfl hb3 rfl (nl ⟨_, rfl, ⟨b3, rfl, hb3l⟩, hx⟩))
        rintro v ⟨fw, rfl, fl⟩
        refine diN fun s3 h3 => ?_
        refine bds (cs := exRow 2 0 w fw nilV) rfl rfl rfl rfl ?_
        obtain ⟨y, hy, rfl, y4⟩ := fin s3 h3
        subst hz
        refine soV rfl rfl rfl rfl rfl rfl ?_
        repeat (refine nl ?_)
        exact AWP.ret (rets (resCW rfl (St.obj_set _ _ _) rfl rfl rfl rfl) (ex_nil _ _ _ _) (StLe.new y4 (.refl _)) ⟨⟨_, rfl, 2, 0, w, fw, [], rfl, by decide, by decide, by decide, by decide, wl, fl, by decide, fun r hr => by cases hr⟩, hy⟩)
      · repeat (first | refine nl ?_ | refine AWP.seq ?_ | refine rg ?_ | refine AWP.skip ?_ | refine YI (z := ?_) | refine ZA (z := ?_) | refine ZB (z := ?_) | refine ZC (z := ?_) | refine ZJ (z := ?_) | refine ZH (z := ?_) | refine YD (z := ?_) | refine YE (z := ?_))
        exact ⟨(tl3 rfl rfl rfl), .refl _, trivial⟩
    by_cases c6 : k = 9
    · by_cases c7 : 0 < (rA.length : Int)
      · repeat (first | refine nl ?_ | refine AWP.seq ?_ | refine rg ?_ | refine YH (z := ?_) | refine YI (z := ?_) | refine ZA (z := ?_) | refine ZB (z := ?_) | refine ZC (z := ?_) | refine ZJ (z := ?_) | refine ZH (z := ?_) | refine YD (z := ?_) | refine YE (z := ?_))
        refine Go.AM.ad rfl rfl rfl (by omega) ?_
        skip
        refine cl rfl rfl (element_ok l hl oT oM hne b1 s2 f funcs pv (.view 1 rS kS) (.view 1 rD kD) (.view 1 rA kA) count left ⟨rA, kA, rfl, lA, nA⟩ (by simpa using c7) hM1 h2 (deep + 1) (d + 1) (fun n n0 n1 => GE_lit d n0 n1) (hEb b1 hM1)) fun v s3 ⟨⟨row, hv, hg⟩, h3⟩ => ?_
        subst hv
        obtain ⟨p1, p2, p3, p4, p5, rfl⟩ := GE_row hg
        obtain ⟨y, hy, rfl, y4⟩ := fin s3 h3
        subst hz
        skip
        refine soV rfl rfl rfl rfl rfl rfl ?_
        repeat (refine nl ?_)
        exact AWP.ret (rets (resCW rfl (St.obj_set _ _ _) rfl rfl rfl rfl) (.refl _) (StLe.new y4 (.refl _)) ⟨⟨_, rfl, hg⟩, hy⟩)
      · repeat (first | refine nl ?_ | refine AWP.seq ?_ | refine rg ?_ | refine AWP.skip ?_ | refine YI (z := ?_) | refine ZA (z := ?_) | refine ZB (z := ?_) | refine ZC (z := ?_) | refine ZJ (z := ?_) | refine ZH (z := ?_) | refine YD (z := ?_) | refine YE (z := ?_))
        exact ⟨(tl3 rfl rfl rfl), .refl _, trivial⟩
    by_cases c8 : k = 10
    · repeat (first | refine nl ?_ | refine AWP.seq ?_ | refine rg ?_ | refine YH (z := ?_) | refine YI (z := ?_) | refine ZA (z := ?_) | refine ZB (z := ?_) | refine ZC (z := ?_) | refine ZH (z := ?_) | refine YE (z := ?_))
      refine cl rfl rfl (next_ti l hl 2 (by decide) (by decide) oT b1 s2 h2) fun v s3 ⟨⟨c, hv, n0, n1⟩, h3⟩ => ?_
      subst hv
      skip
      refine Go.AM.ad rfl rfl rfl (by omega) ?_
      repeat (refine ZA (z := ?_))
      refine Go.AM.ad rfl rfl rfl (by omega) ?_
      skip
      refine cl rfl rfl (hEb b1 hM1 b1 s3 rfl h3) fun v s4 ⟨⟨row, hv, hg⟩, h4'⟩ => ?_
      subst hv
      obtain ⟨p1, p2, p3, p4, p5, rfl⟩ := GE_row hg
      repeat (refine ZQ (z := ?_))
      refine bds (cs := exRow (4 + c) 0 [] [] (.view 6 [exRow p1 p2 p3 p4 (.view 6 p5 .shared)] .shared)) rfl rfl rfl rfl ?_
      obtain ⟨y, hy, rfl, y4⟩ := fin s4 h4'
      subst hz
      refine soV rfl rfl rfl rfl rfl rfl ?_
      repeat (refine nl ?_)
      exact AWP.ret (rets (resCW rfl (St.obj_set _ _ _) rfl rfl rfl rfl) (.refl _) (StLe.new y4 (.refl _)) ⟨⟨_, rfl, 4 + c, 0, [], [], _, rfl, by omega, by omega, by decide, by decide, by decide, by decide, by simp, fun r hr => by rw [List.mem_singleton] at hr; subst hr; exact hg⟩, hy⟩)
    repeat (first | refine nl ?_ | refine AWP.seq ?_ | refine rg ?_ | refine AWP.skip ?_ | refine YI (z := ?_) | refine ZA (z := ?_) | refine ZB (z := ?_) | refine YE (z := ?_))
    exact ⟨(tl3 rfl rfl rfl), .refl _, trivial⟩
  repeat (first | refine AWP.seq ?_ | refine rg ?_ | refine ZA (z := ?_) | refine ZC (z := ?_) | refine ZH (z := ?_))
  refine cl rfl rfl (next_ti l hl 12 (by decide) (by decide) oT b1 s2 h2) fun v s3 ⟨⟨c, hv, n0, n1⟩, h3⟩ => ?_
  subst hv
  have m3 := hM s3 h3
  skip
  refine Go.AM.ad rfl rfl rfl (by omega) ?_
  repeat (first | refine nl ?_ | refine AWP.seq ?_ | refine rg ?_ | refine ZA (z := ?_))
  refine Go.AM.ad rfl rfl rfl (by omega) ?_
  skip
  refine cl rfl rfl (hEb b1 hM1 b1 s3 rfl h3) fun v s4 ⟨⟨row, hv, hg⟩, h4'⟩ => ?_
  subst hv
  obtain ⟨p1, p2, p3, p4, p5, rfl⟩ := GE_row hg
  repeat (first | refine nl ?_ | refine AWP.seq ?_ | refine YA (z := ?_))
  refine AWP.weaken (tl5 (i0 := 7) (i1 := 6) (i2 := 4) (i3 := 1) (i4 := 0) rfl rfl rfl rfl rfl) (.refl _) ?_
  apply AWP.drawI (hm := rfl) (k := 7) (I := TI l oT b1) (hI := h4')
  case hok => rfl
  repeat (first | apply diQ (hd := rfl) (hw := rfl) (h := fun _ _ => ZA (z := nz)) | apply diQ (hd := rfl) (hw := rfl) (h := fun _ _ => ZD (z := nz)) | apply diQ (hd := rfl) (hw := rfl) (h := fun _ _ => YJ (z := nz)))
  apply diE (Q := fun v => ∃ row, v = .agg row ∧ GE (d + 1) row) (hd := rfl) (hw := rfl) (hex := ⟨_, _, rfl, hg⟩) (h := fun x hx => cl rfl rfl (hEb b1 hM1 b1 x rfl hx) fun v s' hv => nl ⟨v, rfl, hv⟩)
  rintro v ⟨row2, rfl, hg2⟩
  obtain ⟨q1, q2, q3, q4, q5, rfl⟩ := GE_row hg2
  apply diE (Q := fun v => ∃ row, v = .view 6 [exRow p1 p2 p3 p4 (.view 6 p5 .shared), row] .shared ∧ GE (d + 1) row) (hd := rfl) (hw := rfl) (hex := ⟨_, _, rfl, hg⟩) (h := fun x hx => bsh (cs := exRow p1 p2 p3 p4 (.view 6 p5 .shared) ++ exRow q1 q2 q3 q4 (.view 6 q5 .shared)) rfl rfl rfl rfl rfl (nl ⟨_, rfl, ⟨exRow q1 q2 q3 q4 (.view 6 q5 .shared), rfl, hg2⟩, hx⟩))
  rintro v ⟨row3, rfl, hg3⟩
  refine diN fun s5 h5 => ?_
  obtain ⟨r1, r2, r3, r4, r5, rfl⟩ := GE_row hg3
  refine bds (cs := exRow (6 + c) 0 [] [] (.view 6 [exRow p1 p2 p3 p4 (.view 6 p5 .shared), exRow r1 r2 r3 r4 (.view 6 r5 .shared)] .shared)) rfl rfl rfl rfl ?_
  obtain ⟨y, hy, rfl, y4⟩ := fin s5 h5
  subst hz
  refine soV rfl rfl rfl rfl rfl rfl ?_
  repeat (refine nl ?_)
  exact AWP.ret (rets (resCW rfl (St.obj_set _ _ _) rfl rfl rfl rfl) (.refl _) (StLe.new y4 (.refl _)) ⟨⟨_, rfl, 6 + c, 0, [], [], _, rfl, by omega, by omega, by decide, by decide, by decide, by decide, by simp, fun r hr => by
    rw [List.mem_cons, List.mem_singleton] at hr
    rcases hr with hr | hr <;> subst hr
    · exact hg
    · exact hg3⟩, hy⟩)
end Go.Proofs
/- Regions that draw their order, cut into parts: a part drawn, a single operation, the rest in the text's order. No conditions: definitions and lemmas only. -/
namespace Go.AM
open Go.RowKit (Below)
/-- May the operations of E be done so far as bs says, when operation i is next? -/
def mayBe (S : List Nat) (Es : List Nat) (i : Nat) (bs : List Bool) : Bool :=
  (Es.zip bs).all fun p => bif p.2 then !(Nat.beq p.1 i) && !((S.getD p.1 0).testBit i) else !((S.getD i 0).testBit p.1)
def setBit (Es : List Nat) (i : Nat) (bs : List Bool) : List Bool := (Es.zip bs).map fun p => p.2 || Nat.beq p.1 i
/-- The form that is asked of a part: operations k .. k' in whatever order, those behind them wait for all of them; those of E change the state. -/
def segOk (l : List Oper) (k k' : Nat) (Es : List Nat) : Bool :=
  let S := predSets l []
  Nat.ble k k' && Nat.ble k' l.length && ((List.range l.length).all fun i =>
    match l[i]? with
    | none => false
    | some o => (edgesOf o).all (fun x => Nat.blt x i) &&
      (bif Nat.blt i k then true
      else bif Nat.blt i k' then
        (o.dst.isSome || Es.contains i) && (List.range' k (k' - k)).all (fun j => match l[j]? with
          | none => false
          | some p => (bif Nat.beq i j then true else (match o.dst, p.dst with | some a, some b => !(Nat.beq a b) | _, _ => true)) &&
            (match p.dst with
              | some t => bif (o.looksAt l.toArray).contains t then (S.getD i 0).testBit j else true
              | none => true))
      else (List.range' k (k' - k)).all fun j => (S.getD i 0).testBit j)) &&
  Es.all fun e => Nat.ble k e && Nat.blt e k'
section
variable {P : Program} {n : Nat} {K : Post} {E : EPost} {T : Tmps} {st : St}
theorem preds_listed {l : List Oper} {listed : Array Bool} (hc : Closed l listed) {i : Nat} {o : Oper} (ho : l[i]? = some o) (he : ∀ x ∈ edgesOf o, listed.getD x false = true) {j : Nat} (hj : ((predSets l []).getD i 0).testBit j = true) : listed.getD j false = true :=
  predSets_spec l listed hc l [] (fun j => by simp) (fun i o hi => by simp at hi) i o (by rw [predSets_length]; simpa using (List.getElem?_eq_some_iff.1 ho).1) ho he j hj
theorem segOk_spec {l : List Oper} {k k' : Nat} {Es : List Nat} (h : segOk l k k' Es = true) : k ≤ k' ∧ k' ≤ l.length ∧ (∀ i o, l[i]? = some o → ∀ x ∈ edgesOf o, x < i) ∧
    (∀ i o, l[i]? = some o → k ≤ i → i < k' → (o.dst = none → Es.contains i = true) ∧ ∀ j p, k ≤ j → j < k' → l[j]? = some p → (i ≠ j → ∀ a b, o.dst = some a → p.dst = some b → a ≠ b) ∧
      (∀ t, p.dst = some t → (o.looksAt l.toArray).contains t = true → ((predSets l []).getD i 0).testBit j = true)) ∧
    (∀ i o, k' ≤ i → l[i]? = some o → ∀ j, k ≤ j → j < k' → ((predSets l []).getD i 0).testBit j = true) ∧ ∀ e ∈ Es, k ≤ e ∧ e < k' := by
  simp only [segOk, Bool.and_eq_true] at h
  obtain ⟨⟨⟨h0, h00⟩, hall⟩, hE⟩ := h
  have hat : ∀ i o, l[i]? = some o → ((edgesOf o).all (fun x => Nat.blt x i) = true ∧
      (bif Nat.blt i k then true
      else bif Nat.blt i k' then
        (o.dst.isSome || Es.contains i) && (List.range' k (k' - k)).all (fun j => match l[j]? with
          | none => false
          | some p => (bif Nat.beq i j then true else (match o.dst, p.dst with | some a, some b => !(Nat.beq a b) | _, _ => true)) &&
            (match p.dst with
              | some t => bif (o.looksAt l.toArray).contains t then ((predSets l []).getD i 0).testBit j else true
              | none => true))
      else (List.range' k (k' - k)).all fun j => ((predSets l []).getD i 0).testBit j) = true) := by
    intro i o ho
    have hi := (List.getElem?_eq_some_iff.1 ho).1
    have := List.all_eq_true.1 hall i (List.mem_range.2 hi)
    simp only [ho, Bool.and_eq_true] at this
    exact this
  have hkk := Nat.ble_le h0
  have hr : ∀ j, k ≤ j → j < k' → j ∈ List.range' k (k' - k) := fun j h1 h2 => List.mem_range'_1.2 ⟨h1, by omega⟩
  refine ⟨hkk, Nat.ble_le h00, fun i o ho x hx => ?_, fun i o ho hik hik' => ?_, fun i o hik ho j hj1 hj2 => ?_, fun e he => ?_⟩
  · have := List.all_eq_true.1 (hat i o ho).1 x hx
    simpa [Nat.blt_eq] using this
  · have h2 := (hat i o ho).2
    rw [show Nat.blt i k = false by rw [Bool.eq_false_iff, Ne, Nat.blt_eq]; omega, cond_false, show Nat.blt i k' = true by simpa [Nat.blt_eq] using hik', cond_true, Bool.and_eq_true] at h2
    refine ⟨fun hd => ?_, fun j p hj1 hj2 hp => ?_⟩
    · rw [hd] at h2
      simpa using h2.1
    · have h3 := List.all_eq_true.1 h2.2 j (hr j hj1 hj2)
      simp only [hp, Bool.and_eq_true] at h3
      refine ⟨fun hij a b ha hb => ?_, fun t ht hlook => ?_⟩
      · have h4 := h3.1
        rw [nbeq_ne hij, cond_false, ha, hb] at h4
        intro e
        rw [e] at h4
        simp at h4
      · have h4 := h3.2
        rw [ht] at h4
        simpa only [hlook, cond_true] using h4
  · have h2 := (hat i o ho).2
    rw [show Nat.blt i k = false by rw [Bool.eq_false_iff, Ne, Nat.blt_eq]; omega, cond_false, show Nat.blt i k' = false by rw [Bool.eq_false_iff, Ne, Nat.blt_eq]; omega, cond_false] at h2
    exact List.all_eq_true.1 h2 j (hr j hj1 hj2)
  · have h2 := List.all_eq_true.1 hE e he
    simp only [Bool.and_eq_true] at h2
    exact ⟨Nat.ble_le h2.1, by simpa [Nat.blt_eq] using h2.2⟩
/-- The first i operations are done, no other; the rest is drawn. -/
def AAny (P : Program) (n : Nat) (l : List Oper) (i : Nat) (K : Post) (E : EPost) (T : Tmps) (st : St) : Prop :=
  ∀ g0 w0 ds g w a (m : Nat) (listed : Array Bool), Ext g0 w0 g w → Sim g w st → Known g w T a → a.tmps.size = n → a.defers = ds → l.length ≤ i + m → listed.size = l.length → (∀ j, j < l.length → listed.getD j true = decide (j < i)) → Closed l listed →
    wpAny P .any l.toArray (QOf n ds g0 w0 K E) m listed a w
theorem AWP.any {l : List Oper} {id : Nat} (hm : P.follows .mixedOrders = true) (h : AAny P n l 0 K E T st) : AWP P n (.region id l.toArray true) K E T st := by
  intro g0 w0 a0 hs0 hk0 hn0
  refine wp_region_any hm ?_
  obtain ⟨hed, hsd⟩ := hs0.draw
  refine h g0 w0 _ g0 _ a0 _ _ hed hsd (hk0.ext hed) hn0 rfl (by simp) (by simp) (fun j hj => ?_) (fun i o ho hi => ?_)
  · rw [Array.getD_eq_getD_getElem?, Array.getElem?_replicate, if_pos (by simpa using hj)]
    simp
  · rw [Array.getD_eq_getD_getElem?, Array.getElem?_replicate] at hi
    split at hi <;> cases hi
/-- The rest in the text's order. -/
def textOk (l : List Oper) (i : Nat) : Bool :=
  let S := predSets l []
  Nat.ble i l.length && (List.range l.length).all fun j =>
    match l[j]? with
    | none => false
    | some o => (edgesOf o).all (fun x => Nat.blt x j) && (bif Nat.blt j i then true else (List.range j).all fun q => (S.getD j 0).testBit q)
theorem AAny.text {l : List Oper} {i : Nat} (hok : textOk l i = true) (h : AOps P n l.toArray (l.drop i) K E T st) : AAny P n l i K E T st := by
  simp only [textOk, Bool.and_eq_true] at hok
  obtain ⟨h0, hall⟩ := hok
  have hat : ∀ j o, l[j]? = some o → ((edgesOf o).all (fun x => Nat.blt x j) = true ∧ (bif Nat.blt j i then true else (List.range j).all fun q => ((predSets l []).getD j 0).testBit q) = true) := by
    intro j o ho
    have := List.all_eq_true.1 hall j (List.mem_range.2 (List.getElem?_eq_some_iff.1 ho).1)
    simp only [ho, Bool.and_eq_true] at this
    exact this
  intro g0 w0 ds g w a m listed he hs hk hn hd hm hsz hli hc
  refine wpAny_tail (fun j o ho x hx => ?_) i (fun j o hij ho listed' hc' he' q hq => ?_) m i listed a w (Nat.le_refl _) (Nat.ble_le h0) hm hsz hli hc ?_
  · have := List.all_eq_true.1 (hat j o ho).1 x hx
    simpa [Nat.blt_eq] using this
  · have h2 := (hat j o ho).2
    rw [show Nat.blt j i = false by rw [Bool.eq_false_iff, Ne, Nat.blt_eq]; omega, cond_false] at h2
    exact preds_listed hc' ho he' (List.all_eq_true.1 h2 q (List.mem_range.2 hq))
  · subst hd
    exact wpList_mono (fun _ _ _ q => QOf.ext he q) _ _ _ (h g w a hs hk hn)
theorem getD_ft {listed : Array Bool} {j : Nat} (h : j < listed.size) : listed.getD j false = listed.getD j true := by
  rw [Array.getD_eq_getD_getElem?, Array.getD_eq_getD_getElem?, Array.getElem?_eq_getElem h]
  rfl
/-- A single operation, all that comes behind waits for it. -/
theorem AAny.one {l : List Oper} {i : Nat} {o : Oper} {d : Tmp} (hok : segOk l i (i + 1) [] = true) (ho : l[i]? = some o) (hd : dstA n o.dst = some d) (hw : wantedA l.toArray T o = some true)
    (h : AOps P n l.toArray [o] (fun T' st' => ∃ u, T' = (d, u) :: T ∧ AAny P n l (i + 1) K E ((d, u) :: T) st') (fun _ _ _ => False) T st) : AAny P n l i K E T st := by
  obtain ⟨_, hile, hedge, _, htail, _⟩ := segOk_spec hok
  obtain ⟨hd1, hd2⟩ := dstA_some hd
  have hdn : d < n := dstOk_lt hd2 d hd1
  intro g0 w0 ds g w a m listed he hs hk hn hds hm hsz hli hc
  have hil : i < l.length := by omega
  obtain ⟨m, rfl⟩ : ∃ m', m = m' + 1 := ⟨m - 1, by omega⟩
  have hready : i ∈ Region.ready .any l.toArray listed := ready_of_edges (by rw [hli i hil]; simp) ho (fun e he => by
    have hlt := hedge i _ ho e he
    rw [getD_ft (by omega), hli e (by omega), decide_eq_true hlt])
  refine ⟨fun h0 => (by rw [h0] at hready; cases hready), fun j hj => ?_⟩
  obtain ⟨h1, o', h2, h3⟩ := ready_edges hj
  have hjl := (List.getElem?_eq_some_iff.1 h2).1
  have hji : j = i := by
    rw [hli j hjl] at h1
    have hge : i ≤ j := by simpa using h1
    rcases Nat.eq_or_lt_of_le hge with h' | h'
    · exact h'.symm
    · have h4 := preds_listed hc h2 h3 (htail j o' h' h2 i (Nat.le_refl _) (by omega))
      rw [getD_ft (by omega), hli i hil] at h4
      simp at h4
  subst hji
  rw [ho] at h2
  cases h2
  unfold wpOp
  simp only [List.getElem?_toArray, ho]
  rw [wanted_of hk hw, if_pos rfl]
  left
  have hlist' : ∀ q, q < l.length → (listed.setIfInBounds j true).getD q true = decide (q < j + 1) := fun q hq => by
    by_cases hqj : j = q
    · subst hqj
      rw [Array.getD_eq_getD_getElem?, Array.getElem?_setIfInBounds_self_of_lt (by omega)]
      simp
    · rw [getD_set_ne true hqj, hli q hq]
      congr 1
      rw [eq_iff_iff]
      omega
  refine AOps.single hd1 hdn (v := fun u st' => AAny P n l (j + 1) K E ((d, u) :: T) st') h hw hs hk _ _ (fun rv g' w' u st' he' hs' hR hv => ?_) hn
  refine hv g0 w0 ds g' w' _ m _ (he.trans he') hs' ?_ (by rw [Act.size_put]; exact hn) (by rw [Act.defers_put]; exact hds) (by omega) (by simpa using hsz) hlist' (hc.set ho h3)
  have := (hk.ext he').put (d := o.dst) (fun t ht => by rw [hd1] at ht; cases ht; rw [hn]; exact hdn) hR
  rwa [hd1] at this ⊢
def StepG (P : Program) (n : Nat) (I : List Bool → St → Prop) (S Es : List Nat) (i : Nat) (ops : Array Oper) (T : Tmps) (o : Oper) (Q : AV → Prop) : Prop :=
  (wantedA ops T o = some true ∧ ∀ bs, bs.length = Es.length → mayBe S Es i bs = true → EffJ P n (I bs) (I (setBit Es i bs)) T o Q) ∨ (wantedA ops T o = some false ∧ Q (.lit undef) ∧ Es.contains i = false)
/-- The walk of a part in the text's order; behind it k. -/
def DRunG (P : Program) (n : Nat) (I : List Bool → St → Prop) (S Es : List Nat) (ops : Array Oper) : Nat → List Oper → List (AV → Prop) → Tmps → (Tmps → St → Prop) → Prop
  | _, [], [], T, k => ∀ st, I (Es.map fun _ => true) st → k T st
  | i, o :: r, Q :: Qs, T, k => (∃ u, Q u) ∧ dstOk o.dst n = true ∧ StepG P n I S Es i ops (see ops o T) o Q ∧ ∀ u, Q u → DRunG P n I S Es ops (i + 1) r Qs (T.put o.dst u) k
  | _, _, _, _, _ => False
theorem DRunG.out {I : List Bool → St → Prop} {S Es : List Nat} {ops : Array Oper} {k : Tmps → St → Prop} (b : Nat) (us : Nat → AV) (l : List Oper) : ∀ (r : List Oper) (Qs : List (AV → Prop)) (i0 : Nat), (∀ (i : Nat) (o : Oper), r[i]? = some o → l[i0 + i]? = some o) → (∀ (i : Nat) (Q : AV → Prop), Qs[i]? = some Q → Q (us (i0 + i))) →
    DRunG P n I S Es ops (b + i0) r Qs (ents l us i0 ++ T) k → Qs.length = r.length ∧ (∀ st, I (Es.map fun _ => true) st → k (ents l us (i0 + r.length) ++ T) st) ∧
      ∀ i o, r[i]? = some o → ∃ Q, dstOk o.dst n = true ∧ Qs[i]? = some Q ∧ StepG P n I S Es (b + (i0 + i)) ops (see ops o (ents l us (i0 + i) ++ T)) o Q
  | [], [], i0, _, _, h => ⟨rfl, h, fun i o ho => by simp at ho⟩
  | [], _ :: _, _, _, _, h => h.elim
  | _ :: _, [], _, _, _, h => h.elim
  | o :: r, Q :: Qs, i0, hl, hq, h => by
    obtain ⟨_, h2, h4, h5⟩ := h
    have h6 := h5 (us i0) (hq 0 Q rfl)
    have hl0 : l[i0]? = some o := by simpa using hl 0 o rfl
    have he : (ents l us i0 ++ T).put o.dst (us i0) = ents l us (i0 + 1) ++ T := by
      rw [ents, hl0]
      simp only [Option.bind_some]
      cases o.dst <;> rfl
    rw [he, Nat.add_assoc] at h6
    obtain ⟨a1, a2, a3⟩ := DRunG.out b us l r Qs (i0 + 1) (fun i o' ho' => by have := hl (i + 1) o' (by simpa using ho'); rwa [show i0 + (i + 1) = i0 + 1 + i by omega] at this) (fun i Q' hQ' => by have := hq (i + 1) Q' (by simpa using hQ'); rwa [show i0 + (i + 1) = i0 + 1 + i by omega] at this) h6
    refine ⟨by simp [a1], by rw [List.length_cons, show i0 + (r.length + 1) = i0 + 1 + r.length by omega]; exact a2, fun i o' ho' => ?_⟩
    cases i with
    | zero =>
      simp only [List.getElem?_cons_zero, Option.some.injEq] at ho'
      subst ho'
      exact ⟨Q, h2, rfl, h4⟩
    | succ i =>
      obtain ⟨Q', b1, b2, b3⟩ := a3 i o' (by simpa using ho')
      exact ⟨Q', b1, by simpa using b2, by rwa [show i0 + 1 + i = i0 + (i + 1) by omega] at b3⟩
theorem DRunG.fits {I : List Bool → St → Prop} {S Es : List Nat} {ops : Array Oper} {k : Tmps → St → Prop} : ∀ (r : List Oper) (Qs : List (AV → Prop)) (i0 : Nat) (T : Tmps), DRunG P n I S Es ops i0 r Qs T k → ∀ (i : Nat) (Q : AV → Prop), Qs[i]? = some Q → ∃ u, Q u
  | [], [], _, _, _, i, Q, h => by simp at h
  | [], _ :: _, _, _, h, _, _, _ => h.elim
  | _ :: _, [], _, _, h, _, _, _ => h.elim
  | o :: r, Q0 :: Qs, i0, T, h, i, Q, hq => by
    obtain ⟨⟨u, hu⟩, h2, h4, h5⟩ := h
    cases i with
    | zero => simp at hq; subst hq; exact ⟨u, hu⟩
    | succ i => exact DRunG.fits r Qs _ _ (h5 u hu) i Q (by simpa using hq)
theorem may_of {l : List Oper} {listed : Array Bool} (hc : Closed l listed) (hsz : listed.size = l.length) {i : Nat} {o : Oper} (ho : l[i]? = some o) (he : ∀ x ∈ edgesOf o, listed.getD x false = true) (hun : listed.getD i false = false) (Es : List Nat) :
    mayBe (predSets l []) Es i (Es.map fun e => listed.getD e false) = true := by
  unfold mayBe
  rw [List.all_eq_true]
  intro p hp
  have hp2 : p.1 ∈ Es ∧ p.2 = listed.getD p.1 false := by
    obtain ⟨q, hq⟩ := List.getElem?_of_mem hp
    rw [List.getElem?_zip_eq_some] at hq
    obtain ⟨h1, h2⟩ := hq
    rw [List.getElem?_map, h1, Option.map_some, Option.some.injEq] at h2
    exact ⟨List.mem_of_getElem? h1, h2.symm⟩
  obtain ⟨e, b⟩ := p
  simp only at hp2 ⊢
  obtain ⟨h1, h2⟩ := hp2
  cases hb : b with
  | true =>
    rw [hb] at h2
    have hel : e < l.length := by
      rcases Nat.lt_or_ge e l.length with h | h
      · exact h
      · rw [Array.getD_eq_getD_getElem?, Array.getElem?_eq_none (by omega)] at h2; cases h2
    rw [cond_true, Bool.and_eq_true]
    refine ⟨?_, ?_⟩
    · cases hei : Nat.beq e i with
      | false => rfl
      | true => rw [Nat.eq_of_beq_eq_true hei, hun] at h2; cases h2
    · cases ht : ((predSets l []).getD e 0).testBit i with
      | false => rfl
      | true =>
        have := preds_listed hc (List.getElem?_eq_getElem hel) (fun x hx => hc e _ (List.getElem?_eq_getElem hel) h2.symm x hx) ht
        rw [hun] at this
        cases this
  | false =>
    rw [hb] at h2
    rw [cond_false]
    cases ht : ((predSets l []).getD i 0).testBit e with
    | false => rfl
    | true => rw [preds_listed hc ho he ht] at h2; cases h2
theorem setBit_of {listed : Array Bool} {i : Nat} (hi : i < listed.size) : ∀ (Es : List Nat), (Es.map fun e => (listed.setIfInBounds i true).getD e false) = setBit Es i (Es.map fun e => listed.getD e false)
  | [] => rfl
  | e :: Es => by
    have := setBit_of hi Es
    unfold setBit at this ⊢
    rw [List.map_cons, List.map_cons, List.zip_cons_cons, List.map_cons, this]
    congr 1
    by_cases h : i = e
    · subst h
      rw [Array.getD_eq_getD_getElem?, Array.getElem?_setIfInBounds_self_of_lt hi, nbeq_self]
      simp
    · rw [getD_set_ne false h, nbeq_ne (Ne.symm h)]
      simp
theorem setBit_none {i : Nat} : ∀ (Es : List Nat) (bs : List Bool), bs.length = Es.length → Es.contains i = false → setBit Es i bs = bs
  | [], [], _, _ => rfl
  | [], _ :: _, h, _ => by simp at h
  | _ :: _, [], h, _ => by simp at h
  | e :: Es, b :: bs, h, hc => by
    rw [List.contains_cons, Bool.or_eq_false_iff] at hc
    have := setBit_none Es bs (by simpa using h) hc.2
    unfold setBit at this ⊢
    rw [List.zip_cons_cons, List.map_cons, this, nbeq_ne (fun h => by subst h; simp at hc), Bool.or_false]
theorem AAny.seg {l : List Oper} {k : Nat} (k' : Nat) (S Es : List Nat) (I : List Bool → St → Prop) (Qs : List (AV → Prop)) (hok : segOk l k k' Es = true) (hS : predSets l [] = S) (hI : I (Es.map fun _ => false) st)
    (h : DRunG P n I S Es l.toArray k ((l.drop k).take (k' - k)) Qs T fun T' st' => AAny P n l k' K E T' st') : AAny P n l k K E T st := by
  subst hS
  obtain ⟨hkk, hkl, hedge, hbody, htail, hEs⟩ := segOk_spec hok
  have hfits := DRunG.fits _ _ _ _ h
  have hget : ∀ i, i < k' - k → (l.drop k)[i]? = l[k + i]? := fun i _ => List.getElem?_drop
  have hout := fun (us : Nat → AV) (hus : ∀ (i : Nat) (Q : AV → Prop), Qs[i]? = some Q → Q (us (0 + i))) => DRunG.out (T := T) k us (l.drop k) ((l.drop k).take (k' - k)) Qs 0 (fun i o ho => by
    have hi : i < k' - k := by have := (List.getElem?_eq_some_iff.1 ho).1; simp at this; omega
    rw [List.getElem?_take_of_lt hi] at ho
    rwa [Nat.zero_add]) hus h
  have hlk0 : ((l.drop k).take (k' - k)).length = k' - k := by simp; omega
  obtain ⟨wit, hwit⟩ : ∃ wit : Nat → AV, ∀ (i : Nat) (Q : AV → Prop), Qs[i]? = some Q → Q (wit i) := by
    have : ∀ i : Nat, ∃ u : AV, ∀ Q : AV → Prop, Qs[i]? = some Q → Q u := fun i => by
      cases hq : Qs[i]? with
      | none => exact ⟨.bool true, fun Q h => by cases h⟩
      | some Q =>
        obtain ⟨u, hu⟩ := hfits i Q hq
        exact ⟨u, fun Q' h => by cases h; exact hu⟩
    exact ⟨fun i => Classical.choose (this i), fun i Q hQ => Classical.choose_spec (this i) Q hQ⟩
  have hQl : Qs.length = k' - k := by rw [(hout wit (fun i Q hQ => by rw [Nat.zero_add]; exact hwit i Q hQ)).1, hlk0]
  intro g0 w0 ds g1 w1 a1 m1 listed1 he1 hs1 hk1 hn1 hd1 hm1 hsz1 hli1 hc1
  let Inv : Array Bool → Act → World → Prop := fun listed a w => listed.size = l.length ∧ Closed l listed ∧ (∀ j, j < k → listed.getD j true = true) ∧ (∀ j, k' ≤ j → j < l.length → listed.getD j true = false) ∧ a.tmps.size = n ∧ a.defers = ds ∧
    ∃ g st1, Ext g0 w0 g w ∧ Sim g w st1 ∧ I (Es.map fun e => listed.getD e false) st1 ∧
      (∀ t v, Tmps.get T t = some v → (∀ i, i < k' - k → (l[k + i]?).bind (·.dst) = some t → listed.getD (k + i) false = false) → ∃ rv, a.tmps[t]? = some rv ∧ R g w v rv) ∧
      (∀ i d Q, i < k' - k → (l[k + i]?).bind (·.dst) = some d → Qs[i]? = some Q → listed.getD (k + i) false = true → ∃ u rv, Q u ∧ a.tmps[d]? = some rv ∧ R g w u rv)
  let μ : Array Bool → Nat := fun listed => (List.range l.length).countP fun j => !listed.getD j true
  have hμ : ∀ (listed : Array Bool) i, i < l.length → listed.size = l.length → listed.getD i true = false → μ (listed.setIfInBounds i true) + 1 ≤ μ listed := by
    intro listed i hil hsz hi
    have gen : ∀ (A : List Nat), i ∈ A → A.countP (fun j => !(listed.setIfInBounds i true).getD j true) + 1 ≤ A.countP (fun j => !listed.getD j true) := by
      have le : ∀ (A : List Nat), A.countP (fun j => !(listed.setIfInBounds i true).getD j true) ≤ A.countP (fun j => !listed.getD j true) := fun A => List.countP_mono_left fun j _ hj => by
        by_cases hij : i = j
        · subst hij
          rw [Array.getD_eq_getD_getElem?, Array.getElem?_setIfInBounds_self_of_lt (by omega)] at hj
          simp at hj
        · rw [getD_set_ne true hij] at hj; exact hj
      intro A
      induction A with
      | nil => intro h; simp at h
      | cons x A ih =>
        intro h
        rw [List.countP_cons, List.countP_cons]
        by_cases hx : x = i
        · subst hx
          have h1 : (!(listed.setIfInBounds x true).getD x true) = false := by
            rw [Array.getD_eq_getD_getElem?, Array.getElem?_setIfInBounds_self_of_lt (by omega)]; rfl
          have h2 : (!listed.getD x true) = true := by rw [hi]; rfl
          rw [h1, h2, if_neg (by decide), if_pos rfl]
          have := le A
          omega
        · have hm' : i ∈ A := by rcases List.mem_cons.1 h with h | h; exact absurd h.symm hx; exact h
          have := ih hm'
          have h3 : (listed.setIfInBounds i true).getD x true = listed.getD x true := getD_set_ne true (Ne.symm hx)
          rw [h3]
          omega
    exact gen _ (List.mem_range.2 hil)
  have choose : ∀ (listed : Array Bool) (a : Act) (g : G) (w : World), (∀ i d Q, i < k' - k → (l[k + i]?).bind (·.dst) = some d → Qs[i]? = some Q → listed.getD (k + i) false = true → ∃ u rv, Q u ∧ a.tmps[d]? = some rv ∧ R g w u rv) →
      ∃ us : Nat → AV, (∀ (i : Nat) (Q : AV → Prop), Qs[i]? = some Q → Q (us i)) ∧ ∀ i d, i < k' - k → (l[k + i]?).bind (·.dst) = some d → listed.getD (k + i) false = true → ∃ rv, a.tmps[d]? = some rv ∧ R g w (us i) rv := by
    intro listed a g w hB
    have : ∀ i : Nat, ∃ u : AV, (∀ Q : AV → Prop, Qs[i]? = some Q → Q u) ∧ ∀ d, i < k' - k → (l[k + i]?).bind (·.dst) = some d → listed.getD (k + i) false = true → ∃ rv, a.tmps[d]? = some rv ∧ R g w u rv := fun i => by
      by_cases hc : i < k' - k ∧ listed.getD (k + i) false = true
      · obtain ⟨hik, hli⟩ := hc
        cases hd' : (l[k + i]?).bind (·.dst) with
        | none => exact ⟨wit i, hwit i, fun d _ hd2 _ => by cases hd2⟩
        | some d =>
          have hq : Qs[i]? = some (Qs[i]'(by omega)) := List.getElem?_eq_getElem _
          obtain ⟨u, rv, h1, h2, h3⟩ := hB i d _ hik hd' hq hli
          refine ⟨u, fun Q h => by rw [hq] at h; cases h; exact h1, fun d' _ hd2 _ => ?_⟩
          cases hd2
          exact ⟨rv, h2, h3⟩
      · exact ⟨wit i, hwit i, fun d h1 _ h2 => absurd ⟨h1, h2⟩ hc⟩
    exact ⟨fun i => Classical.choose (this i), fun i => (Classical.choose_spec (this i)).1, fun i => (Classical.choose_spec (this i)).2⟩
  have hentsget : ∀ (us : Nat → AV) (i t : Nat) v, i ≤ k' - k → Tmps.get (ents (l.drop k) us i) t = some v → ∃ j, j < i ∧ (l[k + j]?).bind (·.dst) = some t ∧ v = us j := fun us i t v hi hg => by
    obtain ⟨j, hj, hdj, rfl⟩ := ents_get i t _ hg
    exact ⟨j, hj, by rw [← hget j (by omega)]; exact hdj, rfl⟩
  have hentsnone : ∀ (us : Nat → AV) (i t : Nat), i ≤ k' - k → Tmps.get (ents (l.drop k) us i) t = none → ∀ j, j < i → (l[k + j]?).bind (·.dst) ≠ some t := fun us i t hi hg j hj => by
    rw [← hget j (by omega)]
    exact ents_none i t hg j hj
  have done : ∀ (m : Nat) (listed : Array Bool) (a : Act) (w : World), Inv listed a w → (∀ j, j < k' → listed.getD j true = true) → l.length ≤ k' + m → wpAny P .any l.toArray (QOf n ds g0 w0 K E) m listed a w := by
    intro m listed a w ⟨hsz, hcl, hfst, htl, hn, hd, g, st1, he, hs, hI1, hA, hB⟩ hall hm'
    have hlist : ∀ j, j < k' → listed.getD j false = true := fun j hj => by
      rw [getD_ft (by omega)]; exact hall j hj
    obtain ⟨us, hus, hus2⟩ := choose listed a g w hB
    obtain ⟨_, hfin, _⟩ := hout us (fun i Q hQ => by rw [Nat.zero_add]; exact hus i Q hQ)
    rw [hlk0, Nat.zero_add] at hfin
    have hIt : (Es.map fun e => listed.getD e false) = Es.map fun _ => true := List.map_congr_left fun e he => hlist e (hEs e he).2
    rw [hIt] at hI1
    refine hfin st1 hI1 g0 w0 ds g w a m listed he hs (fun t u hu => ?_) hn hd hm' hsz (fun j hj => ?_) hcl
    · rw [get_append] at hu
      cases hg : Tmps.get (ents (l.drop k) us (k' - k)) t with
      | some u' =>
        rw [hg] at hu
        cases hu
        obtain ⟨j, hj, hdj, rfl⟩ := hentsget us _ t _ (Nat.le_refl _) hg
        exact hus2 j t hj hdj (hlist (k + j) (by omega))
      | none =>
        rw [hg] at hu
        exact hA t u hu fun i hi hit => absurd hit (hentsnone us _ t (Nat.le_refl _) hg i hi)
    · by_cases hjk : j < k'
      · rw [hall j hjk, decide_eq_true hjk]
      · rw [htl j (by omega) hj, decide_eq_false hjk]
  have step : ∀ (K' : Act → World → Prop) (listed : Array Bool) (a : Act) (w : World) (q : Nat), Inv listed a w → q < k' - k → k + q ∈ Region.ready .any l.toArray listed → (∀ a' w', Inv (listed.setIfInBounds (k + q) true) a' w' → K' a' w') →
      wpOp P l.toArray (QOf n ds g0 w0 K E) (k + q) K' a w := by
    intro K' listed a w q ⟨hsz, hcl, hfst, htl, hn, hd, g, st1, he, hs, hI1, hA, hB⟩ hqk hri hK
    obtain ⟨hun, o, ho, hed'⟩ := ready_edges hri
    have hil := (List.getElem?_eq_some_iff.1 ho).1
    have hunf : listed.getD (k + q) false = false := by
      rw [getD_ft (by omega)]; exact hun
    have hcl' := hcl.set ho hed'
    have hsz' : (listed.setIfInBounds (k + q) true).size = l.length := by simpa using hsz
    have hfst' : ∀ j, j < k → (listed.setIfInBounds (k + q) true).getD j true = true := fun j h1 => by
      rw [getD_set_ne true (by omega)]; exact hfst j h1
    have htl' : ∀ j, k' ≤ j → j < l.length → (listed.setIfInBounds (k + q) true).getD j true = false := fun j h1 h2 => by
      rw [getD_set_ne true (by omega)]; exact htl j h1 h2
    obtain ⟨us, hus, hus2⟩ := choose listed a g w hB
    obtain ⟨_, _, hops⟩ := hout us (fun i Q hQ => by rw [Nat.zero_add]; exact hus i Q hQ)
    obtain ⟨Q, hdn, hQi, hstep⟩ := hops q o (by rw [List.getElem?_take_of_lt hqk, hget q hqk]; exact ho)
    rw [Nat.zero_add] at hstep
    have hlooked : ∀ j, j < k' - k → ∀ t, (l[k + j]?).bind (·.dst) = some t → (o.looksAt l.toArray).contains t = true → listed.getD (k + j) false = true ∧ j < q := by
      intro j hj t hjt hlook
      have hp : l[k + j]? = some l[k + j] := List.getElem?_eq_getElem (by omega)
      rw [hp] at hjt
      have h2 := ((hbody (k + q) o ho (by omega) (by omega)).2 (k + j) _ (by omega) (by omega) hp).2 t hjt hlook
      refine ⟨preds_listed hcl ho hed' h2, ?_⟩
      have hcl2 : Closed l (Array.ofFn fun x : Fin l.length => decide (x.val < k + q)) := by
        intro x ox hx hx' y hy
        have hql := (List.getElem?_eq_some_iff.1 hx).1
        rw [Array.getD_eq_getD_getElem?, Array.getElem?_ofFn] at hx' ⊢
        simp only [hql, dif_pos, Option.getD_some, decide_eq_true_eq] at hx'
        have hxq := hedge x ox hx y hy
        simp only [show y < l.length by omega, dif_pos, Option.getD_some, decide_eq_true_eq]
        omega
      have h3 := preds_listed hcl2 ho (fun x hx' => by
        have hxi := hedge (k + q) o ho x hx'
        rw [Array.getD_eq_getD_getElem?, Array.getElem?_ofFn]
        simp only [show x < l.length by omega, dif_pos, Option.getD_some, decide_eq_true_eq]
        exact hxi) h2
      rw [Array.getD_eq_getD_getElem?, Array.getElem?_ofFn] at h3
      simp only [show k + j < l.length by omega, dif_pos, Option.getD_some, decide_eq_true_eq] at h3
      omega
    have hknown : Known g w (see l.toArray o (ents (l.drop k) us q ++ T)) a := fun t v ht => by
      obtain ⟨hlook, hgt⟩ := get_filter _ _ _ _ ht
      rw [get_append] at hgt
      cases hg : Tmps.get (ents (l.drop k) us q) t with
      | some u' =>
        rw [hg] at hgt
        cases hgt
        obtain ⟨j, hj, hdj, rfl⟩ := hentsget us q t _ (by omega) hg
        exact hus2 j t (by omega) hdj (hlooked j (by omega) t hdj hlook).1
      | none =>
        rw [hg] at hgt
        refine hA t v hgt fun j hj hjt => ?_
        have h1 := hlooked j hj t hjt hlook
        exact absurd hjt (hentsnone us q t (by omega) hg j h1.2)
    have hother : ∀ t, o.dst ≠ some t → ∀ rv', (a.put o.dst rv').tmps[t]? = a.tmps[t]? := fun t ht rv' => by
      cases hod : o.dst with
      | none => rfl
      | some d =>
        simp only [Act.put, Array.getElem?_setIfInBounds]
        rw [if_neg (fun h => ht (by rw [hod, h]))]
    have hself : ∀ d, o.dst = some d → ∀ rv', (a.put o.dst rv').tmps[d]? = some rv' := fun d hod rv' => by
      have hdn' := dstOk_lt hdn d hod
      rw [hod]
      simp only [Act.put, Array.getElem?_setIfInBounds]
      simp [hn, hdn']
    have hdi : ∀ d, (l[k + q]?).bind (·.dst) = some d → o.dst = some d := fun d h => by rw [ho] at h; exact h
    have after : ∀ v rv g' w' st2, Ext g w g' w' → Sim g' w' st2 → R g' w' v rv → Q v → I (setBit Es (k + q) (Es.map fun e => listed.getD e false)) st2 → Inv (listed.setIfInBounds (k + q) true) (a.put o.dst rv) w' := by
      intro v rv g' w' st2 he' hs' hR hQv hI2
      refine ⟨hsz', hcl', hfst', htl', by rw [Act.size_put]; exact hn, by rw [Act.defers_put]; exact hd, g', st2, he.trans he', hs', by rw [setBit_of (by omega)]; exact hI2, fun t u ht hwr => ?_, fun j d' Q' hj hjd hjQ hjl => ?_⟩
      · have htd : o.dst ≠ some t := fun htd => by
          have := hwr q hqk (by rw [ho]; exact htd)
          rw [Array.getD_eq_getD_getElem?, Array.getElem?_setIfInBounds_self_of_lt (by omega)] at this
          simp at this
        obtain ⟨ru, h1, h2⟩ := hA t u ht fun j hj hjt => by
          have h3 := hwr j hj hjt
          by_cases hij : q = j
          · subst hij; exact hunf
          · rwa [getD_set_ne false (by omega)] at h3
        exact ⟨ru, by rw [hother t htd]; exact h1, h2.ext he'⟩
      · by_cases hij : q = j
        · subst hij
          rw [hQi] at hjQ
          cases hjQ
          exact ⟨v, rv, hQv, hself d' (hdi d' hjd) rv, hR⟩
        · rw [getD_set_ne false (by omega)] at hjl
          obtain ⟨u, ru, h1, h2, h3⟩ := hB j d' Q' hj hjd hjQ hjl
          refine ⟨u, ru, h1, ?_, h3.ext he'⟩
          rw [hother d' ?_]
          · exact h2
          · have hp : l[k + j]? = some l[k + j] := List.getElem?_eq_getElem (by omega)
            rw [hp] at hjd
            exact fun hdd => ((hbody (k + q) o ho (by omega) (by omega)).2 (k + j) _ (by omega) (by omega) hp).1 (by omega) d' d' hdd hjd rfl
    unfold wpOp
    simp only [List.getElem?_toArray, ho]
    rcases hstep with ⟨hw, hq1⟩ | ⟨hw, hq, hni⟩
    · rw [wanted_of hknown hw, if_pos rfl]
      left
      exact hq1 _ (by simp) (may_of hcl hsz ho hed' hunf Es) st1 g w a K' _ hI1 hs hknown hn fun rv g' w' v st2 he' hs' hR hQv hI2 => hK _ _ (after v rv g' w' st2 he' hs' hR hQv hI2)
    · rw [wanted_of hknown hw, if_neg (by simp)]
      exact hK _ _ (after _ undef g w st1 (.refl _ _) hs (.lit _) hq (by rw [setBit_none Es _ (by simp) hni]; exact hI1))
  have key : ∀ (m : Nat) (listed : Array Bool) (a : Act) (w : World), Inv listed a w → μ listed ≤ m → wpAny P .any l.toArray (QOf n ds g0 w0 K E) m listed a w := by
    intro m
    induction m with
    | zero =>
      intro listed a w hi hm0
      have hall : ∀ j, j < l.length → listed.getD j true = true := fun j hj => by
        cases hv : listed.getD j true with
        | true => rfl
        | false => have := hμ listed j hj hi.1 hv; omega
      have hlk : l.length = k' := by
        rcases Nat.eq_or_lt_of_le hkl with h' | h'
        · exact h'.symm
        · have h1 := hall k' h'
          have h2 := hi.2.2.2.1 k' (Nat.le_refl _) h'
          rw [h1] at h2
          cases h2
      exact done 0 listed a w hi (fun j hj => hall j (by omega)) (by omega)
    | succ m ih =>
      intro listed a w hi hm1
      by_cases hall : ∀ j, j < k' → listed.getD j true = true
      · refine done (m + 1) listed a w hi hall ?_
        have : l.length - k' ≤ μ listed := by
          exact countP_range_ge k' _ l.length fun j h1 h2 => by rw [hi.2.2.2.1 j h1 h2]; rfl
        omega
      · have hex : ∃ j, j < k' ∧ listed.getD j true = false ∧ ∀ q, q < j → listed.getD q true = true := by
          have : ∃ j, j < k' ∧ listed.getD j true = false := by
            apply Classical.byContradiction
            intro hno
            apply hall
            intro j hj
            cases hv : listed.getD j true with
            | true => rfl
            | false => exact absurd ⟨j, hj, hv⟩ hno
          obtain ⟨j, hj⟩ := this
          induction j using Nat.strongRecOn with
          | _ j ihj =>
            by_cases hq : ∀ q, q < j → listed.getD q true = true
            · exact ⟨j, hj.1, hj.2, hq⟩
            · simp only [Classical.not_forall] at hq
              obtain ⟨q, hqj, hq⟩ := hq
              exact ihj q hqj ⟨by omega, by simpa using hq⟩
        obtain ⟨j0, hj0, hv0, hmin⟩ := hex
        have hsz := hi.1
        have hjl : j0 < l.length := by omega
        have hkj : k ≤ j0 := by
          rcases Nat.lt_or_ge j0 k with h' | h'
          · rw [hi.2.2.1 j0 h'] at hv0; cases hv0
          · exact h'
        have hready : j0 ∈ Region.ready .any l.toArray listed := ready_of_edges hv0 (List.getElem?_eq_getElem hjl) (fun x hx => by
          have hxj := hedge j0 _ (List.getElem?_eq_getElem hjl) x hx
          rw [getD_ft (by omega)]
          exact hmin x hxj)
        refine ⟨fun h0 => (by rw [h0] at hready; cases hready), fun i hri => ?_⟩
        obtain ⟨hun, o, ho, hed'⟩ := ready_edges hri
        have hil := (List.getElem?_eq_some_iff.1 ho).1
        have hik : i < k' := by
          rcases Nat.lt_or_ge i k' with h' | h'
          · exact h'
          · have h1 := preds_listed hi.2.1 ho hed' (htail i o h' ho j0 hkj hj0)
            rw [getD_ft (by omega), hv0] at h1
            cases h1
        have hki : k ≤ i := by
          rcases Nat.lt_or_ge i k with h' | h'
          · rw [hi.2.2.1 i h'] at hun; cases hun
          · exact h'
        obtain ⟨q, rfl⟩ : ∃ q, i = k + q := ⟨i - k, by omega⟩
        exact step _ listed a w q hi (by omega) hri fun a' w' hi' => ih _ a' w' hi' (by have := hμ listed (k + q) hil hsz hun; omega)
  refine key m1 listed1 a1 w1 ⟨hsz1, hc1, fun j hj => by rw [hli1 j (by omega), decide_eq_true hj], fun j h1 h2 => by rw [hli1 j h2, decide_eq_false (by omega)], hn1, hd1, g1, st, he1, hs1, ?_, fun t v ht _ => hk1 t v ht, fun i d Q hi hdi _ hl => ?_⟩ ?_
  · have : (Es.map fun e => listed1.getD e false) = Es.map fun _ => false := List.map_congr_left fun e he => by
      obtain ⟨h1, h2⟩ := hEs e he
      rw [getD_ft (by omega), hli1 e (by omega), decide_eq_false (by omega)]
    rw [this]
    exact hI
  · rw [getD_ft (by omega), hli1 (k + i) (by omega), decide_eq_false (by omega)] at hl
    cases hl
  · have h2 : μ listed1 = (List.range l.length).countP fun j => !decide (j < k) := List.countP_congr fun j hj => by rw [hli1 j (List.mem_range.1 hj)]
    rw [h2]
    have h3 : ∀ N, (List.range N).countP (fun j => !decide (j < k)) ≤ N - k := by
      intro N
      induction N with
      | zero => simp
      | succ N ih =>
        rw [List.range_succ, List.countP_append, List.countP_singleton]
        by_cases hN : N < k
        · simp only [hN, decide_true, Bool.not_true, Bool.false_eq_true, if_false]; omega
        · simp only [hN, decide_false, Bool.not_false, if_true]; omega
    have := h3 l.length
    omega
/-- The state so far as bs says, but for what F lets change. -/
def IG (sts : List Bool → Option St) (F : St → St → Prop) (base : St) (bs : List Bool) (s : St) : Prop := ∃ s0, sts bs = some s0 ∧ F s0 s ∧ StLe s base
variable {sts : List Bool → Option St} {F : St → St → Prop} {base : St} {S Es : List Nat} {ops : Array Oper} {Qs : List (AV → Prop)}
theorem AAny.segY {l : List Oper} {k : Nat} (k' : Nat) (S Es : List Nat) (sts : List Bool → Option St) (F : St → St → Prop) (base : St) {Qs : List (AV → Prop)} {st0 : St} (hok : segOk l k k' Es = true) (hS : predSets l [] = S) (h0 : sts (Es.map fun _ => false) = some st0) (hF : F st0 st) (hb : StLe st base)
    (h : DRunG P n (IG sts F base) S Es l.toArray k ((l.drop k).take (k' - k)) Qs T fun T' st' => AAny P n l k' K E T' st') : AAny P n l k K E T st :=
  AAny.seg k' S Es (IG sts F base) Qs hok hS ⟨st0, h0, hF, hb⟩ h
/-- A quiet step. -/
theorem dqY {i : Nat} {o : Oper} {r : List Oper} {d : Tmp} {v : AV} {k : Tmps → St → Prop} (hi : Es.contains i = false := by exact rfl) (hd : dstA n o.dst = some d := by exact rfl) (hw : wantedA ops (see ops o T) o = some true := by exact rfl)
    (h : ∀ st', StLe st' base → AOps P n ops [o] (fun T' st'' => ∃ u, T' = (d, u) :: see ops o T ∧ (u = v ∧ st'' = st')) (fun _ _ _ => False) (see ops o T) st')
    (z : DRunG P n (IG sts F base) S Es ops (i + 1) r Qs ((d, v) :: T) k) : DRunG P n (IG sts F base) S Es ops i (o :: r) ((fun u => u = v) :: Qs) T k := by
  obtain ⟨hd', hdn⟩ := dstA_some hd
  refine ⟨⟨v, rfl⟩, hdn, .inl ⟨hw, fun bs hl _ => ?_⟩, fun u hu => ?_⟩
  · rw [setBit_none Es bs hl hi]
    intro s g w a K' Q' ⟨s0, h1, h2, hle⟩ hs hk hn hK
    refine AOps.single hd' (dstOk_lt hdn d hd') (h s hle) hw hs hk K' Q' (fun rv g' w' u st' he hs' hR ⟨hu, hst⟩ => ?_) hn
    subst hu hst
    exact hK rv g' w' u st' he hs' hR rfl ⟨s0, h1, h2, hle⟩
  · subst hu
    rw [hd']
    exact z
/-- A quiet step that asks nothing. -/
theorem dsY {i : Nat} {o : Oper} {r : List Oper} {d : Tmp} {v : AV} {k : Tmps → St → Prop} (hi : Es.contains i = false := by exact rfl) (hs : step1 ops n base (see ops o T) o = some (d, v) := by exact rfl)
    (z : DRunG P n (IG sts F base) S Es ops (i + 1) r Qs ((d, v) :: T) k) : DRunG P n (IG sts F base) S Es ops i (o :: r) ((fun u => u = v) :: Qs) T k := by
  have hg : goes ops n (see ops o T) o = some d := by
    unfold step1 at hs
    split at hs
    · rename_i h1 h2
      cases hs
      exact h1
    · cases hs
  obtain ⟨hw, hd, hok⟩ := goes_some hg
  have hda : dstA n o.dst = some d := by
    unfold goes at hg
    rw [hw] at hg
    exact hg
  exact dqY hi hda hw (fun st' hle => sm ((step1_glob (n := n) (ops := ops) hle.glob (see ops o T) o).symm.trans hs) (nl ⟨v, rfl, rfl, rfl⟩)) z
/-- A step within the frame, its outcome known by Q. -/
theorem dfY (Q : AV → Prop) {i : Nat} {o : Oper} {r : List Oper} {d : Tmp} {k : Tmps → St → Prop} (hi : Es.contains i = false := by exact rfl) (hd : dstA n o.dst = some d := by exact rfl) (hw : wantedA ops (see ops o T) o = some true := by exact rfl) (hex : ∃ u, Q u)
    (h : ∀ s0 s, F s0 s → StLe s base → AOps P n ops [o] (fun T' st'' => ∃ u, T' = (d, u) :: see ops o T ∧ (Q u ∧ F s0 st'' ∧ StLe st'' base)) (fun _ _ _ => False) (see ops o T) s)
    (z : ∀ u, Q u → DRunG P n (IG sts F base) S Es ops (i + 1) r Qs ((d, u) :: T) k) : DRunG P n (IG sts F base) S Es ops i (o :: r) (Q :: Qs) T k := by
  obtain ⟨hd', hdn⟩ := dstA_some hd
  refine ⟨hex, hdn, .inl ⟨hw, fun bs hl _ => ?_⟩, fun u hu => ?_⟩
  · rw [setBit_none Es bs hl hi]
    intro s g w a K' Q' ⟨s0, h1, h2, hle⟩ hs hk hn hK
    exact AOps.single hd' (dstOk_lt hdn d hd') (h s0 s h2 hle) hw hs hk K' Q' (fun rv g' w' u st' he hs' hR hu => hK rv g' w' u st' he hs' hR hu.1 ⟨s0, h1, hu.2⟩) hn
  · rw [hd']
    exact z u hu
def allBits : Nat → List (List Bool)
  | 0 => [[]]
  | k + 1 => (allBits k).flatMap fun bs => [false :: bs, true :: bs]
theorem mem_allBits : ∀ (bs : List Bool), bs ∈ allBits bs.length
  | [] => by simp [allBits]
  | b :: bs => by
    rw [List.length_cons, allBits, List.mem_flatMap]
    exact ⟨bs, mem_allBits bs, by cases b <;> simp⟩
def BAll : List (List Bool) → (List Bool → Prop) → Prop
  | [], _ => True
  | b :: r, p => p b ∧ BAll r p
theorem BAll.get {p : List Bool → Prop} : ∀ {L : List (List Bool)}, BAll L p → ∀ bs ∈ L, p bs
  | b :: r, h, bs, hb => by
    rcases List.mem_cons.1 hb with hb | hb
    · subst hb; exact h.1
    · exact BAll.get h.2 bs hb
/-- A step that writes: out of every state in which it may be next. -/
theorem deY (L : List (List Bool)) {i : Nat} {o : Oper} {r : List Oper} {k : Tmps → St → Prop} (hL : (allBits Es.length).filter (mayBe S Es i) = L) (hd : o.dst = none := by exact rfl) (hw : wantedA ops (see ops o T) o = some true := by exact rfl)
    (h : BAll L fun bs => ∀ s0, sts bs = some s0 → ∃ s1, sts (setBit Es i bs) = some s1 ∧ ∀ s, F s0 s → StLe s base → AOps P n ops [o] (fun T' st'' => T' = see ops o T ∧ F s1 st'' ∧ StLe st'' base) (fun _ _ _ => False) (see ops o T) s)
    (z : DRunG P n (IG sts F base) S Es ops (i + 1) r Qs T k) : DRunG P n (IG sts F base) S Es ops i (o :: r) ((fun _ => True) :: Qs) T k := by
  refine ⟨⟨.bool true, trivial⟩, by rw [hd]; rfl, .inl ⟨hw, fun bs hl hm => ?_⟩, fun u _ => ?_⟩
  · intro s g w a K' Q' ⟨s0, h1, h2, hle⟩ hs hk hn hK
    obtain ⟨s1, h3, h4⟩ := h.get bs (by rw [← hL, List.mem_filter]; exact ⟨by rw [← hl]; exact mem_allBits bs, hm⟩) s0 h1
    refine AOps.singleN (h4 s h2 hle) hw hs hk K' Q' (fun rv g' w' st' he hs' hst => ?_) hn
    exact hK rv g' w' (.lit rv) st' he hs' (.lit rv) trivial ⟨s1, h3, hst⟩
  · rw [hd]
    exact z
theorem dnY {i : Nat} {sN : St} {k : Tmps → St → Prop} (hN : sts (Es.map fun _ => true) = some sN) (h : ∀ s, F sN s → StLe s base → k T s) : DRunG P n (IG sts F base) S Es ops i [] [] T k := by
  intro s ⟨s0, h1, h2, h3⟩
  rw [hN] at h1
  cases h1
  exact h s h2 h3
/-- A part in which a frame turns, and nothing else. -/
theorem AAny.segF {l : List Oper} {k : Nat} (k' : Nat) (F : St → Prop) {Qs : List (AV → Prop)} (base : St) (hok : segOk l k k' [] = true) (hF : F st) (hb : ∀ s, F s → StLe s base)
    (h : DRunG P n (IG (fun _ => some st) (fun _ b => F b) base) (predSets l []) [] l.toArray k ((l.drop k).take (k' - k)) Qs T fun T' st' => AAny P n l k' K E T' st') : AAny P n l k K E T st :=
  AAny.seg k' _ [] _ Qs hok rfl ⟨st, rfl, hF, hb _ hF⟩ h
theorem dnF {F : St → Prop} {i : Nat} {k : Tmps → St → Prop} (h : ∀ s, F s → k T s) : DRunG P n (IG (fun _ => some st) (fun _ b => F b) base) S [] ops i [] [] T k := by
  intro s ⟨s0, h1, h2, _⟩
  exact h s h2
end
end Go.AM
/- Slices that are appended to in place: out of nil, and frozen where they lie. No conditions: definitions and lemmas only. -/
namespace Go.AM
open Go.RowKit (Below)
section
variable {P : Program} {n : Nat} {K : Post} {E : EPost} {T : Tmps} {st : St} {ops : Array Oper} {rest : List Oper}
variable {ty : TypeId} {pos : String} {es : Array Edge} {gd : Option (Nat × Bool)} {d : Tmp} {x y : Operand} {dd : Option Tmp}
theorem append_nil_msl {g : G} {w : World} (hs : Sim g w st) {t e : TypeId} {sz by_ : Nat} {ez : Value} [hu : Und P t (.slice e)] [hie : Inf P e sz by_ ez] (hz : zok sz ez = true) {ty : TypeId} {rows2 : List (List AV)} {tk2 : Tok} {uy : Value}
    (h2 : R g w (.view sz rows2 tk2) uy) (h0 : rows2 ≠ []) (hb : rows2.length * by_ ≤ 140737488355328) (hm : rows2.length ≤ maxLen) :
    ∃ v w' g' o', (Builtin.append_ #[t, t] ty #[.slice none 0 0, uy]).run P w = .ok v w' ∧ Ext g w g' w' ∧ Sim g' w' (st.set o' (.cells e sz rows2)) ∧ R g' w' (.msl o' sz 0 rows2.length) v ∧ st.obj o' = none := by
  obtain ⟨z1, z2, z3, z4⟩ := zok_spec hz
  obtain ⟨inf, i1, i2, i3, i4⟩ := hie.out
  obtain ⟨base2, cap2, f2, rfl, hnil2, hR2, hl2, h12, hcell2, hone2⟩ := src_of h2
  have hpos : 0 < rows2.length := List.length_pos_iff.2 h0
  have hm64 : rows2.length ≤ 9223372036854775807 := by simp only [maxLen] at hm; omega
  obtain ⟨ad, rfl⟩ : ∃ ad, base2 = some ad := by
    cases base2 with
    | none => exact absurd (hnil2 rfl).1 h0
    | some ad => exact ⟨ad, rfl⟩
  subst i2
  have hr := run_append_nil (P := P) w t ty e inf ez hu.out i1 i4 ad rows2.length cap2 (flatV f2 rows2.length inf.size) (flatV_length _ _ _) (hcell2 ad rfl) hpos (by omega)
    (by rw [i3]; omega)
  have hge := grownCap_ge w rows2.length 0 e
  have hgm := grownCap_le_maxLen w rows2.length 0 e hm
  obtain ⟨hed, hsd⟩ := hs.draw
  generalize hcp : grownCap w rows2.length 0 e = cp at hr hge hgm
  generalize harr : (flatV f2 rows2.length inf.size).toArray ++ Builtin.zeroCells ez.cells (cp - rows2.length) = arr' at hr
  have hsize' : arr'.size = cp * inf.size := by
    rw [← harr]
    simp only [Array.size_append, List.size_toArray, flatV_length, size_zeroCells, z1, ← Nat.add_mul]
    congr 1
    omega
  obtain ⟨g', he, hs', hob', hnone⟩ := hsd.newObj (.cells arr' e) (.cells e inf.size rows2) (cp * inf.size) (fun g' he => by
    refine ⟨arr', heap_alloc_new _ _, hsize', Nat.mul_le_mul_right _ hge, hl2, h12, fun i j row c hr hcj => ?_⟩
    have hi : i < rows2.length := (List.getElem?_eq_some_iff.1 hr).1
    have hj : j < inf.size := by rw [← hl2 row (List.mem_of_getElem? hr)]; exact (List.getElem?_eq_some_iff.1 hcj).1
    have hlt := mul_add_lt hi hj
    refine ⟨f2 i j, ?_, ((hR2 i j row c hr hcj).ext hed).ext he⟩
    rw [← harr, ← Array.getElem?_toList]
    simp only [Array.toList_append]
    rw [List.getElem?_append_left (by rw [flatV_length]; exact hlt), flatV_at f2 hi hj])
  refine ⟨_, _, g', g.next, hr, hed.trans he, hs', ?_, hnone⟩
  have := R.msl (g := g') (w := w.drew.alloc (.cells arr' e)) g.next inf.size 0 rows2.length cp w.drew.heap.size (cp * inf.size) hob' hge hgm (by simp)
  simpa using this
/-- A slice that is appended to in place, or nil. -/
def mslot (sz : Nat) (len : Nat) : Option Nat → AV
  | none => .view 0 [] .nil
  | some o => .msl o sz 0 len
def mst (st : St) (e : TypeId) (sz : Nat) (rows : List (List AV)) : Option Nat → St
  | none => st
  | some o => st.set o (.cells e sz rows)
def mfit (st : St) (len : Nat) : Option Nat → Prop
  | none => len = 0
  | some o => st.obj o = none
/-- append in place. -/
theorem apq {t e : TypeId} {sz by_ : Nat} {ez : Value} [hu : Und P t (.slice e)] [hie : Inf P e (sz + 1) by_ ez] {oo : Option Nat} {rows rows2 : List (List AV)} {tk2 : Tok}
    (hg : goes ops n T ⟨dd, .call ⟨.builtin .append, #[x, y], #[t, t]⟩, ty, pos, es, gd⟩ = some d) (hx : ev st T x = some (mslot (sz + 1) rows.length oo)) (hy : ev st T y = some (.view (sz + 1) rows2 tk2)) (hf : mfit st rows.length oo)
    (h0 : rows2 ≠ []) (hz : zok (sz + 1) ez = true) (hb : (rows.length + rows2.length) * by_ ≤ 140737488355328) (hm : rows.length + rows2.length ≤ maxLen)
    (k : ∀ o', st.obj o' = none → AOps P n ops rest K E ((d, .msl o' (sz + 1) 0 (rows.length + rows2.length)) :: T) (st.set o' (.cells e (sz + 1) (rows ++ rows2)))) :
    AOps P n ops (⟨dd, .call ⟨.builtin .append, #[x, y], #[t, t]⟩, ty, pos, es, gd⟩ :: rest) K E T (mst st e (sz + 1) rows oo) := by
  cases oo with
  | none =>
    have hrows : rows = [] := List.eq_nil_of_length_eq_zero hf
    subst hrows
    refine AOps.stepAny hg fun g w a hs hk => ?_
    have h1 := ev_R hs hk hx
    have h2 := ev_R hs hk hy
    generalize hux : a.eval x = ux at h1
    generalize huy : a.eval y = uy at h2
    have hrv : ux = .slice none 0 0 := by
      cases h1 with
      | vnil => rfl
      | vemp _ _ _ hn _ => exact absurd rfl hn
      | view _ _ _ _ _ _ _ _ _ _ _ ht' => simp [TokAt] at ht'
    subst hrv
    obtain ⟨v, w', g', o', hr, he, hs', hR, hn⟩ := append_nil_msl (P := P) hs (t := t) (ty := ty) hz h2 h0 (by simpa using hb) (by simpa using hm)
    exact ⟨v, g', w', _, _, by simp [execOp, resolve, invoke, builtin, hux, huy, hr], he, hs', by simpa using hR, k o' hn⟩
  | some o =>
    have hfo : st.obj o = none := hf
    have hx' : ev (mst st e (sz + 1) rows (some o)) T x = some (.msl o (sz + 1) 0 rows.length) := (ev_glob (s := mst st e (sz + 1) rows (some o)) (s' := st) rfl T x).trans hx
    have hy' : ev (mst st e (sz + 1) rows (some o)) T y = some (.view (sz + 1) rows2 tk2) := (ev_glob (s := mst st e (sz + 1) rows (some o)) (s' := st) rfl T y).trans hy
    refine apm hg hx' hy' (St.obj_set _ _ _) (Nat.le_refl _) h0 hz hb hm fun o' ho' => ?_
    have hn : st.obj o' = none := by
      rcases ho' with h | h
      · rw [h]; exact hfo
      · by_cases e : o' = o
        · rw [e]; exact hfo
        · have h' : (st.set o (.cells _ (sz + 1) rows)).obj o' = none := h
          rwa [St.obj_set_ne e] at h'
    rw [List.take_of_length_le (Nat.le_refl _)]
    exact AOps.weaken (TLe.refl _) (StLe.regrow hfo) (k o' hn)
/-- A slice of a mutable object is frozen where it lies. -/
theorem Sim.frzIn {g : G} {w : World} (hs : Sim g w st) {o o' s i j sz lo len : Nat} {oty oty' : TypeId} {rows rows' : List (List AV)} {row : List AV} (hne : o ≠ o') (ho : st.obj o = some (.cells oty s rows)) (hr : rows[i]? = some row) (hj : row[j]? = some (.msl o' sz lo len))
    (ho' : st.obj o' = some (.cells oty' sz rows')) (hl : lo + len ≤ rows'.length) :
    ∃ g', Ext g w g' w ∧ Sim g' w ((st.drop o').set o (.cells oty s (rows.set i (row.set j (.view sz ((rows'.drop lo).take len) .shared))))) := by
  obtain ⟨b, m, hb, _, _, _⟩ := hs.objs o _ ho
  obtain ⟨_, ⟨arr, ha, hasz, hml, hlr, h1, hc⟩, _⟩ := hs.objOf ho hb
  obtain ⟨v0, hv0, hR0⟩ := hc i j row _ hr hj
  obtain ⟨g', he, hs', hRv⟩ := hR0.frozen hs ho' hl
  have hoo : (st.drop o').obj o = some (.cells oty s rows) := by rw [St.obj_drop_ne hne]; exact ho
  have hb' := he.obj o _ hb
  have hil : i < rows.length := (List.getElem?_eq_some_iff.1 hr).1
  have hjl : j < row.length := (List.getElem?_eq_some_iff.1 hj).1
  obtain ⟨_, ⟨arr2, ha2, hasz2, hml2, hlr2, h12, hc2⟩, _⟩ := hs'.objOf hoo hb'
  rw [ha] at ha2
  cases ha2
  obtain ⟨he2, hs2⟩ := hs'.write (c' := .cells oty s (rows.set i (row.set j (.view sz ((rows'.drop lo).take len) .shared)))) hoo hb' w rfl rfl rfl rfl (fun _ _ => rfl) (fun _ => by
    refine ⟨arr, ha, hasz, by simpa using hml, fun r hm => ?_, fun r hm => ?_, fun i' j' r c hr' hc' => ?_⟩
    · rcases List.mem_or_eq_of_mem_set hm with h | h
      · exact hlr r h
      · rw [h, List.length_set]; exact hlr row (List.mem_of_getElem? hr)
    · rcases List.mem_or_eq_of_mem_set hm with h | h
      · exact h1 r h
      · subst h
        intro c hcm
        rcases List.mem_or_eq_of_mem_set hcm with h2 | h2
        · exact h1 row (List.mem_of_getElem? hr) c h2
        · subst h2; rfl
    · by_cases hi : i' = i
      · subst hi
        rw [List.getElem?_set_self hil] at hr'
        cases hr'
        by_cases hjj : j' = j
        · subst hjj
          rw [List.getElem?_set_self hjl] at hc'
          cases hc'
          exact ⟨v0, hv0, hRv⟩
        · rw [List.getElem?_set_ne (Ne.symm hjj)] at hc'
          exact hc2 i' j' row c hr hc'
      · rw [List.getElem?_set_ne (Ne.symm hi)] at hr'
        exact hc2 i' j' r c hr' hc')
  exact ⟨g', he, hs2⟩
theorem AWP.frzIn {c : Code} {o o' s i j sz lo len : Nat} {oty oty' : TypeId} {rows rows' : List (List AV)} {row : List AV} (hne : o ≠ o') (ho : st.obj o = some (.cells oty s rows)) (hr : rows[i]? = some row) (hj : row[j]? = some (.msl o' sz lo len))
    (ho' : st.obj o' = some (.cells oty' sz rows')) (hl : lo + len ≤ rows'.length)
    (h : AWP P n c K E T ((st.drop o').set o (.cells oty s (rows.set i (row.set j (.view sz ((rows'.drop lo).take len) .shared)))))) : AWP P n c K E T st :=
  AWP.ghost fun g w a hs hk => by
    obtain ⟨g', he, hs'⟩ := hs.frzIn hne ho hr hj ho' hl
    exact ⟨g', T, _, he, hs', hk.ext he, h⟩
/-- The length of a slice that is appended to in place, or nil. -/
theorem lnq {t u : TypeId} {e : TypeId} [hu : Und P t (.slice e)] {sz len : Nat} {oo : Option Nat}
    (hg : goes ops n T ⟨dd, .call ⟨.builtin .len, #[x], #[t]⟩, u, pos, es, gd⟩ = some d) (hx : ev st T x = some (mslot sz len oo)) (h0 : oo = none → len = 0)
    (k : AOps P n ops rest K E ((d, .int .i64 len) :: T) st) : AOps P n ops (⟨dd, .call ⟨.builtin .len, #[x], #[t]⟩, u, pos, es, gd⟩ :: rest) K E T st := by
  cases oo with
  | none =>
    have h := h0 rfl
    subst h
    exact lnv hg hx k
  | some o => exact lnm hg hx k
/-- Nothing but the package-level variables. -/
def St.bareOf (s : St) : St := { obj := fun _ => none, tok := fun _ => false, glob := s.glob }
theorem StLe.bare {s s' : St} (h : s'.glob = s.glob) : StLe s' s.bareOf := ⟨fun _ _ h => (by cases h), fun _ h => (by cases h), h.symm⟩
theorem absV_agg {cs : Array Value} (h : cs.toList.all Value.oneCell' = true) : absV (.agg cs) = .agg (cs.toList.map abs1) := by
  have h' : cs.all Value.oneCell' = true := by rw [← Array.all_toList]; exact h
  simp only [absV, h', cond_true]
/-- A literal of a slice with one constant element, not appended to. -/
theorem bz1 {t e : TypeId} {esz eby : Nat} {ez : Value} {cs : Array Value} {row : List AV} [hu : Und P t (.slice e)] [hie : Inf P e (esz + 1) eby ez] (hg : goes ops n T ⟨dd, .buildSlice t 1 #[(0, .const (.agg cs))], ty, pos, es, gd⟩ = some d := by exact rfl)
    (hz : zok (esz + 1) ez = true := by exact rfl) (hsm : Nat.ble (1 * (esz + 1)) 16777216 = true := by exact rfl) (hc : cs.toList.all Value.oneCell' = true := by exact rfl) (hr : cs.toList.map abs1 = row := by exact rfl) (hl : Nat.beq row.length (esz + 1) = true := by exact rfl)
    (z : AOps P n ops rest K E ((d, .view (esz + 1) [row] .shared) :: T) st) : AOps P n ops (⟨dd, .buildSlice t 1 #[(0, .const (.agg cs))], ty, pos, es, gd⟩ :: rest) K E T st := by
  refine bs1 (v := .agg row) hg hz hsm ?_ hl rfl z
  rw [← hr]
  exact congrArg some (absV_agg hc)
end
end Go.AM
/- The generator: expressions of every depth, numbers as digits, the maker's state, new names. No conditions: definitions and lemmas only. -/
namespace Go.Proofs
open Go.AM
attribute [local irreducible] AWP AOps ACalls AAny
set_option linter.unusedSimpArgs false

theorem GE_mono : ∀ {d : Nat} {row : List AV}, GE d row → GE (d + 1) row
  | 0, _, h => h.elim
  | d + 1, row, h => by
    obtain ⟨op, num, name, field, rows, rfl, h1, h2, h3, h4, h5, h6, h7, h8⟩ := h
    exact ⟨op, num, name, field, rows, rfl, h1, h2, h3, h4, h5, h6, h7, fun r hr => GE_mono (h8 r hr)⟩
theorem GE_le {d e : Nat} (hde : d ≤ e) {row : List AV} (h : GE d row) : GE e row := by
  induction hde with
  | refl => exact h
  | step _ ih => exact GE_mono ih
set_option maxHeartbeats 4000000 in
theorem expr_deep (l : List Int) (hl : l.length ≤ 17592186043904) (oT oM : Nat) (hne : oM ≠ oT) (st0 s : St) (f funcs : Int) (pv sv tv av : AV) (count left : Int) (hM0 : st0.obj oM = some (mkC oT f funcs pv sv tv av count left)) (h : TI l oT st0 s) (deep : Int) (d1 : 3 ≤ deep) :
    ACalls Tryd.prog 46 [.cptr oM 9 0 0, .int .i64 deep] s (fun v s' => (∃ row, v = .agg row ∧ GE 1 row) ∧ TI l oT st0 s') (fun _ _ => False) := by
  refine ACalls.ofBody Tryd.func46 rfl Tryd.ntmps46 rfl ?_
  repeat (refine AWP.seq ?_)
  refine rg ?_
  refine al rfl rfl fun o4 h4 => ?_
  have o4T : o4 ≠ oT := fun e => by obtain ⟨j, _, hj⟩ := h.obj; rw [e, hj] at h4; cases h4
  have o4M : oM ≠ o4 := fun e => by rw [← e, h.other hne, hM0] at h4; cases h4
  generalize hz : AObj.cells 77 6 [zrow (Value.agg #[.int .i64 0, .int .i64 0, .int .i64 0, .string ⟨#[]⟩, .string ⟨#[]⟩, .slice none 0 0])] = z
  have h1 := h.under (c := z) o4T
  obtain ⟨b1, hb1⟩ : ∃ b1, b1 = st0.set o4 z := ⟨_, rfl⟩
  rw [← hb1] at h1
  have hM1 : b1.obj oM = some (mkC oT f funcs pv sv tv av count left) := by rw [hb1, St.obj_set_ne o4M]; exact hM0
  have hM : ∀ x, TI l oT b1 x → x.obj oM = some (mkC oT f funcs pv sv tv av count left) := fun x hx => by rw [hx.other hne]; exact hM1
  have fin : ∀ x, TI l oT b1 x → ∃ y, TI l oT st0 y ∧ x = y.set o4 z ∧ y.obj o4 = none := fun x ⟨j, hj, hx⟩ => ⟨st0.set oT (tapeC l j), ⟨j, hj, rfl⟩, by rw [hx, hb1, St.set_comm _ o4T], by
    obtain ⟨i, _, hi⟩ := h
    rw [hi, St.obj_set_ne o4T] at h4
    rw [St.obj_set_ne o4T, h4]⟩
  generalize s.set o4 z = s1 at h1
  have m1 := hM s1 h1
  repeat (first | refine nl ?_ | refine AWP.seq ?_ | refine rg ?_ | refine ZA (z := ?_) | refine ZC (z := ?_) | refine ZH (z := ?_))
  refine cl rfl rfl (next_ti l hl 16 (by decide) (by decide) oT b1 s1 h1) fun v s2 ⟨⟨k, hv, k0, k1⟩, h2⟩ => ?_
  subst hv
  have m2 := hM s2 h2
  repeat (first | refine nl ?_ | refine AWP.seq ?_ | refine rg ?_ | refine AWP.block ?_ | refine YH (z := ?_) | refine ZA (z := ?_) | refine ZB (z := ?_) | refine ZC (z := ?_) | refine ZH (z := ?_) | refine YD (z := ?_))
  refine cl rfl rfl (number_ti l hl oT b1 s2 h2) fun v s3 ⟨⟨x, hv, x0, x1⟩, h3⟩ => ?_
  subst hv
  repeat (refine YC (z := ?_))
  obtain ⟨y, hy, rfl, y4⟩ := fin s3 h3
  subst hz
  refine soV rfl rfl rfl rfl rfl rfl ?_
  repeat (refine nl ?_)
  exact AWP.ret (rets (resCW rfl (St.obj_set _ _ _) rfl rfl rfl rfl) (.refl _) (StLe.new y4 (.refl _)) ⟨⟨_, rfl, GE_lit 0 x0 x1⟩, hy⟩)
theorem expr_all (l : List Int) (hl : l.length ≤ 17592186043904) (oT oM : Nat) (hne : oM ≠ oT) (st0 : St) (f funcs : Int) (pv sv tv av : AV) (count left : Int) (S : NL sv) (D : NL tv) (A : NL av) (hM0 : st0.obj oM = some (mkC oT f funcs pv sv tv av count left)) :
    ∀ i : Nat, i ≤ 3 → ExprC l oT oM st0 (3 - i : Int) (i + 1)
  | 0, _ => fun b s hb h => expr_deep l hl oT oM hne b s f funcs pv sv tv av count left (hb.trans hM0) h _ (by omega)
  | i + 1, hi => fun b s hb h => by
    have ih := expr_all l hl oT oM hne b f funcs pv sv tv av count left S D A (hb.trans hM0) i (by omega)
    have e : (3 - (i : Int)) = 3 - ((i + 1 : Nat) : Int) + 1 := by omega
    rw [e] at ih
    exact expr_step l hl oT oM hne b s f funcs pv sv tv av count left S D A (hb.trans hM0) h _ i (by omega) (by omega) ih
theorem ExprC.le {l : List Int} {oT oM : Nat} {st : St} {deep : Int} {d e : Nat} (h : ExprC l oT oM st deep d) (hde : d ≤ e) : ExprC l oT oM st deep e := fun b s hb hs =>
  (h b s hb hs).mono (fun _ _ ⟨⟨row, hv, hg⟩, ht⟩ => ⟨⟨row, hv, GE_le hde hg⟩, ht⟩) (fun _ _ h => h)

theorem wrapu8 {a : Int} (h : 0 ≤ a ∧ a < 256) : IntKind.u8.wrap a = a := by
  show a % 256 = a
  omega
/-- The digits of a number below 10 ^ k. -/
def digs : Nat → Nat → List UInt8
  | 0, _ => []
  | k + 1, n => if n < 10 then [UInt8.ofNat (48 + n)] else digs k (n / 10) ++ [UInt8.ofNat (48 + n % 10)]
theorem digs_len : ∀ (k n : Nat), (digs k n).length ≤ k
  | 0, _ => by simp [digs]
  | k + 1, n => by
    rw [digs]
    split
    · simp
    · have := digs_len k (n / 10)
      simp; omega
theorem digits_ok : ∀ (k n : Nat), n < 10 ^ k → 1 ≤ k → k ≤ 18 → ∀ st, ACalls Tryd.prog 42 [.int .i64 (n : Int)] st (fun v st' => v = .str (digs k n) ∧ st' = st) (fun _ _ => False)
  | 0, n, _, h1, _, st => by omega
  | k + 1, n, hn, _, hk, st => by
    have hp : 10 ^ (k + 1) ≤ 10 ^ 18 := Nat.pow_le_pow_right (by omega) hk
    have ih := digits_ok k
    refine ACalls.ofBody Tryd.func42 rfl Tryd.ntmps42 rfl ?_
    repeat (first | refine nl ?_ | refine AWP.seq ?_ | refine rg ?_ | refine AWP.skip ?_ | refine YI (z := ?_) | refine ZA (z := ?_))
    by_cases h10 : n < 10
    · repeat (first | refine AWP.seq ?_ | refine rg ?_ | refine YH (z := ?_) | refine ZA (z := ?_))
      refine adn (a := 48) rfl rfl rfl (by omega) ?_
      have hb : (UInt8.ofNat (48 + n)).toNat = 48 + n := by rw [UInt8.toNat_ofNat']; omega
      refine cv (c := ((48 + n : Nat) : Int)) rfl rfl (wrapu8 (by omega)) ?_
      rw [← hb]
      have e : digs (k + 1) n = [UInt8.ofNat (48 + n)] := by rw [digs, if_pos h10]
      rw [e]
      generalize UInt8.ofNat (48 + n) = b
      repeat (refine ZQ (z := ?_))
      refine cbs (l := [b]) rfl rfl ?_
      repeat (first | refine nl ?_ | refine ZA (z := ?_))
      exact AWP.ret (rets rfl (.refl _) (.refl _) ⟨rfl, rfl⟩)
    · have e : digs (k + 1) n = digs k (n / 10) ++ [UInt8.ofNat (48 + n % 10)] := by rw [digs, if_neg h10]
      have hk1 : 1 ≤ k := by
        rcases Nat.eq_zero_or_pos k with h | h
        · subst h; simp at hn; omega
        · exact h
      repeat (first | refine AWP.seq ?_ | refine rg ?_ | refine AWP.skip ?_ | refine YI (z := ?_) | refine ZA (z := ?_))
      refine qu rfl rfl rfl (by decide) (by rw [Int.tdiv_eq_ediv_of_nonneg (by omega)]; omega) ?_
      rw [show ((n : Int)).tdiv 10 = ((n / 10 : Nat) : Int) by rw [Int.tdiv_eq_ediv_of_nonneg (by omega)]; omega]
      refine cle rfl rfl (ih (n / 10) (by rw [Nat.pow_succ] at hn; omega) hk1 (by omega) st) ?_
      repeat (refine ZA (z := ?_))
      refine rm rfl rfl rfl (by decide) ?_
      rw [show ((n : Int)).tmod 10 = ((n % 10 : Nat) : Int) by rw [Int.tmod_eq_emod_of_nonneg (by omega)]; omega]
      have h1 := ih (n % 10) (Nat.lt_of_lt_of_le (Nat.mod_lt _ (by omega)) (Nat.pow_le_pow_right (n := 10) (by omega) hk1)) hk1 (by omega) st
      have e1 : digs k (n % 10) = [UInt8.ofNat (48 + n % 10)] := by
        obtain ⟨j, rfl⟩ : ∃ j, k = j + 1 := ⟨k - 1, by omega⟩
        rw [digs, if_pos (Nat.mod_lt _ (by omega))]
      rw [e1] at h1
      refine cle rfl rfl h1 ?_
      refine sad rfl rfl rfl (by have := digs_len k (n / 10); simp only [List.length_cons, List.length_nil]; omega) ?_
      rw [e]
      repeat (first | refine nl ?_ | refine ZA (z := ?_))
      exact AWP.ret (rets rfl (.refl _) (.refl _) ⟨rfl, rfl⟩)
end Go.Proofs
/- The generator: the maker's state with its lists, and what turns it: numbers, expressions, new names, declarations. No conditions: definitions and lemmas only. -/
namespace Go.Proofs
open Go.AM
attribute [local irreducible] AWP AOps ACalls AAny
set_option linter.unusedSimpArgs false

/-- What stays as long as a function is made. -/
structure MEnv where
  l : List Int
  oT : Nat
  oM : Nat
  f : Nat
  funcs : Nat
  ps : List Nat
  hl : l.length ≤ 17592186043904
  hne : oM ≠ oT
  hf : f < funcs
  hfs : funcs ≤ 4
  hps : ps.length = 4
  hp : ∀ p ∈ ps, p ≤ 4
/-- What turns. -/
structure MA where
  j : Nat
  S : List (List UInt8)
  D : List (List UInt8)
  A : List (List UInt8)
  kS : Nat
  kD : Nat
  kA : Nat
  count : Nat
  left : Nat
def nrows (S : List (List UInt8)) : List (List AV) := S.map fun s => [AV.str s]
theorem nrows_len (S : List (List UInt8)) : (nrows S).length = S.length := List.length_map ..
theorem nrows_get {S : List (List UInt8)} {i : Nat} (h : i < S.length) : (nrows S)[i]? = some [AV.str S[i]] := by
  rw [nrows, List.getElem?_map, List.getElem?_eq_getElem h]; rfl
theorem nrows_append (S : List (List UInt8)) (s : List UInt8) : nrows S ++ [[AV.str s]] = nrows (S ++ [s]) := by
  rw [nrows, nrows, List.map_append]; rfl
theorem nrows_take (S : List (List UInt8)) (n : Nat) : (nrows S).take n = nrows (S.take n) := by rw [nrows, nrows, List.map_take]
/-- The slices of the maker. -/
def gnv (S : List (List UInt8)) (k : Nat) : AV := .view 1 (nrows S) (.own k 9)
def MA.toks (a : MA) : List (Option Nat) := [some a.kS, some a.kD, some a.kA]
def MEnv.pv (E : MEnv) : AV := .view 1 (E.ps.map fun (p : Nat) => [AV.int .i64 (p : Int)]) .shared
def MEnv.c (E : MEnv) (a : MA) : AObj := mkC E.oT (E.f : Int) (E.funcs : Int) E.pv (gnv a.S a.kS) (gnv a.D a.kD) (gnv a.A a.kA) (a.count : Int) (a.left : Int)
def MEnv.st (E : MEnv) (st0 : St) (a : MA) : St := ((st0.set E.oT (tapeC E.l a.j)).set E.oM (E.c a)).toks a.toks
theorem MEnv.st_M (E : MEnv) (st0 : St) (a : MA) : E.st st0 a = ((st0.set E.oT (tapeC E.l a.j)).toks a.toks).set E.oM (E.c a) := rfl
theorem MEnv.obj_M (E : MEnv) (st0 : St) (a : MA) : (E.st st0 a).obj E.oM = some (E.c a) := St.obj_set _ _ _
theorem MEnv.obj_T (E : MEnv) (st0 : St) (a : MA) : (E.st st0 a).obj E.oT = some (tapeC E.l a.j) := by
  show ((st0.set E.oT _).set E.oM _).obj E.oT = _
  rw [St.obj_set_ne (Ne.symm E.hne)]
  exact St.obj_set _ _ _
theorem MEnv.obj_o (E : MEnv) {st0 : St} {a : MA} {o : Nat} (h1 : o ≠ E.oT) (h2 : o ≠ E.oM) : (E.st st0 a).obj o = st0.obj o := by
  show ((st0.set E.oT _).set E.oM _).obj o = _
  rw [St.obj_set_ne h2, St.obj_set_ne h1]
theorem MEnv.new {E : MEnv} {st0 : St} {a : MA} {o : Nat} (h : (E.st st0 a).obj o = none) : o ≠ E.oT ∧ o ≠ E.oM ∧ st0.obj o = none := by
  have h1 : o ≠ E.oT := fun e => by rw [e, E.obj_T] at h; cases h
  have h2 : o ≠ E.oM := fun e => by rw [e, E.obj_M] at h; cases h
  exact ⟨h1, h2, by rw [E.obj_o h1 h2] at h; exact h⟩
theorem MEnv.under (E : MEnv) {st0 : St} {a : MA} {o : Nat} (h1 : o ≠ E.oT) (h2 : o ≠ E.oM) (c : AObj) : (E.st st0 a).set o c = E.st (st0.set o c) a := by
  show ((((st0.set E.oT _).set E.oM _).set o c).toks _) = ((((st0.set o c).set E.oT _).set E.oM _).toks _)
  rw [St.set_comm _ (Ne.symm h2), St.set_comm st0 (Ne.symm h1)]
theorem MEnv.tape (E : MEnv) (st0 : St) (a : MA) (j : Nat) : (E.st st0 a).set E.oT (tapeC E.l j) = E.st st0 { a with j := j } := by
  show ((((st0.set E.oT _).set E.oM _).set E.oT _).toks _) = _
  rw [St.set_comm _ E.hne, St.set_set]
  rfl
/-- The lists are short, their names too. -/
structure MV (E : MEnv) (st0 : St) (a : MA) : Prop where
  j : a.j ≤ E.l.length
  nS : ∀ s ∈ a.S, s.length ≤ 30
  nD : ∀ s ∈ a.D, s.length ≤ 30
  nA : ∀ s ∈ a.A, s.length ≤ 30
  lS : a.S.length ≤ 4 + a.count
  lD : a.D.length ≤ a.count
  lA : a.A.length ≤ a.count
  c : a.count + a.left ≤ 22
  tk : TokL st0 a.toks
/-- How the maker goes on. -/
structure MLe (a b : MA) : Prop where
  S : a.S.length ≤ b.S.length
  D : a.D.length ≤ b.D.length
  A : a.A.length ≤ b.A.length
  left : b.left ≤ a.left
theorem MLe.refl (a : MA) : MLe a a := ⟨Nat.le_refl _, Nat.le_refl _, Nat.le_refl _, Nat.le_refl _⟩
theorem MLe.trans {a b c : MA} (h : MLe a b) (k : MLe b c) : MLe a c := ⟨Nat.le_trans h.S k.S, Nat.le_trans h.D k.D, Nat.le_trans h.A k.A, Nat.le_trans k.left h.left⟩
theorem TokL.of_tok {st st' : St} {L : List (Option Nat)} (h : TokL st L) (e : st'.tok = st.tok) : TokL st' L := ⟨h.one, fun i t hi => by rw [e]; exact h.fresh i t hi⟩
theorem MV.set {E : MEnv} {st0 : St} {a : MA} (h : MV E st0 a) (o : Nat) (c : AObj) : MV E (st0.set o c) a := { h with tk := TokL.of_tok h.tk rfl }
theorem MV.unset {E : MEnv} {st0 : St} {a : MA} {o : Nat} {c : AObj} (h : MV E (st0.set o c) a) : MV E st0 a := { h with tk := TokL.of_tok h.tk rfl }
theorem MV.tape {E : MEnv} {st0 : St} {a : MA} (h : MV E st0 a) {j : Nat} (hj : j ≤ E.l.length) : MV E st0 { a with j := j } := { h with j := hj }
def NL.mk' {S : List (List UInt8)} {k : Nat} (h : ∀ s ∈ S, s.length ≤ 30) (hl : S.length ≤ 60) : NL (gnv S k) where
  rows := nrows S
  tok := .own k 9
  is := rfl
  len := by rw [nrows_len]; exact hl
  name i hi := by
    rw [nrows_len] at hi
    exact ⟨_, nrows_get hi, h _ (List.getElem_mem hi)⟩
def MV.NS {E : MEnv} {st0 : St} {a : MA} (h : MV E st0 a) : NL (gnv a.S a.kS) := .mk' h.nS (by have := h.lS; have := h.c; omega)
def MV.ND {E : MEnv} {st0 : St} {a : MA} (h : MV E st0 a) : NL (gnv a.D a.kD) := .mk' h.nD (by have := h.lD; have := h.c; omega)
def MV.NA {E : MEnv} {st0 : St} {a : MA} (h : MV E st0 a) : NL (gnv a.A a.kA) := .mk' h.nA (by have := h.lA; have := h.c; omega)
theorem MEnv.ti (E : MEnv) {st0 : St} {a : MA} (hv : MV E st0 a) : TI E.l E.oT (E.st st0 a) (E.st st0 a) := ⟨a.j, hv.j, (E.tape st0 a a.j).symm⟩
theorem MEnv.of_ti {E : MEnv} {st0 : St} {a : MA} {s : St} (h : TI E.l E.oT (E.st st0 a) s) : ∃ j, j ≤ E.l.length ∧ s = E.st st0 { a with j := j } := by
  obtain ⟨j, hj, rfl⟩ := h
  exact ⟨j, hj, E.tape st0 a j⟩
/-- The tape alone has turned. -/
def MJ (E : MEnv) (st0 : St) (a : MA) (s : St) : Prop := ∃ j, j ≤ E.l.length ∧ s = E.st st0 { a with j := j }
theorem next_m (E : MEnv) {st0 : St} {a : MA} (hv : MV E st0 a) (k : Int) (hk : 0 < k) (hk2 : k ≤ 4611686018427387904) :
    ACalls Tryd.prog 28 [.cptr E.oT 2 0 0, .int .i64 k] (E.st st0 a) (fun v s' => (∃ n : Nat, v = .int .i64 (n : Int) ∧ (n : Int) < k) ∧ MJ E st0 a s') (fun _ _ => False) := by
  refine (next_ti E.l E.hl k hk hk2 E.oT _ _ (E.ti hv)).mono (fun v s' ⟨⟨n, h1, h2, h3⟩, h4⟩ => ?_) (fun _ _ h => h)
  exact ⟨⟨n.toNat, by rw [h1, Int.toNat_of_nonneg h2], by omega⟩, MEnv.of_ti h4⟩
theorem expr_m (E : MEnv) {st0 : St} {a : MA} (hv : MV E st0 a) (deep : Int) (h0 : 0 ≤ deep) (h3 : deep ≤ 3) :
    ACalls Tryd.prog 46 [.cptr E.oM 9 0 0, .int .i64 deep] (E.st st0 a) (fun v s' => (∃ row, v = .agg row ∧ GE 4 row) ∧ MJ E st0 a s') (fun _ _ => False) := by
  have h := expr_all E.l E.hl E.oT E.oM E.hne (E.st st0 a) _ _ _ _ _ _ _ _ hv.NS hv.ND hv.NA (E.obj_M st0 a) (3 - deep).toNat (by omega)
  rw [show 3 - ((3 - deep).toNat : Int) = deep by omega] at h
  exact ((h.le (e := 4) (by omega)) _ _ rfl (E.ti hv)).mono (fun v s' ⟨h1, h2⟩ => ⟨h1, MEnv.of_ti h2⟩) (fun _ _ h => h)
theorem element_m (E : MEnv) {st0 : St} {a : MA} (hv : MV E st0 a) (hA : 0 < a.A.length) :
    ACalls Tryd.prog 57 [.cptr E.oM 9 0 0, .int .i64 1] (E.st st0 a) (fun v s' => (∃ row, v = .agg row ∧ GE 4 row) ∧ MJ E st0 a s') (fun _ _ => False) := by
  have h := expr_all E.l E.hl E.oT E.oM E.hne (E.st st0 a) _ _ _ _ _ _ _ _ hv.NS hv.ND hv.NA (E.obj_M st0 a) 2 (by omega)
  have h2 := element_ok E.l E.hl E.oT E.oM E.hne (E.st st0 a) (E.st st0 a) _ _ _ _ _ _ _ _ hv.NA (by show 0 < (nrows a.A).length; rw [nrows_len]; exact hA) (E.obj_M st0 a) (E.ti hv) 1 3 (fun n h1 h2 => GE_lit 2 h1 h2) h
  exact h2.mono (fun v s' ⟨h1, h2⟩ => ⟨h1, MEnv.of_ti h2⟩) (fun _ _ h => h)
theorem fresh_m (E : MEnv) {st0 : St} {a : MA} (hc : a.count < 30) :
    ACalls Tryd.prog 49 [.cptr E.oM 9 0 0] (E.st st0 a) (fun v s' => (∃ w : List UInt8, v = .str w ∧ w.length ≤ 30) ∧ s' = E.st st0 { a with count := a.count + 1 }) (fun _ _ => False) := by
  refine ACalls.ofBody Tryd.func49 rfl Tryd.ntmps49 rfl ?_
  have hM := E.obj_M st0 a
  repeat (first | refine nl ?_ | refine AWP.seq ?_ | refine rg ?_ | refine ZA (z := ?_) | refine ZC (z := ?_) | refine ZH (z := ?_) | refine ZO (z := ?_))
  rw [E.st_M st0 a]
  unfold MEnv.c mkC
  refine YB (row' := mkRow E.oT E.f E.funcs E.pv (gnv a.S a.kS) (gnv a.D a.kD) (gnv a.A a.kA) ((a.count + 1 : Nat) : Int) a.left) (hle := by exact Nat.le_of_ble_eq_true rfl) (he := by exact rfl) (z := ?_)
  repeat (first | refine nl ?_ | refine AWP.seq ?_ | refine rg ?_ | refine ZA (z := ?_) | refine ZC (z := ?_) | refine ZH (z := ?_))
  have hd := digits_ok 18 (a.count + 1) (by omega) (by decide) (by decide)
  refine cle rfl rfl (hd _) ?_
  have hl := digs_len 18 (a.count + 1)
  refine sad rfl rfl rfl (by simp only [List.length_cons, List.length_nil]; omega) ?_
  repeat (first | refine nl ?_ | refine ZA (z := ?_))
  exact AWP.ret (rets rfl (.refl _) (.refl _) ⟨⟨_, rfl, by simp only [List.length_append, List.length_cons, List.length_nil]; omega⟩, rfl⟩)
end Go.Proofs
/- The generator: statements' cells, declarations. No conditions: definitions and lemmas only. -/
namespace Go.Proofs
open Go.AM
attribute [local irreducible] AWP AOps ACalls AAny
set_option linter.unusedSimpArgs false

/-- A statement's cells. -/
def stRow (kind len : Int) (name typ fn : List UInt8) (tg args body els : AV) : List AV := [.int .i64 kind, .int .i64 0, .int .i64 0, .str name, .str typ, .int .i64 len, .int .i64 0, tg, .str fn, .int .i64 0, args, body, els]
def vw (sz : Nat) (rows : List (List AV)) : AV := .view sz rows .shared
theorem st_le {kind len : Int} {name typ fn : List UInt8} {tg args body els tg' args' body' els' : AV} (h1 : Le tg tg') (h2 : Le args args') (h3 : Le body body') (h4 : Le els els') (g1 : tg'.one = true) (g2 : args'.one = true) (g3 : body'.one = true) (g4 : els'.one = true) :
    Le (.agg (stRow kind len name typ fn tg args body els)) (.agg (stRow kind len name typ fn tg' args' body' els')) := by
  refine .agg _ _ rfl (fun c hc => by simp only [stRow, List.mem_cons, List.not_mem_nil, or_false] at hc; rcases hc with rfl | rfl | rfl | rfl | rfl | rfl | rfl | rfl | rfl | rfl | rfl | rfl | rfl <;> first | rfl | assumption) fun i a b h1 h2 => ?_
  match i, h1, h2 with
  | 0, h1, h2 => cases h1; cases h2; exact .refl _
  | 1, h1, h2 => cases h1; cases h2; exact .refl _
  | 2, h1, h2 => cases h1; cases h2; exact .refl _
  | 3, h1, h2 => cases h1; cases h2; exact .refl _
  | 4, h1, h2 => cases h1; cases h2; exact .refl _
  | 5, h1, h2 => cases h1; cases h2; exact .refl _
  | 6, h1, h2 => cases h1; cases h2; exact .refl _
  | 7, h1, h2 => cases h1; cases h2; assumption
  | 8, h1, h2 => cases h1; cases h2; exact .refl _
  | 9, h1, h2 => cases h1; cases h2; exact .refl _
  | 10, h1, h2 => cases h1; cases h2; assumption
  | 11, h1, h2 => cases h1; cases h2; assumption
  | 12, h1, h2 => cases h1; cases h2; assumption
  | i + 13, h1, h2 => cases h1
/-- A statement of at most so many levels. -/
def GS : Nat → List AV → Prop
  | 0, _ => False
  | d + 1, row => ∃ (kind len : Int) (name typ fn : List UInt8) (tg args body els : List (List AV)), row = stRow kind len name typ fn (vw 6 tg) (vw 6 args) (vw 13 body) (vw 13 els) ∧ 0 ≤ kind ∧ kind ≤ 30 ∧ 0 ≤ len ∧ len ≤ 9 ∧
      name.length ≤ 30 ∧ typ.length ≤ 30 ∧ fn.length ≤ 30 ∧ tg.length ≤ 1 ∧ args.length ≤ 4 ∧ body.length ≤ 60 ∧ els.length ≤ 60 ∧ (∀ r ∈ tg, GE 4 r) ∧ (∀ r ∈ args, GE 4 r) ∧ (∀ r ∈ body, GS d r) ∧ ∀ r ∈ els, GS d r
theorem GS_mono : ∀ {d : Nat} {row : List AV}, GS d row → GS (d + 1) row
  | 0, _, h => h.elim
  | d + 1, row, h => by
    obtain ⟨kind, len, name, typ, fn, tg, args, body, els, rfl, h1, h2, h3, h4, h5, h6, h7, h8, h9, h10, h11, h12, h13, h14, h15⟩ := h
    exact ⟨kind, len, name, typ, fn, tg, args, body, els, rfl, h1, h2, h3, h4, h5, h6, h7, h8, h9, h10, h11, h12, h13, fun r hr => GS_mono (h14 r hr), fun r hr => GS_mono (h15 r hr)⟩
theorem GS_le {d e : Nat} (hde : d ≤ e) {row : List AV} (h : GS d row) : GS e row := by
  induction hde with
  | refl => exact h
  | step _ ih => exact GS_mono ih
theorem GS_row {d : Nat} {row : List AV} (h : GS d row) : ∃ (kind len : Int) (name typ fn : List UInt8) (tg args body els : List (List AV)), row = stRow kind len name typ fn (vw 6 tg) (vw 6 args) (vw 13 body) (vw 13 els) := by
  cases d with
  | zero => exact h.elim
  | succ d => obtain ⟨kind, len, name, typ, fn, tg, args, body, els, rfl, _⟩ := h; exact ⟨_, _, _, _, _, _, _, _, _, rfl⟩
theorem toks_set (st : St) (o : Nat) (c : AObj) (L : List (Option Nat)) : (st.set o c).toks L = (st.toks L).set o c := rfl
theorem MEnv.st_K (E : MEnv) (st0 : St) (a : MA) : E.st st0 a = ((st0.set E.oT (tapeC E.l a.j)).set E.oM (E.c a)).toks a.toks := rfl
def zSt : AObj := .cells 80 13 [stRow 0 0 [] [] [] nilV nilV nilV nilV]
theorem declare_m (E : MEnv) {st0 : St} {a : MA} (hv : MV E st0 a) (hc : a.count + a.left ≤ 21) :
    ACalls Tryd.prog 45 [.cptr E.oM 9 0 0] (E.st st0 a) (fun v s' => (∃ row, v = .agg row ∧ GS 1 row) ∧ ∃ b, MV E st0 b ∧ MLe a b ∧ b.count ≤ a.count + 1 ∧ b.left = a.left ∧ s' = E.st st0 b) (fun _ _ => False) := by
  refine ACalls.ofBody Tryd.func45 rfl Tryd.ntmps45 rfl ?_
  repeat (refine AWP.seq ?_)
  refine rg ?_
  refine al rfl rfl fun o2 h2 => ?_
  obtain ⟨n2T, n2M, h2'⟩ := MEnv.new h2
  show AOps _ _ _ _ _ _ _ ((E.st st0 a).set o2 zSt)
  rw [E.under n2T n2M]
  repeat (first | refine nl ?_ | refine AWP.seq ?_ | refine rg ?_ | refine ZA (z := ?_))
  refine cl rfl rfl (fresh_m E (st0 := st0.set o2 zSt) (a := a) (by omega)) fun v s' ⟨⟨w, hw, wl⟩, hs⟩ => ?_
  subst hw hs
  refine bds (cs := stRow 1 0 w [] [] nilV nilV nilV nilV) rfl rfl rfl rfl ?_
  refine al rfl rfl fun o3 h3 => ?_
  obtain ⟨n3T, n3M, h3'⟩ := MEnv.new h3
  refine soV rfl rfl rfl rfl rfl rfl ?_
  have n32 : o3 ≠ o2 := fun e => by rw [e, St.obj_set] at h3'; cases h3'
  rw [E.under n3T n3M]
  obtain ⟨a1, ha1⟩ : ∃ a1 : MA, a1 = { a with count := a.count + 1 } := ⟨_, rfl⟩
  rw [← ha1]
  have hv1 : MV E st0 a1 := by
    subst ha1
    exact { hv with lS := by have := hv.lS; simp only; omega, lD := by have := hv.lD; simp only; omega, lA := by have := hv.lA; simp only; omega, c := by simp only; omega }
  have c1 : a1.count = a.count + 1 ∧ a1.left = a.left ∧ a1.S = a.S ∧ a1.D = a.D ∧ a1.A = a.A := by subst ha1; exact ⟨rfl, rfl, rfl, rfl, rfl⟩
  clear ha1
  skip
  refine nl ?_
  refine cut (α := MA × List UInt8 × Int) (fun _ => [(3, .cptr o3 13 0 0), (2, .cptr o2 13 0 0), (0, .cptr E.oM 9 0 0)]) (fun x => E.st ((st0.set o2 zSt).set o3 (.cells 80 13 [stRow 1 x.2.2 w x.2.1 [] nilV nilV nilV nilV])) x.1)
    (fun x => MV E st0 x.1 ∧ MLe a x.1 ∧ x.1.count ≤ a.count + 1 ∧ x.1.left = a.left ∧ x.2.1.length ≤ 30 ∧ 0 ≤ x.2.2 ∧ x.2.2 ≤ 9) ?_ ?_
  · obtain ⟨B, hB⟩ : ∃ B, B = ((st0.set o2 zSt).set o3 (.cells 80 13 [AV.cells (.agg (stRow 1 0 w [] [] nilV nilV nilV nilV))])) := ⟨_, rfl⟩
    rw [← hB]
    have hvB : MV E B a1 := by rw [hB]; exact (hv1.set _ _).set _ _
    have hM1 := E.obj_M B a1
    repeat (first | refine AWP.seq ?_ | refine rg ?_ | refine ZA (z := ?_) | refine ZC (z := ?_) | refine ZH (z := ?_))
    refine cl rfl rfl (next_m E hvB 5 (by decide) (by decide)) fun v s' ⟨⟨n, hv, hn⟩, j, hj, hs⟩ => ?_
    subst hv hs
    obtain ⟨a2, ha2⟩ : ∃ a2 : MA, a2 = { a1 with j := j } := ⟨_, rfl⟩
    rw [← ha2]
    have hv2 : MV E st0 a2 := by rw [ha2]; exact hv1.tape hj
    have c2 : a2.count = a.count + 1 ∧ a2.left = a.left ∧ a2.S = a.S ∧ a2.D = a.D ∧ a2.A = a.A := by subst ha2; exact c1
    clear ha2 hM1 hvB
    have hM2 := E.obj_M B a2
    have h32 : (E.st B a2).obj o3 = some (.cells 80 13 [stRow 1 0 w [] [] nilV nilV nilV nilV]) := by rw [E.obj_o n3T n3M, hB]; exact St.obj_set _ _ _
    by_cases e3 : n = 3
    · subst e3
      repeat (first | refine nl ?_ | refine AWP.seq ?_ | refine rg ?_ | refine AWP.block ?_ | refine YH (z := ?_) | refine ZA (z := ?_) | refine ZC (z := ?_))
      rw [hB, ← E.under n3T n3M]
      refine YB (row' := stRow 1 0 w [80] [] nilV nilV nilV nilV) (hle := by exact Nat.le_of_ble_eq_true rfl) (he := by exact rfl) (z := ?_)
      rw [E.under n3T n3M]
      obtain ⟨B3, hB3⟩ : ∃ B3, B3 = (st0.set o2 zSt).set o3 (.cells 80 13 [stRow 1 0 w [80] [] nilV nilV nilV nilV]) := ⟨_, rfl⟩
      rw [← hB3]
      have hM3 := E.obj_M B3 a2
      have h33 : (E.st B3 a2).obj o3 = some (.cells 80 13 [stRow 1 0 w [80] [] nilV nilV nilV nilV]) := by rw [E.obj_o n3T n3M, hB3]; exact St.obj_set _ _ _
      repeat (refine nl ?_)
      refine AWP.draw rfl 9 8 (fun v s => ∃ k', TokL ((B3.set E.oT (tapeC E.l a2.j)).set E.oM (E.c a2)) (a2.toks.set 1 (some k')) ∧ v = .view 1 (nrows (a2.D ++ [w])) (.own k' 9) ∧ s = ((B3.set E.oT (tapeC E.l a2.j)).set E.oM (E.c a2)).toks (a2.toks.set 1 (some k'))) rfl ?_
      repeat (first | refine ds rfl rfl ?_ | refine dp (h := fun _ _ => ZC (z := nz)) (z := ?_) | refine dp (h := fun _ _ => ZH (z := nz)) (z := ?_) | refine dp (h := fun _ _ => ZQ (z := nz)) (z := ?_))
      refine de rfl rfl rfl ?_ ?_
      · rw [E.st_K B3 a2]
        refine apx (o := some a2.kD) 1 rfl rfl rfl (TokL.of_tok hv2.tk (by rw [hB3]; rfl)) rfl (fun h => by cases h) rfl ?_ ?_ fun k' htk => nl ⟨_, rfl, ⟨k', htk, by rw [nrows_append], rfl⟩, ⟨fun _ _ h => h, fun _ h => (by cases h), rfl⟩⟩
        · rw [nrows_len]; simp only [List.length_cons, List.length_nil]; have := hv2.lD; have := hv2.c; omega
        · rw [nrows_len]; simp only [List.length_cons, List.length_nil, maxLen]; have := hv2.lD; have := hv2.c; omega
      refine dn ⟨fun h => absurd h (by decide), fun _ => ?_⟩
      rintro v s1 d hd ⟨k', htk, rfl, rfl⟩
      cases hd
      repeat (first | refine ZA (z := ?_) | refine ZC (z := ?_))
      rw [toks_set]
      unfold MEnv.c mkC
      refine YB (row' := mkRow E.oT E.f E.funcs E.pv (gnv a2.S a2.kS) (gnv (a2.D ++ [w]) k') (gnv a2.A a2.kA) a2.count a2.left) (hle := by exact Nat.le_of_ble_eq_true rfl) (he := by exact rfl) (z := ?_)
      repeat (refine nl ?_)
      rw [hB3]
      refine ⟨({ a2 with D := a2.D ++ [w], kD := k' }, [80], 0), ⟨{ hv2 with nD := fun s hs => ?_, lD := ?_, tk := TokL.of_tok htk (by rw [hB3]; rfl) }, ⟨?_, ?_, ?_, Nat.le_of_eq c2.2.1⟩, Nat.le_of_eq c2.1, c2.2.1, Nat.le_of_ble_eq_true rfl, (by show (0 : Int) ≤ 0; decide), (by show (0 : Int) ≤ 9; decide)⟩, (tl3 rfl rfl rfl), .refl _⟩
      · rcases List.mem_append.1 hs with hs | hs
        · exact hv2.nD s hs
        · rw [List.mem_singleton.1 hs]; exact wl
      · simp only [List.length_append, List.length_cons, List.length_nil]; have := hv.lD; have := c2.1; rw [c2.2.2.2.1]; omega
      · simp only [List.length_append, c2.2.2.1]; omega
      · simp only [List.length_append, c2.2.2.2.1]; omega
      · simp only [List.length_append, c2.2.2.2.2]; omega
    by_cases e4 : n = 4
    · subst e4
      repeat (first | refine nl ?_ | refine AWP.seq ?_ | refine rg ?_ | refine AWP.block ?_ | refine YH (z := ?_) | refine YI (z := ?_) | refine ZA (z := ?_) | refine ZC (z := ?_))
      rw [hB, ← E.under n3T n3M]
      refine YB (row' := stRow 1 3 w [] [] nilV nilV nilV nilV) (hle := by exact Nat.le_of_ble_eq_true rfl) (he := by exact rfl) (z := ?_)
      rw [E.under n3T n3M]
      obtain ⟨B3, hB3⟩ : ∃ B3, B3 = (st0.set o2 zSt).set o3 (.cells 80 13 [stRow 1 3 w [] [] nilV nilV nilV nilV]) := ⟨_, rfl⟩
      rw [← hB3]
      have hM3 := E.obj_M B3 a2
      have h33 : (E.st B3 a2).obj o3 = some (.cells 80 13 [stRow 1 3 w [] [] nilV nilV nilV nilV]) := by rw [E.obj_o n3T n3M, hB3]; exact St.obj_set _ _ _
      repeat (refine nl ?_)
      refine AWP.draw rfl 9 8 (fun v s => ∃ k', TokL ((B3.set E.oT (tapeC E.l a2.j)).set E.oM (E.c a2)) (a2.toks.set 2 (some k')) ∧ v = .view 1 (nrows (a2.A ++ [w])) (.own k' 9) ∧ s = ((B3.set E.oT (tapeC E.l a2.j)).set E.oM (E.c a2)).toks (a2.toks.set 2 (some k'))) rfl ?_
      repeat (first | refine ds rfl rfl ?_ | refine dp (h := fun _ _ => ZC (z := nz)) (z := ?_) | refine dp (h := fun _ _ => ZH (z := nz)) (z := ?_) | refine dp (h := fun _ _ => ZQ (z := nz)) (z := ?_))
      refine de rfl rfl rfl ?_ ?_
      · rw [E.st_K B3 a2]
        refine apx (o := some a2.kA) 2 rfl rfl rfl (TokL.of_tok hv2.tk (by rw [hB3]; rfl)) rfl (fun h => by cases h) rfl ?_ ?_ fun k' htk => nl ⟨_, rfl, ⟨k', htk, by rw [nrows_append], rfl⟩, ⟨fun _ _ h => h, fun _ h => (by cases h), rfl⟩⟩
        · rw [nrows_len]; simp only [List.length_cons, List.length_nil]; have := hv2.lA; have := hv2.c; omega
        · rw [nrows_len]; simp only [List.length_cons, List.length_nil, maxLen]; have := hv2.lA; have := hv2.c; omega
      refine dn ⟨fun h => absurd h (by decide), fun _ => ?_⟩
      rintro v s1 d hd ⟨k', htk, rfl, rfl⟩
      cases hd
      repeat (first | refine ZA (z := ?_) | refine ZC (z := ?_))
      rw [toks_set]
      unfold MEnv.c mkC
      refine YB (row' := mkRow E.oT E.f E.funcs E.pv (gnv a2.S a2.kS) (gnv a2.D a2.kD) (gnv (a2.A ++ [w]) k') a2.count a2.left) (hle := by exact Nat.le_of_ble_eq_true rfl) (he := by exact rfl) (z := ?_)
      repeat (refine nl ?_)
      rw [hB3]
      refine ⟨({ a2 with A := a2.A ++ [w], kA := k' }, [], 3), ⟨{ hv2 with nA := fun s hs => ?_, lA := ?_, tk := TokL.of_tok htk (by rw [hB3]; rfl) }, ⟨?_, ?_, ?_, Nat.le_of_eq c2.2.1⟩, Nat.le_of_eq c2.1, c2.2.1, Nat.le_of_ble_eq_true rfl, (by show (0 : Int) ≤ 3; decide), (by show (3 : Int) ≤ 9; decide)⟩, (tl3 rfl rfl rfl), .refl _⟩
      · rcases List.mem_append.1 hs with hs | hs
        · exact hv2.nA s hs
        · rw [List.mem_singleton.1 hs]; exact wl
      · simp only [List.length_append, List.length_cons, List.length_nil]; have := hv.lA; have := c2.1; rw [c2.2.2.2.2]; omega
      · simp only [List.length_append, c2.2.2.1]; omega
      · simp only [List.length_append, c2.2.2.2.1]; omega
      · simp only [List.length_append, c2.2.2.2.2]; omega
    repeat (first | refine nl ?_ | refine AWP.seq ?_ | refine rg ?_ | refine AWP.block ?_ | refine YI (z := ?_) | refine ZA (z := ?_))
    refine AWP.draw rfl 9 8 (fun v s => ∃ k', TokL ((B.set E.oT (tapeC E.l a2.j)).set E.oM (E.c a2)) (a2.toks.set 0 (some k')) ∧ v = .view 1 (nrows (a2.S ++ [w])) (.own k' 9) ∧ s = ((B.set E.oT (tapeC E.l a2.j)).set E.oM (E.c a2)).toks (a2.toks.set 0 (some k'))) rfl ?_
    repeat (first | refine ds rfl rfl ?_ | refine dp (h := fun _ _ => ZC (z := nz)) (z := ?_) | refine dp (h := fun _ _ => ZH (z := nz)) (z := ?_) | refine dp (h := fun _ _ => ZQ (z := nz)) (z := ?_))
    refine de rfl rfl rfl ?_ ?_
    · rw [E.st_K B a2]
      refine apx (o := some a2.kS) 0 rfl rfl rfl (TokL.of_tok hv2.tk (by rw [hB]; rfl)) rfl (fun h => by cases h) rfl ?_ ?_ fun k' htk => nl ⟨_, rfl, ⟨k', htk, by rw [nrows_append], rfl⟩, ⟨fun _ _ h => h, fun _ h => (by cases h), rfl⟩⟩
      · rw [nrows_len]; simp only [List.length_cons, List.length_nil]; have := hv2.lS; have := hv2.c; omega
      · rw [nrows_len]; simp only [List.length_cons, List.length_nil, maxLen]; have := hv2.lS; have := hv2.c; omega
    refine dn ⟨fun h => absurd h (by decide), fun _ => ?_⟩
    rintro v s1 d hd ⟨k', htk, rfl, rfl⟩
    cases hd
    repeat (first | refine ZA (z := ?_) | refine ZC (z := ?_))
    rw [toks_set]
    unfold MEnv.c mkC
    refine YB (row' := mkRow E.oT E.f E.funcs E.pv (gnv (a2.S ++ [w]) k') (gnv a2.D a2.kD) (gnv a2.A a2.kA) a2.count a2.left) (hle := by exact Nat.le_of_ble_eq_true rfl) (he := by exact rfl) (z := ?_)
    repeat (refine nl ?_)
    rw [hB]
    refine ⟨({ a2 with S := a2.S ++ [w], kS := k' }, [], 0), ⟨{ hv2 with nS := fun s hs => ?_, lS := ?_, tk := TokL.of_tok htk (by rw [hB]; rfl) }, ⟨?_, ?_, ?_, Nat.le_of_eq c2.2.1⟩, Nat.le_of_eq c2.1, c2.2.1, Nat.le_of_ble_eq_true rfl, (by show (0 : Int) ≤ 0; decide), (by show (0 : Int) ≤ 9; decide)⟩, (tl3 rfl rfl rfl), .refl _⟩
    · rcases List.mem_append.1 hs with hs | hs
      · exact hv2.nS s hs
      · rw [List.mem_singleton.1 hs]; exact wl
    · simp only [List.length_append, List.length_cons, List.length_nil]; have := hv.lS; have := c2.1; rw [c2.2.2.1]; omega
    · simp only [List.length_append, c2.2.2.1]; omega
    · simp only [List.length_append, c2.2.2.2.1]; omega
    · simp only [List.length_append, c2.2.2.2.2]; omega
  · rintro ⟨b, ty, ln⟩ ⟨hvb, hle, hcb, hlb, hty, hl0, hl9⟩
    simp only at hvb hle hcb hlb hty hl0 hl9
    show AWP _ _ _ _ _ _ (E.st ((st0.set o2 zSt).set o3 (.cells 80 13 [stRow 1 ln w ty [] nilV nilV nilV nilV])) b)
    rw [← E.under n3T n3M, ← E.under n2T n2M]
    repeat (first | refine AWP.seq ?_ | refine rg ?_ | refine ZE (z := ?_))
    refine soU rfl n32 rfl rfl rfl rfl rfl ?_
    repeat (refine nl ?_)
    have e2 : (E.st st0 b).obj o2 = none := by rw [E.obj_o n2T n2M]; exact h2'
    have e3 : (E.st st0 b).obj o3 = none := by rw [E.obj_o n3T n3M]; rw [St.obj_set_ne n32] at h3'; exact h3'
    refine AWP.ret (rets (resCW rfl (St.obj_under n32 _ _) rfl rfl rfl rfl) (st_le (.nilShared _ _) (.nilShared _ _) (.nilShared _ _) (.nilShared _ _) rfl rfl rfl rfl) (StLe.new (by rw [St.obj_set_ne n32]; exact e3) (StLe.new e2 (.refl _))) ⟨⟨_, rfl, 1, ln, w, ty, [], [], [], [], [], rfl, by decide, by decide, hl0, hl9, wl, hty, by decide, by decide, by decide, by decide, by decide, fun r hr => (by cases hr), fun r hr => (by cases hr), fun r hr => (by cases hr), fun r hr => (by cases hr)⟩, b, hvb, hle, hcb, hlb, rfl⟩)
end Go.Proofs
/- The generator: the parts of a call. No conditions: definitions and lemmas only. -/
namespace Go.Proofs
open Go.AM
attribute [local irreducible] AWP AOps ACalls AAny
set_option linter.unusedSimpArgs false

def callRow (kind : Int) (fn : List UInt8) (args : AV) : List AV := stRow kind 0 [] [] fn nilV args nilV nilV
def stC (row : List AV) : AObj := .cells 80 13 [row]
theorem MJ.refl {E : MEnv} {st0 : St} {a : MA} (hv : MV E st0 a) : MJ E st0 a (E.st st0 a) := ⟨a.j, hv.j, rfl⟩
theorem MJ.trans {E : MEnv} {st0 : St} {a : MA} {j : Nat} {s : St} (h : MJ E st0 { a with j := j } s) : MJ E st0 a s := by
  obtain ⟨k, hk, rfl⟩ := h
  exact ⟨k, hk, rfl⟩
theorem MJ.M {E : MEnv} {st0 : St} {a : MA} {s : St} (h : MJ E st0 a s) : s.obj E.oM = some (E.c a) := by
  obtain ⟨k, hk, rfl⟩ := h
  exact E.obj_M st0 { a with j := k }
theorem next_j (E : MEnv) {st0 : St} {a : MA} (hv : MV E st0 a) {s : St} (h : MJ E st0 a s) (k : Int) (hk : 0 < k) (hk2 : k ≤ 4611686018427387904) :
    ACalls Tryd.prog 28 [.cptr E.oT 2 0 0, .int .i64 k] s (fun v s' => (∃ n : Nat, v = .int .i64 (n : Int) ∧ (n : Int) < k) ∧ MJ E st0 a s') (fun _ _ => False) := by
  obtain ⟨j, hj, rfl⟩ := h
  exact (next_m E (hv.tape hj) k hk hk2).mono (fun v s' ⟨h1, h2⟩ => ⟨h1, h2.trans⟩) (fun _ _ h => h)
theorem expr_j (E : MEnv) {st0 : St} {a : MA} (hv : MV E st0 a) {s : St} (h : MJ E st0 a s) (deep : Int) (h0 : 0 ≤ deep) (h3 : deep ≤ 3) :
    ACalls Tryd.prog 46 [.cptr E.oM 9 0 0, .int .i64 deep] s (fun v s' => (∃ row, v = .agg row ∧ GE 4 row) ∧ MJ E st0 a s') (fun _ _ => False) := by
  obtain ⟨j, hj, rfl⟩ := h
  exact (expr_m E (hv.tape hj) deep h0 h3).mono (fun v s' ⟨h1, h2⟩ => ⟨h1, h2.trans⟩) (fun _ _ h => h)
def fnames : List AV := [.str [102], .str [103], .str [104], .str [107]]
theorem fnames_get : ∀ k : Nat, k < 4 → ∃ w : List UInt8, (chunk (0 + 1) 4 fnames)[k]? = some [.str w] ∧ w.length ≤ 30
  | 0, _ => ⟨_, rfl, by decide⟩
  | 1, _ => ⟨_, rfl, by decide⟩
  | 2, _ => ⟨_, rfl, by decide⟩
  | 3, _ => ⟨_, rfl, by decide⟩
theorem MEnv.ps_get (E : MEnv) {k : Nat} (hk : k < 4) : ∃ p : Nat, (E.ps.map fun (p : Nat) => [AV.int .i64 (p : Int)])[k]? = some [.int .i64 (p : Int)] ∧ p ≤ 4 := by
  have hl : k < E.ps.length := by rw [E.hps]; exact hk
  refine ⟨E.ps[k], ?_, E.hp _ (List.getElem_mem hl)⟩
  rw [List.getElem?_map, List.getElem?_eq_getElem hl]
  rfl
theorem MJ.le {E : MEnv} {st0 : St} {a : MA} {s : St} (h : MJ E st0 a s) : StLe s ((E.st st0 a).drop E.oT) := by
  obtain ⟨j, hj, rfl⟩ := h
  refine ⟨fun o c hc => ?_, fun _ h => h, rfl⟩
  have hoT : o ≠ E.oT := fun e => by rw [e] at hc; simp only [St.drop, if_true] at hc; cases hc
  rw [St.obj_drop_ne hoT] at hc
  by_cases hoM : o = E.oM
  · subst hoM
    rw [E.obj_M] at hc ⊢
    exact hc
  · rw [E.obj_o hoT hoM] at hc ⊢
    exact hc
theorem MEnv.under_m (E : MEnv) {st0 : St} {a : MA} {e : TypeId} {sz : Nat} {rows : List (List AV)} {oo : Option Nat} (h : ∀ o, oo = some o → o ≠ E.oT ∧ o ≠ E.oM) : E.st (mst st0 e sz rows oo) a = mst (E.st st0 a) e sz rows oo := by
  cases oo with
  | none => rfl
  | some o => exact (E.under (h o rfl).1 (h o rfl).2 _).symm
set_option maxHeartbeats 1000000 in
theorem call_m (E : MEnv) {st0 : St} {a : MA} (hv0 : MV E st0 a) (oX : Nat) (n1 : oX ≠ E.oT) (n2 : oX ≠ E.oM) (kind : Int) :
    ACalls Tryd.prog 50 [.cptr E.oM 9 0 0, .cptr oX 13 0 0] (E.st (st0.set oX (stC (callRow kind [] nilV))) a)
      (fun v s' => ∃ (b : Bool) (fn : List UInt8) (args : AV) (rows : List (List AV)) (j : Nat), v = .bool b ∧ fn.length ≤ 30 ∧ Le args (vw 6 rows) ∧ args.one = true ∧ rows.length ≤ 4 ∧ (∀ r ∈ rows, GE 4 r) ∧ j ≤ E.l.length ∧ s' = E.st (st0.set oX (stC (callRow kind fn args))) { a with j := j }) (fun _ _ => False) := by
  refine ACalls.ofBody Tryd.func50 rfl Tryd.ntmps50 rfl ?_
  obtain ⟨B, hB⟩ : ∃ B, B = st0.set oX (stC (callRow kind [] nilV)) := ⟨_, rfl⟩
  rw [← hB]
  have hv : MV E B a := by rw [hB]; exact hv0.set _ _
  have hM := E.obj_M B a
  have hf := E.hf
  have hfs := E.hfs
  repeat (refine AWP.seq ?_)
  refine rg ?_
  repeat (refine ZA (z := ?_))
  repeat (first | refine nl ?_ | refine AWP.seq ?_)
  refine rg ?_
  repeat (first | refine ZA (z := ?_) | refine ZC (z := ?_) | refine ZH (z := ?_) | refine ZO (z := ?_))
  refine nl ?_
  have hMs : ∀ s, MJ E B a s → s.obj E.oM = some (E.c a) := fun s h => h.M
  have hdone : ∀ j, j ≤ E.l.length → ∃ (b : Bool) (fn : List UInt8) (args : AV) (rows : List (List AV)) (j' : Nat), (AV.bool false) = .bool b ∧ fn.length ≤ 30 ∧ Le args (vw 6 rows) ∧ args.one = true ∧ rows.length ≤ 4 ∧ (∀ r ∈ rows, GE 4 r) ∧ j' ≤ E.l.length ∧ E.st B { a with j := j } = E.st (st0.set oX (stC (callRow kind fn args))) { a with j := j' } :=
    fun j hj => ⟨false, [], nilV, [], j, rfl, by decide, .nilShared _ _, rfl, by decide, fun r hr => (by cases hr), hj, by rw [hB]⟩
  refine cut (α := Nat × Nat) (fun x => [(5, .int .i64 (x.1 : Int)), (1, .cptr oX 13 0 0), (0, .cptr E.oM 9 0 0)]) (fun x => E.st B { a with j := x.2 }) (fun x => x.1 < 4 ∧ x.2 ≤ E.l.length) ?_ ?_
  · repeat (refine AWP.seq ?_)
    refine rg ?_
    repeat (first | refine ZA (z := ?_) | refine ZC (z := ?_) | refine ZH (z := ?_))
    refine nl ?_
    refine AWP.cond_dec rfl (fun h => ?_) (fun h => ?_)
    · have h' : ((E.f + 1 : Nat) : Int) < (E.funcs : Int) := h
      apply AWP.drawI (hm := rfl) (k := 12) (I := MJ E B a) (hI := MJ.refl hv)
      case hok => rfl
      have hM := hMs
      repeat (first | apply diQ (hd := rfl) (hw := rfl) (h := fun st1 hI => lc rfl rfl (hM st1 hI) rfl rfl (nl ⟨_, rfl, rfl, rfl⟩)) | apply diQ (hd := rfl) (hw := rfl) (h := fun _ _ => ZA (z := nz)) | apply diQ (hd := rfl) (hw := rfl) (h := fun _ _ => ZC (z := nz)) | apply diQ (hd := rfl) (hw := rfl) (h := fun _ _ => YK (z := nz)))
      apply diE (Q := fun v => ∃ n : Nat, v = .int .i64 (n : Int) ∧ (n : Int) < (E.funcs : Int) - (((E.f + 1 : Nat) : Int))) (hd := rfl) (hw := rfl) (hex := ⟨_, 0, rfl, by omega⟩) (h := fun x hx => cl rfl rfl (next_j E hv hx ((E.funcs : Int) - (((E.f + 1 : Nat) : Int))) (by omega) (by omega)) fun v s' hv => nl ⟨v, rfl, hv⟩)
      rintro v ⟨n, rfl, hn⟩
      refine diN fun s2 ⟨j, hj, hs⟩ => ?_
      subst hs
      refine Go.AM.ad rfl rfl rfl (by omega) ?_
      repeat (refine ZA (z := ?_))
      refine nl ⟨(E.f + 1 + n, j), ⟨by simp only; omega, hj⟩, TLe.consE rfl (by simp only [Int.natCast_add]) (tl2 rfl rfl), .refl _⟩
    · have h' : ¬ ((E.f + 1 : Nat) : Int) < (E.funcs : Int) := h
      repeat (first | refine AWP.seq ?_ | refine rg ?_ | refine ZA (z := ?_) | refine ZC (z := ?_) | refine ZH (z := ?_))
      refine cl rfl rfl (next_j E hv (MJ.refl hv) 4 (by decide) (by decide)) fun v s' ⟨⟨n, hn, hn4⟩, j, hj, hs⟩ => ?_
      subst hn hs
      repeat (refine ZA (z := ?_))
      refine nl ?_
      refine AWP.cond_dec rfl (fun h => ?_) (fun h => AWP.skip ?_)
      · repeat (first | refine nl ?_ | refine AWP.seq ?_ | refine rg ?_ | refine ZA (z := ?_))
        exact AWP.ret (rets rfl (.refl _) (.refl _) (hdone j hj))
      · apply AWP.drawI (hm := rfl) (k := 8) (I := MJ E B a) (hI := ⟨j, hj, rfl⟩)
        case hok => rfl
        have hM := hMs
        repeat (first | apply diQ (hd := rfl) (hw := rfl) (h := fun st1 hI => lc rfl rfl (hM st1 hI) rfl rfl (nl ⟨_, rfl, rfl, rfl⟩)) | apply diQ (hd := rfl) (hw := rfl) (h := fun _ _ => ZA (z := nz)) | apply diQ (hd := rfl) (hw := rfl) (h := fun _ _ => ZC (z := nz)))
        refine diN fun s2 hs2 => ?_
        refine cl rfl rfl (next_j E hv hs2 (E.funcs : Int) (by omega) (by omega)) fun v s' ⟨⟨m, hm, hm4⟩, j2, hj2, hs⟩ => ?_
        subst hm hs
        repeat (refine ZA (z := ?_))
        refine nl ⟨(m, j2), ⟨by simp only; omega, hj2⟩, (tl3 rfl rfl rfl), .refl _⟩
  · rintro ⟨k, j⟩ ⟨hk, hj⟩
    simp only at hk hj
    have hvj : MV E st0 { a with j := j } := hv0.tape hj
    generalize ha2 : ({ a with j := j } : MA) = a2 at hvj
    rw [hB]
    rw [← E.under n1 n2]
    have hM2 : ((E.st st0 a2).set oX (stC (callRow kind [] nilV))).obj E.oM = some (E.c a2) := by rw [St.obj_set_ne (Ne.symm n2)]; exact E.obj_M _ _
    obtain ⟨w, hw, wl⟩ := fnames_get k hk
    repeat (first | refine AWP.seq ?_ | refine rg ?_ | refine ZA (z := ?_))
    refine bsh (cs := fnames) rfl rfl rfl rfl rfl ?_
    repeat (first | refine ZA (z := ?_) | refine ZC (z := ?_) | refine ZF (z := ?_) | refine ZM (z := ?_))
    skip
    unfold stC
    refine YB (row' := callRow kind w nilV) (hle := by exact Nat.le_of_ble_eq_true rfl) (he := by exact rfl) (z := ?_)
    repeat (first | refine nl ?_ | refine AWP.seq ?_ | refine rg ?_ | refine AWP.block ?_ | refine ZA (z := ?_))
    obtain ⟨p, hp, p4⟩ := E.ps_get hk
    subst ha2
    refine AWP.loop (α := Nat × List (List AV) × Option Nat) (fun x => [(6, .int .i64 (x.2.1.length : Int)), (5, .int .i64 (k : Int)), (1, .cptr oX 13 0 0), (0, .cptr E.oM 9 0 0)])
      (fun x => E.st (mst (st0.set oX (stC (callRow kind w (mslot 6 x.2.1.length x.2.2)))) 77 6 x.2.1 x.2.2) { a with j := x.1 })
      (fun x => x.1 ≤ E.l.length ∧ x.2.1.length ≤ p ∧ (∀ r ∈ x.2.1, GE 4 r) ∧ (x.2.2 = none → x.2.1 = []) ∧ ∀ o, x.2.2 = some o → o ≠ E.oT ∧ o ≠ E.oM ∧ o ≠ oX ∧ st0.obj o = none) (fun x => 4 - x.2.1.length)
      (j, [], none) ⟨hj, Nat.zero_le _, fun r hr => (by cases hr), fun _ => rfl, fun o h => (by cases h)⟩ (tl4 rfl rfl rfl rfl) (by rw [E.under n1 n2]; exact .refl _) ?_
    rintro ⟨j, rows, oo⟩ ⟨hj, hrp, hg, h0, hoo⟩
    simp only at hj hrp hg h0 hoo
    have hBx : ∃ Bx, Bx = st0.set oX (stC (callRow kind w (mslot 6 rows.length oo))) := ⟨_, rfl⟩
    obtain ⟨Bx, hBx⟩ := hBx
    show AWP _ _ _ _ _ _ (E.st (mst (st0.set oX (stC (callRow kind w (mslot 6 rows.length oo)))) 77 6 rows oo) { a with j := j })
    rw [← hBx]
    have hvm : MV E (mst Bx 77 6 rows oo) a := by
      rw [hBx]
      cases oo with
      | none => exact hv0.set _ _
      | some o => exact (hv0.set _ _).set _ _
    have hX : ∀ j, (E.st (mst Bx 77 6 rows oo) { a with j := j }).obj oX = some (stC (callRow kind w (mslot 6 rows.length oo))) := fun j => by
      rw [E.obj_o n1 n2, hBx]
      cases oo with
      | none => exact St.obj_set _ _ _
      | some o => exact St.obj_under (hoo o rfl).2.2.1 _ _
    have hM := E.obj_M (mst Bx 77 6 rows oo) { a with j := j }
    have hps := E.hps
    have hkp : k < (E.ps.map fun (p : Nat) => [AV.int .i64 (p : Int)]).length := by rw [List.length_map, hps]; exact hk
    repeat (first | refine nl ?_ | refine AWP.seq ?_ | refine rg ?_ | refine ZA (z := ?_) | refine ZC (z := ?_) | refine ZF (z := ?_) | refine ZM (z := ?_) | refine ZH (z := ?_))
    refine AWP.cond_dec rfl (fun h => AWP.skip ?_) (fun h => AWP.exit (blk_hit ?_))
    · have hlt : rows.length < p := by have : ((rows.length : Nat) : Int) < (p : Int) := h; omega
      refine AWP.weaken (T' := [(6, .int .i64 (rows.length : Int)), (5, .int .i64 (k : Int)), (1, .cptr oX 13 0 0), (0, .cptr E.oM 9 0 0)]) (tl4 rfl rfl rfl rfl) (.refl _) ?_
      have hXb : ((E.st (mst Bx 77 6 rows oo) a).drop E.oT).obj oX = some (stC (callRow kind w (mslot 6 rows.length oo))) := by rw [St.obj_drop_ne n1]; exact hX a.j
      repeat (first | refine AWP.seq ?_ | refine AWP.block ?_)
      refine AWP.any rfl ?_
      apply AAny.segF (k' := 8) (F := MJ E (mst Bx 77 6 rows oo) a) (base := (E.st (mst Bx 77 6 rows oo) a).drop E.oT) (hok := rfl) (hF := ⟨j, hj, rfl⟩) (hb := fun s hs => hs.le)
      repeat (first | apply dsY (hi := rfl) (hs := rfl) | apply dqY (hi := rfl) (hd := rfl) (hw := rfl) (h := fun _ _ => ZC (z := nz)) | apply dqY (hi := rfl) (hd := rfl) (hw := rfl) (h := fun _ _ => ZH (z := nz)))
      apply dfY (Q := fun v => ∃ row, v = .agg row ∧ GE 4 row) (hi := rfl) (hd := rfl) (hw := rfl) (hex := ⟨_, _, rfl, GE_lit 3 (n := 0) (by decide) (by decide)⟩) (h := fun s0 s hF hle => cl rfl rfl (expr_j E hvm hF 2 (by decide) (by decide)) fun v s' hv => nl ⟨v, rfl, hv.1, hv.2, hv.2.le⟩)
      rintro v ⟨row, rfl, hrow⟩
      obtain ⟨p1, p2, p3, p4', p5, rfl⟩ := GE_row hrow
      apply dqY (hi := rfl) (hd := rfl) (hw := rfl) (h := fun _ _ => lnq rfl rfl (fun e => by rw [h0 e]; rfl) nz)
      apply dqY (hi := rfl) (hd := rfl) (hw := rfl) (h := fun _ _ => bz1 (row := exRow 0 0 [] [] nilV) (z := nz))
      refine dnF fun s hs => ?_
      obtain ⟨j2, hj2, rfl⟩ := hs
      refine AAny.one rfl rfl rfl rfl ?_
      rw [E.under_m (fun o h => ⟨(hoo o h).1, (hoo o h).2.1⟩)]
      refine apq (rows := rows) (oo := oo) rfl rfl rfl ?_ (by simp) rfl (by simp only [List.length_cons, List.length_nil]; omega) (by simp only [List.length_cons, List.length_nil, maxLen]; omega) fun o' ho' => nl ⟨_, rfl, ?_⟩
      · cases oo with
        | none => show rows.length = 0; rw [h0 rfl]; rfl
        | some o =>
          obtain ⟨q1, q2, q3, q4⟩ := hoo o rfl
          show (E.st Bx _).obj o = none
          rw [E.obj_o q1 q2, hBx, St.obj_set_ne q3]
          exact q4
      have ho'' := ho'
      rw [hBx] at ho''
      obtain ⟨q1, q2, q3⟩ := MEnv.new ho''
      have qX : o' ≠ oX := fun e => by rw [e, St.obj_set] at q3; cases q3
      have q4 : st0.obj o' = none := by rw [St.obj_set_ne qX] at q3; exact q3
      obtain ⟨a2, ha2⟩ : ∃ a2 : MA, a2 = { a with j := j2 } := ⟨_, rfl⟩
      rw [← ha2]
      obtain ⟨W, hW⟩ : ∃ W : AV → List (List AV) → St, W = fun c rs => ((E.st st0 a2).set o' (.cells 77 6 rs)).set oX (stC (callRow kind w c)) := ⟨_, rfl⟩
      have hw0 : (E.st Bx a2).set o' (.cells 77 (5 + 1) (rows ++ [exRow 0 0 [] [] nilV])) = W (mslot 6 rows.length oo) (rows ++ [exRow 0 0 [] [] nilV]) := by
        rw [hW, hBx, ← E.under n1 n2, St.set_comm _ (Ne.symm qX)]
      rw [hw0]
      apply AAny.segY (k' := 14) (S := _) (Es := [10, 13]) (sts := fun bs => match bs with | [b1, b2] => some (W (bif b2 then .msl o' 6 0 (rows.length + 1) else mslot 6 rows.length oo) (rows ++ [bif b1 then exRow p1 p2 p3 p4' (.view 6 p5 .shared) else exRow 0 0 [] [] nilV])) | _ => none) (F := fun x y => y = x) (base := St.bareOf (E.st st0 a2)) (hok := rfl) (hS := rfl) (h0 := rfl) (hF := rfl) (hb := by rw [hW]; exact StLe.bare rfl)
      skip
      apply dqY (hi := rfl) (hd := rfl) (hw := rfl) (h := fun _ _ => ixm (m := rows.length) rfl rfl rfl rfl (by simp only [List.length_cons, List.length_nil]; omega) nz)
      apply deY (L := [[false, false], [false, true]]) (hL := rfl) (hd := rfl) (hw := rfl) (h := by
        refine ⟨?_, ?_, trivial⟩ <;>
        · intro s0 e
          cases e
          refine ⟨_, rfl, fun s hs hle => ?_⟩
          subst hs
          rw [hW]
          simp only [cond_true, cond_false]
          rw [St.set_comm _ qX (.cells 77 6 (rows ++ [exRow 0 0 [] [] nilV]))]
          refine sos (row := exRow 0 0 [] [] nilV) (rows' := rows ++ [exRow p1 p2 p3 p4' (.view 6 p5 .shared)]) rfl rfl rfl (by rw [Nat.zero_add]; simp) rfl rfl rfl (by rw [Nat.zero_add]; simp [rowSet, exRow]) ?_
          refine nl ⟨rfl, ?_, StLe.bare rfl⟩
          rw [St.set_comm _ (Ne.symm qX)]
          rfl)
      repeat (first | apply dsY (hi := rfl) (hs := rfl) | apply dqY (hi := rfl) (hd := rfl) (hw := rfl) (h := fun _ _ => ZC (z := nz)))
      apply deY (L := [[false, false], [true, false]]) (hL := rfl) (hd := rfl) (hw := rfl) (h := by
        refine ⟨?_, ?_, trivial⟩ <;>
        · intro s0 e
          cases e
          refine ⟨_, rfl, fun s hs hle => ?_⟩
          subst hs
          rw [hW]
          simp only [stC]
          refine so1 (row' := callRow kind w (.msl o' 6 0 (rows.length + 1))) rfl rfl rfl rfl rfl (Nat.le_of_ble_eq_true rfl) rfl ?_
          exact nl ⟨rfl, rfl, StLe.bare rfl⟩)
      refine dnY rfl fun s hs _ => ?_
      subst hs
      refine AAny.text rfl ?_
      refine nl ?_
      repeat (first | refine nl ?_ | refine rg ?_ | refine ZA (z := ?_) | refine ZO (z := ?_))
      have hl1 : (rows ++ [exRow p1 p2 p3 p4' (.view 6 p5 .shared)]).length = rows.length + 1 := by simp
      refine ⟨(j2, rows ++ [exRow p1 p2 p3 p4' (.view 6 p5 .shared)], some o'), ⟨hj2, by simp only [hl1]; omega, fun r hr => ?_, fun h => (by cases h), fun o h => ?_⟩, by simp only [hl1]; omega, TLe.consE rfl (by simp only [hl1]) (tl3 rfl rfl rfl), ?_⟩
      · rcases List.mem_append.1 hr with hr | hr
        · exact hg r hr
        · rw [List.mem_singleton.1 hr]; exact hrow
      · cases h
        exact ⟨q1, q2, qX, q4⟩
      · show StLe _ (E.st (mst (st0.set oX (stC (callRow kind w (mslot 6 (rows ++ [_]).length (some o'))))) 77 6 (rows ++ [_]) (some o')) { a with j := j2 })
        rw [hl1, ← ha2, hW]
        show StLe _ (E.st ((st0.set oX (stC (callRow kind w (.msl o' 6 0 (rows.length + 1))))).set o' (.cells 77 6 (rows ++ [exRow p1 p2 p3 p4' (.view 6 p5 .shared)]))) a2)
        rw [← E.under q1 q2, ← E.under n1 n2, St.set_comm _ (Ne.symm qX)]
        exact .refl _
    · have hrow4 : rows.length ≤ 4 := Nat.le_trans hrp p4
      cases oo with
      | none =>
        rw [h0 rfl] at hBx
        repeat (first | refine nl ?_ | refine AWP.seq ?_ | refine rg ?_ | refine ZA (z := ?_))
        refine AWP.ret (rets rfl (.refl _) (.refl _) ⟨true, w, nilV, [], j, rfl, wl, .nilShared _ _, rfl, by decide, fun r hr => (by cases hr), hj, ?_⟩)
        rw [hBx]
        rfl
      | some o =>
        obtain ⟨q1, q2, q3, q4⟩ := hoo o rfl
        have e1 : E.st (mst Bx 77 6 rows (some o)) { a with j := j } = (E.st Bx { a with j := j }).set o (.cells 77 6 rows) := (E.under q1 q2 _).symm
        rw [e1]
        refine AWP.frzIn (o := oX) (o' := o) (i := 0) (j := 10) (row := callRow kind w (.msl o 6 0 rows.length)) (Ne.symm q3) (by rw [← e1]; exact hX j) rfl rfl (St.obj_set _ _ _) (by rw [Nat.zero_add]; exact Nat.le_refl _) ?_
        rw [List.drop_zero, List.take_of_length_le (Nat.le_refl _)]
        repeat (first | refine nl ?_ | refine AWP.seq ?_ | refine rg ?_ | refine ZA (z := ?_))
        refine AWP.ret (rets rfl (.refl _) ?_ ⟨true, w, vw 6 rows, rows, j, rfl, wl, .refl _, rfl, hrow4, hg, hj, rfl⟩)
        have e2 : E.st (st0.set oX (stC (callRow kind w (vw 6 rows)))) { a with j := j } = (E.st Bx { a with j := j }).set oX (stC (callRow kind w (vw 6 rows))) := by
          rw [hBx, ← E.under n1 n2, ← E.under n1 n2, St.set_set]
        unfold stC at e2
        rw [e2]
        refine StLe.set _ _ (StLe.ofNew ?_)
        rw [E.obj_o q1 q2, hBx, St.obj_set_ne q3]
        exact q4
end Go.Proofs
/- The generator: assignments. No conditions: definitions and lemmas only. -/
namespace Go.Proofs
open Go.AM
attribute [local irreducible] AWP AOps ACalls AAny
set_option linter.unusedSimpArgs false

theorem MEnv.two (E : MEnv) {st0 : St} {a : MA} {o2 o3 : Nat} (n2T : o2 ≠ E.oT) (n2M : o2 ≠ E.oM) (n3T : o3 ≠ E.oT) (n3M : o3 ≠ E.oM) (c2 c3 : AObj) : E.st ((st0.set o2 c2).set o3 c3) a = ((E.st st0 a).set o2 c2).set o3 c3 := by
  rw [← E.under n3T n3M, ← E.under n2T n2M]
theorem MEnv.fin2 (E : MEnv) {st0 : St} {a : MA} {o2 o3 : Nat} (n2T : o2 ≠ E.oT) (n2M : o2 ≠ E.oM) (n3T : o3 ≠ E.oT) (n3M : o3 ≠ E.oM) (n32 : o3 ≠ o2) (h2 : st0.obj o2 = none) (h3 : st0.obj o3 = none) (c2 c3 : AObj) : StLe (((E.st st0 a).set o2 c2).set o3 c3) (E.st st0 a) :=
  StLe.new (by rw [St.obj_set_ne n32, E.obj_o n3T n3M]; exact h3) (StLe.new (by rw [E.obj_o n2T n2M]; exact h2) (.refl _))
/-- A statement that ends a walk: its parts. -/
theorem GS_one {kind len : Int} {name typ fn : List UInt8} {tg args : List (List AV)} (h1 : 0 ≤ kind) (h2 : kind ≤ 30) (h3 : 0 ≤ len) (h4 : len ≤ 9) (h5 : name.length ≤ 30) (h6 : typ.length ≤ 30) (h7 : fn.length ≤ 30) (h8 : tg.length ≤ 1) (h9 : args.length ≤ 4)
    (h10 : ∀ r ∈ tg, GE 4 r) (h11 : ∀ r ∈ args, GE 4 r) : GS 1 (stRow kind len name typ fn (vw 6 tg) (vw 6 args) (vw 13 []) (vw 13 [])) :=
  ⟨kind, len, name, typ, fn, tg, args, [], [], rfl, h1, h2, h3, h4, h5, h6, h7, h8, h9, by decide, by decide, h10, h11, fun r hr => (by cases hr), fun r hr => (by cases hr)⟩
theorem MA.S_get {a : MA} (h : ∀ s ∈ a.S, s.length ≤ 30) {m : Nat} (hm : m < (nrows a.S).length) : ∃ w : List UInt8, (nrows a.S)[m]? = some [.str w] ∧ w.length ≤ 30 := by
  rw [nrows_len] at hm
  exact ⟨_, nrows_get hm, h _ (List.getElem_mem hm)⟩
theorem MA.D_get {a : MA} (h : ∀ s ∈ a.D, s.length ≤ 30) {m : Nat} (hm : m < (nrows a.D).length) : ∃ w : List UInt8, (nrows a.D)[m]? = some [.str w] ∧ w.length ≤ 30 := by
  rw [nrows_len] at hm
  exact ⟨_, nrows_get hm, h _ (List.getElem_mem hm)⟩
theorem call_j (E : MEnv) {st0 : St} {a : MA} (hv0 : MV E st0 a) (oX : Nat) (n1 : oX ≠ E.oT) (n2 : oX ≠ E.oM) (kind : Int) {s : St} (h : MJ E (st0.set oX (stC (callRow kind [] nilV))) a s) :
    ACalls Tryd.prog 50 [.cptr E.oM 9 0 0, .cptr oX 13 0 0] s
      (fun v s' => ∃ (b : Bool) (fn : List UInt8) (args : AV) (rows : List (List AV)) (j : Nat), v = .bool b ∧ fn.length ≤ 30 ∧ Le args (vw 6 rows) ∧ args.one = true ∧ rows.length ≤ 4 ∧ (∀ r ∈ rows, GE 4 r) ∧ j ≤ E.l.length ∧ s' = E.st (st0.set oX (stC (callRow kind fn args))) { a with j := j }) (fun _ _ => False) := by
  obtain ⟨j, hj, rfl⟩ := h
  exact call_m E (hv0.tape hj) oX n1 n2 kind
theorem element_j (E : MEnv) {st0 : St} {a : MA} (hv : MV E st0 a) {s : St} (h : MJ E st0 a s) (hA : 0 < a.A.length) :
    ACalls Tryd.prog 57 [.cptr E.oM 9 0 0, .int .i64 1] s (fun v s' => (∃ row, v = .agg row ∧ GE 4 row) ∧ MJ E st0 a s') (fun _ _ => False) := by
  obtain ⟨j, hj, rfl⟩ := h
  exact (element_m E (hv.tape hj) hA).mono (fun v s' ⟨h1, h2⟩ => ⟨h1, h2.trans⟩) (fun _ _ h => h)
/-- A list of one expression, its own list not nil. -/
theorem ex_one (op num : Int) (name field : List UInt8) : Le (.view 6 [exRow op num name field nilV] .shared) (.view 6 [exRow op num name field noE] .shared) := by
  refine .view _ _ _ _ rfl (fun row hr c hc => ?_) (fun i a b h1 h2 => ?_) fun i j a b c d h1 h2 h3 h4 => ?_
  · rw [List.mem_singleton.1 hr] at hc
    simp only [exRow, List.mem_cons, List.not_mem_nil, or_false] at hc
    rcases hc with rfl | rfl | rfl | rfl | rfl | rfl <;> rfl
  · match i, h1, h2 with
    | 0, h1, h2 => cases h1; cases h2; rfl
  · match i, h1, h2 with
    | 0, h1, h2 =>
      cases h1; cases h2
      match j, h3, h4 with
      | 0, h3, h4 => cases h3; cases h4; exact .refl _
      | 1, h3, h4 => cases h3; cases h4; exact .refl _
      | 2, h3, h4 => cases h3; cases h4; exact .refl _
      | 3, h3, h4 => cases h3; cases h4; exact .refl _
      | 4, h3, h4 => cases h3; cases h4; exact .refl _
      | 5, h3, h4 => cases h3; cases h4; exact .nilShared _ _
      | j + 6, h3, h4 => cases h3
theorem fxy : ∀ m, m < 2 → ∃ b : List UInt8, (chunk (0 + 1) 2 [AV.str [120], AV.str [121]])[m]? = some [.str b] ∧ b.length ≤ 1
  | 0, _ => ⟨_, rfl, by decide⟩
  | 1, _ => ⟨_, rfl, by decide⟩
set_option maxHeartbeats 4000000 in
theorem assign_m (E : MEnv) {st0 : St} {a : MA} (hv0 : MV E st0 a) :
    ACalls Tryd.prog 51 [.cptr E.oM 9 0 0] (E.st st0 a) (fun v s' => (∃ row, v = .agg row ∧ GS 1 row) ∧ MJ E st0 a s') (fun _ _ => False) := by
  refine ACalls.ofBody Tryd.func51 rfl Tryd.ntmps51 rfl ?_
  repeat (refine AWP.seq ?_)
  refine rg ?_
  refine al rfl rfl fun o2 h2 => ?_
  obtain ⟨n2T, n2M, h2'⟩ := MEnv.new h2
  show AOps _ _ _ _ _ _ _ ((E.st st0 a).set o2 zSt)
  rw [E.under n2T n2M]
  repeat (first | refine nl ?_ | refine AWP.seq ?_ | refine rg ?_)
  refine bds (cs := callRow 3 [] nilV) rfl rfl rfl rfl ?_
  refine al rfl rfl fun o3 h3 => ?_
  obtain ⟨n3T, n3M, h3'⟩ := MEnv.new h3
  refine soV rfl rfl rfl rfl rfl rfl ?_
  have n32 : o3 ≠ o2 := fun e => by rw [e, St.obj_set] at h3'; cases h3'
  have h3'' : st0.obj o3 = none := by rw [St.obj_set_ne n32] at h3'; exact h3'
  rw [E.under n3T n3M]
  obtain ⟨B, hB⟩ : ∃ B : AObj → St, B = fun c => (st0.set o2 zSt).set o3 c := ⟨_, rfl⟩
  have hvB : ∀ c, MV E (B c) a := fun c => by rw [hB]; exact (hv0.set _ _).set _ _
  have hE : ∀ c a, E.st (B c) a = ((E.st st0 a).set o2 zSt).set o3 c := fun c a => by rw [hB]; exact E.two n2T n2M n3T n3M _ _
  have hS : ((st0.set o2 zSt).set o3 (.cells 80 13 [AV.cells (.agg (callRow 3 [] nilV))])) = B (stC (callRow 3 [] nilV)) := by rw [hB]; rfl
  rw [hS]
  have hM := E.obj_M (B (stC (callRow 3 [] nilV))) a
  repeat (first | refine nl ?_ | refine AWP.seq ?_ | refine rg ?_ | refine ZA (z := ?_) | refine ZC (z := ?_) | refine ZH (z := ?_))
  refine cl rfl rfl (next_j E (hvB _) (MJ.refl (hvB _)) 8 (by decide) (by decide)) fun v s' ⟨⟨k, hk, hk8⟩, j1, hj1, hs⟩ => ?_
  subst hk hs
  repeat (refine ZA (z := ?_))
  refine nl ?_
  have fin' : ∀ c d a, StLe (((E.st st0 a).set o2 c).set o3 d) (E.st st0 a) := fun c d a => E.fin2 n2T n2M n3T n3M n32 h2' h3'' c d
  refine cut (α := Nat × AObj) (fun _ => [(4, .int .i64 (k : Int)), (3, .cptr o3 13 0 0), (2, .cptr o2 13 0 0), (0, .cptr E.oM 9 0 0)]) (fun x => E.st (B x.2) { a with j := x.1 }) (fun x => x.1 ≤ E.l.length ∧ ∃ row, x.2 = stC row ∧ row.length = 13) ?_ ?_
  · by_cases hk2 : (k : Int) < 2
    · repeat (first | refine AWP.seq ?_ | refine rg ?_ | refine ZA (z := ?_) | refine YD (z := ?_))
      refine cl rfl rfl (call_j E (st0 := st0.set o2 zSt) (hv0.set _ _) o3 n3T n3M 3 ⟨j1, hj1, by rw [hB]⟩) fun v s' ⟨b, fn, args, rows, j2, hv, hfn, hle, hone, hrl, hrg, hj2, hs⟩ => ?_
      subst hv hs
      rw [show (st0.set o2 zSt).set o3 (stC (callRow 3 fn args)) = B (stC (callRow 3 fn args)) by rw [hB]]
      cases b with
      | false =>
        repeat (first | refine nl ?_ | refine AWP.skip ?_ | refine YI (z := ?_) | refine ZA (z := ?_))
        exact ⟨(j2, stC (callRow 3 fn args)), ⟨hj2, _, rfl, rfl⟩, (tl4 rfl rfl rfl rfl), .refl _⟩
      | true =>
        have hM2 := E.obj_M (B (stC (callRow 3 fn args))) { a with j := j2 }
        repeat (refine ZA (z := ?_))
        refine nl ?_
        refine AWP.cond_true rfl ?_
        refine cut (α := Nat × AV × List (List AV)) (fun _ => [(3, .cptr o3 13 0 0), (2, .cptr o2 13 0 0)]) (fun x => E.st (B (stC (stRow 3 0 [] [] fn x.2.1 args nilV nilV))) { a with j := x.1 }) (fun x => x.1 ≤ E.l.length ∧ Le x.2.1 (vw 6 x.2.2) ∧ x.2.1.one = true ∧ x.2.2.length ≤ 1 ∧ ∀ r ∈ x.2.2, GE 4 r) ?_ ?_
        · by_cases hS : (0 : Int) < ((nrows a.S).length : Int)
          · repeat (first | refine AWP.seq ?_ | refine rg ?_ | refine ZA (z := ?_) | refine ZC (z := ?_) | refine ZJ (z := ?_) | refine ZH (z := ?_) | refine YD (z := ?_))
            refine cl rfl rfl (next_j E (hvB _) ⟨j2, hj2, rfl⟩ 4 (by decide) (by decide)) fun v s' ⟨⟨n, hn, hn4⟩, j3, hj3, hs⟩ => ?_
            subst hn hs
            have hM3 := E.obj_M (B (stC (callRow 3 fn args))) { a with j := j3 }
            by_cases hn0 : (0 : Int) < (n : Int)
            · repeat (first | refine nl ?_ | refine YH (z := ?_) | refine ZA (z := ?_))
              apply AWP.drawI (hm := rfl) (k := 14) (I := MJ E (B (stC (callRow 3 fn args))) a) (hI := ⟨j3, hj3, rfl⟩)
              case hok => rfl
              have hM := fun s (h : MJ E (B (stC (callRow 3 fn args))) a s) => h.M
              repeat (first | apply diQ (hd := rfl) (hw := rfl) (h := fun st1 hI => lc rfl rfl (hM st1 hI) rfl rfl (nl ⟨_, rfl, rfl, rfl⟩)) | apply diQ (hd := rfl) (hw := rfl) (h := fun _ _ => ZA (z := nz)) | apply diQ (hd := rfl) (hw := rfl) (h := fun _ _ => ZC (z := nz)) | apply diQ (hd := rfl) (hw := rfl) (h := fun _ _ => ZJ (z := nz)))
              apply diE (Q := fun v => ∃ n : Nat, v = .int .i64 (n : Int) ∧ n < (nrows a.S).length) (hd := rfl) (hw := rfl) (hex := ⟨_, 0, rfl, by omega⟩) (h := fun x hx => cl rfl rfl (next_j E (hvB _) hx ((nrows a.S).length : Int) hS (by rw [nrows_len]; have := hv0.lS; have := hv0.c; omega)) fun v s' ⟨⟨n, hv, hn⟩, hs⟩ => nl ⟨v, rfl, ⟨n, hv, by omega⟩, hs⟩)
              rintro v ⟨m, rfl, hm⟩
              refine diN fun s4 hs4 => ?_
              obtain ⟨j4, hj4, rfl⟩ := hs4
              obtain ⟨w, hw, wl⟩ := MA.S_get hv0.nS hm
              repeat (first | refine ZC (z := ?_) | refine ZF (z := ?_) | refine ZM (z := ?_) | refine ZQ (z := ?_) | refine YC (z := ?_))
              rw [hE]
              unfold stC
              refine YB (row' := stRow 3 0 [] [] fn (vw 6 [exRow 1 0 w [] noE]) args nilV nilV) (hle := by exact Nat.le_of_ble_eq_true rfl) (he := by exact rfl) (z := ?_)
              refine nl ?_
              exact ⟨(j4, vw 6 [exRow 1 0 w [] noE], [exRow 1 0 w [] noE]), ⟨hj4, .refl _, rfl, Nat.le_refl _, fun r hr => by rw [List.mem_singleton.1 hr]; exact GE_var 3 wl⟩, (tl2 rfl rfl), by rw [hE]; exact .refl _⟩
            · repeat (first | refine nl ?_ | refine AWP.skip ?_ | refine YI (z := ?_) | refine ZA (z := ?_))
              exact ⟨(j3, nilV, []), ⟨hj3, .nilShared _ _, rfl, Nat.zero_le _, fun r hr => (by cases hr)⟩, (tl2 rfl rfl), .refl _⟩
          · repeat (first | refine nl ?_ | refine AWP.seq ?_ | refine rg ?_ | refine AWP.skip ?_ | refine YI (z := ?_) | refine ZA (z := ?_) | refine ZB (z := ?_) | refine ZC (z := ?_) | refine ZJ (z := ?_) | refine ZH (z := ?_) | refine YE (z := ?_))
            exact ⟨(j2, nilV, []), ⟨hj2, .nilShared _ _, rfl, Nat.zero_le _, fun r hr => (by cases hr)⟩, (tl2 rfl rfl), .refl _⟩
        · rintro ⟨j, tg, tgr⟩ ⟨hj, t1, t2, t3, t4⟩
          simp only at hj t1 t2 t3 t4
          show AWP _ _ _ _ _ _ (E.st (B (stC (stRow 3 0 [] [] fn tg args nilV nilV))) { a with j := j })
          rw [hE]
          unfold stC zSt
          repeat (first | refine AWP.seq ?_ | refine rg ?_ | refine ZE (z := ?_))
          refine soU rfl n32 rfl rfl rfl rfl rfl ?_
          repeat (refine nl ?_)
          exact AWP.ret (rets (resCW rfl (St.obj_under n32 _ _) rfl rfl rfl rfl) (st_le t1 hle (.nilShared _ _) (.nilShared _ _) rfl rfl rfl rfl) (fin' _ _ _) ⟨⟨_, rfl, GS_one (by decide) (by decide) (by decide) (by decide) (by decide) (by decide) hfn t3 hrl t4 hrg⟩, j, hj, rfl⟩)
    · repeat (first | refine nl ?_ | refine AWP.seq ?_ | refine rg ?_ | refine AWP.skip ?_ | refine YI (z := ?_) | refine ZA (z := ?_) | refine ZB (z := ?_) | refine YE (z := ?_))
      exact ⟨(j1, stC (callRow 3 [] nilV)), ⟨hj1, _, rfl, rfl⟩, (tl4 rfl rfl rfl rfl), .refl _⟩
  · rintro ⟨j, c⟩ ⟨hj, row, hc, hrl⟩
    simp only at hj hc
    subst hc
    show AWP _ _ _ _ _ _ (E.st (B (stC row)) { a with j := j })
    repeat (refine AWP.seq ?_)
    refine rg ?_
    refine bds (cs := stRow 2 0 [] [] [] nilV nilV nilV nilV) rfl rfl rfl rfl ?_
    rw [hE]
    unfold stC
    refine soV rfl rfl rfl rfl rfl (by rw [hrl]; rfl) ?_
    rw [show ((E.st st0 { a with j := j }).set o2 zSt).set o3 (.cells 80 13 [AV.cells (.agg (stRow 2 0 [] [] [] nilV nilV nilV nilV))]) = E.st (B (stC (stRow 2 0 [] [] [] nilV nilV nilV nilV))) { a with j := j } from (hE _ _).symm]
    refine nl ?_
    have hM := E.obj_M (B (stC (stRow 2 0 [] [] [] nilV nilV nilV nilV))) { a with j := j }
    refine cut (α := Nat × AV × List (List AV)) (fun _ => [(3, .cptr o3 13 0 0), (2, .cptr o2 13 0 0), (0, .cptr E.oM 9 0 0)]) (fun x => E.st (B (stC (stRow 2 0 [] [] [] x.2.1 nilV nilV nilV))) { a with j := x.1 }) (fun x => x.1 ≤ E.l.length ∧ Le x.2.1 (vw 6 x.2.2) ∧ x.2.1.one = true ∧ x.2.2.length ≤ 1 ∧ ∀ r ∈ x.2.2, GE 4 r) ?_ ?_
    · by_cases c1 : (k : Int) = 6 ∧ (0 : Int) < ((nrows a.D).length : Int)
      · obtain ⟨c1, hD⟩ := c1
        repeat (first | refine nl ?_ | refine AWP.seq ?_ | refine rg ?_ | refine AWP.block ?_ | refine YH (z := ?_) | refine ZA (z := ?_) | refine ZC (z := ?_) | refine ZJ (z := ?_) | refine ZH (z := ?_) | refine YD (z := ?_))
        apply AWP.drawI (hm := rfl) (k := 24) (I := MJ E (B (stC (stRow 2 0 [] [] [] nilV nilV nilV nilV))) a) (hI := ⟨j, hj, rfl⟩)
        case hok => rfl
        have hM := fun s (h : MJ E (B (stC (stRow 2 0 [] [] [] nilV nilV nilV nilV))) a s) => h.M
        repeat (first | apply diQ (hd := rfl) (hw := rfl) (h := fun st1 hI => lc rfl rfl (hM st1 hI) rfl rfl (nl ⟨_, rfl, rfl, rfl⟩)) | apply diQ (hd := rfl) (hw := rfl) (h := fun _ _ => ZA (z := nz)) | apply diQ (hd := rfl) (hw := rfl) (h := fun _ _ => ZC (z := nz)) | apply diQ (hd := rfl) (hw := rfl) (h := fun _ _ => ZJ (z := nz)))
        apply diE (Q := fun v => ∃ n : Nat, v = .int .i64 (n : Int) ∧ n < (nrows a.D).length) (hd := rfl) (hw := rfl) (hex := ⟨_, 0, rfl, by omega⟩) (h := fun x hx => cl rfl rfl (next_j E (hvB _) hx ((nrows a.D).length : Int) hD (by rw [nrows_len]; have := hv0.lD; have := hv0.c; omega)) fun v s' ⟨⟨n, hv, hn⟩, hs⟩ => nl ⟨v, rfl, ⟨n, hv, by omega⟩, hs⟩)
        rintro v ⟨m, rfl, hm⟩
        obtain ⟨q0, hq0, hq0l⟩ := MA.D_get hv0.nD hm
        apply diE (Q := fun v => ∃ m : Nat, v = .eptr 1 (nrows a.D) m 0 ∧ m < (nrows a.D).length) (hd := rfl) (hw := rfl) (hex := ⟨_, m, rfl, hm⟩) (h := fun x hx => ix (m := m) rfl rfl rfl rfl hm (nl ⟨_, rfl, ⟨m, rfl, hm⟩, hx⟩))
        rintro v ⟨m1, rfl, hm1⟩
        obtain ⟨q1, hq1, hq1l⟩ := MA.D_get hv0.nD hm1
        apply diE (Q := fun v => ∃ w : List UInt8, v = .str w ∧ w.length ≤ 30) (hd := rfl) (hw := rfl) (hex := ⟨_, q1, rfl, hq1l⟩) (h := fun x hx => Go.AM.le rfl rfl hq1 rfl (nl ⟨_, rfl, ⟨q1, rfl, hq1l⟩, hx⟩))
        rintro v ⟨w, rfl, wl⟩
        apply diQ (hd := rfl) (hw := rfl) (h := fun x hx => bsh (cs := [.str [120], .str [121]]) rfl rfl rfl rfl rfl (nl ⟨_, rfl, rfl, rfl⟩))
        repeat (first | apply diQ (hd := rfl) (hw := rfl) (h := fun st1 hI => lc rfl rfl (hM st1 hI) rfl rfl (nl ⟨_, rfl, rfl, rfl⟩)) | apply diQ (hd := rfl) (hw := rfl) (h := fun _ _ => ZA (z := nz)) | apply diQ (hd := rfl) (hw := rfl) (h := fun _ _ => ZC (z := nz)))
        apply diE (Q := fun v => ∃ m : Nat, v = .int .i64 (m : Int) ∧ m < 2) (hd := rfl) (hw := rfl) (hex := ⟨_, 0, rfl, by decide⟩) (h := fun x hx => cl rfl rfl (next_j E (hvB _) hx 2 (by decide) (by decide)) fun v s' ⟨⟨n, hv, hn⟩, hs⟩ => nl ⟨v, rfl, ⟨n, hv, by omega⟩, hs⟩)
        rintro v ⟨m2, rfl, hm2⟩
        apply diE (Q := fun v => ∃ m : Nat, v = .eptr 1 (chunk (0 + 1) 2 [AV.str [120], AV.str [121]]) m 0 ∧ m < 2) (hd := rfl) (hw := rfl) (hex := ⟨_, m2, rfl, hm2⟩) (h := fun x hx => ix (m := m2) rfl rfl rfl rfl (by exact hm2) (nl ⟨_, rfl, ⟨m2, rfl, hm2⟩, hx⟩))
        rintro v ⟨m3, rfl, hm3⟩
        obtain ⟨b3, hb3, hb3l⟩ := fxy m3 hm3
        apply diE (Q := fun v => ∃ w : List UInt8, v = .str w ∧ w.length ≤ 1) (hd := rfl) (hw := rfl) (hex := ⟨_, b3, rfl, hb3l⟩) (h := fun x hx => Go.AM.le rfl rfl hb3 rfl (nl ⟨_, rfl, ⟨b3, rfl, hb3l⟩, hx⟩))
        rintro v ⟨fw, rfl, fl⟩
        refine diN fun s4 hs4 => ?_
        obtain ⟨j4, hj4, rfl⟩ := hs4
        refine bds (cs := exRow 2 0 w fw nilV) rfl rfl rfl rfl ?_
        repeat (first | refine ZC (z := ?_) | refine ZQ (z := ?_))
        rw [hE]
        unfold stC
        refine YB (row' := stRow 2 0 [] [] [] (.view 6 [exRow 2 0 w fw nilV] .shared) nilV nilV nilV) (hle := by exact Nat.le_of_ble_eq_true rfl) (he := by exact rfl) (z := ?_)
        refine nl ?_
        exact ⟨(j4, .view 6 [exRow 2 0 w fw nilV] .shared, [exRow 2 0 w fw noE]), ⟨hj4, ex_one _ _ _ _, rfl, Nat.le_refl _, fun r hr => by rw [List.mem_singleton.1 hr]; exact ⟨2, 0, w, fw, [], rfl, by decide, by decide, by decide, by decide, wl, fl, by decide, fun r hr => (by cases hr)⟩⟩, (tl3 rfl rfl rfl), by rw [hE]; exact .refl _⟩
      by_cases c2 : (k : Int) = 7 ∧ (0 : Int) < ((nrows a.A).length : Int)
      · obtain ⟨c2, hA⟩ := c2
        repeat (first | refine nl ?_ | refine AWP.seq ?_ | refine rg ?_ | refine AWP.block ?_ | refine YH (z := ?_) | refine YI (z := ?_) | refine ZA (z := ?_) | refine ZB (z := ?_) | refine ZC (z := ?_) | refine ZJ (z := ?_) | refine ZH (z := ?_) | refine YD (z := ?_) | refine YE (z := ?_))
        refine cl rfl rfl (element_j E (hvB _) ⟨j, hj, rfl⟩ (by rw [nrows_len] at hA; omega)) fun v s' ⟨⟨row2, hv, hg⟩, j3, hj3, hs⟩ => ?_
        subst hv hs
        obtain ⟨p1, p2, p3, p4, p5, rfl⟩ := GE_row hg
        repeat (first | refine ZC (z := ?_) | refine ZQ (z := ?_))
        rw [hE]
        unfold stC
        refine YB (row' := stRow 2 0 [] [] [] (vw 6 [exRow p1 p2 p3 p4 (.view 6 p5 .shared)]) nilV nilV nilV) (hle := by exact Nat.le_of_ble_eq_true rfl) (he := by exact rfl) (z := ?_)
        refine nl ?_
        exact ⟨(j3, vw 6 [exRow p1 p2 p3 p4 (.view 6 p5 .shared)], [exRow p1 p2 p3 p4 (.view 6 p5 .shared)]), ⟨hj3, .refl _, rfl, Nat.le_refl _, fun r hr => by rw [List.mem_singleton.1 hr]; exact hg⟩, (tl3 rfl rfl rfl), by rw [hE]; exact .refl _⟩
      repeat (first | refine AWP.seq ?_ | refine AWP.block ?_)
      refine midk [(56, .bool false), (4, .int .i64 (k : Int)), (3, .cptr o3 13 0 0), (2, .cptr o2 13 0 0), (0, .cptr E.oM 9 0 0)] (E.st (B (stC (stRow 2 0 [] [] [] nilV nilV nilV nilV))) { a with j := j }) ?_ ?_
      · by_cases e6 : (k : Int) = 6
        · have hD : ¬ (0 : Int) < ((nrows a.D).length : Int) := fun h => c1 ⟨e6, h⟩
          repeat (first | refine nl ?_ | refine rg ?_ | refine ZA (z := ?_) | refine ZC (z := ?_) | refine ZJ (z := ?_) | refine ZH (z := ?_) | refine YD (z := ?_))
          exact ⟨TLe.consE rfl (congrArg AV.bool (decide_eq_false hD)) (tl4 rfl rfl rfl rfl), .refl _⟩
        · repeat (first | refine nl ?_ | refine rg ?_ | refine ZA (z := ?_) | refine ZB (z := ?_) | refine YE (z := ?_))
          exact ⟨(tl5 rfl rfl rfl rfl rfl), .refl _⟩
      refine AWP.cond_false rfl ?_
      repeat (refine AWP.seq ?_)
      refine midk [(94, .bool false), (4, .int .i64 (k : Int)), (3, .cptr o3 13 0 0), (2, .cptr o2 13 0 0), (0, .cptr E.oM 9 0 0)] (E.st (B (stC (stRow 2 0 [] [] [] nilV nilV nilV nilV))) { a with j := j }) ?_ ?_
      · by_cases e7 : (k : Int) = 7
        · have hA : ¬ (0 : Int) < ((nrows a.A).length : Int) := fun h => c2 ⟨e7, h⟩
          repeat (first | refine nl ?_ | refine rg ?_ | refine ZA (z := ?_) | refine ZC (z := ?_) | refine ZJ (z := ?_) | refine ZH (z := ?_) | refine YD (z := ?_))
          exact ⟨TLe.consE rfl (congrArg AV.bool (decide_eq_false hA)) (tl4 rfl rfl rfl rfl), .refl _⟩
        · repeat (first | refine nl ?_ | refine rg ?_ | refine ZA (z := ?_) | refine ZB (z := ?_) | refine YE (z := ?_))
          exact ⟨(tl5 rfl rfl rfl rfl rfl), .refl _⟩
      refine AWP.cond_false rfl ?_
      by_cases hS : (0 : Int) < ((nrows a.S).length : Int)
      · repeat (first | refine nl ?_ | refine AWP.seq ?_ | refine rg ?_ | refine YH (z := ?_) | refine ZA (z := ?_) | refine ZC (z := ?_) | refine ZJ (z := ?_) | refine ZH (z := ?_))
        apply AWP.drawI (hm := rfl) (k := 14) (I := MJ E (B (stC (stRow 2 0 [] [] [] nilV nilV nilV nilV))) a) (hI := ⟨j, hj, rfl⟩)
        case hok => rfl
        have hM := fun s (h : MJ E (B (stC (stRow 2 0 [] [] [] nilV nilV nilV nilV))) a s) => h.M
        repeat (first | apply diQ (hd := rfl) (hw := rfl) (h := fun st1 hI => lc rfl rfl (hM st1 hI) rfl rfl (nl ⟨_, rfl, rfl, rfl⟩)) | apply diQ (hd := rfl) (hw := rfl) (h := fun _ _ => ZA (z := nz)) | apply diQ (hd := rfl) (hw := rfl) (h := fun _ _ => ZC (z := nz)) | apply diQ (hd := rfl) (hw := rfl) (h := fun _ _ => ZJ (z := nz)))
        apply diE (Q := fun v => ∃ n : Nat, v = .int .i64 (n : Int) ∧ n < (nrows a.S).length) (hd := rfl) (hw := rfl) (hex := ⟨_, 0, rfl, by omega⟩) (h := fun x hx => cl rfl rfl (next_j E (hvB _) hx ((nrows a.S).length : Int) hS (by rw [nrows_len]; have := hv0.lS; have := hv0.c; omega)) fun v s' ⟨⟨n, hv, hn⟩, hs⟩ => nl ⟨v, rfl, ⟨n, hv, by omega⟩, hs⟩)
        rintro v ⟨m, rfl, hm⟩
        refine diN fun s4 hs4 => ?_
        obtain ⟨j4, hj4, rfl⟩ := hs4
        obtain ⟨w, hw, wl⟩ := MA.S_get hv0.nS hm
        repeat (first | refine ZC (z := ?_) | refine ZF (z := ?_) | refine ZM (z := ?_) | refine ZQ (z := ?_) | refine YC (z := ?_))
        rw [hE]
        unfold stC
        refine YB (row' := stRow 2 0 [] [] [] (vw 6 [exRow 1 0 w [] noE]) nilV nilV nilV) (hle := by exact Nat.le_of_ble_eq_true rfl) (he := by exact rfl) (z := ?_)
        refine nl ?_
        exact ⟨(j4, vw 6 [exRow 1 0 w [] noE], [exRow 1 0 w [] noE]), ⟨hj4, .refl _, rfl, Nat.le_refl _, fun r hr => by rw [List.mem_singleton.1 hr]; exact GE_var 3 wl⟩, (tl3 rfl rfl rfl), by rw [hE]; exact .refl _⟩
      · repeat (first | refine nl ?_ | refine AWP.seq ?_ | refine rg ?_ | refine YI (z := ?_) | refine ZA (z := ?_) | refine ZC (z := ?_) | refine ZJ (z := ?_) | refine ZH (z := ?_))
        refine cl rfl rfl (expr_j E (hvB _) ⟨j, hj, rfl⟩ 0 (by decide) (by decide)) fun v s' ⟨⟨row2, hv, hg⟩, j3, hj3, hs⟩ => ?_
        subst hv hs
        obtain ⟨p1, p2, p3, p4, p5, rfl⟩ := GE_row hg
        repeat (refine ZQ (z := ?_))
        refine bds (cs := stRow 9 0 [] [] [] nilV (vw 6 [exRow p1 p2 p3 p4 (.view 6 p5 .shared)]) nilV nilV) rfl rfl rfl rfl ?_
        rw [hE]
        unfold stC zSt
        refine soU rfl n32 rfl rfl rfl rfl rfl ?_
        repeat (refine nl ?_)
        exact AWP.ret (rets (resCW rfl (St.obj_under n32 _ _) rfl rfl rfl rfl) (st_le (.nilShared _ _) (.refl _) (.nilShared _ _) (.nilShared _ _) rfl rfl rfl rfl) (fin' _ _ _) ⟨⟨_, rfl, GS_one (by decide) (by decide) (by decide) (by decide) (by decide) (by decide) (by decide) (Nat.zero_le _) (by simp) (fun r hr => (by cases hr)) (fun r hr => by rw [List.mem_singleton.1 hr]; exact hg)⟩, j3, hj3, rfl⟩)
    · rintro ⟨j, tg, tgr⟩ ⟨hj, t1, t2, t3, t4⟩
      simp only at hj t1 t2 t3 t4
      show AWP _ _ _ _ _ _ (E.st (B (stC (stRow 2 0 [] [] [] tg nilV nilV nilV))) { a with j := j })
      repeat (first | refine AWP.seq ?_ | refine rg ?_ | refine ZA (z := ?_))
      refine cl rfl rfl (expr_j E (hvB _) ⟨j, hj, rfl⟩ 0 (by decide) (by decide)) fun v s' ⟨⟨row2, hv, hg⟩, j3, hj3, hs⟩ => ?_
      subst hv hs
      obtain ⟨p1, p2, p3, p4, p5, rfl⟩ := GE_row hg
      repeat (first | refine ZC (z := ?_) | refine ZQ (z := ?_))
      rw [hE]
      unfold stC zSt
      refine YB (row' := stRow 2 0 [] [] [] tg (vw 6 [exRow p1 p2 p3 p4 (.view 6 p5 .shared)]) nilV nilV) (hle := by exact Nat.le_of_ble_eq_true rfl) (he := by exact rfl) (z := ?_)
      repeat (first | refine nl ?_ | refine AWP.seq ?_ | refine rg ?_ | refine ZE (z := ?_))
      refine soU rfl n32 rfl rfl rfl rfl rfl ?_
      repeat (refine nl ?_)
      exact AWP.ret (rets (resCW rfl (St.obj_under n32 _ _) rfl rfl rfl rfl) (st_le t1 (.refl _) (.nilShared _ _) (.nilShared _ _) rfl rfl rfl rfl) (fin' _ _ _) ⟨⟨_, rfl, GS_one (by decide) (by decide) (by decide) (by decide) (by decide) (by decide) (by decide) t3 (by simp) t4 (fun r hr => by rw [List.mem_singleton.1 hr]; exact hg)⟩, j3, hj3, rfl⟩)
end Go.Proofs
/- Parts of a region that are drawn, what is done told with the values it gave. Empty literals. No conditions: definitions and lemmas only. -/
namespace Go.AM
open Go.RowKit (Below)
section
variable {P : Program} {n : Nat} {K : Post} {E : EPost} {T : Tmps} {st : St}
def setV (Es : List Nat) (i : Nat) (v : AV) (vs : List (Option AV)) : List (Option AV) := (Es.zip vs).map fun p => bif Nat.beq p.1 i then some v else p.2
/-- What is done ahead of operation i gave the values told. -/
def LinkV (Es : List Nat) (i : Nat) (vals : Nat → AV) (vs : List (Option AV)) : Prop := ∀ p ∈ Es.zip vs, p.1 < i → ∀ u, p.2 = some u → u = vals p.1
def StepV (P : Program) (n : Nat) (I : List (Option AV) → St → Prop) (S Es : List Nat) (i : Nat) (ops : Array Oper) (T : Tmps) (vals : Nat → AV) (o : Oper) (Q : AV → Prop) : Prop :=
  (wantedA ops T o = some true ∧ ∀ vs : List (Option AV), vs.length = Es.length → mayBe S Es i (vs.map Option.isSome) = true → LinkV Es i vals vs →
    ∀ st g w a (K' : Act → World → Prop) (Q' : Exit → Act → World → Prop), I vs st → Sim g w st → Known g w T a → a.tmps.size = n →
      (∀ rv g' w' v st1, Ext g w g' w' → Sim g' w' st1 → R g' w' v rv → Q v → I (setV Es i v vs) st1 → K' (a.put o.dst rv) w') → o.wp P a w K' Q') ∨ (wantedA ops T o = some false ∧ Q (.lit undef) ∧ Es.contains i = false)
/-- The walk of a part in the text's order; behind it k. -/
def DRunV (P : Program) (n : Nat) (I : List (Option AV) → St → Prop) (S Es : List Nat) (ops : Array Oper) : Nat → List Oper → List (AV → Prop) → Tmps → (Nat → AV) → (Tmps → St → Prop) → Prop
  | _, [], [], T, vals, k => ∀ st, I (Es.map fun e => some (vals e)) st → k T st
  | i, o :: r, Q :: Qs, T, vals, k => (∃ u, Q u) ∧ dstOk o.dst n = true ∧ StepV P n I S Es i ops (see ops o T) vals o Q ∧ ∀ u, Q u → DRunV P n I S Es ops (i + 1) r Qs (T.put o.dst u) (fun j => bif Nat.beq j i then u else vals j) k
  | _, _, _, _, _, _ => False
theorem DRunV.out {I : List (Option AV) → St → Prop} {S Es : List Nat} {ops : Array Oper} {k : Tmps → St → Prop} (b : Nat) (us : Nat → AV) (l : List Oper) : ∀ (r : List Oper) (Qs : List (AV → Prop)) (i0 : Nat) (vals : Nat → AV), (∀ (i : Nat) (o : Oper), r[i]? = some o → l[i0 + i]? = some o) → (∀ (i : Nat) (Q : AV → Prop), Qs[i]? = some Q → Q (us (b + (i0 + i)))) →
    (∀ j, b ≤ j → j < b + i0 → vals j = us j) → (∀ e ∈ Es, b ≤ e ∧ e < b + i0 + r.length) →
    DRunV P n I S Es ops (b + i0) r Qs (ents l (fun i => us (b + i)) i0 ++ T) vals k → Qs.length = r.length ∧ (∀ st, I (Es.map fun e => some (us e)) st → k (ents l (fun i => us (b + i)) (i0 + r.length) ++ T) st) ∧
      ∀ i o, r[i]? = some o → ∃ Q, dstOk o.dst n = true ∧ Qs[i]? = some Q ∧ StepV P n I S Es (b + (i0 + i)) ops (see ops o (ents l (fun i => us (b + i)) (i0 + i) ++ T)) us o Q
  | [], [], i0, vals, _, _, hv, hE, h => ⟨rfl, fun st hI => by
      have e : (Es.map fun e => some (vals e)) = Es.map fun e => some (us e) := List.map_congr_left fun e he => by
        obtain ⟨h1, h2⟩ := hE e he
        rw [hv e h1 (by simpa using h2)]
      have h' : ∀ st, I (Es.map fun e => some (vals e)) st → k (ents l (fun i => us (b + i)) i0 ++ T) st := h
      rw [e] at h'
      exact h' st hI, fun i o ho => by simp at ho⟩
  | [], _ :: _, _, _, _, _, _, _, h => h.elim
  | _ :: _, [], _, _, _, _, _, _, h => h.elim
  | o :: r, Q :: Qs, i0, vals, hl, hq, hv, hE, h => by
    obtain ⟨_, h2, h4, h5⟩ := h
    have h6 := h5 (us (b + i0)) (hq 0 Q rfl)
    have hl0 : l[i0]? = some o := by simpa using hl 0 o rfl
    have he : (ents l (fun i => us (b + i)) i0 ++ T).put o.dst (us (b + i0)) = ents l (fun i => us (b + i)) (i0 + 1) ++ T := by
      rw [ents, hl0]
      simp only [Option.bind_some]
      cases o.dst <;> rfl
    rw [he, Nat.add_assoc] at h6
    obtain ⟨a1, a2, a3⟩ := DRunV.out b us l r Qs (i0 + 1) _ (fun i o' ho' => by have := hl (i + 1) o' (by simpa using ho'); rwa [show i0 + (i + 1) = i0 + 1 + i by omega] at this) (fun i Q' hQ' => by have := hq (i + 1) Q' (by simpa using hQ'); rwa [show i0 + (i + 1) = i0 + 1 + i by omega] at this)
      (fun j h1 h2 => by
        by_cases hj : j = b + i0
        · subst hj; rw [nbeq_self]; rfl
        · rw [nbeq_ne hj]; exact hv j h1 (by omega)) (fun e he => by have := hE e he; simp only [List.length_cons] at this; omega) h6
    refine ⟨by simp [a1], by rw [List.length_cons, show i0 + (r.length + 1) = i0 + 1 + r.length by omega]; exact a2, fun i o' ho' => ?_⟩
    cases i with
    | zero =>
      simp only [List.getElem?_cons_zero, Option.some.injEq] at ho'
      subst ho'
      refine ⟨Q, h2, rfl, ?_⟩
      rcases h4 with ⟨hw, h4⟩ | h4
      · exact .inl ⟨hw, fun vs hl hm hlk => h4 vs hl hm fun p hp hlt u hu => by
          have hpe : p.1 ∈ Es := (List.of_mem_zip hp).1
          rw [hv p.1 (hE p.1 hpe).1 hlt]
          exact hlk p hp hlt u hu⟩
      · exact .inr h4
    | succ i =>
      obtain ⟨Q', b1, b2, b3⟩ := a3 i o' (by simpa using ho')
      exact ⟨Q', b1, by simpa using b2, by rwa [show i0 + 1 + i = i0 + (i + 1) by omega] at b3⟩
theorem DRunV.fits {I : List (Option AV) → St → Prop} {S Es : List Nat} {ops : Array Oper} {k : Tmps → St → Prop} : ∀ (r : List Oper) (Qs : List (AV → Prop)) (i0 : Nat) (T : Tmps) (vals : Nat → AV), DRunV P n I S Es ops i0 r Qs T vals k → ∀ (i : Nat) (Q : AV → Prop), Qs[i]? = some Q → ∃ u, Q u
  | [], [], _, _, _, _, i, Q, h => by simp at h
  | [], _ :: _, _, _, _, h, _, _, _ => h.elim
  | _ :: _, [], _, _, _, h, _, _, _ => h.elim
  | o :: r, Q0 :: Qs, i0, T, vals, h, i, Q, hq => by
    obtain ⟨⟨u, hu⟩, h2, h4, h5⟩ := h
    cases i with
    | zero => simp at hq; subst hq; exact ⟨u, hu⟩
    | succ i => exact DRunV.fits r Qs _ _ _ (h5 u hu) i Q (by simpa using hq)
def valsOf (Es : List Nat) (listed : Array Bool) (us : Nat → AV) : List (Option AV) := Es.map fun e => bif listed.getD e false then some (us e) else none
theorem valsOf_some (Es : List Nat) (listed : Array Bool) (us : Nat → AV) : (valsOf Es listed us).map Option.isSome = Es.map fun e => listed.getD e false := by
  unfold valsOf
  rw [List.map_map]
  refine List.map_congr_left fun e _ => ?_
  show Option.isSome (bif listed.getD e false then some (us e) else none) = _
  cases listed.getD e false <;> rfl
theorem setV_of {listed : Array Bool} {i : Nat} (hi : i < listed.size) (us : Nat → AV) (v : AV) : ∀ (Es : List Nat), valsOf Es (listed.setIfInBounds i true) (fun j => bif Nat.beq j i then v else us j) = setV Es i v (valsOf Es listed us)
  | [] => rfl
  | e :: Es => by
    have := setV_of hi us v Es
    unfold setV valsOf at this ⊢
    rw [List.map_cons, List.map_cons, List.zip_cons_cons, List.map_cons, this]
    congr 1
    by_cases h : i = e
    · subst h
      rw [Array.getD_eq_getD_getElem?, Array.getElem?_setIfInBounds_self_of_lt hi]
      simp only [nbeq_self, Option.getD_some, cond_true]
    · rw [getD_set_ne false h]
      simp only [nbeq_ne (Ne.symm h), cond_false]
theorem setV_none {i : Nat} {v : AV} : ∀ (Es : List Nat) (vs : List (Option AV)), vs.length = Es.length → Es.contains i = false → setV Es i v vs = vs
  | [], [], _, _ => rfl
  | [], _ :: _, h, _ => by simp at h
  | _ :: _, [], h, _ => by simp at h
  | e :: Es, b :: bs, h, hc => by
    rw [List.contains_cons, Bool.or_eq_false_iff] at hc
    have := setV_none (v := v) Es bs (by simpa using h) hc.2
    unfold setV at this ⊢
    rw [List.zip_cons_cons, List.map_cons, this, nbeq_ne (fun h => by subst h; simp at hc), cond_false]
theorem AAny.segV {l : List Oper} {k : Nat} (k' : Nat) (S Es : List Nat) (I : List (Option AV) → St → Prop) (Qs : List (AV → Prop)) (hok : segOk l k k' Es = true) (hS : predSets l [] = S) (hI : I (Es.map fun _ => none) st)
    (vals : Nat → AV) (h : DRunV P n I S Es l.toArray k ((l.drop k).take (k' - k)) Qs T vals fun T' st' => AAny P n l k' K E T' st') : AAny P n l k K E T st := by
  subst hS
  obtain ⟨hkk, hkl, hedge, hbody, htail, hEs⟩ := segOk_spec hok
  have hfits := DRunV.fits _ _ _ _ _ h
  have hget : ∀ i, i < k' - k → (l.drop k)[i]? = l[k + i]? := fun i _ => List.getElem?_drop
  have hlk0 : ((l.drop k).take (k' - k)).length = k' - k := by simp; omega
  have hout := fun (us : Nat → AV) (hus : ∀ (i : Nat) (Q : AV → Prop), Qs[i]? = some Q → Q (us (k + (0 + i)))) => DRunV.out (T := T) k us (l.drop k) ((l.drop k).take (k' - k)) Qs 0 vals (fun i o ho => by
    have hi : i < k' - k := by have := (List.getElem?_eq_some_iff.1 ho).1; simp at this; omega
    rw [List.getElem?_take_of_lt hi] at ho
    rwa [Nat.zero_add]) hus (fun j h1 h2 => by omega) (fun e he => by rw [hlk0]; have := hEs e he; omega) h
  obtain ⟨wit, hwit⟩ : ∃ wit : Nat → AV, ∀ (i : Nat) (Q : AV → Prop), Qs[i]? = some Q → Q (wit i) := by
    have : ∀ i : Nat, ∃ u : AV, ∀ Q : AV → Prop, Qs[i]? = some Q → Q u := fun i => by
      cases hq : Qs[i]? with
      | none => exact ⟨.bool true, fun Q h => by cases h⟩
      | some Q =>
        obtain ⟨u, hu⟩ := hfits i Q hq
        exact ⟨u, fun Q' h => by cases h; exact hu⟩
    exact ⟨fun i => Classical.choose (this i), fun i Q hQ => Classical.choose_spec (this i) Q hQ⟩
  have hQl : Qs.length = k' - k := by rw [(hout (fun j => wit (j - k)) (fun i Q hQ => by rw [Nat.zero_add, Nat.add_sub_cancel_left]; exact hwit i Q hQ)).1, hlk0]
  intro g0 w0 ds g1 w1 a1 m1 listed1 he1 hs1 hk1 hn1 hd1 hm1 hsz1 hli1 hc1
  let Inv : Array Bool → Act → World → Prop := fun listed a w => listed.size = l.length ∧ Closed l listed ∧ (∀ j, j < k → listed.getD j true = true) ∧ (∀ j, k' ≤ j → j < l.length → listed.getD j true = false) ∧ a.tmps.size = n ∧ a.defers = ds ∧
    ∃ g st1 us, Ext g0 w0 g w ∧ Sim g w st1 ∧ I (valsOf Es listed us) st1 ∧
      (∀ t v, Tmps.get T t = some v → (∀ i, i < k' - k → (l[k + i]?).bind (·.dst) = some t → listed.getD (k + i) false = false) → ∃ rv, a.tmps[t]? = some rv ∧ R g w v rv) ∧
      (∀ i Q, i < k' - k → Qs[i]? = some Q → listed.getD (k + i) false = true → Q (us (k + i))) ∧
      (∀ i d, i < k' - k → (l[k + i]?).bind (·.dst) = some d → listed.getD (k + i) false = true → ∃ rv, a.tmps[d]? = some rv ∧ R g w (us (k + i)) rv)
  let μ : Array Bool → Nat := fun listed => (List.range l.length).countP fun j => !listed.getD j true
  have hμ : ∀ (listed : Array Bool) i, i < l.length → listed.size = l.length → listed.getD i true = false → μ (listed.setIfInBounds i true) + 1 ≤ μ listed := by
    intro listed i hil hsz hi
    have gen : ∀ (A : List Nat), i ∈ A → A.countP (fun j => !(listed.setIfInBounds i true).getD j true) + 1 ≤ A.countP (fun j => !listed.getD j true) := by
      have le : ∀ (A : List Nat), A.countP (fun j => !(listed.setIfInBounds i true).getD j true) ≤ A.countP (fun j => !listed.getD j true) := fun A => List.countP_mono_left fun j _ hj => by
        by_cases hij : i = j
        · subst hij
          rw [Array.getD_eq_getD_getElem?, Array.getElem?_setIfInBounds_self_of_lt (by omega)] at hj
          simp at hj
        · rw [getD_set_ne true hij] at hj; exact hj
      intro A
      induction A with
      | nil => intro h; simp at h
      | cons x A ih =>
        intro h
        rw [List.countP_cons, List.countP_cons]
        by_cases hx : x = i
        · subst hx
          have h1 : (!(listed.setIfInBounds x true).getD x true) = false := by
            rw [Array.getD_eq_getD_getElem?, Array.getElem?_setIfInBounds_self_of_lt (by omega)]; rfl
          have h2 : (!listed.getD x true) = true := by rw [hi]; rfl
          rw [h1, h2, if_neg (by decide), if_pos rfl]
          have := le A
          omega
        · have hm' : i ∈ A := by rcases List.mem_cons.1 h with h | h; exact absurd h.symm hx; exact h
          have := ih hm'
          have h3 : (listed.setIfInBounds i true).getD x true = listed.getD x true := getD_set_ne true (Ne.symm hx)
          rw [h3]
          omega
    exact gen _ (List.mem_range.2 hil)
  have fill : ∀ (listed : Array Bool) (us : Nat → AV), (∀ i Q, i < k' - k → Qs[i]? = some Q → listed.getD (k + i) false = true → Q (us (k + i))) →
      ∀ (i : Nat) (Q : AV → Prop), Qs[i]? = some Q → Q ((fun j => bif listed.getD j false then us j else wit (j - k)) (k + (0 + i))) := by
    intro listed us hB i Q hQ
    rw [Nat.zero_add]
    simp only
    have hik : i < k' - k := by rw [← hQl]; exact (List.getElem?_eq_some_iff.1 hQ).1
    cases hc : listed.getD (k + i) false with
    | true => exact hB i Q hik hQ hc
    | false => rw [cond_false, Nat.add_sub_cancel_left]; exact hwit i Q hQ
  have hentsget : ∀ (us : Nat → AV) (i t : Nat) v, i ≤ k' - k → Tmps.get (ents (l.drop k) us i) t = some v → ∃ j, j < i ∧ (l[k + j]?).bind (·.dst) = some t ∧ v = us j := fun us i t v hi hg => by
    obtain ⟨j, hj, hdj, rfl⟩ := ents_get i t _ hg
    exact ⟨j, hj, by rw [← hget j (by omega)]; exact hdj, rfl⟩
  have hentsnone : ∀ (us : Nat → AV) (i t : Nat), i ≤ k' - k → Tmps.get (ents (l.drop k) us i) t = none → ∀ j, j < i → (l[k + j]?).bind (·.dst) ≠ some t := fun us i t hi hg j hj => by
    rw [← hget j (by omega)]
    exact ents_none i t hg j hj
  have done : ∀ (m : Nat) (listed : Array Bool) (a : Act) (w : World), Inv listed a w → (∀ j, j < k' → listed.getD j true = true) → l.length ≤ k' + m → wpAny P .any l.toArray (QOf n ds g0 w0 K E) m listed a w := by
    intro m listed a w ⟨hsz, hcl, hfst, htl, hn, hd, g, st1, us0, he, hs, hI1, hA, hB1, hB2⟩ hall hm'
    have hlist : ∀ j, j < k' → listed.getD j false = true := fun j hj => by
      rw [getD_ft (by omega)]; exact hall j hj
    have hus := fill listed us0 hB1
    obtain ⟨uf, huf⟩ : ∃ uf : Nat → AV, uf = fun j => bif listed.getD j false then us0 j else wit (j - k) := ⟨_, rfl⟩
    rw [← huf] at hus
    have hus2 : ∀ i d, i < k' - k → (l[k + i]?).bind (·.dst) = some d → listed.getD (k + i) false = true → ∃ rv, a.tmps[d]? = some rv ∧ R g w (uf (k + i)) rv := fun i d h1 h2 h3 => by
      rw [huf]
      simp only [h3, cond_true]
      exact hB2 i d h1 h2 h3
    obtain ⟨_, hfin, _⟩ := hout uf hus
    rw [hlk0, Nat.zero_add] at hfin
    have hIt : valsOf Es listed us0 = Es.map fun e => some (uf e) := List.map_congr_left fun e he => by
      rw [huf]
      simp only [hlist e (hEs e he).2, cond_true]
    rw [hIt] at hI1
    refine hfin st1 hI1 g0 w0 ds g w a m listed he hs (fun t u hu => ?_) hn hd hm' hsz (fun j hj => ?_) hcl
    · rw [get_append] at hu
      cases hg : Tmps.get (ents (l.drop k) (fun i => uf (k + i)) (k' - k)) t with
      | some u' =>
        rw [hg] at hu
        cases hu
        obtain ⟨j, hj, hdj, rfl⟩ := hentsget (fun i => uf (k + i)) _ t _ (Nat.le_refl _) hg
        exact hus2 j t hj hdj (hlist (k + j) (by omega))
      | none =>
        rw [hg] at hu
        exact hA t u hu fun i hi hit => absurd hit (hentsnone (fun i => uf (k + i)) _ t (Nat.le_refl _) hg i hi)
    · by_cases hjk : j < k'
      · rw [hall j hjk, decide_eq_true hjk]
      · rw [htl j (by omega) hj, decide_eq_false hjk]
  have step : ∀ (K' : Act → World → Prop) (listed : Array Bool) (a : Act) (w : World) (q : Nat), Inv listed a w → q < k' - k → k + q ∈ Region.ready .any l.toArray listed → (∀ a' w', Inv (listed.setIfInBounds (k + q) true) a' w' → K' a' w') →
      wpOp P l.toArray (QOf n ds g0 w0 K E) (k + q) K' a w := by
    intro K' listed a w q ⟨hsz, hcl, hfst, htl, hn, hd, g, st1, us0, he, hs, hI1, hA, hB1, hB2⟩ hqk hri hK
    obtain ⟨hun, o, ho, hed'⟩ := ready_edges hri
    have hil := (List.getElem?_eq_some_iff.1 ho).1
    have hunf : listed.getD (k + q) false = false := by
      rw [getD_ft (by omega)]; exact hun
    have hcl' := hcl.set ho hed'
    have hsz' : (listed.setIfInBounds (k + q) true).size = l.length := by simpa using hsz
    have hfst' : ∀ j, j < k → (listed.setIfInBounds (k + q) true).getD j true = true := fun j h1 => by
      rw [getD_set_ne true (by omega)]; exact hfst j h1
    have htl' : ∀ j, k' ≤ j → j < l.length → (listed.setIfInBounds (k + q) true).getD j true = false := fun j h1 h2 => by
      rw [getD_set_ne true (by omega)]; exact htl j h1 h2
    have hus := fill listed us0 hB1
    obtain ⟨uf, huf⟩ : ∃ uf : Nat → AV, uf = fun j => bif listed.getD j false then us0 j else wit (j - k) := ⟨_, rfl⟩
    rw [← huf] at hus
    have hus2 : ∀ i d, i < k' - k → (l[k + i]?).bind (·.dst) = some d → listed.getD (k + i) false = true → ∃ rv, a.tmps[d]? = some rv ∧ R g w (uf (k + i)) rv := fun i d h1 h2 h3 => by
      rw [huf]
      simp only [h3, cond_true]
      exact hB2 i d h1 h2 h3
    obtain ⟨_, _, hops⟩ := hout uf hus
    obtain ⟨Q, hdn, hQi, hstep⟩ := hops q o (by rw [List.getElem?_take_of_lt hqk, hget q hqk]; exact ho)
    rw [Nat.zero_add] at hstep
    have hlooked : ∀ j, j < k' - k → ∀ t, (l[k + j]?).bind (·.dst) = some t → (o.looksAt l.toArray).contains t = true → listed.getD (k + j) false = true ∧ j < q := by
      intro j hj t hjt hlook
      have hp : l[k + j]? = some l[k + j] := List.getElem?_eq_getElem (by omega)
      rw [hp] at hjt
      have h2 := ((hbody (k + q) o ho (by omega) (by omega)).2 (k + j) _ (by omega) (by omega) hp).2 t hjt hlook
      refine ⟨preds_listed hcl ho hed' h2, ?_⟩
      have hcl2 : Closed l (Array.ofFn fun x : Fin l.length => decide (x.val < k + q)) := by
        intro x ox hx hx' y hy
        have hql := (List.getElem?_eq_some_iff.1 hx).1
        rw [Array.getD_eq_getD_getElem?, Array.getElem?_ofFn] at hx' ⊢
        simp only [hql, dif_pos, Option.getD_some, decide_eq_true_eq] at hx'
        have hxq := hedge x ox hx y hy
        simp only [show y < l.length by omega, dif_pos, Option.getD_some, decide_eq_true_eq]
        omega
      have h3 := preds_listed hcl2 ho (fun x hx' => by
        have hxi := hedge (k + q) o ho x hx'
        rw [Array.getD_eq_getD_getElem?, Array.getElem?_ofFn]
        simp only [show x < l.length by omega, dif_pos, Option.getD_some, decide_eq_true_eq]
        exact hxi) h2
      rw [Array.getD_eq_getD_getElem?, Array.getElem?_ofFn] at h3
      simp only [show k + j < l.length by omega, dif_pos, Option.getD_some, decide_eq_true_eq] at h3
      omega
    have hknown : Known g w (see l.toArray o (ents (l.drop k) (fun i => uf (k + i)) q ++ T)) a := fun t v ht => by
      obtain ⟨hlook, hgt⟩ := get_filter _ _ _ _ ht
      rw [get_append] at hgt
      cases hg : Tmps.get (ents (l.drop k) (fun i => uf (k + i)) q) t with
      | some u' =>
        rw [hg] at hgt
        cases hgt
        obtain ⟨j, hj, hdj, rfl⟩ := hentsget (fun i => uf (k + i)) q t _ (by omega) hg
        exact hus2 j t (by omega) hdj (hlooked j (by omega) t hdj hlook).1
      | none =>
        rw [hg] at hgt
        refine hA t v hgt fun j hj hjt => ?_
        have h1 := hlooked j hj t hjt hlook
        exact absurd hjt (hentsnone (fun i => uf (k + i)) q t (by omega) hg j h1.2)
    have hother : ∀ t, o.dst ≠ some t → ∀ rv', (a.put o.dst rv').tmps[t]? = a.tmps[t]? := fun t ht rv' => by
      cases hod : o.dst with
      | none => rfl
      | some d =>
        simp only [Act.put, Array.getElem?_setIfInBounds]
        rw [if_neg (fun h => ht (by rw [hod, h]))]
    have hself : ∀ d, o.dst = some d → ∀ rv', (a.put o.dst rv').tmps[d]? = some rv' := fun d hod rv' => by
      have hdn' := dstOk_lt hdn d hod
      rw [hod]
      simp only [Act.put, Array.getElem?_setIfInBounds]
      simp [hn, hdn']
    have hdi : ∀ d, (l[k + q]?).bind (·.dst) = some d → o.dst = some d := fun d h => by rw [ho] at h; exact h
    have after : ∀ v rv g' w' st2, Ext g w g' w' → Sim g' w' st2 → R g' w' v rv → Q v → I (setV Es (k + q) v (valsOf Es listed us0)) st2 → Inv (listed.setIfInBounds (k + q) true) (a.put o.dst rv) w' := by
      intro v rv g' w' st2 he' hs' hR hQv hI2
      refine ⟨hsz', hcl', hfst', htl', by rw [Act.size_put]; exact hn, by rw [Act.defers_put]; exact hd, g', st2, fun j => bif Nat.beq j (k + q) then v else us0 j, he.trans he', hs', by rw [setV_of (by omega)]; exact hI2, fun t u ht hwr => ?_, fun j Q' hj hjQ hjl => ?_, fun j d' hj hjd hjl => ?_⟩
      · have htd : o.dst ≠ some t := fun htd => by
          have := hwr q hqk (by rw [ho]; exact htd)
          rw [Array.getD_eq_getD_getElem?, Array.getElem?_setIfInBounds_self_of_lt (by omega)] at this
          simp at this
        obtain ⟨ru, h1, h2⟩ := hA t u ht fun j hj hjt => by
          have h3 := hwr j hj hjt
          by_cases hij : q = j
          · subst hij; exact hunf
          · rwa [getD_set_ne false (by omega)] at h3
        exact ⟨ru, by rw [hother t htd]; exact h1, h2.ext he'⟩
      · by_cases hij : q = j
        · subst hij
          rw [hQi] at hjQ
          cases hjQ
          simp only [nbeq_self, cond_true]
          exact hQv
        · rw [getD_set_ne false (by omega)] at hjl
          simp only [nbeq_ne (show k + j ≠ k + q by omega), cond_false]
          exact hB1 j Q' hj hjQ hjl
      · by_cases hij : q = j
        · subst hij
          simp only [nbeq_self, cond_true]
          exact ⟨rv, hself d' (hdi d' hjd) rv, hR⟩
        · rw [getD_set_ne false (by omega)] at hjl
          simp only [nbeq_ne (show k + j ≠ k + q by omega), cond_false]
          obtain ⟨ru, h2, h3⟩ := hB2 j d' hj hjd hjl
          refine ⟨ru, ?_, h3.ext he'⟩
          rw [hother d' ?_]
          · exact h2
          · have hp : l[k + j]? = some l[k + j] := List.getElem?_eq_getElem (by omega)
            rw [hp] at hjd
            exact fun hdd => ((hbody (k + q) o ho (by omega) (by omega)).2 (k + j) _ (by omega) (by omega) hp).1 (by omega) d' d' hdd hjd rfl
    unfold wpOp
    simp only [List.getElem?_toArray, ho]
    rcases hstep with ⟨hw, hq1⟩ | ⟨hw, hq, hni⟩
    · rw [wanted_of hknown hw, if_pos rfl]
      left
      exact hq1 _ (by simp [valsOf]) (by rw [valsOf_some]; exact may_of hcl hsz ho hed' hunf Es) (fun p hp _ u hu => by
        obtain ⟨q', hq'⟩ := List.getElem?_of_mem hp
        rw [List.getElem?_zip_eq_some] at hq'
        obtain ⟨z1, z2⟩ := hq'
        rw [valsOf, List.getElem?_map, z1, Option.map_some, Option.some.injEq, hu] at z2
        rw [huf]
        cases hli : listed.getD p.1 false with
        | true => rw [hli, cond_true] at z2; simp only [hli, cond_true]; exact (Option.some.inj z2).symm
        | false => rw [hli, cond_false] at z2; cases z2) st1 g w a K' _ hI1 hs hknown hn fun rv g' w' v st2 he' hs' hR hQv hI2 => hK _ _ (after v rv g' w' st2 he' hs' hR hQv hI2)
    · rw [wanted_of hknown hw, if_neg (by simp)]
      exact hK _ _ (after _ undef g w st1 (.refl _ _) hs (.lit _) hq (by rw [setV_none Es _ (by simp [valsOf]) hni]; exact hI1))
  have key : ∀ (m : Nat) (listed : Array Bool) (a : Act) (w : World), Inv listed a w → μ listed ≤ m → wpAny P .any l.toArray (QOf n ds g0 w0 K E) m listed a w := by
    intro m
    induction m with
    | zero =>
      intro listed a w hi hm0
      have hall : ∀ j, j < l.length → listed.getD j true = true := fun j hj => by
        cases hv : listed.getD j true with
        | true => rfl
        | false => have := hμ listed j hj hi.1 hv; omega
      have hlk : l.length = k' := by
        rcases Nat.eq_or_lt_of_le hkl with h' | h'
        · exact h'.symm
        · have h1 := hall k' h'
          have h2 := hi.2.2.2.1 k' (Nat.le_refl _) h'
          rw [h1] at h2
          cases h2
      exact done 0 listed a w hi (fun j hj => hall j (by omega)) (by omega)
    | succ m ih =>
      intro listed a w hi hm1
      by_cases hall : ∀ j, j < k' → listed.getD j true = true
      · refine done (m + 1) listed a w hi hall ?_
        have : l.length - k' ≤ μ listed := by
          exact countP_range_ge k' _ l.length fun j h1 h2 => by rw [hi.2.2.2.1 j h1 h2]; rfl
        omega
      · have hex : ∃ j, j < k' ∧ listed.getD j true = false ∧ ∀ q, q < j → listed.getD q true = true := by
          have : ∃ j, j < k' ∧ listed.getD j true = false := by
            apply Classical.byContradiction
            intro hno
            apply hall
            intro j hj
            cases hv : listed.getD j true with
            | true => rfl
            | false => exact absurd ⟨j, hj, hv⟩ hno
          obtain ⟨j, hj⟩ := this
          induction j using Nat.strongRecOn with
          | _ j ihj =>
            by_cases hq : ∀ q, q < j → listed.getD q true = true
            · exact ⟨j, hj.1, hj.2, hq⟩
            · simp only [Classical.not_forall] at hq
              obtain ⟨q, hqj, hq⟩ := hq
              exact ihj q hqj ⟨by omega, by simpa using hq⟩
        obtain ⟨j0, hj0, hv0, hmin⟩ := hex
        have hsz := hi.1
        have hjl : j0 < l.length := by omega
        have hkj : k ≤ j0 := by
          rcases Nat.lt_or_ge j0 k with h' | h'
          · rw [hi.2.2.1 j0 h'] at hv0; cases hv0
          · exact h'
        have hready : j0 ∈ Region.ready .any l.toArray listed := ready_of_edges hv0 (List.getElem?_eq_getElem hjl) (fun x hx => by
          have hxj := hedge j0 _ (List.getElem?_eq_getElem hjl) x hx
          rw [getD_ft (by omega)]
          exact hmin x hxj)
        refine ⟨fun h0 => (by rw [h0] at hready; cases hready), fun i hri => ?_⟩
        obtain ⟨hun, o, ho, hed'⟩ := ready_edges hri
        have hil := (List.getElem?_eq_some_iff.1 ho).1
        have hik : i < k' := by
          rcases Nat.lt_or_ge i k' with h' | h'
          · exact h'
          · have h1 := preds_listed hi.2.1 ho hed' (htail i o h' ho j0 hkj hj0)
            rw [getD_ft (by omega), hv0] at h1
            cases h1
        have hki : k ≤ i := by
          rcases Nat.lt_or_ge i k with h' | h'
          · rw [hi.2.2.1 i h'] at hun; cases hun
          · exact h'
        obtain ⟨q, rfl⟩ : ∃ q, i = k + q := ⟨i - k, by omega⟩
        exact step _ listed a w q hi (by omega) hri fun a' w' hi' => ih _ a' w' hi' (by have := hμ listed (k + q) hil hsz hun; omega)
  refine key m1 listed1 a1 w1 ⟨hsz1, hc1, fun j hj => by rw [hli1 j (by omega), decide_eq_true hj], fun j h1 h2 => by rw [hli1 j h2, decide_eq_false (by omega)], hn1, hd1, g1, st, fun _ => .bool true, he1, hs1, ?_, fun t v ht _ => hk1 t v ht, fun i Q hi _ hl => ?_, fun i d hi hdi hl => ?_⟩ ?_
  · have : valsOf Es listed1 (fun _ => .bool true) = Es.map fun _ => none := List.map_congr_left fun e he => by
      obtain ⟨h1, h2⟩ := hEs e he
      rw [getD_ft (by omega), hli1 e (by omega), decide_eq_false (by omega)]
      rfl
    rw [this]
    exact hI
  · rw [getD_ft (by omega), hli1 (k + i) (by omega), decide_eq_false (by omega)] at hl
    cases hl
  · rw [getD_ft (by omega), hli1 (k + i) (by omega), decide_eq_false (by omega)] at hl
    cases hl
  · have h2 : μ listed1 = (List.range l.length).countP fun j => !decide (j < k) := List.countP_congr fun j hj => by rw [hli1 j (List.mem_range.1 hj)]
    rw [h2]
    have h3 : ∀ N, (List.range N).countP (fun j => !decide (j < k)) ≤ N - k := by
      intro N
      induction N with
      | zero => simp
      | succ N ih =>
        rw [List.range_succ, List.countP_append, List.countP_singleton]
        by_cases hN : N < k
        · simp only [hN, decide_true, Bool.not_true, Bool.false_eq_true, if_false]; omega
        · simp only [hN, decide_false, Bool.not_false, if_true]; omega
    have := h3 l.length
    omega
def IV (J : List (Option AV) → St → Prop) (base : St) (vs : List (Option AV)) (s : St) : Prop := J vs s ∧ StLe s base
variable {J : List (Option AV) → St → Prop} {base : St} {S Es : List Nat} {ops : Array Oper} {Qs : List (AV → Prop)} {vals : Nat → AV}
/-- A quiet step. -/
theorem dqV {i : Nat} {o : Oper} {r : List Oper} {d : Tmp} {v : AV} {k : Tmps → St → Prop} (hi : Es.contains i = false := by exact rfl) (hd : dstA n o.dst = some d := by exact rfl) (hw : wantedA ops (see ops o T) o = some true := by exact rfl)
    (h : ∀ st', StLe st' base → AOps P n ops [o] (fun T' st'' => ∃ u, T' = (d, u) :: see ops o T ∧ (u = v ∧ st'' = st')) (fun _ _ _ => False) (see ops o T) st')
    (z : DRunV P n (IV J base) S Es ops (i + 1) r Qs ((d, v) :: T) (fun j => bif Nat.beq j i then v else vals j) k) : DRunV P n (IV J base) S Es ops i (o :: r) ((fun u => u = v) :: Qs) T vals k := by
  obtain ⟨hd', hdn⟩ := dstA_some hd
  refine ⟨⟨v, rfl⟩, hdn, .inl ⟨hw, fun vs hl _ _ => ?_⟩, fun u hu => ?_⟩
  · intro s g w a K' Q' ⟨hJ, hle⟩ hs hk hn hK
    refine AOps.single hd' (dstOk_lt hdn d hd') (h s hle) hw hs hk K' Q' (fun rv g' w' u st' he hs' hR ⟨hu, hst⟩ => ?_) hn
    subst hu hst
    exact hK rv g' w' u st' he hs' hR rfl (by rw [setV_none Es vs hl hi]; exact ⟨hJ, hle⟩)
  · subst hu
    rw [hd']
    exact z
theorem dsV {i : Nat} {o : Oper} {r : List Oper} {d : Tmp} {v : AV} {k : Tmps → St → Prop} (hi : Es.contains i = false := by exact rfl) (hs : step1 ops n base (see ops o T) o = some (d, v) := by exact rfl)
    (z : DRunV P n (IV J base) S Es ops (i + 1) r Qs ((d, v) :: T) (fun j => bif Nat.beq j i then v else vals j) k) : DRunV P n (IV J base) S Es ops i (o :: r) ((fun u => u = v) :: Qs) T vals k := by
  have hg : goes ops n (see ops o T) o = some d := by
    unfold step1 at hs
    split at hs
    · rename_i h1 h2
      cases hs
      exact h1
    · cases hs
  obtain ⟨hw, hd, hok⟩ := goes_some hg
  have hda : dstA n o.dst = some d := by
    unfold goes at hg
    rw [hw] at hg
    exact hg
  exact dqV hi hda hw (fun st' hle => sm ((step1_glob (n := n) (ops := ops) hle.glob (see ops o T) o).symm.trans hs) (nl ⟨v, rfl, rfl, rfl⟩)) z
/-- A step whose outcome and state belong together. -/
theorem deV (Q : AV → Prop) (L : List (List Bool)) {i : Nat} {o : Oper} {r : List Oper} {d : Tmp} {k : Tmps → St → Prop} (hL : (allBits Es.length).filter (mayBe S Es i) = L) (hd : dstA n o.dst = some d) (hw : wantedA ops (see ops o T) o = some true) (hex : ∃ u, Q u)
    (h : BAll L fun bs => ∀ vs, vs.map Option.isSome = bs → LinkV Es i vals vs → ∀ s, J vs s → StLe s base → AOps P n ops [o] (fun T' st'' => ∃ u, T' = (d, u) :: see ops o T ∧ (Q u ∧ J (setV Es i u vs) st'' ∧ StLe st'' base)) (fun _ _ _ => False) (see ops o T) s)
    (z : ∀ u, Q u → DRunV P n (IV J base) S Es ops (i + 1) r Qs ((d, u) :: T) (fun j => bif Nat.beq j i then u else vals j) k) : DRunV P n (IV J base) S Es ops i (o :: r) (Q :: Qs) T vals k := by
  obtain ⟨hd', hdn⟩ := dstA_some hd
  refine ⟨hex, hdn, .inl ⟨hw, fun vs hl hm hlk => ?_⟩, fun u hu => ?_⟩
  · intro s g w a K' Q' ⟨hJ, hle⟩ hs hk hn hK
    have h' := h.get (vs.map Option.isSome) (by rw [← hL, List.mem_filter]; exact ⟨by rw [← hl, ← List.length_map (f := Option.isSome)]; exact mem_allBits _, hm⟩) vs rfl hlk s hJ hle
    exact AOps.single hd' (dstOk_lt hdn d hd') h' hw hs hk K' Q' (fun rv g' w' u st' he hs' hR hu => hK rv g' w' u st' he hs' hR hu.1 hu.2) hn
  · rw [hd']
    exact z u hu
/-- A step within the frame, its outcome known by Q. -/
theorem dfV (Q : AV → Prop) {i : Nat} {o : Oper} {r : List Oper} {d : Tmp} {k : Tmps → St → Prop} (hi : Es.contains i = false) (hd : dstA n o.dst = some d) (hw : wantedA ops (see ops o T) o = some true) (hex : ∃ u, Q u)
    (h : ∀ vs s, J vs s → StLe s base → AOps P n ops [o] (fun T' st'' => ∃ u, T' = (d, u) :: see ops o T ∧ (Q u ∧ J vs st'' ∧ StLe st'' base)) (fun _ _ _ => False) (see ops o T) s)
    (z : ∀ u, Q u → DRunV P n (IV J base) S Es ops (i + 1) r Qs ((d, u) :: T) (fun j => bif Nat.beq j i then u else vals j) k) : DRunV P n (IV J base) S Es ops i (o :: r) (Q :: Qs) T vals k := by
  obtain ⟨hd', hdn⟩ := dstA_some hd
  refine ⟨hex, hdn, .inl ⟨hw, fun vs hl hm hlk => ?_⟩, fun u hu => ?_⟩
  · rintro s g w a K' Q' ⟨hJ, hle⟩ hs hk hn hK
    exact AOps.single hd' (dstOk_lt hdn d hd') (h vs s hJ hle) hw hs hk K' Q' (fun rv g' w' u st' he hs' hR hu => hK rv g' w' u st' he hs' hR hu.1 (by rw [setV_none Es vs hl hi]; exact hu.2)) hn
  · rw [hd']
    exact z u hu
/-- A step that yields a value and leaves the state alone, where it may be next. -/
theorem dwV (v : AV) (L : List (List Bool)) {i : Nat} {o : Oper} {r : List Oper} {d : Tmp} {k : Tmps → St → Prop} (hi : Es.contains i = false) (hL : (allBits Es.length).filter (mayBe S Es i) = L) (hd : dstA n o.dst = some d) (hw : wantedA ops (see ops o T) o = some true)
    (h : BAll L fun bs => ∀ vs, vs.map Option.isSome = bs → LinkV Es i vals vs → ∀ s, J vs s → AOps P n ops [o] (fun T' st'' => ∃ u, T' = (d, u) :: see ops o T ∧ (u = v ∧ st'' = s)) (fun _ _ _ => False) (see ops o T) s)
    (z : DRunV P n (IV J base) S Es ops (i + 1) r Qs ((d, v) :: T) (fun j => bif Nat.beq j i then v else vals j) k) : DRunV P n (IV J base) S Es ops i (o :: r) ((fun u => u = v) :: Qs) T vals k := by
  obtain ⟨hd', hdn⟩ := dstA_some hd
  refine ⟨⟨v, rfl⟩, hdn, .inl ⟨hw, fun vs hl hm hlk => ?_⟩, fun u hu => ?_⟩
  · intro s g w a K' Q' ⟨hJ, hle⟩ hs hk hn hK
    have h' := h.get (vs.map Option.isSome) (by rw [← hL, List.mem_filter]; exact ⟨by rw [← hl, ← List.length_map (f := Option.isSome)]; exact mem_allBits _, hm⟩) vs rfl hlk s hJ
    exact AOps.single hd' (dstOk_lt hdn d hd') h' hw hs hk K' Q' (fun rv g' w' u st' he hs' hR ⟨hu, hst⟩ => by
      subst hu hst
      exact hK rv g' w' u st' he hs' hR rfl (by rw [setV_none Es vs hl hi]; exact ⟨hJ, hle⟩)) hn
  · subst hu
    rw [hd']
    exact z
/-- A step that writes. -/
theorem dnW (L : List (List Bool)) {i : Nat} {o : Oper} {r : List Oper} {k : Tmps → St → Prop} (hL : (allBits Es.length).filter (mayBe S Es i) = L) (hd : o.dst = none) (hw : wantedA ops (see ops o T) o = some true)
    (h : BAll L fun bs => ∀ vs, vs.map Option.isSome = bs → LinkV Es i vals vs → ∀ s, J vs s → StLe s base → AOps P n ops [o] (fun T' st'' => T' = see ops o T ∧ (∀ u, J (setV Es i u vs) st'') ∧ StLe st'' base) (fun _ _ _ => False) (see ops o T) s)
    (z : ∀ u, DRunV P n (IV J base) S Es ops (i + 1) r Qs T (fun j => bif Nat.beq j i then u else vals j) k) : DRunV P n (IV J base) S Es ops i (o :: r) ((fun _ => True) :: Qs) T vals k := by
  refine ⟨⟨.bool true, trivial⟩, by rw [hd]; rfl, .inl ⟨hw, fun vs hl hm hlk => ?_⟩, fun u _ => ?_⟩
  · intro s g w a K' Q' ⟨hJ, hle⟩ hs hk hn hK
    have h' := h.get (vs.map Option.isSome) (by rw [← hL, List.mem_filter]; exact ⟨by rw [← hl, ← List.length_map (f := Option.isSome)]; exact mem_allBits _, hm⟩) vs rfl hlk s hJ hle
    exact AOps.singleN h' hw hs hk K' Q' (fun rv g' w' st' he hs' hst => hK rv g' w' (.lit rv) st' he hs' (.lit rv) trivial ⟨hst.1 _, hst.2⟩) hn
  · rw [hd]
    exact z u
theorem dnV {i : Nat} {k : Tmps → St → Prop} (h : ∀ s, J (Es.map fun e => some (vals e)) s → k T s) : DRunV P n (IV J base) S Es ops i [] [] T vals k := fun s hs => h s hs.1
theorem AAny.segW {l : List Oper} {k : Nat} (k' : Nat) (Es : List Nat) (J : List (Option AV) → St → Prop) (base : St) {Qs : List (AV → Prop)} (hok : segOk l k k' Es = true) (hJ : J (Es.map fun _ => none) st) (hb : StLe st base)
    (h : DRunV P n (IV J base) (predSets l []) Es l.toArray k ((l.drop k).take (k' - k)) Qs T (fun _ => .bool true) fun T' st' => AAny P n l k' K E T' st') : AAny P n l k K E T st :=
  AAny.segV k' _ Es (IV J base) Qs hok rfl ⟨hJ, hb⟩ _ h
variable {rest : List Oper} {ty : TypeId} {pos : String} {es : Array Edge} {gd : Option (Nat × Bool)} {d : Tmp} {x y : Operand} {dd : Option Tmp}
/-- An empty literal: no room. -/
theorem bs0 {t e : TypeId} {sz eby : Nat} {ez : Value} [hu : Und P t (.slice e)] [hie : Inf P e sz eby ez] (hg : goes ops n T ⟨dd, .buildSlice t 0 #[], ty, pos, es, gd⟩ = some d := by exact rfl)
    (z : AOps P n ops rest K E ((d, .view sz [] .full) :: T) st) : AOps P n ops (⟨dd, .buildSlice t 0 #[], ty, pos, es, gd⟩ :: rest) K E T st := by
  refine AOps.stepAny hg fun g w a hs hk => ?_
  have hrun : (Instr.buildSlice t 0 #[]).run P w = .ok (.slice (some ⟨w.heap.size, 0, none⟩) 0 0) (w.alloc (.cells #[] e)) :=
    run_buildSlice (P := P) (e := e) (len := 0) (sz := sz) (eby := eby) (ez := ez) (by simp) #[] #[] w (by rw [Nat.zero_mul, show Array.map (fun x => ez.cells[x % ez.cells.size]!) (Array.range 0) = #[] by simp]; rfl)
  obtain ⟨g', he, hs', _, _, _, _, _⟩ := hs.newImm (.cells #[] e) (fun _ => False)
  exact ⟨.slice (some ⟨w.heap.size, 0, none⟩) 0 0, g', w.alloc (.cells #[] e), .view sz [] .full, st, by simp [execOp, hrun], he, hs', .vemp _ _ _ (fun h => by cases h) (show (0 : Nat) = 0 from rfl), z⟩
/-- append to an empty literal. -/
theorem apf {t e : TypeId} {sz by_ : Nat} {ez : Value} [hu : Und P t (.slice e)] [hie : Inf P e (sz + 1) by_ ez] {rows2 : List (List AV)} {tk2 : Tok}
    (hg : goes ops n T ⟨dd, .call ⟨.builtin .append, #[x, y], #[t, t]⟩, ty, pos, es, gd⟩ = some d) (hx : ev st T x = some (.view (sz + 1) [] .full)) (hy : ev st T y = some (.view (sz + 1) rows2 tk2))
    (hz : zok (sz + 1) ez = true) (hb : rows2.length * by_ ≤ 140737488355328) (hm : rows2.length ≤ maxLen)
    (k : ∀ tk', st.tok tk' = false → AOps P n ops rest K E ((d, .view (sz + 1) rows2 (.own tk' e)) :: T) (st.addTok tk')) :
    AOps P n ops (⟨dd, .call ⟨.builtin .append, #[x, y], #[t, t]⟩, ty, pos, es, gd⟩ :: rest) K E T st := by
  refine AOps.stepAny hg fun g w a hs hk => ?_
  have h1 := ev_R hs hk hx
  have h2 := ev_R hs hk hy
  generalize hux : a.eval x = ux at h1
  generalize huy : a.eval y = uy at h2
  have hemp : ∀ ad, ux = .slice (some ad) 0 0 → ∃ rv g' w' v st1, (execOp a.eval ⟨dd, .call ⟨.builtin .append, #[x, y], #[t, t]⟩, ty, pos, es, gd⟩).run P w = .ok (.value rv) w' ∧ Ext g w g' w' ∧ Sim g' w' st1 ∧ R g' w' v rv ∧ AOps P n ops rest K E ((d, v) :: T) st1 := fun ad e => by
    subst e
    obtain ⟨v, w', g', tk', hr, he, hs', hR, hf, _⟩ := append_emp (P := P) hs (t := t) (ty := ty) (Nat.succ_pos sz) hz ad h2 hb hm
    exact ⟨v, g', w', _, _, by simp [execOp, resolve, invoke, builtin, hux, huy, hr], he, hs', hR, k tk' hf⟩
  cases h1 with
  | vnil =>
    obtain ⟨g1, he1, hs1, htk1, hf1⟩ := hs.nilTok e
    obtain ⟨v, w', g', tk', hr, he, hs', hR, hf⟩ := append_view (P := P) hs1 (t := t) (ty := ty) (rows := []) (tk := g.next) (Nat.succ_pos sz) hz (.vnil _ _ (TokAt.mkOwn rfl htk1 (fun h => absurd rfl h))) (h2.ext he1) (St.tok_addTok _ _) (by simpa using hb) (by simpa using hm)
    have hne : tk' ≠ g.next := by intro e'; rw [e', St.tok_addTok] at hf; cases hf
    have hf' : st.tok tk' = false := by simpa [St.addTok, hne] using hf
    exact ⟨v, g', w', _, _, by simp [execOp, resolve, invoke, builtin, hux, huy, hr], he1.trans he, hs'.le (StLe.reTok hf1 tk'), by simpa using hR, k tk' hf'⟩
  | vemp _ _ ad => exact hemp ad rfl
  | view _ _ _ b off cap f hc hmx hl h1x ht himm hh =>
    have hcap : cap = 0 := by have : ([] : List (List AV)).length = cap := ht; simpa using this.symm
    subst hcap
    exact hemp _ rfl
end
end Go.AM
