/- parser.Print answers prT. No conditions: definitions and lemmas only. -/
import Derived.Test.YthjcphjabiajbaaDoorRows
import Derived.Test.YthjcphjabiajbaaDoorTie
import Derived.Test.YthjcphjabiajbaaDoorCards
import Derived.ProofKit
import Derived.OpenShut
import Derived.Lay
import Derived.Test.YthjcphjabiajbaaDoorB5
namespace Go.Proofs
open Go.AM
attribute [local irreducible] AWP AOps ACalls AAny

/-- Names with commas. -/
def jnT : Names → List UInt8
  | [] => []
  | [a] => a
  | a :: b :: r => a ++ [44, 32] ++ jnT (b :: r)
def JoinOk (l : Names) : Prop := ∀ st, ACalls Tryd.prog 33 [.view 1 (nrow l) .shared, .str [44, 32]] st (fun v st' => v = .str (jnT l) ∧ st' = st) (fun _ _ => False)
def recL (r : Rec) : Names := [[114, 101, 99, 111, 114, 100, 32], r.name, [32, 123, 32], jnT r.fields, [32, 125]]
def recT (r : Rec) : List UInt8 := lnT 0 (recL r)
def fnL (f : Fn) : Names := [[102, 117, 110, 99, 32], f.name, [40], jnT f.params, [41, 32, 123]]
def fnT (f : Fn) : List UInt8 := lnT 0 (fnL f) ++ prL 1 (f.body ++ [endSp f.stop]) ++ lnT 0 [[125]]
def prT (p : Prg) : List UInt8 := (p.1.map recT).flatten ++ (p.2.map fnT).flatten
structure WP (p : Prg) : Prop where
  r : p.1.length ≤ 100000
  f : p.2.length ≤ 100000
  b : ∀ f ∈ p.2, WSps f.body ∧ f.body.length < 100000
theorem WSps.app : ∀ {l : List Sp} {s : Sp}, WSps l → WSp s → WSps (l ++ [s])
  | [], s, _, h => by rw [List.nil_append, WSps, WSps]; exact ⟨h, trivial⟩
  | a :: l, s, h1, h2 => by
    rw [WSps] at h1
    rw [List.cons_append, WSps]
    exact ⟨h1.1, WSps.app h1.2 h2⟩
theorem WSp_end (n : Nat) : WSp (endSp n) := by
  rw [endSp, WSp, WSps]
  exact ⟨fun x h => (by cases h), fun x h => (by cases h), Nat.zero_le _, Nat.zero_le _, by decide, trivial, trivial, Nat.zero_le _, Nat.zero_le _⟩
theorem recRow_at (l : List Rec) (i : Nat) (r : Rec) (h : l[i]? = some r) : (l.map recRow)[i]? = some [.str r.name, .view 1 (nrow r.fields) .shared] := by rw [List.getElem?_map, h]; rfl
theorem fnRow_at (l : List Fn) (i : Nat) (f : Fn) (h : l[i]? = some f) : (l.map fnRow)[i]? = some [.str f.name, .int .i64 (f.line : Int), .view 1 (nrow f.params) .shared, .view 13 (spRows (f.body ++ [endSp f.stop])) .shared] := by rw [List.getElem?_map, h]; rfl
theorem map_take_succ {α : Type} (f : α → List UInt8) (l : List α) (i : Nat) (x : α) (h : l[i]? = some x) : ((l.take (i + 1)).map f).flatten = ((l.take i).map f).flatten ++ f x := by
  rw [List.take_add_one, h]
  simp
theorem map_take_le {α : Type} (f : α → List UInt8) (l : List α) (i : Nat) : ((l.take i).map f).flatten.length ≤ (l.map f).flatten.length := by
  have h : (l.map f).flatten = ((l.take i).map f).flatten ++ ((l.drop i).map f).flatten := by rw [← List.flatten_append, ← List.map_append, List.take_append_drop]
  rw [h, List.length_append]
  omega
set_option maxHeartbeats 2000000 in
theorem print_ok {p : Prg} (hw : WP p) (hJ : ∀ r ∈ p.1, JoinOk r.fields) (hJ2 : ∀ f ∈ p.2, JoinOk f.params) (hb : (prT p).length ≤ wMax) (st : St) (hg : GS st) :
    ACalls Tryd.prog 22 [.agg (pgRow p)] st (fun v st' => v = .str (prT p) ∧ st' = st) (fun _ _ => False) := by
  obtain ⟨R, F⟩ := p
  obtain ⟨w1, w2, w3⟩ := hw
  simp only at w1 w2 w3 hJ hJ2
  unfold prT at hb ⊢
  simp only [List.length_append] at hb ⊢
  unfold pgRow
  simp only
  have hrl : (R.map recRow).length = R.length := List.length_map ..
  have hfl : (F.map fnRow).length = F.length := List.length_map ..
  refine ACalls.ofBody Tryd.func22 rfl Tryd.ntmps22 rfl ?_
  repeat (refine AWP.seq ?_)
  refine rg ?_
  refine bxe rfl rfl rfl rfl ?_
  refine sm rfl ?_
  refine nl ?_
  repeat (refine AWP.seq ?_)
  refine rg ?_
  refine bds (cs := [.lit (.pointer none), nilV]) rfl rfl rfl rfl ?_
  refine bx rfl rfl rfl rfl fun o ho => ?_
  repeat (refine ZA (z := ?_))
  refine nl ?_
  have h0 : WOk st o [] none := ⟨fun _ e => (by cases e), fun _ => rfl⟩
  refine AWP.weaken (T' := [(3, .cptr o 2 0 0), (1, .eptr 2 [[.view 2 (R.map recRow) .shared, .view 4 (F.map fnRow) .shared]] 0 0)]) (st' := wS st o false [] none) (tl2 rfl rfl) (.refl _) ?_
  repeat (first | refine nl ?_ | refine AWP.seq ?_ | refine rg ?_ | refine AWP.block ?_ | refine ZA (z := ?_) | refine ZC (z := ?_) | refine ZF (z := ?_) | refine ZJ (z := ?_))
  refine AWP.loop (α := Nat × Bool × Option Nat) (fun y => [(13, .int .i64 (y.1 : Int)), (12, .int .i64 ((R.map recRow).length : Int)), (11, .view 2 (R.map recRow) .shared), (3, .cptr o 2 0 0), (1, .eptr 2 [[.view 2 (R.map recRow) .shared, .view 4 (F.map fnRow) .shared]] 0 0)]) (fun y => wS st o y.2.1 ((R.take y.1).map recT).flatten y.2.2) (fun y => y.1 ≤ R.length ∧ WOk st o ((R.take y.1).map recT).flatten y.2.2) (fun y => R.length - y.1) (0, false, none)
    ⟨Nat.zero_le _, h0⟩ (tl5 rfl rfl rfl rfl rfl) (.refl _) ?_
  rintro ⟨i, u, oo⟩ ⟨hi, h⟩
  simp only at hi h
  refine AWP.weaken (T' := [(13, .int .i64 (i : Int)), (12, .int .i64 ((R.map recRow).length : Int)), (11, .view 2 (R.map recRow) .shared), (3, .cptr o 2 0 0), (1, .eptr 2 [[.view 2 (R.map recRow) .shared, .view 4 (F.map fnRow) .shared]] 0 0)]) (st' := wS st o u ((R.take i).map recT).flatten oo) (tl5 rfl rfl rfl rfl rfl) (.refl _) ?_
  by_cases hlt : i < R.length
  · obtain ⟨r, hr⟩ : ∃ r, R[i]? = some r := ⟨_, List.getElem?_eq_getElem hlt⟩
    have hrr := recRow_at R i r hr
    have hir : i < (R.map recRow).length := by omega
    have hft := map_take_succ recT R i r hr
    have hle := map_take_le recT R (i + 1)
    rw [hft, List.length_append] at hle
    have hj := hJ r (List.mem_of_getElem? hr)
    repeat (first | refine nl ?_ | refine AWP.seq ?_ | refine rg ?_ | refine AWP.skip ?_ | refine AWP.block ?_ | refine YH (z := ?_) | refine ZA (z := ?_) | refine ZD (z := ?_) | refine ZM (z := ?_) | refine YA (z := ?_))
    refine AWP.any rfl ?_
    apply AAny.segQ (k' := 7) (hok := by decide +kernel)
    repeat (first | apply dsY (hi := rfl) (hs := rfl) | apply dqY (hi := rfl) (hd := rfl) (hw := rfl) (h := fun _ _ => ZF (z := nz)) | apply dqY (hi := rfl) (hd := rfl) (hw := rfl) (h := fun _ _ => ZC (z := nz)))
    apply dqY (hi := rfl) (hd := rfl) (hw := rfl) (h := fun st' hle => cle rfl rfl (hj st') nz)
    apply dqY (hi := rfl) (hd := rfl) (hw := rfl) (h := fun _ _ => bsh (cs := [.str [114, 101, 99, 111, 114, 100, 32], .str r.name, .str [32, 123, 32], .str (jnT r.fields), .str [32, 125]]) rfl rfl rfl rfl rfl nz)
    refine dnQ ?_
    refine AAny.one rfl rfl rfl rfl ?_
    refine cl rfl rfl (line_ok h 0 (recL r) _ (by exact Nat.le_of_ble_eq_true rfl) (show _ + (recT r).length ≤ wMax by omega)) fun v st' ⟨u3, oo3, h3, hst⟩ => nl ⟨_, rfl, ?_⟩
    subst hst
    refine AAny.text rfl ?_
    refine nl ?_
    rw [show lnT 0 (recL r) = recT r from rfl, ← hft] at h3 ⊢
    repeat (first | refine nl ?_ | refine rg ?_ | refine ZA (z := ?_) | refine ZO (z := ?_))
    exact ⟨(i + 1, u3, oo3), ⟨by simp only; omega, h3⟩, by simp only; omega, (tl5 rfl rfl rfl rfl rfl), .refl _⟩
  have hil : i = R.length := by omega
  subst hil
  rw [List.take_length] at h ⊢
  repeat (first | refine nl ?_ | refine AWP.seq ?_ | refine rg ?_ | refine YI (z := ?_) | refine ZA (z := ?_))
  refine AWP.exit (blk_hit ?_)
  repeat (first | refine nl ?_ | refine AWP.seq ?_ | refine rg ?_ | refine AWP.block ?_ | refine ZA (z := ?_) | refine ZC (z := ?_) | refine ZF (z := ?_) | refine ZJ (z := ?_))
  refine AWP.loop (α := Nat × Bool × Option Nat) (fun y => [(29, .int .i64 (y.1 : Int)), (28, .int .i64 ((F.map fnRow).length : Int)), (27, .view 4 (F.map fnRow) .shared), (3, .cptr o 2 0 0)]) (fun y => wS st o y.2.1 ((R.map recT).flatten ++ ((F.take y.1).map fnT).flatten) y.2.2) (fun y => y.1 ≤ F.length ∧ WOk st o ((R.map recT).flatten ++ ((F.take y.1).map fnT).flatten) y.2.2) (fun y => F.length - y.1) (0, u, oo)
    ⟨Nat.zero_le _, by simpa using h⟩ (tl4 rfl rfl rfl rfl) (by simp only [List.take_zero, List.map_nil, List.flatten_nil, List.append_nil]; exact .refl _) ?_
  clear h oo u
  rintro ⟨i, u, oo⟩ ⟨hi, h⟩
  simp only at hi h
  refine AWP.weaken (T' := [(29, .int .i64 (i : Int)), (28, .int .i64 ((F.map fnRow).length : Int)), (27, .view 4 (F.map fnRow) .shared), (3, .cptr o 2 0 0)]) (st' := wS st o u ((R.map recT).flatten ++ ((F.take i).map fnT).flatten) oo) (tl4 rfl rfl rfl rfl) (.refl _) ?_
  by_cases hlt : i < F.length
  · obtain ⟨f, hf⟩ : ∃ f, F[i]? = some f := ⟨_, List.getElem?_eq_getElem hlt⟩
    have hrr := fnRow_at F i f hf
    have hir : i < (F.map fnRow).length := by omega
    have hft := map_take_succ fnT F i f hf
    have hle := map_take_le fnT F (i + 1)
    rw [hft, List.length_append] at hle
    have hj := hJ2 f (List.mem_of_getElem? hf)
    obtain ⟨wb, wl⟩ := w3 f (List.mem_of_getElem? hf)
    have hli := list_ok (wb.app (WSp_end f.stop)) (by rw [List.length_append, List.length_cons, List.length_nil]; omega)
    have hfn : (fnT f).length = (lnT 0 (fnL f)).length + (prL 1 (f.body ++ [endSp f.stop])).length + (lnT 0 [[125]]).length := by rw [fnT, List.length_append, List.length_append]
    repeat (first | refine nl ?_ | refine AWP.seq ?_ | refine rg ?_ | refine AWP.skip ?_ | refine AWP.block ?_ | refine YH (z := ?_) | refine ZA (z := ?_) | refine ZD (z := ?_) | refine ZM (z := ?_) | refine YA (z := ?_))
    refine AWP.any rfl ?_
    apply AAny.segQ (k' := 7) (hok := by decide +kernel)
    repeat (first | apply dsY (hi := rfl) (hs := rfl) | apply dqY (hi := rfl) (hd := rfl) (hw := rfl) (h := fun _ _ => ZF (z := nz)) | apply dqY (hi := rfl) (hd := rfl) (hw := rfl) (h := fun _ _ => ZC (z := nz)))
    apply dqY (hi := rfl) (hd := rfl) (hw := rfl) (h := fun st' hle => cle rfl rfl (hj st') nz)
    apply dqY (hi := rfl) (hd := rfl) (hw := rfl) (h := fun _ _ => bsh (cs := [.str [102, 117, 110, 99, 32], .str f.name, .str [40], .str (jnT f.params), .str [41, 32, 123]]) rfl rfl rfl rfl rfl nz)
    refine dnQ ?_
    refine AAny.one rfl rfl rfl rfl ?_
    refine cl rfl rfl (line_ok h 0 (fnL f) _ (by exact Nat.le_of_ble_eq_true rfl) (by rw [List.length_append]; omega)) fun v st' ⟨u3, oo3, h3, hst⟩ => nl ⟨_, rfl, ?_⟩
    subst hst
    refine AAny.text rfl ?_
    refine nl ?_
    repeat (first | refine AWP.seq ?_ | refine rg ?_ | refine ZA (z := ?_) | refine ZC (z := ?_) | refine ZF (z := ?_))
    refine cl rfl rfl (hli 1 _ o u3 _ oo3 hg h3 (by simp only [List.length_append]; omega)) fun v st' ⟨u4, oo4, h4, hst⟩ => ?_
    subst hst
    repeat (first | refine nl ?_ | refine rg ?_ | refine ZA (z := ?_) | refine ZQ (z := ?_))
    refine cl rfl rfl (line_ok h4 0 [[125]] _ (by exact Nat.le_of_ble_eq_true rfl) (by simp only [List.length_append]; omega)) fun v st' ⟨u5, oo5, h5, hst⟩ => ?_
    subst hst
    have e : (R.map recT).flatten ++ ((F.take i).map fnT).flatten ++ lnT 0 (fnL f) ++ prL 1 (f.body ++ [endSp f.stop]) ++ lnT 0 [[125]] = (R.map recT).flatten ++ ((F.take (i + 1)).map fnT).flatten := by rw [hft, fnT]; simp
    rw [e] at h5 ⊢
    repeat (first | refine nl ?_ | refine rg ?_ | refine ZA (z := ?_) | refine ZO (z := ?_))
    exact ⟨(i + 1, u5, oo5), ⟨by simp only; omega, h5⟩, by simp only; omega, (tl4 rfl rfl rfl rfl), .refl _⟩
  have hil : i = F.length := by omega
  subst hil
  rw [List.take_length] at h ⊢
  repeat (first | refine nl ?_ | refine AWP.seq ?_ | refine rg ?_ | refine YI (z := ?_) | refine ZA (z := ?_))
  refine AWP.exit (blk_hit ?_)
  repeat (first | refine AWP.seq ?_ | refine rg ?_ | refine ZA (z := ?_) | refine ZC (z := ?_))
  refine cl rfl rfl (builderString_ok h (by rw [List.length_append]; exact hb)) fun v st' ⟨hv, c, hst⟩ => ?_
  subst hv
  subst hst
  repeat (first | refine nl ?_ | refine ZA (z := ?_))
  exact AWP.ret (rets rfl (.refl _) (StLe.new ho (.refl _)) ⟨rfl, rfl⟩)
end Go.Proofs
/- strings.Join of at most one string. No conditions: definitions and lemmas only. -/
namespace Go.Proofs
open Go.AM
attribute [local irreducible] AWP AOps ACalls AAny

theorem join_one {l : Names} (h : l.length ≤ 1) : JoinOk l := by
  intro st
  refine ACalls.ofBody Tryd.func33 rfl Tryd.ntmps33 rfl ?_
  match l, h with
  | [], _ =>
    repeat (first | refine nl ?_ | refine AWP.seq ?_ | refine rg ?_ | refine AWP.block ?_ | refine YH (z := ?_) | refine ZA (z := ?_) | refine ZJ (z := ?_))
    exact AWP.ret (rets rfl (.refl _) (.refl _) ⟨rfl, rfl⟩)
  | [a], _ =>
    repeat (first | refine nl ?_ | refine AWP.seq ?_ | refine rg ?_ | refine AWP.block ?_ | refine YH (z := ?_) | refine YI (z := ?_) | refine ZA (z := ?_) | refine ZF (z := ?_) | refine ZJ (z := ?_) | refine ZM (z := ?_))
    trace_state
    exact AWP.ret (rets rfl (.refl _) (.refl _) ⟨rfl, rfl⟩)
  | _ :: _ :: _, h => exact absurd h (by simp)
end Go.Proofs
/- The sanity check of the laws of the parser. No conditions: definitions and lemmas only. -/
namespace Go.Proofs
open Go.AM
attribute [local irreducible] AWP AOps ACalls AAny

/-- The tables that are laid. -/
structure LTp (st : St) : Prop where
  signs : st.row 1 = some signRow
  words : st.row 0 = some wordRow
  gs : GS st
theorem LTp.set {st : St} (h : LTp st) (o : Nat) (c : AObj) : LTp (st.set o c) := ⟨h.signs, h.words, ⟨h.gs.tab, h.gs.ops⟩⟩
theorem LTp.parse {st : St} (h : LTp st) (s : List UInt8) : ACalls Tryd.prog 7 [.str s] st (fun v st' => v = parV (pparse s) ∧ st' = st) (fun _ _ => False) := parse_ok s st h.signs h.words h.gs.ops
def kText : List UInt8 := [102, 117, 110, 99, 32, 102, 40, 97, 41, 123, 114, 101, 116, 117, 114, 110, 32, 40, 97, 43, 49, 41, 42, 50, 59, 125]
def kProg : Prg := ([], [⟨1, [102], [[97]], [.mk 6 1 [] [] 0 [] [] [.bin 8 (.bin 6 (.var [97]) (.lit 1)) (.lit 2)] [] []], 1⟩])
theorem kParse : pparse kText = .ok kProg := by kernel_rfl
def kOut : List UInt8 := [102, 117, 110, 99, 32, 102, 40, 97, 41, 32, 123, 10, 9, 114, 101, 116, 117, 114, 110, 32, 40, 97, 32, 43, 32, 49, 41, 32, 42, 32, 50, 59, 10, 125, 10]
theorem kPrint : prT kProg = kOut := by kernel_rfl
theorem kWP : WP kProg := by
  refine ⟨by decide, by decide, fun f hf => ?_⟩
  rw [List.mem_singleton.1 hf]
  refine ⟨?_, by decide⟩
  rw [WSps, WSps, WSp, WSps]
  refine ⟨⟨fun x h => (by cases h), fun x h => ?_, by decide, by decide, by decide, trivial, trivial, by decide, by decide⟩, trivial⟩
  rw [List.mem_singleton.1 h]
  refine ⟨⟨by decide, by decide, ⟨by decide, by decide, trivial, trivial⟩, trivial⟩, ⟨trivial, ?_⟩, ?_⟩
  · show 1 < 1000000000000000000; decide
  · show 2 < 1000000000000000000; decide
set_option maxHeartbeats 1000000 in
theorem known_ok (st : St) (hT : LTp st) : ACalls Tryd.prog 8 [] st (fun v st' => v = .bool true ∧ st' = st) (fun _ _ => False) := by
  refine ACalls.ofBody Tryd.func8 rfl Tryd.ntmps8 rfl ?_
  have hrow : pgRow kProg = [.view 2 [] .shared, .view 4 [[.str [102], .int .i64 1, .view 1 [[.str [97]]] .shared, .view 13 [spRow (.mk 6 1 [] [] 0 [] [] [.bin 8 (.bin 6 (.var [97]) (.lit 1)) (.lit 2)] [] []), spRow (endSp 1)] .shared]] .shared] := by kernel_rfl
  have hp := hT.parse kText
  rw [kParse, show parV (.ok kProg) = .tuple [.agg (pgRow kProg), .int .i64 0, .int .i64 0] from rfl, hrow] at hp
  have hq := print_ok kWP (fun r h => by cases h) (fun f hf => by rw [List.mem_singleton.1 hf]; exact join_one (by decide)) (by rw [kPrint]; decide) st hT.gs
  rw [kPrint, hrow] at hq
  generalize spRow (.mk 6 1 [] [] 0 [] [] [.bin 8 (.bin 6 (.var [97]) (.lit 1)) (.lit 2)] [] []) = r1 at hp hq
  generalize spRow (endSp 1) = r2 at hp hq
  clear hrow
  repeat (refine AWP.seq ?_)
  refine rg ?_
  repeat (refine ZA (z := ?_))
  refine nl ?_
  repeat (refine AWP.seq ?_)
  refine rg ?_
  refine cle rfl rfl hp ?_
  repeat (first | refine nl ?_ | refine AWP.seq ?_ | refine rg ?_ | refine ZA (z := ?_) | refine ZC (z := ?_) | refine ZD (z := ?_) | refine ZF (z := ?_) | refine ZJ (z := ?_) | refine ZM (z := ?_) | refine YA (z := ?_))
  refine cle rfl rfl hq ?_
  repeat (first | refine nl ?_ | refine ZA (z := ?_))
  exact AWP.ret (rets rfl (.refl _) (.refl _) ⟨rfl, rfl⟩)
/-- `value` of the laws: the program that prints an expression. -/
def vPre : List UInt8 := [102, 117, 110, 99, 32, 102, 40, 41, 32, 123, 32, 112, 114, 105, 110, 116, 32]
def vText (s : List UInt8) : List UInt8 := vPre ++ s ++ [59, 32, 125]
def valV : Except (Nat × Nat) Prg → AV
  | .ok p => .tuple [.agg (pgRow p), .int .i64 0]
  | .error (_, e) => .tuple [.agg [nilV, nilV], .int .i64 (e : Int)]
theorem pgRow_or (r : Except (Nat × Nat) Prg) : ∃ (a b : List (List AV)) (ta tb : Go.AM.Tok) (sa sb : Nat) (l e : Nat), parV r = .tuple [.agg [.view sa a ta, .view sb b tb], .int .i64 (l : Int), .int .i64 (e : Int)] ∧ valV r = .tuple [.agg [.view sa a ta, .view sb b tb], .int .i64 (e : Int)] := by
  rcases r with ⟨l, e⟩ | ⟨R, F⟩
  · exact ⟨[], [], .nil, .nil, 0, 0, l, e, rfl, rfl⟩
  · exact ⟨R.map recRow, F.map fnRow, .shared, .shared, 2, 4, 0, 0, rfl, rfl⟩
theorem value_ok (s : List UInt8) (hs : s.length ≤ 1000000) (st : St) (hT : LTp st) : ACalls Tryd.prog 11 [.str s] st (fun v st' => v = valV (pparse (vText s)) ∧ st' = st) (fun _ _ => False) := by
  refine ACalls.ofBody Tryd.func11 rfl Tryd.ntmps11 rfl ?_
  obtain ⟨a, b, ta, tb, sa, sb, l, e, h1, h2⟩ := pgRow_or (pparse (vText s))
  rw [h2]
  repeat (refine AWP.seq ?_)
  refine rg ?_
  refine al rfl rfl fun o ho => ?_
  have hp := (hT.set o (.cells 25 2 [zrow (.agg #[.slice none 0 0, .slice none 0 0])])).parse (vText s)
  rw [h1] at hp
  repeat (first | refine nl ?_ | refine AWP.seq ?_ | refine rg ?_ | refine ZA (z := ?_))
  refine sad rfl rfl rfl (by simp only [List.length_cons, List.length_nil]; omega) ?_
  refine sad rfl rfl rfl (by simp only [List.length_append, List.length_cons, List.length_nil]; omega) ?_
  refine cle rfl rfl hp ?_
  repeat (first | refine nl ?_ | refine AWP.seq ?_ | refine rg ?_ | refine ZA (z := ?_) | refine ZD (z := ?_) | refine YA (z := ?_))
  refine soV rfl rfl rfl rfl rfl rfl ?_
  repeat (first | refine nl ?_ | refine ZA (z := ?_))
  exact AWP.ret (rets (resCW rfl (St.obj_set _ _ _) rfl rfl rfl rfl) (.refl _) (StLe.new ho (.refl _)) ⟨rfl, rfl⟩)
end Go.Proofs
/- What the laws of this seat share: the laid tables, the arguments' kinds. No conditions: lemmas only. -/
namespace Go.Proofs.YthjcphjabiajbaaDoor
open Go.ChangeShapes Go.WideShapes Go.ChangeAt Go.RowKit Go.AM

theorem own : ownKnob Tryd.prog.godebug = none := by kernel_rfl
theorem laidOut : laidOutB Tryd.prog = true := by kernel_rfl
def laidAll : List (String × DataW Unit) := [("math/bits.deBruijn32tab", Rows.laid_math_bits_deBruijn32tab), ("math/bits.deBruijn64tab", Rows.laid_math_bits_deBruijn64tab), ("internal/strconv.uint64pow10", Rows.laid_internal_strconv_uint64pow10), ("debugger/lexer.words", Rows.laid_debugger_lexer_words), ("debugger/lexer.signs", Rows.laid_debugger_lexer_signs), ("debugger/parser.operators", Rows.laid_debugger_parser_operators)]

theorem kinds : ∀ t ∈ [3, 9, 71, 77, 101, 130, 137], Go.AM.kindOk Tryd.prog [3, 9, 71, 77, 101, 130, 137] t = true := by
  intro t ht
  simp only [List.mem_cons, List.not_mem_nil, or_false] at ht
  rcases ht with rfl | rfl | rfl | rfl | rfl | rfl | rfl <;> kernel_rfl
theorem pow_row : litRow (Rows.laid_internal_strconv_uint64pow10 : DataW Unit) = some powRow := by kernel_rfl
theorem op_row : litRow (Rows.laid_debugger_parser_operators : DataW Unit) = some sgnRow := by kernel_rfl
def tabL : List (Nat × List AV) := [(0, wordRow), (1, signRow), (2, sgnRow), (4, powRow)]
theorem tables {W : World} (h : laidMetH Tryd.prog laidAll W) : ∀ gi row, (gi, row) ∈ tabL → GlobAt (G0 W) W gi row := by
  have h' : laidMet Tryd.prog laidAll W := h
  intro gi row hm
  simp only [tabL, List.mem_cons, List.not_mem_nil, or_false] at hm
  rcases hm with hm | hm | hm | hm
  · cases hm
    exact laid_row kinds h' (n := "debugger/lexer.words") (t := 77) (.tail _ (.tail _ (.tail _ (.head _)))) rfl (by kernel_rfl) (by kernel_rfl) (by decide) (by decide)
  · cases hm
    exact laid_row kinds h' (n := "debugger/lexer.signs") (t := 101) (.tail _ (.tail _ (.tail _ (.tail _ (.head _))))) rfl (by kernel_rfl) (by kernel_rfl) (by decide) (by decide)
  · cases hm
    exact laid_row kinds h' (n := "debugger/parser.operators") (t := 77) (.tail _ (.tail _ (.tail _ (.tail _ (.tail _ (.head _)))))) op_row (by kernel_rfl) (by kernel_rfl) (by decide) (by decide)
  · cases hm
    exact laid_row kinds h' (n := "internal/strconv.uint64pow10") (t := 137) (.tail _ (.tail _ (.head _))) pow_row (by kernel_rfl) (by kernel_rfl) (by decide) (by decide)
theorem hT {o : Nat → Option AObj} {tk : Nat → Bool} : LTp { obj := o, tok := tk, glob := tabL } := ⟨rfl, rfl, ⟨.tail _ (.tail _ (.tail _ (.head _))), rfl⟩⟩
end Go.Proofs.YthjcphjabiajbaaDoor
/- ParserExamples, walked. No conditions: definitions and lemmas only. -/
namespace Go.Proofs
open Go.AM
attribute [local irreducible] AWP AOps ACalls AAny

def xT1 : List UInt8 := [102, 117, 110, 99, 32, 102, 40, 41, 32, 123, 10, 32, 118, 97, 114, 32, 116, 58, 32, 105, 110, 116, 91, 57, 93, 59, 32, 125]
def xT2 : List UInt8 := [102, 117, 110, 99, 32, 102, 40, 41, 32, 123, 10, 32, 120, 32, 61, 32, 49, 32, 43, 10, 59, 32, 125]
def xT3 : List UInt8 := [114, 101, 99, 111, 114, 100, 32, 80, 32, 123, 32, 125]
def xT4 : List UInt8 := [102, 117, 110, 99, 32, 102, 40, 41, 32, 123, 32, 120, 32, 61, 32, 102, 40, 49, 44, 32, 50, 41, 59, 32, 102, 40, 41, 59, 32, 114, 101, 116, 117, 114, 110, 32, 102, 40, 41, 59, 32, 120, 46, 121, 32, 61, 32, 51, 59, 32, 116, 114, 121, 32, 123, 32, 125, 32, 99, 97, 116, 99, 104, 32, 101, 32, 123, 32, 116, 104, 114, 111, 119, 32, 101, 59, 32, 125, 32, 125]
def xP4 : Prg := ([], [⟨1, [102], [], [.mk 3 1 [] [] 0 [.var [120]] [102] [.lit 1, .lit 2] [] [], .mk 3 1 [] [] 0 [] [102] [] [] [], .mk 6 1 [] [] 0 [] [102] [] [] [], .mk 2 1 [] [] 0 [.fld [120] [121]] [] [.lit 3] [] [], .mk 8 1 [101] [] 0 [] [] [] [] [.mk 7 1 [] [] 0 [] [] [.var [101]] [] []]], 1⟩])
theorem xK1 : pparse xT1 = .error (2, 5) := by kernel_rfl
theorem xK2 : pparse xT2 = .error (3, 7) := by kernel_rfl
theorem xK3 : pparse xT3 = .error (1, 7) := by kernel_rfl
theorem xK4 : pparse xT4 = .ok xP4 := by kernel_rfl
theorem xRow : pgRow xP4 = [.view 2 [] .shared, .view 4 [[.str [102], .int .i64 1, .view 1 [] .shared, .view 13 [
  sRow 3 1 [] [] 0 (.view 6 [xrow (.var [120])] .shared) [102] (.view 6 [xrow (.lit 1), xrow (.lit 2)] .shared) (.view 13 [] .shared) (.view 13 [] .shared),
  sRow 3 1 [] [] 0 (.view 6 [] .shared) [102] (.view 6 [] .shared) (.view 13 [] .shared) (.view 13 [] .shared),
  sRow 6 1 [] [] 0 (.view 6 [] .shared) [102] (.view 6 [] .shared) (.view 13 [] .shared) (.view 13 [] .shared),
  sRow 2 1 [] [] 0 (.view 6 [exRow 2 0 [120] [121] noE] .shared) [] (.view 6 [xrow (.lit 3)] .shared) (.view 13 [] .shared) (.view 13 [] .shared),
  sRow 8 1 [101] [] 0 (.view 6 [] .shared) [] (.view 6 [] .shared) (.view 13 [] .shared) (.view 13 [spRow (.mk 7 1 [] [] 0 [] [] [.var [101]] [] [])] .shared),
  sRow 10 1 [] [] 0 (.view 6 [] .shared) [] (.view 6 [] .shared) (.view 13 [] .shared) (.view 13 [] .shared)] .shared]] .shared] := by kernel_rfl
set_option maxHeartbeats 4000000 in
theorem ParserExamples_ok (st : St) (hT : LTp st) : ACalls Tryd.prog 3 [] st (fun v _ => v = .bool true) (fun _ _ => False) := by
  refine ACalls.ofBody Tryd.func3 rfl Tryd.ntmps3 rfl ?_
  have p1 := hT.parse xT1
  have p2 := hT.parse xT2
  have p3 := hT.parse xT3
  have p4 := hT.parse xT4
  rw [xK1] at p1
  rw [xK2] at p2
  rw [xK3] at p3
  rw [xK4, show parV (.ok xP4) = .tuple [.agg (pgRow xP4), .int .i64 0, .int .i64 0] from rfl, xRow] at p4
  replace p1 : ACalls Tryd.prog 7 [.str xT1] st (fun v st' => v = .tuple [.agg [nilV, nilV], .int .i64 2, .int .i64 5] ∧ st' = st) (fun _ _ => False) := p1
  replace p2 : ACalls Tryd.prog 7 [.str xT2] st (fun v st' => v = .tuple [.agg [nilV, nilV], .int .i64 3, .int .i64 7] ∧ st' = st) (fun _ _ => False) := p2
  replace p3 : ACalls Tryd.prog 7 [.str xT3] st (fun v st' => v = .tuple [.agg [nilV, nilV], .int .i64 1, .int .i64 7] ∧ st' = st) (fun _ _ => False) := p3
  have hk := known_ok st hT
  generalize xrow (.var [120]) = a1 at p4
  generalize xrow (.lit 1) = a2 at p4
  generalize xrow (.lit 2) = a3 at p4
  generalize xrow (.lit 3) = a4 at p4
  generalize spRow (.mk 7 1 [] [] 0 [] [] [.var [101]] [] []) = a5 at p4
  repeat (first | refine nl ?_ | refine AWP.seq ?_ | refine rg ?_ | refine ZA (z := ?_))
  refine cle rfl rfl p1 ?_
  repeat (first | refine nl ?_ | refine AWP.seq ?_ | refine rg ?_ | refine ZA (z := ?_) | refine YA (z := ?_))
  refine cle rfl rfl p2 ?_
  repeat (first | refine nl ?_ | refine AWP.seq ?_ | refine rg ?_ | refine ZA (z := ?_) | refine YA (z := ?_))
  refine cle rfl rfl p3 ?_
  repeat (first | refine nl ?_ | refine AWP.seq ?_ | refine rg ?_ | refine ZA (z := ?_) | refine YA (z := ?_))
  refine cle rfl rfl p4 ?_
  repeat (first | refine nl ?_ | refine AWP.seq ?_ | refine rg ?_ | refine AWP.skip ?_ | refine YI (z := ?_) | refine ZA (z := ?_) | refine ZC (z := ?_) | refine ZF (z := ?_) | refine ZJ (z := ?_) | refine ZM (z := ?_) | refine YA (z := ?_))
  refine cle rfl rfl hk ?_
  repeat (first | refine nl ?_ | refine ZA (z := ?_))
  exact AWP.ret (rets rfl (.refl _) (.refl _) rfl)
end Go.Proofs
