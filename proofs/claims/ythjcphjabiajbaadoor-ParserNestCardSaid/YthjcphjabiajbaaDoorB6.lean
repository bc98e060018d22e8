/- parser.Print answers prT. No conditions: definitions and lemmas only. -/
import Derived.Test.YthjcphjabiajbaaDoorRows
import Derived.Test.YthjcphjabiajbaaDoorTie
import Derived.Test.YthjcphjabiajbaaDoorCards
import Derived.ProofKit
import Derived.OpenShut
import Derived.Lay
import Derived.Test.YthjcphjabiajbaaDoorB5
namespace Go.Proofs
open Go.AM
attribute [local irreducible] AWP AOps ACalls AAny

/-- Names with commas. -/
def jnT : Names → List UInt8
  | [] => []
  | [a] => a
  | a :: b :: r => a ++ [44, 32] ++ jnT (b :: r)
def JoinOk (l : Names) : Prop := ∀ st, ACalls Tryd.prog 33 [.view 1 (nrow l) .shared, .str [44, 32]] st (fun v st' => v = .str (jnT l) ∧ st' = st) (fun _ _ => False)
def recL (r : Rec) : Names := [[114, 101, 99, 111, 114, 100, 32], r.name, [32, 123, 32], jnT r.fields, [32, 125]]
def recT (r : Rec) : List UInt8 := lnT 0 (recL r)
def fnL (f : Fn) : Names := [[102, 117, 110, 99, 32], f.name, [40], jnT f.params, [41, 32, 123]]
def fnT (f : Fn) : List UInt8 := lnT 0 (fnL f) ++ prL 1 (f.body ++ [endSp f.stop]) ++ lnT 0 [[125]]
def prT (p : Prg) : List UInt8 := (p.1.map recT).flatten ++ (p.2.map fnT).flatten
structure WP (p : Prg) : Prop where
  r : p.1.length ≤ 100000
  f : p.2.length ≤ 100000
  b : ∀ f ∈ p.2, WSps f.body ∧ f.body.length < 100000
theorem WSps.app : ∀ {l : List Sp} {s : Sp}, WSps l → WSp s → WSps (l ++ [s])
  | [], s, _, h => by rw [List.nil_append, WSps, WSps]; exact ⟨h, trivial⟩
  | a :: l, s, h1, h2 => by
    rw [WSps] at h1
    rw [List.cons_append, WSps]
    exact ⟨h1.1, WSps.app h1.2 h2⟩
theorem WSp_end (n : Nat) : WSp (endSp n) := by
  rw [endSp, WSp, WSps]
  exact ⟨fun x h => (by cases h), fun x h => (by cases h), Nat.zero_le _, Nat.zero_le _, by decide, trivial, trivial, Nat.zero_le _, Nat.zero_le _⟩
theorem recRow_at (l : List Rec) (i : Nat) (r : Rec) (h : l[i]? = some r) : (l.map recRow)[i]? = some [.str r.name, .view 1 (nrow r.fields) .shared] := by rw [List.getElem?_map, h]; rfl
theorem fnRow_at (l : List Fn) (i : Nat) (f : Fn) (h : l[i]? = some f) : (l.map fnRow)[i]? = some [.str f.name, .int .i64 (f.line : Int), .view 1 (nrow f.params) .shared, .view 13 (spRows (f.body ++ [endSp f.stop])) .shared] := by rw [List.getElem?_map, h]; rfl
theorem map_take_succ {α : Type} (f : α → List UInt8) (l : List α) (i : Nat) (x : α) (h : l[i]? = some x) : ((l.take (i + 1)).map f).flatten = ((l.take i).map f).flatten ++ f x := by
  rw [List.take_add_one, h]
  simp
theorem map_take_le {α : Type} (f : α → List UInt8) (l : List α) (i : Nat) : ((l.take i).map f).flatten.length ≤ (l.map f).flatten.length := by
  have h : (l.map f).flatten = ((l.take i).map f).flatten ++ ((l.drop i).map f).flatten := by rw [← List.flatten_append, ← List.map_append, List.take_append_drop]
  rw [h, List.length_append]
  omega
set_option maxHeartbeats 2000000 in
theorem print_ok {p : Prg} (hw : WP p) (hJ : ∀ r ∈ p.1, JoinOk r.fields) (hJ2 : ∀ f ∈ p.2, JoinOk f.params) (hb : (prT p).length ≤ wMax) (st : St) (hg : GS st) :
    ACalls Tryd.prog 22 [.agg (pgRow p)] st (fun v st' => v = .str (prT p) ∧ st' = st) (fun _ _ => False) := by
  obtain ⟨R, F⟩ := p
  obtain ⟨w1, w2, w3⟩ := hw
  simp only at w1 w2 w3 hJ hJ2
  unfold prT at hb ⊢
  simp only [List.length_append] at hb ⊢
  unfold pgRow
  simp only
  have hrl : (R.map recRow).length = R.length := List.length_map ..
  have hfl : (F.map fnRow).length = F.length := List.length_map ..
  refine ACalls.ofBody Tryd.func22 rfl Tryd.ntmps22 rfl ?_
  repeat (refine AWP.seq ?_)
  refine rg ?_
  refine bxe rfl rfl rfl rfl ?_
  refine sm rfl ?_
  refine nl ?_
  repeat (refine AWP.seq ?_)
  refine rg ?_
  refine bds (cs := [.lit (.pointer none), nilV]) rfl rfl rfl rfl ?_
  refine bx rfl rfl rfl rfl fun o ho => ?_
  repeat (refine ZA (z := ?_))
  refine nl ?_
  have h0 : WOk st o [] none := ⟨fun _ e => (by cases e), fun _ => rfl⟩
  refine AWP.weaken (T' := [(3, .cptr o 2 0 0), (1, .eptr 2 [[.view 2 (R.map recRow) .shared, .view 4 (F.map fnRow) .shared]] 0 0)]) (st' := wS st o false [] none) (tl2 rfl rfl) (.refl _) ?_
  repeat (first | refine nl ?_ | refine AWP.seq ?_ | refine rg ?_ | refine AWP.block ?_ | refine ZA (z := ?_) | refine ZC (z := ?_) | refine ZF (z := ?_) | refine ZJ (z := ?_))
  refine AWP.loop (α := Nat × Bool × Option Nat) (fun y => [(13, .int .i64 (y.1 : Int)), (12, .int .i64 ((R.map recRow).length : Int)), (11, .view 2 (R.map recRow) .shared), (3, .cptr o 2 0 0), (1, .eptr 2 [[.view 2 (R.map recRow) .shared, .view 4 (F.map fnRow) .shared]] 0 0)]) (fun y => wS st o y.2.1 ((R.take y.1).map recT).flatten y.2.2) (fun y => y.1 ≤ R.length ∧ WOk st o ((R.take y.1).map recT).flatten y.2.2) (fun y => R.length - y.1) (0, false, none)
    ⟨Nat.zero_le _, h0⟩ (tl5 rfl rfl rfl rfl rfl) (.refl _) ?_
  rintro ⟨i, u, oo⟩ ⟨hi, h⟩
  simp only at hi h
  refine AWP.weaken (T' := [(13, .int .i64 (i : Int)), (12, .int .i64 ((R.map recRow).length : Int)), (11, .view 2 (R.map recRow) .shared), (3, .cptr o 2 0 0), (1, .eptr 2 [[.view 2 (R.map recRow) .shared, .view 4 (F.map fnRow) .shared]] 0 0)]) (st' := wS st o u ((R.take i).map recT).flatten oo) (tl5 rfl rfl rfl rfl rfl) (.refl _) ?_
  by_cases hlt : i < R.length
  · obtain ⟨r, hr⟩ : ∃ r, R[i]? = some r := ⟨_, List.getElem?_eq_getElem hlt⟩
    have hrr := recRow_at R i r hr
    have hir : i < (R.map recRow).length := by omega
    have hft := map_take_succ recT R i r hr
    have hle := map_take_le recT R (i + 1)
    rw [hft, List.length_append] at hle
    have hj := hJ r (List.mem_of_getElem? hr)
    repeat (first | refine nl ?_ | refine AWP.seq ?_ | refine rg ?_ | refine AWP.skip ?_ | refine AWP.block ?_ | refine YH (z := ?_) | refine ZA (z := ?_) | refine ZD (z := ?_) | refine ZM (z := ?_) | refine YA (z := ?_))
    refine AWP.any rfl ?_
    apply AAny.segQ (k' := 7) (hok := by decide +kernel)
    repeat (first | apply dsY (hi := rfl) (hs := rfl) | apply dqY (hi := rfl) (hd := rfl) (hw := rfl) (h := fun _ _ => ZF (z := nz)) | apply dqY (hi := rfl) (hd := rfl) (hw := rfl) (h := fun _ _ => ZC (z := nz)))
    apply dqY (hi := rfl) (hd := rfl) (hw := rfl) (h := fun st' hle => cle rfl rfl (hj st') nz)
    apply dqY (hi := rfl) (hd := rfl) (hw := rfl) (h := fun _ _ => bsh (cs := [.str [114, 101, 99, 111, 114, 100, 32], .str r.name, .str [32, 123, 32], .str (jnT r.fields), .str [32, 125]]) rfl rfl rfl rfl rfl nz)
    refine dnQ ?_
    refine AAny.one rfl rfl rfl rfl ?_
    refine cl rfl rfl (line_ok h 0 (recL r) _ (by exact Nat.le_of_ble_eq_true rfl) (show _ + (recT r).length ≤ wMax by omega)) fun v st' ⟨u3, oo3, h3, hst⟩ => nl ⟨_, rfl, ?_⟩
    subst hst
    refine AAny.text rfl ?_
    refine nl ?_
    rw [show lnT 0 (recL r) = recT r from rfl, ← hft] at h3 ⊢
    repeat (first | refine nl ?_ | refine rg ?_ | refine ZA (z := ?_) | refine ZO (z := ?_))
    exact ⟨(i + 1, u3, oo3), ⟨by simp only; omega, h3⟩, by simp only; omega, (tl5 rfl rfl rfl rfl rfl), .refl _⟩
  have hil : i = R.length := by omega
  subst hil
  rw [List.take_length] at h ⊢
  repeat (first | refine nl ?_ | refine AWP.seq ?_ | refine rg ?_ | refine YI (z := ?_) | refine ZA (z := ?_))
  refine AWP.exit (blk_hit ?_)
  repeat (first | refine nl ?_ | refine AWP.seq ?_ | refine rg ?_ | refine AWP.block ?_ | refine ZA (z := ?_) | refine ZC (z := ?_) | refine ZF (z := ?_) | refine ZJ (z := ?_))
  refine AWP.loop (α := Nat × Bool × Option Nat) (fun y => [(29, .int .i64 (y.1 : Int)), (28, .int .i64 ((F.map fnRow).length : Int)), (27, .view 4 (F.map fnRow) .shared), (3, .cptr o 2 0 0)]) (fun y => wS st o y.2.1 ((R.map recT).flatten ++ ((F.take y.1).map fnT).flatten) y.2.2) (fun y => y.1 ≤ F.length ∧ WOk st o ((R.map recT).flatten ++ ((F.take y.1).map fnT).flatten) y.2.2) (fun y => F.length - y.1) (0, u, oo)
    ⟨Nat.zero_le _, by simpa using h⟩ (tl4 rfl rfl rfl rfl) (by simp only [List.take_zero, List.map_nil, List.flatten_nil, List.append_nil]; exact .refl _) ?_
  clear h oo u
  rintro ⟨i, u, oo⟩ ⟨hi, h⟩
  simp only at hi h
  refine AWP.weaken (T' := [(29, .int .i64 (i : Int)), (28, .int .i64 ((F.map fnRow).length : Int)), (27, .view 4 (F.map fnRow) .shared), (3, .cptr o 2 0 0)]) (st' := wS st o u ((R.map recT).flatten ++ ((F.take i).map fnT).flatten) oo) (tl4 rfl rfl rfl rfl) (.refl _) ?_
  by_cases hlt : i < F.length
  · obtain ⟨f, hf⟩ : ∃ f, F[i]? = some f := ⟨_, List.getElem?_eq_getElem hlt⟩
    have hrr := fnRow_at F i f hf
    have hir : i < (F.map fnRow).length := by omega
    have hft := map_take_succ fnT F i f hf
    have hle := map_take_le fnT F (i + 1)
    rw [hft, List.length_append] at hle
    have hj := hJ2 f (List.mem_of_getElem? hf)
    obtain ⟨wb, wl⟩ := w3 f (List.mem_of_getElem? hf)
    have hli := list_ok (wb.app (WSp_end f.stop)) (by rw [List.length_append, List.length_cons, List.length_nil]; omega)
    have hfn : (fnT f).length = (lnT 0 (fnL f)).length + (prL 1 (f.body ++ [endSp f.stop])).length + (lnT 0 [[125]]).length := by rw [fnT, List.length_append, List.length_append]
    repeat (first | refine nl ?_ | refine AWP.seq ?_ | refine rg ?_ | refine AWP.skip ?_ | refine AWP.block ?_ | refine YH (z := ?_) | refine ZA (z := ?_) | refine ZD (z := ?_) | refine ZM (z := ?_) | refine YA (z := ?_))
    refine AWP.any rfl ?_
    apply AAny.segQ (k' := 7) (hok := by decide +kernel)
    repeat (first | apply dsY (hi := rfl) (hs := rfl) | apply dqY (hi := rfl) (hd := rfl) (hw := rfl) (h := fun _ _ => ZF (z := nz)) | apply dqY (hi := rfl) (hd := rfl) (hw := rfl) (h := fun _ _ => ZC (z := nz)))
    apply dqY (hi := rfl) (hd := rfl) (hw := rfl) (h := fun st' hle => cle rfl rfl (hj st') nz)
    apply dqY (hi := rfl) (hd := rfl) (hw := rfl) (h := fun _ _ => bsh (cs := [.str [102, 117, 110, 99, 32], .str f.name, .str [40], .str (jnT f.params), .str [41, 32, 123]]) rfl rfl rfl rfl rfl nz)
    refine dnQ ?_
    refine AAny.one rfl rfl rfl rfl ?_
    refine cl rfl rfl (line_ok h 0 (fnL f) _ (by exact Nat.le_of_ble_eq_true rfl) (by rw [List.length_append]; omega)) fun v st' ⟨u3, oo3, h3, hst⟩ => nl ⟨_, rfl, ?_⟩
    subst hst
    refine AAny.text rfl ?_
    refine nl ?_
    repeat (first | refine AWP.seq ?_ | refine rg ?_ | refine ZA (z := ?_) | refine ZC (z := ?_) | refine ZF (z := ?_))
    refine cl rfl rfl (hli 1 _ o u3 _ oo3 hg h3 (by simp only [List.length_append]; omega)) fun v st' ⟨u4, oo4, h4, hst⟩ => ?_
    subst hst
    repeat (first | refine nl ?_ | refine rg ?_ | refine ZA (z := ?_) | refine ZQ (z := ?_))
    refine cl rfl rfl (line_ok h4 0 [[125]] _ (by exact Nat.le_of_ble_eq_true rfl) (by simp only [List.length_append]; omega)) fun v st' ⟨u5, oo5, h5, hst⟩ => ?_
    subst hst
    have e : (R.map recT).flatten ++ ((F.take i).map fnT).flatten ++ lnT 0 (fnL f) ++ prL 1 (f.body ++ [endSp f.stop]) ++ lnT 0 [[125]] = (R.map recT).flatten ++ ((F.take (i + 1)).map fnT).flatten := by rw [hft, fnT]; simp
    rw [e] at h5 ⊢
    repeat (first | refine nl ?_ | refine rg ?_ | refine ZA (z := ?_) | refine ZO (z := ?_))
    exact ⟨(i + 1, u5, oo5), ⟨by simp only; omega, h5⟩, by simp only; omega, (tl4 rfl rfl rfl rfl), .refl _⟩
  have hil : i = F.length := by omega
  subst hil
  rw [List.take_length] at h ⊢
  repeat (first | refine nl ?_ | refine AWP.seq ?_ | refine rg ?_ | refine YI (z := ?_) | refine ZA (z := ?_))
  refine AWP.exit (blk_hit ?_)
  repeat (first | refine AWP.seq ?_ | refine rg ?_ | refine ZA (z := ?_) | refine ZC (z := ?_))
  refine cl rfl rfl (builderString_ok h (by rw [List.length_append]; exact hb)) fun v st' ⟨hv, c, hst⟩ => ?_
  subst hv
  subst hst
  repeat (first | refine nl ?_ | refine ZA (z := ?_))
  exact AWP.ret (rets rfl (.refl _) (StLe.new ho (.refl _)) ⟨rfl, rfl⟩)
end Go.Proofs
/- strings.Join of at most one string. No conditions: definitions and lemmas only. -/
namespace Go.Proofs
open Go.AM
attribute [local irreducible] AWP AOps ACalls AAny

theorem join_one {l : Names} (h : l.length ≤ 1) : JoinOk l := by
  intro st
  refine ACalls.ofBody Tryd.func33 rfl Tryd.ntmps33 rfl ?_
  match l, h with
  | [], _ =>
    repeat (first | refine nl ?_ | refine AWP.seq ?_ | refine rg ?_ | refine AWP.block ?_ | refine YH (z := ?_) | refine ZA (z := ?_) | refine ZJ (z := ?_))
    exact AWP.ret (rets rfl (.refl _) (.refl _) ⟨rfl, rfl⟩)
  | [a], _ =>
    repeat (first | refine nl ?_ | refine AWP.seq ?_ | refine rg ?_ | refine AWP.block ?_ | refine YH (z := ?_) | refine YI (z := ?_) | refine ZA (z := ?_) | refine ZF (z := ?_) | refine ZJ (z := ?_) | refine ZM (z := ?_))
    trace_state
    exact AWP.ret (rets rfl (.refl _) (.refl _) ⟨rfl, rfl⟩)
  | _ :: _ :: _, h => exact absurd h (by simp)
end Go.Proofs
/- The sanity check of the laws of the parser. No conditions: definitions and lemmas only. -/
namespace Go.Proofs
open Go.AM
attribute [local irreducible] AWP AOps ACalls AAny

/-- The tables that are laid. -/
structure LTp (st : St) : Prop where
  signs : st.row 1 = some signRow
  words : st.row 0 = some wordRow
  gs : GS st
theorem LTp.set {st : St} (h : LTp st) (o : Nat) (c : AObj) : LTp (st.set o c) := ⟨h.signs, h.words, ⟨h.gs.tab, h.gs.ops⟩⟩
theorem LTp.parse {st : St} (h : LTp st) (s : List UInt8) : ACalls Tryd.prog 7 [.str s] st (fun v st' => v = parV (pparse s) ∧ st' = st) (fun _ _ => False) := parse_ok s st h.signs h.words h.gs.ops
def kText : List UInt8 := [102, 117, 110, 99, 32, 102, 40, 97, 41, 123, 114, 101, 116, 117, 114, 110, 32, 40, 97, 43, 49, 41, 42, 50, 59, 125]
def kProg : Prg := ([], [⟨1, [102], [[97]], [.mk 6 1 [] [] 0 [] [] [.bin 8 (.bin 6 (.var [97]) (.lit 1)) (.lit 2)] [] []], 1⟩])
theorem kParse : pparse kText = .ok kProg := by kernel_rfl
def kOut : List UInt8 := [102, 117, 110, 99, 32, 102, 40, 97, 41, 32, 123, 10, 9, 114, 101, 116, 117, 114, 110, 32, 40, 97, 32, 43, 32, 49, 41, 32, 42, 32, 50, 59, 10, 125, 10]
theorem kPrint : prT kProg = kOut := by kernel_rfl
theorem kWP : WP kProg := by
  refine ⟨by decide, by decide, fun f hf => ?_⟩
  rw [List.mem_singleton.1 hf]
  refine ⟨?_, by decide⟩
  rw [WSps, WSps, WSp, WSps]
  refine ⟨⟨fun x h => (by cases h), fun x h => ?_, by decide, by decide, by decide, trivial, trivial, by decide, by decide⟩, trivial⟩
  rw [List.mem_singleton.1 h]
  refine ⟨⟨by decide, by decide, ⟨by decide, by decide, trivial, trivial⟩, trivial⟩, ⟨trivial, ?_⟩, ?_⟩
  · show 1 < 1000000000000000000; decide
  · show 2 < 1000000000000000000; decide
set_option maxHeartbeats 1000000 in
theorem known_ok (st : St) (hT : LTp st) : ACalls Tryd.prog 8 [] st (fun v st' => v = .bool true ∧ st' = st) (fun _ _ => False) := by
  refine ACalls.ofBody Tryd.func8 rfl Tryd.ntmps8 rfl ?_
  have hrow : pgRow kProg = [.view 2 [] .shared, .view 4 [[.str [102], .int .i64 1, .view 1 [[.str [97]]] .shared, .view 13 [spRow (.mk 6 1 [] [] 0 [] [] [.bin 8 (.bin 6 (.var [97]) (.lit 1)) (.lit 2)] [] []), spRow (endSp 1)] .shared]] .shared] := by kernel_rfl
  have hp := hT.parse kText
  rw [kParse, show parV (.ok kProg) = .tuple [.agg (pgRow kProg), .int .i64 0, .int .i64 0] from rfl, hrow] at hp
  have hq := print_ok kWP (fun r h => by cases h) (fun f hf => by rw [List.mem_singleton.1 hf]; exact join_one (by decide)) (by rw [kPrint]; decide) st hT.gs
  rw [kPrint, hrow] at hq
  generalize spRow (.mk 6 1 [] [] 0 [] [] [.bin 8 (.bin 6 (.var [97]) (.lit 1)) (.lit 2)] [] []) = r1 at hp hq
  generalize spRow (endSp 1) = r2 at hp hq
  clear hrow
  repeat (refine AWP.seq ?_)
  refine rg ?_
  repeat (refine ZA (z := ?_))
  refine nl ?_
  repeat (refine AWP.seq ?_)
  refine rg ?_
  refine cle rfl rfl hp ?_
  repeat (first | refine nl ?_ | refine AWP.seq ?_ | refine rg ?_ | refine ZA (z := ?_) | refine ZC (z := ?_) | refine ZD (z := ?_) | refine ZF (z := ?_) | refine ZJ (z := ?_) | refine ZM (z := ?_) | refine YA (z := ?_))
  refine cle rfl rfl hq ?_
  repeat (first | refine nl ?_ | refine ZA (z := ?_))
  exact AWP.ret (rets rfl (.refl _) (.refl _) ⟨rfl, rfl⟩)
/-- `value` of the laws: the program that prints an expression. -/
def vPre : List UInt8 := [102, 117, 110, 99, 32, 102, 40, 41, 32, 123, 32, 112, 114, 105, 110, 116, 32]
def vText (s : List UInt8) : List UInt8 := vPre ++ s ++ [59, 32, 125]
def valV : Except (Nat × Nat) Prg → AV
  | .ok p => .tuple [.agg (pgRow p), .int .i64 0]
  | .error (_, e) => .tuple [.agg [nilV, nilV], .int .i64 (e : Int)]
theorem pgRow_or (r : Except (Nat × Nat) Prg) : ∃ (a b : List (List AV)) (ta tb : Go.AM.Tok) (sa sb : Nat) (l e : Nat), parV r = .tuple [.agg [.view sa a ta, .view sb b tb], .int .i64 (l : Int), .int .i64 (e : Int)] ∧ valV r = .tuple [.agg [.view sa a ta, .view sb b tb], .int .i64 (e : Int)] := by
  rcases r with ⟨l, e⟩ | ⟨R, F⟩
  · exact ⟨[], [], .nil, .nil, 0, 0, l, e, rfl, rfl⟩
  · exact ⟨R.map recRow, F.map fnRow, .shared, .shared, 2, 4, 0, 0, rfl, rfl⟩
theorem value_ok (s : List UInt8) (hs : s.length ≤ 1000000) (st : St) (hT : LTp st) : ACalls Tryd.prog 11 [.str s] st (fun v st' => v = valV (pparse (vText s)) ∧ st' = st) (fun _ _ => False) := by
  refine ACalls.ofBody Tryd.func11 rfl Tryd.ntmps11 rfl ?_
  obtain ⟨a, b, ta, tb, sa, sb, l, e, h1, h2⟩ := pgRow_or (pparse (vText s))
  rw [h2]
  repeat (refine AWP.seq ?_)
  refine rg ?_
  refine al rfl rfl fun o ho => ?_
  have hp := (hT.set o (.cells 25 2 [zrow (.agg #[.slice none 0 0, .slice none 0 0])])).parse (vText s)
  rw [h1] at hp
  repeat (first | refine nl ?_ | refine AWP.seq ?_ | refine rg ?_ | refine ZA (z := ?_))
  refine sad rfl rfl rfl (by simp only [List.length_cons, List.length_nil]; omega) ?_
  refine sad rfl rfl rfl (by simp only [List.length_append, List.length_cons, List.length_nil]; omega) ?_
  refine cle rfl rfl hp ?_
  repeat (first | refine nl ?_ | refine AWP.seq ?_ | refine rg ?_ | refine ZA (z := ?_) | refine ZD (z := ?_) | refine YA (z := ?_))
  refine soV rfl rfl rfl rfl rfl rfl ?_
  repeat (first | refine nl ?_ | refine ZA (z := ?_))
  exact AWP.ret (rets (resCW rfl (St.obj_set _ _ _) rfl rfl rfl rfl) (.refl _) (StLe.new ho (.refl _)) ⟨rfl, rfl⟩)
end Go.Proofs
/- What the laws of this seat share: the laid tables, the arguments' kinds. No conditions: lemmas only. -/
namespace Go.Proofs.YthjcphjabiajbaaDoor
open Go.ChangeShapes Go.WideShapes Go.ChangeAt Go.RowKit Go.AM

theorem own : ownKnob Tryd.prog.godebug = none := by kernel_rfl
theorem laidOut : laidOutB Tryd.prog = true := by kernel_rfl
def laidAll : List (String × DataW Unit) := [("math/bits.deBruijn32tab", Rows.laid_math_bits_deBruijn32tab), ("math/bits.deBruijn64tab", Rows.laid_math_bits_deBruijn64tab), ("internal/strconv.uint64pow10", Rows.laid_internal_strconv_uint64pow10), ("debugger/lexer.words", Rows.laid_debugger_lexer_words), ("debugger/lexer.signs", Rows.laid_debugger_lexer_signs), ("debugger/parser.operators", Rows.laid_debugger_parser_operators)]

theorem kinds : ∀ t ∈ [3, 9, 71, 77, 101, 130, 137], Go.AM.kindOk Tryd.prog [3, 9, 71, 77, 101, 130, 137] t = true := by
  intro t ht
  simp only [List.mem_cons, List.not_mem_nil, or_false] at ht
  rcases ht with rfl | rfl | rfl | rfl | rfl | rfl | rfl <;> kernel_rfl
theorem pow_row : litRow (Rows.laid_internal_strconv_uint64pow10 : DataW Unit) = some powRow := by kernel_rfl
theorem op_row : litRow (Rows.laid_debugger_parser_operators : DataW Unit) = some sgnRow := by kernel_rfl
def tabL : List (Nat × List AV) := [(0, wordRow), (1, signRow), (2, sgnRow), (4, powRow)]
theorem tables {W : World} (h : laidMetH Tryd.prog laidAll W) : ∀ gi row, (gi, row) ∈ tabL → GlobAt (G0 W) W gi row := by
  have h' : laidMet Tryd.prog laidAll W := h
  intro gi row hm
  simp only [tabL, List.mem_cons, List.not_mem_nil, or_false] at hm
  rcases hm with hm | hm | hm | hm
  · cases hm
    exact laid_row kinds h' (n := "debugger/lexer.words") (t := 77) (.tail _ (.tail _ (.tail _ (.head _)))) rfl (by kernel_rfl) (by kernel_rfl) (by decide) (by decide)
  · cases hm
    exact laid_row kinds h' (n := "debugger/lexer.signs") (t := 101) (.tail _ (.tail _ (.tail _ (.tail _ (.head _))))) rfl (by kernel_rfl) (by kernel_rfl) (by decide) (by decide)
  · cases hm
    exact laid_row kinds h' (n := "debugger/parser.operators") (t := 77) (.tail _ (.tail _ (.tail _ (.tail _ (.tail _ (.head _)))))) op_row (by kernel_rfl) (by kernel_rfl) (by decide) (by decide)
  · cases hm
    exact laid_row kinds h' (n := "internal/strconv.uint64pow10") (t := 137) (.tail _ (.tail _ (.head _))) pow_row (by kernel_rfl) (by kernel_rfl) (by decide) (by decide)
theorem hT {o : Nat → Option AObj} {tk : Nat → Bool} : LTp { obj := o, tok := tk, glob := tabL } := ⟨rfl, rfl, ⟨.tail _ (.tail _ (.tail _ (.head _))), rfl⟩⟩
end Go.Proofs.YthjcphjabiajbaaDoor
/- ParserNest: the closed runs. No program in sight. -/
namespace Go.Proofs
open Go.AM

def rep (s : List UInt8) : Nat → List UInt8
  | 0 => []
  | n + 1 => rep s n ++ s
def nl0 (h : Nat) : List UInt8 := match h with | 0 => [40] | 1 => [45] | 2 => [116, 91] | _ => [33, 40]
def nl1 (h : Nat) : List UInt8 := match h with | 0 => [41] | 1 => [] | 2 => [93] | _ => [41]
def codeP : Except (Nat × Nat) Prg → Nat
  | .ok _ => 0
  | .error (_, e) => e
def nestE (h m : Nat) : List UInt8 := [102, 117, 110, 99, 32, 102, 40, 41, 32, 123, 32, 112, 114, 105, 110, 116, 32] ++ (rep (nl0 h) (m + 1) ++ [97] ++ rep (nl1 h) (m + 1)) ++ [59, 32, 125]
def nestB (m : Nat) : List UInt8 := [102, 117, 110, 99, 32, 102, 40, 41, 10, 123, 32] ++ rep [119, 104, 105, 108, 101, 32, 49, 32, 123, 32] m ++ [112, 114, 105, 110, 116, 32, 49, 59] ++ rep [32, 125] (m + 1)
theorem nest_e : ∀ h, h < 4 → ∀ m, m < 11 → codeP (pparse (nestE h m)) = if 8 < (if h = 3 then 2 * (m + 1) else m + 1) then 5 else 0 := by decide +kernel
theorem nest_b : ∀ m, m < 11 → codeP (pparse (nestB m)) = if 8 < m + 1 then 5 else 0 := by decide +kernel
end Go.Proofs
/- The walk of Mod. No conditions: lemmas only. -/
namespace Go.Proofs
open Go.AM

theorem tmod_gt (n k : Int) (hk : 0 < k) : -k < n.tmod k := by
  have := Int.tmod_lt_of_pos (-n) hk
  rw [Int.neg_tmod] at this
  omega

theorem mod_rem (n k : Int) (hk : 0 < k) : n % k = if n.tmod k < 0 then n.tmod k + k else n.tmod k := by
  have h1 : n % k = n.tmod k % k := by
    conv => lhs; rw [← Int.tmod_add_mul_tdiv n k]
    rw [Int.add_mul_emod_self_left]
  have h2 := Int.tmod_lt_of_pos n hk
  have h3 := tmod_gt n k hk
  rw [h1]
  split
  · rw [← Int.add_emod_right, Int.emod_eq_of_lt (by omega) (by omega)]
  · exact Int.emod_eq_of_lt (by omega) (by omega)

theorem mod_ok (n k : Int) (hk : 0 < k) (hk2 : k ≤ 4611686018427387904) (st : St) : ACalls Tryd.prog 13 [.int .i64 n, .int .i64 k] st (fun v st' => v = .int .i64 (n % k) ∧ st' = st) (fun _ _ => False) := by
  refine ACalls.ofBody Tryd.func13 rfl Tryd.ntmps13 rfl ?_
  have hm := mod_rem n k hk
  repeat (first | refine nl ?_ | refine AWP.seq ?_ | refine rg ?_ | refine sm rfl ?_)
  refine rm rfl rfl rfl (by omega) ?_
  repeat (first | refine nl ?_ | refine AWP.seq ?_ | refine rg ?_ | refine sm rfl ?_)
  refine AWP.cond_dec rfl (fun h => ?_) (fun h => AWP.skip ?_)
  · rw [if_pos h] at hm
    have h3 := tmod_gt n k hk
    have h4 := Int.tmod_lt_of_pos n hk
    repeat (first | refine rg ?_ | refine sm rfl ?_)
    refine ad rfl rfl rfl (by omega) ?_
    repeat (first | refine nl ?_ | refine AWP.seq ?_ | refine rg ?_ | refine sm rfl ?_)
    refine AWP.ret (rets rfl (.refl _) (.refl _) ⟨?_, rfl⟩)
    rw [hm]
    rfl
  · rw [if_neg h] at hm
    repeat (first | refine nl ?_ | refine AWP.seq ?_ | refine rg ?_ | refine sm rfl ?_)
    refine AWP.ret (rets rfl (.refl _) (.refl _) ⟨?_, rfl⟩)
    rw [hm]
    rfl
end Go.Proofs
/- ParserNest, walked. No conditions: definitions and lemmas only. -/
namespace Go.Proofs
open Go.AM
attribute [local irreducible] AWP AOps ACalls AAny

theorem rep_len (s : List UInt8) : ∀ n, (rep s n).length = n * s.length
  | 0 => by simp [rep]
  | n + 1 => by rw [rep, List.length_append, rep_len s n, Nat.add_mul]; omega
theorem repeat_ok (s : List UInt8) (n : Nat) (hs : s.length ≤ 20) (hn2 : n ≤ 20) (st : St) : ACalls Tryd.prog 14 [.str s, .int .i64 (n : Int)] st (fun v st' => v = .str (rep s n) ∧ st' = st) (fun _ _ => False) := by
  refine ACalls.ofBody Tryd.func14 rfl Tryd.ntmps14 rfl ?_
  repeat (first | refine nl ?_ | refine AWP.seq ?_ | refine rg ?_ | refine AWP.block ?_ | refine ZA (z := ?_))
  refine AWP.loop (α := Nat) (fun i => [(6, .int .i64 (i : Int)), (5, .str (rep s i)), (1, .int .i64 (n : Int)), (0, .str s)]) (fun _ => st) (fun i => i ≤ n) (fun i => n - i) 0 (Nat.zero_le _) (tl4 rfl rfl rfl rfl) (.refl _) ?_
  intro i hi
  refine AWP.weaken (T' := [(6, .int .i64 (i : Int)), (5, .str (rep s i)), (1, .int .i64 (n : Int)), (0, .str s)]) (tl4 rfl rfl rfl rfl) (.refl _) ?_
  by_cases hi' : i < n
  · have hl := rep_len s i
    have hm : i * s.length ≤ 400 := Nat.le_trans (Nat.mul_le_mul (by omega : i ≤ 20) hs) (by decide)
    repeat (first | refine nl ?_ | refine AWP.seq ?_ | refine rg ?_ | refine AWP.skip ?_ | refine AWP.block ?_ | refine YH (z := ?_) | refine ZA (z := ?_))
    refine sad rfl rfl rfl (by omega) ?_
    repeat (first | refine nl ?_ | refine rg ?_ | refine ZA (z := ?_) | refine ZO (z := ?_))
    exact ⟨i + 1, hi', by omega, (tl4 rfl rfl rfl rfl), .refl _⟩
  · have : i = n := by omega
    subst this
    repeat (first | refine nl ?_ | refine AWP.seq ?_ | refine rg ?_ | refine YI (z := ?_) | refine ZA (z := ?_))
    refine AWP.exit (blk_hit ?_)
    repeat (first | refine nl ?_ | refine AWP.seq ?_ | refine rg ?_ | refine ZA (z := ?_))
    exact AWP.ret (rets rfl (.refl _) (.refl _) ⟨rfl, rfl⟩)
theorem parV_code (r : Except (Nat × Nat) Prg) : ∃ (a b : List (List AV)) (ta tb : Go.AM.Tok) (sa sb : Nat) (l : Nat), parV r = .tuple [.agg [.view sa a ta, .view sb b tb], .int .i64 (l : Int), .int .i64 (codeP r : Int)] ∧ valV r = .tuple [.agg [.view sa a ta, .view sb b tb], .int .i64 (codeP r : Int)] := by
  rcases r with ⟨l, e⟩ | ⟨R, F⟩
  · exact ⟨[], [], .nil, .nil, 0, 0, l, rfl, rfl⟩
  · exact ⟨R.map recRow, F.map fnRow, .shared, .shared, 2, 4, 0, rfl, rfl⟩
theorem LTp.le {st st' : St} (h : LTp st) (hle : StLe st' st) : LTp st' :=
  ⟨by rw [← h.signs]; unfold St.row; rw [← hle.glob], by rw [← h.words]; unfold St.row; rw [← hle.glob], h.gs.le hle⟩
/-- A new variable in a drawn region: made or not, written or not. -/
def AlJ (st : St) (ty : TypeId) (sz : Nat) (z row : List AV) : List (Option AV) → St → Prop
  | [none, none], s => s = st
  | [some v, none], s => ∃ o, v = .cptr o sz 0 0 ∧ st.obj o = none ∧ s = st.set o (.cells ty sz [z])
  | [some v, some _], s => ∃ o, v = .cptr o sz 0 0 ∧ st.obj o = none ∧ s = st.set o (.cells ty sz [row])
  | _, _ => False
set_option maxHeartbeats 4000000 in
theorem ParserNest_ok (n : Int) (_ : (Lit.int .i64 n).wf = true) (how : Int) (_ : (Lit.int .i64 how).wf = true) (st : St) (hT : LTp st) :
    ACalls Tryd.prog 6 [.int .i64 n, .int .i64 how] st (fun v _ => v = .bool true) (fun _ _ => False) := by
  refine ACalls.ofBody Tryd.func6 rfl Tryd.ntmps6 rfl ?_
  obtain ⟨m, hm, hm11⟩ : ∃ m : Nat, n % 11 = (m : Int) ∧ m < 11 := ⟨(n % 11).toNat, by omega, by omega⟩
  obtain ⟨h, hh, h4⟩ : ∃ h : Nat, how % 4 = (h : Int) ∧ h < 4 := ⟨(how % 4).toNat, by omega, by omega⟩
  repeat (first | refine nl ?_ | refine AWP.seq ?_ | refine rg ?_ | refine ZA (z := ?_))
  refine cle rfl rfl (mod_ok n 11 (by decide) (by decide) _) ?_
  rw [hm]
  skip
  refine adn (a := 1) (b := m) rfl rfl rfl (by omega) ?_
  have e1m : (1 + m : Nat) = m + 1 := Nat.add_comm 1 m
  rw [e1m]
  repeat (first | refine nl ?_ | refine AWP.seq ?_ | refine rg ?_ | refine ZA (z := ?_))
  refine bda (cs := [.str [40], .str [41]]) rfl rfl rfl rfl ?_
  refine bda (cs := [.str [45], .str []]) rfl rfl rfl rfl ?_
  refine bda (cs := [.str [116, 91], .str [93]]) rfl rfl rfl rfl ?_
  refine bda (cs := [.str [33, 40], .str [41]]) rfl rfl rfl rfl ?_
  refine bsh (cs := [.str [40], .str [41], .str [45], .str [], .str [116, 91], .str [93], .str [33, 40], .str [41]]) rfl rfl rfl rfl rfl ?_
  repeat (refine ZA (z := ?_))
  refine cle rfl rfl (mod_ok how 4 (by decide) (by decide) _) ?_
  rw [hh]
  have hrow : (chunk (1 + 1) 4 [AV.str [40], .str [41], .str [45], .str [], .str [116, 91], .str [93], .str [33, 40], .str [41]])[h]? = some [.str (nl0 h), .str (nl1 h)] := by
    rcases (by omega : h = 0 ∨ h = 1 ∨ h = 2 ∨ h = 3) with rfl | rfl | rfl | rfl <;> rfl
  refine ix (m := h) rfl rfl rfl rfl h4 ?_
  refine leW rfl rfl rfl hrow (by exact rfl) ?_
  repeat (refine YA (z := ?_))
  refine nl ?_
  repeat (refine AWP.seq ?_)
  refine rg ?_
  repeat (refine ZA (z := ?_))
  refine nl ?_
  refine AWP.weaken (T' := [(7, .int .i64 ((m + 1 : Nat) : Int)), (6, .eptr 2 [[.str (nl0 h), .str (nl1 h)]] 0 0), (5, .int .i64 ((m + 1 : Nat) : Int))]) (st' := st) (tl3 rfl rfl rfl) (.refl _) ?_
  refine AWP.seq ?_
  refine AWP.cutK (α := Unit) (fun _ => [(7, .int .i64 ((if h = 3 then 2 * (m + 1) else m + 1 : Nat) : Int)), (6, .eptr 2 [[.str (nl0 h), .str (nl1 h)]] 0 0), (5, .int .i64 ((m + 1 : Nat) : Int))]) (fun _ => st) (fun _ => True) ?_ ?_
  · repeat (refine AWP.seq ?_)
    refine rg ?_
    refine ixa (m := 0) (q := .eptr 2 [[.str (nl0 h), .str (nl1 h)]] 0 0) rfl rfl rfl (by decide) rfl ?_
    by_cases h3 : h = 3
    · have he : nl0 h = [33, 40] := by rw [h3]; rfl
      repeat (first | refine nl ?_ | refine rg ?_ | refine YH (z := ?_) | refine ZA (z := ?_) | refine ZF (z := ?_))
      refine mlk (c := ((2 * (m + 1) : Nat) : Int)) rfl rfl rfl (by rw [wrap64 (by omega)]; omega) ?_
      repeat (refine ZA (z := ?_))
      refine nl ?_
      rw [if_pos h3]
      exact ⟨(), trivial, (tl3 rfl rfl rfl), .refl _⟩
    · have hne : ¬ nl0 h = [33, 40] := by rcases (by omega : h = 0 ∨ h = 1 ∨ h = 2) with rfl | rfl | rfl <;> decide
      repeat (first | refine nl ?_ | refine AWP.skip ?_ | refine YI (z := ?_) | refine ZA (z := ?_) | refine ZF (z := ?_))
      rw [if_neg h3]
      exact ⟨(), trivial, (tl3 rfl rfl rfl), .refl _⟩
  rintro _ _
  generalize hD : (if h = 3 then 2 * (m + 1) else m + 1 : Nat) = D
  have l0 : (nl0 h).length ≤ 20 := by rcases (by omega : h = 0 ∨ h = 1 ∨ h = 2 ∨ h = 3) with rfl | rfl | rfl | rfl <;> decide
  have l1 : (nl1 h).length ≤ 20 := by rcases (by omega : h = 0 ∨ h = 1 ∨ h = 2 ∨ h = 3) with rfl | rfl | rfl | rfl <;> decide
  have r0 := rep_len (nl0 h) (m + 1)
  have r1 := rep_len (nl1 h) (m + 1)
  have m0 : (m + 1) * (nl0 h).length ≤ 400 := Nat.le_trans (Nat.mul_le_mul (by omega : m + 1 ≤ 20) l0) (by decide)
  have m1 : (m + 1) * (nl1 h).length ≤ 400 := Nat.le_trans (Nat.mul_le_mul (by omega : m + 1 ≤ 20) l1) (by decide)
  obtain ⟨a, b, ta, tb, sa, sb, l, _, hv⟩ := parV_code (pparse (nestE h m))
  have hE := nest_e h h4 m hm11
  rw [hD] at hE
  repeat (refine AWP.seq ?_)
  refine AWP.any rfl ?_
  have hval : ∀ st', StLe st' st → ACalls Tryd.prog 11 [.str (rep (nl0 h) (m + 1) ++ [97] ++ rep (nl1 h) (m + 1))] st' (fun v st'' => v = .tuple [.agg [.view sa a ta, .view sb b tb], .int .i64 (codeP (pparse (nestE h m)) : Int)] ∧ st'' = st') (fun _ _ => False) := fun st' hle => by
    rw [← hv]
    exact value_ok _ (by simp only [List.length_append, List.length_cons, List.length_nil]; omega) st' (hT.le hle)
  rw [hE] at hval
  clear hv
  apply AAny.segX (X := fun _ _ => False) (hX := fun _ _ h => h.elim) (k' := 16) (Es := [14, 15]) (J := AlJ st 25 2 [nilV, nilV] [.view sa a ta, .view sb b tb]) (base := st) (hok := by decide +kernel) (hJ := rfl) (hb := .refl _)
  apply dqP (hi := rfl) (hd := rfl) (hw := rfl) (h := fun _ _ => ixa (m := 0) (q := .eptr 2 [[.str (nl0 h), .str (nl1 h)]] 0 0) rfl rfl rfl (by decide) rfl nz)
  repeat (first | apply dsP (hi := rfl) (hs := rfl) | apply dqP (hi := rfl) (hd := rfl) (hw := rfl) (h := fun _ _ => ZF (z := nz)))
  apply dqP (hi := rfl) (hd := rfl) (hw := rfl) (h := fun st' _ => cle rfl rfl (repeat_ok (nl0 h) (m + 1) l0 (by omega) st') nz)
  apply dqP (hi := rfl) (hd := rfl) (hw := rfl) (h := fun _ _ => sad rfl rfl rfl (by simp only [List.length_cons, List.length_nil]; omega) nz)
  apply dqP (hi := rfl) (hd := rfl) (hw := rfl) (h := fun _ _ => ixa (m := 1) (q := .eptr 2 [[.str (nl0 h), .str (nl1 h)]] 0 1) rfl rfl rfl (by decide) rfl nz)
  repeat (first | apply dsP (hi := rfl) (hs := rfl) | apply dqP (hi := rfl) (hd := rfl) (hw := rfl) (h := fun _ _ => ZF (z := nz)))
  apply dqP (hi := rfl) (hd := rfl) (hw := rfl) (h := fun st' _ => cle rfl rfl (repeat_ok (nl1 h) (m + 1) l1 (by omega) st') nz)
  apply dqP (hi := rfl) (hd := rfl) (hw := rfl) (h := fun _ _ => sad rfl rfl rfl (by simp only [List.length_append, List.length_cons, List.length_nil]; omega) nz)
  apply dqP (hi := rfl) (hd := rfl) (hw := rfl) (h := fun st' hle => cle rfl rfl (hval st' hle) nz)
  repeat (apply dsP (hi := rfl) (hs := rfl))
  apply deP0 (Q := fun v => ∃ o, v = .cptr o 2 0 0) (L := [[false, false]]) (hL := rfl) (hd := rfl) (hw := rfl) (hex := ⟨_, 0, rfl⟩) (h := by
    refine ⟨?_, trivial⟩
    intro vs hvs _ s hJ _
    match vs, hvs, hJ with
    | [none, none], _, hJ =>
      have hJ : s = st := hJ
      subst hJ
      exact al rfl rfl fun o ho => nl ⟨_, rfl, ⟨o, rfl⟩, ⟨o, rfl, ho, rfl⟩, StLe.new ho (.refl _)⟩)
  rintro v ⟨o8, rfl⟩
  apply dnWP (L := [[true, false]]) (hL := rfl) (hd := rfl) (hw := rfl) (h := by
    refine ⟨?_, trivial⟩
    intro vs hvs hlk s hJ hle
    match vs, hvs, hlk, hJ with
    | [some v, none], _, hlk, hJ =>
      obtain rfl : v = .cptr o8 2 0 0 := hlk (14, some v) (by simp) (by exact Nat.le_of_ble_eq_true rfl) v rfl
      obtain ⟨o, ho1, ho2, ho3⟩ := hJ
      cases ho1
      subst ho3
      exact soV rfl rfl rfl rfl rfl rfl (nl ⟨rfl, fun _ => ⟨o8, rfl, ho2, rfl⟩, StLe.new ho2 (.refl _)⟩))
  intro _
  refine dnP fun s hs => ?_
  obtain ⟨o, ho1, ho2, ho3⟩ := hs
  cases ho1
  subst ho3
  refine AAny.text rfl ?_
  repeat (refine ZA (z := ?_))
  refine nl ?_
  refine AWP.weaken (T' := [(9, .int .i64 ((if 8 < D then 5 else 0 : Nat) : Int)), (7, .int .i64 (D : Int)), (5, .int .i64 ((m + 1 : Nat) : Int))]) (st' := st) (tl3 rfl rfl rfl) (StLe.new ho2 (.refl _)) ?_
  obtain ⟨a2, b2, ta2, tb2, sa2, sb2, ln2, hv2, _⟩ := parV_code (pparse (nestB m))
  have hB := nest_b m hm11
  have hpar := hT.parse (nestB m)
  rw [hv2, hB] at hpar
  clear hv2 hval
  have q0 := rep_len [119, 104, 105, 108, 101, 32, 49, 32, 123, 32] m
  have q1 := rep_len [32, 125] (m + 1)
  simp only [List.length_cons, List.length_nil] at q0 q1
  repeat (first | refine AWP.seq ?_ | refine rg ?_ | refine ZA (z := ?_))
  refine sbn (a := m + 1) (b := 1) rfl rfl rfl (by omega) ?_
  rw [Nat.add_sub_cancel]
  refine cle rfl rfl (repeat_ok [119, 104, 105, 108, 101, 32, 49, 32, 123, 32] m (by decide) (by omega) _) ?_
  refine sad rfl rfl rfl (by simp only [List.length_cons, List.length_nil]; omega) ?_
  refine sad rfl rfl rfl (by simp only [List.length_append, List.length_cons, List.length_nil]; omega) ?_
  repeat (refine ZA (z := ?_))
  refine cle rfl rfl (repeat_ok [32, 125] (m + 1) (by decide) (by omega) _) ?_
  refine sad rfl rfl rfl (by simp only [List.length_append, List.length_cons, List.length_nil]; omega) ?_
  refine cle rfl rfl hpar ?_
  have hk := known_ok st hT
  by_cases d1 : 8 < D
  · have d1' : (D : Int) > 8 := by omega
    rw [if_pos d1]
    by_cases d2 : 8 < m + 1
    · have d2' : ((m + 1 : Nat) : Int) > 8 := by omega
      rw [if_pos d2]
      repeat (first | refine nl ?_ | refine AWP.seq ?_ | refine rg ?_ | refine YH (z := ?_) | refine ZA (z := ?_) | refine YA (z := ?_))
      refine cle rfl rfl hk ?_
      repeat (first | refine nl ?_ | refine ZA (z := ?_))
      exact AWP.ret (rets rfl (.refl _) (.refl _) rfl)
    · have d2' : ¬ ((m + 1 : Nat) : Int) > 8 := by omega
      rw [if_neg d2]
      repeat (first | refine nl ?_ | refine AWP.seq ?_ | refine rg ?_ | refine AWP.skip ?_ | refine YH (z := ?_) | refine YI (z := ?_) | refine ZA (z := ?_) | refine YA (z := ?_))
      refine cle rfl rfl hk ?_
      repeat (first | refine nl ?_ | refine ZA (z := ?_))
      exact AWP.ret (rets rfl (.refl _) (.refl _) rfl)
  · have d1' : ¬ (D : Int) > 8 := by omega
    rw [if_neg d1]
    by_cases d2 : 8 < m + 1
    · have d2' : ((m + 1 : Nat) : Int) > 8 := by omega
      rw [if_pos d2]
      repeat (first | refine nl ?_ | refine AWP.seq ?_ | refine rg ?_ | refine AWP.skip ?_ | refine YH (z := ?_) | refine YI (z := ?_) | refine ZA (z := ?_) | refine YA (z := ?_))
      refine cle rfl rfl hk ?_
      repeat (first | refine nl ?_ | refine ZA (z := ?_))
      exact AWP.ret (rets rfl (.refl _) (.refl _) rfl)
    · have d2' : ¬ ((m + 1 : Nat) : Int) > 8 := by omega
      rw [if_neg d2]
      repeat (first | refine nl ?_ | refine AWP.seq ?_ | refine rg ?_ | refine AWP.skip ?_ | refine YI (z := ?_) | refine ZA (z := ?_) | refine YA (z := ?_))
      refine cle rfl rfl hk ?_
      repeat (first | refine nl ?_ | refine ZA (z := ?_))
      exact AWP.ret (rets rfl (.refl _) (.refl _) rfl)
end Go.Proofs
