/- expression.text walked. No conditions: definitions and lemmas only. -/
import Derived.Test.YtcckchdneaecoaaDoorRows
import Derived.Test.YtcckchdneaecoaaDoorTie
import Derived.Test.YtcckchdneaecoaaDoorCards
import Derived.ProofKit
import Derived.OpenShut
import Derived.Lay
import Derived.Test.YtcckchdneaecoaaDoorB4
namespace Go.Proofs
open Go.AM
attribute [local irreducible] AWP AOps ACalls AAny
set_option linter.unusedSimpArgs false

/-- The tables that printing looks at. -/
def Tb (st : St) : Prop := st.row 1 = some opRow ∧ (3, powRow) ∈ st.glob
theorem Tb.low {st st1 : St} (h : Tb st) (hle : StLe st1 st.notok) : Tb st1 := by
  have e : st.glob = st1.glob := hle.glob
  unfold Tb St.row at *
  rw [← e]
  exact h
def TextOk (n : Nat) (x : XT) : Prop := ∀ st, Tb st → ACalls Tryd.prog 27 [.agg (xcs x.op x.num x.vr x.name x.field (.view 6 (x.args.map XT.row) .shared))] st (fun v st' => v = .str (txX n x) ∧ st' = st) (fun _ _ => False)
theorem part_ok {n : Nat} {x : XT} (h : TextOk n x) (hl : (txX n x).length ≤ 9000000000000000000) (b : Bool) (st : St) (hT : Tb st) :
    ACalls Tryd.prog 41 [.agg (xcs x.op x.num x.vr x.name x.field (.view 6 (x.args.map XT.row) .shared)), .bool b] st (fun v st' => v = .str (pby b (txX n x)) ∧ st' = st) (fun _ _ => False) := by
  refine ACalls.ofBody Tryd.func41 rfl Tryd.ntmps41 rfl ?_
  cases b with
  | true =>
    repeat (first | refine nl ?_ | refine AWP.seq ?_ | refine rg ?_ | refine YH (z := ?_) | refine ZA (z := ?_) | refine ZD (z := ?_) | refine ZR (z := ?_))
    refine cle rfl rfl (h st hT) ?_
    refine sad rfl rfl rfl (by simp only [List.length_cons, List.length_nil]; omega) ?_
    refine sad rfl rfl rfl (by simp only [List.length_append, List.length_cons, List.length_nil]; omega) ?_
    repeat (first | refine nl ?_ | refine ZA (z := ?_))
    exact AWP.ret (rets rfl (.refl _) (.refl _) ⟨rfl, rfl⟩)
  | false =>
    repeat (first | refine nl ?_ | refine AWP.seq ?_ | refine rg ?_ | refine AWP.skip ?_ | refine YI (z := ?_) | refine ZA (z := ?_) | refine ZD (z := ?_) | refine ZR (z := ?_))
    refine cle rfl rfl (h st hT) ?_
    repeat (first | refine nl ?_ | refine ZA (z := ?_))
    exact AWP.ret (rets rfl (.refl _) (.refl _) ⟨rfl, rfl⟩)

set_option maxHeartbeats 4000000 in
theorem text_step (n : Nat) (ih : ∀ x, wholeX n x = true → GX x → x.nodes ≤ 1000 → TextOk n x) (x : XT) (hw : wholeX (n + 1) x = true) (hg : GX x) (hn : x.nodes ≤ 1000) : TextOk (n + 1) x := by
  intro st hT
  obtain ⟨⟨w1, w2⟩, _, _⟩ := whole_spec hw
  obtain ⟨_, g2, g3, g4, g5⟩ := hg.all
  have hne := x.nodes_eq
  unfold Smax at g3 g4
  refine ACalls.ofBody Tryd.func27 rfl Tryd.ntmps27 rfl ?_
  rw [txX]
  by_cases e0 : x.op = 0
  · rw [if_pos e0]
    repeat (first | refine nl ?_ | refine AWP.seq ?_ | refine rg ?_ | refine AWP.block ?_ | refine YH (z := ?_) | refine ZA (z := ?_) | refine ZC (z := ?_) | refine ZF (z := ?_) | refine ZR (z := ?_))
    refine cle rfl rfl (itoa_ok x.num g2 st hT.2) ?_
    repeat (first | refine nl ?_ | refine ZA (z := ?_))
    exact AWP.ret (rets rfl (.refl _) (.refl _) ⟨rfl, rfl⟩)
  rw [if_neg e0]
  by_cases e1 : x.op = 1
  · rw [if_pos e1]
    repeat (first | refine nl ?_ | refine AWP.seq ?_ | refine rg ?_ | refine AWP.block ?_ | refine YH (z := ?_) | refine YI (z := ?_) | refine ZA (z := ?_) | refine ZC (z := ?_) | refine ZF (z := ?_) | refine ZR (z := ?_))
    exact AWP.ret (rets rfl (.refl _) (.refl _) ⟨rfl, rfl⟩)
  rw [if_neg e1]
  by_cases e2 : x.op = 2
  · rw [if_pos e2]
    repeat (first | refine nl ?_ | refine AWP.seq ?_ | refine rg ?_ | refine AWP.block ?_ | refine YH (z := ?_) | refine YI (z := ?_) | refine ZA (z := ?_) | refine ZC (z := ?_) | refine ZF (z := ?_) | refine ZR (z := ?_))
    refine sad rfl rfl rfl (by simp only [List.length_cons, List.length_nil]; omega) ?_
    repeat (first | refine ZC (z := ?_) | refine ZF (z := ?_))
    refine sad rfl rfl rfl (by simp only [List.length_append, List.length_cons, List.length_nil]; omega) ?_
    repeat (first | refine nl ?_ | refine ZA (z := ?_))
    exact AWP.ret (rets rfl (.refl _) (.refl _) ⟨rfl, rfl⟩)
  rw [if_neg e2]
  by_cases e345 : x.op = 3 ∨ x.op = 4 ∨ x.op = 5
  · obtain ⟨ea, wa⟩ := whole_one hw e345
    have ga := g5 x.a (by rw [ea]; simp)
    rw [ea, xnodes, xnodes] at hne
    have la := txX_len n x.a wa ga
    have hA := ih x.a wa ga (by omega)
    generalize x.a = a at *
    rw [ea, List.map_cons, List.map_nil, a.row_eq]
    by_cases e3 : x.op = 3
    · rw [if_pos e3]
      repeat (first | refine nl ?_ | refine AWP.seq ?_ | refine rg ?_ | refine AWP.block ?_ | refine YH (z := ?_) | refine YI (z := ?_) | refine ZA (z := ?_) | refine ZC (z := ?_) | refine ZF (z := ?_) | refine ZR (z := ?_))
      refine AWP.draw rfl 11 11 (fun _ _ => False) rfl ?_
      repeat (first | refine dp (h := fun _ _ => ZF (z := nz)) (z := ?_) | refine dp (h := fun _ _ => ZC (z := nz)) (z := ?_))
      refine dq rfl rfl rfl (fun st1 hle => sad rfl rfl rfl (by simp only [List.length_cons, List.length_nil]; omega) (nl ⟨_, rfl, rfl, rfl⟩)) ?_
      repeat (first | refine dp (h := fun _ _ => ZD (z := nz)) (z := ?_) | refine dp (h := fun _ _ => ZF (z := nz)) (z := ?_) | refine dp (h := fun _ _ => ZC (z := nz)) (z := ?_) | refine dp (h := fun _ _ => ZM (z := nz)) (z := ?_))
      refine dq rfl rfl rfl (fun st1 hle => cle rfl rfl (hA st1 (hT.low hle)) (nl ⟨_, rfl, rfl, rfl⟩)) ?_
      refine dq rfl rfl rfl (fun st1 hle => sad rfl rfl rfl (by simp only [List.length_append, List.length_cons, List.length_nil]; omega) (nl ⟨_, rfl, rfl, rfl⟩)) ?_
      refine dq rfl rfl rfl (fun st1 hle => sad rfl rfl rfl (by simp only [List.length_append, List.length_cons, List.length_nil]; omega) (nl ⟨_, rfl, rfl, rfl⟩)) ?_
      repeat (refine ds rfl rfl ?_)
      refine dn ⟨fun _ => ?_, fun h => absurd h (by decide)⟩
      refine nl ?_
      exact AWP.ret (rets rfl (.refl _) (.refl _) ⟨rfl, rfl⟩)
    rw [if_neg e3]
    by_cases e4 : x.op = 4
    · rw [if_pos e4]
      have pl := pby_len (decide (rk a.op < 5)) (txX n a)
      repeat (first | refine nl ?_ | refine AWP.seq ?_ | refine rg ?_ | refine AWP.block ?_ | refine YH (z := ?_) | refine YI (z := ?_) | refine ZA (z := ?_) | refine ZC (z := ?_) | refine ZF (z := ?_) | refine ZR (z := ?_))
      refine AWP.draw rfl 14 14 (fun _ _ => False) rfl ?_
      repeat (first | refine dp (h := fun _ _ => ZD (z := nz)) (z := ?_) | refine dp (h := fun _ _ => ZF (z := nz)) (z := ?_) | refine dp (h := fun _ _ => ZC (z := nz)) (z := ?_) | refine dp (h := fun _ _ => ZM (z := nz)) (z := ?_))
      refine dq rfl rfl rfl (fun st1 hle => cle rfl rfl (level_ok a.op st1 (hT.low hle).1) (nl ⟨_, rfl, rfl, rfl⟩)) ?_
      repeat (refine ds rfl rfl ?_)
      refine dq rfl rfl rfl (fun st1 hle => cle rfl rfl (part_ok hA (by omega) _ st1 (hT.low hle)) (nl ⟨_, rfl, rfl, rfl⟩)) ?_
      refine dq rfl rfl rfl (fun st1 hle => sad rfl rfl rfl (by simp only [List.length_append, List.length_cons, List.length_nil]; omega) (nl ⟨_, rfl, rfl, rfl⟩)) ?_
      repeat (refine ds rfl rfl ?_)
      refine dn ⟨fun _ => ?_, fun h => absurd h (by decide)⟩
      refine nl ?_
      exact AWP.ret (rets rfl (.refl _) (.refl _) ⟨rfl, rfl⟩)
    have e5 : x.op = 5 := by omega
    rw [if_neg e4, if_pos e5]
    have pl := pby_len (decide (rk a.op < 5)) (txX n a)
    repeat (first | refine nl ?_ | refine AWP.seq ?_ | refine rg ?_ | refine AWP.block ?_ | refine YH (z := ?_) | refine YI (z := ?_) | refine ZA (z := ?_) | refine ZC (z := ?_) | refine ZF (z := ?_) | refine ZR (z := ?_))
    refine AWP.draw rfl 14 14 (fun _ _ => False) rfl ?_
    repeat (first | refine dp (h := fun _ _ => ZD (z := nz)) (z := ?_) | refine dp (h := fun _ _ => ZF (z := nz)) (z := ?_) | refine dp (h := fun _ _ => ZC (z := nz)) (z := ?_) | refine dp (h := fun _ _ => ZM (z := nz)) (z := ?_))
    refine dq rfl rfl rfl (fun st1 hle => cle rfl rfl (level_ok a.op st1 (hT.low hle).1) (nl ⟨_, rfl, rfl, rfl⟩)) ?_
    repeat (refine ds rfl rfl ?_)
    refine dq rfl rfl rfl (fun st1 hle => cle rfl rfl (part_ok hA (by omega) _ st1 (hT.low hle)) (nl ⟨_, rfl, rfl, rfl⟩)) ?_
    refine dq rfl rfl rfl (fun st1 hle => sad rfl rfl rfl (by simp only [List.length_append, List.length_cons, List.length_nil]; omega) (nl ⟨_, rfl, rfl, rfl⟩)) ?_
    repeat (refine ds rfl rfl ?_)
    refine dn ⟨fun _ => ?_, fun h => absurd h (by decide)⟩
    refine nl ?_
    exact AWP.ret (rets rfl (.refl _) (.refl _) ⟨rfl, rfl⟩)
  · obtain ⟨ea, wa, wb⟩ := whole_two hw (by omega)
    have ga := g5 x.a (by rw [ea]; simp)
    have gb := g5 x.b (by rw [ea]; simp)
    rw [ea, xnodes, xnodes, xnodes] at hne
    have la := txX_len n x.a wa ga
    have lb := txX_len n x.b wb gb
    have hA := ih x.a wa ga (by omega)
    have hB := ih x.b wb gb (by omega)
    have pa := pby_len (decide (rk x.a.op < rk x.op ∨ rk x.a.op = 1)) (txX n x.a)
    have pb := pby_len (decide (rk x.b.op ≤ rk x.op)) (txX n x.b)
    have ps := sgO_len x.op.toNat
    generalize x.a = a at *
    generalize x.b = b at *
    rw [if_neg (by omega), if_neg (by omega), if_neg (by omega)]
    rw [ea, List.map_cons, List.map_cons, List.map_nil, a.row_eq, b.row_eq]
    repeat (first | refine nl ?_ | refine AWP.seq ?_ | refine rg ?_ | refine AWP.skip ?_ | refine AWP.block ?_ | refine YI (z := ?_) | refine ZA (z := ?_) | refine ZC (z := ?_) | refine ZF (z := ?_) | refine ZR (z := ?_))
    refine cle rfl rfl (level_ok x.op st hT.1) ?_
    repeat (first | refine nl ?_ | refine AWP.seq ?_ | refine ZA (z := ?_))
    refine AWP.draw rfl 14 14 (fun _ _ => False) rfl ?_
    repeat (first | refine dp (h := fun _ _ => ZF (z := nz)) (z := ?_) | refine dp (h := fun _ _ => ZC (z := nz)) (z := ?_) | refine dp (h := fun _ _ => ZM (z := nz)) (z := ?_))
    refine dq rfl rfl rfl (fun st1 hle => cle rfl rfl (level_ok a.op st1 (hT.low hle).1) (nl ⟨_, rfl, rfl, rfl⟩)) ?_
    repeat (first | refine dp (h := fun _ _ => ZF (z := nz)) (z := ?_) | refine dp (h := fun _ _ => ZC (z := nz)) (z := ?_) | refine dp (h := fun _ _ => ZM (z := nz)) (z := ?_))
    refine dq rfl rfl rfl (fun st1 hle => cle rfl rfl (level_ok b.op st1 (hT.low hle).1) (nl ⟨_, rfl, rfl, rfl⟩)) ?_
    repeat (refine ds rfl rfl ?_)
    refine dn ⟨fun _ => ?_, fun h => absurd h (by decide)⟩
    repeat (first | refine nl ?_ | refine AWP.seq ?_ | refine rg ?_ | refine ZA (z := ?_))
    refine leW (row := opRow) (rows := [opRow]) (i := 0) (s := 36) rfl rfl (congrArg (Option.map fun row : List AV => AV.eptr row.length [row] 0 0) hT.1) rfl rfl ?_
    repeat (first | refine nl ?_ | refine AWP.block ?_ | refine ZA (z := ?_))
    refine AWP.loop (α := Nat × List UInt8) (fun y => [(86, .int .i64 (y.1 : Int)), (85, .agg opRow), (6, .str y.2), (5, .int .i64 (rk b.op)), (4, .int .i64 (rk a.op)), (3, .int .i64 (rk x.op)), (1, .eptr 6 [xcs x.op x.num x.vr x.name x.field (.view 6 [xcs a.op a.num a.vr a.name a.field (.view 6 (a.args.map XT.row) .shared), xcs b.op b.num b.vr b.name b.field (.view 6 (b.args.map XT.row) .shared)] .shared)] 0 0)]) (fun _ => st) (fun y => y.1 ≤ 12 ∧ ((y.2 = [] ∧ ∀ (j : Nat) (s : List UInt8) (o l : Nat), j < y.1 → opL[j]? = some (s, o, l) → (o : Int) ≠ x.op) ∨ y.2 = sgO x.op.toNat)) (fun y => 12 - y.1) (0, [])
      ⟨Nat.zero_le _, .inl ⟨rfl, fun j _ _ _ h => absurd h (Nat.not_lt_zero _)⟩⟩ (tl7 rfl rfl rfl rfl rfl rfl rfl) (.refl _) ?_
    rintro ⟨i, w⟩ ⟨h1, h2⟩
    simp only at h1 h2
    refine AWP.weaken (T' := [(86, .int .i64 (i : Int)), (85, .agg opRow), (6, .str w), (5, .int .i64 (rk b.op)), (4, .int .i64 (rk a.op)), (3, .int .i64 (rk x.op)), (1, .eptr 6 [xcs x.op x.num x.vr x.name x.field (.view 6 [xcs a.op a.num a.vr a.name a.field (.view 6 (a.args.map XT.row) .shared), xcs b.op b.num b.vr b.name b.field (.view 6 (b.args.map XT.row) .shared)] .shared)] 0 0)]) (tl7 rfl rfl rfl rfl rfl rfl rfl) (.refl _) ?_
    by_cases hi : i < 12
    · obtain ⟨s, o, l, q1, q2, q3⟩ := opRow_at i hi
      repeat (refine AWP.seq ?_)
      refine rg ?_
      repeat (refine ZA (z := ?_))
      repeat (first | refine nl ?_ | refine AWP.seq ?_)
      refine cT rfl (decide_eq_true (by omega)) ?_
      repeat (first | refine AWP.seq ?_ | refine AWP.skip ?_ | refine AWP.block ?_)
      refine rg ?_
      refine ixgA (m := i) rfl rfl rfl rfl rfl hi q2 q3 ?_
      repeat (first | refine nl ?_ | refine AWP.seq ?_ | refine rg ?_ | refine ZA (z := ?_) | refine ZC (z := ?_) | refine ZF (z := ?_) | refine YA (z := ?_))
      by_cases ho : (o : Int) = x.op
      · repeat (first | refine nl ?_ | refine rg ?_ | refine YH (z := ?_) | refine ZA (z := ?_) | refine ZC (z := ?_) | refine ZF (z := ?_) | refine ZO (z := ?_))
        refine ⟨(i + 1, s), ⟨hi, .inr ?_⟩, by simp only; omega, (tl7 rfl rfl rfl rfl rfl rfl rfl), .refl _⟩
        rw [← (opL_rk _ _ _ _ q1).2, ← ho, Int.toNat_natCast]
      · repeat (first | refine nl ?_ | refine rg ?_ | refine AWP.skip ?_ | refine YI (z := ?_) | refine ZA (z := ?_) | refine ZO (z := ?_))
        refine ⟨(i + 1, w), ⟨hi, ?_⟩, by simp only; omega, (tl7 rfl rfl rfl rfl rfl rfl rfl), .refl _⟩
        rcases h2 with ⟨h2, h3⟩ | h2
        · refine .inl ⟨h2, fun j s' o' l' hj hx => ?_⟩
          rcases Nat.lt_or_ge j i with hji | hji
          · exact h3 j s' o' l' hji hx
          · have hji : j = i := by simp only at hj; omega
            subst hji
            rw [q1] at hx
            cases hx
            exact ho
        · exact .inr h2
    · have hw : w = sgO x.op.toNat := by
        rcases h2 with ⟨_, h3⟩ | h2
        · obtain ⟨m, s, o, l, k1, k2⟩ := opL_has (op := x.op) (by omega) w2
          have hm : m < 12 := (List.getElem?_eq_some_iff.1 k1).1
          exact absurd k2 (h3 m s o l (by omega) k1)
        · exact h2
      subst hw
      repeat (refine AWP.seq ?_)
      refine rg ?_
      repeat (refine ZA (z := ?_))
      repeat (first | refine nl ?_ | refine AWP.seq ?_)
      refine cF rfl (decide_eq_false (by omega)) ?_
      refine AWP.exit (blk_hit ?_)
      by_cases c1 : rk a.op < rk x.op
      · rw [decide_eq_true (show rk a.op < rk x.op ∨ rk a.op = 1 from .inl c1)] at pa ⊢
        repeat (refine AWP.seq ?_)
        refine AWP.draw rfl 25 25 (fun _ _ => False) rfl ?_
        repeat (first | refine dq (v := .bool true) rfl rfl rfl (fun st1 hle => sm rfl (nl ⟨_, rfl, congrArg AV.bool (by (fail_if_success rfl); first | assumption | exact decide_eq_true (by assumption) | exact decide_eq_false (by assumption) | exact decide_eq_true rfl | exact decide_eq_true (by omega) | exact decide_eq_false (by omega)), rfl⟩)) ?_ | refine ds rfl rfl ?_ | refine du rfl rfl rfl ?_ | refine dp (h := fun _ _ => ZD (z := nz)) (z := ?_) | refine dp (h := fun _ _ => ZF (z := nz)) (z := ?_) | refine dp (h := fun _ _ => ZC (z := nz)) (z := ?_) | refine dp (h := fun _ _ => ZM (z := nz)) (z := ?_))
        refine dq rfl rfl rfl (fun st1 hle => cle rfl rfl (part_ok hA (by omega) _ st1 (hT.low hle)) (nl ⟨_, rfl, rfl, rfl⟩)) ?_
        refine dq rfl rfl rfl (fun st1 hle => sad rfl rfl rfl (by simp only [List.length_cons, List.length_nil]; omega) (nl ⟨_, rfl, rfl, rfl⟩)) ?_
        repeat (refine ds rfl rfl ?_)
        refine dq rfl rfl rfl (fun st1 hle => sad rfl rfl rfl (by simp only [List.length_append, List.length_cons, List.length_nil]; omega) (nl ⟨_, rfl, rfl, rfl⟩)) ?_
        refine dq rfl rfl rfl (fun st1 hle => sad rfl rfl rfl (by simp only [List.length_append, List.length_cons, List.length_nil]; omega) (nl ⟨_, rfl, rfl, rfl⟩)) ?_
        repeat (first | refine ds rfl rfl ?_ | refine dp (h := fun _ _ => ZD (z := nz)) (z := ?_) | refine dp (h := fun _ _ => ZF (z := nz)) (z := ?_) | refine dp (h := fun _ _ => ZC (z := nz)) (z := ?_) | refine dp (h := fun _ _ => ZM (z := nz)) (z := ?_))
        refine dq rfl rfl rfl (fun st1 hle => cle rfl rfl (part_ok hB (by omega) _ st1 (hT.low hle)) (nl ⟨_, rfl, rfl, rfl⟩)) ?_
        refine dq rfl rfl rfl (fun st1 hle => sad rfl rfl rfl (by simp only [List.length_append, List.length_cons, List.length_nil]; omega) (nl ⟨_, rfl, rfl, rfl⟩)) ?_
        refine dn ⟨fun _ => ?_, fun h => absurd h (by decide)⟩
        repeat (first | refine nl ?_ | refine ZA (z := ?_))
        exact AWP.ret (rets rfl (.refl _) (.refl _) ⟨rfl, rfl⟩)
      by_cases c2 : rk a.op = 1
      · rw [decide_eq_true (show rk a.op < rk x.op ∨ rk a.op = 1 from .inr c2)] at pa ⊢
        repeat (refine AWP.seq ?_)
        refine AWP.draw rfl 25 25 (fun _ _ => False) rfl ?_
        repeat (first | refine dq (v := .bool true) rfl rfl rfl (fun st1 hle => sm rfl (nl ⟨_, rfl, congrArg AV.bool (by (fail_if_success rfl); first | assumption | exact decide_eq_true (by assumption) | exact decide_eq_false (by assumption) | exact decide_eq_true rfl | exact decide_eq_true (by omega) | exact decide_eq_false (by omega)), rfl⟩)) ?_ | refine dq (v := .bool false) rfl rfl rfl (fun st1 hle => sm rfl (nl ⟨_, rfl, congrArg AV.bool (by (fail_if_success rfl); first | assumption | exact decide_eq_true (by assumption) | exact decide_eq_false (by assumption) | exact decide_eq_true rfl | exact decide_eq_true (by omega) | exact decide_eq_false (by omega)), rfl⟩)) ?_ | refine ds rfl rfl ?_ | refine dp (h := fun _ _ => ZD (z := nz)) (z := ?_) | refine dp (h := fun _ _ => ZF (z := nz)) (z := ?_) | refine dp (h := fun _ _ => ZC (z := nz)) (z := ?_) | refine dp (h := fun _ _ => ZM (z := nz)) (z := ?_))
        refine dq rfl rfl rfl (fun st1 hle => cle rfl rfl (part_ok hA (by omega) _ st1 (hT.low hle)) (nl ⟨_, rfl, rfl, rfl⟩)) ?_
        refine dq rfl rfl rfl (fun st1 hle => sad rfl rfl rfl (by simp only [List.length_cons, List.length_nil]; omega) (nl ⟨_, rfl, rfl, rfl⟩)) ?_
        repeat (refine ds rfl rfl ?_)
        refine dq rfl rfl rfl (fun st1 hle => sad rfl rfl rfl (by simp only [List.length_append, List.length_cons, List.length_nil]; omega) (nl ⟨_, rfl, rfl, rfl⟩)) ?_
        refine dq rfl rfl rfl (fun st1 hle => sad rfl rfl rfl (by simp only [List.length_append, List.length_cons, List.length_nil]; omega) (nl ⟨_, rfl, rfl, rfl⟩)) ?_
        repeat (first | refine ds rfl rfl ?_ | refine dp (h := fun _ _ => ZD (z := nz)) (z := ?_) | refine dp (h := fun _ _ => ZF (z := nz)) (z := ?_) | refine dp (h := fun _ _ => ZC (z := nz)) (z := ?_) | refine dp (h := fun _ _ => ZM (z := nz)) (z := ?_))
        refine dq rfl rfl rfl (fun st1 hle => cle rfl rfl (part_ok hB (by omega) _ st1 (hT.low hle)) (nl ⟨_, rfl, rfl, rfl⟩)) ?_
        refine dq rfl rfl rfl (fun st1 hle => sad rfl rfl rfl (by simp only [List.length_append, List.length_cons, List.length_nil]; omega) (nl ⟨_, rfl, rfl, rfl⟩)) ?_
        refine dn ⟨fun _ => ?_, fun h => absurd h (by decide)⟩
        repeat (first | refine nl ?_ | refine ZA (z := ?_))
        exact AWP.ret (rets rfl (.refl _) (.refl _) ⟨rfl, rfl⟩)
      rw [decide_eq_false (show ¬ (rk a.op < rk x.op ∨ rk a.op = 1) from fun h => h.elim c1 c2)] at pa ⊢
      repeat (refine AWP.seq ?_)
      refine AWP.draw rfl 25 25 (fun _ _ => False) rfl ?_
      repeat (first | refine dq (v := .bool false) rfl rfl rfl (fun st1 hle => sm rfl (nl ⟨_, rfl, congrArg AV.bool (by (fail_if_success rfl); first | assumption | exact decide_eq_true (by assumption) | exact decide_eq_false (by assumption) | exact decide_eq_true rfl | exact decide_eq_true (by omega) | exact decide_eq_false (by omega)), rfl⟩)) ?_ | refine ds rfl rfl ?_ | refine dp (h := fun _ _ => ZD (z := nz)) (z := ?_) | refine dp (h := fun _ _ => ZF (z := nz)) (z := ?_) | refine dp (h := fun _ _ => ZC (z := nz)) (z := ?_) | refine dp (h := fun _ _ => ZM (z := nz)) (z := ?_))
      refine dq rfl rfl rfl (fun st1 hle => cle rfl rfl (part_ok hA (by omega) _ st1 (hT.low hle)) (nl ⟨_, rfl, rfl, rfl⟩)) ?_
      refine dq rfl rfl rfl (fun st1 hle => sad rfl rfl rfl (by simp only [List.length_cons, List.length_nil]; omega) (nl ⟨_, rfl, rfl, rfl⟩)) ?_
      repeat (refine ds rfl rfl ?_)
      refine dq rfl rfl rfl (fun st1 hle => sad rfl rfl rfl (by simp only [List.length_append, List.length_cons, List.length_nil]; omega) (nl ⟨_, rfl, rfl, rfl⟩)) ?_
      refine dq rfl rfl rfl (fun st1 hle => sad rfl rfl rfl (by simp only [List.length_append, List.length_cons, List.length_nil]; omega) (nl ⟨_, rfl, rfl, rfl⟩)) ?_
      repeat (first | refine ds rfl rfl ?_ | refine dp (h := fun _ _ => ZD (z := nz)) (z := ?_) | refine dp (h := fun _ _ => ZF (z := nz)) (z := ?_) | refine dp (h := fun _ _ => ZC (z := nz)) (z := ?_) | refine dp (h := fun _ _ => ZM (z := nz)) (z := ?_))
      refine dq rfl rfl rfl (fun st1 hle => cle rfl rfl (part_ok hB (by omega) _ st1 (hT.low hle)) (nl ⟨_, rfl, rfl, rfl⟩)) ?_
      refine dq rfl rfl rfl (fun st1 hle => sad rfl rfl rfl (by simp only [List.length_append, List.length_cons, List.length_nil]; omega) (nl ⟨_, rfl, rfl, rfl⟩)) ?_
      refine dn ⟨fun _ => ?_, fun h => absurd h (by decide)⟩
      repeat (first | refine nl ?_ | refine ZA (z := ?_))
      exact AWP.ret (rets rfl (.refl _) (.refl _) ⟨rfl, rfl⟩)
end Go.Proofs
/- Both Prints answer one text. No conditions: definitions and lemmas only. -/
namespace Go.Proofs
open Go.AM
attribute [local irreducible] AWP AOps ACalls AAny

theorem text_all : ∀ n x, wholeX n x = true → GX x → x.nodes ≤ 1000 → TextOk n x
  | 0, _, h => by cases h
  | n + 1, x, h => text_step n (text_all n) x h
theorem expr_all : ∀ n x, wholeX n x = true → GX x → x.nodes ≤ 1000 → ExprOk n x
  | 0, _, h => by cases h
  | n + 1, x, h => expr_step n (expr_all n) x h
/-- The text of an expression, or nothing. -/
def prX (x : XT) : List UInt8 := if wholeX 200 x = true then txX 200 x else []

theorem print1_ok (x : XT) (hg : GX x) (hn : x.nodes ≤ 1000) (st : St) (hT : Tb st) : ACalls Tryd.prog 15 [.agg x.row] st (fun v st' => v = .str (prX x) ∧ st' = st) (fun _ _ => False) := by
  have hw := whole_ok 200 (by decide) x st
  refine ACalls.ofBody Tryd.func15 rfl Tryd.ntmps15 rfl ?_
  rw [x.row_eq] at hw ⊢
  unfold prX
  cases h : wholeX 200 x with
  | true =>
    rw [h] at hw
    have ht := text_all 200 x h hg hn st hT
    rw [if_pos rfl]
    repeat (first | refine nl ?_ | refine AWP.seq ?_ | refine rg ?_ | refine ZA (z := ?_) | refine ZD (z := ?_) | refine ZR (z := ?_))
    refine cle rfl rfl hw ?_
    repeat (first | refine nl ?_ | refine AWP.seq ?_ | refine rg ?_ | refine AWP.skip ?_ | refine YI (z := ?_) | refine ZA (z := ?_) | refine ZD (z := ?_))
    refine cle rfl rfl ht ?_
    repeat (first | refine nl ?_ | refine ZA (z := ?_))
    exact AWP.ret (rets rfl (.refl _) (.refl _) ⟨rfl, rfl⟩)
  | false =>
    rw [h] at hw
    rw [if_neg (by decide)]
    repeat (first | refine nl ?_ | refine AWP.seq ?_ | refine rg ?_ | refine ZA (z := ?_) | refine ZD (z := ?_) | refine ZR (z := ?_))
    refine cle rfl rfl hw ?_
    repeat (first | refine nl ?_ | refine AWP.seq ?_ | refine rg ?_ | refine YH (z := ?_) | refine ZA (z := ?_))
    exact AWP.ret (rets rfl (.refl _) (.refl _) ⟨rfl, rfl⟩)
theorem print2_ok (x : XT) (hg : GX x) (hn : x.nodes ≤ 1000) (st : St) : ACalls Tryd.prog 8 [.agg x.row] st (fun v st' => v = .str (prX x) ∧ st' = st) (fun _ _ => False) := by
  have hw := right_ok 200 (by decide) x st
  refine ACalls.ofBody Tryd.func8 rfl Tryd.ntmps8 rfl ?_
  rw [x.row_eq] at hw ⊢
  unfold prX
  cases h : wholeX 200 x with
  | true =>
    rw [h] at hw
    have ht := expr_all 200 x h hg hn 1 st
    have hr := rk_range x.op
    rw [decide_eq_false (show ¬ rk x.op < 1 by omega), pby, if_neg (by decide)] at ht
    rw [if_pos rfl]
    repeat (first | refine nl ?_ | refine AWP.seq ?_ | refine rg ?_ | refine ZA (z := ?_) | refine ZD (z := ?_) | refine ZR (z := ?_))
    refine cle rfl rfl hw ?_
    repeat (first | refine nl ?_ | refine AWP.seq ?_ | refine rg ?_ | refine AWP.skip ?_ | refine YI (z := ?_) | refine ZA (z := ?_) | refine ZD (z := ?_))
    refine cle rfl rfl ht ?_
    repeat (first | refine nl ?_ | refine ZA (z := ?_))
    exact AWP.ret (rets rfl (.refl _) (.refl _) ⟨rfl, rfl⟩)
  | false =>
    rw [h] at hw
    rw [if_neg (by decide)]
    repeat (first | refine nl ?_ | refine AWP.seq ?_ | refine rg ?_ | refine ZA (z := ?_) | refine ZD (z := ?_) | refine ZR (z := ?_))
    refine cle rfl rfl hw ?_
    repeat (first | refine nl ?_ | refine AWP.seq ?_ | refine rg ?_ | refine YH (z := ?_) | refine ZA (z := ?_))
    exact AWP.ret (rets rfl (.refl _) (.refl _) ⟨rfl, rfl⟩)

/-- How many levels an expression has. -/
def dpx : Xp → Nat
  | .elt _ a => dpx a + 1
  | .una _ a => dpx a + 1
  | .bin _ a b => max (dpx a) (dpx b) + 1
  | _ => 1
theorem rk_lvO (op : Nat) (h4 : 4 ≤ op) (h17 : op ≤ 17) : rk (op : Int) = (lvO op : Int) := by
  have h : op = 4 ∨ op = 5 ∨ op = 6 ∨ op = 7 ∨ op = 8 ∨ op = 9 ∨ op = 10 ∨ op = 11 ∨ op = 12 ∨ op = 13 ∨ op = 14 ∨ op = 15 ∨ op = 16 ∨ op = 17 := by omega
  rcases h with rfl | rfl | rfl | rfl | rfl | rfl | rfl | rfl | rfl | rfl | rfl | rfl | rfl | rfl <;> decide
theorem rk_toXT : ∀ x : Xp, Wop x → rk (toXT x).op = (lvX x : Int)
  | .lit _, _ => rfl
  | .var _, _ => rfl
  | .fld _ _, _ => rfl
  | .elt _ _, _ => rfl
  | .una op _, h => by
    have h1 : op = 4 ∨ op = 5 := h.1
    rcases h1 with rfl | rfl <;> rfl
  | .bin op _ _, h => rk_lvO op (by have := h.1; omega) h.2.1
theorem whole_toXT : ∀ (n : Nat) (x : Xp), Wop x → dpx x ≤ n → wholeX n (toXT x) = true
  | 0, x, _, h => by cases x <;> simp [dpx] at h
  | n + 1, .lit _, _, _ => rfl
  | n + 1, .var _, _, _ => rfl
  | n + 1, .fld _ _, _, _ => rfl
  | n + 1, .elt s a, h, hd => by
    have ha := whole_toXT n a h (by simp only [dpx] at hd; omega)
    rw [toXT, wholeX]
    simp [XT.op, XT.args, opdN, ha]
  | n + 1, .una op a, h, hd => by
    have ha := whole_toXT n a h.2 (by simp only [dpx] at hd; omega)
    have h1 := h.1
    rw [toXT, wholeX]
    rcases h1 with rfl | rfl <;> simp [XT.op, XT.args, opdN, ha]
  | n + 1, .bin op a b, h, hd => by
    have ha := whole_toXT n a h.2.2.1 (by simp only [dpx] at hd; omega)
    have hb := whole_toXT n b h.2.2.2 (by simp only [dpx] at hd; omega)
    have h1 := h.1
    have h2 := h.2.1
    have ho : opdN (op : Int) = 2 := by rw [opdN, if_neg (by omega), if_neg (by omega)]
    rw [whole_yes (x := toXT (.bin op a b)) ⟨(by show (0 : Int) ≤ (op : Int); omega), (by show (op : Int) ≤ 17; omega), (by show 2 = opdN (op : Int); rw [ho])⟩]
    show (wholeX n (toXT a) && (wholeX n (toXT b) && true)) = true
    rw [ha, hb]
    rfl
theorem txX_bin {n : Nat} {x : XT} (h : 6 ≤ x.op) : txX (n + 1) x = pby (decide (rk x.a.op < rk x.op ∨ rk x.a.op = 1)) (txX n x.a) ++ [32] ++ sgO x.op.toNat ++ [32] ++ pby (decide (rk x.b.op ≤ rk x.op)) (txX n x.b) := by
  rw [txX, if_neg (by omega), if_neg (by omega), if_neg (by omega), if_neg (by omega), if_neg (by omega), if_neg (by omega)]
theorem tx_toXT : ∀ (n : Nat) (x : Xp), Wop x → WX (fun _ => True) (fun m => m < 10 ^ 20) x → dpx x ≤ n → txX n (toXT x) = xby x
  | 0, x, _, _, h => by cases x <;> simp [dpx] at h
  | n + 1, .lit m, _, hx, _ => by
    rw [toXT, txX, xby]
    exact itoa_dec hx
  | n + 1, .var _, _, _, _ => rfl
  | n + 1, .fld s f, _, _, _ => by
    rw [toXT, txX, xby]
    show s ++ [46] ++ f = _
    simp
  | n + 1, .elt s a, h, hx, hd => by
    have ha := tx_toXT n a h hx.2 (by simp only [dpx] at hd; omega)
    rw [toXT, txX, xby, ← ha]
    show s ++ [91] ++ txX n (toXT a) ++ [93] = _
    simp
  | n + 1, .una op a, h, hx, hd => by
    have ha := tx_toXT n a h.2 hx (by simp only [dpx] at hd; omega)
    have hr := rk_toXT a h.2
    have h1 := h.1
    have e : decide (rk (toXT a).op < 5) = decide (lvX a < 5) := decide_eq_decide.2 (by omega)
    rw [toXT, txX, xby, ← ha, ← e]
    rcases h1 with rfl | rfl
    · rfl
    · rfl
  | n + 1, .bin op a b, h, hx, hd => by
    have ha := tx_toXT n a h.2.2.1 hx.1 (by simp only [dpx] at hd; omega)
    have hb := tx_toXT n b h.2.2.2 hx.2 (by simp only [dpx] at hd; omega)
    have h1 := h.1
    have h2 := h.2.1
    have hra := rk_toXT a h.2.2.1
    have hrb := rk_toXT b h.2.2.2
    have hro := rk_lvO op (by omega) h2
    have e1 : decide (rk (toXT a).op < rk (op : Int) ∨ rk (toXT a).op = 1) = lpar op a := decide_eq_decide.2 (by omega)
    have e2 : decide (rk (toXT b).op ≤ rk (op : Int)) = rpar op b := decide_eq_decide.2 (by omega)
    rw [txX_bin (x := toXT (.bin op a b)) (by show (6 : Int) ≤ (op : Int); omega), xby, ← ha, ← hb, ← e1, ← e2]
    show pby (decide (rk (toXT a).op < rk (op : Int) ∨ rk (toXT a).op = 1)) (txX n (toXT a)) ++ [32] ++ sgO (op : Int).toNat ++ [32] ++ pby (decide (rk (toXT b).op ≤ rk (op : Int))) (txX n (toXT b)) = _
    rw [Int.toNat_natCast]
    simp only [List.append_assoc, List.cons_append, List.nil_append]
theorem pr_toXT {x : Xp} (h : Wop x) (hx : WX (fun _ => True) (fun m => m < 10 ^ 20) x) (hd : dpx x ≤ 200) : prX (toXT x) = xby x := by
  rw [prX, if_pos (whole_toXT 200 x h hd), tx_toXT 200 x h hx hd]
end Go.Proofs
/- Expressions made from numbers, plain. No conditions: definitions and lemmas only. -/
namespace Go.Proofs
open Go.AM

def nmL : List (List UInt8) := [[97], [98], [99], [100], [118, 49], [118, 50], [118, 51], [118, 52], [118, 53], [118, 54], [122, 122]]
def fdL : List (List UInt8) := [[120], [121], [122]]
/-- The number at a place, cut. -/
def trN (l : List Int) (a : Nat) : Nat := ((l[a]?).map fun x => (x % 1048576).toNat).getD 0
def trNm (n : Nat) : List UInt8 := (nmL[n / 32 % 11]?).getD []
def trFd (n : Nat) : List UInt8 := (fdL[n / 512 % 3]?).getD []
/-- The expression that is made, so many levels further down at most, and the place behind. -/
def tr (l : List Int) : Nat → Nat → Xp × Nat
  | 0, a => (.lit (trN l a / 32 % 1000), a + 1)
  | k + 1, a =>
    if trN l a % 32 < 5 then (.lit (trN l a / 32 % 1000), a + 1)
    else if trN l a % 32 < 11 then (.var (trNm (trN l a)), a + 1)
    else if trN l a % 32 < 13 then (.fld (trNm (trN l a)) (trFd (trN l a)), a + 1)
    else if trN l a % 32 < 15 then (.elt (trNm (trN l a)) (tr l k (a + 1)).1, (tr l k (a + 1)).2)
    else if trN l a % 32 < 18 then (.una (4 + trN l a % 32 % 2) (tr l k (a + 1)).1, (tr l k (a + 1)).2)
    else (.bin (6 + trN l a % 32 % 12) (tr l k (a + 1)).1 (tr l k (tr l k (a + 1)).2).1, (tr l k (tr l k (a + 1)).2).2)
def trM : Nat → Nat
  | 0 => 1
  | k + 1 => 2 * trM k + 1
def trP : Nat → Nat
  | 0 => 3
  | k + 1 => 2 * trP k + 6

theorem nm_all : ∀ s ∈ nmL ++ fdL, Nm s ∧ s.length ≤ 2 := by
  have h : ∀ s ∈ nmL ++ fdL, (match s with | [] => false | c :: _ => isLet c && s.all isNP) = true ∧ s.length ≤ 2 ∧ s ∉ words := by decide
  intro s hs
  obtain ⟨h1, h2, h3⟩ := h s hs
  cases s with
  | nil => cases h1
  | cons c r =>
    simp only [Bool.and_eq_true, List.all_eq_true] at h1
    exact ⟨⟨c, r, rfl, h1.1, h1.2, by omega, h3⟩, h2⟩
theorem trNm_at (n : Nat) : nmL[n / 32 % 11]? = some (trNm n) ∧ trNm n ∈ nmL := by
  have h : n / 32 % 11 < nmL.length := Nat.mod_lt _ (by decide)
  have e := List.getElem?_eq_getElem h
  unfold trNm
  rw [e]
  exact ⟨rfl, List.getElem_mem h⟩
theorem trFd_at (n : Nat) : fdL[n / 512 % 3]? = some (trFd n) ∧ trFd n ∈ fdL := by
  have h : n / 512 % 3 < fdL.length := Nat.mod_lt _ (by decide)
  have e := List.getElem?_eq_getElem h
  unfold trFd
  rw [e]
  exact ⟨rfl, List.getElem_mem h⟩

structure TrP (k : Nat) (x : Xp) : Prop where
  op : Wop x
  nm : WX Nm Nu x
  dpx : dpx x ≤ k + 1
  bl : bl x + 2 * b1 (decide (lvX x < 6)) ≤ trP k
  tl : tl x + 2 * b1 (decide (lvX x < 6)) ≤ trP k
  nodes : (toXT x).nodes ≤ trM k
theorem trP_pos (k : Nat) : 3 ≤ trP k := by
  cases k with
  | zero => decide
  | succ k => unfold trP; omega
theorem trM_pos (k : Nat) : 1 ≤ trM k := by
  cases k with
  | zero => decide
  | succ k => unfold trM; omega
theorem TrP.leaf {k : Nat} {x : Xp} (h1 : Wop x) (h2 : WX Nm Nu x) (h3 : _root_.Go.Proofs.dpx x = 1) (h4 : lvX x = 6) (h5 : _root_.Go.Proofs.bl x ≤ trP k) (h6 : _root_.Go.Proofs.tl x ≤ 3) (h7 : (toXT x).nodes = 1) : TrP k x := by
  have p := trP_pos k
  have m := trM_pos k
  exact ⟨h1, h2, by omega, by rw [h4]; show _ + 2 * 0 ≤ _; omega, by rw [h4]; show _ + 2 * 0 ≤ _; omega, by omega⟩
theorem tr_ok (l : List Int) : ∀ (k a : Nat), TrP k (tr l k a).1 ∧ (tr l k a).2 ≤ a + trM k ∧ a ≤ (tr l k a).2 := by
  have hlit : ∀ k a, TrP k (.lit (trN l a / 32 % 1000)) := by
    intro k a
    have hn : trN l a / 32 % 1000 < 10 ^ 3 := Nat.mod_lt _ (by decide)
    have hd := dec_len (by decide) (by decide) hn
    have p := trP_pos k
    refine .leaf trivial (show _ < 10 ^ 18 by omega) rfl rfl ?_ (by show 1 ≤ 3; decide) rfl
    show (dec _).length ≤ _
    omega
  intro k
  induction k with
  | zero => intro a; exact ⟨hlit 0 a, by show a + 1 ≤ a + 1; omega, by show a ≤ a + 1; omega⟩
  | succ k ih =>
    intro a
    have p := trP_pos k
    have m := trM_pos k
    have eP : trP (k + 1) = 2 * trP k + 6 := rfl
    have eM : trM (k + 1) = 2 * trM k + 1 := rfl
    obtain ⟨n1, n2⟩ := trNm_at (trN l a)
    obtain ⟨f1, f2⟩ := trFd_at (trN l a)
    obtain ⟨nn, nl⟩ := nm_all _ (List.mem_append_left _ n2)
    obtain ⟨fn, fl⟩ := nm_all _ (List.mem_append_right _ f2)
    unfold tr
    generalize trNm (trN l a) = s at *
    generalize trFd (trN l a) = f at *
    obtain ⟨i1, i2, i3⟩ := ih (a + 1)
    have hpen : ∀ x : Xp, pen 5 x ≤ b1 (decide (lvX x < 6)) := by
      intro x
      unfold pen
      by_cases h : lvX x < 5
      · rw [decide_eq_true h, decide_eq_true (show lvX x < 6 by omega)]
        exact Nat.le_refl _
      · rw [decide_eq_false h]
        exact Nat.zero_le _
    have hb1 := fun b => b1_le b
    split
    · exact ⟨hlit (k + 1) a, by simp only; omega, by simp only; omega⟩
    split
    · refine ⟨.leaf trivial nn rfl rfl ?_ (by show 1 ≤ 3; decide) rfl, by simp only; omega, by simp only; omega⟩
      show s.length ≤ _
      omega
    split
    · refine ⟨.leaf trivial ⟨nn, fn⟩ rfl rfl ?_ (by show 3 ≤ 3; decide) rfl, by simp only; omega, by simp only; omega⟩
      show (s ++ 46 :: f).length ≤ _
      simp only [List.length_append, List.length_cons]
      omega
    split
    · generalize tr l k (a + 1) = r at i1 i2 i3
      obtain ⟨x, a'⟩ := r
      simp only at i1 i2 i3 ⊢
      obtain ⟨e1, e2⟩ := bl_elt s x
      refine ⟨⟨i1.op, ⟨nn, i1.nm⟩, ?_, ?_, ?_, ?_⟩, by omega, by omega⟩
      · have := i1.dpx
        simp only [dpx]
        omega
      · have := i1.bl
        rw [show lvX (.elt s x) = 6 from rfl, e1, show b1 (decide (6 < 6)) = 0 from rfl]
        omega
      · have := i1.tl
        rw [show lvX (.elt s x) = 6 from rfl, e2, show b1 (decide (6 < 6)) = 0 from rfl]
        omega
      · have := i1.nodes
        rw [toXT, XT.nodes_eq]
        show 1 + ((toXT x).nodes + 0) ≤ _
        omega
    split
    · generalize tr l k (a + 1) = r at i1 i2 i3
      obtain ⟨x, a'⟩ := r
      simp only at i1 i2 i3 ⊢
      generalize ho : 4 + trN l a % 32 % 2 = op
      obtain ⟨e1, e2⟩ := bl_una op x
      have h5 := hpen x
      refine ⟨⟨⟨by omega, i1.op⟩, i1.nm, ?_, ?_, ?_, ?_⟩, by omega, by omega⟩
      · have := i1.dpx
        simp only [dpx]
        omega
      · have := i1.bl
        rw [show lvX (.una op x) = 5 from rfl, e1, show b1 (decide (5 < 6)) = 1 from rfl]
        omega
      · have := i1.tl
        rw [show lvX (.una op x) = 5 from rfl, e2, show b1 (decide (5 < 6)) = 1 from rfl]
        omega
      · have := i1.nodes
        rw [toXT, XT.nodes_eq]
        show 1 + ((toXT x).nodes + 0) ≤ _
        omega
    · obtain ⟨j1, j2, j3⟩ := ih (tr l k (a + 1)).2
      generalize tr l k (a + 1) = r at i1 i2 i3 j1 j2 j3
      obtain ⟨x, a'⟩ := r
      simp only at i1 i2 i3 j1 j2 j3 ⊢
      generalize tr l k a' = r at j1 j2 j3
      obtain ⟨y, a2⟩ := r
      simp only at j1 j2 j3 ⊢
      generalize ho : 6 + trN l a % 32 % 12 = op
      have e1 := bl_bin op x y
      have e2 := tl_bin op x y
      have hs := sgO_len op
      have hl : b1 (lpar op x) ≤ b1 (decide (lvX x < 6)) := by
        unfold lpar
        have : lvO op ≤ 4 := (sgO_bin op (by omega) (by omega)).2.2.1
        by_cases h : lvX x < lvO op ∨ lvX x = 1
        · rw [decide_eq_true h, decide_eq_true (show lvX x < 6 by omega)]
          exact Nat.le_refl _
        · rw [decide_eq_false h]
          exact Nat.zero_le _
      have hr : b1 (rpar op y) ≤ b1 (decide (lvX y < 6)) := by
        unfold rpar
        have : lvO op ≤ 4 := (sgO_bin op (by omega) (by omega)).2.2.1
        by_cases h : lvX y ≤ lvO op
        · rw [decide_eq_true h, decide_eq_true (show lvX y < 6 by omega)]
          exact Nat.le_refl _
        · rw [decide_eq_false h]
          exact Nat.zero_le _
      have h6 := hb1 (decide (lvX (.bin op x y) < 6))
      refine ⟨⟨⟨by omega, by omega, i1.op, j1.op⟩, ⟨i1.nm, j1.nm⟩, ?_, ?_, ?_, ?_⟩, by omega, by omega⟩
      · have := i1.dpx
        have := j1.dpx
        simp only [dpx]
        omega
      · have := i1.bl
        have := j1.bl
        omega
      · have := i1.tl
        have := j1.tl
        omega
      · have := i1.nodes
        have := j1.nodes
        rw [toXT, XT.nodes_eq]
        show 1 + ((toXT x).nodes + ((toXT y).nodes + 0)) ≤ _
        omega
end Go.Proofs
/- The reader of expressions: what follows a name. No conditions: definitions and lemmas only. -/
namespace Go.Proofs
open Go.AM
attribute [local irreducible] AWP AOps ACalls AAny

/-- What follows a name. -/
def tg (d : Nat) (s : List UInt8) (ts : List Tk) : PR :=
  if sg (hd ts) [46] then (if (hd ts.tail).kind = 1 then .ok (.fld s (hd ts.tail).text, ts.tail.tail) else .error 7)
  else if sg (hd ts) [91] then
    match qe 1 (d + 1) ts.tail with
    | .error e => .error e
    | .ok (x, r) => if sg (hd r) [93] then .ok (.elt s x, r.tail) else .error 7
  else .ok (.var s, ts)
/-- What follows in brackets or parentheses. -/
def inner (d : Nat) (c : List UInt8) (f : Xp → Xp) (ts : List Tk) : PR :=
  match qe 1 (d + 1) ts with
  | .error e => .error e
  | .ok (x, r) => if sg (hd r) c then .ok (f x, r.tail) else .error 7
theorem sg_kind {t : Tk} {s : List UInt8} (h : sg t s = true) : t.kind = 4 := (of_decide_eq_true h).1
theorem inner_err {d : Nat} {c : List UInt8} {f : Xp → Xp} {ts : List Tk} {e : Nat} (h : qe 1 (d + 1) ts = .error e) : inner d c f ts = .error e := by rw [inner, h]
theorem inner_ok {d : Nat} {c : List UInt8} {f : Xp → Xp} {ts : List Tk} {x : Xp} {r : List Tk} (h : qe 1 (d + 1) ts = .ok (x, r)) (hs : sg (hd r) c = true) : inner d c f ts = .ok (f x, r.tail) := by rw [inner, h]; simp only; rw [if_pos hs]
theorem inner_no {d : Nat} {c : List UInt8} {f : Xp → Xp} {ts : List Tk} {x : Xp} {r : List Tk} (h : qe 1 (d + 1) ts = .ok (x, r)) (hs : ¬ sg (hd r) c = true) : inner d c f ts = .error 7 := by rw [inner, h]; simp only; rw [if_neg hs]

/-- What a nested expression and a sign behind it leave behind. -/
theorem rinner {ts : List Tk} (H : RdH ts) {d : Nat} {c : List UInt8} (f : Xp → Xp) {l : List Tk} {x : Xp} {a' e : Nat} (ha' : a' < ts.length) (hr : (e = 0 ∧ qe 1 (d + 1) l = .ok (x, ts.drop a')) ∨ (e ≠ 0 ∧ qe 1 (d + 1) l = .error e)) (o : Nat) (st : St) :
    ∃ a2 e2, ACalls Tryd.prog 52 [.cptr o 3 0 0, .str c] (st.set o (rdC (ts.map tokRow) a' e)) (fun _ st' => st' = st.set o (rdC (ts.map tokRow) a2 e2)) (fun _ _ => False) ∧ a2 < ts.length ∧
      ((e2 = 0 ∧ inner d c f l = .ok (f x, ts.drop a2)) ∨ (e2 ≠ 0 ∧ inner d c f l = .error e2)) := by
  rcases hr with ⟨rfl, hr⟩ | ⟨he, hr⟩
  · obtain ⟨t, t1, t2, t3, t4, t5⟩ := map_at ha'
    have hl : (ts.map tokRow).length ≤ 100000 := by rw [List.length_map]; exact H.len
    have h := rexpect_ok (St.obj_set st o (rdC (ts.map tokRow) a' 0)) t4 t2 hl c
    rw [St.set_set] at h
    by_cases hs : sg t c = true
    · rw [if_pos hs] at h
      exact ⟨a' + 1, 0, h, H.last _ _ t1 (by rw [sg_kind hs]; decide), .inl ⟨rfl, by rw [inner_ok hr (by rw [t3]; exact hs), t5]⟩⟩
    · rw [if_neg hs] at h
      exact ⟨a', 7, h, ha', .inr ⟨by decide, inner_no hr (by rw [t3]; exact hs)⟩⟩
  · exact ⟨a', e, rexpect_err (St.obj_set _ _ _) he c, ha', .inr ⟨he, inner_err hr⟩⟩

set_option maxHeartbeats 1000000 in
theorem rtarget_ok {ts : List Tk} (H : RdH ts) {N : Nat} (hO : OpnOk ts N) (hU : OpdOk ts N) (s : List UInt8) (d a o : Nat) (st : St) (hd8 : d ≤ 8) (ha : a < ts.length) (hN : ts.length - a ≤ N) (ho : st.obj o = some (rdC (ts.map tokRow) a 0)) (hg : st.row 1 = some opRow) :
    ACalls Tryd.prog 50 [.cptr o 3 0 0, .str s, .int .i64 (d : Int)] st (RdR ts o st (tg d s (ts.drop a))) (fun _ _ => False) := by
  refine ACalls.ofBody Tryd.func50 rfl Tryd.ntmps50 rfl ?_
  obtain ⟨t, t1, t2, t3, t4, t5⟩ := map_at ha
  have hl : (ts.map tokRow).length ≤ 100000 := by rw [List.length_map]; exact H.len
  repeat (refine AWP.seq ?_)
  refine rg ?_
  refine al rfl rfl fun o6 h6 => ?_
  have hne : o ≠ o6 := St.ne_of_new h6 ho
  have ho1 : ∀ c, (st.set o6 c).obj o = some (rdC (ts.map tokRow) a 0) := fun c => St.obj_new h6 ho
  have hC : (st.set o6 (.cells 27 6 [exRow 0 0 [] [] nilV])).obj o = some (.cells 48 3 [[.view 4 (ts.map tokRow) .shared, .int .i64 (a : Int), .int .i64 0]]) := ho1 _
  repeat (first | refine nl ?_ | refine AWP.seq ?_ | refine AWP.block ?_)
  refine rg ?_
  repeat (refine ZA (z := ?_))
  refine cle rfl rfl (ris_ok (ho1 _) t4 t2 hl [46]) ?_
  have hS : ∀ w, decide (t.kind = 4 ∧ t.text = w) = sg t w := fun _ => rfl
  rw [hS]
  by_cases h1 : sg t [46] = true
  · rw [h1]
    have ha2 := H.last _ _ t1 (by rw [sg_kind h1]; decide)
    obtain ⟨u, u1, u2, u3, u4, u5⟩ := map_at ha2
    have e0 : tg d s (ts.drop a) = if u.kind = 1 then .ok (.fld s u.text, ts.drop (a + 1 + 1)) else .error 7 := by
      rw [tg, t3, if_pos h1, t5, u3, u5]
    repeat (first | refine nl ?_ | refine AWP.seq ?_ | refine rg ?_ | refine YH (z := ?_) | refine ZA (z := ?_) | refine ZC (z := ?_) | refine ZH (z := ?_) | refine ZO (z := ?_))
    refine so (rows' := [[.view 4 (ts.map tokRow) .shared, .int .i64 ((a + 1 : Nat) : Int), .int .i64 0]]) rfl rfl rfl (ho1 _) rfl rfl rfl rfl rfl ?_
    repeat (first | refine nl ?_ | refine AWP.seq ?_ | refine rg ?_ | refine ZA (z := ?_))
    refine cle rfl rfl (rtoken_ok (St.obj_set _ _ _) u4 u2 hl) ?_
    repeat (first | refine nl ?_ | refine AWP.seq ?_ | refine rg ?_ | refine ZA (z := ?_) | refine ZC (z := ?_) | refine ZF (z := ?_) | refine YA (z := ?_))
    by_cases hk : u.kind = 1
    · rw [if_pos hk] at e0
      have hk' : (u.kind : Int) = 1 := by omega
      have ha3 := H.last _ _ u1 (by rw [hk]; decide)
      repeat (first | refine AWP.seq ?_ | refine rg ?_ | refine AWP.skip ?_ | refine YI (z := ?_) | refine ZA (z := ?_) | refine ZC (z := ?_) | refine ZH (z := ?_) | refine ZO (z := ?_))
      refine so (rows' := [[.view 4 (ts.map tokRow) .shared, .int .i64 ((a + 1 + 1 : Nat) : Int), .int .i64 0]]) rfl rfl rfl (St.obj_set _ _ _) rfl rfl rfl rfl rfl ?_
      rw [St.set_set]
      repeat (first | refine nl ?_ | refine AWP.seq ?_ | refine rg ?_ | refine ZA (z := ?_) | refine ZC (z := ?_) | refine ZF (z := ?_))
      refine bds (cs := exRow 2 0 s u.text nilV) rfl rfl rfl rfl ?_
      refine so (rows' := [exRow 2 0 s u.text nilV]) rfl rfl rfl (St.obj_under hne _ _) rfl rfl rfl rfl rfl ?_
      repeat (refine nl ?_)
      exact AWP.ret (rets (resCW rfl (St.obj_set _ _ _) rfl rfl rfl rfl) (ex_nil _ _ _ _) (StLe.res h6 hne) ⟨.fld s u.text, a + 1 + 1, 0, rfl, ha3, rfl, .inl ⟨rfl, e0⟩⟩)
    · rw [if_neg hk] at e0
      have hk' : ¬ (u.kind : Int) = 1 := by omega
      repeat (first | refine AWP.seq ?_ | refine rg ?_ | refine YH (z := ?_) | refine ZA (z := ?_) | refine ZC (z := ?_))
      refine so (rows' := [[.view 4 (ts.map tokRow) .shared, .int .i64 ((a + 1 : Nat) : Int), .int .i64 7]]) rfl rfl rfl (St.obj_set _ _ _) rfl rfl rfl rfl rfl ?_
      rw [St.set_set]
      repeat (first | refine nl ?_ | refine AWP.seq ?_ | refine rg ?_)
      refine bds (cs := exRow 0 0 [] [] nilV) rfl rfl rfl rfl ?_
      refine so (rows' := [exRow 0 0 [] [] nilV]) rfl rfl rfl (St.obj_under hne _ _) rfl rfl rfl rfl rfl ?_
      repeat (refine nl ?_)
      exact AWP.ret (rets (resCW rfl (St.obj_set _ _ _) rfl rfl rfl rfl) (ex_nil _ _ _ _) (StLe.res h6 hne) ⟨.lit 0, a + 1, 7, rfl, ha2, rfl, .inr ⟨by decide, e0⟩⟩)
  rw [Bool.not_eq_true] at h1
  rw [h1]
  repeat (first | refine nl ?_ | refine AWP.seq ?_ | refine rg ?_ | refine YI (z := ?_) | refine ZA (z := ?_))
  refine cle rfl rfl (ris_ok (ho1 _) t4 t2 hl [91]) ?_
  rw [hS]
  by_cases h2 : sg t [91] = true
  · rw [h2]
    have ha2 := H.last _ _ t1 (by rw [sg_kind h2]; decide)
    have e0 : tg d s (ts.drop a) = inner d [93] (.elt s) (ts.drop (a + 1)) := by
      rw [tg, t3, h1, if_neg (by decide), if_pos h2, t5]
      rfl
    repeat (first | refine nl ?_ | refine AWP.seq ?_ | refine rg ?_ | refine YH (z := ?_) | refine ZA (z := ?_) | refine ZC (z := ?_) | refine ZH (z := ?_) | refine ZO (z := ?_))
    refine so (rows' := [[.view 4 (ts.map tokRow) .shared, .int .i64 ((a + 1 : Nat) : Int), .int .i64 0]]) rfl rfl rfl (ho1 _) rfl rfl rfl rfl rfl ?_
    repeat (first | refine nl ?_ | refine AWP.seq ?_ | refine rg ?_ | refine ZA (z := ?_))
    refine cl rfl rfl (rnested_ok H hO hU d (a + 1) o _ false hd8 ha2 (by omega) (St.obj_set _ _ _) hg) fun v st' ⟨x, a', e, hv, ha', hst, hr⟩ => ?_
    subst hv
    subst hst
    rw [St.set_set]
    simp only [Bool.false_eq_true, if_false] at hr
    obtain ⟨op, num, name, field, args, hx⟩ := xrow_ex x
    rw [hx]
    repeat (first | refine nl ?_ | refine AWP.seq ?_ | refine rg ?_ | refine ZA (z := ?_) | refine YA (z := ?_))
    obtain ⟨a2, e2, hc, ha2', hr2⟩ := rinner H (c := [93]) (.elt s) ha' hr o (st.set o6 (.cells 27 6 [exRow 0 0 [] [] nilV]))
    refine cl rfl rfl hc fun v st' hst => ?_
    subst hst
    repeat (first | refine nl ?_ | refine AWP.seq ?_ | refine rg ?_ | refine ZA (z := ?_) | refine ZD (z := ?_) | refine ZQ (z := ?_))
    refine bds (cs := exRow 3 0 s [] (.view 6 [exRow op num name field (.view 6 args .shared)] .shared)) rfl rfl rfl rfl ?_
    refine so (rows' := [exRow 3 0 s [] (.view 6 [exRow op num name field (.view 6 args .shared)] .shared)]) rfl rfl rfl (St.obj_under hne _ _) rfl rfl rfl rfl rfl ?_
    repeat (refine nl ?_)
    refine AWP.ret (rets (resCW rfl (St.obj_set _ _ _) rfl rfl rfl rfl) (.refl _) (StLe.res h6 hne) ⟨.elt s x, a2, e2, ?_, ha2', rfl, ?_⟩)
    · rw [← hx]
      rfl
    · rw [e0]
      exact hr2
  rw [Bool.not_eq_true] at h2
  rw [h2]
  have e0 : tg d s (ts.drop a) = .ok (.var s, ts.drop a) := by
    rw [tg, t3, h1, if_neg (by decide), h2, if_neg (by decide)]
  repeat (first | refine nl ?_ | refine AWP.seq ?_ | refine rg ?_ | refine AWP.skip ?_ | refine YI (z := ?_) | refine ZA (z := ?_))
  refine bds (cs := exRow 1 0 s [] nilV) rfl rfl rfl rfl ?_
  refine so (rows' := [exRow 1 0 s [] nilV]) rfl rfl rfl (St.obj_set _ _ _) rfl rfl rfl rfl rfl ?_
  repeat (refine nl ?_)
  have hst : (st.set o (rdC (ts.map tokRow) a 0)) = st := by
    have : (fun p => if p = o then some (rdC (ts.map tokRow) a 0) else st.obj p) = st.obj := by
      funext p
      split
      · rename_i h; rw [h, ho]
      · rfl
    show ({ st with obj := _ } : St) = st
    rw [this]
  refine AWP.ret (rets (resCW rfl (St.obj_set _ _ _) rfl rfl rfl rfl) (ex_nil _ _ _ _) ?_ ⟨.var s, a, 0, rfl, ha, rfl, .inl ⟨rfl, e0⟩⟩)
  rw [hst]
  rw [St.set_set]
  exact StLe.new h6 (.refl _)
end Go.Proofs
/- The reader of expressions: an operand. No conditions: definitions and lemmas only. -/
namespace Go.Proofs
open Go.AM
attribute [local irreducible] AWP AOps ACalls AAny

theorem beg_cases {t : Tk} (h : beg t = true) : t.kind = 1 ∨ t.kind = 2 ∨ (t.kind = 4 ∧ (t.text = [45] ∨ t.text = [33] ∨ t.text = [40])) := by
  unfold beg sg at h
  simp only [Bool.or_eq_true, decide_eq_true_eq] at h
  rcases h with (((h | h) | h) | h) | h
  · exact .inl h
  · exact .inr (.inl h)
  · exact .inr (.inr ⟨h.1, .inl h.2⟩)
  · exact .inr (.inr ⟨h.1, .inr (.inl h.2)⟩)
  · exact .inr (.inr ⟨h.1, .inr (.inr h.2)⟩)

set_option maxHeartbeats 2000000 in
theorem roperand_step {ts : List Tk} (H : RdH ts) {N : Nat} (hO : OpnOk ts N) (hU : OpdOk ts N) : OpdOk ts (N + 1) := by
  intro d a o st hd8 ha hN ho hg
  refine ACalls.ofBody Tryd.func33 rfl Tryd.ntmps33 rfl ?_
  obtain ⟨t, t1, t2, t3, t4, t5⟩ := map_at ha
  have hl : (ts.map tokRow).length ≤ 100000 := by rw [List.length_map]; exact H.len
  repeat (refine AWP.seq ?_)
  refine rg ?_
  refine al rfl rfl fun o6 h6 => ?_
  have hne : o ≠ o6 := St.ne_of_new h6 ho
  have ho1 : ∀ c, (st.set o6 c).obj o = some (rdC (ts.map tokRow) a 0) := fun c => St.obj_new h6 ho
  have hC : (st.set o6 (.cells 27 6 [exRow 0 0 [] [] nilV])).obj o = some (.cells 48 3 [[.view 4 (ts.map tokRow) .shared, .int .i64 (a : Int), .int .i64 0]]) := ho1 _
  repeat (first | refine nl ?_ | refine AWP.seq ?_)
  refine rg ?_
  repeat (refine ZA (z := ?_))
  refine cle rfl rfl (rtoken_ok (ho1 _) t4 t2 hl) ?_
  repeat (first | refine nl ?_ | refine AWP.seq ?_ | refine rg ?_ | refine ZA (z := ?_) | refine YA (z := ?_))
  refine cle rfl rfl (rbegins_ok (ho1 _) t4 t2 hl) ?_
  by_cases hb : beg t = true
  · rw [hb]
    have hk0 : t.kind ≠ 0 := by
      rcases beg_cases hb with h | h | ⟨h, _⟩ <;> rw [h] <;> decide
    have ha2 := H.last _ _ t1 hk0
    repeat (first | refine nl ?_ | refine AWP.seq ?_ | refine rg ?_ | refine AWP.skip ?_ | refine YI (z := ?_) | refine ZA (z := ?_) | refine ZC (z := ?_) | refine ZH (z := ?_) | refine ZO (z := ?_))
    refine so (rows' := [[.view 4 (ts.map tokRow) .shared, .int .i64 ((a + 1 : Nat) : Int), .int .i64 0]]) rfl rfl rfl (ho1 _) rfl rfl rfl rfl rfl ?_
    have hS : ∀ b c, (((st.set o6 b).set o (AObj.cells 48 3 [[.view 4 (ts.map tokRow) .shared, .int .i64 ((a + 1 : Nat) : Int), .int .i64 0]])).set o c) = (st.set o6 b).set o c := fun _ _ => St.set_set ..
    by_cases hk2 : t.kind = 2
    · have e0 : qo d (ts.drop a) = .ok (.lit t.num, ts.drop (a + 1)) := by
        rw [qo_eq, t3, if_pos hb, if_neg (by omega), if_pos hk2, t5]
      have hk2' : (t.kind : Int) = 2 := by omega
      repeat (first | refine nl ?_ | refine AWP.seq ?_ | refine rg ?_ | refine YH (z := ?_) | refine ZA (z := ?_) | refine ZC (z := ?_) | refine ZF (z := ?_))
      refine bds (cs := exRow 0 t.num [] [] nilV) rfl rfl rfl rfl ?_
      refine so (rows' := [exRow 0 t.num [] [] nilV]) rfl rfl rfl (St.obj_under hne _ _) rfl rfl rfl rfl rfl ?_
      repeat (refine nl ?_)
      exact AWP.ret (rets (resCW rfl (St.obj_set _ _ _) rfl rfl rfl rfl) (ex_nil _ _ _ _) (StLe.res h6 hne) ⟨.lit t.num, a + 1, 0, rfl, ha2, rfl, .inl ⟨rfl, e0⟩⟩)
    have hk2' : ¬ (t.kind : Int) = 2 := by omega
    by_cases hk1 : t.kind = 1
    · have e0 : qo d (ts.drop a) = tg d t.text (ts.drop (a + 1)) := by
        rw [qo_eq, t3, if_pos hb, if_neg (by omega), if_neg hk2, if_pos hk1, t5]
        rfl
      have hk1' : (t.kind : Int) = 1 := by omega
      repeat (first | refine nl ?_ | refine AWP.seq ?_ | refine rg ?_ | refine AWP.skip ?_ | refine YH (z := ?_) | refine YI (z := ?_) | refine ZA (z := ?_) | refine ZC (z := ?_) | refine ZF (z := ?_))
      refine cl rfl rfl (rtarget_ok H hO hU t.text d (a + 1) o _ hd8 ha2 (by omega) (St.obj_set _ _ _) hg) fun v st' ⟨x, a', e, hv, ha', hst, hr⟩ => ?_
      subst hv
      subst hst
      rw [hS]
      obtain ⟨op, num, name, field, args, hx⟩ := xrow_ex x
      rw [hx]
      refine so (rows' := [exRow op num name field (.view 6 args .shared)]) rfl rfl rfl (St.obj_under hne _ _) rfl rfl rfl rfl rfl ?_
      repeat (refine nl ?_)
      exact AWP.ret (rets (resCW rfl (St.obj_set _ _ _) rfl rfl rfl rfl) (.refl _) (StLe.res h6 hne) ⟨x, a', e, by rw [hx]; rfl, ha', rfl, by rw [e0]; exact hr⟩)
    have hk1' : ¬ (t.kind : Int) = 1 := by omega
    have htx : t.text = [45] ∨ t.text = [33] ∨ t.text = [40] := by
      rcases beg_cases hb with h | h | ⟨_, h⟩
      · exact absurd h hk1
      · exact absurd h hk2
      · exact h
    have e0 : qo d (ts.drop a) = if t.text = [40] then inner d [41] id (ts.drop (a + 1)) else match qo (d + 1) (ts.drop (a + 1)) with
        | .error e => .error e
        | .ok (x, r) => .ok (.una (if t.text = [45] then 4 else 5) x, r) := by
      rw [qo_eq, t3, if_pos hb, if_neg (by omega), if_neg hk2, if_neg hk1, t5]
      rfl
    rcases htx with htx | htx | htx
    · rw [htx, if_neg (by decide), if_pos rfl] at e0
      repeat (first | refine nl ?_ | refine AWP.seq ?_ | refine rg ?_ | refine AWP.skip ?_ | refine AWP.block ?_ | refine YH (z := ?_) | refine YI (z := ?_) | refine ZA (z := ?_) | refine ZC (z := ?_) | refine ZF (z := ?_))
      refine cl rfl rfl (rnested_ok H hO hU d (a + 1) o _ true hd8 ha2 (by omega) (St.obj_set _ _ _) hg) fun v st' ⟨x, a', e, hv, ha', hst, hr⟩ => ?_
      subst hv
      subst hst
      rw [hS]
      simp only [if_true] at hr
      obtain ⟨op, num, name, field, args, hx⟩ := xrow_ex x
      rw [hx]
      repeat (refine ZQ (z := ?_))
      refine bds (cs := exRow 4 0 [] [] (.view 6 [exRow op num name field (.view 6 args .shared)] .shared)) rfl rfl rfl rfl ?_
      refine so (rows' := [exRow 4 0 [] [] (.view 6 [exRow op num name field (.view 6 args .shared)] .shared)]) rfl rfl rfl (St.obj_under hne _ _) rfl rfl rfl rfl rfl ?_
      repeat (refine nl ?_)
      refine AWP.ret (rets (resCW rfl (St.obj_set _ _ _) rfl rfl rfl rfl) (.refl _) (StLe.res h6 hne) ⟨.una 4 x, a', e, ?_, ha', rfl, ?_⟩)
      · rw [← hx]
        rfl
      · rw [e0]
        rcases hr with ⟨h1, h2⟩ | ⟨h1, h2⟩
        · exact .inl ⟨h1, by rw [h2]⟩
        · exact .inr ⟨h1, by rw [h2]⟩
    · rw [htx, if_neg (by decide), if_neg (by decide)] at e0
      have n1 : ¬ t.text = [45] := by rw [htx]; decide
      repeat (first | refine nl ?_ | refine AWP.seq ?_ | refine rg ?_ | refine AWP.skip ?_ | refine AWP.block ?_ | refine YH (z := ?_) | refine YI (z := ?_) | refine ZA (z := ?_) | refine ZC (z := ?_) | refine ZF (z := ?_))
      refine cl rfl rfl (rnested_ok H hO hU d (a + 1) o _ true hd8 ha2 (by omega) (St.obj_set _ _ _) hg) fun v st' ⟨x, a', e, hv, ha', hst, hr⟩ => ?_
      subst hv
      subst hst
      rw [hS]
      simp only [if_true] at hr
      obtain ⟨op, num, name, field, args, hx⟩ := xrow_ex x
      rw [hx]
      repeat (refine ZQ (z := ?_))
      refine bds (cs := exRow 5 0 [] [] (.view 6 [exRow op num name field (.view 6 args .shared)] .shared)) rfl rfl rfl rfl ?_
      refine so (rows' := [exRow 5 0 [] [] (.view 6 [exRow op num name field (.view 6 args .shared)] .shared)]) rfl rfl rfl (St.obj_under hne _ _) rfl rfl rfl rfl rfl ?_
      repeat (refine nl ?_)
      refine AWP.ret (rets (resCW rfl (St.obj_set _ _ _) rfl rfl rfl rfl) (.refl _) (StLe.res h6 hne) ⟨.una 5 x, a', e, ?_, ha', rfl, ?_⟩)
      · rw [← hx]
        rfl
      · rw [e0]
        rcases hr with ⟨h1, h2⟩ | ⟨h1, h2⟩
        · exact .inl ⟨h1, by rw [h2]⟩
        · exact .inr ⟨h1, by rw [h2]⟩
    · rw [htx, if_pos rfl] at e0
      have n1 : ¬ t.text = [45] := by rw [htx]; decide
      have n2 : ¬ t.text = [33] := by rw [htx]; decide
      repeat (first | refine nl ?_ | refine AWP.seq ?_ | refine rg ?_ | refine AWP.skip ?_ | refine AWP.block ?_ | refine YI (z := ?_) | refine ZA (z := ?_) | refine ZC (z := ?_) | refine ZF (z := ?_))
      refine cl rfl rfl (rnested_ok H hO hU d (a + 1) o _ false hd8 ha2 (by omega) (St.obj_set _ _ _) hg) fun v st' ⟨x, a', e, hv, ha', hst, hr⟩ => ?_
      subst hv
      subst hst
      rw [hS]
      simp only [Bool.false_eq_true, if_false] at hr
      obtain ⟨op, num, name, field, args, hx⟩ := xrow_ex x
      rw [hx]
      repeat (first | refine nl ?_ | refine AWP.seq ?_ | refine rg ?_ | refine ZA (z := ?_) | refine YA (z := ?_))
      obtain ⟨a2, e2, hc, ha2', hr2⟩ := rinner H (c := [41]) id ha' hr o (st.set o6 (.cells 27 6 [exRow 0 0 [] [] nilV]))
      refine cl rfl rfl hc fun v st' hst => ?_
      subst hst
      repeat (first | refine nl ?_ | refine AWP.seq ?_ | refine rg ?_ | refine ZD (z := ?_))
      refine so (rows' := [exRow op num name field (.view 6 args .shared)]) rfl rfl rfl (St.obj_under hne _ _) rfl rfl rfl rfl rfl ?_
      repeat (refine nl ?_)
      refine AWP.ret (rets (resCW rfl (St.obj_set _ _ _) rfl rfl rfl rfl) (.refl _) (StLe.res h6 hne) ⟨x, a2, e2, ?_, ha2', rfl, ?_⟩)
      · rw [hx]
        rfl
      · rw [e0]
        exact hr2
  · have e0 : qo d (ts.drop a) = .error 7 := by
      rw [qo_eq, t3, if_neg hb]
    rw [Bool.not_eq_true] at hb
    rw [hb]
    repeat (first | refine nl ?_ | refine AWP.seq ?_ | refine rg ?_ | refine YH (z := ?_) | refine ZA (z := ?_) | refine ZC (z := ?_))
    refine so (rows' := [[.view 4 (ts.map tokRow) .shared, .int .i64 (a : Int), .int .i64 7]]) rfl rfl rfl (ho1 _) rfl rfl rfl rfl rfl ?_
    repeat (first | refine nl ?_ | refine AWP.seq ?_ | refine rg ?_)
    refine bds (cs := exRow 0 0 [] [] nilV) rfl rfl rfl rfl ?_
    refine so (rows' := [exRow 0 0 [] [] nilV]) rfl rfl rfl (St.obj_under hne _ _) rfl rfl rfl rfl rfl ?_
    repeat (refine nl ?_)
    exact AWP.ret (rets (resCW rfl (St.obj_set _ _ _) rfl rfl rfl rfl) (ex_nil _ _ _ _) (StLe.res h6 hne) ⟨.lit 0, a, 7, rfl, ha, rfl, .inr ⟨by decide, e0⟩⟩)
end Go.Proofs
/- The reader of expressions: operations. No conditions: definitions and lemmas only. -/
namespace Go.Proofs
open Go.AM
attribute [local irreducible] AWP AOps ACalls AAny

theorem roperator2 {X : List (List AV)} {a e o : Nat} {t : Tk} {st : St} (ho : st.obj o = some (rdC X a e)) (ha : a < X.length) (hX : X[a]? = some (tokRow t)) (hl : X.length ≤ 100000) (lv : Nat) (h1 : 1 ≤ lv) (h4 : lv ≤ 4) (hg : st.row 1 = some opRow) :
    ACalls Tryd.prog 34 [.cptr o 3 0 0, .int .i64 (lv : Int)] st (fun v st' => v = (if (bin t).1 = lv then .tuple [.int .i64 ((bin t).2 : Int), .bool true] else .tuple [.int .i64 0, .bool false]) ∧ st' = st) (fun _ _ => False) := by
  refine (roperator_ok ho ha hX hl lv hg).mono (fun v st' ⟨hv, hst⟩ => ⟨?_, hst⟩) (fun _ _ h => h)
  have h := opL_bin t lv h1 h4
  cases hf : opL.find? fun o => decide (o.2.2 = lv ∧ sg t o.1 = true) with
  | none =>
    rw [hf] at h hv
    by_cases hb : (bin t).1 = lv
    · rw [if_pos hb] at h; cases h
    · rw [if_neg hb]; exact hv
  | some x =>
    rw [hf] at h hv
    by_cases hb : (bin t).1 = lv
    · rw [if_pos hb] at h ⊢
      have h : x.2.1 = (bin t).2 := Option.some.inj h
      rw [← h]
      exact hv
    · rw [if_neg hb] at h; cases h

theorem drop_lt {ts : List Tk} {a b : Nat} (ha : a < ts.length) (h : (ts.drop b).length < (ts.drop a).length) : a < b := by
  rw [List.length_drop, List.length_drop] at h
  omega
theorem qe_lt_len {lv d : Nat} {ts : List Tk} {x : Xp} {r : List Tk} (h1 : 1 ≤ lv) (h5 : lv ≤ 5) (h : qe lv d ts = .ok (x, r)) : r.length < ts.length := by
  have h2 := (pe_all (7 * ts.length + 7)).1 lv d ts h1 h5 (by omega)
  rw [show pe (7 * ts.length + 7) lv d ts = qe lv d ts from rfl, h] at h2
  exact h2

theorem StLe.res2 {st : St} {o o' o2 : Nat} {z r v w : AObj} (h : st.obj o' = none) (hne : o ≠ o') (h2 : st.obj o2 = none) (e1 : o2 ≠ o') (e2 : o2 ≠ o) : StLe ((((st.set o' z).set o r).set o2 w).set o' v) (st.set o r) := by
  rw [St.set_comm _ e1]
  exact StLe.new (by
    rw [St.obj_set_ne e1, St.obj_set_ne e2, St.obj_set_ne e1]
    exact h2) (StLe.res h hne)

set_option maxHeartbeats 2000000 in
theorem roperation_step {ts : List Tk} (H : RdH ts) {N : Nat} (_ : OpnOk ts N) (hU : OpdOk ts (N + 1)) : OpnOk ts (N + 1) := by
  have key : ∀ j lv : Nat, lv + j = 5 → ∀ (d a o : Nat) (st : St), 1 ≤ lv → d ≤ 8 → a < ts.length → ts.length - a ≤ N + 1 → st.obj o = some (rdC (ts.map tokRow) a 0) → st.row 1 = some opRow →
      ACalls Tryd.prog 20 [.cptr o 3 0 0, .int .i64 (lv : Int), .int .i64 (d : Int)] st (RdR ts o st (qe lv d (ts.drop a))) (fun _ _ => False) := by
    intro j
    induction j with
    | zero =>
      intro lv hlv d a o st h1 hd8 ha hN ho hg
      have hlv : lv = 5 := by omega
      subst hlv
      refine ACalls.ofBody Tryd.func20 rfl Tryd.ntmps20 rfl ?_
      repeat (refine AWP.seq ?_)
      refine rg ?_
      refine al rfl rfl fun o6 h6 => ?_
      have hne : o ≠ o6 := St.ne_of_new h6 ho
      have ho1 : ∀ c, (st.set o6 c).obj o = some (rdC (ts.map tokRow) a 0) := fun c => St.obj_new h6 ho
      repeat (first | refine nl ?_ | refine AWP.seq ?_ | refine rg ?_ | refine YH (z := ?_) | refine ZA (z := ?_))
      refine cl rfl rfl (hU d a o _ hd8 ha hN (ho1 _) hg) fun v st' ⟨x, a', e, hv, ha', hst, hr⟩ => ?_
      subst hv
      subst hst
      obtain ⟨op, num, name, field, args, hx⟩ := xrow_ex x
      rw [hx]
      refine so (rows' := [exRow op num name field (.view 6 args .shared)]) rfl rfl rfl (St.obj_under hne _ _) rfl rfl rfl rfl rfl ?_
      repeat (refine nl ?_)
      exact AWP.ret (rets (resCW rfl (St.obj_set _ _ _) rfl rfl rfl rfl) (.refl _) (StLe.res h6 hne) ⟨x, a', e, by rw [hx]; rfl, ha', rfl, by rw [qe_5]; exact hr⟩)
    | succ j ih =>
      intro lv hlv d a o st h1 hd8 ha hN ho hg
      have ih := ih (lv + 1) (by omega)
      have h4 : lv ≤ 4 := by omega
      have hl : (ts.map tokRow).length ≤ 100000 := by rw [List.length_map]; exact H.len
      refine ACalls.ofBody Tryd.func20 rfl Tryd.ntmps20 rfl ?_
      repeat (refine AWP.seq ?_)
      refine rg ?_
      refine al rfl rfl fun o6 h6 => ?_
      have hne : o ≠ o6 := St.ne_of_new h6 ho
      have ho1 : ∀ c, (st.set o6 c).obj o = some (rdC (ts.map tokRow) a 0) := fun c => St.obj_new h6 ho
      repeat (first | refine nl ?_ | refine AWP.seq ?_ | refine rg ?_ | refine AWP.skip ?_ | refine YI (z := ?_) | refine ZA (z := ?_) | refine ZO (z := ?_))
      refine cl rfl rfl (ih d a o _ (by omega) hd8 ha hN (ho1 _) hg) fun v st' ⟨x, a', e, hv, ha', hst, hr⟩ => ?_
      subst hv
      subst hst
      refine al rfl rfl fun o7 h7 => ?_
      have n7 : o7 ≠ o := fun e => by subst e; rw [St.obj_set] at h7; cases h7
      rw [St.obj_set_ne n7] at h7
      have n76 : o7 ≠ o6 := fun e => by subst e; rw [St.obj_set] at h7; cases h7
      rw [St.obj_set_ne n76] at h7
      obtain ⟨op, num, name, field, args, hx⟩ := xrow_ex x
      rw [hx]
      refine soV rfl rfl rfl rfl rfl rfl ?_
      repeat (first | refine nl ?_ | refine AWP.seq ?_ | refine AWP.block ?_)
      refine AWP.loop (α := Xp × Nat × Nat) (fun _ => [(7, .cptr o7 6 0 0), (6, .cptr o6 6 0 0), (2, .int .i64 (d : Int)), (1, .int .i64 (lv : Int)), (0, .cptr o 3 0 0)])
        (fun y => ((st.set o6 (.cells 27 6 [exRow 0 0 [] [] nilV])).set o (rdC (ts.map tokRow) y.2.1 y.2.2)).set o7 (.cells 27 6 [xrow y.1]))
        (fun y => y.2.1 < ts.length ∧ ((y.2.2 = 0 ∧ a ≤ y.2.1 ∧ qe lv d (ts.drop a) = ql lv d y.1 (ts.drop y.2.1)) ∨ (y.2.2 ≠ 0 ∧ qe lv d (ts.drop a) = .error y.2.2)))
        (fun y => if y.2.2 = 0 then ts.length - y.2.1 + 1 else 0) (x, a', e) ⟨ha', ?_⟩ (tl5 rfl rfl rfl rfl rfl) (by rw [hx]; exact .refl _) ?_
      · rcases hr with ⟨k1, k2⟩ | ⟨k1, k2⟩
        · exact .inl ⟨k1, Nat.le_of_lt (drop_lt ha (qe_lt_len (by omega) (by omega) k2)), by rw [qe_lt h1 h4, k2]⟩
        · exact .inr ⟨k1, by rw [qe_lt h1 h4, k2]⟩
      clear hr hx op num name field args ha'
      rintro ⟨x, a', e⟩ ⟨ha', hr⟩
      simp only at ha' hr
      obtain ⟨op, num, name, field, args, hx⟩ := xrow_ex x
      rw [hx]
      refine AWP.weaken (T' := [(7, .cptr o7 6 0 0), (6, .cptr o6 6 0 0), (2, .int .i64 (d : Int)), (1, .int .i64 (lv : Int)), (0, .cptr o 3 0 0)]) (tl5 rfl rfl rfl rfl rfl) (.refl _) ?_
      have hC : ∀ c, (((st.set o6 (.cells 27 6 [exRow 0 0 [] [] nilV])).set o (rdC (ts.map tokRow) a' e)).set o7 c).obj o = some (.cells 48 3 [[.view 4 (ts.map tokRow) .shared, .int .i64 (a' : Int), .int .i64 (e : Int)]]) := fun c => St.obj_under n7 _ _
      have hC0 := hC (.cells 27 6 [exRow op num name field (.view 6 args .shared)])
      obtain ⟨t, t1, t2, t3, t4, t5⟩ := map_at ha'
      by_cases he : e = 0
      · subst he
        have hr : a ≤ a' ∧ qe lv d (ts.drop a) = ql lv d x (ts.drop a') := by
          rcases hr with h | h
          · exact h.2
          · exact absurd rfl h.1
        obtain ⟨haa, hr⟩ := hr
        rw [ql_eq h1 h4, t3, t5] at hr
        repeat (first | refine nl ?_ | refine AWP.seq ?_ | refine rg ?_ | refine AWP.skip ?_ | refine AWP.block ?_ | refine YH (z := ?_) | refine ZA (z := ?_) | refine ZC (z := ?_) | refine ZH (z := ?_))
        refine cle rfl rfl (roperator2 (hC _) t4 t2 hl lv h1 h4 hg) ?_
        by_cases hb : (bin t).1 = lv
        · rw [if_pos hb] at hr ⊢
          have hk : t.kind ≠ 0 := by
            intro h0
            have : (bin t).1 = 0 := by
              unfold bin binL sg
              simp [h0]
            omega
          have ha2 := H.last _ _ t1 hk
          generalize (bin t).2 = bop at hr
          repeat (first | refine nl ?_ | refine AWP.seq ?_ | refine rg ?_ | refine AWP.skip ?_ | refine YI (z := ?_) | refine ZA (z := ?_) | refine ZC (z := ?_) | refine ZH (z := ?_) | refine ZO (z := ?_))
          refine so (rows' := [[.view 4 (ts.map tokRow) .shared, .int .i64 ((a' + 1 : Nat) : Int), .int .i64 0]]) rfl rfl rfl (hC _) rfl rfl rfl rfl rfl ?_
          rw [St.set_inner n7]
          repeat (first | refine nl ?_ | refine AWP.seq ?_ | refine rg ?_ | refine ZA (z := ?_) | refine ZO (z := ?_))
          refine cl rfl rfl (ih d (a' + 1) o _ (by omega) hd8 ha2 (by omega) (St.obj_under n7 _ _) hg) fun v st' ⟨y, a2, e2, hv, ha2', hst, hr2⟩ => ?_
          subst hv
          subst hst
          rw [St.set_inner n7]
          obtain ⟨op2, num2, name2, field2, args2, hy⟩ := xrow_ex y
          rw [hy]
          repeat (first | refine nl ?_ | refine AWP.seq ?_ | refine rg ?_ | refine ZA (z := ?_) | refine ZD (z := ?_) | refine ZE (z := ?_) | refine YA (z := ?_))
          refine bsh (cs := exRow op num name field (.view 6 args .shared) ++ exRow op2 num2 name2 field2 (.view 6 args2 .shared)) rfl rfl rfl rfl rfl ?_
          refine bds (cs := exRow bop 0 [] [] (.view 6 [exRow op num name field (.view 6 args .shared), exRow op2 num2 name2 field2 (.view 6 args2 .shared)] .shared)) rfl rfl rfl rfl ?_
          refine soV rfl rfl rfl rfl rfl rfl ?_
          repeat (first | refine nl ?_ | refine AWP.seq ?_ | refine rg ?_ | refine ZA (z := ?_))
          by_cases hl1 : lv = 1
          · have hl1' : (lv : Int) = 1 := by omega
            repeat (refine YH (z := ?_))
            refine AWP.exit (blk_miss rfl (blk_hit ?_))
            repeat (first | refine AWP.seq ?_ | refine rg ?_ | refine ZE (z := ?_))
            refine so (rows' := [exRow bop 0 [] [] (.view 6 [exRow op num name field (.view 6 args .shared), exRow op2 num2 name2 field2 (.view 6 args2 .shared)] .shared)]) rfl rfl rfl (by rw [St.obj_set_ne (Ne.symm n76), St.obj_set_ne (Ne.symm hne)]; exact St.obj_set _ _ _) rfl rfl rfl rfl rfl ?_
            repeat (refine nl ?_)
            refine AWP.ret (rets (resCW rfl (St.obj_set _ _ _) rfl rfl rfl rfl) (.refl _) (StLe.res2 h6 hne h7 n76 n7) ⟨.bin bop x y, a2, e2, ?_, ha2', rfl, ?_⟩)
            · rw [xrow, hx, hy]
              rfl
            · rw [hr]
              rcases hr2 with ⟨k1, k2⟩ | ⟨k1, k2⟩
              · exact .inl ⟨k1, by rw [k2]; simp only; rw [if_pos hl1]⟩
              · exact .inr ⟨k1, by rw [k2]⟩
          · have hl1' : ¬ (lv : Int) = 1 := by omega
            repeat (first | refine AWP.skip ?_ | refine YI (z := ?_))
            refine ⟨(.bin bop x y, a2, e2), ⟨ha2', ?_⟩, ?_, (tl5 rfl rfl rfl rfl rfl), ?_⟩
            · rcases hr2 with ⟨k1, k2⟩ | ⟨k1, k2⟩
              · have := drop_lt ha2 (qe_lt_len (by omega) (by omega) k2)
                exact .inl ⟨k1, by simp only; omega, by rw [hr, k2]; simp only; rw [if_neg hl1]⟩
              · exact .inr ⟨k1, by rw [hr, k2]⟩
            · simp only [if_true]
              rcases hr2 with ⟨k1, k2⟩ | ⟨k1, k2⟩
              · have := drop_lt ha2 (qe_lt_len (by omega) (by omega) k2)
                rw [if_pos k1]
                omega
              · rw [if_neg k1]
                omega
            · rw [xrow, hx, hy]
              exact .refl _
        · rw [if_neg hb] at hr ⊢
          repeat (first | refine nl ?_ | refine AWP.seq ?_ | refine rg ?_ | refine YH (z := ?_) | refine ZA (z := ?_))
          refine AWP.exit (blk_miss rfl (blk_hit ?_))
          repeat (first | refine AWP.seq ?_ | refine rg ?_ | refine ZE (z := ?_))
          refine so (rows' := [exRow op num name field (.view 6 args .shared)]) rfl rfl rfl (by rw [St.obj_set_ne (Ne.symm n76), St.obj_set_ne (Ne.symm hne)]; exact St.obj_set _ _ _) rfl rfl rfl rfl rfl ?_
          repeat (refine nl ?_)
          refine AWP.ret (rets (resCW rfl (St.obj_set _ _ _) rfl rfl rfl rfl) (.refl _) (StLe.res2 h6 hne h7 n76 n7) ⟨x, a', 0, ?_, ha', rfl, ?_⟩)
          · rw [hx]
            rfl
          · exact .inl ⟨rfl, hr⟩
      · have hr : qe lv d (ts.drop a) = .error e := by
          rcases hr with h | h
          · exact absurd h.1 he
          · exact h.2
        have he' : ¬ (e : Int) = 0 := by omega
        repeat (first | refine nl ?_ | refine AWP.seq ?_ | refine rg ?_ | refine YI (z := ?_) | refine ZA (z := ?_) | refine ZC (z := ?_) | refine ZH (z := ?_))
        refine AWP.exit (blk_hit ?_)
        repeat (first | refine AWP.seq ?_ | refine rg ?_ | refine ZE (z := ?_))
        refine so (rows' := [exRow op num name field (.view 6 args .shared)]) rfl rfl rfl (by rw [St.obj_set_ne (Ne.symm n76), St.obj_set_ne (Ne.symm hne)]; exact St.obj_set _ _ _) rfl rfl rfl rfl rfl ?_
        repeat (refine nl ?_)
        refine AWP.ret (rets (resCW rfl (St.obj_set _ _ _) rfl rfl rfl rfl) (.refl _) (StLe.res2 h6 hne h7 n76 n7) ⟨x, a', e, ?_, ha', rfl, ?_⟩)
        · rw [hx]
          rfl
        · exact .inr ⟨he, hr⟩
  intro lv d a o st h1 h5
  exact key (5 - lv) lv (by omega) d a o st h1

theorem rd_all {ts : List Tk} (H : RdH ts) : ∀ N, OpnOk ts N ∧ OpdOk ts N
  | 0 => ⟨fun _ _ _ _ _ _ _ _ h1 h2 => absurd h2 (by omega), fun _ _ _ _ _ h1 h2 => absurd h2 (by omega)⟩
  | N + 1 => by
    obtain ⟨hO, hU⟩ := rd_all H N
    have h := roperand_step H hO hU
    exact ⟨roperation_step H hO h, h⟩
end Go.Proofs
/- expression.Parse answers eparse. No conditions: definitions and lemmas only. -/
namespace Go.Proofs
open Go.AM
attribute [local irreducible] AWP AOps ACalls AAny

/-- What both parsers hand back. -/
def epV : Except Nat Xp → AV
  | .ok x => .tuple [.agg (xrow x), .int .i64 0]
  | .error e => .tuple [.agg (xrow (.lit 0)), .int .i64 (e : Int)]

theorem scan_RdH {s : List UInt8} (he : (scan s).2.2 = 0) : RdH (scan s).1 ∧ 0 < (scan s).1.length := by
  have hl := scan_small s
  obtain ⟨ts, l, e, _, _, _, hk⟩ := scan_tok s he
  rw [e] at hl ⊢
  simp only at hl ⊢
  refine ⟨⟨by omega, fun i t ht hk0 => ?_⟩, by simp⟩
  rw [List.length_append, List.length_singleton]
  rcases Nat.lt_or_ge i ts.length with h | h
  · omega
  · exfalso
    rw [List.getElem?_append_right h] at ht
    have := (List.getElem?_eq_some_iff.1 ht).1
    simp only [List.length_singleton] at this
    rw [show i - ts.length = 0 by omega] at ht
    simp at ht
    rw [← ht] at hk0
    exact hk0 rfl

theorem St.new_none {st : St} {o o' : Nat} {z : AObj} (hne : o' ≠ o) (h2 : (st.set o' z).obj o = none) : st.obj o = none := by
  rw [St.obj_set_ne (Ne.symm hne)] at h2
  exact h2
theorem StLe.set2' {st : St} {o o' : Nat} {z r : AObj} (h : st.obj o' = none) (h2 : (st.set o' z).obj o = none) (_ : o' ≠ o) : StLe ((st.set o' z).set o r) st :=
  StLe.new h2 (StLe.new h (.refl _))
theorem StLe.set3 {st : St} {o o' : Nat} {z r w : AObj} (h : st.obj o' = none) (h2 : (st.set o' z).obj o = none) (hne : o' ≠ o) : StLe (((st.set o' z).set o r).set o' w) st := by
  rw [St.set_inner (Ne.symm hne)]
  exact StLe.new (by rw [St.obj_set_ne (Ne.symm hne)]; exact St.new_none hne h2) (StLe.new h (.refl _))

set_option maxHeartbeats 2000000 in
theorem eparse_ok1 (s : List UInt8) (st : St) (hg1 : st.row 2 = some signRow) (hg0 : st.row 0 = some wordRow) (hg : st.row 1 = some opRow) :
    ACalls Tryd.prog 11 [.str s] st (fun v st' => v = epV (eparse s) ∧ st' = st) (fun _ _ => False) := by
  refine ACalls.ofBody Tryd.func11 rfl Tryd.ntmps11 rfl ?_
  repeat (refine AWP.seq ?_)
  refine rg ?_
  refine al rfl rfl fun o2 h2 => ?_
  repeat (first | refine nl ?_ | refine AWP.seq ?_ | refine rg ?_ | refine ZA (z := ?_))
  refine cle rfl rfl (scan_ok s _ hg1 hg0) ?_
  unfold scanV
  repeat (first | refine nl ?_ | refine AWP.seq ?_ | refine rg ?_ | refine ZA (z := ?_))
  by_cases he : (scan s).2.2 = 0
  · have hep : eparse s = match qe 1 0 (scan s).1 with
        | .error e => .error e
        | .ok (x, r) => if (hd r).kind = 0 then .ok x else .error 7 := by rw [eparse, if_pos he] <;> rfl
    obtain ⟨H, h0⟩ := scan_RdH he
    rw [he]
    generalize (scan s).1 = ts at H h0 hep
    clear he
    have hl : (ts.map tokRow).length ≤ 100000 := by rw [List.length_map]; exact H.len
    repeat (first | refine AWP.seq ?_ | refine rg ?_ | refine AWP.skip ?_ | refine YI (z := ?_) | refine ZA (z := ?_))
    refine bds (cs := [.view 4 (ts.map tokRow) .shared, .int .i64 0, .int .i64 0]) rfl rfl rfl rfl ?_
    refine al rfl rfl fun o7 h7 => ?_
    have hne : o2 ≠ o7 := fun e => by subst e; rw [St.obj_set] at h7; cases h7
    refine soV rfl rfl rfl rfl rfl rfl ?_
    repeat (first | refine nl ?_ | refine AWP.seq ?_ | refine rg ?_)
    refine cl rfl rfl ((rd_all H ts.length).1 1 0 0 o7 _ (by decide) (by decide) (by decide) h0 (by omega) (St.obj_set _ _ _) hg) fun v st' ⟨x, a', e, hv, ha', hst, hr⟩ => ?_
    subst hv
    subst hst
    rw [St.set_set]
    rw [List.drop_zero] at hr
    obtain ⟨op, num, name, field, args, hx⟩ := xrow_ex x
    rw [hx]
    obtain ⟨t, t1, t2, t3, t4, t5⟩ := map_at ha'
    refine alN rfl rfl (fun _ => rfl) rfl rfl ?_
    refine nl ?_
    refine AWP.seq ?_
    refine AWP.cutK (α := Nat) (fun _ => [(8, .eptr 6 [exRow op num name field (.view 6 args .shared)] 0 0), (7, .cptr o7 3 0 0), (2, .cptr o2 6 0 0)]) (fun e2 => (st.set o2 (.cells 27 6 [exRow 0 0 [] [] nilV])).set o7 (.cells 48 3 [[.view 4 (ts.map tokRow) .shared, .int .i64 (a' : Int), .int .i64 (e2 : Int)]]))
      (fun e2 => (e2 = 0 ∧ eparse s = .ok x) ∨ (e2 ≠ 0 ∧ eparse s = .error e2)) ?_ ?_
    · have hC : ∀ e : Nat, ((st.set o2 (.cells 27 6 [exRow 0 0 [] [] nilV])).set o7 (rdC (ts.map tokRow) a' e)).obj o7 = some (rdC (ts.map tokRow) a' e) := fun e => St.obj_set _ _ _
      rcases hr with ⟨rfl, hr⟩ | ⟨he, hr⟩
      · rw [hr] at hep
        simp only [t3] at hep
        unfold rdC
        repeat (first | refine AWP.seq ?_ | refine rg ?_ | refine ZA (z := ?_) | refine ZC (z := ?_) | refine ZH (z := ?_))
        refine cle rfl rfl (rtoken_ok (hC 0) t4 t2 hl) ?_
        by_cases hk : t.kind = 0
        · rw [if_pos hk] at hep
          have hk' : (t.kind : Int) = 0 := by omega
          skip
          refine fd rfl rfl rfl ?_
          repeat (first | refine nl ?_ | refine AWP.skip ?_ | refine YI (z := ?_) | refine ZA (z := ?_))
          exact ⟨0, .inl ⟨rfl, hep⟩, (tl3 rfl rfl rfl), .refl _⟩
        · rw [if_neg hk] at hep
          have hk' : (t.kind : Int) ≠ 0 := by omega
          skip
          refine fd rfl rfl rfl ?_
          repeat (first | refine nl ?_ | refine rg ?_ | refine YH (z := ?_) | refine ZA (z := ?_) | refine ZC (z := ?_))
          refine so (rows' := [[.view 4 (ts.map tokRow) .shared, .int .i64 (a' : Int), .int .i64 7]]) rfl rfl rfl (St.obj_set _ _ _) rfl rfl rfl rfl rfl ?_
          rw [St.set_set]
          repeat (refine nl ?_)
          exact ⟨7, .inr ⟨by decide, hep⟩, (tl3 rfl rfl rfl), .refl _⟩
      · rw [hr] at hep
        simp only at hep
        have he' : ¬ (e : Int) = 0 := by omega
        unfold rdC
        repeat (first | refine nl ?_ | refine AWP.seq ?_ | refine rg ?_ | refine AWP.skip ?_ | refine YI (z := ?_) | refine ZA (z := ?_) | refine ZB (z := ?_) | refine ZC (z := ?_) | refine ZH (z := ?_) | refine YE (z := ?_))
        exact ⟨e, .inr ⟨he, hep⟩, (tl3 rfl rfl rfl), .refl _⟩
    · rintro e2 he2
      rcases he2 with ⟨rfl, he2⟩ | ⟨hne2, he2⟩
      · repeat (first | refine nl ?_ | refine AWP.seq ?_ | refine rg ?_ | refine AWP.skip ?_ | refine YI (z := ?_) | refine ZA (z := ?_) | refine ZC (z := ?_) | refine ZD (z := ?_) | refine ZH (z := ?_))
        refine so (rows' := [exRow op num name field (.view 6 args .shared)]) rfl rfl rfl (St.obj_under (Ne.symm hne) _ _) rfl rfl rfl rfl rfl ?_
        repeat (first | refine nl ?_ | refine ZA (z := ?_))
        refine AWP.ret ?_
        refine rets (vs := [.agg (exRow op num name field (.view 6 args .shared)), .int .i64 0]) (resCW rfl (St.obj_set _ _ _) rfl rfl rfl rfl) (.refl _) (StLe.set3 h2 h7 hne) ⟨?_, rfl⟩
        rw [he2, epV, hx]
        rfl
      · have he' : (e2 : Int) ≠ 0 := by omega
        repeat (first | refine nl ?_ | refine AWP.seq ?_ | refine rg ?_ | refine YH (z := ?_) | refine ZA (z := ?_) | refine ZC (z := ?_) | refine ZH (z := ?_))
        refine AWP.drawX rfl 4 [3] [(st.set o2 (.cells 27 6 [exRow 0 0 [] [] nilV])).set o7 (.cells 48 3 [[.view 4 (ts.map tokRow) .shared, .int .i64 (a' : Int), .int .i64 (e2 : Int)]]), (st.set o2 (.cells 27 6 [exRow 0 0 [] [] nilV])).set o7 (.cells 48 3 [[.view 4 (ts.map tokRow) .shared, .int .i64 (a' : Int), .int .i64 (e2 : Int)]])]
          ((st.set o2 (.cells 27 6 [exRow 0 0 [] [] nilV])).set o7 (.cells 48 3 [[.view 4 (ts.map tokRow) .shared, .int .i64 (a' : Int), .int .i64 (e2 : Int)]])) rfl rfl (.refl _) ?_
        refine dqS (v := .agg (exRow 0 0 [] [] nilV)) rfl rfl rfl (fun st1 hle => bds (cs := exRow 0 0 [] [] nilV) rfl rfl rfl rfl (nl ⟨_, rfl, rfl, rfl⟩)) ?_
        repeat (first | refine dpS (h := fun _ _ => ZC (z := nz)) (z := ?_) | refine dpS (h := fun _ _ => ZH (z := nz)) (z := ?_))
        refine deS rfl rfl rfl (.refl _) rfl rfl (so (rows' := [exRow 0 0 [] [] nilV]) rfl rfl rfl (St.obj_under (Ne.symm hne) _ _) rfl rfl rfl rfl rfl (nl ⟨rfl, ?_⟩)) ?_
        · exact St.set_inner (Ne.symm hne) _ _ _
        refine dnS rfl ?_
        repeat (first | refine nl ?_ | refine ZA (z := ?_))
        refine AWP.ret ?_
        refine rets (vs := [.agg (exRow 0 0 [] [] nilV), .int .i64 (e2 : Int)]) (resCW rfl (St.obj_under (Ne.symm hne) _ _) rfl rfl rfl rfl) (Le.pair (ex_nil 0 0 [] []) (.refl _)) (StLe.set2' h2 h7 hne) ⟨?_, rfl⟩
        rw [he2]
        rfl
  · have hep : eparse s = .error (scan s).2.2 := by rw [eparse, if_neg he]
    generalize (scan s).2.2 = e at he hep
    have he' : ¬ (e : Int) = 0 := by omega
    repeat (first | refine AWP.seq ?_ | refine rg ?_ | refine YH (z := ?_))
    refine bds (cs := exRow 0 0 [] [] nilV) rfl rfl rfl rfl ?_
    repeat (refine ZA (z := ?_))
    refine soV rfl rfl rfl rfl rfl rfl ?_
    repeat (first | refine nl ?_ | refine ZA (z := ?_))
    refine AWP.ret ?_
    refine rets (vs := [.agg (exRow 0 0 [] [] nilV), .int .i64 (e : Int)]) (resCW rfl (St.obj_set _ _ _) rfl rfl rfl rfl) (Le.pair (ex_nil 0 0 [] []) (.refl _)) (StLe.new h2 (.refl _)) ⟨?_, rfl⟩
    rw [hep]
    rfl
end Go.Proofs
/- The walk of Mod. No conditions: lemmas only. -/
namespace Go.Proofs
open Go.AM

theorem tmod_gt (n k : Int) (hk : 0 < k) : -k < n.tmod k := by
  have := Int.tmod_lt_of_pos (-n) hk
  rw [Int.neg_tmod] at this
  omega

theorem mod_rem (n k : Int) (hk : 0 < k) : n % k = if n.tmod k < 0 then n.tmod k + k else n.tmod k := by
  have h1 : n % k = n.tmod k % k := by
    conv => lhs; rw [← Int.tmod_add_mul_tdiv n k]
    rw [Int.add_mul_emod_self_left]
  have h2 := Int.tmod_lt_of_pos n hk
  have h3 := tmod_gt n k hk
  rw [h1]
  split
  · rw [← Int.add_emod_right, Int.emod_eq_of_lt (by omega) (by omega)]
  · exact Int.emod_eq_of_lt (by omega) (by omega)

theorem mod_ok (n k : Int) (hk : 0 < k) (hk2 : k ≤ 4611686018427387904) (st : St) : ACalls Tryd.prog 10 [.int .i64 n, .int .i64 k] st (fun v st' => v = .int .i64 (n % k) ∧ st' = st) (fun _ _ => False) := by
  refine ACalls.ofBody Tryd.func10 rfl Tryd.ntmps10 rfl ?_
  have hm := mod_rem n k hk
  repeat (first | refine nl ?_ | refine AWP.seq ?_ | refine rg ?_ | refine sm rfl ?_)
  refine rm rfl rfl rfl (by omega) ?_
  repeat (first | refine nl ?_ | refine AWP.seq ?_ | refine rg ?_ | refine sm rfl ?_)
  refine AWP.cond_dec rfl (fun h => ?_) (fun h => AWP.skip ?_)
  · rw [if_pos h] at hm
    have h3 := tmod_gt n k hk
    have h4 := Int.tmod_lt_of_pos n hk
    repeat (first | refine rg ?_ | refine sm rfl ?_)
    refine ad rfl rfl rfl (by omega) ?_
    repeat (first | refine nl ?_ | refine AWP.seq ?_ | refine rg ?_ | refine sm rfl ?_)
    refine AWP.ret (rets rfl (.refl _) (.refl _) ⟨?_, rfl⟩)
    rw [hm]
    rfl
  · rw [if_neg h] at hm
    repeat (first | refine nl ?_ | refine AWP.seq ?_ | refine rg ?_ | refine sm rfl ?_)
    refine AWP.ret (rets rfl (.refl _) (.refl _) ⟨?_, rfl⟩)
    rw [hm]
    rfl
end Go.Proofs
/- Tree walked. No conditions: definitions and lemmas only. -/
namespace Go.Proofs
open Go.AM
attribute [local irreducible] AWP AOps ACalls AAny

def atC (a : Nat) : AObj := .cells 3 1 [[.int .i64 (a : Int)]]
def nmV : List AV := [.str [97], .str [98], .str [99], .str [100], .str [118, 49], .str [118, 50], .str [118, 51], .str [118, 52], .str [118, 53], .str [118, 54], .str [122, 122]]
theorem nmV_get : ∀ k : Nat, k < 11 → ∀ s, nmL[k]? = some s → (chunk (0 + 1) 11 nmV)[k]? = some [.str s]
  | 0, _, _, h => by cases h; rfl
  | 1, _, _, h => by cases h; rfl
  | 2, _, _, h => by cases h; rfl
  | 3, _, _, h => by cases h; rfl
  | 4, _, _, h => by cases h; rfl
  | 5, _, _, h => by cases h; rfl
  | 6, _, _, h => by cases h; rfl
  | 7, _, _, h => by cases h; rfl
  | 8, _, _, h => by cases h; rfl
  | 9, _, _, h => by cases h; rfl
  | 10, _, _, h => by cases h; rfl
  | n + 11, h, _, _ => absurd h (by omega)
theorem fdV_get : ∀ k : Nat, k < 3 → ∀ s, fdL[k]? = some s → (chunk (0 + 1) 3 [AV.str [120], AV.str [121], AV.str [122]])[k]? = some [.str s]
  | 0, _, _, h => by cases h; rfl
  | 1, _, _, h => by cases h; rfl
  | 2, _, _, h => by cases h; rfl
  | n + 3, h, _, _ => absurd h (by omega)
theorem tdivN (n k : Nat) : ((n : Int)).tdiv (k : Int) = ((n / k : Nat) : Int) := by rw [Int.tdiv_eq_ediv_of_nonneg (by omega)]; rfl
theorem tmodN (n k : Nat) : ((n : Int)).tmod (k : Int) = ((n % k : Nat) : Int) := by rw [Int.tmod_eq_emod_of_nonneg (by omega)]; rfl

theorem StLe.setdrop {st : St} {o : Nat} {c c' : AObj} : StLe (st.set o c') ((st.set o c).drop o) where
  obj := fun p x hp => by
    by_cases h : p = o
    · subst h
      simp [St.drop] at hp
    · rw [St.obj_drop_ne h, St.obj_set_ne h] at hp
      rw [St.obj_set_ne h]
      exact hp
  tok := fun _ h => h
  glob := rfl
def TreeOk (l : List Int) (k : Nat) : Prop := ∀ (a o : Nat) (st : St), a + trM k ≤ 1000 → st.obj o = some (atC a) → ACalls Tryd.prog 18 [.view 1 (l.map fun x => [.int .i64 x]) .shared, .cptr o 1 0 0, .int .i64 (7 - (k : Int))] st
  (fun v st' => v = .agg (xrow (tr l k a).1) ∧ st' = st.set o (atC (tr l k a).2)) (fun _ _ => False)

set_option maxHeartbeats 4000000 in
theorem tree_step (l : List Int) (_ : l.length ≤ 17592186043904) (k : Nat) (hk : k ≤ 7) (ih : ∀ j, k = j + 1 → TreeOk l j) : TreeOk l k := by
  intro a o st ha ho
  have hm := trM_pos k
  refine ACalls.ofBody Tryd.func18 rfl Tryd.ntmps18 rfl ?_
  repeat (refine AWP.seq ?_)
  refine rg ?_
  refine al rfl rfl fun o6 h6 => ?_
  have hne : o ≠ o6 := St.ne_of_new h6 ho
  have ho1 : ∀ c, (st.set o6 c).obj o = some (atC a) := fun c => St.obj_new h6 ho
  have hC : (st.set o6 (.cells 27 6 [exRow 0 0 [] [] nilV])).obj o = some (.cells 3 1 [[.int .i64 (a : Int)]]) := ho1 _
  have l1 : (l.map fun x => [AV.int .i64 x]).length = l.length := List.length_map ..
  repeat (first | refine nl ?_ | refine AWP.seq ?_)
  refine rg ?_
  repeat (refine ZA (z := ?_))
  refine nl ?_
  refine AWP.seq ?_
  refine midk [(7, .int .i64 (trN l a : Int)), (6, .cptr o6 6 0 0), (2, .int .i64 (7 - (k : Int))), (1, .cptr o 1 0 0), (0, .view 1 (l.map fun x => [.int .i64 x]) .shared)] (st.set o6 (.cells 27 6 [exRow 0 0 [] [] nilV])) ?_ ?_
  · unfold trN
    by_cases hal : a < l.length
    · have hg : (l.map fun x => [AV.int .i64 x])[a]? = some [.int .i64 l[a]] := by rw [List.getElem?_map, List.getElem?_eq_getElem hal]; rfl
      have hal' : a < (l.map fun x => [AV.int .i64 x]).length := by rw [l1]; exact hal
      rw [List.getElem?_eq_getElem hal]
      repeat (first | refine nl ?_ | refine AWP.seq ?_ | refine rg ?_ | refine YH (z := ?_) | refine ZA (z := ?_) | refine ZF (z := ?_) | refine ZJ (z := ?_) | refine ZM (z := ?_) | refine ZH (z := ?_))
      rw [l1]
      skip
      refine cle rfl rfl (mod_ok _ 1048576 (by decide) (by decide) _) ?_
      repeat (first | refine nl ?_ | refine ZA (z := ?_))
      refine ⟨TLe.consE rfl ?_ (tl4 rfl rfl rfl rfl), .refl _⟩
      show AV.int .i64 _ = AV.int .i64 (((l[a] % 1048576).toNat : Nat) : Int)
      rw [Int.toNat_of_nonneg (Int.emod_nonneg _ (by decide))]
    · rw [List.getElem?_eq_none (by omega)]
      repeat (first | refine nl ?_ | refine AWP.seq ?_ | refine rg ?_ | refine AWP.skip ?_ | refine YI (z := ?_) | refine ZA (z := ?_) | refine ZJ (z := ?_) | refine ZH (z := ?_))
      rw [l1]
      skip
      exact ⟨(tl5 rfl rfl rfl rfl rfl), .refl _⟩
  have hn : trN l a < 1048576 := by
    unfold trN
    cases l[a]? with
    | none => decide
    | some x =>
      have := Int.emod_lt_of_pos x (show (0 : Int) < 1048576 by decide)
      show (x % 1048576).toNat < _
      omega
  obtain ⟨n1, _⟩ := trNm_at (trN l a)
  obtain ⟨f1, _⟩ := trFd_at (trN l a)
  have g1 := nmV_get _ (Nat.mod_lt _ (by decide)) _ n1
  have g2 := fdV_get _ (Nat.mod_lt _ (by decide)) _ f1
  have hlit : ∀ j, k = j → tr l k a = (.lit (trN l a / 32 % 1000), a + 1) → True := fun _ _ _ => trivial
  have hS : ∀ b c, (((st.set o6 b).set o (AObj.cells 3 1 [[.int .i64 ((a + 1 : Nat) : Int)]])).set o c) = (st.set o6 b).set o c := fun _ _ => St.set_set ..
  repeat (first | refine AWP.seq ?_ | refine rg ?_ | refine ZA (z := ?_) | refine ZH (z := ?_) | refine ZO (z := ?_))
  refine so (rows' := [[.int .i64 ((a + 1 : Nat) : Int)]]) rfl rfl rfl (ho1 _) rfl rfl rfl rfl rfl ?_
  repeat (first | refine nl ?_ | refine AWP.seq ?_ | refine rg ?_)
  refine bsh (cs := nmV) rfl rfl rfl rfl rfl ?_
  repeat (first | refine nl ?_ | refine AWP.seq ?_ | refine rg ?_ | refine ZA (z := ?_))
  have e32 := tdivN (trN l a) 32
  have m32 := tmodN (trN l a) 32
  have e512 := tdivN (trN l a) 512
  refine qu rfl rfl rfl (by decide) (by rw [show ((32 : Int)) = ((32 : Nat) : Int) from rfl, e32]; omega) ?_
  rw [show ((trN l a : Nat) : Int).tdiv 32 = ((trN l a / 32 : Nat) : Int) from e32]
  repeat (first | refine ZA (z := ?_) | refine ZJ (z := ?_))
  refine rm (b := ((11 : Nat) : Int)) rfl rfl rfl (by decide) ?_
  rw [tmodN]
  refine ix (m := trN l a / 32 % 11) rfl rfl rfl rfl (Nat.mod_lt _ (by decide)) ?_
  refine Go.AM.le rfl rfl g1 rfl ?_
  repeat (first | refine nl ?_ | refine AWP.seq ?_ | refine rg ?_ | refine ZA (z := ?_))
  refine rm rfl rfl rfl (by decide) ?_
  rw [show ((trN l a : Nat) : Int).tmod 32 = ((trN l a % 32 : Nat) : Int) from m32]
  have hk32 : trN l a % 32 < 32 := Nat.mod_lt _ (by decide)
  match k, ih, hk, ha with
  | 0, _, _, ha =>
    have et : tr l 0 a = (.lit (trN l a / 32 % 1000), a + 1) := rfl
    rw [et]
    repeat (first | refine nl ?_ | refine AWP.seq ?_ | refine rg ?_ | refine AWP.block ?_ | refine YH (z := ?_) | refine ZA (z := ?_) | refine ZB (z := ?_))
    refine qu rfl rfl rfl (by decide) (by rw [show ((32 : Int)) = ((32 : Nat) : Int) from rfl, e32]; omega) ?_
    rw [show ((trN l a : Nat) : Int).tdiv 32 = ((trN l a / 32 : Nat) : Int) from e32]
    refine rm (b := ((1000 : Nat) : Int)) rfl rfl rfl (by decide) ?_
    rw [tmodN]
    refine bds (cs := exRow 0 (trN l a / 32 % 1000 : Nat) [] [] nilV) rfl rfl rfl rfl ?_
    refine so (rows' := [exRow 0 (trN l a / 32 % 1000 : Nat) [] [] nilV]) rfl rfl rfl (St.obj_under hne _ _) rfl rfl rfl rfl rfl ?_
    repeat (refine nl ?_)
    exact AWP.ret (rets (resCW rfl (St.obj_set _ _ _) rfl rfl rfl rfl) (ex_nil _ _ _ _) (StLe.res h6 hne) ⟨rfl, rfl⟩)
  | j + 1, ih, hk, ha =>
    have ih := ih j rfl
    have hM : trM (j + 1) = 2 * trM j + 1 := rfl
    obtain ⟨i1, i2, i3⟩ := tr_ok l j (a + 1)
    obtain ⟨j1, j2, j3⟩ := tr_ok l j (tr l j (a + 1)).2
    have hj : ¬ (7 - ((j + 1 : Nat) : Int)) > 6 := by omega
    rw [tr]
    generalize trN l a = n at *
    generalize n % 32 = kk at *
    by_cases c1 : kk < 5
    · rw [if_pos c1]
      repeat (first | refine nl ?_ | refine AWP.seq ?_ | refine rg ?_ | refine AWP.block ?_ | refine YH (z := ?_) | refine ZA (z := ?_) | refine YE (z := ?_))
      refine qu rfl rfl rfl (by decide) (by rw [show ((32 : Int)) = ((32 : Nat) : Int) from rfl, e32]; omega) ?_
      rw [show ((n : Nat) : Int).tdiv 32 = ((n / 32 : Nat) : Int) from e32]
      refine rm (b := ((1000 : Nat) : Int)) rfl rfl rfl (by decide) ?_
      rw [tmodN]
      refine bds (cs := exRow 0 (n / 32 % 1000 : Nat) [] [] nilV) rfl rfl rfl rfl ?_
      refine so (rows' := [exRow 0 (n / 32 % 1000 : Nat) [] [] nilV]) rfl rfl rfl (St.obj_under hne _ _) rfl rfl rfl rfl rfl ?_
      repeat (refine nl ?_)
      exact AWP.ret (rets (resCW rfl (St.obj_set _ _ _) rfl rfl rfl rfl) (ex_nil _ _ _ _) (StLe.res h6 hne) ⟨rfl, rfl⟩)
    rw [if_neg c1]
    by_cases c2 : kk < 11
    · rw [if_pos c2]
      repeat (first | refine nl ?_ | refine AWP.seq ?_ | refine rg ?_ | refine AWP.block ?_ | refine YH (z := ?_) | refine YI (z := ?_) | refine ZA (z := ?_) | refine YE (z := ?_))
      refine bds (cs := exRow 1 0 (trNm n) [] nilV) rfl rfl rfl rfl ?_
      refine so (rows' := [exRow 1 0 (trNm n) [] nilV]) rfl rfl rfl (St.obj_under hne _ _) rfl rfl rfl rfl rfl ?_
      repeat (refine nl ?_)
      exact AWP.ret (rets (resCW rfl (St.obj_set _ _ _) rfl rfl rfl rfl) (ex_nil _ _ _ _) (StLe.res h6 hne) ⟨rfl, rfl⟩)
    rw [if_neg c2]
    by_cases c3 : kk < 13
    · rw [if_pos c3]
      repeat (first | refine nl ?_ | refine AWP.seq ?_ | refine rg ?_ | refine AWP.block ?_ | refine YH (z := ?_) | refine YI (z := ?_) | refine ZA (z := ?_) | refine YE (z := ?_))
      refine bsh (cs := [.str [120], .str [121], .str [122]]) rfl rfl rfl rfl rfl ?_
      repeat (refine ZA (z := ?_))
      refine qu rfl rfl rfl (by decide) (by rw [show ((512 : Int)) = ((512 : Nat) : Int) from rfl, e512]; omega) ?_
      rw [show ((n : Nat) : Int).tdiv 512 = ((n / 512 : Nat) : Int) from e512]
      refine rm (b := ((3 : Nat) : Int)) rfl rfl rfl (by decide) ?_
      rw [tmodN]
      refine ix (m := n / 512 % 3) rfl rfl rfl rfl (Nat.mod_lt _ (by decide)) ?_
      refine Go.AM.le rfl rfl g2 rfl ?_
      refine bds (cs := exRow 2 0 (trNm n) (trFd n) nilV) rfl rfl rfl rfl ?_
      refine so (rows' := [exRow 2 0 (trNm n) (trFd n) nilV]) rfl rfl rfl (St.obj_under hne _ _) rfl rfl rfl rfl rfl ?_
      repeat (refine nl ?_)
      exact AWP.ret (rets (resCW rfl (St.obj_set _ _ _) rfl rfl rfl rfl) (ex_nil _ _ _ _) (StLe.res h6 hne) ⟨rfl, rfl⟩)
    rw [if_neg c3]
    have hd : (7 - ((j + 1 : Nat) : Int) + 1) = 7 - (j : Int) := by omega
    by_cases c4 : kk < 15
    · rw [if_pos c4]
      repeat (first | refine nl ?_ | refine AWP.seq ?_ | refine rg ?_ | refine AWP.block ?_ | refine YH (z := ?_) | refine YI (z := ?_) | refine ZA (z := ?_) | refine YE (z := ?_))
      refine Go.AM.ad rfl rfl rfl (by omega) ?_
      rw [hd]
      refine cl rfl rfl (ih (a + 1) o _ (by omega) (St.obj_set _ _ _)) fun v st' ⟨hv, hst⟩ => ?_
      subst hv
      subst hst
      rw [hS]
      obtain ⟨op, num, name, field, args, hx⟩ := xrow_ex (tr l j (a + 1)).1
      rw [hx]
      repeat (refine ZQ (z := ?_))
      refine bds (cs := exRow 3 0 (trNm n) [] (.view 6 [exRow op num name field (.view 6 args .shared)] .shared)) rfl rfl rfl rfl ?_
      refine so (rows' := [exRow 3 0 (trNm n) [] (.view 6 [exRow op num name field (.view 6 args .shared)] .shared)]) rfl rfl rfl (St.obj_under hne _ _) rfl rfl rfl rfl rfl ?_
      repeat (refine nl ?_)
      refine AWP.ret (rets (resCW rfl (St.obj_set _ _ _) rfl rfl rfl rfl) (.refl _) (StLe.res h6 hne) ⟨?_, rfl⟩)
      rw [xrow, hx]
      rfl
    rw [if_neg c4]
    by_cases c5 : kk < 18
    · rw [if_pos c5]
      repeat (first | refine nl ?_ | refine AWP.seq ?_ | refine rg ?_ | refine AWP.block ?_ | refine YH (z := ?_) | refine YI (z := ?_) | refine ZA (z := ?_) | refine YE (z := ?_))
      refine rm (b := ((2 : Nat) : Int)) rfl rfl rfl (by decide) ?_
      rw [tmodN]
      have h2 : kk % 2 < 2 := Nat.mod_lt _ (by decide)
      refine adn (a := 4) rfl rfl rfl (by omega) ?_
      repeat (refine ZA (z := ?_))
      refine Go.AM.ad rfl rfl rfl (by omega) ?_
      rw [hd]
      refine cl rfl rfl (ih (a + 1) o _ (by omega) (St.obj_set _ _ _)) fun v st' ⟨hv, hst⟩ => ?_
      subst hv
      subst hst
      rw [hS]
      obtain ⟨op, num, name, field, args, hx⟩ := xrow_ex (tr l j (a + 1)).1
      rw [hx]
      repeat (refine ZQ (z := ?_))
      refine bds (cs := exRow ((4 + kk % 2 : Nat) : Int) 0 [] [] (.view 6 [exRow op num name field (.view 6 args .shared)] .shared)) rfl rfl rfl rfl ?_
      refine so (rows' := [exRow ((4 + kk % 2 : Nat) : Int) 0 [] [] (.view 6 [exRow op num name field (.view 6 args .shared)] .shared)]) rfl rfl rfl (St.obj_under hne _ _) rfl rfl rfl rfl rfl ?_
      repeat (refine nl ?_)
      refine AWP.ret (rets (resCW rfl (St.obj_set _ _ _) rfl rfl rfl rfl) (.refl _) (StLe.res h6 hne) ⟨?_, rfl⟩)
      rw [xrow, hx]
      rfl
    rw [if_neg c5]
    repeat (first | refine nl ?_ | refine AWP.seq ?_ | refine rg ?_ | refine AWP.skip ?_ | refine AWP.block ?_ | refine YI (z := ?_) | refine ZA (z := ?_) | refine YE (z := ?_))
    refine Go.AM.ad rfl rfl rfl (by omega) ?_
    rw [hd]
    refine cl rfl rfl (ih (a + 1) o _ (by omega) (St.obj_set _ _ _)) fun v st' ⟨hv, hst⟩ => ?_
    subst hv
    subst hst
    rw [hS]
    generalize tr l j (a + 1) = r1 at *
    obtain ⟨x, a1⟩ := r1
    simp only at i2 i3 j2 j3 ⊢
    have ih2 := ih a1 o ((st.set o6 (.cells 27 6 [exRow 0 0 [] [] nilV])).set o (atC a1)) (by omega) (St.obj_set _ _ _)
    generalize tr l j a1 = r2 at *
    obtain ⟨y, a2⟩ := r2
    simp only at j2 j3 ih2 ⊢
    rw [St.set_set] at ih2
    obtain ⟨op, num, name, field, args, hx⟩ := xrow_ex x
    obtain ⟨op2, num2, name2, field2, args2, hy⟩ := xrow_ex y
    rw [hx]
    rw [hy] at ih2
    have h12 : kk % 12 < 12 := Nat.mod_lt _ (by decide)
    repeat (first | refine nl ?_ | refine AWP.seq ?_ | refine YA (z := ?_))
    refine AWP.drawX rfl 11 [8] [(st.set o6 (.cells 27 6 [exRow 0 0 [] [] nilV])).set o (atC a1), (st.set o6 (.cells 27 6 [exRow 0 0 [] [] nilV])).set o (atC a2)] (((st.set o6 (.cells 27 6 [exRow 0 0 [] [] nilV])).set o (atC a1)).drop o) rfl rfl (StLe.drop _) ?_
    repeat (refine dsS rfl rfl ?_)
    refine dqS (v := .int .i64 ((kk % 12 : Nat) : Int)) rfl rfl rfl (fun st1 hle => rm (b := ((12 : Nat) : Int)) rfl rfl rfl (by decide) (nl ⟨_, rfl, congrArg (AV.int .i64) (tmodN kk 12), rfl⟩)) ?_
    refine dqS (v := .int .i64 ((6 + kk % 12 : Nat) : Int)) rfl rfl rfl (fun st1 hle => adn (a := 6) rfl rfl rfl (by omega) (nl ⟨_, rfl, rfl, rfl⟩)) ?_
    repeat (first | refine dsS rfl rfl ?_ | refine dpS (h := fun _ _ => ZD (z := nz)) (z := ?_) | refine dpS (h := fun _ _ => YJ (z := nz)) (z := ?_))
    rw [hd]
    refine deSv rfl rfl rfl StLe.setdrop rfl rfl (cl rfl rfl ih2 fun v st' ⟨hv, hst⟩ => by subst hv; subst hst; exact nl ⟨_, rfl, rfl, rfl⟩) ?_
    refine dqS rfl rfl rfl (fun st1 hle => bsh (cs := exRow op num name field (.view 6 args .shared) ++ exRow op2 num2 name2 field2 (.view 6 args2 .shared)) rfl rfl rfl rfl rfl (nl ⟨_, rfl, rfl, rfl⟩)) ?_
    refine dqS rfl rfl rfl (fun st1 hle => bds (cs := exRow ((6 + kk % 12 : Nat) : Int) 0 [] [] (.view 6 [exRow op num name field (.view 6 args .shared), exRow op2 num2 name2 field2 (.view 6 args2 .shared)] .shared)) rfl rfl rfl rfl (nl ⟨_, rfl, rfl, rfl⟩)) ?_
    refine dnS rfl ?_
    refine so (rows' := [exRow ((6 + kk % 12 : Nat) : Int) 0 [] [] (.view 6 [exRow op num name field (.view 6 args .shared), exRow op2 num2 name2 field2 (.view 6 args2 .shared)] .shared)]) rfl rfl rfl (St.obj_under hne _ _) rfl rfl rfl rfl rfl ?_
    repeat (refine nl ?_)
    refine AWP.ret (rets (resCW rfl (St.obj_set _ _ _) rfl rfl rfl rfl) (.refl _) (StLe.res h6 hne) ⟨?_, rfl⟩)
    rw [xrow, hx, hy]
    rfl
theorem tree_all (l : List Int) (hl : l.length ≤ 17592186043904) : ∀ k, k ≤ 7 → TreeOk l k
  | 0, h => tree_step l hl 0 h fun j hj => by cases hj
  | k + 1, h => tree_step l hl (k + 1) h fun j hj => by cases hj; exact tree_all l hl k (by omega)
/-- The expression that is made. -/
def tre (l : List Int) : Xp := (tr l 7 0).1
theorem tree_ok (l : List Int) (hl : l.length ≤ 17592186043904) (st : St) : ACalls Tryd.prog 9 [.view 1 (l.map fun x => [.int .i64 x]) .shared] st (fun v st' => v = .agg (xrow (tre l)) ∧ st' = st) (fun _ _ => False) := by
  refine ACalls.ofBody Tryd.func9 rfl Tryd.ntmps9 rfl ?_
  repeat (refine AWP.seq ?_)
  refine rg ?_
  refine al rfl rfl fun o2 h2 => ?_
  repeat (first | refine nl ?_ | refine AWP.seq ?_)
  refine rg ?_
  refine al rfl rfl fun o3 h3 => ?_
  have hne : o2 ≠ o3 := fun e => by subst e; rw [St.obj_set] at h3; cases h3
  refine soV rfl rfl rfl rfl rfl rfl ?_
  repeat (first | refine nl ?_ | refine AWP.seq ?_ | refine rg ?_ | refine ZA (z := ?_))
  refine cl rfl rfl (tree_all l hl 7 (by decide) 0 o3 _ (by decide) (St.obj_set _ _ _)) fun v st' ⟨hv, hst⟩ => ?_
  subst hv
  subst hst
  rw [St.set_set]
  obtain ⟨op, num, name, field, args, hx⟩ := xrow_ex (tr l 7 0).1
  rw [hx]
  refine so (rows' := [exRow op num name field (.view 6 args .shared)]) rfl rfl rfl (St.obj_under (Ne.symm hne) _ _) rfl rfl rfl rfl rfl ?_
  repeat (refine nl ?_)
  refine AWP.ret (rets (resCW rfl (St.obj_set _ _ _) rfl rfl rfl rfl) (.refl _) (StLe.set3 h2 h3 hne) ⟨?_, rfl⟩)
  rw [tre, hx]
  rfl
end Go.Proofs
/- The reference's reader of expressions: kinds, signs, errors. No conditions: definitions and lemmas only. -/
namespace Go.Proofs
open Go.AM
attribute [local irreducible] AWP AOps ACalls AAny

def stC (X : List (List AV)) (a e : Nat) : AObj := .cells 55 3 [[.view 4 X .shared, .int .i64 (a : Int), .int .i64 (e : Int)]]

theorem skind_ok {X : List (List AV)} {a o : Nat} {t : Tk} {st : St} (ho : st.obj o = some (stC X a 0)) (ha : a < X.length) (hX : X[a]? = some (tokRow t)) (k : Nat) :
    ACalls Tryd.prog 24 [.cptr o 3 0 0, .int .i64 (k : Int)] st (fun v st' => v = .bool (decide (t.kind = k)) ∧ st' = st) (fun _ _ => False) := by
  refine ACalls.ofBody Tryd.func24 rfl Tryd.ntmps24 rfl ?_
  unfold stC at ho
  repeat (first | refine nl ?_ | refine AWP.seq ?_ | refine rg ?_ | refine ZA (z := ?_))
  refine AWP.draw rfl 21 21 (fun _ _ => False) rfl ?_
  repeat (first | refine ds rfl rfl ?_ | refine dp (h := fun _ _ => ZF (z := nz)) (z := ?_) | refine dp (h := fun _ _ => ZC (z := nz)) (z := ?_) | refine dp (h := fun _ _ => ZM (z := nz)) (z := ?_) | refine dp (h := fun _ _ => ZH (z := nz)) (z := ?_))
  refine dn ⟨fun _ => ?_, fun h => absurd h (by decide)⟩
  refine nl ?_
  refine AWP.ret (rets rfl (.refl _) (.refl _) ⟨congrArg AV.bool (decide_eq_decide.2 (by omega)), rfl⟩)
theorem skind_err {X : List (List AV)} {a e o : Nat} {st : St} (ho : st.obj o = some (stC X a e)) (he : e = 5 ∨ e = 7) (k : Nat) :
    ACalls Tryd.prog 24 [.cptr o 3 0 0, .int .i64 (k : Int)] st (fun v st' => v = .bool false ∧ st' = st) (fun _ _ => False) := by
  refine ACalls.ofBody Tryd.func24 rfl Tryd.ntmps24 rfl ?_
  unfold stC at ho
  rcases he with rfl | rfl
  · repeat (first | refine nl ?_ | refine AWP.seq ?_ | refine rg ?_ | refine ZA (z := ?_))
    refine AWP.draw rfl 21 21 (fun _ _ => False) rfl ?_
    repeat (first | refine ds rfl rfl ?_ | refine du rfl rfl rfl ?_ | refine dp (h := fun _ _ => ZC (z := nz)) (z := ?_) | refine dp (h := fun _ _ => ZH (z := nz)) (z := ?_))
    refine dn ⟨fun _ => ?_, fun h => absurd h (by decide)⟩
    refine nl ?_
    refine AWP.ret (rets rfl (.refl _) (.refl _) ⟨rfl, rfl⟩)
  · repeat (first | refine nl ?_ | refine AWP.seq ?_ | refine rg ?_ | refine ZA (z := ?_))
    refine AWP.draw rfl 21 21 (fun _ _ => False) rfl ?_
    repeat (first | refine ds rfl rfl ?_ | refine du rfl rfl rfl ?_ | refine dp (h := fun _ _ => ZC (z := nz)) (z := ?_) | refine dp (h := fun _ _ => ZH (z := nz)) (z := ?_))
    refine dn ⟨fun _ => ?_, fun h => absurd h (by decide)⟩
    refine nl ?_
    refine AWP.ret (rets rfl (.refl _) (.refl _) ⟨rfl, rfl⟩)
theorem sfail_ok {X : List (List AV)} {a o : Nat} {st : St} (ho : st.obj o = some (stC X a 0)) (e : Nat) :
    ACalls Tryd.prog 25 [.cptr o 3 0 0, .int .i64 (e : Int)] st (fun _ st' => st' = st.set o (stC X a e)) (fun _ _ => False) := by
  refine ACalls.ofBody Tryd.func25 rfl Tryd.ntmps25 rfl ?_
  unfold stC at ho
  repeat (first | refine nl ?_ | refine AWP.seq ?_ | refine rg ?_ | refine YH (z := ?_) | refine ZA (z := ?_) | refine ZC (z := ?_) | refine ZH (z := ?_))
  refine so (rows' := [[.view 4 X .shared, .int .i64 (a : Int), .int .i64 (e : Int)]]) rfl rfl rfl ho rfl rfl rfl rfl rfl ?_
  repeat (refine nl ?_)
  exact rets rfl (.refl _) (.refl _) rfl
theorem sfail_err {X : List (List AV)} {a e o : Nat} {st : St} (ho : st.obj o = some (stC X a e)) (he : e = 5 ∨ e = 7) (e2 : Nat) :
    ACalls Tryd.prog 25 [.cptr o 3 0 0, .int .i64 (e2 : Int)] st (fun _ st' => st' = st) (fun _ _ => False) := by
  refine ACalls.ofBody Tryd.func25 rfl Tryd.ntmps25 rfl ?_
  unfold stC at ho
  rcases he with rfl | rfl
  · repeat (first | refine nl ?_ | refine AWP.seq ?_ | refine rg ?_ | refine AWP.skip ?_ | refine YI (z := ?_) | refine ZA (z := ?_) | refine ZC (z := ?_) | refine ZH (z := ?_))
    exact rets rfl (.refl _) (.refl _) rfl
  · repeat (first | refine nl ?_ | refine AWP.seq ?_ | refine rg ?_ | refine AWP.skip ?_ | refine YI (z := ?_) | refine ZA (z := ?_) | refine ZC (z := ?_) | refine ZH (z := ?_))
    exact rets rfl (.refl _) (.refl _) rfl
theorem sis_ok {X : List (List AV)} {a o : Nat} {t : Tk} {st : St} (ho : st.obj o = some (stC X a 0)) (ha : a < X.length) (hX : X[a]? = some (tokRow t)) (s : List UInt8) (b : Bool) (hb : sg t s = b) :
    ACalls Tryd.prog 58 [.cptr o 3 0 0, .str s] st (fun v st' => v = .bool b ∧ st' = st) (fun _ _ => False) := by
  refine ACalls.ofBody Tryd.func58 rfl Tryd.ntmps58 rfl ?_
  unfold stC at ho
  unfold sg at hb
  repeat (first | refine nl ?_ | refine AWP.seq ?_ | refine rg ?_ | refine ZA (z := ?_))
  by_cases h4 : t.kind = 4
  · have h4' : (t.kind : Int) = 4 := by omega
    have h3 : decide (t.kind = 4 ∧ t.text = s) = decide (t.text = s) := decide_eq_decide.2 ⟨fun h => h.2, fun h => ⟨h4, h⟩⟩
    rw [h3] at hb
    subst hb
    refine AWP.draw rfl 35 35 (fun _ _ => False) rfl ?_
    repeat (first | refine dq (v := .bool true) rfl rfl rfl (fun st1 hle => sm rfl (nl ⟨_, rfl, congrArg AV.bool (by (fail_if_success rfl); first | assumption | exact decide_eq_true (by assumption) | exact decide_eq_false (by assumption) | exact decide_eq_true rfl | exact decide_eq_true (by omega) | exact decide_eq_false (by omega)), rfl⟩)) ?_ | refine ds rfl rfl ?_ | refine dp (h := fun _ _ => ZF (z := nz)) (z := ?_) | refine dp (h := fun _ _ => ZC (z := nz)) (z := ?_) | refine dp (h := fun _ _ => ZM (z := nz)) (z := ?_) | refine dp (h := fun _ _ => ZH (z := nz)) (z := ?_))
    refine dn ⟨fun _ => ?_, fun h => absurd h (by decide)⟩
    refine nl ?_
    refine AWP.ret (rets rfl (.refl _) (.refl _) ⟨rfl, rfl⟩)
  · have h4' : ¬ (t.kind : Int) = 4 := by omega
    have h3 : decide (t.kind = 4 ∧ t.text = s) = false := decide_eq_false fun h => h4 h.1
    rw [h3] at hb
    subst hb
    refine AWP.draw rfl 35 35 (fun _ _ => False) rfl ?_
    repeat (first | refine dq (v := .bool false) rfl rfl rfl (fun st1 hle => sm rfl (nl ⟨_, rfl, congrArg AV.bool (by (fail_if_success rfl); first | assumption | exact decide_eq_true (by assumption) | exact decide_eq_false (by assumption) | exact decide_eq_true rfl | exact decide_eq_true (by omega) | exact decide_eq_false (by omega)), rfl⟩)) ?_ | refine ds rfl rfl ?_ | refine du rfl rfl rfl ?_ | refine dp (h := fun _ _ => ZF (z := nz)) (z := ?_) | refine dp (h := fun _ _ => ZC (z := nz)) (z := ?_) | refine dp (h := fun _ _ => ZM (z := nz)) (z := ?_) | refine dp (h := fun _ _ => ZH (z := nz)) (z := ?_))
    refine dn ⟨fun _ => ?_, fun h => absurd h (by decide)⟩
    refine nl ?_
    refine AWP.ret (rets rfl (.refl _) (.refl _) ⟨rfl, rfl⟩)
theorem sis_err {X : List (List AV)} {a e o : Nat} {st : St} (ho : st.obj o = some (stC X a e)) (he : e = 5 ∨ e = 7) (s : List UInt8) :
    ACalls Tryd.prog 58 [.cptr o 3 0 0, .str s] st (fun v st' => v = .bool false ∧ st' = st) (fun _ _ => False) := by
  refine ACalls.ofBody Tryd.func58 rfl Tryd.ntmps58 rfl ?_
  unfold stC at ho
  rcases he with rfl | rfl
  · repeat (first | refine nl ?_ | refine AWP.seq ?_ | refine rg ?_ | refine ZA (z := ?_))
    refine AWP.draw rfl 35 35 (fun _ _ => False) rfl ?_
    repeat (first | refine ds rfl rfl ?_ | refine du rfl rfl rfl ?_ | refine dp (h := fun _ _ => ZC (z := nz)) (z := ?_) | refine dp (h := fun _ _ => ZH (z := nz)) (z := ?_))
    refine dn ⟨fun _ => ?_, fun h => absurd h (by decide)⟩
    refine nl ?_
    refine AWP.ret (rets rfl (.refl _) (.refl _) ⟨rfl, rfl⟩)
  · repeat (first | refine nl ?_ | refine AWP.seq ?_ | refine rg ?_ | refine ZA (z := ?_))
    refine AWP.draw rfl 35 35 (fun _ _ => False) rfl ?_
    repeat (first | refine ds rfl rfl ?_ | refine du rfl rfl rfl ?_ | refine dp (h := fun _ _ => ZC (z := nz)) (z := ?_) | refine dp (h := fun _ _ => ZH (z := nz)) (z := ?_))
    refine dn ⟨fun _ => ?_, fun h => absurd h (by decide)⟩
    refine nl ?_
    refine AWP.ret (rets rfl (.refl _) (.refl _) ⟨rfl, rfl⟩)
theorem stake_err {X : List (List AV)} {a e o : Nat} {st : St} (ho : st.obj o = some (stC X a e)) (he : e = 5 ∨ e = 7) (s : List UInt8) :
    ACalls Tryd.prog 59 [.cptr o 3 0 0, .str s] st (fun _ st' => st' = st) (fun _ _ => False) := by
  refine ACalls.ofBody Tryd.func59 rfl Tryd.ntmps59 rfl ?_
  repeat (first | refine AWP.seq ?_ | refine rg ?_ | refine ZA (z := ?_))
  refine cle rfl rfl (sis_err ho he s) ?_
  repeat (first | refine nl ?_ | refine AWP.seq ?_ | refine rg ?_ | refine YH (z := ?_) | refine ZA (z := ?_))
  refine cl rfl rfl (sfail_err ho he 7) fun v st' hst => ?_
  subst hst
  repeat (refine nl ?_)
  exact AWP.ret (rets rfl (.refl _) (.refl _) rfl)
theorem stake_ok {X : List (List AV)} {a o : Nat} {t : Tk} {st : St} (ho : st.obj o = some (stC X a 0)) (ha : a < X.length) (hX : X[a]? = some (tokRow t)) (hl : X.length ≤ 100000) (s : List UInt8) :
    ACalls Tryd.prog 59 [.cptr o 3 0 0, .str s] st (fun _ st' => st' = st.set o (if sg t s = true then stC X (a + 1) 0 else stC X a 7)) (fun _ _ => False) := by
  refine ACalls.ofBody Tryd.func59 rfl Tryd.ntmps59 rfl ?_
  repeat (first | refine AWP.seq ?_ | refine rg ?_ | refine ZA (z := ?_))
  cases hb : sg t s with
  | true =>
    rw [if_pos rfl]
    refine cle rfl rfl (sis_ok ho ha hX s true hb) ?_
    unfold stC at ho
    repeat (first | refine nl ?_ | refine rg ?_ | refine AWP.skip ?_ | refine YI (z := ?_) | refine ZA (z := ?_) | refine ZC (z := ?_) | refine ZH (z := ?_) | refine ZO (z := ?_))
    refine so (rows' := [[.view 4 X .shared, .int .i64 ((a + 1 : Nat) : Int), .int .i64 0]]) rfl rfl rfl ho rfl rfl rfl rfl rfl ?_
    repeat (refine nl ?_)
    exact rets rfl (.refl _) (.refl _) rfl
  | false =>
    rw [if_neg (by decide)]
    refine cle rfl rfl (sis_ok ho ha hX s false hb) ?_
    repeat (first | refine nl ?_ | refine AWP.seq ?_ | refine rg ?_ | refine YH (z := ?_) | refine ZA (z := ?_))
    refine cl rfl rfl (sfail_ok ho 7) fun v st' hst => ?_
    subst hst
    repeat (refine nl ?_)
    exact AWP.ret (rets rfl (.refl _) (.refl _) rfl)
end Go.Proofs
/- The reference's reader of expressions: the operator that follows. No conditions: definitions and lemmas only. -/
namespace Go.Proofs
open Go.AM
attribute [local irreducible] AWP AOps ACalls AAny

def sgnRow : List AV := [.str [43], .str [45], .str [42], .str [47], .str [37], .str [38], .str [124], .str [94], .str [60], .str [60, 61], .str [61, 61], .str [33, 61]]
def levRow : List AV := [.int .i64 3, .int .i64 3, .int .i64 4, .int .i64 4, .int .i64 4, .int .i64 2, .int .i64 2, .int .i64 2, .int .i64 1, .int .i64 1, .int .i64 1, .int .i64 1]
theorem binL_at : ∀ m, m < 12 → ∃ s l, binL[m]? = some (s, l, 6 + m) ∧ sgnRow[0 + m * 1]? = some (.str s) ∧ levRow[0 + m * 1]? = some (.int .i64 ((l : Nat) : Int))
  | 0, _ => ⟨_, _, rfl, rfl, rfl⟩
  | 1, _ => ⟨_, _, rfl, rfl, rfl⟩
  | 2, _ => ⟨_, _, rfl, rfl, rfl⟩
  | 3, _ => ⟨_, _, rfl, rfl, rfl⟩
  | 4, _ => ⟨_, _, rfl, rfl, rfl⟩
  | 5, _ => ⟨_, _, rfl, rfl, rfl⟩
  | 6, _ => ⟨_, _, rfl, rfl, rfl⟩
  | 7, _ => ⟨_, _, rfl, rfl, rfl⟩
  | 8, _ => ⟨_, _, rfl, rfl, rfl⟩
  | 9, _ => ⟨_, _, rfl, rfl, rfl⟩
  | 10, _ => ⟨_, _, rfl, rfl, rfl⟩
  | 11, _ => ⟨_, _, rfl, rfl, rfl⟩
  | n + 12, h => absurd h (by omega)

set_option maxHeartbeats 1000000 in
theorem sbinary_ok {X : List (List AV)} {a o : Nat} {t : Tk} {st : St} (ho : st.obj o = some (stC X a 0)) (ha : a < X.length) (hX : X[a]? = some (tokRow t)) :
    ACalls Tryd.prog 38 [.cptr o 3 0 0] st (fun v st' => v = .tuple [.int .i64 ((bin t).1 : Int), .int .i64 ((bin t).2 : Int)] ∧ st' = st) (fun _ _ => False) := by
  refine ACalls.ofBody Tryd.func38 rfl Tryd.ntmps38 rfl ?_
  repeat (first | refine nl ?_ | refine AWP.seq ?_ | refine rg ?_ | refine ZA (z := ?_))
  refine bda (cs := sgnRow) rfl rfl rfl rfl ?_
  repeat (first | refine nl ?_ | refine AWP.seq ?_ | refine rg ?_ | refine YA (z := ?_))
  refine bda (cs := levRow) rfl rfl rfl rfl ?_
  repeat (first | refine nl ?_ | refine AWP.seq ?_ | refine rg ?_ | refine AWP.block ?_ | refine ZA (z := ?_) | refine YA (z := ?_))
  refine AWP.loop (α := Nat) (fun i => [(6, .int .i64 (i : Int)), (5, .eptr 12 [levRow] 0 0), (4, .eptr 12 [sgnRow] 0 0), (0, .cptr o 3 0 0)]) (fun _ => st) (fun i => i ≤ 12 ∧ ∀ j x, j < i → binL[j]? = some x → sg t x.1 = false) (fun i => 12 - i) 0
    ⟨by omega, fun j x h => absurd h (by omega)⟩ (tl4 rfl rfl rfl rfl) (.refl _) ?_
  rintro i ⟨h1, h2⟩
  refine AWP.weaken (T' := [(6, .int .i64 (i : Int)), (5, .eptr 12 [levRow] 0 0), (4, .eptr 12 [sgnRow] 0 0), (0, .cptr o 3 0 0)]) (tl4 rfl rfl rfl rfl) (.refl _) ?_
  by_cases hi : i < 12
  · obtain ⟨s, l, q1, q2, q3⟩ := binL_at i hi
    repeat (first | refine nl ?_ | refine AWP.seq ?_ | refine rg ?_ | refine AWP.skip ?_ | refine AWP.block ?_ | refine YH (z := ?_) | refine ZA (z := ?_))
    refine ixa (m := i) rfl rfl rfl hi rfl ?_
    refine leS rfl rfl rfl rfl q2 ?_
    cases hb : sg t s with
    | true =>
      refine cle rfl rfl (sis_ok ho ha hX s true hb) ?_
      repeat (first | refine nl ?_ | refine AWP.seq ?_ | refine rg ?_ | refine YH (z := ?_) | refine ZA (z := ?_))
      refine ixa (m := i) rfl rfl rfl hi rfl ?_
      refine leS rfl rfl rfl rfl q3 ?_
      repeat (refine ZA (z := ?_))
      refine adn (a := 6) rfl rfl rfl (by omega) ?_
      repeat (first | refine nl ?_ | refine ZA (z := ?_))
      refine AWP.ret (rets rfl (.refl _) (.refl _) ⟨?_, rfl⟩)
      have hf : binL.find? (fun o => sg t o.1) = some (s, l, 6 + i) := find_at q1 h2 hb
      unfold bin
      rw [hf]
      rfl
    | false =>
      refine cle rfl rfl (sis_ok ho ha hX s false hb) ?_
      repeat (first | refine nl ?_ | refine rg ?_ | refine AWP.skip ?_ | refine YI (z := ?_) | refine ZA (z := ?_) | refine ZO (z := ?_))
      refine ⟨i + 1, ⟨by omega, fun j x hj hx => ?_⟩, by omega, (tl4 rfl rfl rfl rfl), .refl _⟩
      rcases Nat.lt_or_ge j i with hji | hji
      · exact h2 j x hji hx
      · have : j = i := by omega
        subst this
        rw [q1] at hx
        cases hx
        exact hb
  · repeat (first | refine nl ?_ | refine AWP.seq ?_ | refine rg ?_ | refine YI (z := ?_) | refine ZA (z := ?_))
    refine AWP.exit (blk_hit ?_)
    repeat (first | refine nl ?_ | refine AWP.seq ?_ | refine rg ?_ | refine ZA (z := ?_))
    refine AWP.ret (rets rfl (.refl _) (.refl _) ⟨?_, rfl⟩)
    have hf : binL.find? (fun o => sg t o.1) = none := find_no fun j x hj hx => h2 j x (by have : j < 12 := hj; omega) hx
    unfold bin
    rw [hf]
    rfl
end Go.Proofs
/- The reference's reader of expressions: an operand. No conditions: definitions and lemmas only. -/
namespace Go.Proofs
open Go.AM
attribute [local irreducible] AWP AOps ACalls AAny

/-- What a function of the reference's reader answers. -/
def SdR (ts : List Tk) (o : Nat) (st : St) (r : PR) (v : AV) (st' : St) : Prop :=
  ∃ (x : Xp) (a' e : Nat), v = .agg (xrow x) ∧ a' < ts.length ∧ st' = st.set o (stC (ts.map tokRow) a' e) ∧ ((e = 0 ∧ r = .ok (x, ts.drop a')) ∨ ((e = 5 ∨ e = 7) ∧ r = .error e))
def SOpn (ts : List Tk) (N : Nat) : Prop := ∀ (lv d a o : Nat) (st : St), 1 ≤ lv → lv ≤ 5 → d ≤ 9 → a < ts.length → ts.length - a ≤ N → st.obj o = some (stC (ts.map tokRow) a 0) →
  ACalls Tryd.prog 23 [.cptr o 3 0 0, .int .i64 (lv : Int), .int .i64 (d : Int)] st (SdR ts o st (qe lv d (ts.drop a))) (fun _ _ => False)
def SOpd (ts : List Tk) (N : Nat) : Prop := ∀ (d a o : Nat) (st : St), d ≤ 9 → a < ts.length → ts.length - a ≤ N → st.obj o = some (stC (ts.map tokRow) a 0) →
  ACalls Tryd.prog 37 [.cptr o 3 0 0, .int .i64 (d : Int)] st (SdR ts o st (qo d (ts.drop a))) (fun _ _ => False)

theorem skind_b {X : List (List AV)} {a o : Nat} {t : Tk} {st : St} (ho : st.obj o = some (stC X a 0)) (ha : a < X.length) (hX : X[a]? = some (tokRow t)) (k : Nat) (b : Bool) (hb : decide (t.kind = k) = b) :
    ACalls Tryd.prog 24 [.cptr o 3 0 0, .int .i64 (k : Int)] st (fun v st' => v = .bool b ∧ st' = st) (fun _ _ => False) := by
  subst hb
  exact skind_ok ho ha hX k

/-- What a nested expression and a sign behind it leave behind. -/
theorem sinner {ts : List Tk} (H : RdH ts) {d : Nat} {c : List UInt8} (f : Xp → Xp) {l : List Tk} {x : Xp} {a' e : Nat} (ha' : a' < ts.length) (hr : (e = 0 ∧ qe 1 (d + 1) l = .ok (x, ts.drop a')) ∨ ((e = 5 ∨ e = 7) ∧ qe 1 (d + 1) l = .error e)) (o : Nat) (st : St) :
    ∃ a2 e2, ACalls Tryd.prog 59 [.cptr o 3 0 0, .str c] (st.set o (stC (ts.map tokRow) a' e)) (fun _ st' => st' = st.set o (stC (ts.map tokRow) a2 e2)) (fun _ _ => False) ∧ a2 < ts.length ∧
      ((e2 = 0 ∧ inner d c f l = .ok (f x, ts.drop a2)) ∨ ((e2 = 5 ∨ e2 = 7) ∧ inner d c f l = .error e2)) := by
  rcases hr with ⟨rfl, hr⟩ | ⟨he, hr⟩
  · obtain ⟨t, t1, t2, t3, t4, t5⟩ := map_at ha'
    have hl : (ts.map tokRow).length ≤ 100000 := by rw [List.length_map]; exact H.len
    have h := stake_ok (St.obj_set st o (stC (ts.map tokRow) a' 0)) t4 t2 hl c
    rw [St.set_set] at h
    by_cases hs : sg t c = true
    · rw [if_pos hs] at h
      exact ⟨a' + 1, 0, h, H.last _ _ t1 (by rw [sg_kind hs]; decide), .inl ⟨rfl, by rw [inner_ok hr (by rw [t3]; exact hs), t5]⟩⟩
    · rw [if_neg hs] at h
      exact ⟨a', 7, h, ha', .inr ⟨.inr rfl, inner_no hr (by rw [t3]; exact hs)⟩⟩
  · exact ⟨a', e, stake_err (St.obj_set _ _ _) he c, ha', .inr ⟨he, inner_err hr⟩⟩

theorem sg_of {t : Tk} {s r : List UInt8} (h : t.kind = 4) (h2 : t.text = r) : sg t s = decide (r = s) := by
  unfold sg
  rw [h2]
  exact decide_eq_decide.2 ⟨fun k => k.2, fun k => ⟨h, k⟩⟩

set_option maxHeartbeats 4000000 in
theorem soperand_step {ts : List Tk} (H : RdH ts) {N : Nat} (hO : SOpn ts N) (hU : SOpd ts N) : SOpd ts (N + 1) := by
  intro d a o st hd9 ha hN ho
  refine ACalls.ofBody Tryd.func37 rfl Tryd.ntmps37 rfl ?_
  obtain ⟨t, t1, t2, t3, t4, t5⟩ := map_at ha
  have hl : (ts.map tokRow).length ≤ 100000 := by rw [List.length_map]; exact H.len
  repeat (refine AWP.seq ?_)
  refine rg ?_
  refine al rfl rfl fun o6 h6 => ?_
  have hne : o ≠ o6 := St.ne_of_new h6 ho
  have ho1 : ∀ c, (st.set o6 c).obj o = some (stC (ts.map tokRow) a 0) := fun c => St.obj_new h6 ho
  have hC : (st.set o6 (.cells 27 6 [exRow 0 0 [] [] nilV])).obj o = some (.cells 55 3 [[.view 4 (ts.map tokRow) .shared, .int .i64 (a : Int), .int .i64 0]]) := ho1 _
  repeat (first | refine nl ?_ | refine AWP.seq ?_ | refine rg ?_ | refine ZA (z := ?_))
  refine cle rfl rfl (skind_b (ho1 _) t4 t2 2 (decide (t.kind = 2)) rfl) ?_
  repeat (refine ZA (z := ?_))
  refine cle rfl rfl (skind_b (ho1 _) t4 t2 1 (decide (t.kind = 1)) rfl) ?_
  by_cases hb : beg t = true
  · have hk0 : t.kind ≠ 0 := by
      rcases beg_cases hb with h | h | ⟨h, _⟩ <;> rw [h] <;> decide
    have ha2 := H.last _ _ t1 hk0
    obtain ⟨u, u1, u2, u3, u4, u5⟩ := map_at ha2
    repeat (refine ZA (z := ?_))
    refine nl ?_
    refine AWP.seq ?_
    refine midk [(6, .bool (decide (t.kind = 1))), (5, .bool (decide (t.kind = 2))), (1, .int .i64 (d : Int)), (0, .cptr o 3 0 0), (4, .cptr o6 6 0 0)] (st.set o6 (.cells 27 6 [exRow 0 0 [] [] nilV])) ?_ ?_
    · rcases beg_cases hb with h | h | ⟨h, k⟩
      · rw [decide_eq_true h, decide_eq_false (show ¬ t.kind = 2 by omega)]
        repeat (first | refine nl ?_ | refine AWP.seq ?_ | refine rg ?_ | refine AWP.skip ?_ | refine YI (z := ?_) | refine ZA (z := ?_) | refine ZB (z := ?_))
        exact ⟨(tl5 rfl rfl rfl rfl rfl), .refl _⟩
      · rw [decide_eq_true h, decide_eq_false (show ¬ t.kind = 1 by omega)]
        repeat (first | refine nl ?_ | refine AWP.seq ?_ | refine rg ?_ | refine AWP.skip ?_ | refine YI (z := ?_) | refine ZA (z := ?_) | refine ZB (z := ?_))
        exact ⟨(tl5 rfl rfl rfl rfl rfl), .refl _⟩
      · rw [decide_eq_false (show ¬ t.kind = 1 by omega), decide_eq_false (show ¬ t.kind = 2 by omega)]
        repeat (first | refine AWP.seq ?_ | refine rg ?_ | refine ZA (z := ?_))
        rcases k with k | k | k
        · refine cle rfl rfl (sis_ok (ho1 _) t4 t2 [40] false (sg_of h k)) ?_
          repeat (refine ZA (z := ?_))
          refine cle rfl rfl (sis_ok (ho1 _) t4 t2 [45] true (sg_of h k)) ?_
          repeat (first | refine nl ?_ | refine AWP.skip ?_ | refine YI (z := ?_) | refine ZA (z := ?_) | refine ZB (z := ?_))
          exact ⟨(tl5 rfl rfl rfl rfl rfl), .refl _⟩
        · refine cle rfl rfl (sis_ok (ho1 _) t4 t2 [40] false (sg_of h k)) ?_
          repeat (refine ZA (z := ?_))
          refine cle rfl rfl (sis_ok (ho1 _) t4 t2 [45] false (sg_of h k)) ?_
          repeat (refine ZA (z := ?_))
          refine cle rfl rfl (sis_ok (ho1 _) t4 t2 [33] true (sg_of h k)) ?_
          repeat (first | refine nl ?_ | refine AWP.skip ?_ | refine YI (z := ?_) | refine ZA (z := ?_))
          exact ⟨(tl5 rfl rfl rfl rfl rfl), .refl _⟩
        · refine cle rfl rfl (sis_ok (ho1 _) t4 t2 [40] true (sg_of h k)) ?_
          repeat (first | refine nl ?_ | refine AWP.skip ?_ | refine YI (z := ?_) | refine ZA (z := ?_) | refine ZB (z := ?_))
          exact ⟨(tl5 rfl rfl rfl rfl rfl), .refl _⟩
    by_cases hd8 : 8 < d
    · have e0 : qo d (ts.drop a) = .error 5 := by
        rw [qo_eq, t3, if_pos hb, if_pos hd8]
      repeat (first | refine nl ?_ | refine AWP.seq ?_ | refine rg ?_ | refine YH (z := ?_) | refine ZA (z := ?_))
      refine cl rfl rfl (sfail_ok (ho1 _) 5) fun v st' hst => ?_
      subst hst
      repeat (first | refine nl ?_ | refine AWP.seq ?_ | refine rg ?_)
      refine bds (cs := exRow 0 0 [] [] nilV) rfl rfl rfl rfl ?_
      refine so (rows' := [exRow 0 0 [] [] nilV]) rfl rfl rfl (St.obj_under hne _ _) rfl rfl rfl rfl rfl ?_
      repeat (refine nl ?_)
      exact AWP.ret (rets (resCW rfl (St.obj_set _ _ _) rfl rfl rfl rfl) (ex_nil _ _ _ _) (StLe.res h6 hne) ⟨.lit 0, a, 5, rfl, ha, rfl, .inr ⟨.inl rfl, e0⟩⟩)
    repeat (first | refine nl ?_ | refine AWP.seq ?_ | refine rg ?_ | refine AWP.skip ?_ | refine YI (z := ?_) | refine ZA (z := ?_))
    refine AWP.draw rfl 11 10 (fun v s => ∃ o7, v = .cptr o7 4 0 0 ∧ (st.set o6 (.cells 27 6 [exRow 0 0 [] [] nilV])).obj o7 = none ∧ s = (st.set o6 (.cells 27 6 [exRow 0 0 [] [] nilV])).set o7 (.cells 51 4 [tokRow ⟨0, 0, [], 0⟩])) rfl ?_
    repeat (first | refine ds rfl rfl ?_ | refine dp (h := fun _ _ => ZD (z := nz)) (z := ?_) | refine dp (h := fun _ _ => ZC (z := nz)) (z := ?_) | refine dp (h := fun _ _ => ZM (z := nz)) (z := ?_) | refine dp (h := fun _ _ => ZH (z := nz)) (z := ?_))
    refine de rfl rfl rfl ?_ ?_
    · exact al rfl rfl fun o7 h7 => nl ⟨_, rfl, ⟨o7, rfl, h7, rfl⟩, ⟨fun x c hx => St.obj_new h7 hx, fun _ h => (by cases h), rfl⟩⟩
    refine dn ⟨fun h => absurd h (by decide), fun _ => ?_⟩
    rintro v s1 d7 hd7 ⟨o7, rfl, h7, rfl⟩
    cases hd7
    refine soV rfl rfl rfl rfl rfl rfl ?_
    refine AOps.fz 7 rfl h7 ?_
    repeat (first | refine nl ?_ | refine AWP.seq ?_ | refine rg ?_ | refine ZA (z := ?_) | refine ZC (z := ?_) | refine ZH (z := ?_) | refine ZO (z := ?_))
    refine so (rows' := [[.view 4 (ts.map tokRow) .shared, .int .i64 ((a + 1 : Nat) : Int), .int .i64 0]]) rfl rfl rfl (ho1 _) rfl rfl rfl rfl rfl ?_
    have hS : ∀ a b c, (((st.set o6 b).set o (AObj.cells 55 3 [[.view 4 (ts.map tokRow) .shared, .int .i64 ((a : Nat) : Int), .int .i64 0]])).set o c) = (st.set o6 b).set o c := fun _ _ _ => St.set_set ..
    by_cases hk2 : t.kind = 2
    · have e0 : qo d (ts.drop a) = .ok (.lit t.num, ts.drop (a + 1)) := by
        rw [qo_eq, t3, if_pos hb, if_neg hd8, if_pos hk2, t5]
      rw [decide_eq_true hk2]
      repeat (first | refine nl ?_ | refine AWP.seq ?_ | refine rg ?_ | refine AWP.block ?_ | refine YH (z := ?_) | refine ZA (z := ?_) | refine ZC (z := ?_) | refine ZF (z := ?_))
      refine bds (cs := exRow 0 t.num [] [] nilV) rfl rfl rfl rfl ?_
      refine so (rows' := [exRow 0 t.num [] [] nilV]) rfl rfl rfl (St.obj_under hne _ _) rfl rfl rfl rfl rfl ?_
      repeat (refine nl ?_)
      exact AWP.ret (rets (resCW rfl (St.obj_set _ _ _) rfl rfl rfl rfl) (ex_nil _ _ _ _) (StLe.res h6 hne) ⟨.lit t.num, a + 1, 0, rfl, ha2, rfl, .inl ⟨rfl, e0⟩⟩)
    rw [decide_eq_false hk2]
    by_cases hk1 : t.kind = 1
    · have e0 : qo d (ts.drop a) = tg d t.text (ts.drop (a + 1)) := by
        rw [qo_eq, t3, if_pos hb, if_neg hd8, if_neg hk2, if_pos hk1, t5]
        rfl
      rw [decide_eq_true hk1]
      repeat (first | refine nl ?_ | refine AWP.seq ?_ | refine rg ?_ | refine AWP.block ?_ | refine YI (z := ?_) | refine ZA (z := ?_))
      cases h1 : sg u [46] with
      | true =>
        have ha3 := H.last _ _ u1 (by rw [sg_kind h1]; decide)
        obtain ⟨w, w1, w2, w3, w4, w5⟩ := map_at ha3
        have e1 : tg d t.text (ts.drop (a + 1)) = if w.kind = 1 then .ok (.fld t.text w.text, ts.drop (a + 1 + 1 + 1)) else .error 7 := by
          rw [tg, u3, if_pos h1, u5, w3, w5]
        refine cle rfl rfl (sis_ok (St.obj_set _ _ _) u4 u2 [46] true h1) ?_
        repeat (first | refine nl ?_ | refine AWP.seq ?_ | refine rg ?_ | refine YH (z := ?_) | refine ZA (z := ?_) | refine ZC (z := ?_) | refine ZH (z := ?_) | refine ZO (z := ?_))
        refine so (rows' := [[.view 4 (ts.map tokRow) .shared, .int .i64 ((a + 1 + 1 : Nat) : Int), .int .i64 0]]) rfl rfl rfl (St.obj_set _ _ _) rfl rfl rfl rfl rfl ?_
        rw [hS]
        repeat (first | refine nl ?_ | refine AWP.seq ?_ | refine rg ?_ | refine ZA (z := ?_))
        by_cases hk : w.kind = 1
        · rw [if_pos hk] at e1
          have ha4 := H.last _ _ w1 (by rw [hk]; decide)
          refine cle rfl rfl (skind_b (St.obj_set _ _ _) w4 w2 1 true (decide_eq_true hk)) ?_
          repeat (first | refine nl ?_ | refine AWP.seq ?_ | refine rg ?_ | refine AWP.skip ?_ | refine YI (z := ?_) | refine ZA (z := ?_) | refine ZC (z := ?_) | refine ZH (z := ?_) | refine ZO (z := ?_))
          refine so (rows' := [[.view 4 (ts.map tokRow) .shared, .int .i64 ((a + 1 + 1 + 1 : Nat) : Int), .int .i64 0]]) rfl rfl rfl (St.obj_set _ _ _) rfl rfl rfl rfl rfl ?_
          rw [hS]
          repeat (first | refine nl ?_ | refine AWP.seq ?_)
          refine AWP.draw rfl 15 15 (fun _ _ => False) rfl ?_
          repeat (first | refine ds rfl rfl ?_ | refine dp (h := fun _ _ => ZF (z := nz)) (z := ?_) | refine dp (h := fun _ _ => ZC (z := nz)) (z := ?_) | refine dp (h := fun _ _ => ZH (z := nz)) (z := ?_) | refine dp (h := fun _ _ => YK (z := nz)) (z := ?_))
          refine dq rfl rfl rfl (fun st1 hle => ix (m := a + 1 + 1) rfl rfl rfl (by omega) w4 (nl ⟨_, rfl, rfl, rfl⟩)) ?_
          repeat (first | refine dp (h := fun _ _ => ZF (z := nz)) (z := ?_) | refine dp (h := fun _ _ => ZC (z := nz)) (z := ?_))
          refine dp (h := fun _ _ => bds (cs := exRow 2 0 t.text w.text nilV) rfl rfl rfl rfl nz) (z := ?_)
          refine dn ⟨fun _ => ?_, fun h => absurd h (by decide)⟩
          refine so (rows' := [exRow 2 0 t.text w.text nilV]) rfl rfl rfl (St.obj_under hne _ _) rfl rfl rfl rfl rfl ?_
          repeat (refine nl ?_)
          exact AWP.ret (rets (resCW rfl (St.obj_set _ _ _) rfl rfl rfl rfl) (ex_nil _ _ _ _) (StLe.res h6 hne) ⟨.fld t.text w.text, a + 1 + 1 + 1, 0, rfl, ha4, rfl, .inl ⟨rfl, by rw [e0]; exact e1⟩⟩)
        · rw [if_neg hk] at e1
          refine cle rfl rfl (skind_b (St.obj_set _ _ _) w4 w2 1 false (decide_eq_false hk)) ?_
          repeat (first | refine nl ?_ | refine AWP.seq ?_ | refine rg ?_ | refine YH (z := ?_) | refine ZA (z := ?_))
          refine cl rfl rfl (sfail_ok (St.obj_set _ _ _) 7) fun v st' hst => ?_
          subst hst
          rw [St.set_set]
          repeat (first | refine nl ?_ | refine AWP.seq ?_ | refine rg ?_)
          refine bds (cs := exRow 0 0 [] [] nilV) rfl rfl rfl rfl ?_
          refine so (rows' := [exRow 0 0 [] [] nilV]) rfl rfl rfl (St.obj_under hne _ _) rfl rfl rfl rfl rfl ?_
          repeat (refine nl ?_)
          exact AWP.ret (rets (resCW rfl (St.obj_set _ _ _) rfl rfl rfl rfl) (ex_nil _ _ _ _) (StLe.res h6 hne) ⟨.lit 0, a + 1 + 1, 7, rfl, ha3, rfl, .inr ⟨.inr rfl, by rw [e0]; exact e1⟩⟩)
      | false =>
        refine cle rfl rfl (sis_ok (St.obj_set _ _ _) u4 u2 [46] false h1) ?_
        repeat (first | refine nl ?_ | refine AWP.seq ?_ | refine rg ?_ | refine YI (z := ?_) | refine ZA (z := ?_))
        cases h2 : sg u [91] with
        | true =>
          have ha3 := H.last _ _ u1 (by rw [sg_kind h2]; decide)
          have e1 : tg d t.text (ts.drop (a + 1)) = inner d [93] (.elt t.text) (ts.drop (a + 1 + 1)) := by
            rw [tg, u3, h1, if_neg (by decide), if_pos h2, u5]
            rfl
          refine cle rfl rfl (sis_ok (St.obj_set _ _ _) u4 u2 [91] true h2) ?_
          repeat (first | refine nl ?_ | refine AWP.seq ?_ | refine rg ?_ | refine YH (z := ?_) | refine ZA (z := ?_) | refine ZC (z := ?_) | refine ZH (z := ?_) | refine ZO (z := ?_))
          refine so (rows' := [[.view 4 (ts.map tokRow) .shared, .int .i64 ((a + 1 + 1 : Nat) : Int), .int .i64 0]]) rfl rfl rfl (St.obj_set _ _ _) rfl rfl rfl rfl rfl ?_
          rw [hS]
          repeat (first | refine nl ?_ | refine AWP.seq ?_ | refine rg ?_ | refine ZA (z := ?_) | refine ZO (z := ?_))
          refine cl rfl rfl (hO 1 (d + 1) (a + 1 + 1) o _ (by decide) (by decide) (by omega) ha3 (by omega) (St.obj_set _ _ _)) fun v st' ⟨x, a', e, hv, ha', hst, hr⟩ => ?_
          subst hv
          subst hst
          rw [hS]
          obtain ⟨op, num, name, field, args, hx⟩ := xrow_ex x
          rw [hx]
          repeat (first | refine nl ?_ | refine AWP.seq ?_ | refine rg ?_ | refine ZA (z := ?_) | refine YA (z := ?_))
          obtain ⟨a2, e2, hc, ha2', hr2⟩ := sinner H (c := [93]) (.elt t.text) ha' hr o (st.set o6 (.cells 27 6 [exRow 0 0 [] [] nilV]))
          refine cl rfl rfl hc fun v st' hst => ?_
          subst hst
          repeat (first | refine nl ?_ | refine AWP.seq ?_ | refine rg ?_ | refine ZC (z := ?_) | refine ZD (z := ?_) | refine ZF (z := ?_) | refine ZQ (z := ?_))
          refine bds (cs := exRow 3 0 t.text [] (.view 6 [exRow op num name field (.view 6 args .shared)] .shared)) rfl rfl rfl rfl ?_
          refine so (rows' := [exRow 3 0 t.text [] (.view 6 [exRow op num name field (.view 6 args .shared)] .shared)]) rfl rfl rfl (St.obj_under hne _ _) rfl rfl rfl rfl rfl ?_
          repeat (refine nl ?_)
          refine AWP.ret (rets (resCW rfl (St.obj_set _ _ _) rfl rfl rfl rfl) (.refl _) (StLe.res h6 hne) ⟨.elt t.text x, a2, e2, ?_, ha2', rfl, ?_⟩)
          · rw [← hx]
            rfl
          · rw [e0, e1]
            exact hr2
        | false =>
          have e1 : tg d t.text (ts.drop (a + 1)) = .ok (.var t.text, ts.drop (a + 1)) := by
            rw [tg, u3, h1, if_neg (by decide), h2, if_neg (by decide)]
          refine cle rfl rfl (sis_ok (St.obj_set _ _ _) u4 u2 [91] false h2) ?_
          repeat (first | refine nl ?_ | refine AWP.seq ?_ | refine rg ?_ | refine YH (z := ?_) | refine YI (z := ?_) | refine ZA (z := ?_) | refine ZC (z := ?_) | refine ZF (z := ?_))
          refine bds (cs := exRow 1 0 t.text [] nilV) rfl rfl rfl rfl ?_
          refine so (rows' := [exRow 1 0 t.text [] nilV]) rfl rfl rfl (St.obj_under hne _ _) rfl rfl rfl rfl rfl ?_
          repeat (refine nl ?_)
          exact AWP.ret (rets (resCW rfl (St.obj_set _ _ _) rfl rfl rfl rfl) (ex_nil _ _ _ _) (StLe.res h6 hne) ⟨.var t.text, a + 1, 0, rfl, ha2, rfl, .inl ⟨rfl, by rw [e0]; exact e1⟩⟩)
    rw [decide_eq_false hk1]
    have htx : t.text = [45] ∨ t.text = [33] ∨ t.text = [40] := by
      rcases beg_cases hb with h | h | ⟨_, h⟩
      · exact absurd h hk1
      · exact absurd h hk2
      · exact h
    have e0 : qo d (ts.drop a) = if t.text = [40] then inner d [41] id (ts.drop (a + 1)) else match qo (d + 1) (ts.drop (a + 1)) with
        | .error e => .error e
        | .ok (x, r) => .ok (.una (if t.text = [45] then 4 else 5) x, r) := by
      rw [qo_eq, t3, if_pos hb, if_neg hd8, if_neg hk2, if_neg hk1, t5]
      rfl
    rcases htx with htx | htx | htx
    · rw [htx, if_neg (by decide), if_pos rfl] at e0
      have n1 : ¬ t.text = [40] := by rw [htx]; decide
      repeat (first | refine nl ?_ | refine AWP.seq ?_ | refine rg ?_ | refine AWP.block ?_ | refine YH (z := ?_) | refine YI (z := ?_) | refine ZA (z := ?_) | refine ZB (z := ?_) | refine ZC (z := ?_) | refine ZF (z := ?_) | refine ZO (z := ?_))
      refine cl rfl rfl (hU (d + 1) (a + 1) o _ (by omega) ha2 (by omega) (St.obj_set _ _ _)) fun v st' ⟨x, a', e, hv, ha', hst, hr⟩ => ?_
      subst hv
      subst hst
      rw [hS]
      obtain ⟨op, num, name, field, args, hx⟩ := xrow_ex x
      rw [hx]
      repeat (refine ZQ (z := ?_))
      refine bds (cs := exRow 4 0 [] [] (.view 6 [exRow op num name field (.view 6 args .shared)] .shared)) rfl rfl rfl rfl ?_
      refine so (rows' := [exRow 4 0 [] [] (.view 6 [exRow op num name field (.view 6 args .shared)] .shared)]) rfl rfl rfl (St.obj_under hne _ _) rfl rfl rfl rfl rfl ?_
      repeat (refine nl ?_)
      refine AWP.ret (rets (resCW rfl (St.obj_set _ _ _) rfl rfl rfl rfl) (.refl _) (StLe.res h6 hne) ⟨.una 4 x, a', e, ?_, ha', rfl, ?_⟩)
      · rw [← hx]
        rfl
      · rw [e0]
        rcases hr with ⟨h1, h2⟩ | ⟨h1, h2⟩
        · exact .inl ⟨h1, by rw [h2]⟩
        · exact .inr ⟨h1, by rw [h2]⟩
    · rw [htx, if_neg (by decide), if_neg (by decide)] at e0
      have n1 : ¬ t.text = [40] := by rw [htx]; decide
      have n2 : ¬ t.text = [45] := by rw [htx]; decide
      repeat (first | refine nl ?_ | refine AWP.seq ?_ | refine rg ?_ | refine AWP.skip ?_ | refine AWP.block ?_ | refine YI (z := ?_) | refine ZA (z := ?_) | refine ZB (z := ?_) | refine ZC (z := ?_) | refine ZF (z := ?_) | refine ZO (z := ?_))
      refine cl rfl rfl (hU (d + 1) (a + 1) o _ (by omega) ha2 (by omega) (St.obj_set _ _ _)) fun v st' ⟨x, a', e, hv, ha', hst, hr⟩ => ?_
      subst hv
      subst hst
      rw [hS]
      obtain ⟨op, num, name, field, args, hx⟩ := xrow_ex x
      rw [hx]
      repeat (refine ZQ (z := ?_))
      refine bds (cs := exRow 5 0 [] [] (.view 6 [exRow op num name field (.view 6 args .shared)] .shared)) rfl rfl rfl rfl ?_
      refine so (rows' := [exRow 5 0 [] [] (.view 6 [exRow op num name field (.view 6 args .shared)] .shared)]) rfl rfl rfl (St.obj_under hne _ _) rfl rfl rfl rfl rfl ?_
      repeat (refine nl ?_)
      refine AWP.ret (rets (resCW rfl (St.obj_set _ _ _) rfl rfl rfl rfl) (.refl _) (StLe.res h6 hne) ⟨.una 5 x, a', e, ?_, ha', rfl, ?_⟩)
      · rw [← hx]
        rfl
      · rw [e0]
        rcases hr with ⟨h1, h2⟩ | ⟨h1, h2⟩
        · exact .inl ⟨h1, by rw [h2]⟩
        · exact .inr ⟨h1, by rw [h2]⟩
    · rw [htx, if_pos rfl] at e0
      repeat (first | refine nl ?_ | refine AWP.seq ?_ | refine rg ?_ | refine AWP.block ?_ | refine YH (z := ?_) | refine YI (z := ?_) | refine ZA (z := ?_) | refine ZB (z := ?_) | refine ZC (z := ?_) | refine ZF (z := ?_) | refine ZO (z := ?_))
      refine cl rfl rfl (hO 1 (d + 1) (a + 1) o _ (by decide) (by decide) (by omega) ha2 (by omega) (St.obj_set _ _ _)) fun v st' ⟨x, a', e, hv, ha', hst, hr⟩ => ?_
      subst hv
      subst hst
      rw [hS]
      obtain ⟨op, num, name, field, args, hx⟩ := xrow_ex x
      rw [hx]
      repeat (first | refine nl ?_ | refine AWP.seq ?_ | refine rg ?_ | refine ZA (z := ?_) | refine YA (z := ?_))
      obtain ⟨a2, e2, hc, ha2', hr2⟩ := sinner H (c := [41]) id ha' hr o (st.set o6 (.cells 27 6 [exRow 0 0 [] [] nilV]))
      refine cl rfl rfl hc fun v st' hst => ?_
      subst hst
      repeat (first | refine nl ?_ | refine AWP.seq ?_ | refine rg ?_ | refine ZD (z := ?_))
      refine so (rows' := [exRow op num name field (.view 6 args .shared)]) rfl rfl rfl (St.obj_under hne _ _) rfl rfl rfl rfl rfl ?_
      repeat (refine nl ?_)
      refine AWP.ret (rets (resCW rfl (St.obj_set _ _ _) rfl rfl rfl rfl) (.refl _) (StLe.res h6 hne) ⟨x, a2, e2, ?_, ha2', rfl, ?_⟩)
      · rw [hx]
        rfl
      · rw [e0]
        exact hr2
  · have e0 : qo d (ts.drop a) = .error 7 := by
      rw [qo_eq, t3, if_neg hb]
    have hb' : t.kind ≠ 1 ∧ t.kind ≠ 2 ∧ sg t [45] = false ∧ sg t [33] = false ∧ sg t [40] = false := by
      unfold beg at hb
      simp only [Bool.or_eq_true, decide_eq_true_eq, not_or, Bool.not_eq_true] at hb
      exact ⟨hb.1.1.1.1, hb.1.1.1.2, hb.1.1.2, hb.1.2, hb.2⟩
    rw [decide_eq_false hb'.1, decide_eq_false hb'.2.1]
    repeat (first | refine nl ?_ | refine AWP.seq ?_ | refine rg ?_ | refine ZA (z := ?_))
    refine cle rfl rfl (sis_ok (ho1 _) t4 t2 [40] false hb'.2.2.2.2) ?_
    repeat (refine ZA (z := ?_))
    refine cle rfl rfl (sis_ok (ho1 _) t4 t2 [45] false hb'.2.2.1) ?_
    repeat (refine ZA (z := ?_))
    refine cle rfl rfl (sis_ok (ho1 _) t4 t2 [33] false hb'.2.2.2.1) ?_
    repeat (first | refine nl ?_ | refine AWP.seq ?_ | refine rg ?_ | refine YH (z := ?_) | refine ZA (z := ?_))
    refine cl rfl rfl (sfail_ok (ho1 _) 7) fun v st' hst => ?_
    subst hst
    repeat (first | refine nl ?_ | refine AWP.seq ?_ | refine rg ?_)
    refine bds (cs := exRow 0 0 [] [] nilV) rfl rfl rfl rfl ?_
    refine so (rows' := [exRow 0 0 [] [] nilV]) rfl rfl rfl (St.obj_under hne _ _) rfl rfl rfl rfl rfl ?_
    repeat (refine nl ?_)
    exact AWP.ret (rets (resCW rfl (St.obj_set _ _ _) rfl rfl rfl rfl) (ex_nil _ _ _ _) (StLe.res h6 hne) ⟨.lit 0, a, 7, rfl, ha, rfl, .inr ⟨.inr rfl, e0⟩⟩)
end Go.Proofs
/- The reference's reader of expressions: operations. No conditions: definitions and lemmas only. -/
namespace Go.Proofs
open Go.AM
attribute [local irreducible] AWP AOps ACalls AAny

set_option maxHeartbeats 2000000 in
theorem soperation_step {ts : List Tk} (H : RdH ts) {N : Nat} (hU : SOpd ts (N + 1)) : SOpn ts (N + 1) := by
  have key : ∀ j lv : Nat, lv + j = 5 → ∀ (d a o : Nat) (st : St), 1 ≤ lv → d ≤ 9 → a < ts.length → ts.length - a ≤ N + 1 → st.obj o = some (stC (ts.map tokRow) a 0) →
      ACalls Tryd.prog 23 [.cptr o 3 0 0, .int .i64 (lv : Int), .int .i64 (d : Int)] st (SdR ts o st (qe lv d (ts.drop a))) (fun _ _ => False) := by
    intro j
    induction j with
    | zero =>
      intro lv hlv d a o st h1 hd8 ha hN ho
      have hlv : lv = 5 := by omega
      subst hlv
      refine ACalls.ofBody Tryd.func23 rfl Tryd.ntmps23 rfl ?_
      repeat (refine AWP.seq ?_)
      refine rg ?_
      refine al rfl rfl fun o6 h6 => ?_
      have hne : o ≠ o6 := St.ne_of_new h6 ho
      have ho1 : ∀ c, (st.set o6 c).obj o = some (stC (ts.map tokRow) a 0) := fun c => St.obj_new h6 ho
      repeat (first | refine nl ?_ | refine AWP.seq ?_ | refine rg ?_ | refine YH (z := ?_) | refine ZA (z := ?_))
      refine cl rfl rfl (hU d a o _ hd8 ha hN (ho1 _)) fun v st' ⟨x, a', e, hv, ha', hst, hr⟩ => ?_
      subst hv
      subst hst
      obtain ⟨op, num, name, field, args, hx⟩ := xrow_ex x
      rw [hx]
      refine so (rows' := [exRow op num name field (.view 6 args .shared)]) rfl rfl rfl (St.obj_under hne _ _) rfl rfl rfl rfl rfl ?_
      repeat (refine nl ?_)
      exact AWP.ret (rets (resCW rfl (St.obj_set _ _ _) rfl rfl rfl rfl) (.refl _) (StLe.res h6 hne) ⟨x, a', e, by rw [hx]; rfl, ha', rfl, by rw [qe_5]; exact hr⟩)
    | succ j ih =>
      intro lv hlv d a o st h1 hd8 ha hN ho
      have ih := ih (lv + 1) (by omega)
      have h4 : lv ≤ 4 := by omega
      have hl : (ts.map tokRow).length ≤ 100000 := by rw [List.length_map]; exact H.len
      refine ACalls.ofBody Tryd.func23 rfl Tryd.ntmps23 rfl ?_
      repeat (refine AWP.seq ?_)
      refine rg ?_
      refine al rfl rfl fun o6 h6 => ?_
      have hne : o ≠ o6 := St.ne_of_new h6 ho
      have ho1 : ∀ c, (st.set o6 c).obj o = some (stC (ts.map tokRow) a 0) := fun c => St.obj_new h6 ho
      repeat (first | refine nl ?_ | refine AWP.seq ?_ | refine rg ?_ | refine AWP.skip ?_ | refine YI (z := ?_) | refine ZA (z := ?_) | refine ZO (z := ?_))
      refine cl rfl rfl (ih d a o _ (by omega) hd8 ha hN (ho1 _)) fun v st' ⟨x, a', e, hv, ha', hst, hr⟩ => ?_
      subst hv
      subst hst
      refine al rfl rfl fun o7 h7 => ?_
      have n7 : o7 ≠ o := fun e => by subst e; rw [St.obj_set] at h7; cases h7
      rw [St.obj_set_ne n7] at h7
      have n76 : o7 ≠ o6 := fun e => by subst e; rw [St.obj_set] at h7; cases h7
      rw [St.obj_set_ne n76] at h7
      obtain ⟨op, num, name, field, args, hx⟩ := xrow_ex x
      rw [hx]
      refine soV rfl rfl rfl rfl rfl rfl ?_
      repeat (first | refine nl ?_ | refine AWP.seq ?_ | refine AWP.block ?_)
      refine AWP.loop (α := Xp × Nat × Nat) (fun _ => [(7, .cptr o7 6 0 0), (6, .cptr o6 6 0 0), (2, .int .i64 (d : Int)), (1, .int .i64 (lv : Int)), (0, .cptr o 3 0 0)])
        (fun y => ((st.set o6 (.cells 27 6 [exRow 0 0 [] [] nilV])).set o (stC (ts.map tokRow) y.2.1 y.2.2)).set o7 (.cells 27 6 [xrow y.1]))
        (fun y => y.2.1 < ts.length ∧ ((y.2.2 = 0 ∧ a ≤ y.2.1 ∧ qe lv d (ts.drop a) = ql lv d y.1 (ts.drop y.2.1)) ∨ ((y.2.2 = 5 ∨ y.2.2 = 7) ∧ qe lv d (ts.drop a) = .error y.2.2)))
        (fun y => if y.2.2 = 0 then ts.length - y.2.1 + 1 else 0) (x, a', e) ⟨ha', ?_⟩ (tl5 rfl rfl rfl rfl rfl) (by rw [hx]; exact .refl _) ?_
      · rcases hr with ⟨k1, k2⟩ | ⟨k1, k2⟩
        · exact .inl ⟨k1, Nat.le_of_lt (drop_lt ha (qe_lt_len (by omega) (by omega) k2)), by rw [qe_lt h1 h4, k2]⟩
        · exact .inr ⟨k1, by rw [qe_lt h1 h4, k2]⟩
      clear hr hx op num name field args ha'
      rintro ⟨x, a', e⟩ ⟨ha', hr⟩
      simp only at ha' hr
      obtain ⟨op, num, name, field, args, hx⟩ := xrow_ex x
      rw [hx]
      refine AWP.weaken (T' := [(7, .cptr o7 6 0 0), (6, .cptr o6 6 0 0), (2, .int .i64 (d : Int)), (1, .int .i64 (lv : Int)), (0, .cptr o 3 0 0)]) (tl5 rfl rfl rfl rfl rfl) (.refl _) ?_
      have hC : ∀ c, (((st.set o6 (.cells 27 6 [exRow 0 0 [] [] nilV])).set o (stC (ts.map tokRow) a' e)).set o7 c).obj o = some (.cells 55 3 [[.view 4 (ts.map tokRow) .shared, .int .i64 (a' : Int), .int .i64 (e : Int)]]) := fun c => St.obj_under n7 _ _
      have hC0 := hC (.cells 27 6 [exRow op num name field (.view 6 args .shared)])
      obtain ⟨t, t1, t2, t3, t4, t5⟩ := map_at ha'
      by_cases he : e = 0
      · subst he
        have hr : a ≤ a' ∧ qe lv d (ts.drop a) = ql lv d x (ts.drop a') := by
          rcases hr with h | h
          · exact h.2
          · exact absurd h.1 (by decide)
        obtain ⟨haa, hr⟩ := hr
        rw [ql_eq h1 h4, t3, t5] at hr
        repeat (first | refine nl ?_ | refine AWP.seq ?_ | refine rg ?_ | refine AWP.skip ?_ | refine AWP.block ?_ | refine YH (z := ?_) | refine ZA (z := ?_) | refine ZC (z := ?_) | refine ZH (z := ?_))
        refine cle rfl rfl (sbinary_ok (hC _) t4 t2) ?_
        by_cases hb : (bin t).1 = lv
        · rw [if_pos hb] at hr
          have hb' : ((bin t).1 : Int) = (lv : Int) := by omega
          have hk : t.kind ≠ 0 := by
            intro h0
            have : (bin t).1 = 0 := by
              unfold bin binL sg
              simp [h0]
            omega
          have ha2 := H.last _ _ t1 hk
          generalize (bin t).1 = bl1 at hb' hb
          generalize (bin t).2 = bop at hr
          repeat (first | refine nl ?_ | refine AWP.seq ?_ | refine rg ?_ | refine AWP.skip ?_ | refine YI (z := ?_) | refine ZA (z := ?_) | refine ZC (z := ?_) | refine ZH (z := ?_) | refine ZO (z := ?_))
          refine so (rows' := [[.view 4 (ts.map tokRow) .shared, .int .i64 ((a' + 1 : Nat) : Int), .int .i64 0]]) rfl rfl rfl (hC _) rfl rfl rfl rfl rfl ?_
          rw [St.set_inner n7]
          repeat (first | refine nl ?_ | refine AWP.seq ?_ | refine rg ?_ | refine ZA (z := ?_) | refine ZO (z := ?_))
          refine cl rfl rfl (ih d (a' + 1) o _ (by omega) hd8 ha2 (by omega) (St.obj_under n7 _ _)) fun v st' ⟨y, a2, e2, hv, ha2', hst, hr2⟩ => ?_
          subst hv
          subst hst
          rw [St.set_inner n7]
          obtain ⟨op2, num2, name2, field2, args2, hy⟩ := xrow_ex y
          rw [hy]
          repeat (first | refine nl ?_ | refine AWP.seq ?_ | refine rg ?_ | refine ZA (z := ?_) | refine ZD (z := ?_) | refine ZE (z := ?_) | refine YA (z := ?_))
          refine bsh (cs := exRow op num name field (.view 6 args .shared) ++ exRow op2 num2 name2 field2 (.view 6 args2 .shared)) rfl rfl rfl rfl rfl ?_
          refine bds (cs := exRow bop 0 [] [] (.view 6 [exRow op num name field (.view 6 args .shared), exRow op2 num2 name2 field2 (.view 6 args2 .shared)] .shared)) rfl rfl rfl rfl ?_
          refine soV rfl rfl rfl rfl rfl rfl ?_
          repeat (first | refine nl ?_ | refine AWP.seq ?_ | refine rg ?_ | refine ZA (z := ?_))
          by_cases hl1 : lv = 1
          · have hl1' : (lv : Int) = 1 := by omega
            repeat (refine YH (z := ?_))
            refine AWP.exit (blk_miss rfl (blk_hit ?_))
            repeat (first | refine AWP.seq ?_ | refine rg ?_ | refine ZE (z := ?_))
            refine so (rows' := [exRow bop 0 [] [] (.view 6 [exRow op num name field (.view 6 args .shared), exRow op2 num2 name2 field2 (.view 6 args2 .shared)] .shared)]) rfl rfl rfl (by rw [St.obj_set_ne (Ne.symm n76), St.obj_set_ne (Ne.symm hne)]; exact St.obj_set _ _ _) rfl rfl rfl rfl rfl ?_
            repeat (refine nl ?_)
            refine AWP.ret (rets (resCW rfl (St.obj_set _ _ _) rfl rfl rfl rfl) (.refl _) (StLe.res2 h6 hne h7 n76 n7) ⟨.bin bop x y, a2, e2, ?_, ha2', rfl, ?_⟩)
            · rw [xrow, hx, hy]
              rfl
            · rw [hr]
              rcases hr2 with ⟨k1, k2⟩ | ⟨k1, k2⟩
              · exact .inl ⟨k1, by rw [k2]; simp only; rw [if_pos hl1]⟩
              · exact .inr ⟨k1, by rw [k2]⟩
          · have hl1' : ¬ (lv : Int) = 1 := by omega
            repeat (first | refine AWP.skip ?_ | refine YI (z := ?_))
            refine ⟨(.bin bop x y, a2, e2), ⟨ha2', ?_⟩, ?_, (tl5 rfl rfl rfl rfl rfl), ?_⟩
            · rcases hr2 with ⟨k1, k2⟩ | ⟨k1, k2⟩
              · have := drop_lt ha2 (qe_lt_len (by omega) (by omega) k2)
                exact .inl ⟨k1, by simp only; omega, by rw [hr, k2]; simp only; rw [if_neg hl1]⟩
              · exact .inr ⟨k1, by rw [hr, k2]⟩
            · simp only [if_true]
              rcases hr2 with ⟨k1, k2⟩ | ⟨k1, k2⟩
              · have := drop_lt ha2 (qe_lt_len (by omega) (by omega) k2)
                rw [if_pos k1]
                omega
              · rw [if_neg (by omega)]
                omega
            · rw [xrow, hx, hy]
              exact .refl _
        · rw [if_neg hb] at hr
          have hb' : ¬ ((bin t).1 : Int) = (lv : Int) := by omega
          repeat (first | refine nl ?_ | refine AWP.seq ?_ | refine rg ?_ | refine YH (z := ?_) | refine ZA (z := ?_))
          refine AWP.exit (blk_miss rfl (blk_hit ?_))
          repeat (first | refine AWP.seq ?_ | refine rg ?_ | refine ZE (z := ?_))
          refine so (rows' := [exRow op num name field (.view 6 args .shared)]) rfl rfl rfl (by rw [St.obj_set_ne (Ne.symm n76), St.obj_set_ne (Ne.symm hne)]; exact St.obj_set _ _ _) rfl rfl rfl rfl rfl ?_
          repeat (refine nl ?_)
          refine AWP.ret (rets (resCW rfl (St.obj_set _ _ _) rfl rfl rfl rfl) (.refl _) (StLe.res2 h6 hne h7 n76 n7) ⟨x, a', 0, ?_, ha', rfl, ?_⟩)
          · rw [hx]
            rfl
          · exact .inl ⟨rfl, hr⟩
      · have hr : (e = 5 ∨ e = 7) ∧ qe lv d (ts.drop a) = .error e := by
          rcases hr with h | h
          · exact absurd h.1 he
          · exact h
        have he' : ¬ (e : Int) = 0 := by omega
        repeat (first | refine nl ?_ | refine AWP.seq ?_ | refine rg ?_ | refine YI (z := ?_) | refine ZA (z := ?_) | refine ZC (z := ?_) | refine ZH (z := ?_))
        refine AWP.exit (blk_hit ?_)
        repeat (first | refine AWP.seq ?_ | refine rg ?_ | refine ZE (z := ?_))
        refine so (rows' := [exRow op num name field (.view 6 args .shared)]) rfl rfl rfl (by rw [St.obj_set_ne (Ne.symm n76), St.obj_set_ne (Ne.symm hne)]; exact St.obj_set _ _ _) rfl rfl rfl rfl rfl ?_
        repeat (refine nl ?_)
        refine AWP.ret (rets (resCW rfl (St.obj_set _ _ _) rfl rfl rfl rfl) (.refl _) (StLe.res2 h6 hne h7 n76 n7) ⟨x, a', e, ?_, ha', rfl, ?_⟩)
        · rw [hx]
          rfl
        · exact .inr hr
  intro lv d a o st h1 h5
  exact key (5 - lv) lv (by omega) d a o st h1

theorem sd_all {ts : List Tk} (H : RdH ts) : ∀ N, SOpn ts N ∧ SOpd ts N
  | 0 => ⟨fun _ _ _ _ _ _ _ _ h1 h2 => absurd h2 (by omega), fun _ _ _ _ _ h1 h2 => absurd h2 (by omega)⟩
  | N + 1 => by
    obtain ⟨hO, hU⟩ := sd_all H N
    have h := soperand_step H hO hU
    exact ⟨soperation_step H h, h⟩
end Go.Proofs
/- The walk of the reference lexer's Scan. No conditions: lemmas only. -/
namespace Go.Proofs
open Go.AM

theorem skipAt_tail (s : List UInt8) (p line : Nat) (hp : p ≤ s.length) : s.drop (skipAt s p line) = (skip false (s.drop p) line).1 ∧ skipAt s p line ≤ s.length ∧ p ≤ skipAt s p line ∧ (skip false (s.drop p) line).2 ≤ 1000000 + skipAt s p line ∨ 1000000 + p < line := by
  rcases Nat.lt_or_ge (1000000 + p) line with h | h
  · exact .inr h
  · left
    obtain ⟨w1, w2, w3, w4⟩ := skip_le false (s.drop p) line
    have w6 := skip_sum false (s.drop p) line
    have w7 := skip_tail (s.drop p) line
    rw [List.length_drop] at w1 w2 w6 w7
    rw [List.drop_drop] at w7
    unfold skipAt
    refine ⟨?_, by omega, by omega, by omega⟩
    rw [← w7]
    congr 1
    rw [w7]
    omega

set_option maxHeartbeats 4000000 in
theorem rscan_ok (s : List UInt8) (hs : s.length ≤ 140737488351232) (st : St) : ACalls Tryd.prog 22 [.str s] st (fun v st' => v = scanV (scan s) ∧ st' = st) (fun _ _ => False) := by
  refine ACalls.ofBody Tryd.func22 rfl Tryd.ntmps22 rfl ?_
  repeat (first | refine nl ?_ | refine AWP.seq ?_ | refine rg ?_ | refine sm rfl ?_ | refine lns rfl rfl ?_)
  refine AWP.cond_dec rfl (fun h => ?_) (fun h => AWP.skip ?_)
  · have h' : 4000 < s.length := by have : (4000 : Int) < (s.length : Int) := h; omega
    repeat (first | refine nl ?_ | refine AWP.seq ?_ | refine rg ?_ | refine sm rfl ?_)
    refine AWP.ret (rets rfl (Le.tri (.nilShared 0 4) (.refl _) (.refl _)) (.refl _) ⟨?_, rfl⟩)
    rw [scan, if_pos h']
    rfl
  · have h' : s.length ≤ 4000 := by have : ¬ (4000 : Int) < (s.length : Int) := h; omega
    have hscan : scan s = scanL (s.length + 1) (skip false s 1).1 (skip false s 1).2 [] := by rw [scan, if_neg (by omega)]
    repeat (refine AWP.seq ?_)
    refine rg ?_
    refine sm rfl ?_
    refine nl ?_
    refine AWP.nilTok 5 51 4 rfl fun tk htk => ?_
    repeat (first | refine AWP.seq ?_ | refine rg ?_ | refine sm rfl ?_)
    refine cle rfl rfl (rskip_ok s (by omega) 0 1 (Nat.zero_le _) (by omega) _) ?_
    have hsk := skipAt_tail s 0 1 (Nat.zero_le _)
    rw [List.drop_zero] at hsk ⊢
    obtain ⟨k1, k2, k3, k4⟩ := hsk.resolve_right (by omega)
    generalize skipAt s 0 1 = p0 at k1 k2 k3 k4
    rw [← k1] at hscan
    generalize (skip false s 1).2 = l0 at hscan k4
    repeat (first | refine nl ?_ | refine AWP.seq ?_ | refine AWP.block ?_ | refine sm rfl ?_)
    refine AWP.loop (α := Nat × Nat × Nat × List Tk × Nat)
      (fun x => [(7, .int .i64 (x.2.2.1 : Int)), (6, .int .i64 (x.2.1 : Int)), (5, .view 4 (x.2.2.2.1.map tokRow) (.own x.2.2.2.2 51)), (0, .str s)])
      (fun x => st.addTok x.2.2.2.2)
      (fun x => x.2.1 ≤ s.length ∧ x.2.2.1 ≤ 1000000 + x.2.1 ∧ scan s = scanL x.1 (s.drop x.2.1) x.2.2.1 x.2.2.2.1 ∧ s.length - x.2.1 < x.1 ∧ x.2.2.2.1.length ≤ 2000 ∧ st.tok x.2.2.2.2 = false) (fun x => x.1)
      (s.length + 1, p0, l0, [], tk) ⟨k2, k4, hscan, by simp only; omega, by simp, htk⟩ (tl4 rfl rfl rfl rfl) (.refl _) ?_
    rintro ⟨fuel, pos, line, out, tk⟩ ⟨h1, h2, h3, h4, h5, h6⟩
    simp only at h1 h2 h3 h4 h5 h6
    refine AWP.weaken (T' := [(7, .int .i64 (line : Int)), (6, .int .i64 (pos : Int)), (5, .view 4 (out.map tokRow) (.own tk 51)), (0, .str s)]) (st' := st.addTok tk) (tl4 rfl rfl rfl rfl) (.refl _) ?_
    repeat (first | refine nl ?_ | refine AWP.seq ?_ | refine rg ?_ | refine sm rfl ?_ | refine lns rfl rfl ?_)
    refine AWP.cond_dec rfl (fun h => AWP.skip ?_) (fun h => AWP.exit (blk_hit ?_))
    · have hlt : pos < s.length := by have : (pos : Int) < (s.length : Int) := h; omega
      obtain ⟨fuel, rfl⟩ : ∃ k, fuel = k + 1 := ⟨fuel - 1, by omega⟩
      have hd : s.drop pos = s[pos] :: s.drop (pos + 1) := List.drop_eq_getElem_cons hlt
      have hstep : scan s = match one (s.drop pos) line with
          | .error e => ([], line, e)
          | .ok (t, m) => if 2000 ≤ out.length then ([], line, 5) else scanL fuel (skip false ((s.drop pos).drop m) line).1 (skip false ((s.drop pos).drop m) line).2 (out ++ [t]) := by
        rw [h3, hd]
        rfl
      clear h3
      repeat (first | refine AWP.seq ?_ | refine rg ?_ | refine AWP.block ?_ | refine sm rfl ?_)
      refine cle rfl rfl (rone_ok s (by omega) pos line hlt _) ?_
      cases ho : one (s.drop pos) line with
      | error e =>
        rw [ho] at hstep
        refine AOps.weaken (T' := [(27, roneV pos (.error e)), (7, .int .i64 (line : Int)), (5, .view 4 (out.map tokRow) (.own tk 51)), (0, .str s)]) (tl4 rfl rfl rfl rfl) (.refl _) ?_
        unfold roneV
        repeat (refine sm rfl ?_)
        refine al rfl rfl fun o8 ho8 => ?_
        refine soN 8 rfl rfl rfl rfl rfl rfl ho8 ?_
        have he := one_err ho
        repeat (first | refine nl ?_ | refine AWP.seq ?_ | refine rg ?_ | refine sm rfl ?_)
        refine AOps.split 33 rfl (fun h8 => absurd (show (e : Int) = 0 from h8) (by omega)) (fun _ => ?_)
        repeat (first | refine nl ?_ | refine sm rfl ?_ | refine uw rfl ?_)
        refine AWP.cond_false rfl (AWP.skip ?_)
        repeat (first | refine nl ?_ | refine AWP.seq ?_ | refine rg ?_ | refine sm rfl ?_)
        refine AWP.cond_dec rfl (fun _ => ?_) (fun h8 => absurd (show (e : Int) ≠ 0 by omega) h8)
        repeat (first | refine nl ?_ | refine AWP.seq ?_ | refine rg ?_ | refine sm rfl ?_)
        refine AWP.ret (rets rfl (Le.tri (.nilShared 0 4) (.refl _) (.refl _)) (StLe.addTok _ (.refl _)) ⟨?_, rfl⟩)
        rw [hstep]
        rfl
      | ok p =>
        obtain ⟨t, m⟩ := p
        rw [ho] at hstep
        simp only at hstep
        obtain ⟨m1, m2, m3⟩ := one_ok ho
        rw [List.length_drop] at m2
        refine AOps.weaken (T' := [(27, roneV pos (.ok (t, m))), (7, .int .i64 (line : Int)), (5, .view 4 (out.map tokRow) (.own tk 51)), (0, .str s)]) (tl4 rfl rfl rfl rfl) (.refl _) ?_
        unfold roneV
        repeat (refine sm rfl ?_)
        refine al rfl rfl fun o8 ho8 => ?_
        refine soN 8 rfl rfl rfl rfl rfl rfl ho8 ?_
        repeat (first | refine nl ?_ | refine AWP.seq ?_ | refine rg ?_ | refine sm rfl ?_ | refine lnv rfl rfl ?_)
        refine AWP.cond_dec rfl (fun h8 => ?_) (fun h8 => AWP.skip ?_)
        · have hge : 2000 ≤ out.length := by
            rw [List.length_map] at h8
            omega
          rw [if_pos hge] at hstep
          repeat (first | refine nl ?_ | refine AWP.seq ?_ | refine rg ?_ | refine sm rfl ?_)
          refine AWP.cond_true rfl ?_
          repeat (first | refine nl ?_ | refine AWP.seq ?_ | refine rg ?_ | refine sm rfl ?_)
          refine AWP.ret (rets rfl (Le.tri (.nilShared 0 4) (.refl _) (.refl _)) (StLe.addTok _ (.refl _)) ⟨?_, rfl⟩)
          rw [hstep]
          rfl
        · have hge : ¬ 2000 ≤ out.length := by
            rw [List.length_map] at h8
            omega
          rw [if_neg hge] at hstep
          repeat (first | refine nl ?_ | refine AWP.seq ?_ | refine rg ?_ | refine sm rfl ?_)
          refine AWP.cond_false rfl (AWP.skip ?_)
          repeat (first | refine AWP.seq ?_ | refine rg ?_ | refine sm rfl ?_ | refine leW rfl rfl rfl rfl rfl ?_ | refine bs1 rfl rfl rfl rfl rfl rfl ?_)
          refine ap rfl rfl rfl (St.tok_addTok _ _) rfl (by simp only [List.length_cons, List.length_nil, List.length_map]; omega) (by simp only [List.length_cons, List.length_nil, List.length_map, maxLen]; omega) fun tk' htk' => ?_
          have hm : out.map tokRow ++ [(AV.agg (AV.agg (tokRow t)).cells).cells] = (out ++ [t]).map tokRow := by rw [List.map_append]; rfl
          rw [hm]
          have htk2 : st.tok tk' = false := St.tok_of_add (st := st) htk'
          repeat (first | refine nl ?_ | refine rg ?_ | refine sm rfl ?_)
          have hdd : (s.drop pos).drop m = s.drop (pos + m) := List.drop_drop ..
          rw [hdd] at hstep
          refine cle rfl rfl (rskip_ok s (by omega) (pos + m) line (by omega) (by omega) _) ?_
          obtain ⟨w1, w2, w3, w4⟩ := (skipAt_tail s (pos + m) line (by omega)).resolve_right (by omega)
          generalize skipAt s (pos + m) line = p' at w1 w2 w3 w4
          rw [← w1] at hstep
          generalize (skip false (s.drop (pos + m)) line).2 = l' at hstep w4
          repeat (first | refine nl ?_ | refine sm rfl ?_)
          exact ⟨(fuel, p', l', out ++ [t], tk'), ⟨w2, w4, hstep, by simp only; omega, by simp only [List.length_append, List.length_cons, List.length_nil]; omega, htk2⟩, by simp only; omega, (tl4 rfl rfl rfl rfl), StLe.reTok h6 tk'⟩
    · have hlt : pos = s.length := by have : ¬ (pos : Int) < (s.length : Int) := h; omega
      subst hlt
      obtain ⟨fuel, rfl⟩ : ∃ k, fuel = k + 1 := ⟨fuel - 1, by omega⟩
      rw [List.drop_length] at h3
      have hstep : scan s = (out ++ [(⟨0, line, [], 0⟩ : Tk)], 0, 0) := h3
      repeat (first | refine AWP.seq ?_ | refine rg ?_ | refine sm rfl ?_)
      refine bds (cs := tokRow ⟨0, line, [], 0⟩) rfl rfl rfl rfl ?_
      repeat (refine bs1 rfl rfl rfl rfl rfl rfl ?_)
      refine ap rfl rfl rfl (St.tok_addTok _ _) rfl (by simp only [List.length_cons, List.length_nil, List.length_map]; omega) (by simp only [List.length_cons, List.length_nil, List.length_map, maxLen]; omega) fun tk' htk' => ?_
      have hm : out.map tokRow ++ [(AV.agg (tokRow ⟨0, line, [], 0⟩)).cells] = (out ++ [(⟨0, line, [], 0⟩ : Tk)]).map tokRow := by rw [List.map_append]; rfl
      rw [hm]
      repeat (first | refine nl ?_ | refine sm rfl ?_)
      refine AWP.ret (rets rfl (Le.tri (.shared _ _ _) (.refl _) (.refl _)) ((StLe.reTok h6 tk').trans (StLe.addTok _ (.refl _))) ⟨?_, rfl⟩)
      rw [hstep]
      rfl
end Go.Proofs
/- debuggerref30.Parse answers eparse. No conditions: definitions and lemmas only. -/
namespace Go.Proofs
open Go.AM
attribute [local irreducible] AWP AOps ACalls AAny

set_option maxHeartbeats 2000000 in
theorem eparse_ok2 (s : List UInt8) (hs : s.length ≤ 140737488351232) (st : St) :
    ACalls Tryd.prog 12 [.str s] st (fun v st' => v = epV (eparse s) ∧ st' = st) (fun _ _ => False) := by
  refine ACalls.ofBody Tryd.func12 rfl Tryd.ntmps12 rfl ?_
  repeat (refine AWP.seq ?_)
  refine rg ?_
  refine al rfl rfl fun o2 h2 => ?_
  repeat (first | refine nl ?_ | refine AWP.seq ?_ | refine rg ?_ | refine ZA (z := ?_))
  refine cle rfl rfl (rscan_ok s hs _) ?_
  unfold scanV
  repeat (first | refine nl ?_ | refine AWP.seq ?_ | refine rg ?_ | refine ZA (z := ?_))
  by_cases he : (scan s).2.2 = 0
  · have hep : eparse s = match qe 1 0 (scan s).1 with
        | .error e => .error e
        | .ok (x, r) => if (hd r).kind = 0 then .ok x else .error 7 := by rw [eparse, if_pos he] <;> rfl
    obtain ⟨H, h0⟩ := scan_RdH he
    rw [he]
    generalize (scan s).1 = ts at H h0 hep
    clear he
    have hl : (ts.map tokRow).length ≤ 100000 := by rw [List.length_map]; exact H.len
    repeat (first | refine AWP.seq ?_ | refine rg ?_ | refine AWP.skip ?_ | refine YI (z := ?_) | refine ZA (z := ?_))
    refine bds (cs := [.view 4 (ts.map tokRow) .shared, .int .i64 0, .int .i64 0]) rfl rfl rfl rfl ?_
    refine bx rfl rfl rfl rfl fun o7 h7 => ?_
    have hne : o2 ≠ o7 := fun e => by subst e; rw [St.obj_set] at h7; cases h7
    repeat (first | refine nl ?_ | refine AWP.seq ?_ | refine rg ?_ | refine ZA (z := ?_))
    refine cl rfl rfl ((sd_all H ts.length).1 1 0 0 o7 _ (by decide) (by decide) (by decide) h0 (by omega) (St.obj_set _ _ _)) fun v st' ⟨x, a', e, hv, ha', hst, hr⟩ => ?_
    subst hv
    subst hst
    rw [St.set_set]
    rw [List.drop_zero] at hr
    obtain ⟨op, num, name, field, args, hx⟩ := xrow_ex x
    rw [hx]
    obtain ⟨t, t1, t2, t3, t4, t5⟩ := map_at ha'
    refine alN rfl rfl (fun _ => rfl) rfl rfl ?_
    refine nl ?_
    refine AWP.seq ?_
    refine AWP.cutK (α := Nat) (fun _ => [(8, .eptr 6 [exRow op num name field (.view 6 args .shared)] 0 0), (7, .cptr o7 3 0 0), (2, .cptr o2 6 0 0)]) (fun e2 => (st.set o2 (.cells 27 6 [exRow 0 0 [] [] nilV])).set o7 (.cells 55 3 [[.view 4 (ts.map tokRow) .shared, .int .i64 (a' : Int), .int .i64 (e2 : Int)]]))
      (fun e2 => (e2 = 0 ∧ eparse s = .ok x) ∨ (e2 ≠ 0 ∧ eparse s = .error e2)) ?_ ?_
    · have hC : ∀ e : Nat, ((st.set o2 (.cells 27 6 [exRow 0 0 [] [] nilV])).set o7 (stC (ts.map tokRow) a' e)).obj o7 = some (stC (ts.map tokRow) a' e) := fun e => St.obj_set _ _ _
      rcases hr with ⟨rfl, hr⟩ | ⟨he, hr⟩
      · rw [hr] at hep
        simp only [t3] at hep
        repeat (first | refine AWP.seq ?_ | refine rg ?_ | refine ZA (z := ?_))
        by_cases hk : t.kind = 0
        · rw [if_pos hk] at hep
          refine cle rfl rfl (skind_b (hC 0) t4 t2 0 true (decide_eq_true hk)) ?_
          repeat (first | refine nl ?_ | refine AWP.skip ?_ | refine YI (z := ?_) | refine ZA (z := ?_))
          exact ⟨0, .inl ⟨rfl, hep⟩, (tl3 rfl rfl rfl), .refl _⟩
        · rw [if_neg hk] at hep
          refine cle rfl rfl (skind_b (hC 0) t4 t2 0 false (decide_eq_false hk)) ?_
          repeat (first | refine nl ?_ | refine rg ?_ | refine YH (z := ?_) | refine ZA (z := ?_))
          refine cl rfl rfl (sfail_ok (hC 0) 7) fun v st' hst => ?_
          subst hst
          rw [St.set_set]
          repeat (refine nl ?_)
          exact ⟨7, .inr ⟨by decide, hep⟩, (tl3 rfl rfl rfl), .refl _⟩
      · rw [hr] at hep
        simp only at hep
        repeat (first | refine AWP.seq ?_ | refine rg ?_ | refine ZA (z := ?_))
        refine cle rfl rfl (skind_err (hC e) he 0) ?_
        repeat (first | refine nl ?_ | refine rg ?_ | refine YH (z := ?_) | refine ZA (z := ?_))
        refine cl rfl rfl (sfail_err (hC e) he 7) fun v st' hst => ?_
        subst hst
        repeat (refine nl ?_)
        exact ⟨e, .inr ⟨by omega, hep⟩, (tl3 rfl rfl rfl), .refl _⟩
    · rintro e2 he2
      rcases he2 with ⟨rfl, he2⟩ | ⟨hne2, he2⟩
      · repeat (first | refine nl ?_ | refine AWP.seq ?_ | refine rg ?_ | refine AWP.skip ?_ | refine YI (z := ?_) | refine ZA (z := ?_) | refine ZC (z := ?_) | refine ZD (z := ?_) | refine ZH (z := ?_))
        refine so (rows' := [exRow op num name field (.view 6 args .shared)]) rfl rfl rfl (St.obj_under (Ne.symm hne) _ _) rfl rfl rfl rfl rfl ?_
        repeat (first | refine nl ?_ | refine ZA (z := ?_))
        refine AWP.ret ?_
        refine rets (vs := [.agg (exRow op num name field (.view 6 args .shared)), .int .i64 0]) (resCW rfl (St.obj_set _ _ _) rfl rfl rfl rfl) (.refl _) (StLe.set3 h2 h7 hne) ⟨?_, rfl⟩
        rw [he2, epV, hx]
        rfl
      · have he' : (e2 : Int) ≠ 0 := by omega
        repeat (first | refine nl ?_ | refine AWP.seq ?_ | refine rg ?_ | refine YH (z := ?_) | refine ZA (z := ?_) | refine ZC (z := ?_) | refine ZH (z := ?_))
        refine AWP.drawX rfl 6 [5] [(st.set o2 (.cells 27 6 [exRow 0 0 [] [] nilV])).set o7 (.cells 55 3 [[.view 4 (ts.map tokRow) .shared, .int .i64 (a' : Int), .int .i64 (e2 : Int)]]), (st.set o2 (.cells 27 6 [exRow 0 0 [] [] nilV])).set o7 (.cells 55 3 [[.view 4 (ts.map tokRow) .shared, .int .i64 (a' : Int), .int .i64 (e2 : Int)]])]
          ((st.set o2 (.cells 27 6 [exRow 0 0 [] [] nilV])).set o7 (.cells 55 3 [[.view 4 (ts.map tokRow) .shared, .int .i64 (a' : Int), .int .i64 (e2 : Int)]])) rfl rfl (.refl _) ?_
        refine dqS (v := .agg (exRow 0 0 [] [] nilV)) rfl rfl rfl (fun st1 hle => bds (cs := exRow 0 0 [] [] nilV) rfl rfl rfl rfl (nl ⟨_, rfl, rfl, rfl⟩)) ?_
        repeat (first | refine dsS rfl rfl ?_ | refine dpS (h := fun _ _ => ZC (z := nz)) (z := ?_) | refine dpS (h := fun _ _ => ZH (z := nz)) (z := ?_))
        refine deS rfl rfl rfl (.refl _) rfl rfl (so (rows' := [exRow 0 0 [] [] nilV]) rfl rfl rfl (St.obj_under (Ne.symm hne) _ _) rfl rfl rfl rfl rfl (nl ⟨rfl, ?_⟩)) ?_
        · exact St.set_inner (Ne.symm hne) _ _ _
        refine dnS rfl ?_
        repeat (first | refine nl ?_ | refine ZA (z := ?_))
        refine AWP.ret ?_
        refine rets (vs := [.agg (exRow 0 0 [] [] nilV), .int .i64 (e2 : Int)]) (resCW rfl (St.obj_under (Ne.symm hne) _ _) rfl rfl rfl rfl) (Le.pair (ex_nil 0 0 [] []) (.refl _)) (StLe.set2' h2 h7 hne) ⟨?_, rfl⟩
        rw [he2]
        rfl
  · have hep : eparse s = .error (scan s).2.2 := by rw [eparse, if_neg he]
    generalize (scan s).2.2 = e at he hep
    have he' : ¬ (e : Int) = 0 := by omega
    repeat (first | refine AWP.seq ?_ | refine rg ?_ | refine YH (z := ?_))
    refine bds (cs := exRow 0 0 [] [] nilV) rfl rfl rfl rfl ?_
    repeat (refine ZA (z := ?_))
    refine soV rfl rfl rfl rfl rfl rfl ?_
    repeat (first | refine nl ?_ | refine ZA (z := ?_))
    refine AWP.ret ?_
    refine rets (vs := [.agg (exRow 0 0 [] [] nilV), .int .i64 (e : Int)]) (resCW rfl (St.obj_set _ _ _) rfl rfl rfl rfl) (Le.pair (ex_nil 0 0 [] []) (.refl _)) (StLe.new h2 (.refl _)) ⟨?_, rfl⟩
    rw [hep]
    rfl
end Go.Proofs
/- The sanity check of the laws of expressions. No conditions: definitions and lemmas only. -/
namespace Go.Proofs
open Go.AM
attribute [local irreducible] AWP AOps ACalls AAny

/-- The tables that are laid. -/
structure LTb (st : St) : Prop where
  signs : st.row 2 = some signRow
  words : st.row 0 = some wordRow
  tb : Tb st
theorem LTb.low {st st1 : St} (h : LTb st) (hle : StLe st1 st.notok) : LTb st1 := by
  have e : st.glob = st1.glob := hle.glob
  obtain ⟨h1, h2, h3⟩ := h
  refine ⟨?_, ?_, h3.low hle⟩
  · unfold St.row at *; rw [← e]; exact h1
  · unfold St.row at *; rw [← e]; exact h2
theorem gx_toXT : ∀ x : Xp, Wop x → WX Nm Nu x → GX (toXT x)
  | .lit n, _, h => .mk _ _ _ _ _ _ (by unfold w64; decide) (by have h : n < 10 ^ 18 := h; unfold w64; omega) (by decide) (by decide) (fun a h => by cases h)
  | .var s, _, h => .mk _ _ _ _ _ _ (by unfold w64; decide) (by unfold w64; decide) (by obtain ⟨_, _, _, _, _, h, _⟩ := h; unfold Smax; omega) (by decide) (fun a h => by cases h)
  | .fld s f, _, h => .mk _ _ _ _ _ _ (by unfold w64; decide) (by unfold w64; decide) (by obtain ⟨_, _, _, _, _, h, _⟩ := h.1; unfold Smax; omega) (by obtain ⟨_, _, _, _, _, h, _⟩ := h.2; unfold Smax; omega) (fun a h => by cases h)
  | .elt s x, hw, h => .mk _ _ _ _ _ _ (by unfold w64; decide) (by unfold w64; decide) (by obtain ⟨_, _, _, _, _, h, _⟩ := h.1; unfold Smax; omega) (by decide) (fun a ha => by
      rw [List.mem_singleton.1 ha]
      exact gx_toXT x hw h.2)
  | .una op x, hw, h => .mk _ _ _ _ _ _ (by have := hw.1; unfold w64; omega) (by unfold w64; decide) (by decide) (by decide) (fun a ha => by
      rw [List.mem_singleton.1 ha]
      exact gx_toXT x hw.2 h)
  | .bin op x y, hw, h => .mk _ _ _ _ _ _ (by have := hw.1; have := hw.2.1; unfold w64; omega) (by unfold w64; decide) (by decide) (by decide) (fun a ha => by
      simp only [List.mem_cons, List.not_mem_nil, or_false] at ha
      rcases ha with rfl | rfl
      · exact gx_toXT x hw.2.2.1 h.1
      · exact gx_toXT y hw.2.2.2 h.2)
theorem wx_weak : ∀ x : Xp, WX Nm Nu x → WX (fun _ => True) (fun m => m < 10 ^ 20) x
  | .lit n, h => by have h : n < 10 ^ 18 := h; show n < 10 ^ 20; omega
  | .var _, _ => trivial
  | .fld _ _, _ => ⟨trivial, trivial⟩
  | .elt _ a, h => ⟨trivial, wx_weak a h.2⟩
  | .una _ a, h => wx_weak a h
  | .bin _ a b, h => ⟨wx_weak a h.1, wx_weak b h.2⟩

/-- Print, of an expression that was parsed or made. -/
theorem print1_xp (x : Xp) (h1 : Wop x) (h2 : WX Nm Nu x) (h3 : dpx x ≤ 200) (h4 : (toXT x).nodes ≤ 1000) (st : St) (hT : Tb st) : ACalls Tryd.prog 15 [.agg (xrow x)] st (fun v st' => v = .str (xby x) ∧ st' = st) (fun _ _ => False) := by
  have h := print1_ok (toXT x) (gx_toXT x h1 h2) h4 st hT
  rw [toXT_row, pr_toXT h1 (wx_weak x h2) h3] at h
  exact h
theorem print2_xp (x : Xp) (h1 : Wop x) (h2 : WX Nm Nu x) (h3 : dpx x ≤ 200) (h4 : (toXT x).nodes ≤ 1000) (st : St) : ACalls Tryd.prog 8 [.agg (xrow x)] st (fun v st' => v = .str (xby x) ∧ st' = st) (fun _ _ => False) := by
  have h := print2_ok (toXT x) (gx_toXT x h1 h2) h4 st
  rw [toXT_row, pr_toXT h1 (wx_weak x h2) h3] at h
  exact h

def awX : Xp := .bin 6 (.fld [97] [98]) (.bin 8 (.lit 2) (.bin 7 (.elt [99] (.var [105])) (.lit 1)))
theorem aw_parse : eparse [97, 46, 98, 43, 40, 50, 42, 40, 99, 91, 105, 93, 45, 40, 49, 41, 41, 41] = .ok awX := by kernel_rfl
theorem aw_bad : eparse [97, 32, 43] = .error 7 := by kernel_rfl
theorem aw_text : xby awX = [97, 46, 98, 32, 43, 32, 50, 32, 42, 32, 40, 99, 91, 105, 93, 32, 45, 32, 49, 41] := by kernel_rfl
theorem aw_facts : Wop awX ∧ WX Nm Nu awX ∧ dpx awX ≤ 200 ∧ (toXT awX).nodes ≤ 1000 := by
  have h := (eparse_ok aw_parse)
  exact ⟨h.1, h.2.1, by decide, by decide⟩
theorem awake_ok (st : St) (hT : LTb st) : ACalls Tryd.prog 7 [] st (fun v st' => v = .bool true ∧ st' = st) (fun _ _ => False) := by
  refine ACalls.ofBody Tryd.func7 rfl Tryd.ntmps7 rfl ?_
  obtain ⟨f1, f2, f3, f4⟩ := aw_facts
  have p1 := eparse_ok1 [97, 46, 98, 43, 40, 50, 42, 40, 99, 91, 105, 93, 45, 40, 49, 41, 41, 41] st hT.signs hT.words hT.tb.1
  rw [aw_parse, epV] at p1
  have p2 := eparse_ok1 [97, 32, 43] st hT.signs hT.words hT.tb.1
  rw [aw_bad, epV] at p2
  have p3 := print1_xp awX f1 f2 f3 f4 st hT.tb
  rw [aw_text] at p3
  obtain ⟨op, num, name, field, args, hx⟩ := xrow_ex awX
  rw [hx] at p1 p3
  repeat (first | refine nl ?_ | refine AWP.seq ?_ | refine rg ?_ | refine ZA (z := ?_))
  refine cle rfl rfl p1 ?_
  repeat (first | refine nl ?_ | refine AWP.seq ?_ | refine rg ?_ | refine ZA (z := ?_) | refine YA (z := ?_))
  refine cle rfl rfl p2 ?_
  repeat (first | refine nl ?_ | refine AWP.seq ?_ | refine rg ?_ | refine ZA (z := ?_) | refine ZD (z := ?_) | refine YA (z := ?_))
  refine cle rfl rfl p3 ?_
  repeat (first | refine nl ?_ | refine ZA (z := ?_))
  exact AWP.ret (rets rfl (.refl _) (.refl _) ⟨rfl, rfl⟩)
end Go.Proofs
/- What the laws of this seat share: the laid tables, the arguments' kinds. No conditions: lemmas only. -/
namespace Go.Proofs.YtcckchdneaecoaaDoor
open Go.ChangeShapes Go.WideShapes Go.ChangeAt Go.RowKit Go.AM

theorem own : ownKnob Tryd.prog.godebug = none := by kernel_rfl
theorem laidOut : laidOutB Tryd.prog = true := by kernel_rfl
def laidAll : List (String × DataW Unit) := [("math/bits.deBruijn32tab", Rows.laid_math_bits_deBruijn32tab), ("math/bits.deBruijn64tab", Rows.laid_math_bits_deBruijn64tab), ("internal/strconv.uint64pow10", Rows.laid_internal_strconv_uint64pow10), ("debugger/lexer.words", Rows.laid_debugger_lexer_words), ("debugger/lexer.signs", Rows.laid_debugger_lexer_signs), ("debugger/expression.operators", Rows.laid_debugger_expression_operators)]

theorem kinds : ∀ t ∈ [3, 9, 22, 27, 25, 63, 84, 94, 100, 76, 77], Go.AM.kindOk Tryd.prog [3, 9, 22, 27, 25, 63, 84, 94, 100, 76, 77] t = true := by
  intro t ht
  simp only [List.mem_cons, List.not_mem_nil, or_false] at ht
  rcases ht with rfl | rfl | rfl | rfl | rfl | rfl | rfl | rfl | rfl | rfl | rfl <;> kernel_rfl
theorem pow_row : litRow (Rows.laid_internal_strconv_uint64pow10 : DataW Unit) = some powRow := by kernel_rfl
theorem op_row : litRow (Rows.laid_debugger_expression_operators : DataW Unit) = some opRow := by kernel_rfl
def tabL : List (Nat × List AV) := [(0, wordRow), (2, signRow), (1, opRow), (3, powRow)]
theorem tables {W : World} (h : laidMetH Tryd.prog laidAll W) : ∀ gi row, (gi, row) ∈ tabL → GlobAt (G0 W) W gi row := by
  have h' : laidMet Tryd.prog laidAll W := h
  intro gi row hm
  simp only [tabL, List.mem_cons, List.not_mem_nil, or_false] at hm
  rcases hm with hm | hm | hm | hm
  · cases hm
    exact laid_row kinds h' (n := "debugger/lexer.words") (t := 63) (.tail _ (.tail _ (.tail _ (.head _)))) rfl (by kernel_rfl) (by kernel_rfl) (by decide) (by decide)
  · cases hm
    exact laid_row kinds h' (n := "debugger/lexer.signs") (t := 84) (.tail _ (.tail _ (.tail _ (.tail _ (.head _))))) rfl (by kernel_rfl) (by kernel_rfl) (by decide) (by decide)
  · cases hm
    exact laid_row kinds h' (n := "debugger/expression.operators") (t := 77) (.tail _ (.tail _ (.tail _ (.tail _ (.tail _ (.head _)))))) op_row (by kernel_rfl) (by kernel_rfl) (by decide) (by decide)
  · cases hm
    exact laid_row kinds h' (n := "internal/strconv.uint64pow10") (t := 100) (.tail _ (.tail _ (.head _))) pow_row (by kernel_rfl) (by kernel_rfl) (by decide) (by decide)
theorem hT {o : Nat → Option AObj} {tk : Nat → Bool} : LTb { obj := o, tok := tk, glob := tabL } := ⟨rfl, rfl, rfl, .tail _ (.tail _ (.tail _ (.head _)))⟩
end Go.Proofs.YtcckchdneaecoaaDoor
/- ExpressionParses. No conditions: definitions and lemmas only. -/
namespace Go.Proofs
open Go.AM
attribute [local irreducible] AWP AOps ACalls AAny
set_option linter.unusedSimpArgs false

theorem modN_ok (n k : Int) (c : Nat) (hk : 0 < k) (hk2 : k ≤ 4611686018427387904) (h : n % k = (c : Int)) (st : St) : ACalls Tryd.prog 10 [.int .i64 n, .int .i64 k] st (fun v st' => v = .int .i64 (c : Int) ∧ st' = st) (fun _ _ => False) := by
  have := mod_ok n k hk hk2 st
  rw [h] at this
  exact this
theorem mod_nat (n k : Int) (hk : 0 < k) : ∃ c : Nat, n % k = (c : Int) ∧ (c : Int) < k :=
  ⟨(n % k).toNat, (Int.toNat_of_nonneg (Int.emod_nonneg _ (by omega))).symm, by rw [Int.toNat_of_nonneg (Int.emod_nonneg _ (by omega))]; exact Int.emod_lt_of_pos _ hk⟩
theorem tre_f (l : List Int) : TrP 7 (tre l) := (tr_ok l 7 0).1
theorem tre_len (l : List Int) : (xby (tre l)).length ≤ 1146 := by
  have h := (tre_f l).bl
  have e : trP 7 = 1146 := rfl
  have : (xby (tre l)).length = bl (tre l) := rfl
  omega
theorem print2_tre (l : List Int) (st : St) : ACalls Tryd.prog 8 [.agg (xrow (tre l))] st (fun v st' => v = .str (xby (tre l)) ∧ st' = st) (fun _ _ => False) := by
  have h := tre_f l
  have e1 : trM 7 = 255 := rfl
  have := h.dpx
  have := h.nodes
  exact print2_xp _ h.op h.nm (by omega) (by omega) st
theorem print1_tre (l : List Int) (st : St) (hT : Tb st) : ACalls Tryd.prog 15 [.agg (xrow (tre l))] st (fun v st' => v = .str (xby (tre l)) ∧ st' = st) (fun _ _ => False) := by
  have h := tre_f l
  have e1 : trM 7 = 255 := rfl
  have := h.dpx
  have := h.nodes
  exact print1_xp _ h.op h.nm (by omega) (by omega) st hT
def sg13 : List AV := [.str [40], .str [41], .str [91], .str [93], .str [45], .str [33], .str [43], .str [42], .str [46], .str [60], .str [32], .str [55], .str [97]]
theorem sg13_get : ∀ k : Nat, k < 13 → ∃ w : List UInt8, (chunk (0 + 1) 13 sg13)[k]? = some [.str w] ∧ w.length = 1
  | 0, _ => ⟨_, rfl, rfl⟩
  | 1, _ => ⟨_, rfl, rfl⟩
  | 2, _ => ⟨_, rfl, rfl⟩
  | 3, _ => ⟨_, rfl, rfl⟩
  | 4, _ => ⟨_, rfl, rfl⟩
  | 5, _ => ⟨_, rfl, rfl⟩
  | 6, _ => ⟨_, rfl, rfl⟩
  | 7, _ => ⟨_, rfl, rfl⟩
  | 8, _ => ⟨_, rfl, rfl⟩
  | 9, _ => ⟨_, rfl, rfl⟩
  | 10, _ => ⟨_, rfl, rfl⟩
  | 11, _ => ⟨_, rfl, rfl⟩
  | 12, _ => ⟨_, rfl, rfl⟩
  | n + 13, h => absurd h (by omega)
def srows (S : List (List UInt8)) : List (List AV) := S.map fun w => [.str w]
theorem srows_len (S : List (List UInt8)) : (srows S).length = S.length := List.length_map ..
theorem srows_get {S : List (List UInt8)} {i : Nat} (h : i < S.length) : (srows S)[i]? = some [.str S[i]] := by
  unfold srows
  rw [List.getElem?_map, List.getElem?_eq_getElem h]
  rfl

set_option maxHeartbeats 2000000 in
theorem ExpressionParses_ok (raw : List UInt8) (_ : raw.length ≤ 140737488351232) (l : List Int) (hl : l.length ≤ 17592186043904) (_ : ∀ x ∈ l, (Lit.int .i64 x).wf = true) (at_ : Int) (_ : (Lit.int .i64 at_).wf = true) (cut_ : Int) (_ : (Lit.int .i64 cut_).wf = true) (wth : List UInt8) (_ : wth.length ≤ 140737488351232) (st : St) (hT : LTb st) :
    ACalls Tryd.prog 3 [.str raw, .view 1 (l.map fun x => [.int .i64 x]) .shared, .int .i64 at_, .int .i64 cut_, .str wth] st (fun v _ => v = .bool true) (fun _ _ => False) := by
  refine ACalls.ofBody Tryd.func3 rfl Tryd.ntmps3 rfl ?_
  by_cases h1 : 400 < raw.length
  · have h1' : (raw.length : Int) > 400 := by omega
    repeat (first | refine nl ?_ | refine AWP.seq ?_ | refine rg ?_ | refine YH (z := ?_) | refine ZA (z := ?_) | refine ZB (z := ?_) | refine ZL (z := ?_) | refine YD (z := ?_))
    refine cle rfl rfl (awake_ok st hT) ?_
    repeat (first | refine nl ?_ | refine ZA (z := ?_))
    exact AWP.ret (rets rfl (.refl _) (.refl _) rfl)
  have h1' : ¬ (raw.length : Int) > 400 := by omega
  by_cases h2 : 20 < wth.length
  · have h2' : (wth.length : Int) > 20 := by omega
    repeat (first | refine nl ?_ | refine AWP.seq ?_ | refine rg ?_ | refine YH (z := ?_) | refine ZA (z := ?_) | refine ZL (z := ?_) | refine YE (z := ?_))
    refine cle rfl rfl (awake_ok st hT) ?_
    repeat (first | refine nl ?_ | refine ZA (z := ?_))
    exact AWP.ret (rets rfl (.refl _) (.refl _) rfl)
  have h2' : ¬ (wth.length : Int) > 20 := by omega
  have hs := tre_len l
  obtain ⟨k, hk, hk2⟩ := mod_nat at_ ((((xby (tre l)).length + 1 : Nat)) : Int) (by omega)
  obtain ⟨c, hc, hc2⟩ := mod_nat cut_ 3 (by decide)
  obtain ⟨m, hm, hm2⟩ := mod_nat cut_ 13 (by decide)
  obtain ⟨w, hw, hw1⟩ := sg13_get m (by omega)
  repeat (first | refine nl ?_ | refine AWP.seq ?_ | refine rg ?_ | refine AWP.skip ?_ | refine YI (z := ?_) | refine ZA (z := ?_) | refine ZL (z := ?_) | refine YE (z := ?_))
  refine cle rfl rfl (tree_ok l hl st) ?_
  refine cle rfl rfl (print2_tre l st) ?_
  generalize xby (tre l) = s at *
  repeat (first | refine nl ?_ | refine AWP.seq ?_ | refine rg ?_ | refine ZA (z := ?_) | refine ZL (z := ?_) | refine ZO (z := ?_))
  refine cle rfl rfl (modN_ok _ _ k (by omega) (by omega) hk st) ?_
  repeat (first | refine nl ?_ | refine AWP.seq ?_ | refine ZA (z := ?_))
  refine AWP.draw rfl 15 15 (fun _ _ => False) rfl ?_
  repeat (first | refine ds rfl rfl ?_ | refine dp (h := fun _ _ => ZZ (z := nz)) (z := ?_))
  refine dq rfl rfl rfl (fun st1 hle => sad rfl rfl rfl (by rw [List.length_take]; omega) (nl ⟨_, rfl, rfl, rfl⟩)) ?_
  repeat (first | refine ds rfl rfl ?_ | refine dp (h := fun _ _ => ZL (z := nz)) (z := ?_))
  refine dq rfl rfl rfl (fun st1 hle => cle rfl rfl (modN_ok cut_ 3 c (by decide) (by decide) hc st1) (nl ⟨_, rfl, rfl, rfl⟩)) ?_
  repeat (refine dp (h := fun _ _ => ZP (z := nz)) (z := ?_))
  refine dq (v := .int .i64 ((min s.length (k + c) : Nat) : Int)) rfl rfl rfl (fun st1 hle => mn rfl rfl rfl (nl ⟨_, rfl, congrArg (AV.int .i64) (by omega), rfl⟩)) ?_
  repeat (refine dp (h := fun _ _ => ZY (z := nz)) (z := ?_))
  refine dq rfl rfl rfl (fun st1 hle => sad rfl rfl rfl (by rw [List.length_append, List.length_take, List.length_drop]; omega) (nl ⟨_, rfl, rfl, rfl⟩)) ?_
  refine dn ⟨fun _ => ?_, fun h => absurd h (by decide)⟩
  have hb : (s.take k ++ wth ++ s.drop (min s.length (k + c))).length ≤ 2000 := by
    rw [List.length_append, List.length_append, List.length_take, List.length_drop]; omega
  generalize s.take k ++ wth ++ s.drop (min s.length (k + c)) = bent at hb
  repeat (first | refine nl ?_ | refine AWP.seq ?_ | refine rg ?_ | refine ZA (z := ?_))
  refine bsh (cs := sg13) rfl rfl rfl rfl rfl ?_
  repeat (first | refine nl ?_ | refine AWP.seq ?_ | refine ZA (z := ?_))
  refine AWP.draw rfl 15 15 (fun _ _ => False) rfl ?_
  repeat (first | refine ds rfl rfl ?_ | refine dp (h := fun _ _ => ZJ (z := nz)) (z := ?_) | refine dp (h := fun _ _ => ZZ (z := nz)) (z := ?_))
  refine dq rfl rfl rfl (fun st1 hle => cle rfl rfl (modN_ok cut_ 13 m (by decide) (by decide) hm st1) (nl ⟨_, rfl, rfl, rfl⟩)) ?_
  refine dq rfl rfl rfl (fun st1 hle => ix (m := m) rfl rfl rfl rfl (by show m < 13; omega) (nl ⟨_, rfl, rfl, rfl⟩)) ?_
  refine dq rfl rfl rfl (fun st1 hle => Go.AM.le rfl rfl hw rfl (nl ⟨_, rfl, rfl, rfl⟩)) ?_
  refine dq rfl rfl rfl (fun st1 hle => sad rfl rfl rfl (by rw [List.length_take]; omega) (nl ⟨_, rfl, rfl, rfl⟩)) ?_
  repeat (first | refine ds rfl rfl ?_ | refine dp (h := fun _ _ => ZY (z := nz)) (z := ?_))
  refine dq rfl rfl rfl (fun st1 hle => sad rfl rfl rfl (by rw [List.length_append, List.length_take, List.length_drop]; omega) (nl ⟨_, rfl, rfl, rfl⟩)) ?_
  refine dn ⟨fun _ => ?_, fun h => absurd h (by decide)⟩
  have hn : (s.take k ++ w ++ s.drop k).length ≤ 2000 := by
    rw [List.length_append, List.length_append, List.length_take, List.length_drop]; omega
  generalize s.take k ++ w ++ s.drop k = near at hn
  repeat (first | refine nl ?_ | refine AWP.seq ?_ | refine rg ?_ | refine ZA (z := ?_))
  refine bsh (cs := [.str raw, .str s, .str bent, .str near]) rfl rfl rfl rfl rfl ?_
  repeat (first | refine nl ?_ | refine AWP.block ?_ | refine ZA (z := ?_) | refine ZJ (z := ?_))
  have hR : ∀ w ∈ [raw, s, bent, near], w.length ≤ 2000 := by
    intro w hw
    simp only [List.mem_cons, List.not_mem_nil, or_false] at hw
    rcases hw with rfl | rfl | rfl | rfl <;> omega
  have hRl : [raw, s, bent, near].length = 4 := rfl
  refine AWP.weaken (T' := [(76, .int .i64 0), (75, .int .i64 4), (74, .view 1 (srows [raw, s, bent, near]) .shared)]) (tl3 rfl rfl rfl) (.refl _) ?_
  generalize [raw, s, bent, near] = R at hR hRl
  refine AWP.loop (α := Nat) (fun i => [(76, .int .i64 (i : Int)), (75, .int .i64 4), (74, .view 1 (srows R) .shared)]) (fun _ => st) (fun i => i ≤ 4) (fun i => 4 - i) 0 (Nat.zero_le _) (tl3 rfl rfl rfl) (.refl _) ?_
  intro i hi4
  refine AWP.weaken (T' := [(76, .int .i64 (i : Int)), (75, .int .i64 4), (74, .view 1 (srows R) .shared)]) (tl3 rfl rfl rfl) (.refl _) ?_
  by_cases hi : i < 4
  · have hiR : i < R.length := by omega
    have hi' : i < (srows R).length := by rw [srows_len]; exact hiR
    have hg := srows_get hiR
    have hlen := hR _ (List.getElem_mem hiR)
    generalize R[i] = t at hg hlen
    repeat (first | refine nl ?_ | refine AWP.seq ?_ | refine rg ?_ | refine AWP.skip ?_ | refine AWP.block ?_ | refine YH (z := ?_) | refine ZA (z := ?_) | refine ZF (z := ?_) | refine ZM (z := ?_))
    refine cle rfl rfl (eparse_ok1 t st hT.signs hT.words hT.tb.1) ?_
    have p2 := eparse_ok2 t (by omega) st
    cases hp : eparse t with
    | ok x =>
      rw [hp] at p2
      have hsm := same_xp x x true (by simp) st
      rw [epV] at p2 ⊢
      obtain ⟨op, num, name, field, args, hx⟩ := xrow_ex x
      rw [hx] at p2 hsm ⊢
      repeat (first | refine nl ?_ | refine AWP.seq ?_ | refine rg ?_ | refine ZA (z := ?_) | refine YA (z := ?_))
      refine cle rfl rfl p2 ?_
      repeat (first | refine nl ?_ | refine AWP.seq ?_ | refine rg ?_ | refine ZA (z := ?_) | refine ZD (z := ?_) | refine YA (z := ?_))
      refine cle rfl rfl hsm ?_
      repeat (first | refine nl ?_ | refine rg ?_ | refine AWP.skip ?_ | refine YI (z := ?_) | refine ZA (z := ?_) | refine ZO (z := ?_))
      exact ⟨i + 1, hi, by omega, (tl3 rfl rfl rfl), .refl _⟩
    | error e =>
      rw [hp] at p2
      have hsm := same_xp (.lit 0) (.lit 0) true (by simp) st
      rw [epV] at p2 ⊢
      have he : ¬ ((e : Int) ≠ (e : Int)) := fun h => h rfl
      repeat (first | refine nl ?_ | refine AWP.seq ?_ | refine rg ?_ | refine ZA (z := ?_) | refine YA (z := ?_))
      refine cle rfl rfl p2 ?_
      repeat (first | refine nl ?_ | refine AWP.seq ?_ | refine rg ?_ | refine ZA (z := ?_) | refine ZD (z := ?_) | refine YA (z := ?_) | refine YE (z := ?_))
      refine cle rfl rfl hsm ?_
      repeat (first | refine nl ?_ | refine rg ?_ | refine AWP.skip ?_ | refine YI (z := ?_) | refine ZA (z := ?_) | refine ZO (z := ?_))
      exact ⟨i + 1, hi, by omega, (tl3 rfl rfl rfl), .refl _⟩
  · repeat (first | refine nl ?_ | refine AWP.seq ?_ | refine rg ?_ | refine YI (z := ?_) | refine ZA (z := ?_))
    refine AWP.exit (blk_hit ?_)
    repeat (first | refine AWP.seq ?_ | refine rg ?_)
    refine cle rfl rfl (awake_ok st hT) ?_
    repeat (first | refine nl ?_ | refine ZA (z := ?_))
    exact AWP.ret (rets rfl (.refl _) (.refl _) rfl)
end Go.Proofs
/- ExpressionBack, plain. No conditions: definitions and lemmas only. -/
namespace Go.Proofs
open Go.AM

theorem take_snoc {α : Type} : ∀ {l : List α} {n : Nat} {c : α}, l[n]? = some c → l.take (n + 1) = l.take n ++ [c]
  | [], n, c, h => by simp at h
  | x :: r, 0, c, h => by simp at h; simp [h]
  | x :: r, n + 1, c, h => by
    rw [List.take_succ_cons, List.take_succ_cons, take_snoc (by simpa using h), List.cons_append]
theorem eparse_ne0 {s : List UInt8} {e : Nat} (h : eparse s = .error e) : e ≠ 0 := by
  unfold eparse at h
  split at h
  · rename_i h0
    have hq := (pe_all (7 * (scan s).1.length + 7)).1 1 0 (scan s).1 (by omega) (by omega) (by omega)
    rw [show pe (7 * (scan s).1.length + 7) 1 0 (scan s).1 = qe 1 0 (scan s).1 from rfl] at hq
    cases hp : qe 1 0 (scan s).1 with
    | error k =>
      rw [hp] at h hq
      have hq : k = 5 ∨ k = 7 := hq
      simp only at h
      have : k = e := by cases h; rfl
      omega
    | ok p =>
      rw [hp] at h
      simp only at h
      split at h
      · cases h
      · cases h
        decide
  · rename_i h0
    cases h
    exact h0
/-- What the other text is parsed to is another expression. -/
theorem back_z {w : List UInt8} {X : Xp} (hX : Wop X) (hc : c40 w < np X) : ∃ (z : Xp) (e : Nat), epV (eparse w) = .tuple [.agg (xrow z), .int .i64 (e : Int)] ∧ (e = 0 → toXT z ≠ toXT X) := by
  cases h : eparse w with
  | ok y => exact ⟨y, 0, by rw [epV]; rfl, fun _ k => enoless hc h (toXT_inj y X (eparse_ok h).1 hX k)⟩
  | error e => exact ⟨.lit 0, e, by rw [epV], fun k => absurd k (eparse_ne0 h)⟩

/-- The part of a text from a place to another. -/
def seg (s : List UInt8) (a i : Nat) : List UInt8 := (s.drop a).take (i - a)
theorem seg_self (s : List UInt8) (a : Nat) : seg s a a = [] := by simp [seg]
theorem seg_snoc {s : List UInt8} {a i : Nat} {c : UInt8} (h : a ≤ i) (hc : s[i]? = some c) : seg s a (i + 1) = seg s a i ++ [c] := by
  unfold seg
  rw [show i + 1 - a = (i - a) + 1 by omega]
  refine take_snoc ?_
  rw [List.getElem?_drop, show a + (i - a) = i by omega]
  exact hc
theorem seg_end {s : List UInt8} {a : Nat} : seg s a s.length = s.drop a := by
  unfold seg
  rw [List.take_of_length_le (by rw [List.length_drop]; omega)]
theorem c40_cut {s : List UInt8} {a b : Nat} (hc : s[a]? = some 40) (hab : a < b) (_ : b < s.length) : c40 (s.take a ++ (s.drop (a + 1)).take (b - (a + 1)) ++ s.drop (b + 1)) < c40 s := by
  rw [c40_append, c40_append]
  have ha : a < s.length := (List.getElem?_eq_some_iff.1 hc).1
  have h1 := c40_split s a
  have h2 : s.drop a = 40 :: s.drop (a + 1) := by
    rw [List.drop_eq_getElem_cons ha]
    rw [List.getElem?_eq_getElem ha] at hc
    rw [Option.some.inj hc]
  rw [h2, c40_cons, if_pos rfl] at h1
  have h3 := c40_split (s.drop (a + 1)) (b - (a + 1))
  rw [List.drop_drop, show a + 1 + (b - (a + 1)) = b by omega] at h3
  have h4 := c40_drop (s.drop b) 1
  rw [List.drop_drop] at h4
  omega
def prow (p : Nat) : List AV := [.int .i64 (p : Int)]
/-- What holds while the other parenthesis is looked for. -/
def BackI (s : List UInt8) (a i t d : Nat) : Prop :=
  (t = s.length ∧ a ≤ i ∧ i ≤ s.length ∧ c40 (seg s a i) = c41 (seg s a i) + d ∧ (i = a ∨ 1 ≤ d)) ∨ (a < t ∧ t < s.length ∧ i = t + 1)
theorem BackI.done {s : List UInt8} {a i t d : Nat} (hb : Bal s) (ha : a < s.length) (h : BackI s a i t d) (hit : ¬ i < t) : a < t ∧ t < s.length := by
  rcases h with ⟨h1, h2, h3, h4, h5⟩ | ⟨h1, h2, _⟩
  · exfalso
    have hi : i = s.length := by omega
    subst hi
    rw [seg_end] at h4
    have := hb.rest a
    omega
  · exact ⟨h1, h2⟩
end Go.Proofs
/- ExpressionBack. No conditions: definitions and lemmas only. -/
namespace Go.Proofs
open Go.AM
attribute [local irreducible] AWP AOps ACalls AAny
set_option linter.unusedSimpArgs false

theorem LTb.glob {st st1 : St} (h : LTb st) (e : st1.glob = st.glob) : LTb st1 := by
  obtain ⟨h1, h2, h3, h4⟩ := h
  refine ⟨?_, ?_, ?_, ?_⟩
  · unfold St.row at *; rw [e]; exact h1
  · unfold St.row at *; rw [e]; exact h2
  · unfold St.row at *; rw [e]; exact h3
  · rw [e]; exact h4

/-- A variable that is made and written once in a drawn region. -/
def XJ (st : St) (row : List AV) : List (Option AV) → St → Prop
  | [none, _], s => s = st
  | [some v, none], s => ∃ o, v = .cptr o 6 0 0 ∧ st.obj o = none ∧ s = st.set o (.cells 27 6 [exRow 0 0 [] [] nilV])
  | [some v, some _], s => ∃ o, v = .cptr o 6 0 0 ∧ st.obj o = none ∧ s = st.set o (.cells 27 6 [row])
  | _, _ => False
theorem vs2 {vs : List (Option AV)} {b1 b2 : Bool} (h : vs.map Option.isSome = [b1, b2]) : ∃ v1 v2, vs = [v1, v2] ∧ v1.isSome = b1 ∧ v2.isSome = b2 := by
  match vs, h with
  | [v1, v2], h => simp at h; exact ⟨v1, v2, rfl, h.1, h.2⟩

set_option maxHeartbeats 4000000 in
theorem ExpressionBack_ok (l : List Int) (hl : l.length ≤ 17592186043904) (_ : ∀ x ∈ l, (Lit.int .i64 x).wf = true) (at_ : Int) (_ : (Lit.int .i64 at_).wf = true) (st : St) (hT : LTb st) :
    ACalls Tryd.prog 5 [.view 1 (l.map fun x => [.int .i64 x]) .shared, .int .i64 at_] st (fun v _ => v = .bool true) (fun _ _ => False) := by
  refine ACalls.ofBody Tryd.func5 rfl Tryd.ntmps5 rfl ?_
  have hf := tre_f l
  have eP : trP 7 = 1146 := rfl
  have hbl := hf.bl
  have htl := hf.tl
  have hep := eparse_x hf.op hf.nm (by omega) (by omega)
  have hs := tre_len l
  have pr := print1_tre l st hT.tb
  have pa := eparse_ok1 (xby (tre l)) st hT.signs hT.words hT.tb.1
  obtain ⟨hbal, hnp⟩ := xby_bal (tre l) hf.op hf.nm
  have hop := hf.op
  clear hbl htl hf
  repeat (first | refine nl ?_ | refine AWP.seq ?_ | refine rg ?_ | refine ZA (z := ?_))
  refine cle rfl rfl (tree_ok l hl st) ?_
  generalize tre l = X at *
  obtain ⟨op, num, name, field, args, hx⟩ := xrow_ex X
  have sm := same_xp X X true (by simp) st
  rw [hx] at pr sm ⊢
  repeat (first | refine nl ?_ | refine AWP.seq ?_ | refine rg ?_ | refine ZD (z := ?_) | refine YA (z := ?_))
  refine cle rfl rfl pr ?_
  repeat (first | refine nl ?_ | refine AWP.seq ?_ | refine rg ?_ | refine ZA (z := ?_))
  refine cle rfl rfl pa ?_
  by_cases hnd : nd X ≤ 8
  rotate_left
  · rw [hep, if_neg hnd, epV]
    repeat (first | refine nl ?_ | refine AWP.seq ?_ | refine rg ?_ | refine YH (z := ?_) | refine ZA (z := ?_) | refine YA (z := ?_))
    refine cle rfl rfl (awake_ok st hT) ?_
    repeat (first | refine nl ?_ | refine ZA (z := ?_))
    exact AWP.ret (rets rfl (.refl _) (.refl _) rfl)
  rw [hep, if_pos hnd, epV, hx]
  clear pr pa hep
  generalize xby X = s at *
  repeat (first | refine nl ?_ | refine AWP.seq ?_ | refine rg ?_ | refine AWP.skip ?_ | refine YI (z := ?_) | refine ZA (z := ?_) | refine ZD (z := ?_) | refine YA (z := ?_))
  refine cle rfl rfl sm ?_
  repeat (first | refine nl ?_ | refine AWP.seq ?_ | refine rg ?_ | refine AWP.skip ?_ | refine AWP.block ?_ | refine YI (z := ?_) | refine ZA (z := ?_))
  refine AWP.nilTok 9 3 1 rfl fun tk htk => ?_
  refine AWP.loop (α := Nat × List Nat × Nat) (fun y => [(10, .int .i64 (y.1 : Int)), (9, .view 1 (y.2.1.map prow) (.own y.2.2 3)), (6, .str s), (5, .eptr 6 [exRow op num name field (.view 6 args .shared)] 0 0), (1, .int .i64 at_)]) (fun y => st.addTok y.2.2)
    (fun y => y.1 ≤ s.length ∧ y.2.1.length ≤ y.1 ∧ (∀ p ∈ y.2.1, s[p]? = some 40) ∧ st.tok y.2.2 = false) (fun y => s.length - y.1) (0, [], tk) ⟨Nat.zero_le _, Nat.le_refl _, fun p h => (by cases h), htk⟩ (tl5 rfl rfl rfl rfl rfl) (.refl _) ?_
  clear htk tk
  rintro ⟨i, L, tk⟩ ⟨q1, q2, q3, q4⟩
  simp only at q1 q2 q3 q4
  refine AWP.weaken (T' := [(10, .int .i64 (i : Int)), (9, .view 1 (L.map prow) (.own tk 3)), (6, .str s), (5, .eptr 6 [exRow op num name field (.view 6 args .shared)] 0 0), (1, .int .i64 at_)]) (st' := st.addTok tk) (tl5 rfl rfl rfl rfl rfl) (.refl _) ?_
  by_cases hi : i < s.length
  · have hc : s[i]? = some s[i] := List.getElem?_eq_getElem hi
    generalize s[i] = c at hc
    repeat (first | refine nl ?_ | refine AWP.seq ?_ | refine rg ?_ | refine AWP.skip ?_ | refine AWP.block ?_ | refine YH (z := ?_) | refine ZA (z := ?_) | refine ZL (z := ?_) | refine ZX (z := ?_))
    by_cases h40 : c = 40
    · have h40' : (c.toNat : Int) = 40 := by rw [h40]; rfl
      repeat (first | refine rg ?_ | refine YH (z := ?_) | refine ZA (z := ?_) | refine ZQ (z := ?_))
      refine ap rfl rfl rfl (St.tok_addTok _ _) rfl (by simp only [List.length_cons, List.length_nil, List.length_map]; omega) (by simp only [List.length_cons, List.length_nil, List.length_map, maxLen]; omega) fun tk' htk' => ?_
      have hm : L.map prow ++ [(AV.int .i64 (i : Int)).cells] = (L ++ [i]).map prow := by rw [List.map_append]; rfl
      rw [hm]
      repeat (first | refine nl ?_ | refine rg ?_ | refine ZA (z := ?_) | refine ZO (z := ?_))
      refine ⟨(i + 1, L ++ [i], tk'), ⟨hi, by simp only [List.length_append, List.length_cons, List.length_nil]; omega, fun p hp => ?_, St.tok_of_add htk'⟩, by simp only; omega, (tl5 rfl rfl rfl rfl rfl), StLe.reTok q4 tk'⟩
      rcases List.mem_append.1 hp with hp | hp
      · exact q3 p hp
      · rw [List.mem_singleton.1 hp, hc, h40]
    · have h40' : ¬ (c.toNat : Int) = 40 := fun h => h40 (UInt8.toNat_inj.1 (by show c.toNat = 40; omega))
      repeat (first | refine nl ?_ | refine rg ?_ | refine AWP.skip ?_ | refine YI (z := ?_) | refine ZA (z := ?_) | refine ZO (z := ?_))
      exact ⟨(i + 1, L, tk), ⟨hi, by simp only; omega, q3, q4⟩, by simp only; omega, (tl5 rfl rfl rfl rfl rfl), .refl _⟩
  · repeat (first | refine nl ?_ | refine AWP.seq ?_ | refine rg ?_ | refine YI (z := ?_) | refine ZA (z := ?_) | refine ZL (z := ?_))
    refine AWP.exit (blk_hit ?_)
    have q2' : L.length ≤ s.length := by omega
    refine AWP.weaken (T' := [(9, .view 1 (L.map prow) .shared), (6, .str s), (5, .eptr 6 [exRow op num name field (.view 6 args .shared)] 0 0), (1, .int .i64 at_)]) (st' := st) (TLe.cons rfl (.shared _ _ _) (tl3 rfl rfl rfl)) (StLe.addTok _ (.refl _)) ?_
    have lL : (L.map prow).length = L.length := List.length_map ..
    by_cases hL0 : L.length = 0
    · repeat (first | refine nl ?_ | refine AWP.seq ?_ | refine rg ?_ | refine YH (z := ?_) | refine ZA (z := ?_) | refine ZJ (z := ?_))
      rw [lL]
      skip
      refine cle rfl rfl (awake_ok st hT) ?_
      repeat (first | refine nl ?_ | refine ZA (z := ?_))
      exact AWP.ret (rets rfl (.refl _) (.refl _) rfl)
    obtain ⟨m, hm, hm2⟩ := mod_nat at_ (L.length : Int) (by omega)
    have hmL : m < L.length := by omega
    have hg : (L.map prow)[m]? = some (prow L[m]) := by rw [List.getElem?_map, List.getElem?_eq_getElem hmL]; rfl
    have hp := q3 _ (List.getElem_mem hmL)
    generalize L[m] = a at hg hp
    have ha : a < s.length := (List.getElem?_eq_some_iff.1 hp).1
    repeat (first | refine nl ?_ | refine AWP.seq ?_ | refine rg ?_ | refine AWP.skip ?_ | refine YI (z := ?_) | refine ZA (z := ?_) | refine ZJ (z := ?_))
    rw [lL]
    skip
    refine cle rfl rfl (modN_ok at_ _ m (by omega) (by omega) hm st) ?_
    refine ix (m := m) rfl rfl rfl rfl (by rw [lL]; exact hmL) ?_
    refine Go.AM.le rfl rfl hg rfl ?_
    repeat (first | refine nl ?_ | refine AWP.seq ?_ | refine rg ?_ | refine AWP.block ?_ | refine ZA (z := ?_) | refine ZL (z := ?_))
    refine AWP.loop (α := Nat × Nat × Nat) (fun y => [(14, .int .i64 (y.1 : Int)), (13, .int .i64 (y.2.1 : Int)), (12, .int .i64 (y.2.2 : Int)), (11, .int .i64 (a : Int)), (6, .str s), (5, .eptr 6 [exRow op num name field (.view 6 args .shared)] 0 0)]) (fun _ => st)
      (fun y => BackI s a y.1 y.2.1 y.2.2 ∧ y.2.2 ≤ y.1) (fun y => s.length - y.1) (a, s.length, 0) ⟨.inl ⟨rfl, Nat.le_refl _, Nat.le_of_lt ha, by rw [seg_self]; rfl, .inl rfl⟩, Nat.zero_le _⟩ (tl6 rfl rfl rfl rfl rfl rfl) (.refl _) ?_
    rintro ⟨i, t, d⟩ ⟨hI, hdi⟩
    simp only at hI hdi
    refine AWP.weaken (T' := [(14, .int .i64 (i : Int)), (13, .int .i64 (t : Int)), (12, .int .i64 (d : Int)), (11, .int .i64 (a : Int)), (6, .str s), (5, .eptr 6 [exRow op num name field (.view 6 args .shared)] 0 0)]) (tl6 rfl rfl rfl rfl rfl rfl) (.refl _) ?_
    by_cases hit : i < t
    · obtain ⟨k1, k2, k3, k4, k5⟩ : t = s.length ∧ a ≤ i ∧ i ≤ s.length ∧ c40 (seg s a i) = c41 (seg s a i) + d ∧ (i = a ∨ 1 ≤ d) := by
        rcases hI with h | ⟨h1, h2, h3⟩
        · exact h
        · omega
      have hi : i < s.length := by omega
      have hc : s[i]? = some s[i] := List.getElem?_eq_getElem hi
      generalize s[i] = c at hc
      have hsg := seg_snoc k2 hc
      repeat (first | refine nl ?_ | refine AWP.seq ?_ | refine rg ?_ | refine AWP.skip ?_ | refine AWP.block ?_ | refine YH (z := ?_) | refine ZA (z := ?_) | refine ZX (z := ?_))
      by_cases h40 : c = 40
      · have h40' : (c.toNat : Int) = 40 := by rw [h40]; rfl
        repeat (first | refine nl ?_ | refine rg ?_ | refine YH (z := ?_) | refine ZA (z := ?_) | refine ZO (z := ?_))
        refine ⟨(i + 1, t, d + 1), ⟨.inl ⟨k1, by simp only; omega, hi, ?_, .inr (by simp only; omega)⟩, by simp only; omega⟩, by simp only; omega, (tl6 rfl rfl rfl rfl rfl rfl), .refl _⟩
        simp only
        rw [hsg, c40_append, c41_append, h40, show c40 [40] = 1 from rfl, show c41 [40] = 0 from rfl]
        omega
      have h40' : ¬ (c.toNat : Int) = 40 := fun h => h40 (UInt8.toNat_inj.1 (by show c.toNat = 40; omega))
      have hne : i ≠ a := fun e => by
        subst e
        rw [hp] at hc
        exact h40 (Option.some.inj hc).symm
      have hd1 : 1 ≤ d := by rcases k5 with h | h; exact absurd h hne; exact h
      by_cases h41 : c = 41
      · have h41' : (c.toNat : Int) = 41 := by rw [h41]; rfl
        repeat (first | refine nl ?_ | refine AWP.seq ?_ | refine rg ?_ | refine YH (z := ?_) | refine YI (z := ?_) | refine ZA (z := ?_))
        refine sbn (a := d) (b := 1) rfl rfl rfl (by omega) ?_
        by_cases hd0 : d = 1
        · subst hd0
          repeat (first | refine nl ?_ | refine AWP.seq ?_ | refine rg ?_ | refine YH (z := ?_) | refine ZA (z := ?_) | refine ZO (z := ?_))
          exact ⟨(i + 1, i, 0), ⟨.inr ⟨by simp only; omega, hi, rfl⟩, by simp only; omega⟩, by simp only; omega, (tl6 rfl rfl rfl rfl rfl rfl), .refl _⟩
        · have hd0' : ¬ ((d - 1 : Nat) : Int) = 0 := by omega
          repeat (first | refine nl ?_ | refine AWP.seq ?_ | refine rg ?_ | refine AWP.skip ?_ | refine YI (z := ?_) | refine ZA (z := ?_) | refine ZO (z := ?_))
          refine ⟨(i + 1, t, d - 1), ⟨.inl ⟨k1, by simp only; omega, hi, ?_, .inr (by simp only; omega)⟩, by simp only; omega⟩, by simp only; omega, (tl6 rfl rfl rfl rfl rfl rfl), .refl _⟩
          simp only
          rw [hsg, c40_append, c41_append, h41, show c40 [41] = 0 from rfl, show c41 [41] = 1 from rfl]
          omega
      · have h41' : ¬ (c.toNat : Int) = 41 := fun h => h41 (UInt8.toNat_inj.1 (by show c.toNat = 41; omega))
        repeat (first | refine nl ?_ | refine AWP.seq ?_ | refine rg ?_ | refine AWP.skip ?_ | refine YI (z := ?_) | refine ZA (z := ?_) | refine ZO (z := ?_))
        refine ⟨(i + 1, t, d), ⟨.inl ⟨k1, by simp only; omega, hi, ?_, .inr hd1⟩, by simp only; omega⟩, by simp only; omega, (tl6 rfl rfl rfl rfl rfl rfl), .refl _⟩
        simp only
        rw [hsg, c40_append, c41_append, c40_cons, c41_cons, if_neg h40, if_neg h41]
        show c40 (seg s a i) + (0 + 0) = c41 (seg s a i) + (0 + 0) + d
        omega
    · repeat (first | refine nl ?_ | refine AWP.seq ?_ | refine rg ?_ | refine YI (z := ?_) | refine ZA (z := ?_))
      refine AWP.exit (blk_hit ?_)
      obtain ⟨t1, t2⟩ := hI.done hbal ha hit
      refine AWP.weaken (T' := [(13, .int .i64 (t : Int)), (11, .int .i64 (a : Int)), (6, .str s), (5, .eptr 6 [exRow op num name field (.view 6 args .shared)] 0 0)]) (st' := st) (tl4 rfl rfl rfl rfl) (.refl _) ?_
      have hlt := c40_cut hp t1 t2
      rw [hnp] at hlt
      obtain ⟨z, e, hz, hzX⟩ := back_z hop hlt
      have hts : (t : Int) < (s.length : Int) := by omega
      repeat (first | refine nl ?_ | refine AWP.seq ?_ | refine rg ?_ | refine AWP.skip ?_ | refine YI (z := ?_) | refine ZA (z := ?_) | refine ZL (z := ?_))
      refine AWP.any rfl ?_
      obtain ⟨op2, num2, name2, field2, args2, hz2⟩ := xrow_ex z
      rw [hz2] at hz
      apply AAny.segW (k' := 21) (Es := [18, 19]) (J := XJ st (exRow op2 num2 name2 field2 (.view 6 args2 .shared))) (base := st) (hok := by decide +kernel) (hJ := rfl) (hb := .refl _)
      repeat (first | apply dsV (hi := rfl) (hs := rfl) | apply dqV (hi := rfl) (hd := rfl) (hw := rfl) (h := fun _ _ => ZZ (z := nz)) | apply dqV (hi := rfl) (hd := rfl) (hw := rfl) (h := fun _ _ => ZO (z := nz)))
      apply dqV (hi := rfl) (hd := rfl) (hw := rfl) (h := fun _ _ => ss2 (a := a + 1) (b := t) rfl rfl rfl rfl (by omega) (by omega) nz)
      skip
      apply dqV (hi := rfl) (hd := rfl) (hw := rfl) (h := fun _ _ => sad rfl rfl rfl (by simp only [List.length_append, List.length_take, List.length_drop]; omega) nz)
      repeat (first | apply dsV (hi := rfl) (hs := rfl) | apply dqV (hi := rfl) (hd := rfl) (hw := rfl) (h := fun _ _ => ZY (z := nz)) | apply dqV (hi := rfl) (hd := rfl) (hw := rfl) (h := fun _ _ => ZO (z := nz)))
      apply dqV (hi := rfl) (hd := rfl) (hw := rfl) (h := fun _ _ => sad rfl rfl rfl (by simp only [List.length_append, List.length_take, List.length_drop]; omega) nz)
      apply dqV (hi := rfl) (hd := rfl) (hw := rfl) (v := .tuple [.agg (exRow op2 num2 name2 field2 (.view 6 args2 .shared)), .int .i64 (e : Int)]) (h := fun st' hle => by
        have hT' := hT.glob hle.glob.symm
        have pa' := eparse_ok1 (s.take a ++ (s.drop (a + 1)).take (t - (a + 1)) ++ s.drop (t + 1)) st' hT'.signs hT'.words hT'.tb.1
        rw [hz] at pa'
        exact cle rfl rfl pa' nz)
      repeat (apply dsV (hi := rfl) (hs := rfl))
      apply deV (Q := fun v => ∃ o, v = .cptr o 6 0 0) (L := [[false, false]]) (hL := rfl) (hd := rfl) (hw := rfl) (hex := ⟨_, 0, rfl⟩) (h := by
        refine ⟨?_, trivial⟩
        intro vs hvs hlk s1 hJ hb
        obtain ⟨v1, v2, rfl, e1, e2⟩ := vs2 hvs
        obtain rfl : v1 = none := by simpa using e1
        obtain rfl : v2 = none := by simpa using e2
        obtain rfl : s1 = st := hJ
        refine al rfl rfl fun o6 h6 => nl ⟨_, rfl, ⟨o6, rfl⟩, ⟨o6, rfl, h6, rfl⟩, StLe.new h6 (.refl _)⟩)
      rintro v ⟨o6, rfl⟩
      apply dnW (L := [[true, false]]) (hL := rfl) (hd := rfl) (hw := rfl) (h := by
        refine ⟨?_, trivial⟩
        intro vs hvs hlk s1 hJ hb
        obtain ⟨v1, v2, rfl, e1, e2⟩ := vs2 hvs
        obtain rfl : v2 = none := by simpa using e2
        cases v1 with
        | none => cases e1
        | some v1 =>
          have ev1 : v1 = .cptr o6 6 0 0 := hlk (18, some v1) (.head _) (Nat.le_of_ble_eq_true rfl) v1 rfl
          subst ev1
          obtain ⟨o7, h7, h8, rfl⟩ := hJ
          cases h7
          refine soV rfl rfl rfl rfl rfl rfl (nl ⟨rfl, fun u => ⟨o6, rfl, h8, rfl⟩, StLe.new h8 (.refl _)⟩))
      intro u
      repeat (apply dsV (hi := rfl) (hs := rfl))
      refine dnV fun s1 hs => ?_
      obtain ⟨o7, h7, h8, rfl⟩ := hs
      cases h7
      refine AAny.text rfl ?_
      have hT6 : ∀ c, LTb (st.set o6 c) := fun c => hT.glob rfl
      by_cases he : e = 0
      · have he' : (e : Int) = 0 := by omega
        have sm2 := same_xp z X false (by simpa using hzX he)
        rw [hx, hz2] at sm2
        repeat (first | refine nl ?_ | refine AWP.seq ?_ | refine rg ?_ | refine ZA (z := ?_) | refine ZD (z := ?_) | refine ZE (z := ?_) | refine YE (z := ?_))
        refine cle rfl rfl (sm2 _) ?_
        repeat (refine ZA (z := ?_))
        refine cle rfl rfl (awake_ok _ (hT6 _)) ?_
        repeat (first | refine nl ?_ | refine ZA (z := ?_))
        exact AWP.ret (rets rfl (.refl _) (.refl _) rfl)
      · have he' : ¬ (e : Int) = 0 := by omega
        repeat (first | refine nl ?_ | refine AWP.seq ?_ | refine rg ?_ | refine ZA (z := ?_) | refine ZB (z := ?_) | refine YD (z := ?_))
        refine cle rfl rfl (awake_ok _ (hT6 _)) ?_
        repeat (first | refine nl ?_ | refine ZA (z := ?_))
        exact AWP.ret (rets rfl (.refl _) (.refl _) rfl)
end Go.Proofs
