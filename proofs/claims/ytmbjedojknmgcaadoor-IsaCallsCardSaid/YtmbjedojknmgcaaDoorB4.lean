/- The walk of Run. No conditions: lemmas only. -/
import Derived.Shelf.Strconv.Itoa3
import Derived.Test.YtmbjedojknmgcaaDoorProg
import Derived.Lib.ItoaNum
import Derived.Test.YtmbjedojknmgcaaDoorRows
import Derived.Test.YtmbjedojknmgcaaDoorTie
import Derived.Test.YtmbjedojknmgcaaDoorCards
import Derived.ProofKit
import Derived.OpenShut
import Derived.Lay
import Derived.Test.YtmbjedojknmgcaaDoorB3
namespace Go.Proofs
open Go.AM
attribute [local irreducible] AWP AOps ACalls RS
set_option linter.unusedSimpArgs false

theorem flat_iv : ∀ l : List Int, (l.map ivRow).flatten = l.map iv
  | [] => rfl
  | x :: l => by simp only [List.map_cons, List.flatten_cons, flat_iv l]; rfl
structure RX where
  m : List Int
  c : Cp
  out : List Int
  tk : Nat
  n : Nat
set_option maxHeartbeats 8000000 in
theorem run_ok (raw args : List Int) (size entry steps : Int) (wv av : AV) (hwv : Le wv (.view 1 (raw.map ivRow) .shared)) (hav : Le av (.view 1 (args.map ivRow) .shared)) (hr : ∀ x ∈ raw, w64 x) (ha : ∀ x ∈ args, w64 x) (he : w64 entry)
    (hl : raw.length ≤ 1000000) (hla : args.length ≤ 1000000) (st : St) :
    ACalls Tryd.prog 24 [wv, .int .i64 size, .int .i64 entry, av, .int .i64 steps] st (fun v st' => v = .agg (ocRow (runP raw size entry args steps)) ∧ st' = st) (fun _ _ => False) := by
  refine ACalls.ofBody Tryd.func24 rfl Tryd.ntmps24 rfl ?_
  refine AWP.weaken (T' := [(0, .view 1 (raw.map ivRow) .shared), (1, .int .i64 size), (2, .int .i64 entry), (3, .view 1 (args.map ivRow) .shared), (4, .int .i64 steps)]) (TLe.cons rfl hwv (TLe.cons' rfl (TLe.cons' rfl (TLe.cons rfl hav (TLe.cons' rfl (.nil _)))))) (.refl _) ?_
  have lr : (raw.map ivRow).length = raw.length := List.length_map ..
  have lg : (args.map ivRow).length = args.length := List.length_map ..
  have bad : ¬ runOk raw.length size args.length steps → runP raw size entry args steps = ⟨1, false, 0, []⟩ := fun h => by rw [runP, if_neg h]
  repeat (first | refine nl ?_ | refine AWP.seq ?_ | refine AWP.skip ?_ | refine AWP.block ?_)
  refine rg ?_
  refine al rfl rfl fun o1 h1 => ?_
  repeat (first | refine nl ?_ | refine AWP.seq ?_ | refine rg ?_ | refine AWP.skip ?_ | refine AWP.block ?_ | refine YH (z := ?_) | refine YI (z := ?_) | refine ZA (z := ?_) | refine ZB (z := ?_) | refine ZC (z := ?_) | refine ZD (z := ?_) | refine ZF (z := ?_) | refine ZJ (z := ?_) | refine ZK (z := ?_) | refine ZO (z := ?_) | refine ZQ (z := ?_) | refine ZR (z := ?_) | refine YA (z := ?_) | refine ZG (z := ?_) | refine ZI (z := ?_) | refine YC (z := ?_) | refine YD (z := ?_))
  refine Go.AM.ad rfl rfl rfl (by omega) ?_
  rw [lr]
  repeat (first | refine nl ?_ | refine AWP.seq ?_ | refine rg ?_ | refine AWP.skip ?_ | refine AWP.block ?_ | refine YH (z := ?_) | refine YI (z := ?_) | refine ZA (z := ?_) | refine ZB (z := ?_) | refine ZC (z := ?_) | refine ZD (z := ?_) | refine ZF (z := ?_) | refine ZJ (z := ?_) | refine ZK (z := ?_) | refine ZO (z := ?_) | refine ZQ (z := ?_) | refine ZR (z := ?_) | refine YA (z := ?_) | refine ZG (z := ?_) | refine ZI (z := ?_) | refine YC (z := ?_) | refine YD (z := ?_))
  refine gS rfl (fun c1 => ?_) (fun c1 => ?_)
  · have c1' : size < (raw.length : Int) + 16 := c1
    repeat (first | refine nl ?_ | refine AWP.seq ?_ | refine rg ?_ | refine AWP.skip ?_ | refine AWP.block ?_ | refine YH (z := ?_) | refine YI (z := ?_) | refine ZA (z := ?_) | refine ZB (z := ?_) | refine ZC (z := ?_) | refine ZD (z := ?_) | refine ZF (z := ?_) | refine ZJ (z := ?_) | refine ZK (z := ?_) | refine ZO (z := ?_) | refine ZQ (z := ?_) | refine ZR (z := ?_) | refine YA (z := ?_) | refine ZG (z := ?_) | refine ZI (z := ?_) | refine YC (z := ?_) | refine YD (z := ?_))
    refine bds (cs := [.int .i64 1, .bool false, .int .i64 0, .view 0 [] .nil]) rfl rfl rfl rfl ?_
    refine soV rfl rfl rfl rfl rfl rfl ?_
    repeat (first | refine nl ?_ | refine AWP.seq ?_ | refine rg ?_ | refine AWP.skip ?_ | refine AWP.block ?_ | refine YH (z := ?_) | refine YI (z := ?_) | refine ZA (z := ?_) | refine ZB (z := ?_) | refine ZC (z := ?_) | refine ZD (z := ?_) | refine ZF (z := ?_) | refine ZJ (z := ?_) | refine ZK (z := ?_) | refine ZO (z := ?_) | refine ZQ (z := ?_) | refine ZR (z := ?_) | refine YA (z := ?_) | refine ZG (z := ?_) | refine ZI (z := ?_) | refine YC (z := ?_) | refine YD (z := ?_))
    refine AWP.ret (rets (resCW rfl (St.obj_set _ _ _) rfl rfl rfl rfl) (oc_nil _ _ _) (StLe.new h1 (.refl _)) ⟨?_, rfl⟩)
    rw [bad fun h => h.1 c1']
  have c1' : ¬ size < (raw.length : Int) + 16 := c1
  repeat (first | refine nl ?_ | refine AWP.seq ?_ | refine rg ?_ | refine AWP.skip ?_ | refine AWP.block ?_ | refine YH (z := ?_) | refine YI (z := ?_) | refine ZA (z := ?_) | refine ZB (z := ?_) | refine ZC (z := ?_) | refine ZD (z := ?_) | refine ZF (z := ?_) | refine ZJ (z := ?_) | refine ZK (z := ?_) | refine ZO (z := ?_) | refine ZQ (z := ?_) | refine ZR (z := ?_) | refine YA (z := ?_) | refine ZG (z := ?_) | refine ZI (z := ?_) | refine YC (z := ?_) | refine YD (z := ?_))
  refine gS rfl (fun c2 => ?_) (fun c2 => ?_)
  · have c2' : 16384 < size := c2
    repeat (first | refine nl ?_ | refine AWP.seq ?_ | refine rg ?_ | refine AWP.skip ?_ | refine AWP.block ?_ | refine YH (z := ?_) | refine YI (z := ?_) | refine ZA (z := ?_) | refine ZB (z := ?_) | refine ZC (z := ?_) | refine ZD (z := ?_) | refine ZF (z := ?_) | refine ZJ (z := ?_) | refine ZK (z := ?_) | refine ZO (z := ?_) | refine ZQ (z := ?_) | refine ZR (z := ?_) | refine YA (z := ?_) | refine ZG (z := ?_) | refine ZI (z := ?_) | refine YC (z := ?_) | refine YD (z := ?_))
    refine bds (cs := [.int .i64 1, .bool false, .int .i64 0, .view 0 [] .nil]) rfl rfl rfl rfl ?_
    refine soV rfl rfl rfl rfl rfl rfl ?_
    repeat (first | refine nl ?_ | refine AWP.seq ?_ | refine rg ?_ | refine AWP.skip ?_ | refine AWP.block ?_ | refine YH (z := ?_) | refine YI (z := ?_) | refine ZA (z := ?_) | refine ZB (z := ?_) | refine ZC (z := ?_) | refine ZD (z := ?_) | refine ZF (z := ?_) | refine ZJ (z := ?_) | refine ZK (z := ?_) | refine ZO (z := ?_) | refine ZQ (z := ?_) | refine ZR (z := ?_) | refine YA (z := ?_) | refine ZG (z := ?_) | refine ZI (z := ?_) | refine YC (z := ?_) | refine YD (z := ?_))
    refine AWP.ret (rets (resCW rfl (St.obj_set _ _ _) rfl rfl rfl rfl) (oc_nil _ _ _) (StLe.new h1 (.refl _)) ⟨?_, rfl⟩)
    rw [bad fun h => h.2.1 c2']
  have c2' : ¬ 16384 < size := c2
  repeat (first | refine nl ?_ | refine AWP.seq ?_ | refine rg ?_ | refine AWP.skip ?_ | refine AWP.block ?_ | refine YH (z := ?_) | refine YI (z := ?_) | refine ZA (z := ?_) | refine ZB (z := ?_) | refine ZC (z := ?_) | refine ZD (z := ?_) | refine ZF (z := ?_) | refine ZJ (z := ?_) | refine ZK (z := ?_) | refine ZO (z := ?_) | refine ZQ (z := ?_) | refine ZR (z := ?_) | refine YA (z := ?_) | refine ZG (z := ?_) | refine ZI (z := ?_) | refine YC (z := ?_) | refine YD (z := ?_))
  refine gS rfl (fun c3 => ?_) (fun c3 => ?_)
  · have c3' : 4 < ((args.map ivRow).length : Int) := c3
    repeat (first | refine nl ?_ | refine AWP.seq ?_ | refine rg ?_ | refine AWP.skip ?_ | refine AWP.block ?_ | refine YH (z := ?_) | refine YI (z := ?_) | refine ZA (z := ?_) | refine ZB (z := ?_) | refine ZC (z := ?_) | refine ZD (z := ?_) | refine ZF (z := ?_) | refine ZJ (z := ?_) | refine ZK (z := ?_) | refine ZO (z := ?_) | refine ZQ (z := ?_) | refine ZR (z := ?_) | refine YA (z := ?_) | refine ZG (z := ?_) | refine ZI (z := ?_) | refine YC (z := ?_) | refine YD (z := ?_))
    refine bds (cs := [.int .i64 1, .bool false, .int .i64 0, .view 0 [] .nil]) rfl rfl rfl rfl ?_
    refine soV rfl rfl rfl rfl rfl rfl ?_
    repeat (first | refine nl ?_ | refine AWP.seq ?_ | refine rg ?_ | refine AWP.skip ?_ | refine AWP.block ?_ | refine YH (z := ?_) | refine YI (z := ?_) | refine ZA (z := ?_) | refine ZB (z := ?_) | refine ZC (z := ?_) | refine ZD (z := ?_) | refine ZF (z := ?_) | refine ZJ (z := ?_) | refine ZK (z := ?_) | refine ZO (z := ?_) | refine ZQ (z := ?_) | refine ZR (z := ?_) | refine YA (z := ?_) | refine ZG (z := ?_) | refine ZI (z := ?_) | refine YC (z := ?_) | refine YD (z := ?_))
    refine AWP.ret (rets (resCW rfl (St.obj_set _ _ _) rfl rfl rfl rfl) (oc_nil _ _ _) (StLe.new h1 (.refl _)) ⟨?_, rfl⟩)
    rw [bad fun h => h.2.2.1 (by rw [lg] at c3'; exact c3')]
  have c3' : ¬ 4 < ((args.map ivRow).length : Int) := c3
  repeat (first | refine nl ?_ | refine AWP.seq ?_ | refine rg ?_ | refine AWP.skip ?_ | refine AWP.block ?_ | refine YH (z := ?_) | refine YI (z := ?_) | refine ZA (z := ?_) | refine ZB (z := ?_) | refine ZC (z := ?_) | refine ZD (z := ?_) | refine ZF (z := ?_) | refine ZJ (z := ?_) | refine ZK (z := ?_) | refine ZO (z := ?_) | refine ZQ (z := ?_) | refine ZR (z := ?_) | refine YA (z := ?_) | refine ZG (z := ?_) | refine ZI (z := ?_) | refine YC (z := ?_) | refine YD (z := ?_))
  refine gS rfl (fun c4 => ?_) (fun c4 => ?_)
  · have c4' : steps < 0 := c4
    repeat (first | refine nl ?_ | refine AWP.seq ?_ | refine rg ?_ | refine AWP.skip ?_ | refine AWP.block ?_ | refine YH (z := ?_) | refine YI (z := ?_) | refine ZA (z := ?_) | refine ZB (z := ?_) | refine ZC (z := ?_) | refine ZD (z := ?_) | refine ZF (z := ?_) | refine ZJ (z := ?_) | refine ZK (z := ?_) | refine ZO (z := ?_) | refine ZQ (z := ?_) | refine ZR (z := ?_) | refine YA (z := ?_) | refine ZG (z := ?_) | refine ZI (z := ?_) | refine YC (z := ?_) | refine YD (z := ?_))
    refine bds (cs := [.int .i64 1, .bool false, .int .i64 0, .view 0 [] .nil]) rfl rfl rfl rfl ?_
    refine soV rfl rfl rfl rfl rfl rfl ?_
    repeat (first | refine nl ?_ | refine AWP.seq ?_ | refine rg ?_ | refine AWP.skip ?_ | refine AWP.block ?_ | refine YH (z := ?_) | refine YI (z := ?_) | refine ZA (z := ?_) | refine ZB (z := ?_) | refine ZC (z := ?_) | refine ZD (z := ?_) | refine ZF (z := ?_) | refine ZJ (z := ?_) | refine ZK (z := ?_) | refine ZO (z := ?_) | refine ZQ (z := ?_) | refine ZR (z := ?_) | refine YA (z := ?_) | refine ZG (z := ?_) | refine ZI (z := ?_) | refine YC (z := ?_) | refine YD (z := ?_))
    refine AWP.ret (rets (resCW rfl (St.obj_set _ _ _) rfl rfl rfl rfl) (oc_nil _ _ _) (StLe.new h1 (.refl _)) ⟨?_, rfl⟩)
    rw [bad fun h => h.2.2.2.1 c4']
  have c4' : ¬ steps < 0 := c4
  repeat (first | refine nl ?_ | refine AWP.seq ?_ | refine rg ?_ | refine AWP.skip ?_ | refine AWP.block ?_ | refine YH (z := ?_) | refine YI (z := ?_) | refine ZA (z := ?_) | refine ZB (z := ?_) | refine ZC (z := ?_) | refine ZD (z := ?_) | refine ZF (z := ?_) | refine ZJ (z := ?_) | refine ZK (z := ?_) | refine ZO (z := ?_) | refine ZQ (z := ?_) | refine ZR (z := ?_) | refine YA (z := ?_) | refine ZG (z := ?_) | refine ZI (z := ?_) | refine YC (z := ?_) | refine YD (z := ?_))
  refine AWP.cond_dec rfl (fun c5 => ?_) (fun c5 => AWP.skip ?_)
  · have c5' : 200000 < steps := c5
    repeat (first | refine nl ?_ | refine AWP.seq ?_ | refine rg ?_ | refine AWP.skip ?_ | refine AWP.block ?_ | refine YH (z := ?_) | refine YI (z := ?_) | refine ZA (z := ?_) | refine ZB (z := ?_) | refine ZC (z := ?_) | refine ZD (z := ?_) | refine ZF (z := ?_) | refine ZJ (z := ?_) | refine ZK (z := ?_) | refine ZO (z := ?_) | refine ZQ (z := ?_) | refine ZR (z := ?_) | refine YA (z := ?_) | refine ZG (z := ?_) | refine ZI (z := ?_) | refine YC (z := ?_) | refine YD (z := ?_))
    refine bds (cs := [.int .i64 1, .bool false, .int .i64 0, .view 0 [] .nil]) rfl rfl rfl rfl ?_
    refine soV rfl rfl rfl rfl rfl rfl ?_
    repeat (first | refine nl ?_ | refine AWP.seq ?_ | refine rg ?_ | refine AWP.skip ?_ | refine AWP.block ?_ | refine YH (z := ?_) | refine YI (z := ?_) | refine ZA (z := ?_) | refine ZB (z := ?_) | refine ZC (z := ?_) | refine ZD (z := ?_) | refine ZF (z := ?_) | refine ZJ (z := ?_) | refine ZK (z := ?_) | refine ZO (z := ?_) | refine ZQ (z := ?_) | refine ZR (z := ?_) | refine YA (z := ?_) | refine ZG (z := ?_) | refine ZI (z := ?_) | refine YC (z := ?_) | refine YD (z := ?_))
    refine AWP.ret (rets (resCW rfl (St.obj_set _ _ _) rfl rfl rfl rfl) (oc_nil _ _ _) (StLe.new h1 (.refl _)) ⟨?_, rfl⟩)
    rw [bad fun h => h.2.2.2.2 c5']
  have c5' : ¬ 200000 < steps := c5
  rw [lg] at c3'
  have hok : runOk raw.length size args.length steps := ⟨c1', c2', c3', c4', c5'⟩
  obtain ⟨N, rfl⟩ : ∃ N : Nat, size = (N : Int) := ⟨size.toNat, by omega⟩
  obtain ⟨S, rfl⟩ : ∃ S : Nat, steps = (S : Int) := ⟨steps.toNat, by omega⟩
  have hrun : runP raw (N : Int) entry args (S : Int) = runL S (mem0 raw N) (cpu0 N entry args) [] := by rw [runP, if_pos hok, Int.toNat_natCast, Int.toNat_natCast]
  rw [hrun]
  repeat (first | refine nl ?_ | refine AWP.seq ?_ | refine rg ?_ | refine AWP.skip ?_ | refine AWP.block ?_ | refine YH (z := ?_) | refine YI (z := ?_) | refine ZA (z := ?_) | refine ZB (z := ?_) | refine ZC (z := ?_) | refine ZD (z := ?_) | refine ZF (z := ?_) | refine ZJ (z := ?_) | refine ZK (z := ?_) | refine ZO (z := ?_) | refine ZQ (z := ?_) | refine ZR (z := ?_) | refine YA (z := ?_) | refine ZG (z := ?_) | refine ZI (z := ?_) | refine YC (z := ?_) | refine YD (z := ?_))
  refine mk (len := N) (cap := N) rfl rfl rfl rfl (Nat.le_refl _) (by omega) (by omega) fun oM hM => ?_
  have nM : oM ≠ o1 := St.new_ne hM
  rw [show zrow (Value.int .i64 0) = [AV.int .i64 0] from rfl, zeros_map]
  repeat (first | refine nl ?_ | refine AWP.seq ?_ | refine rg ?_ | refine AWP.skip ?_ | refine AWP.block ?_ | refine YH (z := ?_) | refine YI (z := ?_) | refine ZA (z := ?_) | refine ZB (z := ?_) | refine ZC (z := ?_) | refine ZD (z := ?_) | refine ZF (z := ?_) | refine ZJ (z := ?_) | refine ZK (z := ?_) | refine ZO (z := ?_) | refine ZQ (z := ?_) | refine ZR (z := ?_) | refine YA (z := ?_) | refine ZG (z := ?_) | refine ZI (z := ?_) | refine YC (z := ?_) | refine YD (z := ?_))
  refine cpm (k1 := raw.length) rfl rfl rfl (St.obj_set _ _ _) (by simp) (by rw [lr]; omega) ?_
  rw [copy_rows, St.set_set]
  repeat (first | refine nl ?_ | refine AWP.seq ?_ | refine rg ?_ | refine AWP.skip ?_ | refine AWP.block ?_ | refine YH (z := ?_) | refine YI (z := ?_) | refine ZA (z := ?_) | refine ZB (z := ?_) | refine ZC (z := ?_) | refine ZD (z := ?_) | refine ZF (z := ?_) | refine ZJ (z := ?_) | refine ZK (z := ?_) | refine ZO (z := ?_) | refine ZQ (z := ?_) | refine ZR (z := ?_) | refine YA (z := ?_) | refine ZG (z := ?_) | refine ZI (z := ?_) | refine YC (z := ?_) | refine YD (z := ?_))
  refine Go.AM.sb rfl rfl rfl (by omega) ?_
  rw [show (N : Int) - 1 = ((N - 1 : Nat) : Int) by omega]
  refine ixm (m := N - 1) rfl rfl rfl rfl (by omega) ?_
  have hmr : ((raw ++ List.replicate (N - raw.length) 0).map ivRow)[0 + (N - 1)]? = some [.int .i64 (memAt (raw ++ List.replicate (N - raw.length) 0) ((N - 1 : Nat) : Int))] := by
    have := (mem_at (m := raw ++ List.replicate (N - raw.length) 0) (n := ((N - 1 : Nat) : Int)) (ins_iff.2 ⟨by omega, by simp; omega⟩)).1
    rwa [Int.toNat_natCast] at this
  refine so (rows' := (mem0 raw N).map ivRow) rfl rfl rfl (St.obj_set _ _ _) hmr rfl rfl rfl (mem_set _) ?_
  rw [St.set_set]
  repeat (first | refine nl ?_ | refine AWP.seq ?_ | refine rg ?_ | refine AWP.skip ?_ | refine AWP.block ?_ | refine YH (z := ?_) | refine YI (z := ?_) | refine ZA (z := ?_) | refine ZB (z := ?_) | refine ZC (z := ?_) | refine ZD (z := ?_) | refine ZF (z := ?_) | refine ZJ (z := ?_) | refine ZK (z := ?_) | refine ZO (z := ?_) | refine ZQ (z := ?_) | refine ZR (z := ?_) | refine YA (z := ?_) | refine ZG (z := ?_) | refine ZI (z := ?_) | refine YC (z := ?_) | refine YD (z := ?_))
  refine bds (cs := cpRow ⟨List.replicate 16 0, entry⟩) rfl rfl rfl rfl ?_
  refine al rfl rfl fun oC hC => ?_
  have nC : oC ≠ oM := St.new_ne hC
  have nC1 : oC ≠ o1 := St.new_ne (St.new_old' hC)
  refine soV rfl rfl rfl rfl rfl rfl ?_
  repeat (first | refine nl ?_ | refine AWP.seq ?_ | refine rg ?_ | refine AWP.skip ?_ | refine AWP.block ?_ | refine YH (z := ?_) | refine YI (z := ?_) | refine ZA (z := ?_) | refine ZB (z := ?_) | refine ZC (z := ?_) | refine ZD (z := ?_) | refine ZF (z := ?_) | refine ZJ (z := ?_) | refine ZK (z := ?_) | refine ZO (z := ?_) | refine ZQ (z := ?_) | refine ZR (z := ?_) | refine YA (z := ?_) | refine ZG (z := ?_) | refine ZI (z := ?_) | refine YC (z := ?_) | refine YD (z := ?_))
  refine Go.AM.sb rfl rfl rfl (by omega) ?_
  repeat (first | refine ZA (z := ?_) | refine ZB (z := ?_) | refine ZC (z := ?_) | refine ZD (z := ?_) | refine ZF (z := ?_) | refine ZJ (z := ?_) | refine ZK (z := ?_) | refine ZO (z := ?_) | refine ZQ (z := ?_) | refine ZR (z := ?_) | refine YA (z := ?_) | refine ZG (z := ?_) | refine ZI (z := ?_) | refine YC (z := ?_) | refine YD (z := ?_))
  refine ixa (m := 14) rfl rfl rfl (by decide) rfl ?_
  refine so1 rfl rfl rfl rfl rfl (Nat.le_of_ble_eq_true rfl) (cp_put (n := 14) rfl rfl (by decide) _) ?_
  repeat (first | refine nl ?_ | refine AWP.seq ?_ | refine rg ?_ | refine AWP.skip ?_ | refine AWP.block ?_ | refine YH (z := ?_) | refine YI (z := ?_) | refine ZA (z := ?_) | refine ZB (z := ?_) | refine ZC (z := ?_) | refine ZD (z := ?_) | refine ZF (z := ?_) | refine ZJ (z := ?_) | refine ZK (z := ?_) | refine ZO (z := ?_) | refine ZQ (z := ?_) | refine ZR (z := ?_) | refine YA (z := ?_) | refine ZG (z := ?_) | refine ZI (z := ?_) | refine YC (z := ?_) | refine YD (z := ?_))
  refine sla (a := 1) rfl rfl rfl (St.obj_set _ _ _) (by decide) (Nat.le_of_ble_eq_true rfl) (by decide) ?_
  repeat (first | refine ZA (z := ?_) | refine ZB (z := ?_) | refine ZC (z := ?_) | refine ZD (z := ?_) | refine ZF (z := ?_) | refine ZJ (z := ?_) | refine ZK (z := ?_) | refine ZO (z := ?_) | refine ZQ (z := ?_) | refine ZR (z := ?_) | refine YA (z := ?_) | refine ZG (z := ?_) | refine ZI (z := ?_) | refine YC (z := ?_) | refine YD (z := ?_))
  refine cpa (k1 := args.length) (cs := args.map iv) rfl rfl rfl (St.obj_set _ _ _) (Nat.le_of_ble_eq_true rfl) (by rw [lg]; omega) (by rw [flat_iv, List.take_of_length_le (by simp)]) ?_
  rw [St.set_set, copy_args (by omega)]
  repeat (first | refine nl ?_ | refine AWP.seq ?_ | refine AWP.skip ?_ | refine AWP.block ?_)
  refine rg ?_
  repeat (first | refine ZA (z := ?_) | refine ZB (z := ?_) | refine ZC (z := ?_) | refine ZD (z := ?_) | refine ZF (z := ?_) | refine ZJ (z := ?_) | refine ZK (z := ?_) | refine ZO (z := ?_) | refine ZQ (z := ?_) | refine ZR (z := ?_) | refine YA (z := ?_) | refine ZG (z := ?_) | refine ZI (z := ?_) | refine YC (z := ?_) | refine YD (z := ?_))
  repeat (first | refine nl ?_ | refine AWP.seq ?_ | refine AWP.skip ?_ | refine AWP.block ?_)
  refine rg ?_
  repeat (first | refine ZA (z := ?_) | refine ZB (z := ?_) | refine ZC (z := ?_) | refine ZD (z := ?_) | refine ZF (z := ?_) | refine ZJ (z := ?_) | refine ZK (z := ?_) | refine ZO (z := ?_) | refine ZQ (z := ?_) | refine ZR (z := ?_) | refine YA (z := ?_) | refine ZG (z := ?_) | refine ZI (z := ?_) | refine YC (z := ?_) | refine YD (z := ?_))
  repeat (first | refine nl ?_ | refine AWP.seq ?_ | refine AWP.skip ?_ | refine AWP.block ?_)
  refine AWP.nilTok 13 3 1 rfl fun tk0 htk0 => ?_
  have m1 : o1 ≠ oM := Ne.symm nM
  have m2 : o1 ≠ oC := Ne.symm nC1
  have m3 : oM ≠ oC := Ne.symm nC
  have n1 : st.obj oM = none := St.new_old hM
  have n2 : st.obj oC = none := St.new_old (St.new_old hC)
  generalize hz : AObj.cells 48 4 [zrow (Value.agg #[.int .i64 0, .bool false, .int .i64 0, .slice none 0 0])] = z
  generalize hR : runL S (mem0 raw N) (cpu0 N entry args) [] = R0
  refine AWP.loop (α := RX) (fun x => [(14, .int .i64 (x.n : Int)), (13, .view 1 (x.out.map ivRow) (.own x.tk 3)), (12, .cptr oC 17 0 0), (11, .msl oM 1 0 N), (10, .cptr o1 4 0 0), (4, .int .i64 (S : Int))]) (fun x => RS st o1 oM oC z x.m x.c x.tk)
    (fun x => x.m.length = N ∧ (∀ y ∈ x.m, w64 y) ∧ x.c.good ∧ x.n ≤ S ∧ x.out.length ≤ x.n ∧ st.tok x.tk = false ∧ runL (S - x.n) x.m x.c x.out = R0) (fun x => S - x.n) ⟨mem0 raw N, cpu0 N entry args, [], tk0, 0⟩
    ⟨mem0_len (by omega), mem0_good hr N, cpu0_good (by omega) ha (by omega) he, Nat.zero_le _, Nat.le_refl _, htk0, hR⟩ (tl6 rfl rfl rfl rfl rfl rfl) (by unfold RS; exact .refl _) ?_
  rintro ⟨m, c, out, tk, n⟩ ⟨im, iw, ic, inn, iout, itk, irun⟩
  simp only at im iw ic inn iout itk irun
  have hcl := ic.len
  have fC : ∀ z m tk, (RS st o1 oM oC z m c tk).obj oC = some (.cells 35 17 [cpRow c]) := fun _ _ _ => RS_oC
  have fM : ∀ z c tk, (RS st o1 oM oC z m c tk).obj oM = some (.cells 3 1 (m.map ivRow)) := fun _ _ _ => RS_oM m3
  have g16 : (cpRow c)[0 + 16]? = some (.int .i64 c.pc) := cp_pc hcl
  repeat (first | refine nl ?_ | refine AWP.seq ?_ | refine rg ?_ | refine AWP.skip ?_ | refine AWP.block ?_ | refine YH (z := ?_) | refine YI (z := ?_) | refine ZA (z := ?_) | refine ZB (z := ?_) | refine ZC (z := ?_) | refine ZD (z := ?_) | refine ZF (z := ?_) | refine ZJ (z := ?_) | refine ZK (z := ?_) | refine ZO (z := ?_) | refine ZQ (z := ?_) | refine ZR (z := ?_) | refine YA (z := ?_) | refine ZG (z := ?_) | refine ZI (z := ?_) | refine YC (z := ?_) | refine YD (z := ?_))
  refine lcS rfl rfl rfl (fC _ _ _) rfl g16 ?_
  repeat (first | refine nl ?_ | refine AWP.seq ?_ | refine rg ?_ | refine AWP.skip ?_ | refine AWP.block ?_ | refine YH (z := ?_) | refine YI (z := ?_) | refine ZA (z := ?_) | refine ZB (z := ?_) | refine ZC (z := ?_) | refine ZD (z := ?_) | refine ZF (z := ?_) | refine ZJ (z := ?_) | refine ZK (z := ?_) | refine ZO (z := ?_) | refine ZQ (z := ?_) | refine ZR (z := ?_) | refine YA (z := ?_) | refine ZG (z := ?_) | refine ZI (z := ?_) | refine YC (z := ?_) | refine YD (z := ?_))
  refine AWP.cond_dec rfl (fun hx => AWP.skip ?_) (fun hx => AWP.exit (blk_hit ?_))
  · have hx' : ¬ c.pc = -1 := hx
    repeat (first | refine nl ?_ | refine AWP.seq ?_ | refine rg ?_ | refine AWP.skip ?_ | refine AWP.block ?_ | refine YH (z := ?_) | refine YI (z := ?_) | refine ZA (z := ?_) | refine ZB (z := ?_) | refine ZC (z := ?_) | refine ZD (z := ?_) | refine ZF (z := ?_) | refine ZJ (z := ?_) | refine ZK (z := ?_) | refine ZO (z := ?_) | refine ZQ (z := ?_) | refine ZR (z := ?_) | refine YA (z := ?_) | refine ZG (z := ?_) | refine ZI (z := ?_) | refine YC (z := ?_) | refine YD (z := ?_))
    refine AWP.cond_dec rfl (fun hf => ?_) (fun hf => AWP.skip ?_)
    · have hf' : n = S := by have h0 : (n : Int) = (S : Int) := hf; omega
      rw [hf', Nat.sub_self, runL_fuel hx'] at irun
      repeat (first | refine nl ?_ | refine AWP.seq ?_ | refine rg ?_ | refine AWP.skip ?_ | refine AWP.block ?_ | refine YH (z := ?_) | refine YI (z := ?_) | refine ZA (z := ?_) | refine ZB (z := ?_) | refine ZC (z := ?_) | refine ZD (z := ?_) | refine ZF (z := ?_) | refine ZJ (z := ?_) | refine ZK (z := ?_) | refine ZO (z := ?_) | refine ZQ (z := ?_) | refine ZR (z := ?_) | refine YA (z := ?_) | refine ZG (z := ?_) | refine ZI (z := ?_) | refine YC (z := ?_) | refine YD (z := ?_))
      refine bds (cs := [.int .i64 13, .bool false, .int .i64 0, .view 1 (out.map ivRow) (.own tk 3)]) rfl rfl rfl rfl ?_
      refine so (rows' := [[.int .i64 13, .bool false, .int .i64 0, .view 1 (out.map ivRow) (.own tk 3)]]) rfl rfl rfl ((RS_o1 m1 m2).trans (by rw [← hz])) rfl rfl rfl rfl rfl ?_
      rw [RS_set1 m1 m2]
      repeat (first | refine nl ?_ | refine AWP.seq ?_ | refine rg ?_ | refine AWP.skip ?_ | refine AWP.block ?_ | refine YH (z := ?_) | refine YI (z := ?_) | refine ZA (z := ?_) | refine ZB (z := ?_) | refine ZC (z := ?_) | refine ZD (z := ?_) | refine ZF (z := ?_) | refine ZJ (z := ?_) | refine ZK (z := ?_) | refine ZO (z := ?_) | refine ZQ (z := ?_) | refine ZR (z := ?_) | refine YA (z := ?_) | refine ZG (z := ?_) | refine ZI (z := ?_) | refine YC (z := ?_) | refine YD (z := ?_))
      refine AWP.ret (rets (resCW rfl (RS_o1 m1 m2) rfl rfl rfl rfl) (oc_own _ _ _ _ _) (RS_le h1 n1 n2) ⟨by rw [← irun], rfl⟩)
    have hf' : n < S := by have h0 : ¬ (n : Int) = (S : Int) := hf; omega
    obtain ⟨k, hk⟩ : ∃ k, S - n = k + 1 := ⟨S - n - 1, by omega⟩
    rw [hk] at irun
    repeat (first | refine nl ?_ | refine AWP.seq ?_ | refine rg ?_ | refine AWP.skip ?_ | refine AWP.block ?_ | refine YH (z := ?_) | refine YI (z := ?_) | refine ZA (z := ?_) | refine ZB (z := ?_) | refine ZC (z := ?_) | refine ZD (z := ?_) | refine ZF (z := ?_) | refine ZJ (z := ?_) | refine ZK (z := ?_) | refine ZO (z := ?_) | refine ZQ (z := ?_) | refine ZR (z := ?_) | refine YA (z := ?_) | refine ZG (z := ?_) | refine ZI (z := ?_) | refine YC (z := ?_) | refine YD (z := ?_))
    refine lcW rfl rfl rfl (fC _ _ _) rfl (by rw [cp_len hcl]; rfl) ?_
    have hst := step_ok m iw c hcl oM (RS st o1 oM oC z m c tk) (RS_oM m3)
    rw [im] at hst
    refine cle rfl rfl hst ?_
    cases hs : stepP m c with
    | none =>
      rw [runL_fault hx' hs] at irun
      rw [show stepV m c = .tuple [.agg (efRow zEf), .bool false] by rw [stepV, hs]]
      repeat (first | refine nl ?_ | refine AWP.seq ?_ | refine rg ?_ | refine AWP.skip ?_ | refine AWP.block ?_ | refine YH (z := ?_) | refine YI (z := ?_) | refine ZA (z := ?_) | refine ZB (z := ?_) | refine ZC (z := ?_) | refine ZD (z := ?_) | refine ZF (z := ?_) | refine ZJ (z := ?_) | refine ZK (z := ?_) | refine ZO (z := ?_) | refine ZQ (z := ?_) | refine ZR (z := ?_) | refine YA (z := ?_) | refine ZG (z := ?_) | refine ZI (z := ?_) | refine YC (z := ?_) | refine YD (z := ?_))
      refine bds (cs := [.int .i64 14, .bool false, .int .i64 0, .view 1 (out.map ivRow) (.own tk 3)]) rfl rfl rfl rfl ?_
      refine so (rows' := [[.int .i64 14, .bool false, .int .i64 0, .view 1 (out.map ivRow) (.own tk 3)]]) rfl rfl rfl ((RS_o1 m1 m2).trans (by rw [← hz])) rfl rfl rfl rfl rfl ?_
      rw [RS_set1 m1 m2]
      repeat (first | refine nl ?_ | refine AWP.seq ?_ | refine rg ?_ | refine AWP.skip ?_ | refine AWP.block ?_ | refine YH (z := ?_) | refine YI (z := ?_) | refine ZA (z := ?_) | refine ZB (z := ?_) | refine ZC (z := ?_) | refine ZD (z := ?_) | refine ZF (z := ?_) | refine ZJ (z := ?_) | refine ZK (z := ?_) | refine ZO (z := ?_) | refine ZQ (z := ?_) | refine ZR (z := ?_) | refine YA (z := ?_) | refine ZG (z := ?_) | refine ZI (z := ?_) | refine YC (z := ?_) | refine YD (z := ?_))
      refine AWP.ret (rets (resCW rfl (RS_o1 m1 m2) rfl rfl rfl rfl) (oc_own _ _ _ _ _) (RS_le h1 n1 n2) ⟨by rw [← irun], rfl⟩)
    | some e =>
      rw [runL_step hx' hs] at irun
      obtain ⟨eg, ein⟩ := stepP_good iw ic hs
      have el := eg.cpu.len
      rw [show stepV m c = .tuple [.agg (efRow e), .bool true] by rw [stepV, hs]]
      obtain ⟨q17, q18, q19, q20, q21⟩ := ef_cols el
      repeat (first | refine nl ?_ | refine AWP.seq ?_ | refine rg ?_ | refine AWP.skip ?_ | refine AWP.block ?_ | refine YH (z := ?_) | refine YI (z := ?_) | refine ZA (z := ?_) | refine ZB (z := ?_) | refine ZC (z := ?_) | refine ZD (z := ?_) | refine ZF (z := ?_) | refine ZJ (z := ?_) | refine ZK (z := ?_) | refine ZO (z := ?_) | refine ZQ (z := ?_) | refine ZR (z := ?_) | refine YA (z := ?_) | refine ZG (z := ?_) | refine ZI (z := ?_) | refine YC (z := ?_) | refine YD (z := ?_))
      refine al rfl rfl fun o15 h15 => ?_
      refine soN 15 rfl rfl rfl rfl (by rw [ef_len el]; rfl) (by rw [ef_len el]; rfl) h15 ?_
      repeat (first | refine nl ?_ | refine AWP.seq ?_ | refine rg ?_ | refine AWP.skip ?_ | refine AWP.block ?_ | refine YH (z := ?_) | refine YI (z := ?_) | refine ZA (z := ?_) | refine ZB (z := ?_) | refine ZC (z := ?_) | refine ZD (z := ?_) | refine ZF (z := ?_) | refine ZJ (z := ?_) | refine ZK (z := ?_) | refine ZO (z := ?_) | refine ZQ (z := ?_) | refine ZR (z := ?_) | refine YA (z := ?_) | refine ZG (z := ?_) | refine ZI (z := ?_) | refine YC (z := ?_) | refine YD (z := ?_))
      have fC' : ∀ z m tk, (RS st o1 oM oC z m c tk).obj oC = some (.cells 35 17 [cpRow c]) := fC
      refine midk [(15, .eptr 22 [efRow e] 0 0), (14, .int .i64 (n : Int)), (13, .view 1 (out.map ivRow) (.own tk 3)), (12, .cptr oC 17 0 0), (11, .msl oM 1 0 N), (10, .cptr o1 4 0 0), (4, .int .i64 (S : Int))] (RS st o1 oM oC z (memNx m e) c tk) ?_ ?_
      · refine AWP.cond_bool rfl (fun hse => ?_) (fun hse => AWP.skip ?_)
        · obtain ⟨qa, ea, la⟩ := mem_at (ein hse)
          repeat (first | refine nl ?_ | refine AWP.seq ?_ | refine rg ?_ | refine AWP.skip ?_ | refine AWP.block ?_ | refine YH (z := ?_) | refine YI (z := ?_) | refine ZA (z := ?_) | refine ZB (z := ?_) | refine ZC (z := ?_) | refine ZD (z := ?_) | refine ZF (z := ?_) | refine ZJ (z := ?_) | refine ZK (z := ?_) | refine ZO (z := ?_) | refine ZQ (z := ?_) | refine ZR (z := ?_) | refine YA (z := ?_) | refine ZG (z := ?_) | refine ZI (z := ?_) | refine YC (z := ?_) | refine YD (z := ?_))
          refine ixm (m := e.addr.toNat) rfl rfl rfl ea (by omega) ?_
          refine so (rows' := (m.set e.addr.toNat e.word).map ivRow) rfl rfl rfl (fM _ _ _) qa rfl rfl rfl (by rw [Nat.zero_add, List.map_set]; rfl) ?_
          repeat (first | refine nl ?_ | refine AWP.seq ?_ | refine rg ?_ | refine AWP.skip ?_ | refine AWP.block ?_ | refine YH (z := ?_) | refine YI (z := ?_) | refine ZA (z := ?_) | refine ZB (z := ?_) | refine ZC (z := ?_) | refine ZD (z := ?_) | refine ZF (z := ?_) | refine ZJ (z := ?_) | refine ZK (z := ?_) | refine ZO (z := ?_) | refine ZQ (z := ?_) | refine ZR (z := ?_) | refine YA (z := ?_) | refine ZG (z := ?_) | refine ZI (z := ?_) | refine YC (z := ?_) | refine YD (z := ?_))
          refine ⟨(tl7 rfl rfl rfl rfl rfl rfl rfl), ?_⟩
          rw [show memNx m e = m.set e.addr.toNat e.word from if_pos hse]
          exact StLe.of_eq (RS_setM m3)
        · refine ⟨(tl7 rfl rfl rfl rfl rfl rfl rfl), ?_⟩
          rw [show memNx m e = m from if_neg (by rw [hse]; decide)]
          exact .refl _
      · repeat (first | refine nl ?_ | refine AWP.seq ?_ | refine rg ?_ | refine AWP.skip ?_ | refine AWP.block ?_ | refine YH (z := ?_) | refine YI (z := ?_) | refine ZA (z := ?_) | refine ZB (z := ?_) | refine ZC (z := ?_) | refine ZD (z := ?_) | refine ZF (z := ?_) | refine ZJ (z := ?_) | refine ZK (z := ?_) | refine ZO (z := ?_) | refine ZQ (z := ?_) | refine ZR (z := ?_) | refine YA (z := ?_) | refine ZG (z := ?_) | refine ZI (z := ?_) | refine YC (z := ?_) | refine YD (z := ?_))
        refine AWP.cond_bool rfl (fun hpe => ?_) (fun hpe => AWP.skip ?_)
        · have ho : outNx out e = out ++ [e.print] := if_pos hpe
          repeat (first | refine nl ?_ | refine AWP.seq ?_ | refine rg ?_ | refine AWP.skip ?_ | refine AWP.block ?_ | refine YH (z := ?_) | refine YI (z := ?_) | refine ZA (z := ?_) | refine ZB (z := ?_) | refine ZC (z := ?_) | refine ZD (z := ?_) | refine ZF (z := ?_) | refine ZJ (z := ?_) | refine ZK (z := ?_) | refine ZO (z := ?_) | refine ZQ (z := ?_) | refine ZR (z := ?_) | refine YA (z := ?_) | refine ZG (z := ?_) | refine ZI (z := ?_) | refine YC (z := ?_) | refine YD (z := ?_))
          refine ap rfl rfl rfl RS_tok rfl (by simp; omega) (by simp; unfold maxLen; omega) fun tk' htk' => ?_
          refine AOps.weaken (.refl _) (RS_re itk) ?_
          rw [show out.map ivRow ++ [[AV.int .i64 e.print]] = (outNx out e).map ivRow by rw [ho, List.map_append]; rfl]
          repeat (first | refine nl ?_ | refine AWP.seq ?_ | refine rg ?_ | refine AWP.skip ?_ | refine AWP.block ?_ | refine YH (z := ?_) | refine YI (z := ?_) | refine ZA (z := ?_) | refine ZB (z := ?_) | refine ZC (z := ?_) | refine ZD (z := ?_) | refine ZF (z := ?_) | refine ZJ (z := ?_) | refine ZK (z := ?_) | refine ZO (z := ?_) | refine ZQ (z := ?_) | refine ZR (z := ?_) | refine YA (z := ?_) | refine ZG (z := ?_) | refine ZI (z := ?_) | refine YC (z := ?_) | refine YD (z := ?_))
          refine le rfl rfl rfl (by exact ef_sel el) ?_
          refine so (rows' := [cpRow e.cpu]) rfl rfl rfl (fC' _ _ _) rfl rfl (by rw [cp_len el]; rfl) (by rw [cp_len el, cp_len hcl]; rfl) (congrArg (fun x => [x]) (rowSet_all ((cp_len el).trans (cp_len hcl).symm))) ?_
          repeat (first | refine nl ?_ | refine AWP.seq ?_ | refine rg ?_ | refine AWP.skip ?_ | refine AWP.block ?_ | refine YH (z := ?_) | refine YI (z := ?_) | refine ZA (z := ?_) | refine ZB (z := ?_) | refine ZC (z := ?_) | refine ZD (z := ?_) | refine ZF (z := ?_) | refine ZJ (z := ?_) | refine ZK (z := ?_) | refine ZO (z := ?_) | refine ZQ (z := ?_) | refine ZR (z := ?_) | refine YA (z := ?_) | refine ZG (z := ?_) | refine ZI (z := ?_) | refine YC (z := ?_) | refine YD (z := ?_))
          refine ⟨⟨memNx m e, e.cpu, outNx out e, tk', n + 1⟩, ⟨by simp only [memNx_len]; exact im, memNx_good iw eg, eg.cpu, hf', by simp only [outNx]; (rw [if_pos hpe]; simp; omega), RS_new htk', by simp only; rw [show S - (n + 1) = k by omega]; exact irun⟩, by simp only; omega, ?_, StLe.of_eq RS_setC⟩
          exact (tl6 rfl rfl rfl rfl rfl rfl)
        · have ho : outNx out e = out := if_neg (by rw [hpe]; decide)
          rw [← ho]
          repeat (first | refine nl ?_ | refine AWP.seq ?_ | refine rg ?_ | refine AWP.skip ?_ | refine AWP.block ?_ | refine YH (z := ?_) | refine YI (z := ?_) | refine ZA (z := ?_) | refine ZB (z := ?_) | refine ZC (z := ?_) | refine ZD (z := ?_) | refine ZF (z := ?_) | refine ZJ (z := ?_) | refine ZK (z := ?_) | refine ZO (z := ?_) | refine ZQ (z := ?_) | refine ZR (z := ?_) | refine YA (z := ?_) | refine ZG (z := ?_) | refine ZI (z := ?_) | refine YC (z := ?_) | refine YD (z := ?_))
          refine le rfl rfl rfl (by exact ef_sel el) ?_
          refine so (rows' := [cpRow e.cpu]) rfl rfl rfl (fC' _ _ _) rfl rfl (by rw [cp_len el]; rfl) (by rw [cp_len el, cp_len hcl]; rfl) (congrArg (fun x => [x]) (rowSet_all ((cp_len el).trans (cp_len hcl).symm))) ?_
          repeat (first | refine nl ?_ | refine AWP.seq ?_ | refine rg ?_ | refine AWP.skip ?_ | refine AWP.block ?_ | refine YH (z := ?_) | refine YI (z := ?_) | refine ZA (z := ?_) | refine ZB (z := ?_) | refine ZC (z := ?_) | refine ZD (z := ?_) | refine ZF (z := ?_) | refine ZJ (z := ?_) | refine ZK (z := ?_) | refine ZO (z := ?_) | refine ZQ (z := ?_) | refine ZR (z := ?_) | refine YA (z := ?_) | refine ZG (z := ?_) | refine ZI (z := ?_) | refine YC (z := ?_) | refine YD (z := ?_))
          refine ⟨⟨memNx m e, e.cpu, outNx out e, tk, n + 1⟩, ⟨by simp only [memNx_len]; exact im, memNx_good iw eg, eg.cpu, hf', by simp only [outNx]; (rw [if_neg (by rw [hpe]; decide)]; omega), itk, by simp only; rw [show S - (n + 1) = k by omega]; exact irun⟩, by simp only; omega, ?_, StLe.of_eq RS_setC⟩
          exact (tl6 rfl rfl rfl rfl rfl rfl)
  · have hx' : c.pc = -1 := by
      have h0 : ¬ c.pc ≠ -1 := hx
      omega
    have g13 : (cpRow c)[0 + 0 + 13 * 1]? = some (.int .i64 (c.get 13)) := cp_get hcl 13 (by decide)
    have g0 : (cpRow c)[0 + 0 + 0 * 1]? = some (.int .i64 (c.get 0)) := cp_get hcl 0 (by decide)
    rw [runL_exit hx'] at irun
    repeat (first | refine nl ?_ | refine AWP.seq ?_ | refine rg ?_ | refine AWP.skip ?_ | refine AWP.block ?_ | refine YH (z := ?_) | refine YI (z := ?_) | refine ZA (z := ?_) | refine ZB (z := ?_) | refine ZC (z := ?_) | refine ZD (z := ?_) | refine ZF (z := ?_) | refine ZJ (z := ?_) | refine ZK (z := ?_) | refine ZO (z := ?_) | refine ZQ (z := ?_) | refine ZR (z := ?_) | refine YA (z := ?_) | refine ZG (z := ?_) | refine ZI (z := ?_) | refine YC (z := ?_) | refine YD (z := ?_))
    refine ixa (m := 13) rfl rfl rfl (by decide) rfl ?_
    refine lcS rfl rfl rfl (fC _ _ _) rfl g13 ?_
    repeat (first | refine ZA (z := ?_) | refine ZB (z := ?_) | refine ZC (z := ?_) | refine ZD (z := ?_) | refine ZF (z := ?_) | refine ZJ (z := ?_) | refine ZK (z := ?_) | refine ZO (z := ?_) | refine ZQ (z := ?_) | refine ZR (z := ?_) | refine YA (z := ?_) | refine ZG (z := ?_) | refine ZI (z := ?_) | refine YC (z := ?_) | refine YD (z := ?_))
    refine ixa (m := 0) rfl rfl rfl (by decide) rfl ?_
    refine lcS rfl rfl rfl (fC _ _ _) rfl g0 ?_
    repeat (first | refine ZA (z := ?_) | refine ZB (z := ?_) | refine ZC (z := ?_) | refine ZD (z := ?_) | refine ZF (z := ?_) | refine ZJ (z := ?_) | refine ZK (z := ?_) | refine ZO (z := ?_) | refine ZQ (z := ?_) | refine ZR (z := ?_) | refine YA (z := ?_) | refine ZG (z := ?_) | refine ZI (z := ?_) | refine YC (z := ?_) | refine YD (z := ?_))
    refine bds (cs := [.int .i64 0, .bool (decide (c.get 13 ≠ 0)), .int .i64 (c.get 0), .view 1 (out.map ivRow) (.own tk 3)]) rfl rfl rfl rfl ?_
    refine so (rows' := [[.int .i64 0, .bool (decide (c.get 13 ≠ 0)), .int .i64 (c.get 0), .view 1 (out.map ivRow) (.own tk 3)]]) rfl rfl rfl ((RS_o1 m1 m2).trans (by rw [← hz])) rfl rfl rfl rfl rfl ?_
    rw [RS_set1 m1 m2]
    repeat (first | refine nl ?_ | refine AWP.seq ?_ | refine rg ?_ | refine AWP.skip ?_ | refine AWP.block ?_ | refine YH (z := ?_) | refine YI (z := ?_) | refine ZA (z := ?_) | refine ZB (z := ?_) | refine ZC (z := ?_) | refine ZD (z := ?_) | refine ZF (z := ?_) | refine ZJ (z := ?_) | refine ZK (z := ?_) | refine ZO (z := ?_) | refine ZQ (z := ?_) | refine ZR (z := ?_) | refine YA (z := ?_) | refine ZG (z := ?_) | refine ZI (z := ?_) | refine YC (z := ?_) | refine YD (z := ?_))
    exact AWP.ret (rets (resCW rfl (RS_o1 m1 m2) rfl rfl rfl rfl) (oc_own _ _ _ _ _) (RS_le h1 n1 n2) ⟨by rw [← irun], rfl⟩)
end Go.Proofs
/- The walk of the reference's Begin. No conditions: lemmas only. -/
namespace Go.Proofs
open Go.AM
attribute [local irreducible] AWP AOps ACalls RS
set_option linter.unusedSimpArgs false

end Go.Proofs
/- The walk of the reference's Step. No conditions: lemmas only. -/
namespace Go.Proofs
open Go.AM
attribute [local irreducible] AWP AOps ACalls RS
set_option linter.unusedSimpArgs false

end Go.Proofs
/- The walk of the reference's Run. No conditions: lemmas only. -/
namespace Go.Proofs
open Go.AM
set_option linter.unusedSimpArgs false

section
variable {st : St} {o1 oM oC oO : Nat} {z x y : AObj} {m : List Int} {c : Cp} {tk : Nat}
end
attribute [local irreducible] AWP AOps ACalls RS
end Go.Proofs
/- strconv.Itoa at this program: the kit's contract, laid by the kit's own tool in plain words. No conditions: lemmas only. -/
namespace Go.Proofs
open Go.Shelf
def Tryd.laysItoa_ren : Go.Shelf.Ren := ⟨fun | 171 => 32 | 243 => 40 | 246 => 43 | 283 => 44 | 284 => 45 | 285 => 46 | 286 => 47 | 129 => 49 | 317 => 48 | 318 => 50 | 319 => 51 | 320 => 52 | 337 => 53 | 338 => 54 | n => n, fun | 3 => 3 | 9 => 9 | 2 => 2 | 4 => 4 | 171 => 74 | 0 => 0 | 53 => 75 | 37 => 71 | 5 => 5 | 173 => 78 | 212 => 81 | 51 => 82 | 20 => 20 | 213 => 83 | 46 => 57 | 232 => 86 | 233 => 87 | n => n, fun | 17 => 1 | 18 => 2 | 19 => 3 | n => n⟩
theorem Tryd.laysItoa : Go.Proofs.LaysM.n171 Tryd.prog Tryd.laysItoa_ren := {
  mixed := by kernel_rfl
  f129 := Tryd.func49.trans (congrArg some (by kernel_rfl))
  f171 := Tryd.func32.trans (congrArg some (by kernel_rfl))
  f243 := Tryd.func40.trans (congrArg some (by kernel_rfl))
  f246 := Tryd.func43.trans (congrArg some (by kernel_rfl))
  f283 := Tryd.func44.trans (congrArg some (by kernel_rfl))
  f284 := Tryd.func45.trans (congrArg some (by kernel_rfl))
  f285 := Tryd.func46.trans (congrArg some (by kernel_rfl))
  f286 := Tryd.func47.trans (congrArg some (by kernel_rfl))
  f317 := Tryd.func48.trans (congrArg some (by kernel_rfl))
  f318 := Tryd.func50.trans (congrArg some (by kernel_rfl))
  f319 := Tryd.func51.trans (congrArg some (by kernel_rfl))
  f320 := Tryd.func52.trans (congrArg some (by kernel_rfl))
  f337 := Tryd.func53.trans (congrArg some (by kernel_rfl))
  f338 := Tryd.func54.trans (congrArg some (by kernel_rfl))
  t0 := Tryd.underlying0
  a0 := Tryd.isAgg0
  z0 := Tryd.sizeOf0
  v0 := Tryd.zeroValue0
  t2 := Tryd.underlying2
  a2 := Tryd.isAgg2
  z2 := Tryd.sizeOf2
  v2 := Tryd.zeroValue2
  t3 := Tryd.underlying3
  a3 := Tryd.isAgg3
  z3 := Tryd.sizeOf3
  v3 := Tryd.zeroValue3
  t4 := Tryd.underlying4
  a4 := Tryd.isAgg4
  z4 := Tryd.sizeOf4
  v4 := Tryd.zeroValue4
  t5 := Tryd.underlying5
  a5 := Tryd.isAgg5
  z5 := Tryd.sizeOf5
  v5 := Tryd.zeroValue5
  t9 := Tryd.underlying9
  a9 := Tryd.isAgg9
  z9 := Tryd.sizeOf9
  v9 := Tryd.zeroValue9
  t20 := Tryd.underlying20
  a20 := Tryd.isAgg20
  z20 := Tryd.sizeOf20
  v20 := Tryd.zeroValue20
  t37 := Tryd.underlying71
  a37 := Tryd.isAgg71
  z37 := Tryd.sizeOf71
  v37 := Tryd.zeroValue71
  t46 := Tryd.underlying57
  a46 := Tryd.isAgg57
  z46 := Tryd.sizeOf57
  v46 := Tryd.zeroValue57
  t51 := Tryd.underlying82
  a51 := Tryd.isAgg82
  z51 := Tryd.sizeOf82
  v51 := Tryd.zeroValue82
  t53 := Tryd.underlying75
  a53 := Tryd.isAgg75
  z53 := Tryd.sizeOf75
  v53 := Tryd.zeroValue75
  t171 := Tryd.underlying74
  a171 := Tryd.isAgg74
  z171 := Tryd.sizeOf74
  v171 := Tryd.zeroValue74
  t173 := Tryd.underlying78
  a173 := Tryd.isAgg78
  z173 := Tryd.sizeOf78
  v173 := Tryd.zeroValue78
  t212 := Tryd.underlying81
  a212 := Tryd.isAgg81
  z212 := Tryd.sizeOf81
  v212 := Tryd.zeroValue81
  t213 := Tryd.underlying83
  a213 := Tryd.isAgg83
  z213 := Tryd.sizeOf83
  t232 := Tryd.underlying86
  a232 := Tryd.isAgg86
  z232 := Tryd.sizeOf86
  v232 := Tryd.zeroValue86
  t233 := Tryd.underlying87
  a233 := Tryd.isAgg87
  z233 := Tryd.sizeOf87
  v233 := Tryd.zeroValue87
  g17 := by kernel_rfl
  g18 := by kernel_rfl
  g19 := by kernel_rfl
  i0 := by kernel_rfl
  i2 := by kernel_rfl
  i3 := by kernel_rfl
  i4 := by kernel_rfl
  i5 := by kernel_rfl
  i9 := by kernel_rfl
  i20 := by kernel_rfl
  i37 := by kernel_rfl
  i46 := by kernel_rfl
  i51 := by kernel_rfl
  i53 := by kernel_rfl
  i171 := by kernel_rfl
  i173 := by kernel_rfl
  i212 := by kernel_rfl
  i232 := by kernel_rfl
  i233 := by kernel_rfl
  m17 := by kernel_rfl
  m18 := by kernel_rfl
  m19 := by kernel_rfl }
theorem itoaC (n : Int) (h0 : -9223372036854775808 ≤ n) (h1 : n ≤ 9223372036854775807) (w : World) (htab : Lib.TabIs Tryd.prog w "internal/strconv.uint64pow10" .u64 Lib.pow10Tab) :
    Calls Tryd.prog 32 #[.int .i64 n] w fun e w' => e = .returned (.string ⟨(Lib.itoa n).toArray⟩) ∧ ∃ k os, w' = Sort.grow (w.drewN k) os := Any.strconv_Itoa Tryd.laysItoa n h0 h1 w htab
end Go.Proofs
/- Numbers and instructions as texts. No conditions: definitions and lemmas only. -/
namespace Go.Proofs
open Go.AM
attribute [local irreducible] AWP AOps ACalls
set_option linter.unusedSimpArgs false

theorem nDigits_le : ∀ (k u : Nat), 1 ≤ k → u < 10 ^ k → Lib.nDigits u ≤ k
  | 0, _, h, _ => by omega
  | k + 1, u, _, h => by
    rw [Lib.nDigits]
    split
    · omega
    · rename_i hu
      cases k with
      | zero => simp at h; omega
      | succ k =>
        have := nDigits_le (k + 1) (u / 10) (by omega) (by rw [Nat.pow_succ] at h; omega)
        omega
theorem dec_len {u : Nat} (h : u < 10000000000000000000) : (Lib.decDigits u).length ≤ 19 := by
  rw [Lib.decDigits_length]
  exact nDigits_le 19 u (by decide) h
theorem itoa_len {n : Int} (h : w64 n) : (Lib.itoa n).length ≤ 20 := by
  unfold w64 at h
  unfold Lib.itoa
  split
  · have := dec_len (u := n.natAbs) (by omega)
    simp only [List.length_cons]
    omega
  · have := dec_len (u := n.toNat) (by omega)
    omega
theorem itoa_nat (u : Nat) : Lib.itoa (u : Int) = Lib.decDigits u := by
  unfold Lib.itoa
  rw [if_neg (by omega), Int.toNat_natCast]
def powRow : List AV := Lib.pow10Tab.map fun z => .int .u64 z
theorem itoa_ok (n : Int) (hn : w64 n) (st : St) (hT : (1, powRow) ∈ st.glob) : ACalls Tryd.prog 32 [.int .i64 n] st (fun v st' => v = .str (Lib.itoa n) ∧ st' = st) (fun _ _ => False) := by
  refine ACalls.grown fun g w rargs hs hl hr => ?_
  have hra : rargs = #[.int .i64 n] := by
    have h1 : rargs.size = 1 := by simpa using hl.symm
    obtain ⟨v, rfl⟩ := Array.size_eq_one_iff.1 h1
    have := hr 0 _ v rfl rfl
    cases this
    rfl
  subst hra
  have h64 := hn
  unfold w64 at h64
  refine (itoaC n h64.1 (by omega) w (tabIs hs (by kernel_rfl) hT)).mono fun e w' ⟨he, k, os, hw⟩ => ⟨_, he, fun g w => .str _, os, by rw [hw]; rfl, by rw [hw]; rfl, by rw [hw]; rfl, by rw [hw]; rfl⟩
end Go.Proofs
/- Instructions as texts. No conditions: definitions and lemmas only. -/
namespace Go.Proofs
open Go.AM
attribute [local irreducible] AWP AOps ACalls
set_option linter.unusedSimpArgs false

def opNames : List (List UInt8) := [[110, 111, 112], [98, 114, 101, 97, 107], [99, 111, 110, 115, 116], [112, 111, 111, 108], [109, 111, 118, 101], [97, 100, 100], [115, 117, 98], [109, 117, 108], [100, 105, 118], [109, 111, 100], [97, 110, 100], [111, 114], [120, 111, 114], [108, 101, 115, 115], [108, 101, 115, 115, 101, 113], [101, 113, 117, 97, 108], [110, 111, 116, 101, 113, 117, 97, 108], [97, 100, 100, 105, 109, 109], [108, 111, 97, 100], [115, 116, 111, 114, 101], [106, 117, 109, 112], [122, 101, 114, 111], [99, 97, 108, 108], [114, 101, 116, 117, 114, 110], [112, 114, 105, 110, 116]]
def opForms : List (List UInt8) := [[], [], [97, 105], [97, 105], [97, 98], [97, 98, 99], [97, 98, 99], [97, 98, 99], [97, 98, 99], [97, 98, 99], [97, 98, 99], [97, 98, 99], [97, 98, 99], [97, 98, 99], [97, 98, 99], [97, 98, 99], [97, 98, 99], [97, 98, 105], [97, 98, 105], [97, 98, 105], [105], [97, 105], [105], [], [97]]
def nameRow : List AV := opNames.map .str
def nmOf (op : Int) : List UInt8 := opNames.getD (op - 1).toNat []
def fmOf (op : Int) : List UInt8 := opForms.getD (op - 1).toNat []
def rTx (n : Int) : List UInt8 := [32, 114] ++ Lib.itoa n
def seg (i : Ins) (c : UInt8) : List UInt8 := if c = 97 then rTx i.a else if c = 98 then rTx i.b else if c = 99 then rTx i.c else [32] ++ Lib.itoa i.imm
def text (i : Ins) : List UInt8 := if (enc i).2 ≠ 0 then [119, 111, 114, 100] else nmOf i.op ++ (fmOf i.op).flatMap (seg i)
theorem op_cases {P : Int → Prop} (h : ∀ k : Fin 25, P ((k.val : Int) + 1)) : ∀ op : Int, 1 ≤ op → op < 26 → P op := fun op h1 h2 => by
  have := h ⟨(op - 1).toNat, by omega⟩
  simp only at this
  rwa [show (((op - 1).toNat : Nat) : Int) + 1 = op by omega] at this
theorem nm_len : ∀ op : Int, 1 ≤ op → op < 26 → (nmOf op).length ≤ 8 ∧ (fmOf op).length ≤ 3 ∧ ∀ c ∈ fmOf op, c.toNat < 128 := op_cases (by decide +kernel)
theorem fm_none (op : Int) (h : op = 1 ∨ op = 2 ∨ op = 24) : fmOf op = [] := by rcases h with rfl | rfl | rfl <;> rfl
theorem fm_ai (op : Int) (h : op = 3 ∨ op = 4 ∨ op = 22) : fmOf op = [97, 105] := by rcases h with rfl | rfl | rfl <;> rfl
theorem fm_abi (op : Int) (h : op = 18 ∨ op = 19 ∨ op = 20) : fmOf op = [97, 98, 105] := by rcases h with rfl | rfl | rfl <;> rfl
theorem fm_i (op : Int) (h : op = 21 ∨ op = 23) : fmOf op = [105] := by rcases h with rfl | rfl <;> rfl
theorem fm_abc (op : Int) (h : 6 ≤ op ∧ op ≤ 17) : fmOf op = [97, 98, 99] := by
  have h' : op = 6 ∨ op = 7 ∨ op = 8 ∨ op = 9 ∨ op = 10 ∨ op = 11 ∨ op = 12 ∨ op = 13 ∨ op = 14 ∨ op = 15 ∨ op = 16 ∨ op = 17 := by omega
  rcases h' with rfl | rfl | rfl | rfl | rfl | rfl | rfl | rfl | rfl | rfl | rfl | rfl <;> rfl
theorem nameRow_at (op : Int) (h1 : 1 ≤ op) (h2 : op < 26) : nameRow[0 + (op - 1).toNat * 1]? = some (.str (nmOf op)) := by
  rw [Nat.zero_add, Nat.mul_one]
  unfold nameRow nmOf
  rw [List.getElem?_map, List.getElem?_eq_getElem (show (op - 1).toNat < opNames.length by show _ < 25; omega), List.getD_eq_getElem?_getD, List.getElem?_eq_getElem (show (op - 1).toNat < opNames.length by show _ < 25; omega)]
  rfl
set_option maxHeartbeats 4000000 in
theorem text_ok (i : Ins) (st : St) (hT : (1, powRow) ∈ st.glob) (hN : st.row 0 = some nameRow) (hw : w64 i.a ∧ w64 i.b ∧ w64 i.c ∧ w64 i.imm) : ACalls Tryd.prog 14 [.agg (insRow i)] st (fun v st' => v = .str (text i) ∧ st' = st) (fun _ _ => False) := by
  refine ACalls.ofBody Tryd.func14 rfl Tryd.ntmps14 rfl ?_
  obtain ⟨op, a, b, c, imm⟩ := i
  simp only at hw
  obtain ⟨wa, wb, wc, wi⟩ := hw
  have la := itoa_len wa
  have lb := itoa_len wb
  have lc := itoa_len wc
  have li := itoa_len wi
  have fin : ∀ {l : List UInt8}, l = text ⟨op, a, b, c, imm⟩ → AV.str l = .str (text ⟨op, a, b, c, imm⟩) := fun h => by rw [h]
  rw [insRow_mk]
  repeat (first | refine nl ?_ | refine AWP.seq ?_ | refine AWP.skip ?_ | refine AWP.block ?_)
  refine rg ?_
  refine bxe (sz := 5) rfl rfl rfl rfl ?_
  repeat (first | refine nl ?_ | refine AWP.seq ?_ | refine rg ?_ | refine AWP.skip ?_ | refine AWP.block ?_ | refine YH (z := ?_) | refine YI (z := ?_) | refine ZA (z := ?_) | refine ZB (z := ?_) | refine ZC (z := ?_) | refine ZD (z := ?_) | refine ZF (z := ?_) | refine ZJ (z := ?_) | refine ZK (z := ?_) | refine ZO (z := ?_) | refine ZQ (z := ?_) | refine ZR (z := ?_) | refine YA (z := ?_) | refine ZG (z := ?_) | refine ZI (z := ?_) | refine YC (z := ?_) | refine YD (z := ?_))
  refine clp rfl rfl (encode_ok ⟨op, a, b, c, imm⟩) ?_
  repeat (first | refine nl ?_ | refine AWP.seq ?_ | refine rg ?_ | refine AWP.skip ?_ | refine AWP.block ?_ | refine YH (z := ?_) | refine YI (z := ?_) | refine ZA (z := ?_) | refine ZB (z := ?_) | refine ZC (z := ?_) | refine ZD (z := ?_) | refine ZF (z := ?_) | refine ZJ (z := ?_) | refine ZK (z := ?_) | refine ZO (z := ?_) | refine ZQ (z := ?_) | refine ZR (z := ?_) | refine YA (z := ?_) | refine ZG (z := ?_) | refine ZI (z := ?_) | refine YC (z := ?_) | refine YD (z := ?_))
  refine AWP.cond_dec rfl (fun he => ?_) (fun he => AWP.skip ?_)
  · repeat (first | refine nl ?_ | refine AWP.seq ?_ | refine rg ?_ | refine AWP.skip ?_ | refine AWP.block ?_ | refine YH (z := ?_) | refine YI (z := ?_) | refine ZA (z := ?_) | refine ZB (z := ?_) | refine ZC (z := ?_) | refine ZD (z := ?_) | refine ZF (z := ?_) | refine ZJ (z := ?_) | refine ZK (z := ?_) | refine ZO (z := ?_) | refine ZQ (z := ?_) | refine ZR (z := ?_) | refine YA (z := ?_) | refine ZG (z := ?_) | refine ZI (z := ?_) | refine YC (z := ?_) | refine YD (z := ?_))
    exact AWP.ret (rets rfl (.refl _) (.refl _) ⟨fin (by unfold text; rw [if_pos he]), rfl⟩)
  obtain ⟨hr, hop⟩ := enc0 he
  have hor := opr_iff.1 hop
  simp only at hor
  have hno : ¬ (enc ⟨op, a, b, c, imm⟩).2 ≠ 0 := he
  obtain ⟨ln, lf, _⟩ := nm_len op hor.1 hor.2
  have qn := nameRow_at op hor.1 hor.2
  have hrt : ∀ n, (rTx n).length = (Lib.itoa n).length + 2 := fun n => by simp only [rTx, List.length_append, List.length_cons, List.length_nil]; omega
  have l1 := hrt a
  have l2 := hrt b
  have l3 := hrt c
  repeat (first | refine nl ?_ | refine AWP.seq ?_ | refine AWP.skip ?_ | refine AWP.block ?_)
  refine AWP.draw rfl 14 14 (fun _ _ => False) rfl ?_
  repeat (first | refine ds rfl rfl ?_ | refine dp (h := fun _ _ => ZD (z := nz)) (z := ?_) | refine dp (h := fun _ _ => ZF (z := nz)) (z := ?_) | refine dp (h := fun _ _ => ZC (z := nz)) (z := ?_) | refine dp (h := fun _ _ => ZJ (z := nz)) (z := ?_) | refine dp (h := fun _ _ => ZK (z := nz)) (z := ?_) | refine dp (h := fun _ _ => ZQ (z := nz)) (z := ?_) | refine dp (h := fun _ _ => ZO (z := nz)) (z := ?_) | refine dp (h := fun _ _ => ZG (z := nz)) (z := ?_) | refine dp (h := fun _ _ => ZI (z := nz)) (z := ?_) | refine dp (h := fun _ _ => YC (z := nz)) (z := ?_) | refine dp (h := fun _ _ => YL (z := nz)) (z := ?_) | refine dp (h := fun _ _ => YM (z := nz)) (z := ?_))
  refine dq rfl rfl rfl (fun st1 hle => cle rfl rfl (itoa_ok a wa _ (by have := hle.glob; rw [show st1.glob = st.glob from this.symm]; exact hT)) (nl ⟨_, rfl, rfl, rfl⟩)) ?_
  refine dq rfl rfl rfl (fun st1 hle => sad rfl rfl rfl (by simp; omega) (nl ⟨_, rfl, rfl, rfl⟩)) ?_
  repeat (first | refine ds rfl rfl ?_ | refine dp (h := fun _ _ => ZD (z := nz)) (z := ?_) | refine dp (h := fun _ _ => ZF (z := nz)) (z := ?_) | refine dp (h := fun _ _ => ZC (z := nz)) (z := ?_) | refine dp (h := fun _ _ => ZJ (z := nz)) (z := ?_) | refine dp (h := fun _ _ => ZK (z := nz)) (z := ?_) | refine dp (h := fun _ _ => ZQ (z := nz)) (z := ?_) | refine dp (h := fun _ _ => ZO (z := nz)) (z := ?_) | refine dp (h := fun _ _ => ZG (z := nz)) (z := ?_) | refine dp (h := fun _ _ => ZI (z := nz)) (z := ?_) | refine dp (h := fun _ _ => YC (z := nz)) (z := ?_) | refine dp (h := fun _ _ => YL (z := nz)) (z := ?_) | refine dp (h := fun _ _ => YM (z := nz)) (z := ?_))
  refine dq rfl rfl rfl (fun st1 hle => cle rfl rfl (itoa_ok b wb _ (by have := hle.glob; rw [show st1.glob = st.glob from this.symm]; exact hT)) (nl ⟨_, rfl, rfl, rfl⟩)) ?_
  refine dq rfl rfl rfl (fun st1 hle => sad rfl rfl rfl (by simp; omega) (nl ⟨_, rfl, rfl, rfl⟩)) ?_
  repeat (first | refine ds rfl rfl ?_ | refine dp (h := fun _ _ => ZD (z := nz)) (z := ?_) | refine dp (h := fun _ _ => ZF (z := nz)) (z := ?_) | refine dp (h := fun _ _ => ZC (z := nz)) (z := ?_) | refine dp (h := fun _ _ => ZJ (z := nz)) (z := ?_) | refine dp (h := fun _ _ => ZK (z := nz)) (z := ?_) | refine dp (h := fun _ _ => ZQ (z := nz)) (z := ?_) | refine dp (h := fun _ _ => ZO (z := nz)) (z := ?_) | refine dp (h := fun _ _ => ZG (z := nz)) (z := ?_) | refine dp (h := fun _ _ => ZI (z := nz)) (z := ?_) | refine dp (h := fun _ _ => YC (z := nz)) (z := ?_) | refine dp (h := fun _ _ => YL (z := nz)) (z := ?_) | refine dp (h := fun _ _ => YM (z := nz)) (z := ?_))
  refine dq rfl rfl rfl (fun st1 hle => cle rfl rfl (itoa_ok c wc _ (by have := hle.glob; rw [show st1.glob = st.glob from this.symm]; exact hT)) (nl ⟨_, rfl, rfl, rfl⟩)) ?_
  refine dq rfl rfl rfl (fun st1 hle => sad rfl rfl rfl (by simp; omega) (nl ⟨_, rfl, rfl, rfl⟩)) ?_
  repeat (first | refine ds rfl rfl ?_ | refine dp (h := fun _ _ => ZD (z := nz)) (z := ?_) | refine dp (h := fun _ _ => ZF (z := nz)) (z := ?_) | refine dp (h := fun _ _ => ZC (z := nz)) (z := ?_) | refine dp (h := fun _ _ => ZJ (z := nz)) (z := ?_) | refine dp (h := fun _ _ => ZK (z := nz)) (z := ?_) | refine dp (h := fun _ _ => ZQ (z := nz)) (z := ?_) | refine dp (h := fun _ _ => ZO (z := nz)) (z := ?_) | refine dp (h := fun _ _ => ZG (z := nz)) (z := ?_) | refine dp (h := fun _ _ => ZI (z := nz)) (z := ?_) | refine dp (h := fun _ _ => YC (z := nz)) (z := ?_) | refine dp (h := fun _ _ => YL (z := nz)) (z := ?_) | refine dp (h := fun _ _ => YM (z := nz)) (z := ?_))
  refine dn ⟨fun _ => ?_, fun h => absurd h (by decide)⟩
  repeat (first | refine nl ?_ | refine AWP.seq ?_ | refine rg ?_ | refine AWP.skip ?_ | refine AWP.block ?_ | refine YH (z := ?_) | refine YI (z := ?_) | refine ZA (z := ?_) | refine ZB (z := ?_) | refine ZC (z := ?_) | refine ZD (z := ?_) | refine ZF (z := ?_) | refine ZJ (z := ?_) | refine ZK (z := ?_) | refine ZO (z := ?_) | refine ZQ (z := ?_) | refine ZR (z := ?_) | refine YA (z := ?_) | refine ZG (z := ?_) | refine ZI (z := ?_) | refine YC (z := ?_) | refine YD (z := ?_))
  refine cle rfl rfl (itoa_ok imm wi _ hT) ?_
  refine sad rfl rfl rfl (by simp; omega) ?_
  repeat (first | refine nl ?_ | refine AWP.seq ?_ | refine rg ?_ | refine AWP.skip ?_ | refine AWP.block ?_ | refine YH (z := ?_) | refine YI (z := ?_) | refine ZA (z := ?_) | refine ZB (z := ?_) | refine ZC (z := ?_) | refine ZD (z := ?_) | refine ZF (z := ?_) | refine ZJ (z := ?_) | refine ZK (z := ?_) | refine ZO (z := ?_) | refine ZQ (z := ?_) | refine ZR (z := ?_) | refine YA (z := ?_) | refine ZG (z := ?_) | refine ZI (z := ?_) | refine YC (z := ?_) | refine YD (z := ?_))
  refine Go.AM.sb rfl rfl rfl (by omega) ?_
  have hev : ∀ T, ev st T (.global 0) = some (.eptr 25 [nameRow] 0 0) := fun T => by simp only [ev, hN]; rfl
  refine ixa (m := (op - 1).toNat) rfl rfl (by omega) (by omega) (by rw [hev]; rfl) ?_
  repeat (first | refine nl ?_ | refine AWP.seq ?_ | refine rg ?_ | refine AWP.skip ?_ | refine AWP.block ?_ | refine YH (z := ?_) | refine YI (z := ?_) | refine ZA (z := ?_) | refine ZB (z := ?_) | refine ZC (z := ?_) | refine ZD (z := ?_) | refine ZF (z := ?_) | refine ZJ (z := ?_) | refine ZK (z := ?_) | refine ZO (z := ?_) | refine ZQ (z := ?_) | refine ZR (z := ?_) | refine YA (z := ?_) | refine ZG (z := ?_) | refine ZI (z := ?_) | refine YC (z := ?_) | refine YD (z := ?_))
  refine AWP.cond_dec rfl (fun h1 => AWP.skip ?_) (fun h1 => ?_)
  · have e1 : op = 1 := h1
    repeat (first | refine nl ?_ | refine AWP.seq ?_ | refine rg ?_ | refine AWP.skip ?_ | refine AWP.block ?_ | refine YH (z := ?_) | refine YI (z := ?_) | refine ZA (z := ?_) | refine ZB (z := ?_) | refine ZC (z := ?_) | refine ZD (z := ?_) | refine ZF (z := ?_) | refine ZJ (z := ?_) | refine ZK (z := ?_) | refine ZO (z := ?_) | refine ZQ (z := ?_) | refine ZR (z := ?_) | refine YA (z := ?_) | refine ZG (z := ?_) | refine ZI (z := ?_) | refine YC (z := ?_) | refine YD (z := ?_))
    exact AWP.ret (rets rfl (.refl _) (.refl _) ⟨fin (by unfold text; rw [if_neg hno, fm_none op (by omega)]; simp [seg, rTx]), rfl⟩)
  have n1 : ¬ op = 1 := h1
  repeat (first | refine nl ?_ | refine AWP.seq ?_ | refine rg ?_ | refine AWP.skip ?_ | refine AWP.block ?_ | refine YH (z := ?_) | refine YI (z := ?_) | refine ZA (z := ?_) | refine ZB (z := ?_) | refine ZC (z := ?_) | refine ZD (z := ?_) | refine ZF (z := ?_) | refine ZJ (z := ?_) | refine ZK (z := ?_) | refine ZO (z := ?_) | refine ZQ (z := ?_) | refine ZR (z := ?_) | refine YA (z := ?_) | refine ZG (z := ?_) | refine ZI (z := ?_) | refine YC (z := ?_) | refine YD (z := ?_))
  refine AWP.cond_dec rfl (fun h2 => AWP.skip ?_) (fun h2 => ?_)
  · have e2 : op = 2 := h2
    repeat (first | refine nl ?_ | refine AWP.seq ?_ | refine rg ?_ | refine AWP.skip ?_ | refine AWP.block ?_ | refine YH (z := ?_) | refine YI (z := ?_) | refine ZA (z := ?_) | refine ZB (z := ?_) | refine ZC (z := ?_) | refine ZD (z := ?_) | refine ZF (z := ?_) | refine ZJ (z := ?_) | refine ZK (z := ?_) | refine ZO (z := ?_) | refine ZQ (z := ?_) | refine ZR (z := ?_) | refine YA (z := ?_) | refine ZG (z := ?_) | refine ZI (z := ?_) | refine YC (z := ?_) | refine YD (z := ?_))
    exact AWP.ret (rets rfl (.refl _) (.refl _) ⟨fin (by unfold text; rw [if_neg hno, fm_none op (by omega)]; simp [seg, rTx]), rfl⟩)
  have n2 : ¬ op = 2 := h2
  repeat (first | refine nl ?_ | refine AWP.seq ?_ | refine rg ?_ | refine AWP.skip ?_ | refine AWP.block ?_ | refine YH (z := ?_) | refine YI (z := ?_) | refine ZA (z := ?_) | refine ZB (z := ?_) | refine ZC (z := ?_) | refine ZD (z := ?_) | refine ZF (z := ?_) | refine ZJ (z := ?_) | refine ZK (z := ?_) | refine ZO (z := ?_) | refine ZQ (z := ?_) | refine ZR (z := ?_) | refine YA (z := ?_) | refine ZG (z := ?_) | refine ZI (z := ?_) | refine YC (z := ?_) | refine YD (z := ?_))
  refine AWP.cond_dec rfl (fun h24 => ?_) (fun h24 => ?_)
  · have e24 : op = 24 := h24
    repeat (first | refine nl ?_ | refine AWP.seq ?_ | refine rg ?_ | refine AWP.skip ?_ | refine AWP.block ?_ | refine YH (z := ?_) | refine YI (z := ?_) | refine ZA (z := ?_) | refine ZB (z := ?_) | refine ZC (z := ?_) | refine ZD (z := ?_) | refine ZF (z := ?_) | refine ZJ (z := ?_) | refine ZK (z := ?_) | refine ZO (z := ?_) | refine ZQ (z := ?_) | refine ZR (z := ?_) | refine YA (z := ?_) | refine ZG (z := ?_) | refine ZI (z := ?_) | refine YC (z := ?_) | refine YD (z := ?_))
    exact AWP.ret (rets rfl (.refl _) (.refl _) ⟨fin (by unfold text; rw [if_neg hno, fm_none op (by omega)]; simp [seg, rTx]), rfl⟩)
  have n24 : ¬ op = 24 := h24
  repeat (first | refine nl ?_ | refine AWP.seq ?_ | refine rg ?_ | refine AWP.skip ?_ | refine AWP.block ?_ | refine YH (z := ?_) | refine YI (z := ?_) | refine ZA (z := ?_) | refine ZB (z := ?_) | refine ZC (z := ?_) | refine ZD (z := ?_) | refine ZF (z := ?_) | refine ZJ (z := ?_) | refine ZK (z := ?_) | refine ZO (z := ?_) | refine ZQ (z := ?_) | refine ZR (z := ?_) | refine YA (z := ?_) | refine ZG (z := ?_) | refine ZI (z := ?_) | refine YC (z := ?_) | refine YD (z := ?_))
  refine AWP.cond_dec rfl (fun h3 => AWP.skip ?_) (fun h3 => ?_)
  · have e3 : op = 3 := h3
    repeat (first | refine nl ?_ | refine AWP.seq ?_ | refine rg ?_ | refine AWP.skip ?_ | refine AWP.block ?_ | refine YH (z := ?_) | refine YI (z := ?_) | refine ZA (z := ?_) | refine ZB (z := ?_) | refine ZC (z := ?_) | refine ZD (z := ?_) | refine ZF (z := ?_) | refine ZJ (z := ?_) | refine ZK (z := ?_) | refine ZO (z := ?_) | refine ZQ (z := ?_) | refine ZR (z := ?_) | refine YA (z := ?_) | refine ZG (z := ?_) | refine ZI (z := ?_) | refine YC (z := ?_) | refine YD (z := ?_))
    refine sad rfl rfl rfl (by simp [rTx]; omega) ?_
    repeat (first | refine nl ?_ | refine AWP.seq ?_ | refine rg ?_ | refine AWP.skip ?_ | refine AWP.block ?_ | refine YH (z := ?_) | refine YI (z := ?_) | refine ZA (z := ?_) | refine ZB (z := ?_) | refine ZC (z := ?_) | refine ZD (z := ?_) | refine ZF (z := ?_) | refine ZJ (z := ?_) | refine ZK (z := ?_) | refine ZO (z := ?_) | refine ZQ (z := ?_) | refine ZR (z := ?_) | refine YA (z := ?_) | refine ZG (z := ?_) | refine ZI (z := ?_) | refine YC (z := ?_) | refine YD (z := ?_))
    refine sad rfl rfl rfl (by simp [rTx]; omega) ?_
    repeat (first | refine nl ?_ | refine AWP.seq ?_ | refine rg ?_ | refine AWP.skip ?_ | refine AWP.block ?_ | refine YH (z := ?_) | refine YI (z := ?_) | refine ZA (z := ?_) | refine ZB (z := ?_) | refine ZC (z := ?_) | refine ZD (z := ?_) | refine ZF (z := ?_) | refine ZJ (z := ?_) | refine ZK (z := ?_) | refine ZO (z := ?_) | refine ZQ (z := ?_) | refine ZR (z := ?_) | refine YA (z := ?_) | refine ZG (z := ?_) | refine ZI (z := ?_) | refine YC (z := ?_) | refine YD (z := ?_))
    exact AWP.ret (rets rfl (.refl _) (.refl _) ⟨fin (by unfold text; rw [if_neg hno, fm_ai op (by omega)]; simp [seg, rTx]), rfl⟩)
  have n3 : ¬ op = 3 := h3
  repeat (first | refine nl ?_ | refine AWP.seq ?_ | refine rg ?_ | refine AWP.skip ?_ | refine AWP.block ?_ | refine YH (z := ?_) | refine YI (z := ?_) | refine ZA (z := ?_) | refine ZB (z := ?_) | refine ZC (z := ?_) | refine ZD (z := ?_) | refine ZF (z := ?_) | refine ZJ (z := ?_) | refine ZK (z := ?_) | refine ZO (z := ?_) | refine ZQ (z := ?_) | refine ZR (z := ?_) | refine YA (z := ?_) | refine ZG (z := ?_) | refine ZI (z := ?_) | refine YC (z := ?_) | refine YD (z := ?_))
  refine AWP.cond_dec rfl (fun h4 => AWP.skip ?_) (fun h4 => ?_)
  · have e4 : op = 4 := h4
    repeat (first | refine nl ?_ | refine AWP.seq ?_ | refine rg ?_ | refine AWP.skip ?_ | refine AWP.block ?_ | refine YH (z := ?_) | refine YI (z := ?_) | refine ZA (z := ?_) | refine ZB (z := ?_) | refine ZC (z := ?_) | refine ZD (z := ?_) | refine ZF (z := ?_) | refine ZJ (z := ?_) | refine ZK (z := ?_) | refine ZO (z := ?_) | refine ZQ (z := ?_) | refine ZR (z := ?_) | refine YA (z := ?_) | refine ZG (z := ?_) | refine ZI (z := ?_) | refine YC (z := ?_) | refine YD (z := ?_))
    refine sad rfl rfl rfl (by simp [rTx]; omega) ?_
    repeat (first | refine nl ?_ | refine AWP.seq ?_ | refine rg ?_ | refine AWP.skip ?_ | refine AWP.block ?_ | refine YH (z := ?_) | refine YI (z := ?_) | refine ZA (z := ?_) | refine ZB (z := ?_) | refine ZC (z := ?_) | refine ZD (z := ?_) | refine ZF (z := ?_) | refine ZJ (z := ?_) | refine ZK (z := ?_) | refine ZO (z := ?_) | refine ZQ (z := ?_) | refine ZR (z := ?_) | refine YA (z := ?_) | refine ZG (z := ?_) | refine ZI (z := ?_) | refine YC (z := ?_) | refine YD (z := ?_))
    refine sad rfl rfl rfl (by simp [rTx]; omega) ?_
    repeat (first | refine nl ?_ | refine AWP.seq ?_ | refine rg ?_ | refine AWP.skip ?_ | refine AWP.block ?_ | refine YH (z := ?_) | refine YI (z := ?_) | refine ZA (z := ?_) | refine ZB (z := ?_) | refine ZC (z := ?_) | refine ZD (z := ?_) | refine ZF (z := ?_) | refine ZJ (z := ?_) | refine ZK (z := ?_) | refine ZO (z := ?_) | refine ZQ (z := ?_) | refine ZR (z := ?_) | refine YA (z := ?_) | refine ZG (z := ?_) | refine ZI (z := ?_) | refine YC (z := ?_) | refine YD (z := ?_))
    exact AWP.ret (rets rfl (.refl _) (.refl _) ⟨fin (by unfold text; rw [if_neg hno, fm_ai op (by omega)]; simp [seg, rTx]), rfl⟩)
  have n4 : ¬ op = 4 := h4
  repeat (first | refine nl ?_ | refine AWP.seq ?_ | refine rg ?_ | refine AWP.skip ?_ | refine AWP.block ?_ | refine YH (z := ?_) | refine YI (z := ?_) | refine ZA (z := ?_) | refine ZB (z := ?_) | refine ZC (z := ?_) | refine ZD (z := ?_) | refine ZF (z := ?_) | refine ZJ (z := ?_) | refine ZK (z := ?_) | refine ZO (z := ?_) | refine ZQ (z := ?_) | refine ZR (z := ?_) | refine YA (z := ?_) | refine ZG (z := ?_) | refine ZI (z := ?_) | refine YC (z := ?_) | refine YD (z := ?_))
  refine AWP.cond_dec rfl (fun h22 => ?_) (fun h22 => ?_)
  · have e22 : op = 22 := h22
    repeat (first | refine nl ?_ | refine AWP.seq ?_ | refine rg ?_ | refine AWP.skip ?_ | refine AWP.block ?_ | refine YH (z := ?_) | refine YI (z := ?_) | refine ZA (z := ?_) | refine ZB (z := ?_) | refine ZC (z := ?_) | refine ZD (z := ?_) | refine ZF (z := ?_) | refine ZJ (z := ?_) | refine ZK (z := ?_) | refine ZO (z := ?_) | refine ZQ (z := ?_) | refine ZR (z := ?_) | refine YA (z := ?_) | refine ZG (z := ?_) | refine ZI (z := ?_) | refine YC (z := ?_) | refine YD (z := ?_))
    refine sad rfl rfl rfl (by simp [rTx]; omega) ?_
    repeat (first | refine nl ?_ | refine AWP.seq ?_ | refine rg ?_ | refine AWP.skip ?_ | refine AWP.block ?_ | refine YH (z := ?_) | refine YI (z := ?_) | refine ZA (z := ?_) | refine ZB (z := ?_) | refine ZC (z := ?_) | refine ZD (z := ?_) | refine ZF (z := ?_) | refine ZJ (z := ?_) | refine ZK (z := ?_) | refine ZO (z := ?_) | refine ZQ (z := ?_) | refine ZR (z := ?_) | refine YA (z := ?_) | refine ZG (z := ?_) | refine ZI (z := ?_) | refine YC (z := ?_) | refine YD (z := ?_))
    refine sad rfl rfl rfl (by simp [rTx]; omega) ?_
    repeat (first | refine nl ?_ | refine AWP.seq ?_ | refine rg ?_ | refine AWP.skip ?_ | refine AWP.block ?_ | refine YH (z := ?_) | refine YI (z := ?_) | refine ZA (z := ?_) | refine ZB (z := ?_) | refine ZC (z := ?_) | refine ZD (z := ?_) | refine ZF (z := ?_) | refine ZJ (z := ?_) | refine ZK (z := ?_) | refine ZO (z := ?_) | refine ZQ (z := ?_) | refine ZR (z := ?_) | refine YA (z := ?_) | refine ZG (z := ?_) | refine ZI (z := ?_) | refine YC (z := ?_) | refine YD (z := ?_))
    exact AWP.ret (rets rfl (.refl _) (.refl _) ⟨fin (by unfold text; rw [if_neg hno, fm_ai op (by omega)]; simp [seg, rTx]), rfl⟩)
  have n22 : ¬ op = 22 := h22
  repeat (first | refine nl ?_ | refine AWP.seq ?_ | refine rg ?_ | refine AWP.skip ?_ | refine AWP.block ?_ | refine YH (z := ?_) | refine YI (z := ?_) | refine ZA (z := ?_) | refine ZB (z := ?_) | refine ZC (z := ?_) | refine ZD (z := ?_) | refine ZF (z := ?_) | refine ZJ (z := ?_) | refine ZK (z := ?_) | refine ZO (z := ?_) | refine ZQ (z := ?_) | refine ZR (z := ?_) | refine YA (z := ?_) | refine ZG (z := ?_) | refine ZI (z := ?_) | refine YC (z := ?_) | refine YD (z := ?_))
  refine AWP.cond_dec rfl (fun h5 => ?_) (fun h5 => ?_)
  · have e5 : op = 5 := h5
    repeat (first | refine nl ?_ | refine AWP.seq ?_ | refine rg ?_ | refine AWP.skip ?_ | refine AWP.block ?_ | refine YH (z := ?_) | refine YI (z := ?_) | refine ZA (z := ?_) | refine ZB (z := ?_) | refine ZC (z := ?_) | refine ZD (z := ?_) | refine ZF (z := ?_) | refine ZJ (z := ?_) | refine ZK (z := ?_) | refine ZO (z := ?_) | refine ZQ (z := ?_) | refine ZR (z := ?_) | refine YA (z := ?_) | refine ZG (z := ?_) | refine ZI (z := ?_) | refine YC (z := ?_) | refine YD (z := ?_))
    refine sad rfl rfl rfl (by simp [rTx]; omega) ?_
    repeat (first | refine nl ?_ | refine AWP.seq ?_ | refine rg ?_ | refine AWP.skip ?_ | refine AWP.block ?_ | refine YH (z := ?_) | refine YI (z := ?_) | refine ZA (z := ?_) | refine ZB (z := ?_) | refine ZC (z := ?_) | refine ZD (z := ?_) | refine ZF (z := ?_) | refine ZJ (z := ?_) | refine ZK (z := ?_) | refine ZO (z := ?_) | refine ZQ (z := ?_) | refine ZR (z := ?_) | refine YA (z := ?_) | refine ZG (z := ?_) | refine ZI (z := ?_) | refine YC (z := ?_) | refine YD (z := ?_))
    refine sad rfl rfl rfl (by simp [rTx]; omega) ?_
    repeat (first | refine nl ?_ | refine AWP.seq ?_ | refine rg ?_ | refine AWP.skip ?_ | refine AWP.block ?_ | refine YH (z := ?_) | refine YI (z := ?_) | refine ZA (z := ?_) | refine ZB (z := ?_) | refine ZC (z := ?_) | refine ZD (z := ?_) | refine ZF (z := ?_) | refine ZJ (z := ?_) | refine ZK (z := ?_) | refine ZO (z := ?_) | refine ZQ (z := ?_) | refine ZR (z := ?_) | refine YA (z := ?_) | refine ZG (z := ?_) | refine ZI (z := ?_) | refine YC (z := ?_) | refine YD (z := ?_))
    exact AWP.ret (rets rfl (.refl _) (.refl _) ⟨fin (by unfold text; rw [if_neg hno, show fmOf op = [97, 98] by rw [e5]; rfl]; simp [seg, rTx]), rfl⟩)
  have n5 : ¬ op = 5 := h5
  repeat (first | refine nl ?_ | refine AWP.seq ?_ | refine rg ?_ | refine AWP.skip ?_ | refine AWP.block ?_ | refine YH (z := ?_) | refine YI (z := ?_) | refine ZA (z := ?_) | refine ZB (z := ?_) | refine ZC (z := ?_) | refine ZD (z := ?_) | refine ZF (z := ?_) | refine ZJ (z := ?_) | refine ZK (z := ?_) | refine ZO (z := ?_) | refine ZQ (z := ?_) | refine ZR (z := ?_) | refine YA (z := ?_) | refine ZG (z := ?_) | refine ZI (z := ?_) | refine YC (z := ?_) | refine YD (z := ?_))
  refine AWP.cond_dec rfl (fun h18 => AWP.skip ?_) (fun h18 => ?_)
  · have e18 : op = 18 := h18
    repeat (first | refine nl ?_ | refine AWP.seq ?_ | refine rg ?_ | refine AWP.skip ?_ | refine AWP.block ?_ | refine YH (z := ?_) | refine YI (z := ?_) | refine ZA (z := ?_) | refine ZB (z := ?_) | refine ZC (z := ?_) | refine ZD (z := ?_) | refine ZF (z := ?_) | refine ZJ (z := ?_) | refine ZK (z := ?_) | refine ZO (z := ?_) | refine ZQ (z := ?_) | refine ZR (z := ?_) | refine YA (z := ?_) | refine ZG (z := ?_) | refine ZI (z := ?_) | refine YC (z := ?_) | refine YD (z := ?_))
    refine sad rfl rfl rfl (by simp [rTx]; omega) ?_
    repeat (first | refine nl ?_ | refine AWP.seq ?_ | refine rg ?_ | refine AWP.skip ?_ | refine AWP.block ?_ | refine YH (z := ?_) | refine YI (z := ?_) | refine ZA (z := ?_) | refine ZB (z := ?_) | refine ZC (z := ?_) | refine ZD (z := ?_) | refine ZF (z := ?_) | refine ZJ (z := ?_) | refine ZK (z := ?_) | refine ZO (z := ?_) | refine ZQ (z := ?_) | refine ZR (z := ?_) | refine YA (z := ?_) | refine ZG (z := ?_) | refine ZI (z := ?_) | refine YC (z := ?_) | refine YD (z := ?_))
    refine sad rfl rfl rfl (by simp [rTx]; omega) ?_
    repeat (first | refine nl ?_ | refine AWP.seq ?_ | refine rg ?_ | refine AWP.skip ?_ | refine AWP.block ?_ | refine YH (z := ?_) | refine YI (z := ?_) | refine ZA (z := ?_) | refine ZB (z := ?_) | refine ZC (z := ?_) | refine ZD (z := ?_) | refine ZF (z := ?_) | refine ZJ (z := ?_) | refine ZK (z := ?_) | refine ZO (z := ?_) | refine ZQ (z := ?_) | refine ZR (z := ?_) | refine YA (z := ?_) | refine ZG (z := ?_) | refine ZI (z := ?_) | refine YC (z := ?_) | refine YD (z := ?_))
    refine sad rfl rfl rfl (by simp [rTx]; omega) ?_
    repeat (first | refine nl ?_ | refine AWP.seq ?_ | refine rg ?_ | refine AWP.skip ?_ | refine AWP.block ?_ | refine YH (z := ?_) | refine YI (z := ?_) | refine ZA (z := ?_) | refine ZB (z := ?_) | refine ZC (z := ?_) | refine ZD (z := ?_) | refine ZF (z := ?_) | refine ZJ (z := ?_) | refine ZK (z := ?_) | refine ZO (z := ?_) | refine ZQ (z := ?_) | refine ZR (z := ?_) | refine YA (z := ?_) | refine ZG (z := ?_) | refine ZI (z := ?_) | refine YC (z := ?_) | refine YD (z := ?_))
    exact AWP.ret (rets rfl (.refl _) (.refl _) ⟨fin (by unfold text; rw [if_neg hno, fm_abi op (by omega)]; simp [seg, rTx]), rfl⟩)
  have n18 : ¬ op = 18 := h18
  repeat (first | refine nl ?_ | refine AWP.seq ?_ | refine rg ?_ | refine AWP.skip ?_ | refine AWP.block ?_ | refine YH (z := ?_) | refine YI (z := ?_) | refine ZA (z := ?_) | refine ZB (z := ?_) | refine ZC (z := ?_) | refine ZD (z := ?_) | refine ZF (z := ?_) | refine ZJ (z := ?_) | refine ZK (z := ?_) | refine ZO (z := ?_) | refine ZQ (z := ?_) | refine ZR (z := ?_) | refine YA (z := ?_) | refine ZG (z := ?_) | refine ZI (z := ?_) | refine YC (z := ?_) | refine YD (z := ?_))
  refine AWP.cond_dec rfl (fun h19 => AWP.skip ?_) (fun h19 => ?_)
  · have e19 : op = 19 := h19
    repeat (first | refine nl ?_ | refine AWP.seq ?_ | refine rg ?_ | refine AWP.skip ?_ | refine AWP.block ?_ | refine YH (z := ?_) | refine YI (z := ?_) | refine ZA (z := ?_) | refine ZB (z := ?_) | refine ZC (z := ?_) | refine ZD (z := ?_) | refine ZF (z := ?_) | refine ZJ (z := ?_) | refine ZK (z := ?_) | refine ZO (z := ?_) | refine ZQ (z := ?_) | refine ZR (z := ?_) | refine YA (z := ?_) | refine ZG (z := ?_) | refine ZI (z := ?_) | refine YC (z := ?_) | refine YD (z := ?_))
    refine sad rfl rfl rfl (by simp [rTx]; omega) ?_
    repeat (first | refine nl ?_ | refine AWP.seq ?_ | refine rg ?_ | refine AWP.skip ?_ | refine AWP.block ?_ | refine YH (z := ?_) | refine YI (z := ?_) | refine ZA (z := ?_) | refine ZB (z := ?_) | refine ZC (z := ?_) | refine ZD (z := ?_) | refine ZF (z := ?_) | refine ZJ (z := ?_) | refine ZK (z := ?_) | refine ZO (z := ?_) | refine ZQ (z := ?_) | refine ZR (z := ?_) | refine YA (z := ?_) | refine ZG (z := ?_) | refine ZI (z := ?_) | refine YC (z := ?_) | refine YD (z := ?_))
    refine sad rfl rfl rfl (by simp [rTx]; omega) ?_
    repeat (first | refine nl ?_ | refine AWP.seq ?_ | refine rg ?_ | refine AWP.skip ?_ | refine AWP.block ?_ | refine YH (z := ?_) | refine YI (z := ?_) | refine ZA (z := ?_) | refine ZB (z := ?_) | refine ZC (z := ?_) | refine ZD (z := ?_) | refine ZF (z := ?_) | refine ZJ (z := ?_) | refine ZK (z := ?_) | refine ZO (z := ?_) | refine ZQ (z := ?_) | refine ZR (z := ?_) | refine YA (z := ?_) | refine ZG (z := ?_) | refine ZI (z := ?_) | refine YC (z := ?_) | refine YD (z := ?_))
    refine sad rfl rfl rfl (by simp [rTx]; omega) ?_
    repeat (first | refine nl ?_ | refine AWP.seq ?_ | refine rg ?_ | refine AWP.skip ?_ | refine AWP.block ?_ | refine YH (z := ?_) | refine YI (z := ?_) | refine ZA (z := ?_) | refine ZB (z := ?_) | refine ZC (z := ?_) | refine ZD (z := ?_) | refine ZF (z := ?_) | refine ZJ (z := ?_) | refine ZK (z := ?_) | refine ZO (z := ?_) | refine ZQ (z := ?_) | refine ZR (z := ?_) | refine YA (z := ?_) | refine ZG (z := ?_) | refine ZI (z := ?_) | refine YC (z := ?_) | refine YD (z := ?_))
    exact AWP.ret (rets rfl (.refl _) (.refl _) ⟨fin (by unfold text; rw [if_neg hno, fm_abi op (by omega)]; simp [seg, rTx]), rfl⟩)
  have n19 : ¬ op = 19 := h19
  repeat (first | refine nl ?_ | refine AWP.seq ?_ | refine rg ?_ | refine AWP.skip ?_ | refine AWP.block ?_ | refine YH (z := ?_) | refine YI (z := ?_) | refine ZA (z := ?_) | refine ZB (z := ?_) | refine ZC (z := ?_) | refine ZD (z := ?_) | refine ZF (z := ?_) | refine ZJ (z := ?_) | refine ZK (z := ?_) | refine ZO (z := ?_) | refine ZQ (z := ?_) | refine ZR (z := ?_) | refine YA (z := ?_) | refine ZG (z := ?_) | refine ZI (z := ?_) | refine YC (z := ?_) | refine YD (z := ?_))
  refine AWP.cond_dec rfl (fun h20 => ?_) (fun h20 => ?_)
  · have e20 : op = 20 := h20
    repeat (first | refine nl ?_ | refine AWP.seq ?_ | refine rg ?_ | refine AWP.skip ?_ | refine AWP.block ?_ | refine YH (z := ?_) | refine YI (z := ?_) | refine ZA (z := ?_) | refine ZB (z := ?_) | refine ZC (z := ?_) | refine ZD (z := ?_) | refine ZF (z := ?_) | refine ZJ (z := ?_) | refine ZK (z := ?_) | refine ZO (z := ?_) | refine ZQ (z := ?_) | refine ZR (z := ?_) | refine YA (z := ?_) | refine ZG (z := ?_) | refine ZI (z := ?_) | refine YC (z := ?_) | refine YD (z := ?_))
    refine sad rfl rfl rfl (by simp [rTx]; omega) ?_
    repeat (first | refine nl ?_ | refine AWP.seq ?_ | refine rg ?_ | refine AWP.skip ?_ | refine AWP.block ?_ | refine YH (z := ?_) | refine YI (z := ?_) | refine ZA (z := ?_) | refine ZB (z := ?_) | refine ZC (z := ?_) | refine ZD (z := ?_) | refine ZF (z := ?_) | refine ZJ (z := ?_) | refine ZK (z := ?_) | refine ZO (z := ?_) | refine ZQ (z := ?_) | refine ZR (z := ?_) | refine YA (z := ?_) | refine ZG (z := ?_) | refine ZI (z := ?_) | refine YC (z := ?_) | refine YD (z := ?_))
    refine sad rfl rfl rfl (by simp [rTx]; omega) ?_
    repeat (first | refine nl ?_ | refine AWP.seq ?_ | refine rg ?_ | refine AWP.skip ?_ | refine AWP.block ?_ | refine YH (z := ?_) | refine YI (z := ?_) | refine ZA (z := ?_) | refine ZB (z := ?_) | refine ZC (z := ?_) | refine ZD (z := ?_) | refine ZF (z := ?_) | refine ZJ (z := ?_) | refine ZK (z := ?_) | refine ZO (z := ?_) | refine ZQ (z := ?_) | refine ZR (z := ?_) | refine YA (z := ?_) | refine ZG (z := ?_) | refine ZI (z := ?_) | refine YC (z := ?_) | refine YD (z := ?_))
    refine sad rfl rfl rfl (by simp [rTx]; omega) ?_
    repeat (first | refine nl ?_ | refine AWP.seq ?_ | refine rg ?_ | refine AWP.skip ?_ | refine AWP.block ?_ | refine YH (z := ?_) | refine YI (z := ?_) | refine ZA (z := ?_) | refine ZB (z := ?_) | refine ZC (z := ?_) | refine ZD (z := ?_) | refine ZF (z := ?_) | refine ZJ (z := ?_) | refine ZK (z := ?_) | refine ZO (z := ?_) | refine ZQ (z := ?_) | refine ZR (z := ?_) | refine YA (z := ?_) | refine ZG (z := ?_) | refine ZI (z := ?_) | refine YC (z := ?_) | refine YD (z := ?_))
    exact AWP.ret (rets rfl (.refl _) (.refl _) ⟨fin (by unfold text; rw [if_neg hno, fm_abi op (by omega)]; simp [seg, rTx]), rfl⟩)
  have n20 : ¬ op = 20 := h20
  repeat (first | refine nl ?_ | refine AWP.seq ?_ | refine rg ?_ | refine AWP.skip ?_ | refine AWP.block ?_ | refine YH (z := ?_) | refine YI (z := ?_) | refine ZA (z := ?_) | refine ZB (z := ?_) | refine ZC (z := ?_) | refine ZD (z := ?_) | refine ZF (z := ?_) | refine ZJ (z := ?_) | refine ZK (z := ?_) | refine ZO (z := ?_) | refine ZQ (z := ?_) | refine ZR (z := ?_) | refine YA (z := ?_) | refine ZG (z := ?_) | refine ZI (z := ?_) | refine YC (z := ?_) | refine YD (z := ?_))
  refine AWP.cond_dec rfl (fun h21 => AWP.skip ?_) (fun h21 => ?_)
  · have e21 : op = 21 := h21
    repeat (first | refine nl ?_ | refine AWP.seq ?_ | refine rg ?_ | refine AWP.skip ?_ | refine AWP.block ?_ | refine YH (z := ?_) | refine YI (z := ?_) | refine ZA (z := ?_) | refine ZB (z := ?_) | refine ZC (z := ?_) | refine ZD (z := ?_) | refine ZF (z := ?_) | refine ZJ (z := ?_) | refine ZK (z := ?_) | refine ZO (z := ?_) | refine ZQ (z := ?_) | refine ZR (z := ?_) | refine YA (z := ?_) | refine ZG (z := ?_) | refine ZI (z := ?_) | refine YC (z := ?_) | refine YD (z := ?_))
    refine sad rfl rfl rfl (by simp [rTx]; omega) ?_
    repeat (first | refine nl ?_ | refine AWP.seq ?_ | refine rg ?_ | refine AWP.skip ?_ | refine AWP.block ?_ | refine YH (z := ?_) | refine YI (z := ?_) | refine ZA (z := ?_) | refine ZB (z := ?_) | refine ZC (z := ?_) | refine ZD (z := ?_) | refine ZF (z := ?_) | refine ZJ (z := ?_) | refine ZK (z := ?_) | refine ZO (z := ?_) | refine ZQ (z := ?_) | refine ZR (z := ?_) | refine YA (z := ?_) | refine ZG (z := ?_) | refine ZI (z := ?_) | refine YC (z := ?_) | refine YD (z := ?_))
    exact AWP.ret (rets rfl (.refl _) (.refl _) ⟨fin (by unfold text; rw [if_neg hno, fm_i op (by omega)]; simp [seg, rTx]), rfl⟩)
  have n21 : ¬ op = 21 := h21
  repeat (first | refine nl ?_ | refine AWP.seq ?_ | refine rg ?_ | refine AWP.skip ?_ | refine AWP.block ?_ | refine YH (z := ?_) | refine YI (z := ?_) | refine ZA (z := ?_) | refine ZB (z := ?_) | refine ZC (z := ?_) | refine ZD (z := ?_) | refine ZF (z := ?_) | refine ZJ (z := ?_) | refine ZK (z := ?_) | refine ZO (z := ?_) | refine ZQ (z := ?_) | refine ZR (z := ?_) | refine YA (z := ?_) | refine ZG (z := ?_) | refine ZI (z := ?_) | refine YC (z := ?_) | refine YD (z := ?_))
  refine AWP.cond_dec rfl (fun h23 => ?_) (fun h23 => ?_)
  · have e23 : op = 23 := h23
    repeat (first | refine nl ?_ | refine AWP.seq ?_ | refine rg ?_ | refine AWP.skip ?_ | refine AWP.block ?_ | refine YH (z := ?_) | refine YI (z := ?_) | refine ZA (z := ?_) | refine ZB (z := ?_) | refine ZC (z := ?_) | refine ZD (z := ?_) | refine ZF (z := ?_) | refine ZJ (z := ?_) | refine ZK (z := ?_) | refine ZO (z := ?_) | refine ZQ (z := ?_) | refine ZR (z := ?_) | refine YA (z := ?_) | refine ZG (z := ?_) | refine ZI (z := ?_) | refine YC (z := ?_) | refine YD (z := ?_))
    refine sad rfl rfl rfl (by simp [rTx]; omega) ?_
    repeat (first | refine nl ?_ | refine AWP.seq ?_ | refine rg ?_ | refine AWP.skip ?_ | refine AWP.block ?_ | refine YH (z := ?_) | refine YI (z := ?_) | refine ZA (z := ?_) | refine ZB (z := ?_) | refine ZC (z := ?_) | refine ZD (z := ?_) | refine ZF (z := ?_) | refine ZJ (z := ?_) | refine ZK (z := ?_) | refine ZO (z := ?_) | refine ZQ (z := ?_) | refine ZR (z := ?_) | refine YA (z := ?_) | refine ZG (z := ?_) | refine ZI (z := ?_) | refine YC (z := ?_) | refine YD (z := ?_))
    exact AWP.ret (rets rfl (.refl _) (.refl _) ⟨fin (by unfold text; rw [if_neg hno, fm_i op (by omega)]; simp [seg, rTx]), rfl⟩)
  have n23 : ¬ op = 23 := h23
  repeat (first | refine nl ?_ | refine AWP.seq ?_ | refine rg ?_ | refine AWP.skip ?_ | refine AWP.block ?_ | refine YH (z := ?_) | refine YI (z := ?_) | refine ZA (z := ?_) | refine ZB (z := ?_) | refine ZC (z := ?_) | refine ZD (z := ?_) | refine ZF (z := ?_) | refine ZJ (z := ?_) | refine ZK (z := ?_) | refine ZO (z := ?_) | refine ZQ (z := ?_) | refine ZR (z := ?_) | refine YA (z := ?_) | refine ZG (z := ?_) | refine ZI (z := ?_) | refine YC (z := ?_) | refine YD (z := ?_))
  refine AWP.cond_dec rfl (fun h25 => ?_) (fun h25 => AWP.skip ?_)
  · have e25 : op = 25 := h25
    repeat (first | refine nl ?_ | refine AWP.seq ?_ | refine rg ?_ | refine AWP.skip ?_ | refine AWP.block ?_ | refine YH (z := ?_) | refine YI (z := ?_) | refine ZA (z := ?_) | refine ZB (z := ?_) | refine ZC (z := ?_) | refine ZD (z := ?_) | refine ZF (z := ?_) | refine ZJ (z := ?_) | refine ZK (z := ?_) | refine ZO (z := ?_) | refine ZQ (z := ?_) | refine ZR (z := ?_) | refine YA (z := ?_) | refine ZG (z := ?_) | refine ZI (z := ?_) | refine YC (z := ?_) | refine YD (z := ?_))
    refine sad rfl rfl rfl (by simp [rTx]; omega) ?_
    repeat (first | refine nl ?_ | refine AWP.seq ?_ | refine rg ?_ | refine AWP.skip ?_ | refine AWP.block ?_ | refine YH (z := ?_) | refine YI (z := ?_) | refine ZA (z := ?_) | refine ZB (z := ?_) | refine ZC (z := ?_) | refine ZD (z := ?_) | refine ZF (z := ?_) | refine ZJ (z := ?_) | refine ZK (z := ?_) | refine ZO (z := ?_) | refine ZQ (z := ?_) | refine ZR (z := ?_) | refine YA (z := ?_) | refine ZG (z := ?_) | refine ZI (z := ?_) | refine YC (z := ?_) | refine YD (z := ?_))
    exact AWP.ret (rets rfl (.refl _) (.refl _) ⟨fin (by unfold text; rw [if_neg hno, show fmOf op = [97] by rw [e25]; rfl]; simp [seg, rTx]), rfl⟩)
  have n25 : ¬ op = 25 := h25
  repeat (first | refine nl ?_ | refine AWP.seq ?_ | refine rg ?_ | refine AWP.skip ?_ | refine AWP.block ?_ | refine YH (z := ?_) | refine YI (z := ?_) | refine ZA (z := ?_) | refine ZB (z := ?_) | refine ZC (z := ?_) | refine ZD (z := ?_) | refine ZF (z := ?_) | refine ZJ (z := ?_) | refine ZK (z := ?_) | refine ZO (z := ?_) | refine ZQ (z := ?_) | refine ZR (z := ?_) | refine YA (z := ?_) | refine ZG (z := ?_) | refine ZI (z := ?_) | refine YC (z := ?_) | refine YD (z := ?_))
  refine sad rfl rfl rfl (by simp [rTx]; omega) ?_
  repeat (first | refine nl ?_ | refine AWP.seq ?_ | refine rg ?_ | refine AWP.skip ?_ | refine AWP.block ?_ | refine YH (z := ?_) | refine YI (z := ?_) | refine ZA (z := ?_) | refine ZB (z := ?_) | refine ZC (z := ?_) | refine ZD (z := ?_) | refine ZF (z := ?_) | refine ZJ (z := ?_) | refine ZK (z := ?_) | refine ZO (z := ?_) | refine ZQ (z := ?_) | refine ZR (z := ?_) | refine YA (z := ?_) | refine ZG (z := ?_) | refine ZI (z := ?_) | refine YC (z := ?_) | refine YD (z := ?_))
  refine sad rfl rfl rfl (by simp [rTx]; omega) ?_
  repeat (first | refine nl ?_ | refine AWP.seq ?_ | refine rg ?_ | refine AWP.skip ?_ | refine AWP.block ?_ | refine YH (z := ?_) | refine YI (z := ?_) | refine ZA (z := ?_) | refine ZB (z := ?_) | refine ZC (z := ?_) | refine ZD (z := ?_) | refine ZF (z := ?_) | refine ZJ (z := ?_) | refine ZK (z := ?_) | refine ZO (z := ?_) | refine ZQ (z := ?_) | refine ZR (z := ?_) | refine YA (z := ?_) | refine ZG (z := ?_) | refine ZI (z := ?_) | refine YC (z := ?_) | refine YD (z := ?_))
  refine sad rfl rfl rfl (by simp [rTx]; omega) ?_
  repeat (first | refine nl ?_ | refine AWP.seq ?_ | refine rg ?_ | refine AWP.skip ?_ | refine AWP.block ?_ | refine YH (z := ?_) | refine YI (z := ?_) | refine ZA (z := ?_) | refine ZB (z := ?_) | refine ZC (z := ?_) | refine ZD (z := ?_) | refine ZF (z := ?_) | refine ZJ (z := ?_) | refine ZK (z := ?_) | refine ZO (z := ?_) | refine ZQ (z := ?_) | refine ZR (z := ?_) | refine YA (z := ?_) | refine ZG (z := ?_) | refine ZI (z := ?_) | refine YC (z := ?_) | refine YD (z := ?_))
  exact AWP.ret (rets rfl (.refl _) (.refl _) ⟨fin (by unfold text; rw [if_neg hno, fm_abc op (by omega)]; simp [seg, rTx]), rfl⟩)
end Go.Proofs
/- The reference's texts of instructions. No conditions: definitions and lemmas only. -/
namespace Go.Proofs
open Go.AM
attribute [local irreducible] AWP AOps ACalls
set_option linter.unusedSimpArgs false

def sRow (w : List UInt8) : List AV := [.str w]
theorem names_chunk : chunk 1 25 (opNames.map AV.str) = opNames.map sRow := rfl
theorem forms_chunk : chunk 1 25 (opForms.map AV.str) = opForms.map sRow := rfl
instance : PureFn Tryd.prog 33 [] (.tuple [.view 1 (opNames.map sRow) .shared, .view 1 (opForms.map sRow) .shared]) where
  out st := by
    refine ACalls.ofBody Tryd.func33 rfl Tryd.ntmps33 rfl ?_
    repeat (first | refine nl ?_ | refine AWP.seq ?_ | refine rg ?_ | refine AWP.skip ?_ | refine AWP.block ?_ | refine YH (z := ?_) | refine YI (z := ?_) | refine ZA (z := ?_) | refine ZB (z := ?_) | refine ZC (z := ?_) | refine ZD (z := ?_) | refine ZF (z := ?_) | refine ZJ (z := ?_) | refine ZK (z := ?_) | refine ZO (z := ?_) | refine ZQ (z := ?_) | refine ZR (z := ?_) | refine YA (z := ?_) | refine ZG (z := ?_) | refine ZI (z := ?_) | refine YC (z := ?_) | refine YD (z := ?_))
    refine bsh (cs := opNames.map .str) rfl rfl rfl rfl rfl ?_
    rw [names_chunk]
    refine bsh (cs := opForms.map .str) rfl rfl rfl rfl rfl ?_
    rw [forms_chunk]
    repeat (first | refine nl ?_ | refine AWP.seq ?_ | refine rg ?_ | refine AWP.skip ?_ | refine AWP.block ?_ | refine YH (z := ?_) | refine YI (z := ?_) | refine ZA (z := ?_) | refine ZB (z := ?_) | refine ZC (z := ?_) | refine ZD (z := ?_) | refine ZF (z := ?_) | refine ZJ (z := ?_) | refine ZK (z := ?_) | refine ZO (z := ?_) | refine ZQ (z := ?_) | refine ZR (z := ?_) | refine YA (z := ?_) | refine ZG (z := ?_) | refine ZI (z := ?_) | refine YC (z := ?_) | refine YD (z := ?_))
    exact AWP.ret (rets rfl (.refl _) (.refl _) ⟨rfl, rfl⟩)
end Go.Proofs
/- The law's helpers: List, Outcome, words, known. No conditions: definitions and lemmas only. -/
namespace Go.Proofs
open Go.AM
attribute [local irreducible] AWP AOps ACalls
set_option linter.unusedSimpArgs false

end Go.Proofs
/- The law's helpers: words, known. No conditions: definitions and lemmas only. -/
namespace Go.Proofs
open Go.AM
attribute [local irreducible] AWP AOps ACalls
set_option linter.unusedSimpArgs false

theorem known_run : runP [word ⟨3, 0, 0, 0, 7⟩, word ⟨24, 0, 0, 0, 0⟩] 40 0 [] 9 = ⟨0, false, 7, []⟩ := by kernel_rfl
theorem known_text : text ⟨5, 1, 2, 0, 0⟩ = [109, 111, 118, 101, 32, 114, 49, 32, 114, 50] := by
  have h1 : Lib.itoa 1 = [49] := by rw [show (1 : Int) = ((1 : Nat) : Int) from rfl, itoa_nat, Lib.decDigits_one (by decide)]; rfl
  have h2 : Lib.itoa 2 = [50] := by rw [show (2 : Int) = ((2 : Nat) : Int) from rfl, itoa_nat, Lib.decDigits_one (by decide)]; rfl
  unfold text
  rw [if_neg (by decide), show fmOf (Ins.op ⟨5, 1, 2, 0, 0⟩) = [97, 98] from rfl]
  simp only [List.flatMap_cons, List.flatMap_nil, seg, rTx]
  simp only [if_pos, h1, h2, show ((98 : UInt8) = 97) = False by decide, if_false]
  rfl
theorem known_ok (st : St) (hT : (1, powRow) ∈ st.glob) (hN : st.row 0 = some nameRow) : ACalls Tryd.prog 16 [] st (fun v st' => v = .bool true ∧ st' = st) (fun _ _ => False) := by
  refine ACalls.ofBody Tryd.func16 rfl Tryd.ntmps16 rfl ?_
  repeat (first | refine nl ?_ | refine AWP.seq ?_ | refine rg ?_ | refine AWP.skip ?_ | refine AWP.block ?_ | refine YH (z := ?_) | refine YI (z := ?_) | refine ZA (z := ?_) | refine ZB (z := ?_) | refine ZC (z := ?_) | refine ZD (z := ?_) | refine ZF (z := ?_) | refine ZJ (z := ?_) | refine ZK (z := ?_) | refine ZO (z := ?_) | refine ZQ (z := ?_) | refine ZR (z := ?_) | refine YA (z := ?_) | refine ZG (z := ?_) | refine ZI (z := ?_) | refine YC (z := ?_) | refine YD (z := ?_))
  refine bds (cs := insRow ⟨3, 0, 0, 0, 7⟩) rfl rfl rfl rfl ?_
  refine clp rfl rfl (encode_ok ⟨3, 0, 0, 0, 7⟩) ?_
  rw [encH (i := ⟨3, 0, 0, 0, 7⟩) (by decide) (by decide)]
  repeat (first | refine nl ?_ | refine AWP.seq ?_ | refine rg ?_ | refine AWP.skip ?_ | refine AWP.block ?_ | refine YH (z := ?_) | refine YI (z := ?_) | refine ZA (z := ?_) | refine ZB (z := ?_) | refine ZC (z := ?_) | refine ZD (z := ?_) | refine ZF (z := ?_) | refine ZJ (z := ?_) | refine ZK (z := ?_) | refine ZO (z := ?_) | refine ZQ (z := ?_) | refine ZR (z := ?_) | refine YA (z := ?_) | refine ZG (z := ?_) | refine ZI (z := ?_) | refine YC (z := ?_) | refine YD (z := ?_))
  refine bds (cs := insRow ⟨24, 0, 0, 0, 0⟩) rfl rfl rfl rfl ?_
  refine clp rfl rfl (encode_ok ⟨24, 0, 0, 0, 0⟩) ?_
  rw [encH (i := ⟨24, 0, 0, 0, 0⟩) (by decide) (by decide)]
  repeat (first | refine nl ?_ | refine AWP.seq ?_ | refine rg ?_ | refine AWP.skip ?_ | refine AWP.block ?_ | refine YH (z := ?_) | refine YI (z := ?_) | refine ZA (z := ?_) | refine ZB (z := ?_) | refine ZC (z := ?_) | refine ZD (z := ?_) | refine ZF (z := ?_) | refine ZJ (z := ?_) | refine ZK (z := ?_) | refine ZO (z := ?_) | refine ZQ (z := ?_) | refine ZR (z := ?_) | refine YA (z := ?_) | refine ZG (z := ?_) | refine ZI (z := ?_) | refine YC (z := ?_) | refine YD (z := ?_))
  refine bsh (cs := [.int .i64 (word ⟨3, 0, 0, 0, 7⟩), .int .i64 (word ⟨24, 0, 0, 0, 0⟩)]) rfl rfl rfl rfl rfl ?_
  refine cle rfl rfl (run_ok [word ⟨3, 0, 0, 0, 7⟩, word ⟨24, 0, 0, 0, 0⟩] [] 40 0 9 _ _ (.refl _) (.nilShared _ _) (by intro x hx; simp only [List.mem_cons, List.not_mem_nil, or_false] at hx; rcases hx with rfl | rfl <;> exact word_range (by decide) (by decide)) (fun x hx => by cases hx) w0 (by decide) (by decide) _) ?_
  rw [known_run]
  refine al rfl rfl fun o5 h5 => ?_
  refine soN 5 rfl rfl rfl rfl rfl rfl h5 ?_
  repeat (first | refine nl ?_ | refine AWP.seq ?_ | refine rg ?_ | refine AWP.skip ?_ | refine AWP.block ?_ | refine YH (z := ?_) | refine YI (z := ?_) | refine ZA (z := ?_) | refine ZB (z := ?_) | refine ZC (z := ?_) | refine ZD (z := ?_) | refine ZF (z := ?_) | refine ZJ (z := ?_) | refine ZK (z := ?_) | refine ZO (z := ?_) | refine ZQ (z := ?_) | refine ZR (z := ?_) | refine YA (z := ?_) | refine ZG (z := ?_) | refine ZI (z := ?_) | refine YC (z := ?_) | refine YD (z := ?_))
  refine bds (cs := insRow ⟨5, 1, 2, 0, 0⟩) rfl rfl rfl rfl ?_
  refine cle rfl rfl (text_ok ⟨5, 1, 2, 0, 0⟩ _ hT hN ⟨⟨by decide, by decide⟩, ⟨by decide, by decide⟩, ⟨by decide, by decide⟩, ⟨by decide, by decide⟩⟩) ?_
  rw [known_text]
  repeat (first | refine nl ?_ | refine AWP.seq ?_ | refine rg ?_ | refine AWP.skip ?_ | refine AWP.block ?_ | refine YH (z := ?_) | refine YI (z := ?_) | refine ZA (z := ?_) | refine ZB (z := ?_) | refine ZC (z := ?_) | refine ZD (z := ?_) | refine ZF (z := ?_) | refine ZJ (z := ?_) | refine ZK (z := ?_) | refine ZO (z := ?_) | refine ZQ (z := ?_) | refine ZR (z := ?_) | refine YA (z := ?_) | refine ZG (z := ?_) | refine ZI (z := ?_) | refine YC (z := ?_) | refine YD (z := ?_))
  exact AWP.ret (rets rfl (.refl _) (.refl _) ⟨rfl, rfl⟩)
end Go.Proofs
/- The walks of IsaWords and IsaBack. No conditions: lemmas only. -/
namespace Go.Proofs
open Go.AM
attribute [local irreducible] AWP AOps ACalls
set_option linter.unusedSimpArgs false

def efSh : List Sh := [.kI .i64, .kI .i64, .kI .i64, .kI .i64, .kI .i64, .kI .i64, .kI .i64, .kI .i64, .kI .i64, .kI .i64, .kI .i64, .kI .i64, .kI .i64, .kI .i64, .kI .i64, .kI .i64, .kI .i64, .kB, .kI .i64, .kI .i64, .kB, .kI .i64]
def rSh : List Sh := [.kI .i64, .kI .i64, .kI .i64, .kI .i64, .kI .i64, .kI .i64, .kI .i64, .kI .i64, .kI .i64, .kI .i64, .kI .i64, .kI .i64, .kI .i64, .kI .i64, .kI .i64, .kI .i64]
instance insFlat : FlatT Tryd.prog 23 [.kI .i64, .kI .i64, .kI .i64, .kI .i64, .kI .i64] := ⟨by kernel_rfl, by kernel_rfl, by kernel_rfl⟩
instance efFlat : FlatT Tryd.prog 40 efSh := ⟨by kernel_rfl, by kernel_rfl, by kernel_rfl⟩
instance rFlat : FlatT Tryd.prog 33 rSh := ⟨by kernel_rfl, by kernel_rfl, by kernel_rfl⟩
theorem fits_r {r : List Int} (h : r.length = 16) : fits rSh (r.map iv) = true := by
  match r, h with
  | [_, _, _, _, _, _, _, _, _, _, _, _, _, _, _, _], _ => rfl
def Ins.w (i : Ins) : Prop := w64 i.op ∧ w64 i.a ∧ w64 i.b ∧ w64 i.c ∧ w64 i.imm
end Go.Proofs
/- The laws' arguments, opened. No conditions: lemmas only. -/
namespace Go.Proofs
open Go.AM
theorem wf64 {x : Int} (h : (Lit.int .i64 x).wf = true) : w64 x := by
  simp only [Lit.wf, Bool.and_eq_true, decide_eq_true_eq] at h
  have h1 : (-9223372036854775808 : Int) ≤ x := h.1
  have h2 : x ≤ (9223372036854775807 : Int) := h.2
  unfold w64
  omega
theorem arg_cpu {a : AV} (h : ArgTy Tryd.prog 35 a) : ∃ c : Cp, a = .agg (cpRow c) ∧ c.good := by
  obtain ⟨cs, rfl, hf⟩ := arg_flat (d := 10) (sh := List.replicate 17 (.kI .i64)) Tryd.underlying35 rfl (by kernel_rfl) (by kernel_rfl) h
  obtain ⟨l, rfl, hl, hw⟩ := fits_ints 17 hf
  obtain ⟨p, hp⟩ : ∃ p, l[16]? = some p := ⟨l[16], List.getElem?_eq_getElem (by omega)⟩
  have e : l = l.take 16 ++ [p] := by
    have h1 : l.take 17 = l := List.take_of_length_le (by omega)
    rw [List.take_add_one, hp] at h1
    exact h1.symm
  refine ⟨⟨l.take 16, p⟩, ?_, by simp [hl], fun x hx => wf64 (hw x (List.mem_of_mem_take hx)), wf64 (hw p (List.mem_of_getElem? hp))⟩
  conv => lhs; rw [e]
  rw [List.map_append]
  rfl
end Go.Proofs
/- What the laws of this seat share: the laid tables, the arguments' kinds. No conditions: lemmas only. -/
namespace Go.Proofs.YtmbjedojknmgcaaDoor
open Go.ChangeShapes Go.WideShapes Go.ChangeAt Go.RowKit Go.AM

theorem own : ownKnob Tryd.prog.godebug = none := by kernel_rfl
theorem laidOut : laidOutB Tryd.prog = true := by kernel_rfl
def laidAll : List (String × DataW Unit) := [("math/bits.deBruijn32tab", Rows.laid_math_bits_deBruijn32tab), ("math/bits.deBruijn64tab", Rows.laid_math_bits_deBruijn64tab), ("internal/strconv.uint64pow10", Rows.laid_internal_strconv_uint64pow10), ("debugger/isa.names", Rows.laid_debugger_isa_names)]

theorem kinds : ∀ t ∈ [3, 9, 44, 23, 36, 33, 35, 59, 75, 81], Go.AM.kindOk Tryd.prog [3, 9, 44, 23, 36, 33, 35, 59, 75, 81] t = true := by
  intro t ht
  simp only [List.mem_cons, List.not_mem_nil, or_false] at ht
  rcases ht with rfl | rfl | rfl | rfl | rfl | rfl | rfl | rfl | rfl | rfl <;> kernel_rfl
theorem pow_row : litRow (Rows.laid_internal_strconv_uint64pow10 : DataW Unit) = some powRow := by kernel_rfl
theorem tables {W : World} (h : laidMetH Tryd.prog laidAll W) : ∀ gi row, (gi, row) ∈ [(0, nameRow), (1, powRow)] → GlobAt (G0 W) W gi row := by
  have h' : laidMet Tryd.prog laidAll W := h
  intro gi row hm
  simp only [List.mem_cons, List.not_mem_nil, or_false] at hm
  rcases hm with hm | hm
  · cases hm
    exact laid_row kinds h' (n := "debugger/isa.names") (t := 59) (.tail _ (.tail _ (.tail _ (.head _)))) rfl (by kernel_rfl) (by kernel_rfl) (by decide) (by decide)
  · cases hm
    exact laid_row kinds h' (n := "internal/strconv.uint64pow10") (t := 81) (.tail _ (.tail _ (.head _))) pow_row (by kernel_rfl) (by kernel_rfl) (by decide) (by decide)
theorem hT : ((1, powRow) : Nat × List AV) ∈ [(0, nameRow), (1, powRow)] := .tail _ (.head _)
end Go.Proofs.YtmbjedojknmgcaaDoor
/- The walk of IsaCalls. No conditions: lemmas only. -/
namespace Go.Proofs
open Go.AM
attribute [local irreducible] AWP AOps ACalls
set_option linter.unusedSimpArgs false

instance (n : Int) : PureFn Tryd.prog 22 [.int .i64 n, .int .i64 1073741824] (.int .i64 (n % 1073741824)) := ⟨mod_ok n 1073741824 (by decide) (by decide)⟩
instance (n : Int) : PureFn Tryd.prog 22 [.int .i64 n, .int .i64 12] (.int .i64 (n % 12)) := ⟨mod_ok n 12 (by decide) (by decide)⟩
instance (n : Int) : PureFn Tryd.prog 22 [.int .i64 n, .int .i64 200] (.int .i64 (n % 200)) := ⟨mod_ok n 200 (by decide) (by decide)⟩
theorem sub_add {x : Int} (h : w64 x) : add64 (sub64 x 1) 1 = x := by
  unfold add64 sub64 w64 at *
  by_cases hx : x = -9223372036854775808
  · subst hx; decide
  · rw [wrap64 (a := x - 1) (by omega), wrap64 (by omega)]
    omega
theorem exec_call (c : Cp) (m : Int) (h0 : 0 ≤ m) (h1 : m < 1073741824) : exec c ⟨23, 0, 0, 0, m⟩ 0 = (⟨⟨c.r.set 14 (sub64 (c.get 14) 1), m⟩, true, sub64 (c.get 14) 1, add64 c.pc 1, false, 0⟩, 0) := by
  have he : enc ⟨23, 0, 0, 0, m⟩ = (word ⟨23, 0, 0, 0, m⟩, 0) := enc_ok (rng_iff.2 ⟨⟨by simp only; omega, by simp only; omega⟩, ⟨by simp, by simp⟩, ⟨by simp, by simp⟩, ⟨by simp, by simp⟩⟩) rfl
  unfold exec
  rw [if_neg (by rw [he]; intro h; rcases h with h | h; exact h rfl; exact absurd (show (23 : Int) = 2 from h) (by decide))]
  rfl
theorem exec_ret (c : Cp) (l : Int) : exec c ⟨24, 0, 0, 0, 0⟩ l = (⟨⟨c.r.set 14 (add64 (c.get 14) 1), l⟩, false, 0, 0, false, 0⟩, 0) := by
  unfold exec
  rw [if_neg (by decide)]
  rfl
theorem ef_r {x : Ef} (h : x.cpu.r.length = 16) : sel true 16 (efRow x) 0 = some (.agg (x.cpu.r.map iv)) := by
  unfold sel
  rw [show Nat.ble (0 + 16) (efRow x).length = true by rw [ef_len h]; rfl]
  simp only [cond_true, List.drop_zero, Option.some.injEq, AV.agg.injEq]
  unfold efRow
  rw [List.take_append]
  simp [h]
  exact List.take_of_length_le (by simp [h])
theorem cp_r {c : Cp} (h : c.r.length = 16) : sel true 16 (cpRow c) 0 = some (.agg (c.r.map iv)) := by
  unfold sel
  rw [show Nat.ble (0 + 16) (cpRow c).length = true by rw [cp_len h]; rfl]
  simp only [cond_true, List.drop_zero, Option.some.injEq, AV.agg.injEq]
  unfold cpRow
  rw [List.take_append]
  simp [h]
  exact List.take_of_length_le (by simp [h])
set_option maxHeartbeats 4000000 in
theorem IsaCalls_ok (c : Cp) (hc : c.good) (to : Int) (_ : w64 to) (back : Int) (_ : w64 back) (st : St) (hT : (1, powRow) ∈ st.glob) (hN : st.row 0 = some nameRow) :
    ACalls Tryd.prog 8 [.agg (cpRow c), .int .i64 to, .int .i64 back] st (fun v _ => v = .bool true) (fun _ _ => False) := by
  refine ACalls.ofBody Tryd.func8 rfl Tryd.ntmps8 rfl ?_
  have hl := cp_len hc.len
  have g16 : (cpRow c)[0 + 16]? = some (.int .i64 c.pc) := cp_pc hc.len
  obtain ⟨m, hm, m0, m1⟩ : ∃ m, to % 1073741824 = m ∧ 0 ≤ m ∧ m < 1073741824 := ⟨_, rfl, by omega, by omega⟩
  have x1 := exec_call c m m0 m1
  generalize hr1 : c.r.set 14 (sub64 (c.get 14) 1) = r1 at x1
  have l1 : r1.length = 16 := by rw [← hr1]; exact set_len hc.len _ _
  have x2 := exec_ret ⟨r1, m⟩ back
  have g1 : Cp.get ⟨r1, m⟩ 14 = sub64 (c.get 14) 1 := by rw [← hr1]; simp [Cp.get, hc.len]
  have r2 : r1.set 14 (add64 (Cp.get ⟨r1, m⟩ 14) 1) = c.r := by
    rw [g1, sub_add (hc.get 14), ← hr1, List.set_set]
    have : c.get 14 = c.r[14]'(by rw [hc.len]; decide) := by simp [Cp.get, List.getD_eq_getElem?_getD, hc.len]
    rw [this, List.set_getElem_self]
  rw [r2] at x2
  have v1 : execV c ⟨23, 0, 0, 0, m⟩ 0 = .tuple [.agg (efRow ⟨⟨r1, m⟩, true, sub64 (c.get 14) 1, add64 c.pc 1, false, 0⟩), .int .i64 0] := by rw [execV, x1]
  have v2 : execV ⟨r1, m⟩ ⟨24, 0, 0, 0, 0⟩ back = .tuple [.agg (efRow ⟨⟨c.r, back⟩, false, 0, 0, false, 0⟩), .int .i64 0] := by rw [execV, x2]
  have v3 : readsV ⟨r1, m⟩ ⟨24, 0, 0, 0, 0⟩ = .tuple [.int .i64 (sub64 (c.get 14) 1), .bool true] := by rw [← g1]; rfl
  repeat (first | refine nl ?_ | refine AWP.seq ?_ | refine AWP.skip ?_ | refine AWP.block ?_)
  refine rg ?_
  refine bxe rfl rfl rfl hl ?_
  repeat (first | refine nl ?_ | refine AWP.seq ?_ | refine rg ?_ | refine AWP.skip ?_ | refine AWP.block ?_ | refine YH (z := ?_) | refine YI (z := ?_) | refine ZA (z := ?_) | refine ZB (z := ?_) | refine ZC (z := ?_) | refine ZD (z := ?_) | refine ZF (z := ?_) | refine ZJ (z := ?_) | refine ZK (z := ?_) | refine ZO (z := ?_) | refine ZQ (z := ?_) | refine ZR (z := ?_) | refine YA (z := ?_) | refine ZG (z := ?_) | refine ZI (z := ?_) | refine YC (z := ?_) | refine YD (z := ?_))
  rw [hm]
  refine leW rfl rfl rfl rfl (by rw [hl]; rfl) ?_
  repeat (first | refine ZA (z := ?_) | refine ZB (z := ?_) | refine ZC (z := ?_) | refine ZD (z := ?_) | refine ZF (z := ?_) | refine ZJ (z := ?_) | refine ZK (z := ?_) | refine ZO (z := ?_) | refine ZQ (z := ?_) | refine ZR (z := ?_) | refine YA (z := ?_) | refine ZG (z := ?_) | refine ZI (z := ?_) | refine YC (z := ?_) | refine YD (z := ?_))
  refine bds (cs := insRow ⟨23, 0, 0, 0, m⟩) rfl rfl rfl rfl ?_
  refine cle rfl rfl (execute_ok c hc.len ⟨23, 0, 0, 0, m⟩ 0 _) ?_
  rw [v1]
  repeat (first | refine ZA (z := ?_) | refine ZB (z := ?_) | refine ZC (z := ?_) | refine ZD (z := ?_) | refine ZF (z := ?_) | refine ZJ (z := ?_) | refine ZK (z := ?_) | refine ZO (z := ?_) | refine ZQ (z := ?_) | refine ZR (z := ?_) | refine YA (z := ?_) | refine ZG (z := ?_) | refine ZI (z := ?_) | refine YC (z := ?_) | refine YD (z := ?_))
  refine al rfl rfl fun o8 h8 => ?_
  refine soN 8 rfl rfl rfl rfl (by rw [ef_len' l1]; rfl) (by rw [ef_len' l1]; rfl) h8 ?_
  repeat (first | refine nl ?_ | refine AWP.seq ?_ | refine rg ?_ | refine AWP.skip ?_ | refine AWP.block ?_ | refine YH (z := ?_) | refine YI (z := ?_) | refine ZA (z := ?_) | refine ZB (z := ?_) | refine ZC (z := ?_) | refine ZD (z := ?_) | refine ZF (z := ?_) | refine ZJ (z := ?_) | refine ZK (z := ?_) | refine ZO (z := ?_) | refine ZQ (z := ?_) | refine ZR (z := ?_) | refine YA (z := ?_) | refine ZG (z := ?_) | refine ZI (z := ?_) | refine YC (z := ?_) | refine YD (z := ?_))
  refine le rfl rfl rfl (by exact ef_sel (e := ⟨⟨r1, m⟩, true, sub64 (c.get 14) 1, add64 c.pc 1, false, 0⟩) l1) ?_
  refine bds (cs := insRow ⟨24, 0, 0, 0, 0⟩) rfl rfl rfl rfl ?_
  refine cle rfl rfl (reads_ok ⟨r1, m⟩ l1 ⟨24, 0, 0, 0, 0⟩ w0 _) ?_
  rw [v3]
  repeat (first | refine nl ?_ | refine AWP.seq ?_ | refine rg ?_ | refine AWP.skip ?_ | refine AWP.block ?_ | refine YH (z := ?_) | refine YI (z := ?_) | refine ZA (z := ?_) | refine ZB (z := ?_) | refine ZC (z := ?_) | refine ZD (z := ?_) | refine ZF (z := ?_) | refine ZJ (z := ?_) | refine ZK (z := ?_) | refine ZO (z := ?_) | refine ZQ (z := ?_) | refine ZR (z := ?_) | refine YA (z := ?_) | refine ZG (z := ?_) | refine ZI (z := ?_) | refine YC (z := ?_) | refine YD (z := ?_))
  refine le rfl rfl rfl (by exact ef_sel (e := ⟨⟨r1, m⟩, true, sub64 (c.get 14) 1, add64 c.pc 1, false, 0⟩) l1) ?_
  refine bds (cs := insRow ⟨24, 0, 0, 0, 0⟩) rfl rfl rfl rfl ?_
  repeat (first | refine ZA (z := ?_) | refine ZB (z := ?_) | refine ZC (z := ?_) | refine ZD (z := ?_) | refine ZF (z := ?_) | refine ZJ (z := ?_) | refine ZK (z := ?_) | refine ZO (z := ?_) | refine ZQ (z := ?_) | refine ZR (z := ?_) | refine YA (z := ?_) | refine ZG (z := ?_) | refine ZI (z := ?_) | refine YC (z := ?_) | refine YD (z := ?_))
  refine cle rfl rfl (execute_ok ⟨r1, m⟩ l1 ⟨24, 0, 0, 0, 0⟩ back _) ?_
  rw [v2]
  repeat (first | refine ZA (z := ?_) | refine ZB (z := ?_) | refine ZC (z := ?_) | refine ZD (z := ?_) | refine ZF (z := ?_) | refine ZJ (z := ?_) | refine ZK (z := ?_) | refine ZO (z := ?_) | refine ZQ (z := ?_) | refine ZR (z := ?_) | refine YA (z := ?_) | refine ZG (z := ?_) | refine ZI (z := ?_) | refine YC (z := ?_) | refine YD (z := ?_))
  refine al rfl rfl fun o12 h12 => ?_
  refine soN 12 rfl rfl rfl rfl (by rw [ef_len' hc.len]; rfl) (by rw [ef_len' hc.len]; rfl) h12 ?_
  have p16 : (efRow ⟨⟨r1, m⟩, true, sub64 (c.get 14) 1, add64 c.pc 1, false, 0⟩)[0 + 0 + 16]? = some (.int .i64 m) := ef_col ⟨⟨r1, m⟩, true, sub64 (c.get 14) 1, add64 c.pc 1, false, 0⟩ l1 0
  obtain ⟨q17, q18, q19, q20, q21⟩ := ef_cols (x := ⟨⟨r1, m⟩, true, sub64 (c.get 14) 1, add64 c.pc 1, false, 0⟩) l1
  have b16 : (efRow ⟨⟨c.r, back⟩, false, 0, 0, false, 0⟩)[0 + 0 + 16]? = some (.int .i64 back) := ef_col ⟨⟨c.r, back⟩, false, 0, 0, false, 0⟩ hc.len 0
  repeat (first | refine nl ?_ | refine AWP.seq ?_ | refine rg ?_ | refine AWP.skip ?_ | refine AWP.block ?_ | refine YH (z := ?_) | refine YI (z := ?_) | refine ZA (z := ?_) | refine ZB (z := ?_) | refine ZC (z := ?_) | refine ZD (z := ?_) | refine ZF (z := ?_) | refine ZJ (z := ?_) | refine ZK (z := ?_) | refine ZO (z := ?_) | refine ZQ (z := ?_) | refine ZR (z := ?_) | refine YA (z := ?_) | refine ZG (z := ?_) | refine ZI (z := ?_) | refine YC (z := ?_) | refine YD (z := ?_))
  refine adk (c := add64 c.pc 1) rfl rfl rfl rfl ?_
  repeat (first | refine nl ?_ | refine AWP.seq ?_ | refine rg ?_ | refine AWP.skip ?_ | refine AWP.block ?_ | refine YH (z := ?_) | refine YI (z := ?_) | refine ZA (z := ?_) | refine ZB (z := ?_) | refine ZC (z := ?_) | refine ZD (z := ?_) | refine ZF (z := ?_) | refine ZJ (z := ?_) | refine ZK (z := ?_) | refine ZO (z := ?_) | refine ZQ (z := ?_) | refine ZR (z := ?_) | refine YA (z := ?_) | refine ZG (z := ?_) | refine ZI (z := ?_) | refine YC (z := ?_) | refine YD (z := ?_))
  refine le rfl rfl rfl (by exact ef_r (x := ⟨⟨c.r, back⟩, false, 0, 0, false, 0⟩) hc.len) ?_
  repeat (first | refine ZA (z := ?_) | refine ZB (z := ?_) | refine ZC (z := ?_) | refine ZD (z := ?_) | refine ZF (z := ?_) | refine ZJ (z := ?_) | refine ZK (z := ?_) | refine ZO (z := ?_) | refine ZQ (z := ?_) | refine ZR (z := ?_) | refine YA (z := ?_) | refine ZG (z := ?_) | refine ZI (z := ?_) | refine YC (z := ?_) | refine YD (z := ?_))
  refine le rfl rfl rfl (by exact cp_r hc.len) ?_
  refine eqA rfl rfl rfl (fits_r hc.len) (fits_r hc.len) ?_
  repeat (first | refine nl ?_ | refine AWP.seq ?_ | refine rg ?_ | refine AWP.skip ?_ | refine AWP.block ?_ | refine YH (z := ?_) | refine YI (z := ?_) | refine ZA (z := ?_) | refine ZB (z := ?_) | refine ZC (z := ?_) | refine ZD (z := ?_) | refine ZF (z := ?_) | refine ZJ (z := ?_) | refine ZK (z := ?_) | refine ZO (z := ?_) | refine ZQ (z := ?_) | refine ZR (z := ?_) | refine YA (z := ?_) | refine ZG (z := ?_) | refine ZI (z := ?_) | refine YC (z := ?_) | refine YD (z := ?_))
  refine gB true rfl (cellsEq_self (fits_r hc.len)) ?_
  repeat (first | refine nl ?_ | refine AWP.seq ?_ | refine rg ?_ | refine AWP.skip ?_ | refine AWP.block ?_ | refine YH (z := ?_) | refine YI (z := ?_) | refine ZA (z := ?_) | refine ZB (z := ?_) | refine ZC (z := ?_) | refine ZD (z := ?_) | refine ZF (z := ?_) | refine ZJ (z := ?_) | refine ZK (z := ?_) | refine ZO (z := ?_) | refine ZQ (z := ?_) | refine ZR (z := ?_) | refine YA (z := ?_) | refine ZG (z := ?_) | refine ZI (z := ?_) | refine YC (z := ?_) | refine YD (z := ?_))
  refine cle rfl rfl (known_ok _ hT hN) ?_
  repeat (first | refine nl ?_ | refine AWP.seq ?_ | refine rg ?_ | refine AWP.skip ?_ | refine AWP.block ?_ | refine YH (z := ?_) | refine YI (z := ?_) | refine ZA (z := ?_) | refine ZB (z := ?_) | refine ZC (z := ?_) | refine ZD (z := ?_) | refine ZF (z := ?_) | refine ZJ (z := ?_) | refine ZK (z := ?_) | refine ZO (z := ?_) | refine ZQ (z := ?_) | refine ZR (z := ?_) | refine YA (z := ?_) | refine ZG (z := ?_) | refine ZI (z := ?_) | refine YC (z := ?_) | refine YD (z := ?_))
  exact AWP.ret (rets rfl (.refl _) (.refl _) rfl)
end Go.Proofs
