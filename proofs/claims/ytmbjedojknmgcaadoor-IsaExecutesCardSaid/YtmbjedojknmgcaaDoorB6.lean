/- Instructions as texts. No conditions: definitions and lemmas only. -/
import Derived.Test.YtmbjedojknmgcaaDoorRows
import Derived.Test.YtmbjedojknmgcaaDoorTie
import Derived.Test.YtmbjedojknmgcaaDoorCards
import Derived.ProofKit
import Derived.OpenShut
import Derived.Lay
import Derived.Test.YtmbjedojknmgcaaDoorB5
namespace Go.Proofs
open Go.AM
attribute [local irreducible] AWP AOps ACalls
set_option linter.unusedSimpArgs false

def opNames : List (List UInt8) := [[110, 111, 112], [98, 114, 101, 97, 107], [99, 111, 110, 115, 116], [112, 111, 111, 108], [109, 111, 118, 101], [97, 100, 100], [115, 117, 98], [109, 117, 108], [100, 105, 118], [109, 111, 100], [97, 110, 100], [111, 114], [120, 111, 114], [108, 101, 115, 115], [108, 101, 115, 115, 101, 113], [101, 113, 117, 97, 108], [110, 111, 116, 101, 113, 117, 97, 108], [97, 100, 100, 105, 109, 109], [108, 111, 97, 100], [115, 116, 111, 114, 101], [106, 117, 109, 112], [122, 101, 114, 111], [99, 97, 108, 108], [114, 101, 116, 117, 114, 110], [112, 114, 105, 110, 116]]
def opForms : List (List UInt8) := [[], [], [97, 105], [97, 105], [97, 98], [97, 98, 99], [97, 98, 99], [97, 98, 99], [97, 98, 99], [97, 98, 99], [97, 98, 99], [97, 98, 99], [97, 98, 99], [97, 98, 99], [97, 98, 99], [97, 98, 99], [97, 98, 99], [97, 98, 105], [97, 98, 105], [97, 98, 105], [105], [97, 105], [105], [], [97]]
def nameRow : List AV := opNames.map .str
def nmOf (op : Int) : List UInt8 := opNames.getD (op - 1).toNat []
def fmOf (op : Int) : List UInt8 := opForms.getD (op - 1).toNat []
def rTx (n : Int) : List UInt8 := [32, 114] ++ Lib.itoa n
def seg (i : Ins) (c : UInt8) : List UInt8 := if c = 97 then rTx i.a else if c = 98 then rTx i.b else if c = 99 then rTx i.c else [32] ++ Lib.itoa i.imm
def text (i : Ins) : List UInt8 := if (enc i).2 ≠ 0 then [119, 111, 114, 100] else nmOf i.op ++ (fmOf i.op).flatMap (seg i)
theorem op_cases {P : Int → Prop} (h : ∀ k : Fin 25, P ((k.val : Int) + 1)) : ∀ op : Int, 1 ≤ op → op < 26 → P op := fun op h1 h2 => by
  have := h ⟨(op - 1).toNat, by omega⟩
  simp only at this
  rwa [show (((op - 1).toNat : Nat) : Int) + 1 = op by omega] at this
theorem nm_len : ∀ op : Int, 1 ≤ op → op < 26 → (nmOf op).length ≤ 8 ∧ (fmOf op).length ≤ 3 ∧ ∀ c ∈ fmOf op, c.toNat < 128 := op_cases (by decide +kernel)
theorem fm_none (op : Int) (h : op = 1 ∨ op = 2 ∨ op = 24) : fmOf op = [] := by rcases h with rfl | rfl | rfl <;> rfl
theorem fm_ai (op : Int) (h : op = 3 ∨ op = 4 ∨ op = 22) : fmOf op = [97, 105] := by rcases h with rfl | rfl | rfl <;> rfl
theorem fm_abi (op : Int) (h : op = 18 ∨ op = 19 ∨ op = 20) : fmOf op = [97, 98, 105] := by rcases h with rfl | rfl | rfl <;> rfl
theorem fm_i (op : Int) (h : op = 21 ∨ op = 23) : fmOf op = [105] := by rcases h with rfl | rfl <;> rfl
theorem fm_abc (op : Int) (h : 6 ≤ op ∧ op ≤ 17) : fmOf op = [97, 98, 99] := by
  have h' : op = 6 ∨ op = 7 ∨ op = 8 ∨ op = 9 ∨ op = 10 ∨ op = 11 ∨ op = 12 ∨ op = 13 ∨ op = 14 ∨ op = 15 ∨ op = 16 ∨ op = 17 := by omega
  rcases h' with rfl | rfl | rfl | rfl | rfl | rfl | rfl | rfl | rfl | rfl | rfl | rfl <;> rfl
theorem nameRow_at (op : Int) (h1 : 1 ≤ op) (h2 : op < 26) : nameRow[0 + (op - 1).toNat * 1]? = some (.str (nmOf op)) := by
  rw [Nat.zero_add, Nat.mul_one]
  unfold nameRow nmOf
  rw [List.getElem?_map, List.getElem?_eq_getElem (show (op - 1).toNat < opNames.length by show _ < 25; omega), List.getD_eq_getElem?_getD, List.getElem?_eq_getElem (show (op - 1).toNat < opNames.length by show _ < 25; omega)]
  rfl
set_option maxHeartbeats 4000000 in
theorem text_ok (i : Ins) (st : St) (hT : (1, powRow) ∈ st.glob) (hN : st.row 0 = some nameRow) (hw : w64 i.a ∧ w64 i.b ∧ w64 i.c ∧ w64 i.imm) : ACalls Tryd.prog 14 [.agg (insRow i)] st (fun v st' => v = .str (text i) ∧ st' = st) (fun _ _ => False) := by
  refine ACalls.ofBody Tryd.func14 rfl Tryd.ntmps14 rfl ?_
  obtain ⟨op, a, b, c, imm⟩ := i
  simp only at hw
  obtain ⟨wa, wb, wc, wi⟩ := hw
  have la := itoa_len wa
  have lb := itoa_len wb
  have lc := itoa_len wc
  have li := itoa_len wi
  have fin : ∀ {l : List UInt8}, l = text ⟨op, a, b, c, imm⟩ → AV.str l = .str (text ⟨op, a, b, c, imm⟩) := fun h => by rw [h]
  rw [insRow_mk]
  repeat (first | refine nl ?_ | refine AWP.seq ?_ | refine AWP.skip ?_ | refine AWP.block ?_)
  refine rg ?_
  refine bxe (sz := 5) rfl rfl rfl rfl ?_
  repeat (first | refine nl ?_ | refine AWP.seq ?_ | refine rg ?_ | refine AWP.skip ?_ | refine AWP.block ?_ | refine YH (z := ?_) | refine YI (z := ?_) | refine ZA (z := ?_) | refine ZB (z := ?_) | refine ZC (z := ?_) | refine ZD (z := ?_) | refine ZE (z := ?_) | refine ZF (z := ?_) | refine ZJ (z := ?_) | refine ZK (z := ?_) | refine ZM (z := ?_) | refine ZH (z := ?_) | refine ZO (z := ?_) | refine ZQ (z := ?_) | refine ZR (z := ?_) | refine ZT (z := ?_) | refine ZU (z := ?_) | refine YA (z := ?_) | refine ZG (z := ?_) | refine ZI (z := ?_) | refine YC (z := ?_) | refine YD (z := ?_) | refine YE (z := ?_))
  refine clp rfl rfl (encode_ok ⟨op, a, b, c, imm⟩) ?_
  repeat (first | refine nl ?_ | refine AWP.seq ?_ | refine rg ?_ | refine AWP.skip ?_ | refine AWP.block ?_ | refine YH (z := ?_) | refine YI (z := ?_) | refine ZA (z := ?_) | refine ZB (z := ?_) | refine ZC (z := ?_) | refine ZD (z := ?_) | refine ZE (z := ?_) | refine ZF (z := ?_) | refine ZJ (z := ?_) | refine ZK (z := ?_) | refine ZM (z := ?_) | refine ZH (z := ?_) | refine ZO (z := ?_) | refine ZQ (z := ?_) | refine ZR (z := ?_) | refine ZT (z := ?_) | refine ZU (z := ?_) | refine YA (z := ?_) | refine ZG (z := ?_) | refine ZI (z := ?_) | refine YC (z := ?_) | refine YD (z := ?_) | refine YE (z := ?_))
  refine AWP.cond_dec rfl (fun he => ?_) (fun he => AWP.skip ?_)
  · repeat (first | refine nl ?_ | refine AWP.seq ?_ | refine rg ?_ | refine AWP.skip ?_ | refine AWP.block ?_ | refine YH (z := ?_) | refine YI (z := ?_) | refine ZA (z := ?_) | refine ZB (z := ?_) | refine ZC (z := ?_) | refine ZD (z := ?_) | refine ZE (z := ?_) | refine ZF (z := ?_) | refine ZJ (z := ?_) | refine ZK (z := ?_) | refine ZM (z := ?_) | refine ZH (z := ?_) | refine ZO (z := ?_) | refine ZQ (z := ?_) | refine ZR (z := ?_) | refine ZT (z := ?_) | refine ZU (z := ?_) | refine YA (z := ?_) | refine ZG (z := ?_) | refine ZI (z := ?_) | refine YC (z := ?_) | refine YD (z := ?_) | refine YE (z := ?_))
    exact AWP.ret (rets rfl (.refl _) (.refl _) ⟨fin (by unfold text; rw [if_pos he]), rfl⟩)
  obtain ⟨hr, hop⟩ := enc0 he
  have hor := opr_iff.1 hop
  simp only at hor
  have hno : ¬ (enc ⟨op, a, b, c, imm⟩).2 ≠ 0 := he
  obtain ⟨ln, lf, _⟩ := nm_len op hor.1 hor.2
  have qn := nameRow_at op hor.1 hor.2
  have hrt : ∀ n, (rTx n).length = (Lib.itoa n).length + 2 := fun n => by simp only [rTx, List.length_append, List.length_cons, List.length_nil]; omega
  have l1 := hrt a
  have l2 := hrt b
  have l3 := hrt c
  repeat (first | refine nl ?_ | refine AWP.seq ?_ | refine AWP.skip ?_ | refine AWP.block ?_)
  refine AWP.draw rfl 14 14 (fun _ _ => False) rfl ?_
  repeat (first | refine ds rfl rfl ?_ | refine dp (h := fun _ _ => ZD (z := nz)) (z := ?_) | refine dp (h := fun _ _ => ZE (z := nz)) (z := ?_) | refine dp (h := fun _ _ => ZF (z := nz)) (z := ?_) | refine dp (h := fun _ _ => ZC (z := nz)) (z := ?_) | refine dp (h := fun _ _ => ZJ (z := nz)) (z := ?_) | refine dp (h := fun _ _ => ZK (z := nz)) (z := ?_) | refine dp (h := fun _ _ => ZM (z := nz)) (z := ?_) | refine dp (h := fun _ _ => ZH (z := nz)) (z := ?_) | refine dp (h := fun _ _ => ZQ (z := nz)) (z := ?_) | refine dp (h := fun _ _ => ZO (z := nz)) (z := ?_) | refine dp (h := fun _ _ => ZG (z := nz)) (z := ?_) | refine dp (h := fun _ _ => ZI (z := nz)) (z := ?_) | refine dp (h := fun _ _ => YC (z := nz)) (z := ?_) | refine dp (h := fun _ _ => YJ (z := nz)) (z := ?_) | refine dp (h := fun _ _ => YK (z := nz)) (z := ?_) | refine dp (h := fun _ _ => YL (z := nz)) (z := ?_) | refine dp (h := fun _ _ => YM (z := nz)) (z := ?_))
  refine dq rfl rfl rfl (fun st1 hle => cle rfl rfl (itoa_ok a wa _ (by have := hle.glob; rw [show st1.glob = st.glob from this.symm]; exact hT)) (nl ⟨_, rfl, rfl, rfl⟩)) ?_
  refine dq rfl rfl rfl (fun st1 hle => sad rfl rfl rfl (by simp; omega) (nl ⟨_, rfl, rfl, rfl⟩)) ?_
  repeat (first | refine ds rfl rfl ?_ | refine dp (h := fun _ _ => ZD (z := nz)) (z := ?_) | refine dp (h := fun _ _ => ZE (z := nz)) (z := ?_) | refine dp (h := fun _ _ => ZF (z := nz)) (z := ?_) | refine dp (h := fun _ _ => ZC (z := nz)) (z := ?_) | refine dp (h := fun _ _ => ZJ (z := nz)) (z := ?_) | refine dp (h := fun _ _ => ZK (z := nz)) (z := ?_) | refine dp (h := fun _ _ => ZM (z := nz)) (z := ?_) | refine dp (h := fun _ _ => ZH (z := nz)) (z := ?_) | refine dp (h := fun _ _ => ZQ (z := nz)) (z := ?_) | refine dp (h := fun _ _ => ZO (z := nz)) (z := ?_) | refine dp (h := fun _ _ => ZG (z := nz)) (z := ?_) | refine dp (h := fun _ _ => ZI (z := nz)) (z := ?_) | refine dp (h := fun _ _ => YC (z := nz)) (z := ?_) | refine dp (h := fun _ _ => YJ (z := nz)) (z := ?_) | refine dp (h := fun _ _ => YK (z := nz)) (z := ?_) | refine dp (h := fun _ _ => YL (z := nz)) (z := ?_) | refine dp (h := fun _ _ => YM (z := nz)) (z := ?_))
  refine dq rfl rfl rfl (fun st1 hle => cle rfl rfl (itoa_ok b wb _ (by have := hle.glob; rw [show st1.glob = st.glob from this.symm]; exact hT)) (nl ⟨_, rfl, rfl, rfl⟩)) ?_
  refine dq rfl rfl rfl (fun st1 hle => sad rfl rfl rfl (by simp; omega) (nl ⟨_, rfl, rfl, rfl⟩)) ?_
  repeat (first | refine ds rfl rfl ?_ | refine dp (h := fun _ _ => ZD (z := nz)) (z := ?_) | refine dp (h := fun _ _ => ZE (z := nz)) (z := ?_) | refine dp (h := fun _ _ => ZF (z := nz)) (z := ?_) | refine dp (h := fun _ _ => ZC (z := nz)) (z := ?_) | refine dp (h := fun _ _ => ZJ (z := nz)) (z := ?_) | refine dp (h := fun _ _ => ZK (z := nz)) (z := ?_) | refine dp (h := fun _ _ => ZM (z := nz)) (z := ?_) | refine dp (h := fun _ _ => ZH (z := nz)) (z := ?_) | refine dp (h := fun _ _ => ZQ (z := nz)) (z := ?_) | refine dp (h := fun _ _ => ZO (z := nz)) (z := ?_) | refine dp (h := fun _ _ => ZG (z := nz)) (z := ?_) | refine dp (h := fun _ _ => ZI (z := nz)) (z := ?_) | refine dp (h := fun _ _ => YC (z := nz)) (z := ?_) | refine dp (h := fun _ _ => YJ (z := nz)) (z := ?_) | refine dp (h := fun _ _ => YK (z := nz)) (z := ?_) | refine dp (h := fun _ _ => YL (z := nz)) (z := ?_) | refine dp (h := fun _ _ => YM (z := nz)) (z := ?_))
  refine dq rfl rfl rfl (fun st1 hle => cle rfl rfl (itoa_ok c wc _ (by have := hle.glob; rw [show st1.glob = st.glob from this.symm]; exact hT)) (nl ⟨_, rfl, rfl, rfl⟩)) ?_
  refine dq rfl rfl rfl (fun st1 hle => sad rfl rfl rfl (by simp; omega) (nl ⟨_, rfl, rfl, rfl⟩)) ?_
  repeat (first | refine ds rfl rfl ?_ | refine dp (h := fun _ _ => ZD (z := nz)) (z := ?_) | refine dp (h := fun _ _ => ZE (z := nz)) (z := ?_) | refine dp (h := fun _ _ => ZF (z := nz)) (z := ?_) | refine dp (h := fun _ _ => ZC (z := nz)) (z := ?_) | refine dp (h := fun _ _ => ZJ (z := nz)) (z := ?_) | refine dp (h := fun _ _ => ZK (z := nz)) (z := ?_) | refine dp (h := fun _ _ => ZM (z := nz)) (z := ?_) | refine dp (h := fun _ _ => ZH (z := nz)) (z := ?_) | refine dp (h := fun _ _ => ZQ (z := nz)) (z := ?_) | refine dp (h := fun _ _ => ZO (z := nz)) (z := ?_) | refine dp (h := fun _ _ => ZG (z := nz)) (z := ?_) | refine dp (h := fun _ _ => ZI (z := nz)) (z := ?_) | refine dp (h := fun _ _ => YC (z := nz)) (z := ?_) | refine dp (h := fun _ _ => YJ (z := nz)) (z := ?_) | refine dp (h := fun _ _ => YK (z := nz)) (z := ?_) | refine dp (h := fun _ _ => YL (z := nz)) (z := ?_) | refine dp (h := fun _ _ => YM (z := nz)) (z := ?_))
  refine dn ⟨fun _ => ?_, fun h => absurd h (by decide)⟩
  repeat (first | refine nl ?_ | refine AWP.seq ?_ | refine rg ?_ | refine AWP.skip ?_ | refine AWP.block ?_ | refine YH (z := ?_) | refine YI (z := ?_) | refine ZA (z := ?_) | refine ZB (z := ?_) | refine ZC (z := ?_) | refine ZD (z := ?_) | refine ZE (z := ?_) | refine ZF (z := ?_) | refine ZJ (z := ?_) | refine ZK (z := ?_) | refine ZM (z := ?_) | refine ZH (z := ?_) | refine ZO (z := ?_) | refine ZQ (z := ?_) | refine ZR (z := ?_) | refine ZT (z := ?_) | refine ZU (z := ?_) | refine YA (z := ?_) | refine ZG (z := ?_) | refine ZI (z := ?_) | refine YC (z := ?_) | refine YD (z := ?_) | refine YE (z := ?_))
  refine cle rfl rfl (itoa_ok imm wi _ hT) ?_
  refine sad rfl rfl rfl (by simp; omega) ?_
  repeat (first | refine nl ?_ | refine AWP.seq ?_ | refine rg ?_ | refine AWP.skip ?_ | refine AWP.block ?_ | refine YH (z := ?_) | refine YI (z := ?_) | refine ZA (z := ?_) | refine ZB (z := ?_) | refine ZC (z := ?_) | refine ZD (z := ?_) | refine ZE (z := ?_) | refine ZF (z := ?_) | refine ZJ (z := ?_) | refine ZK (z := ?_) | refine ZM (z := ?_) | refine ZH (z := ?_) | refine ZO (z := ?_) | refine ZQ (z := ?_) | refine ZR (z := ?_) | refine ZT (z := ?_) | refine ZU (z := ?_) | refine YA (z := ?_) | refine ZG (z := ?_) | refine ZI (z := ?_) | refine YC (z := ?_) | refine YD (z := ?_) | refine YE (z := ?_))
  refine Go.AM.sb rfl rfl rfl (by omega) ?_
  have hev : ∀ T, ev st T (.global 0) = some (.eptr 25 [nameRow] 0 0) := fun T => by simp only [ev, hN]; rfl
  refine ixa (m := (op - 1).toNat) rfl rfl (by omega) (by omega) (by rw [hev]; rfl) ?_
  repeat (first | refine nl ?_ | refine AWP.seq ?_ | refine rg ?_ | refine AWP.skip ?_ | refine AWP.block ?_ | refine YH (z := ?_) | refine YI (z := ?_) | refine ZA (z := ?_) | refine ZB (z := ?_) | refine ZC (z := ?_) | refine ZD (z := ?_) | refine ZE (z := ?_) | refine ZF (z := ?_) | refine ZJ (z := ?_) | refine ZK (z := ?_) | refine ZM (z := ?_) | refine ZH (z := ?_) | refine ZO (z := ?_) | refine ZQ (z := ?_) | refine ZR (z := ?_) | refine ZT (z := ?_) | refine ZU (z := ?_) | refine YA (z := ?_) | refine ZG (z := ?_) | refine ZI (z := ?_) | refine YC (z := ?_) | refine YD (z := ?_) | refine YE (z := ?_))
  refine AWP.cond_dec rfl (fun h1 => AWP.skip ?_) (fun h1 => ?_)
  · have e1 : op = 1 := h1
    repeat (first | refine nl ?_ | refine AWP.seq ?_ | refine rg ?_ | refine AWP.skip ?_ | refine AWP.block ?_ | refine YH (z := ?_) | refine YI (z := ?_) | refine ZA (z := ?_) | refine ZB (z := ?_) | refine ZC (z := ?_) | refine ZD (z := ?_) | refine ZE (z := ?_) | refine ZF (z := ?_) | refine ZJ (z := ?_) | refine ZK (z := ?_) | refine ZM (z := ?_) | refine ZH (z := ?_) | refine ZO (z := ?_) | refine ZQ (z := ?_) | refine ZR (z := ?_) | refine ZT (z := ?_) | refine ZU (z := ?_) | refine YA (z := ?_) | refine ZG (z := ?_) | refine ZI (z := ?_) | refine YC (z := ?_) | refine YD (z := ?_) | refine YE (z := ?_))
    exact AWP.ret (rets rfl (.refl _) (.refl _) ⟨fin (by unfold text; rw [if_neg hno, fm_none op (by omega)]; simp [seg, rTx]), rfl⟩)
  have n1 : ¬ op = 1 := h1
  repeat (first | refine nl ?_ | refine AWP.seq ?_ | refine rg ?_ | refine AWP.skip ?_ | refine AWP.block ?_ | refine YH (z := ?_) | refine YI (z := ?_) | refine ZA (z := ?_) | refine ZB (z := ?_) | refine ZC (z := ?_) | refine ZD (z := ?_) | refine ZE (z := ?_) | refine ZF (z := ?_) | refine ZJ (z := ?_) | refine ZK (z := ?_) | refine ZM (z := ?_) | refine ZH (z := ?_) | refine ZO (z := ?_) | refine ZQ (z := ?_) | refine ZR (z := ?_) | refine ZT (z := ?_) | refine ZU (z := ?_) | refine YA (z := ?_) | refine ZG (z := ?_) | refine ZI (z := ?_) | refine YC (z := ?_) | refine YD (z := ?_) | refine YE (z := ?_))
  refine AWP.cond_dec rfl (fun h2 => AWP.skip ?_) (fun h2 => ?_)
  · have e2 : op = 2 := h2
    repeat (first | refine nl ?_ | refine AWP.seq ?_ | refine rg ?_ | refine AWP.skip ?_ | refine AWP.block ?_ | refine YH (z := ?_) | refine YI (z := ?_) | refine ZA (z := ?_) | refine ZB (z := ?_) | refine ZC (z := ?_) | refine ZD (z := ?_) | refine ZE (z := ?_) | refine ZF (z := ?_) | refine ZJ (z := ?_) | refine ZK (z := ?_) | refine ZM (z := ?_) | refine ZH (z := ?_) | refine ZO (z := ?_) | refine ZQ (z := ?_) | refine ZR (z := ?_) | refine ZT (z := ?_) | refine ZU (z := ?_) | refine YA (z := ?_) | refine ZG (z := ?_) | refine ZI (z := ?_) | refine YC (z := ?_) | refine YD (z := ?_) | refine YE (z := ?_))
    exact AWP.ret (rets rfl (.refl _) (.refl _) ⟨fin (by unfold text; rw [if_neg hno, fm_none op (by omega)]; simp [seg, rTx]), rfl⟩)
  have n2 : ¬ op = 2 := h2
  repeat (first | refine nl ?_ | refine AWP.seq ?_ | refine rg ?_ | refine AWP.skip ?_ | refine AWP.block ?_ | refine YH (z := ?_) | refine YI (z := ?_) | refine ZA (z := ?_) | refine ZB (z := ?_) | refine ZC (z := ?_) | refine ZD (z := ?_) | refine ZE (z := ?_) | refine ZF (z := ?_) | refine ZJ (z := ?_) | refine ZK (z := ?_) | refine ZM (z := ?_) | refine ZH (z := ?_) | refine ZO (z := ?_) | refine ZQ (z := ?_) | refine ZR (z := ?_) | refine ZT (z := ?_) | refine ZU (z := ?_) | refine YA (z := ?_) | refine ZG (z := ?_) | refine ZI (z := ?_) | refine YC (z := ?_) | refine YD (z := ?_) | refine YE (z := ?_))
  refine AWP.cond_dec rfl (fun h24 => ?_) (fun h24 => ?_)
  · have e24 : op = 24 := h24
    repeat (first | refine nl ?_ | refine AWP.seq ?_ | refine rg ?_ | refine AWP.skip ?_ | refine AWP.block ?_ | refine YH (z := ?_) | refine YI (z := ?_) | refine ZA (z := ?_) | refine ZB (z := ?_) | refine ZC (z := ?_) | refine ZD (z := ?_) | refine ZE (z := ?_) | refine ZF (z := ?_) | refine ZJ (z := ?_) | refine ZK (z := ?_) | refine ZM (z := ?_) | refine ZH (z := ?_) | refine ZO (z := ?_) | refine ZQ (z := ?_) | refine ZR (z := ?_) | refine ZT (z := ?_) | refine ZU (z := ?_) | refine YA (z := ?_) | refine ZG (z := ?_) | refine ZI (z := ?_) | refine YC (z := ?_) | refine YD (z := ?_) | refine YE (z := ?_))
    exact AWP.ret (rets rfl (.refl _) (.refl _) ⟨fin (by unfold text; rw [if_neg hno, fm_none op (by omega)]; simp [seg, rTx]), rfl⟩)
  have n24 : ¬ op = 24 := h24
  repeat (first | refine nl ?_ | refine AWP.seq ?_ | refine rg ?_ | refine AWP.skip ?_ | refine AWP.block ?_ | refine YH (z := ?_) | refine YI (z := ?_) | refine ZA (z := ?_) | refine ZB (z := ?_) | refine ZC (z := ?_) | refine ZD (z := ?_) | refine ZE (z := ?_) | refine ZF (z := ?_) | refine ZJ (z := ?_) | refine ZK (z := ?_) | refine ZM (z := ?_) | refine ZH (z := ?_) | refine ZO (z := ?_) | refine ZQ (z := ?_) | refine ZR (z := ?_) | refine ZT (z := ?_) | refine ZU (z := ?_) | refine YA (z := ?_) | refine ZG (z := ?_) | refine ZI (z := ?_) | refine YC (z := ?_) | refine YD (z := ?_) | refine YE (z := ?_))
  refine AWP.cond_dec rfl (fun h3 => AWP.skip ?_) (fun h3 => ?_)
  · have e3 : op = 3 := h3
    repeat (first | refine nl ?_ | refine AWP.seq ?_ | refine rg ?_ | refine AWP.skip ?_ | refine AWP.block ?_ | refine YH (z := ?_) | refine YI (z := ?_) | refine ZA (z := ?_) | refine ZB (z := ?_) | refine ZC (z := ?_) | refine ZD (z := ?_) | refine ZE (z := ?_) | refine ZF (z := ?_) | refine ZJ (z := ?_) | refine ZK (z := ?_) | refine ZM (z := ?_) | refine ZH (z := ?_) | refine ZO (z := ?_) | refine ZQ (z := ?_) | refine ZR (z := ?_) | refine ZT (z := ?_) | refine ZU (z := ?_) | refine YA (z := ?_) | refine ZG (z := ?_) | refine ZI (z := ?_) | refine YC (z := ?_) | refine YD (z := ?_) | refine YE (z := ?_))
    refine sad rfl rfl rfl (by simp [rTx]; omega) ?_
    repeat (first | refine nl ?_ | refine AWP.seq ?_ | refine rg ?_ | refine AWP.skip ?_ | refine AWP.block ?_ | refine YH (z := ?_) | refine YI (z := ?_) | refine ZA (z := ?_) | refine ZB (z := ?_) | refine ZC (z := ?_) | refine ZD (z := ?_) | refine ZE (z := ?_) | refine ZF (z := ?_) | refine ZJ (z := ?_) | refine ZK (z := ?_) | refine ZM (z := ?_) | refine ZH (z := ?_) | refine ZO (z := ?_) | refine ZQ (z := ?_) | refine ZR (z := ?_) | refine ZT (z := ?_) | refine ZU (z := ?_) | refine YA (z := ?_) | refine ZG (z := ?_) | refine ZI (z := ?_) | refine YC (z := ?_) | refine YD (z := ?_) | refine YE (z := ?_))
    refine sad rfl rfl rfl (by simp [rTx]; omega) ?_
    repeat (first | refine nl ?_ | refine AWP.seq ?_ | refine rg ?_ | refine AWP.skip ?_ | refine AWP.block ?_ | refine YH (z := ?_) | refine YI (z := ?_) | refine ZA (z := ?_) | refine ZB (z := ?_) | refine ZC (z := ?_) | refine ZD (z := ?_) | refine ZE (z := ?_) | refine ZF (z := ?_) | refine ZJ (z := ?_) | refine ZK (z := ?_) | refine ZM (z := ?_) | refine ZH (z := ?_) | refine ZO (z := ?_) | refine ZQ (z := ?_) | refine ZR (z := ?_) | refine ZT (z := ?_) | refine ZU (z := ?_) | refine YA (z := ?_) | refine ZG (z := ?_) | refine ZI (z := ?_) | refine YC (z := ?_) | refine YD (z := ?_) | refine YE (z := ?_))
    exact AWP.ret (rets rfl (.refl _) (.refl _) ⟨fin (by unfold text; rw [if_neg hno, fm_ai op (by omega)]; simp [seg, rTx]), rfl⟩)
  have n3 : ¬ op = 3 := h3
  repeat (first | refine nl ?_ | refine AWP.seq ?_ | refine rg ?_ | refine AWP.skip ?_ | refine AWP.block ?_ | refine YH (z := ?_) | refine YI (z := ?_) | refine ZA (z := ?_) | refine ZB (z := ?_) | refine ZC (z := ?_) | refine ZD (z := ?_) | refine ZE (z := ?_) | refine ZF (z := ?_) | refine ZJ (z := ?_) | refine ZK (z := ?_) | refine ZM (z := ?_) | refine ZH (z := ?_) | refine ZO (z := ?_) | refine ZQ (z := ?_) | refine ZR (z := ?_) | refine ZT (z := ?_) | refine ZU (z := ?_) | refine YA (z := ?_) | refine ZG (z := ?_) | refine ZI (z := ?_) | refine YC (z := ?_) | refine YD (z := ?_) | refine YE (z := ?_))
  refine AWP.cond_dec rfl (fun h4 => AWP.skip ?_) (fun h4 => ?_)
  · have e4 : op = 4 := h4
    repeat (first | refine nl ?_ | refine AWP.seq ?_ | refine rg ?_ | refine AWP.skip ?_ | refine AWP.block ?_ | refine YH (z := ?_) | refine YI (z := ?_) | refine ZA (z := ?_) | refine ZB (z := ?_) | refine ZC (z := ?_) | refine ZD (z := ?_) | refine ZE (z := ?_) | refine ZF (z := ?_) | refine ZJ (z := ?_) | refine ZK (z := ?_) | refine ZM (z := ?_) | refine ZH (z := ?_) | refine ZO (z := ?_) | refine ZQ (z := ?_) | refine ZR (z := ?_) | refine ZT (z := ?_) | refine ZU (z := ?_) | refine YA (z := ?_) | refine ZG (z := ?_) | refine ZI (z := ?_) | refine YC (z := ?_) | refine YD (z := ?_) | refine YE (z := ?_))
    refine sad rfl rfl rfl (by simp [rTx]; omega) ?_
    repeat (first | refine nl ?_ | refine AWP.seq ?_ | refine rg ?_ | refine AWP.skip ?_ | refine AWP.block ?_ | refine YH (z := ?_) | refine YI (z := ?_) | refine ZA (z := ?_) | refine ZB (z := ?_) | refine ZC (z := ?_) | refine ZD (z := ?_) | refine ZE (z := ?_) | refine ZF (z := ?_) | refine ZJ (z := ?_) | refine ZK (z := ?_) | refine ZM (z := ?_) | refine ZH (z := ?_) | refine ZO (z := ?_) | refine ZQ (z := ?_) | refine ZR (z := ?_) | refine ZT (z := ?_) | refine ZU (z := ?_) | refine YA (z := ?_) | refine ZG (z := ?_) | refine ZI (z := ?_) | refine YC (z := ?_) | refine YD (z := ?_) | refine YE (z := ?_))
    refine sad rfl rfl rfl (by simp [rTx]; omega) ?_
    repeat (first | refine nl ?_ | refine AWP.seq ?_ | refine rg ?_ | refine AWP.skip ?_ | refine AWP.block ?_ | refine YH (z := ?_) | refine YI (z := ?_) | refine ZA (z := ?_) | refine ZB (z := ?_) | refine ZC (z := ?_) | refine ZD (z := ?_) | refine ZE (z := ?_) | refine ZF (z := ?_) | refine ZJ (z := ?_) | refine ZK (z := ?_) | refine ZM (z := ?_) | refine ZH (z := ?_) | refine ZO (z := ?_) | refine ZQ (z := ?_) | refine ZR (z := ?_) | refine ZT (z := ?_) | refine ZU (z := ?_) | refine YA (z := ?_) | refine ZG (z := ?_) | refine ZI (z := ?_) | refine YC (z := ?_) | refine YD (z := ?_) | refine YE (z := ?_))
    exact AWP.ret (rets rfl (.refl _) (.refl _) ⟨fin (by unfold text; rw [if_neg hno, fm_ai op (by omega)]; simp [seg, rTx]), rfl⟩)
  have n4 : ¬ op = 4 := h4
  repeat (first | refine nl ?_ | refine AWP.seq ?_ | refine rg ?_ | refine AWP.skip ?_ | refine AWP.block ?_ | refine YH (z := ?_) | refine YI (z := ?_) | refine ZA (z := ?_) | refine ZB (z := ?_) | refine ZC (z := ?_) | refine ZD (z := ?_) | refine ZE (z := ?_) | refine ZF (z := ?_) | refine ZJ (z := ?_) | refine ZK (z := ?_) | refine ZM (z := ?_) | refine ZH (z := ?_) | refine ZO (z := ?_) | refine ZQ (z := ?_) | refine ZR (z := ?_) | refine ZT (z := ?_) | refine ZU (z := ?_) | refine YA (z := ?_) | refine ZG (z := ?_) | refine ZI (z := ?_) | refine YC (z := ?_) | refine YD (z := ?_) | refine YE (z := ?_))
  refine AWP.cond_dec rfl (fun h22 => ?_) (fun h22 => ?_)
  · have e22 : op = 22 := h22
    repeat (first | refine nl ?_ | refine AWP.seq ?_ | refine rg ?_ | refine AWP.skip ?_ | refine AWP.block ?_ | refine YH (z := ?_) | refine YI (z := ?_) | refine ZA (z := ?_) | refine ZB (z := ?_) | refine ZC (z := ?_) | refine ZD (z := ?_) | refine ZE (z := ?_) | refine ZF (z := ?_) | refine ZJ (z := ?_) | refine ZK (z := ?_) | refine ZM (z := ?_) | refine ZH (z := ?_) | refine ZO (z := ?_) | refine ZQ (z := ?_) | refine ZR (z := ?_) | refine ZT (z := ?_) | refine ZU (z := ?_) | refine YA (z := ?_) | refine ZG (z := ?_) | refine ZI (z := ?_) | refine YC (z := ?_) | refine YD (z := ?_) | refine YE (z := ?_))
    refine sad rfl rfl rfl (by simp [rTx]; omega) ?_
    repeat (first | refine nl ?_ | refine AWP.seq ?_ | refine rg ?_ | refine AWP.skip ?_ | refine AWP.block ?_ | refine YH (z := ?_) | refine YI (z := ?_) | refine ZA (z := ?_) | refine ZB (z := ?_) | refine ZC (z := ?_) | refine ZD (z := ?_) | refine ZE (z := ?_) | refine ZF (z := ?_) | refine ZJ (z := ?_) | refine ZK (z := ?_) | refine ZM (z := ?_) | refine ZH (z := ?_) | refine ZO (z := ?_) | refine ZQ (z := ?_) | refine ZR (z := ?_) | refine ZT (z := ?_) | refine ZU (z := ?_) | refine YA (z := ?_) | refine ZG (z := ?_) | refine ZI (z := ?_) | refine YC (z := ?_) | refine YD (z := ?_) | refine YE (z := ?_))
    refine sad rfl rfl rfl (by simp [rTx]; omega) ?_
    repeat (first | refine nl ?_ | refine AWP.seq ?_ | refine rg ?_ | refine AWP.skip ?_ | refine AWP.block ?_ | refine YH (z := ?_) | refine YI (z := ?_) | refine ZA (z := ?_) | refine ZB (z := ?_) | refine ZC (z := ?_) | refine ZD (z := ?_) | refine ZE (z := ?_) | refine ZF (z := ?_) | refine ZJ (z := ?_) | refine ZK (z := ?_) | refine ZM (z := ?_) | refine ZH (z := ?_) | refine ZO (z := ?_) | refine ZQ (z := ?_) | refine ZR (z := ?_) | refine ZT (z := ?_) | refine ZU (z := ?_) | refine YA (z := ?_) | refine ZG (z := ?_) | refine ZI (z := ?_) | refine YC (z := ?_) | refine YD (z := ?_) | refine YE (z := ?_))
    exact AWP.ret (rets rfl (.refl _) (.refl _) ⟨fin (by unfold text; rw [if_neg hno, fm_ai op (by omega)]; simp [seg, rTx]), rfl⟩)
  have n22 : ¬ op = 22 := h22
  repeat (first | refine nl ?_ | refine AWP.seq ?_ | refine rg ?_ | refine AWP.skip ?_ | refine AWP.block ?_ | refine YH (z := ?_) | refine YI (z := ?_) | refine ZA (z := ?_) | refine ZB (z := ?_) | refine ZC (z := ?_) | refine ZD (z := ?_) | refine ZE (z := ?_) | refine ZF (z := ?_) | refine ZJ (z := ?_) | refine ZK (z := ?_) | refine ZM (z := ?_) | refine ZH (z := ?_) | refine ZO (z := ?_) | refine ZQ (z := ?_) | refine ZR (z := ?_) | refine ZT (z := ?_) | refine ZU (z := ?_) | refine YA (z := ?_) | refine ZG (z := ?_) | refine ZI (z := ?_) | refine YC (z := ?_) | refine YD (z := ?_) | refine YE (z := ?_))
  refine AWP.cond_dec rfl (fun h5 => ?_) (fun h5 => ?_)
  · have e5 : op = 5 := h5
    repeat (first | refine nl ?_ | refine AWP.seq ?_ | refine rg ?_ | refine AWP.skip ?_ | refine AWP.block ?_ | refine YH (z := ?_) | refine YI (z := ?_) | refine ZA (z := ?_) | refine ZB (z := ?_) | refine ZC (z := ?_) | refine ZD (z := ?_) | refine ZE (z := ?_) | refine ZF (z := ?_) | refine ZJ (z := ?_) | refine ZK (z := ?_) | refine ZM (z := ?_) | refine ZH (z := ?_) | refine ZO (z := ?_) | refine ZQ (z := ?_) | refine ZR (z := ?_) | refine ZT (z := ?_) | refine ZU (z := ?_) | refine YA (z := ?_) | refine ZG (z := ?_) | refine ZI (z := ?_) | refine YC (z := ?_) | refine YD (z := ?_) | refine YE (z := ?_))
    refine sad rfl rfl rfl (by simp [rTx]; omega) ?_
    repeat (first | refine nl ?_ | refine AWP.seq ?_ | refine rg ?_ | refine AWP.skip ?_ | refine AWP.block ?_ | refine YH (z := ?_) | refine YI (z := ?_) | refine ZA (z := ?_) | refine ZB (z := ?_) | refine ZC (z := ?_) | refine ZD (z := ?_) | refine ZE (z := ?_) | refine ZF (z := ?_) | refine ZJ (z := ?_) | refine ZK (z := ?_) | refine ZM (z := ?_) | refine ZH (z := ?_) | refine ZO (z := ?_) | refine ZQ (z := ?_) | refine ZR (z := ?_) | refine ZT (z := ?_) | refine ZU (z := ?_) | refine YA (z := ?_) | refine ZG (z := ?_) | refine ZI (z := ?_) | refine YC (z := ?_) | refine YD (z := ?_) | refine YE (z := ?_))
    refine sad rfl rfl rfl (by simp [rTx]; omega) ?_
    repeat (first | refine nl ?_ | refine AWP.seq ?_ | refine rg ?_ | refine AWP.skip ?_ | refine AWP.block ?_ | refine YH (z := ?_) | refine YI (z := ?_) | refine ZA (z := ?_) | refine ZB (z := ?_) | refine ZC (z := ?_) | refine ZD (z := ?_) | refine ZE (z := ?_) | refine ZF (z := ?_) | refine ZJ (z := ?_) | refine ZK (z := ?_) | refine ZM (z := ?_) | refine ZH (z := ?_) | refine ZO (z := ?_) | refine ZQ (z := ?_) | refine ZR (z := ?_) | refine ZT (z := ?_) | refine ZU (z := ?_) | refine YA (z := ?_) | refine ZG (z := ?_) | refine ZI (z := ?_) | refine YC (z := ?_) | refine YD (z := ?_) | refine YE (z := ?_))
    exact AWP.ret (rets rfl (.refl _) (.refl _) ⟨fin (by unfold text; rw [if_neg hno, show fmOf op = [97, 98] by rw [e5]; rfl]; simp [seg, rTx]), rfl⟩)
  have n5 : ¬ op = 5 := h5
  repeat (first | refine nl ?_ | refine AWP.seq ?_ | refine rg ?_ | refine AWP.skip ?_ | refine AWP.block ?_ | refine YH (z := ?_) | refine YI (z := ?_) | refine ZA (z := ?_) | refine ZB (z := ?_) | refine ZC (z := ?_) | refine ZD (z := ?_) | refine ZE (z := ?_) | refine ZF (z := ?_) | refine ZJ (z := ?_) | refine ZK (z := ?_) | refine ZM (z := ?_) | refine ZH (z := ?_) | refine ZO (z := ?_) | refine ZQ (z := ?_) | refine ZR (z := ?_) | refine ZT (z := ?_) | refine ZU (z := ?_) | refine YA (z := ?_) | refine ZG (z := ?_) | refine ZI (z := ?_) | refine YC (z := ?_) | refine YD (z := ?_) | refine YE (z := ?_))
  refine AWP.cond_dec rfl (fun h18 => AWP.skip ?_) (fun h18 => ?_)
  · have e18 : op = 18 := h18
    repeat (first | refine nl ?_ | refine AWP.seq ?_ | refine rg ?_ | refine AWP.skip ?_ | refine AWP.block ?_ | refine YH (z := ?_) | refine YI (z := ?_) | refine ZA (z := ?_) | refine ZB (z := ?_) | refine ZC (z := ?_) | refine ZD (z := ?_) | refine ZE (z := ?_) | refine ZF (z := ?_) | refine ZJ (z := ?_) | refine ZK (z := ?_) | refine ZM (z := ?_) | refine ZH (z := ?_) | refine ZO (z := ?_) | refine ZQ (z := ?_) | refine ZR (z := ?_) | refine ZT (z := ?_) | refine ZU (z := ?_) | refine YA (z := ?_) | refine ZG (z := ?_) | refine ZI (z := ?_) | refine YC (z := ?_) | refine YD (z := ?_) | refine YE (z := ?_))
    refine sad rfl rfl rfl (by simp [rTx]; omega) ?_
    repeat (first | refine nl ?_ | refine AWP.seq ?_ | refine rg ?_ | refine AWP.skip ?_ | refine AWP.block ?_ | refine YH (z := ?_) | refine YI (z := ?_) | refine ZA (z := ?_) | refine ZB (z := ?_) | refine ZC (z := ?_) | refine ZD (z := ?_) | refine ZE (z := ?_) | refine ZF (z := ?_) | refine ZJ (z := ?_) | refine ZK (z := ?_) | refine ZM (z := ?_) | refine ZH (z := ?_) | refine ZO (z := ?_) | refine ZQ (z := ?_) | refine ZR (z := ?_) | refine ZT (z := ?_) | refine ZU (z := ?_) | refine YA (z := ?_) | refine ZG (z := ?_) | refine ZI (z := ?_) | refine YC (z := ?_) | refine YD (z := ?_) | refine YE (z := ?_))
    refine sad rfl rfl rfl (by simp [rTx]; omega) ?_
    repeat (first | refine nl ?_ | refine AWP.seq ?_ | refine rg ?_ | refine AWP.skip ?_ | refine AWP.block ?_ | refine YH (z := ?_) | refine YI (z := ?_) | refine ZA (z := ?_) | refine ZB (z := ?_) | refine ZC (z := ?_) | refine ZD (z := ?_) | refine ZE (z := ?_) | refine ZF (z := ?_) | refine ZJ (z := ?_) | refine ZK (z := ?_) | refine ZM (z := ?_) | refine ZH (z := ?_) | refine ZO (z := ?_) | refine ZQ (z := ?_) | refine ZR (z := ?_) | refine ZT (z := ?_) | refine ZU (z := ?_) | refine YA (z := ?_) | refine ZG (z := ?_) | refine ZI (z := ?_) | refine YC (z := ?_) | refine YD (z := ?_) | refine YE (z := ?_))
    refine sad rfl rfl rfl (by simp [rTx]; omega) ?_
    repeat (first | refine nl ?_ | refine AWP.seq ?_ | refine rg ?_ | refine AWP.skip ?_ | refine AWP.block ?_ | refine YH (z := ?_) | refine YI (z := ?_) | refine ZA (z := ?_) | refine ZB (z := ?_) | refine ZC (z := ?_) | refine ZD (z := ?_) | refine ZE (z := ?_) | refine ZF (z := ?_) | refine ZJ (z := ?_) | refine ZK (z := ?_) | refine ZM (z := ?_) | refine ZH (z := ?_) | refine ZO (z := ?_) | refine ZQ (z := ?_) | refine ZR (z := ?_) | refine ZT (z := ?_) | refine ZU (z := ?_) | refine YA (z := ?_) | refine ZG (z := ?_) | refine ZI (z := ?_) | refine YC (z := ?_) | refine YD (z := ?_) | refine YE (z := ?_))
    exact AWP.ret (rets rfl (.refl _) (.refl _) ⟨fin (by unfold text; rw [if_neg hno, fm_abi op (by omega)]; simp [seg, rTx]), rfl⟩)
  have n18 : ¬ op = 18 := h18
  repeat (first | refine nl ?_ | refine AWP.seq ?_ | refine rg ?_ | refine AWP.skip ?_ | refine AWP.block ?_ | refine YH (z := ?_) | refine YI (z := ?_) | refine ZA (z := ?_) | refine ZB (z := ?_) | refine ZC (z := ?_) | refine ZD (z := ?_) | refine ZE (z := ?_) | refine ZF (z := ?_) | refine ZJ (z := ?_) | refine ZK (z := ?_) | refine ZM (z := ?_) | refine ZH (z := ?_) | refine ZO (z := ?_) | refine ZQ (z := ?_) | refine ZR (z := ?_) | refine ZT (z := ?_) | refine ZU (z := ?_) | refine YA (z := ?_) | refine ZG (z := ?_) | refine ZI (z := ?_) | refine YC (z := ?_) | refine YD (z := ?_) | refine YE (z := ?_))
  refine AWP.cond_dec rfl (fun h19 => AWP.skip ?_) (fun h19 => ?_)
  · have e19 : op = 19 := h19
    repeat (first | refine nl ?_ | refine AWP.seq ?_ | refine rg ?_ | refine AWP.skip ?_ | refine AWP.block ?_ | refine YH (z := ?_) | refine YI (z := ?_) | refine ZA (z := ?_) | refine ZB (z := ?_) | refine ZC (z := ?_) | refine ZD (z := ?_) | refine ZE (z := ?_) | refine ZF (z := ?_) | refine ZJ (z := ?_) | refine ZK (z := ?_) | refine ZM (z := ?_) | refine ZH (z := ?_) | refine ZO (z := ?_) | refine ZQ (z := ?_) | refine ZR (z := ?_) | refine ZT (z := ?_) | refine ZU (z := ?_) | refine YA (z := ?_) | refine ZG (z := ?_) | refine ZI (z := ?_) | refine YC (z := ?_) | refine YD (z := ?_) | refine YE (z := ?_))
    refine sad rfl rfl rfl (by simp [rTx]; omega) ?_
    repeat (first | refine nl ?_ | refine AWP.seq ?_ | refine rg ?_ | refine AWP.skip ?_ | refine AWP.block ?_ | refine YH (z := ?_) | refine YI (z := ?_) | refine ZA (z := ?_) | refine ZB (z := ?_) | refine ZC (z := ?_) | refine ZD (z := ?_) | refine ZE (z := ?_) | refine ZF (z := ?_) | refine ZJ (z := ?_) | refine ZK (z := ?_) | refine ZM (z := ?_) | refine ZH (z := ?_) | refine ZO (z := ?_) | refine ZQ (z := ?_) | refine ZR (z := ?_) | refine ZT (z := ?_) | refine ZU (z := ?_) | refine YA (z := ?_) | refine ZG (z := ?_) | refine ZI (z := ?_) | refine YC (z := ?_) | refine YD (z := ?_) | refine YE (z := ?_))
    refine sad rfl rfl rfl (by simp [rTx]; omega) ?_
    repeat (first | refine nl ?_ | refine AWP.seq ?_ | refine rg ?_ | refine AWP.skip ?_ | refine AWP.block ?_ | refine YH (z := ?_) | refine YI (z := ?_) | refine ZA (z := ?_) | refine ZB (z := ?_) | refine ZC (z := ?_) | refine ZD (z := ?_) | refine ZE (z := ?_) | refine ZF (z := ?_) | refine ZJ (z := ?_) | refine ZK (z := ?_) | refine ZM (z := ?_) | refine ZH (z := ?_) | refine ZO (z := ?_) | refine ZQ (z := ?_) | refine ZR (z := ?_) | refine ZT (z := ?_) | refine ZU (z := ?_) | refine YA (z := ?_) | refine ZG (z := ?_) | refine ZI (z := ?_) | refine YC (z := ?_) | refine YD (z := ?_) | refine YE (z := ?_))
    refine sad rfl rfl rfl (by simp [rTx]; omega) ?_
    repeat (first | refine nl ?_ | refine AWP.seq ?_ | refine rg ?_ | refine AWP.skip ?_ | refine AWP.block ?_ | refine YH (z := ?_) | refine YI (z := ?_) | refine ZA (z := ?_) | refine ZB (z := ?_) | refine ZC (z := ?_) | refine ZD (z := ?_) | refine ZE (z := ?_) | refine ZF (z := ?_) | refine ZJ (z := ?_) | refine ZK (z := ?_) | refine ZM (z := ?_) | refine ZH (z := ?_) | refine ZO (z := ?_) | refine ZQ (z := ?_) | refine ZR (z := ?_) | refine ZT (z := ?_) | refine ZU (z := ?_) | refine YA (z := ?_) | refine ZG (z := ?_) | refine ZI (z := ?_) | refine YC (z := ?_) | refine YD (z := ?_) | refine YE (z := ?_))
    exact AWP.ret (rets rfl (.refl _) (.refl _) ⟨fin (by unfold text; rw [if_neg hno, fm_abi op (by omega)]; simp [seg, rTx]), rfl⟩)
  have n19 : ¬ op = 19 := h19
  repeat (first | refine nl ?_ | refine AWP.seq ?_ | refine rg ?_ | refine AWP.skip ?_ | refine AWP.block ?_ | refine YH (z := ?_) | refine YI (z := ?_) | refine ZA (z := ?_) | refine ZB (z := ?_) | refine ZC (z := ?_) | refine ZD (z := ?_) | refine ZE (z := ?_) | refine ZF (z := ?_) | refine ZJ (z := ?_) | refine ZK (z := ?_) | refine ZM (z := ?_) | refine ZH (z := ?_) | refine ZO (z := ?_) | refine ZQ (z := ?_) | refine ZR (z := ?_) | refine ZT (z := ?_) | refine ZU (z := ?_) | refine YA (z := ?_) | refine ZG (z := ?_) | refine ZI (z := ?_) | refine YC (z := ?_) | refine YD (z := ?_) | refine YE (z := ?_))
  refine AWP.cond_dec rfl (fun h20 => ?_) (fun h20 => ?_)
  · have e20 : op = 20 := h20
    repeat (first | refine nl ?_ | refine AWP.seq ?_ | refine rg ?_ | refine AWP.skip ?_ | refine AWP.block ?_ | refine YH (z := ?_) | refine YI (z := ?_) | refine ZA (z := ?_) | refine ZB (z := ?_) | refine ZC (z := ?_) | refine ZD (z := ?_) | refine ZE (z := ?_) | refine ZF (z := ?_) | refine ZJ (z := ?_) | refine ZK (z := ?_) | refine ZM (z := ?_) | refine ZH (z := ?_) | refine ZO (z := ?_) | refine ZQ (z := ?_) | refine ZR (z := ?_) | refine ZT (z := ?_) | refine ZU (z := ?_) | refine YA (z := ?_) | refine ZG (z := ?_) | refine ZI (z := ?_) | refine YC (z := ?_) | refine YD (z := ?_) | refine YE (z := ?_))
    refine sad rfl rfl rfl (by simp [rTx]; omega) ?_
    repeat (first | refine nl ?_ | refine AWP.seq ?_ | refine rg ?_ | refine AWP.skip ?_ | refine AWP.block ?_ | refine YH (z := ?_) | refine YI (z := ?_) | refine ZA (z := ?_) | refine ZB (z := ?_) | refine ZC (z := ?_) | refine ZD (z := ?_) | refine ZE (z := ?_) | refine ZF (z := ?_) | refine ZJ (z := ?_) | refine ZK (z := ?_) | refine ZM (z := ?_) | refine ZH (z := ?_) | refine ZO (z := ?_) | refine ZQ (z := ?_) | refine ZR (z := ?_) | refine ZT (z := ?_) | refine ZU (z := ?_) | refine YA (z := ?_) | refine ZG (z := ?_) | refine ZI (z := ?_) | refine YC (z := ?_) | refine YD (z := ?_) | refine YE (z := ?_))
    refine sad rfl rfl rfl (by simp [rTx]; omega) ?_
    repeat (first | refine nl ?_ | refine AWP.seq ?_ | refine rg ?_ | refine AWP.skip ?_ | refine AWP.block ?_ | refine YH (z := ?_) | refine YI (z := ?_) | refine ZA (z := ?_) | refine ZB (z := ?_) | refine ZC (z := ?_) | refine ZD (z := ?_) | refine ZE (z := ?_) | refine ZF (z := ?_) | refine ZJ (z := ?_) | refine ZK (z := ?_) | refine ZM (z := ?_) | refine ZH (z := ?_) | refine ZO (z := ?_) | refine ZQ (z := ?_) | refine ZR (z := ?_) | refine ZT (z := ?_) | refine ZU (z := ?_) | refine YA (z := ?_) | refine ZG (z := ?_) | refine ZI (z := ?_) | refine YC (z := ?_) | refine YD (z := ?_) | refine YE (z := ?_))
    refine sad rfl rfl rfl (by simp [rTx]; omega) ?_
    repeat (first | refine nl ?_ | refine AWP.seq ?_ | refine rg ?_ | refine AWP.skip ?_ | refine AWP.block ?_ | refine YH (z := ?_) | refine YI (z := ?_) | refine ZA (z := ?_) | refine ZB (z := ?_) | refine ZC (z := ?_) | refine ZD (z := ?_) | refine ZE (z := ?_) | refine ZF (z := ?_) | refine ZJ (z := ?_) | refine ZK (z := ?_) | refine ZM (z := ?_) | refine ZH (z := ?_) | refine ZO (z := ?_) | refine ZQ (z := ?_) | refine ZR (z := ?_) | refine ZT (z := ?_) | refine ZU (z := ?_) | refine YA (z := ?_) | refine ZG (z := ?_) | refine ZI (z := ?_) | refine YC (z := ?_) | refine YD (z := ?_) | refine YE (z := ?_))
    exact AWP.ret (rets rfl (.refl _) (.refl _) ⟨fin (by unfold text; rw [if_neg hno, fm_abi op (by omega)]; simp [seg, rTx]), rfl⟩)
  have n20 : ¬ op = 20 := h20
  repeat (first | refine nl ?_ | refine AWP.seq ?_ | refine rg ?_ | refine AWP.skip ?_ | refine AWP.block ?_ | refine YH (z := ?_) | refine YI (z := ?_) | refine ZA (z := ?_) | refine ZB (z := ?_) | refine ZC (z := ?_) | refine ZD (z := ?_) | refine ZE (z := ?_) | refine ZF (z := ?_) | refine ZJ (z := ?_) | refine ZK (z := ?_) | refine ZM (z := ?_) | refine ZH (z := ?_) | refine ZO (z := ?_) | refine ZQ (z := ?_) | refine ZR (z := ?_) | refine ZT (z := ?_) | refine ZU (z := ?_) | refine YA (z := ?_) | refine ZG (z := ?_) | refine ZI (z := ?_) | refine YC (z := ?_) | refine YD (z := ?_) | refine YE (z := ?_))
  refine AWP.cond_dec rfl (fun h21 => AWP.skip ?_) (fun h21 => ?_)
  · have e21 : op = 21 := h21
    repeat (first | refine nl ?_ | refine AWP.seq ?_ | refine rg ?_ | refine AWP.skip ?_ | refine AWP.block ?_ | refine YH (z := ?_) | refine YI (z := ?_) | refine ZA (z := ?_) | refine ZB (z := ?_) | refine ZC (z := ?_) | refine ZD (z := ?_) | refine ZE (z := ?_) | refine ZF (z := ?_) | refine ZJ (z := ?_) | refine ZK (z := ?_) | refine ZM (z := ?_) | refine ZH (z := ?_) | refine ZO (z := ?_) | refine ZQ (z := ?_) | refine ZR (z := ?_) | refine ZT (z := ?_) | refine ZU (z := ?_) | refine YA (z := ?_) | refine ZG (z := ?_) | refine ZI (z := ?_) | refine YC (z := ?_) | refine YD (z := ?_) | refine YE (z := ?_))
    refine sad rfl rfl rfl (by simp [rTx]; omega) ?_
    repeat (first | refine nl ?_ | refine AWP.seq ?_ | refine rg ?_ | refine AWP.skip ?_ | refine AWP.block ?_ | refine YH (z := ?_) | refine YI (z := ?_) | refine ZA (z := ?_) | refine ZB (z := ?_) | refine ZC (z := ?_) | refine ZD (z := ?_) | refine ZE (z := ?_) | refine ZF (z := ?_) | refine ZJ (z := ?_) | refine ZK (z := ?_) | refine ZM (z := ?_) | refine ZH (z := ?_) | refine ZO (z := ?_) | refine ZQ (z := ?_) | refine ZR (z := ?_) | refine ZT (z := ?_) | refine ZU (z := ?_) | refine YA (z := ?_) | refine ZG (z := ?_) | refine ZI (z := ?_) | refine YC (z := ?_) | refine YD (z := ?_) | refine YE (z := ?_))
    exact AWP.ret (rets rfl (.refl _) (.refl _) ⟨fin (by unfold text; rw [if_neg hno, fm_i op (by omega)]; simp [seg, rTx]), rfl⟩)
  have n21 : ¬ op = 21 := h21
  repeat (first | refine nl ?_ | refine AWP.seq ?_ | refine rg ?_ | refine AWP.skip ?_ | refine AWP.block ?_ | refine YH (z := ?_) | refine YI (z := ?_) | refine ZA (z := ?_) | refine ZB (z := ?_) | refine ZC (z := ?_) | refine ZD (z := ?_) | refine ZE (z := ?_) | refine ZF (z := ?_) | refine ZJ (z := ?_) | refine ZK (z := ?_) | refine ZM (z := ?_) | refine ZH (z := ?_) | refine ZO (z := ?_) | refine ZQ (z := ?_) | refine ZR (z := ?_) | refine ZT (z := ?_) | refine ZU (z := ?_) | refine YA (z := ?_) | refine ZG (z := ?_) | refine ZI (z := ?_) | refine YC (z := ?_) | refine YD (z := ?_) | refine YE (z := ?_))
  refine AWP.cond_dec rfl (fun h23 => ?_) (fun h23 => ?_)
  · have e23 : op = 23 := h23
    repeat (first | refine nl ?_ | refine AWP.seq ?_ | refine rg ?_ | refine AWP.skip ?_ | refine AWP.block ?_ | refine YH (z := ?_) | refine YI (z := ?_) | refine ZA (z := ?_) | refine ZB (z := ?_) | refine ZC (z := ?_) | refine ZD (z := ?_) | refine ZE (z := ?_) | refine ZF (z := ?_) | refine ZJ (z := ?_) | refine ZK (z := ?_) | refine ZM (z := ?_) | refine ZH (z := ?_) | refine ZO (z := ?_) | refine ZQ (z := ?_) | refine ZR (z := ?_) | refine ZT (z := ?_) | refine ZU (z := ?_) | refine YA (z := ?_) | refine ZG (z := ?_) | refine ZI (z := ?_) | refine YC (z := ?_) | refine YD (z := ?_) | refine YE (z := ?_))
    refine sad rfl rfl rfl (by simp [rTx]; omega) ?_
    repeat (first | refine nl ?_ | refine AWP.seq ?_ | refine rg ?_ | refine AWP.skip ?_ | refine AWP.block ?_ | refine YH (z := ?_) | refine YI (z := ?_) | refine ZA (z := ?_) | refine ZB (z := ?_) | refine ZC (z := ?_) | refine ZD (z := ?_) | refine ZE (z := ?_) | refine ZF (z := ?_) | refine ZJ (z := ?_) | refine ZK (z := ?_) | refine ZM (z := ?_) | refine ZH (z := ?_) | refine ZO (z := ?_) | refine ZQ (z := ?_) | refine ZR (z := ?_) | refine ZT (z := ?_) | refine ZU (z := ?_) | refine YA (z := ?_) | refine ZG (z := ?_) | refine ZI (z := ?_) | refine YC (z := ?_) | refine YD (z := ?_) | refine YE (z := ?_))
    exact AWP.ret (rets rfl (.refl _) (.refl _) ⟨fin (by unfold text; rw [if_neg hno, fm_i op (by omega)]; simp [seg, rTx]), rfl⟩)
  have n23 : ¬ op = 23 := h23
  repeat (first | refine nl ?_ | refine AWP.seq ?_ | refine rg ?_ | refine AWP.skip ?_ | refine AWP.block ?_ | refine YH (z := ?_) | refine YI (z := ?_) | refine ZA (z := ?_) | refine ZB (z := ?_) | refine ZC (z := ?_) | refine ZD (z := ?_) | refine ZE (z := ?_) | refine ZF (z := ?_) | refine ZJ (z := ?_) | refine ZK (z := ?_) | refine ZM (z := ?_) | refine ZH (z := ?_) | refine ZO (z := ?_) | refine ZQ (z := ?_) | refine ZR (z := ?_) | refine ZT (z := ?_) | refine ZU (z := ?_) | refine YA (z := ?_) | refine ZG (z := ?_) | refine ZI (z := ?_) | refine YC (z := ?_) | refine YD (z := ?_) | refine YE (z := ?_))
  refine AWP.cond_dec rfl (fun h25 => ?_) (fun h25 => AWP.skip ?_)
  · have e25 : op = 25 := h25
    repeat (first | refine nl ?_ | refine AWP.seq ?_ | refine rg ?_ | refine AWP.skip ?_ | refine AWP.block ?_ | refine YH (z := ?_) | refine YI (z := ?_) | refine ZA (z := ?_) | refine ZB (z := ?_) | refine ZC (z := ?_) | refine ZD (z := ?_) | refine ZE (z := ?_) | refine ZF (z := ?_) | refine ZJ (z := ?_) | refine ZK (z := ?_) | refine ZM (z := ?_) | refine ZH (z := ?_) | refine ZO (z := ?_) | refine ZQ (z := ?_) | refine ZR (z := ?_) | refine ZT (z := ?_) | refine ZU (z := ?_) | refine YA (z := ?_) | refine ZG (z := ?_) | refine ZI (z := ?_) | refine YC (z := ?_) | refine YD (z := ?_) | refine YE (z := ?_))
    refine sad rfl rfl rfl (by simp [rTx]; omega) ?_
    repeat (first | refine nl ?_ | refine AWP.seq ?_ | refine rg ?_ | refine AWP.skip ?_ | refine AWP.block ?_ | refine YH (z := ?_) | refine YI (z := ?_) | refine ZA (z := ?_) | refine ZB (z := ?_) | refine ZC (z := ?_) | refine ZD (z := ?_) | refine ZE (z := ?_) | refine ZF (z := ?_) | refine ZJ (z := ?_) | refine ZK (z := ?_) | refine ZM (z := ?_) | refine ZH (z := ?_) | refine ZO (z := ?_) | refine ZQ (z := ?_) | refine ZR (z := ?_) | refine ZT (z := ?_) | refine ZU (z := ?_) | refine YA (z := ?_) | refine ZG (z := ?_) | refine ZI (z := ?_) | refine YC (z := ?_) | refine YD (z := ?_) | refine YE (z := ?_))
    exact AWP.ret (rets rfl (.refl _) (.refl _) ⟨fin (by unfold text; rw [if_neg hno, show fmOf op = [97] by rw [e25]; rfl]; simp [seg, rTx]), rfl⟩)
  have n25 : ¬ op = 25 := h25
  repeat (first | refine nl ?_ | refine AWP.seq ?_ | refine rg ?_ | refine AWP.skip ?_ | refine AWP.block ?_ | refine YH (z := ?_) | refine YI (z := ?_) | refine ZA (z := ?_) | refine ZB (z := ?_) | refine ZC (z := ?_) | refine ZD (z := ?_) | refine ZE (z := ?_) | refine ZF (z := ?_) | refine ZJ (z := ?_) | refine ZK (z := ?_) | refine ZM (z := ?_) | refine ZH (z := ?_) | refine ZO (z := ?_) | refine ZQ (z := ?_) | refine ZR (z := ?_) | refine ZT (z := ?_) | refine ZU (z := ?_) | refine YA (z := ?_) | refine ZG (z := ?_) | refine ZI (z := ?_) | refine YC (z := ?_) | refine YD (z := ?_) | refine YE (z := ?_))
  refine sad rfl rfl rfl (by simp [rTx]; omega) ?_
  repeat (first | refine nl ?_ | refine AWP.seq ?_ | refine rg ?_ | refine AWP.skip ?_ | refine AWP.block ?_ | refine YH (z := ?_) | refine YI (z := ?_) | refine ZA (z := ?_) | refine ZB (z := ?_) | refine ZC (z := ?_) | refine ZD (z := ?_) | refine ZE (z := ?_) | refine ZF (z := ?_) | refine ZJ (z := ?_) | refine ZK (z := ?_) | refine ZM (z := ?_) | refine ZH (z := ?_) | refine ZO (z := ?_) | refine ZQ (z := ?_) | refine ZR (z := ?_) | refine ZT (z := ?_) | refine ZU (z := ?_) | refine YA (z := ?_) | refine ZG (z := ?_) | refine ZI (z := ?_) | refine YC (z := ?_) | refine YD (z := ?_) | refine YE (z := ?_))
  refine sad rfl rfl rfl (by simp [rTx]; omega) ?_
  repeat (first | refine nl ?_ | refine AWP.seq ?_ | refine rg ?_ | refine AWP.skip ?_ | refine AWP.block ?_ | refine YH (z := ?_) | refine YI (z := ?_) | refine ZA (z := ?_) | refine ZB (z := ?_) | refine ZC (z := ?_) | refine ZD (z := ?_) | refine ZE (z := ?_) | refine ZF (z := ?_) | refine ZJ (z := ?_) | refine ZK (z := ?_) | refine ZM (z := ?_) | refine ZH (z := ?_) | refine ZO (z := ?_) | refine ZQ (z := ?_) | refine ZR (z := ?_) | refine ZT (z := ?_) | refine ZU (z := ?_) | refine YA (z := ?_) | refine ZG (z := ?_) | refine ZI (z := ?_) | refine YC (z := ?_) | refine YD (z := ?_) | refine YE (z := ?_))
  refine sad rfl rfl rfl (by simp [rTx]; omega) ?_
  repeat (first | refine nl ?_ | refine AWP.seq ?_ | refine rg ?_ | refine AWP.skip ?_ | refine AWP.block ?_ | refine YH (z := ?_) | refine YI (z := ?_) | refine ZA (z := ?_) | refine ZB (z := ?_) | refine ZC (z := ?_) | refine ZD (z := ?_) | refine ZE (z := ?_) | refine ZF (z := ?_) | refine ZJ (z := ?_) | refine ZK (z := ?_) | refine ZM (z := ?_) | refine ZH (z := ?_) | refine ZO (z := ?_) | refine ZQ (z := ?_) | refine ZR (z := ?_) | refine ZT (z := ?_) | refine ZU (z := ?_) | refine YA (z := ?_) | refine ZG (z := ?_) | refine ZI (z := ?_) | refine YC (z := ?_) | refine YD (z := ?_) | refine YE (z := ?_))
  exact AWP.ret (rets rfl (.refl _) (.refl _) ⟨fin (by unfold text; rw [if_neg hno, fm_abc op (by omega)]; simp [seg, rTx]), rfl⟩)
end Go.Proofs
/- The reference's texts of instructions. No conditions: definitions and lemmas only. -/
namespace Go.Proofs
open Go.AM
attribute [local irreducible] AWP AOps ACalls
set_option linter.unusedSimpArgs false

def sRow (w : List UInt8) : List AV := [.str w]
theorem names_chunk : chunk 1 25 (opNames.map AV.str) = opNames.map sRow := rfl
theorem forms_chunk : chunk 1 25 (opForms.map AV.str) = opForms.map sRow := rfl
instance : PureFn Tryd.prog 33 [] (.tuple [.view 1 (opNames.map sRow) .shared, .view 1 (opForms.map sRow) .shared]) where
  out st := by
    refine ACalls.ofBody Tryd.func33 rfl Tryd.ntmps33 rfl ?_
    repeat (first | refine nl ?_ | refine AWP.seq ?_ | refine rg ?_ | refine AWP.skip ?_ | refine AWP.block ?_ | refine YH (z := ?_) | refine YI (z := ?_) | refine ZA (z := ?_) | refine ZB (z := ?_) | refine ZC (z := ?_) | refine ZD (z := ?_) | refine ZE (z := ?_) | refine ZF (z := ?_) | refine ZJ (z := ?_) | refine ZK (z := ?_) | refine ZM (z := ?_) | refine ZH (z := ?_) | refine ZO (z := ?_) | refine ZQ (z := ?_) | refine ZR (z := ?_) | refine ZT (z := ?_) | refine ZU (z := ?_) | refine YA (z := ?_) | refine ZG (z := ?_) | refine ZI (z := ?_) | refine YC (z := ?_) | refine YD (z := ?_) | refine YE (z := ?_))
    refine bsh (cs := opNames.map .str) rfl rfl rfl rfl rfl ?_
    rw [names_chunk]
    refine bsh (cs := opForms.map .str) rfl rfl rfl rfl rfl ?_
    rw [forms_chunk]
    repeat (first | refine nl ?_ | refine AWP.seq ?_ | refine rg ?_ | refine AWP.skip ?_ | refine AWP.block ?_ | refine YH (z := ?_) | refine YI (z := ?_) | refine ZA (z := ?_) | refine ZB (z := ?_) | refine ZC (z := ?_) | refine ZD (z := ?_) | refine ZE (z := ?_) | refine ZF (z := ?_) | refine ZJ (z := ?_) | refine ZK (z := ?_) | refine ZM (z := ?_) | refine ZH (z := ?_) | refine ZO (z := ?_) | refine ZQ (z := ?_) | refine ZR (z := ?_) | refine ZT (z := ?_) | refine ZU (z := ?_) | refine YA (z := ?_) | refine ZG (z := ?_) | refine ZI (z := ?_) | refine YC (z := ?_) | refine YD (z := ?_) | refine YE (z := ?_))
    exact AWP.ret (rets rfl (.refl _) (.refl _) ⟨rfl, rfl⟩)
theorem names_at (op : Int) (h1 : 1 ≤ op) (h2 : op < 26) : (opNames.map sRow)[(op - 1).toNat]? = some [.str (nmOf op)] := by
  unfold nmOf sRow
  rw [List.getElem?_map, List.getElem?_eq_getElem (show (op - 1).toNat < opNames.length by show _ < 25; omega), List.getD_eq_getElem?_getD, List.getElem?_eq_getElem (show (op - 1).toNat < opNames.length by show _ < 25; omega)]
  rfl
theorem forms_at (op : Int) (h1 : 1 ≤ op) (h2 : op < 26) : (opForms.map sRow)[(op - 1).toNat]? = some [.str (fmOf op)] := by
  unfold fmOf sRow
  rw [List.getElem?_map, List.getElem?_eq_getElem (show (op - 1).toNat < opForms.length by show _ < 25; omega), List.getD_eq_getElem?_getD, List.getElem?_eq_getElem (show (op - 1).toNat < opForms.length by show _ < 25; omega)]
  rfl
theorem flatMap_snoc {α : Type} (f : α → List UInt8) (l : List α) (k : Nat) (c : α) (h : l[k]? = some c) : (l.take (k + 1)).flatMap f = (l.take k).flatMap f ++ f c := by
  rw [List.take_add_one, h, Option.toList_some, List.flatMap_append]
  simp
set_option maxHeartbeats 4000000 in
theorem rtext_ok (i : Ins) (st : St) (hw : w64 i.a ∧ w64 i.b ∧ w64 i.c ∧ w64 i.imm) : ACalls Tryd.prog 15 [.agg (insRow i)] st (fun v st' => v = .str (text i) ∧ st' = st) (fun _ _ => False) := by
  refine ACalls.ofBody Tryd.func15 rfl Tryd.ntmps15 rfl ?_
  obtain ⟨op, a, b, c, imm⟩ := i
  simp only at hw
  obtain ⟨wa, wb, wc, wi⟩ := hw
  have la := itoa_len wa
  have lb := itoa_len wb
  have lc := itoa_len wc
  have li := itoa_len wi
  have fin : ∀ {l : List UInt8}, l = text ⟨op, a, b, c, imm⟩ → AV.str l = .str (text ⟨op, a, b, c, imm⟩) := fun h => by rw [h]
  rw [insRow_mk]
  repeat (first | refine nl ?_ | refine AWP.seq ?_ | refine AWP.skip ?_ | refine AWP.block ?_)
  refine rg ?_
  refine bxe (sz := 5) rfl rfl rfl rfl ?_
  repeat (first | refine nl ?_ | refine AWP.seq ?_ | refine rg ?_ | refine AWP.skip ?_ | refine AWP.block ?_ | refine YH (z := ?_) | refine YI (z := ?_) | refine ZA (z := ?_) | refine ZB (z := ?_) | refine ZC (z := ?_) | refine ZD (z := ?_) | refine ZE (z := ?_) | refine ZF (z := ?_) | refine ZJ (z := ?_) | refine ZK (z := ?_) | refine ZM (z := ?_) | refine ZH (z := ?_) | refine ZO (z := ?_) | refine ZQ (z := ?_) | refine ZR (z := ?_) | refine ZT (z := ?_) | refine ZU (z := ?_) | refine YA (z := ?_) | refine ZG (z := ?_) | refine ZI (z := ?_) | refine YC (z := ?_) | refine YD (z := ?_) | refine YE (z := ?_))
  refine clp rfl rfl (rencode_ok ⟨op, a, b, c, imm⟩) ?_
  repeat (first | refine nl ?_ | refine AWP.seq ?_ | refine rg ?_ | refine AWP.skip ?_ | refine AWP.block ?_ | refine YH (z := ?_) | refine YI (z := ?_) | refine ZA (z := ?_) | refine ZB (z := ?_) | refine ZC (z := ?_) | refine ZD (z := ?_) | refine ZE (z := ?_) | refine ZF (z := ?_) | refine ZJ (z := ?_) | refine ZK (z := ?_) | refine ZM (z := ?_) | refine ZH (z := ?_) | refine ZO (z := ?_) | refine ZQ (z := ?_) | refine ZR (z := ?_) | refine ZT (z := ?_) | refine ZU (z := ?_) | refine YA (z := ?_) | refine ZG (z := ?_) | refine ZI (z := ?_) | refine YC (z := ?_) | refine YD (z := ?_) | refine YE (z := ?_))
  refine AWP.cond_dec rfl (fun he => ?_) (fun he => AWP.skip ?_)
  · repeat (first | refine nl ?_ | refine AWP.seq ?_ | refine rg ?_ | refine AWP.skip ?_ | refine AWP.block ?_ | refine YH (z := ?_) | refine YI (z := ?_) | refine ZA (z := ?_) | refine ZB (z := ?_) | refine ZC (z := ?_) | refine ZD (z := ?_) | refine ZE (z := ?_) | refine ZF (z := ?_) | refine ZJ (z := ?_) | refine ZK (z := ?_) | refine ZM (z := ?_) | refine ZH (z := ?_) | refine ZO (z := ?_) | refine ZQ (z := ?_) | refine ZR (z := ?_) | refine ZT (z := ?_) | refine ZU (z := ?_) | refine YA (z := ?_) | refine ZG (z := ?_) | refine ZI (z := ?_) | refine YC (z := ?_) | refine YD (z := ?_) | refine YE (z := ?_))
    exact AWP.ret (rets rfl (.refl _) (.refl _) ⟨fin (by unfold text; rw [if_pos he]), rfl⟩)
  obtain ⟨hr, hop⟩ := enc0 he
  have hor := opr_iff.1 hop
  simp only at hor
  have hno : ¬ (enc ⟨op, a, b, c, imm⟩).2 ≠ 0 := he
  obtain ⟨ln, lf, lasc⟩ := nm_len op hor.1 hor.2
  have qn := names_at op hor.1 hor.2
  have qf := forms_at op hor.1 hor.2
  have hseg : ∀ x, (seg ⟨op, a, b, c, imm⟩ x).length ≤ 22 := fun x => by unfold seg rTx; split <;> (try split) <;> (try split) <;> simp <;> omega
  have hacc : ∀ l : List UInt8, (l.flatMap (seg ⟨op, a, b, c, imm⟩)).length ≤ 22 * l.length := fun l => by
    induction l with
    | nil => simp
    | cons x l ih => simp only [List.flatMap_cons, List.length_append, List.length_cons]; have := hseg x; omega
  have fin2 : nmOf op ++ (fmOf op).flatMap (seg ⟨op, a, b, c, imm⟩) = text ⟨op, a, b, c, imm⟩ := by unfold text; rw [if_neg hno]
  repeat (first | refine nl ?_ | refine AWP.seq ?_ | refine rg ?_ | refine AWP.skip ?_ | refine AWP.block ?_ | refine YH (z := ?_) | refine YI (z := ?_) | refine ZA (z := ?_) | refine ZB (z := ?_) | refine ZC (z := ?_) | refine ZD (z := ?_) | refine ZE (z := ?_) | refine ZF (z := ?_) | refine ZJ (z := ?_) | refine ZK (z := ?_) | refine ZM (z := ?_) | refine ZH (z := ?_) | refine ZO (z := ?_) | refine ZQ (z := ?_) | refine ZR (z := ?_) | refine ZT (z := ?_) | refine ZU (z := ?_) | refine YA (z := ?_) | refine ZG (z := ?_) | refine ZI (z := ?_) | refine YC (z := ?_) | refine YD (z := ?_) | refine YE (z := ?_))
  refine Go.AM.sb rfl rfl rfl (by omega) ?_
  refine ix (m := (op - 1).toNat) rfl rfl rfl (by omega) (by show _ < 25; omega) ?_
  refine le rfl rfl qn rfl ?_
  repeat (first | refine nl ?_ | refine AWP.seq ?_ | refine rg ?_ | refine AWP.skip ?_ | refine AWP.block ?_ | refine YH (z := ?_) | refine YI (z := ?_) | refine ZA (z := ?_) | refine ZB (z := ?_) | refine ZC (z := ?_) | refine ZD (z := ?_) | refine ZE (z := ?_) | refine ZF (z := ?_) | refine ZJ (z := ?_) | refine ZK (z := ?_) | refine ZM (z := ?_) | refine ZH (z := ?_) | refine ZO (z := ?_) | refine ZQ (z := ?_) | refine ZR (z := ?_) | refine ZT (z := ?_) | refine ZU (z := ?_) | refine YA (z := ?_) | refine ZG (z := ?_) | refine ZI (z := ?_) | refine YC (z := ?_) | refine YD (z := ?_) | refine YE (z := ?_))
  refine Go.AM.sb rfl rfl rfl (by omega) ?_
  refine ix (m := (op - 1).toNat) rfl rfl rfl (by omega) (by show _ < 25; omega) ?_
  refine le rfl rfl qf rfl ?_
  refine rgs rfl rfl fun o ho => ?_
  generalize hF : fmOf op = F at lf lasc fin2
  generalize hM : nmOf op = M at ln fin2
  repeat (first | refine nl ?_ | refine AWP.seq ?_ | refine rg ?_ | refine AWP.skip ?_ | refine AWP.block ?_ | refine YH (z := ?_) | refine YI (z := ?_) | refine ZA (z := ?_) | refine ZB (z := ?_) | refine ZC (z := ?_) | refine ZD (z := ?_) | refine ZE (z := ?_) | refine ZF (z := ?_) | refine ZJ (z := ?_) | refine ZK (z := ?_) | refine ZM (z := ?_) | refine ZH (z := ?_) | refine ZO (z := ?_) | refine ZQ (z := ?_) | refine ZR (z := ?_) | refine ZT (z := ?_) | refine ZU (z := ?_) | refine YA (z := ?_) | refine ZG (z := ?_) | refine ZI (z := ?_) | refine YC (z := ?_) | refine YD (z := ?_) | refine YE (z := ?_))
  refine AWP.loop (α := Nat) (fun k => [(33, .iter o), (7, .str (M ++ (F.take k).flatMap (seg ⟨op, a, b, c, imm⟩))), (1, .eptr 5 [[.int .i64 op, .int .i64 a, .int .i64 b, .int .i64 c, .int .i64 imm]] 0 0)]) (fun k => st.set o (.iter F k)) (fun k => k ≤ F.length) (fun k => F.length - k) 0 (Nat.zero_le _) ?_ (.refl _) ?_
  · simp only [List.take_zero, List.flatMap_nil, List.append_nil]
    exact (tl3 rfl rfl rfl)
  intro k hk
  have hb := hacc (F.take k)
  rw [List.length_take] at hb
  repeat (first | refine nl ?_ | refine AWP.seq ?_ | refine rg ?_ | refine AWP.skip ?_ | refine AWP.block ?_ | refine YH (z := ?_) | refine YI (z := ?_) | refine ZA (z := ?_) | refine ZB (z := ?_) | refine ZC (z := ?_) | refine ZD (z := ?_) | refine ZE (z := ?_) | refine ZF (z := ?_) | refine ZJ (z := ?_) | refine ZK (z := ?_) | refine ZM (z := ?_) | refine ZH (z := ?_) | refine ZO (z := ?_) | refine ZQ (z := ?_) | refine ZR (z := ?_) | refine ZT (z := ?_) | refine ZU (z := ?_) | refine YA (z := ?_) | refine ZG (z := ?_) | refine ZI (z := ?_) | refine YC (z := ?_) | refine YD (z := ?_) | refine YE (z := ?_))
  rcases Nat.lt_or_ge k F.length with hlt | hge
  · have hc : F[k]? = some F[k] := List.getElem?_eq_getElem hlt
    have hasc : F[k].toNat < 128 := lasc _ (List.getElem_mem hlt)
    have hsn := flatMap_snoc (seg ⟨op, a, b, c, imm⟩) F k F[k] hc
    generalize F[k] = x at hc hasc hsn
    refine nxu rfl rfl (St.obj_set _ _ _) hc fun r w hch => ?_
    obtain ⟨rfl, rfl⟩ := hch.low hasc
    rw [St.set_set]
    repeat (first | refine nl ?_ | refine AWP.seq ?_ | refine rg ?_ | refine AWP.skip ?_ | refine AWP.block ?_ | refine YH (z := ?_) | refine YI (z := ?_) | refine ZA (z := ?_) | refine ZB (z := ?_) | refine ZC (z := ?_) | refine ZD (z := ?_) | refine ZE (z := ?_) | refine ZF (z := ?_) | refine ZJ (z := ?_) | refine ZK (z := ?_) | refine ZM (z := ?_) | refine ZH (z := ?_) | refine ZO (z := ?_) | refine ZQ (z := ?_) | refine ZR (z := ?_) | refine ZT (z := ?_) | refine ZU (z := ?_) | refine YA (z := ?_) | refine ZG (z := ?_) | refine ZI (z := ?_) | refine YC (z := ?_) | refine YD (z := ?_) | refine YE (z := ?_))
    have fin3 : ∀ {l : List UInt8}, l = M ++ (F.take (k + 1)).flatMap (seg ⟨op, a, b, c, imm⟩) → AV.str l = .str (M ++ (F.take (k + 1)).flatMap (seg ⟨op, a, b, c, imm⟩)) := fun h => by rw [h]
    refine AWP.cond_dec rfl (fun h97 => ?_) (fun h97 => ?_)
    · have e : x = 97 := UInt8.toNat_inj.1 (by have h0 : (x.toNat : Int) = 97 := h97; show x.toNat = 97; omega)
      repeat (first | refine nl ?_ | refine AWP.seq ?_ | refine rg ?_ | refine AWP.skip ?_ | refine AWP.block ?_ | refine YH (z := ?_) | refine YI (z := ?_) | refine ZA (z := ?_) | refine ZB (z := ?_) | refine ZC (z := ?_) | refine ZD (z := ?_) | refine ZE (z := ?_) | refine ZF (z := ?_) | refine ZJ (z := ?_) | refine ZK (z := ?_) | refine ZM (z := ?_) | refine ZH (z := ?_) | refine ZO (z := ?_) | refine ZQ (z := ?_) | refine ZR (z := ?_) | refine ZT (z := ?_) | refine ZU (z := ?_) | refine YA (z := ?_) | refine ZG (z := ?_) | refine ZI (z := ?_) | refine YC (z := ?_) | refine YD (z := ?_) | refine YE (z := ?_))
      refine sad rfl rfl rfl (by simp only [List.length_append, List.length_cons, List.length_nil]; omega) ?_
      repeat (first | refine ZA (z := ?_) | refine ZB (z := ?_) | refine ZC (z := ?_) | refine ZD (z := ?_) | refine ZE (z := ?_) | refine ZF (z := ?_) | refine ZJ (z := ?_) | refine ZK (z := ?_) | refine ZM (z := ?_) | refine ZH (z := ?_) | refine ZO (z := ?_) | refine ZQ (z := ?_) | refine ZR (z := ?_) | refine ZT (z := ?_) | refine ZU (z := ?_) | refine YA (z := ?_) | refine ZG (z := ?_) | refine ZI (z := ?_) | refine YC (z := ?_) | refine YD (z := ?_) | refine YE (z := ?_))
      refine cle rfl rfl (dig_ok a wa _) ?_
      refine sad rfl rfl rfl (by simp only [List.length_append, List.length_cons, List.length_nil]; omega) ?_
      repeat (first | refine nl ?_ | refine AWP.seq ?_ | refine rg ?_ | refine AWP.skip ?_ | refine AWP.block ?_ | refine YH (z := ?_) | refine YI (z := ?_) | refine ZA (z := ?_) | refine ZB (z := ?_) | refine ZC (z := ?_) | refine ZD (z := ?_) | refine ZE (z := ?_) | refine ZF (z := ?_) | refine ZJ (z := ?_) | refine ZK (z := ?_) | refine ZM (z := ?_) | refine ZH (z := ?_) | refine ZO (z := ?_) | refine ZQ (z := ?_) | refine ZR (z := ?_) | refine ZT (z := ?_) | refine ZU (z := ?_) | refine YA (z := ?_) | refine ZG (z := ?_) | refine ZI (z := ?_) | refine YC (z := ?_) | refine YD (z := ?_) | refine YE (z := ?_))
      refine ⟨k + 1, by omega, by omega, ?_, .refl _⟩
      refine TLe.cons rfl (.refl _) (TLe.consE rfl (fin3 ?_) (tl1 rfl))
      rw [hsn, e]
      simp [seg, rTx]
    have n97 : ¬ x = 97 := fun e => h97 (show (x.toNat : Int) = 97 by rw [e]; rfl)
    repeat (first | refine nl ?_ | refine AWP.seq ?_ | refine rg ?_ | refine AWP.skip ?_ | refine AWP.block ?_ | refine YH (z := ?_) | refine YI (z := ?_) | refine ZA (z := ?_) | refine ZB (z := ?_) | refine ZC (z := ?_) | refine ZD (z := ?_) | refine ZE (z := ?_) | refine ZF (z := ?_) | refine ZJ (z := ?_) | refine ZK (z := ?_) | refine ZM (z := ?_) | refine ZH (z := ?_) | refine ZO (z := ?_) | refine ZQ (z := ?_) | refine ZR (z := ?_) | refine ZT (z := ?_) | refine ZU (z := ?_) | refine YA (z := ?_) | refine ZG (z := ?_) | refine ZI (z := ?_) | refine YC (z := ?_) | refine YD (z := ?_) | refine YE (z := ?_))
    refine AWP.cond_dec rfl (fun h98 => ?_) (fun h98 => ?_)
    · have e : x = 98 := UInt8.toNat_inj.1 (by have h0 : (x.toNat : Int) = 98 := h98; show x.toNat = 98; omega)
      repeat (first | refine nl ?_ | refine AWP.seq ?_ | refine rg ?_ | refine AWP.skip ?_ | refine AWP.block ?_ | refine YH (z := ?_) | refine YI (z := ?_) | refine ZA (z := ?_) | refine ZB (z := ?_) | refine ZC (z := ?_) | refine ZD (z := ?_) | refine ZE (z := ?_) | refine ZF (z := ?_) | refine ZJ (z := ?_) | refine ZK (z := ?_) | refine ZM (z := ?_) | refine ZH (z := ?_) | refine ZO (z := ?_) | refine ZQ (z := ?_) | refine ZR (z := ?_) | refine ZT (z := ?_) | refine ZU (z := ?_) | refine YA (z := ?_) | refine ZG (z := ?_) | refine ZI (z := ?_) | refine YC (z := ?_) | refine YD (z := ?_) | refine YE (z := ?_))
      refine sad rfl rfl rfl (by simp only [List.length_append, List.length_cons, List.length_nil]; omega) ?_
      repeat (first | refine ZA (z := ?_) | refine ZB (z := ?_) | refine ZC (z := ?_) | refine ZD (z := ?_) | refine ZE (z := ?_) | refine ZF (z := ?_) | refine ZJ (z := ?_) | refine ZK (z := ?_) | refine ZM (z := ?_) | refine ZH (z := ?_) | refine ZO (z := ?_) | refine ZQ (z := ?_) | refine ZR (z := ?_) | refine ZT (z := ?_) | refine ZU (z := ?_) | refine YA (z := ?_) | refine ZG (z := ?_) | refine ZI (z := ?_) | refine YC (z := ?_) | refine YD (z := ?_) | refine YE (z := ?_))
      refine cle rfl rfl (dig_ok b wb _) ?_
      refine sad rfl rfl rfl (by simp only [List.length_append, List.length_cons, List.length_nil]; omega) ?_
      repeat (first | refine nl ?_ | refine AWP.seq ?_ | refine rg ?_ | refine AWP.skip ?_ | refine AWP.block ?_ | refine YH (z := ?_) | refine YI (z := ?_) | refine ZA (z := ?_) | refine ZB (z := ?_) | refine ZC (z := ?_) | refine ZD (z := ?_) | refine ZE (z := ?_) | refine ZF (z := ?_) | refine ZJ (z := ?_) | refine ZK (z := ?_) | refine ZM (z := ?_) | refine ZH (z := ?_) | refine ZO (z := ?_) | refine ZQ (z := ?_) | refine ZR (z := ?_) | refine ZT (z := ?_) | refine ZU (z := ?_) | refine YA (z := ?_) | refine ZG (z := ?_) | refine ZI (z := ?_) | refine YC (z := ?_) | refine YD (z := ?_) | refine YE (z := ?_))
      refine ⟨k + 1, by omega, by omega, ?_, .refl _⟩
      refine TLe.cons rfl (.refl _) (TLe.consE rfl (fin3 ?_) (tl1 rfl))
      rw [hsn, e]
      simp [seg, rTx]
    have n98 : ¬ x = 98 := fun e => h98 (show (x.toNat : Int) = 98 by rw [e]; rfl)
    repeat (first | refine nl ?_ | refine AWP.seq ?_ | refine rg ?_ | refine AWP.skip ?_ | refine AWP.block ?_ | refine YH (z := ?_) | refine YI (z := ?_) | refine ZA (z := ?_) | refine ZB (z := ?_) | refine ZC (z := ?_) | refine ZD (z := ?_) | refine ZE (z := ?_) | refine ZF (z := ?_) | refine ZJ (z := ?_) | refine ZK (z := ?_) | refine ZM (z := ?_) | refine ZH (z := ?_) | refine ZO (z := ?_) | refine ZQ (z := ?_) | refine ZR (z := ?_) | refine ZT (z := ?_) | refine ZU (z := ?_) | refine YA (z := ?_) | refine ZG (z := ?_) | refine ZI (z := ?_) | refine YC (z := ?_) | refine YD (z := ?_) | refine YE (z := ?_))
    refine AWP.cond_dec rfl (fun h99 => ?_) (fun h99 => ?_)
    · have e : x = 99 := UInt8.toNat_inj.1 (by have h0 : (x.toNat : Int) = 99 := h99; show x.toNat = 99; omega)
      repeat (first | refine nl ?_ | refine AWP.seq ?_ | refine rg ?_ | refine AWP.skip ?_ | refine AWP.block ?_ | refine YH (z := ?_) | refine YI (z := ?_) | refine ZA (z := ?_) | refine ZB (z := ?_) | refine ZC (z := ?_) | refine ZD (z := ?_) | refine ZE (z := ?_) | refine ZF (z := ?_) | refine ZJ (z := ?_) | refine ZK (z := ?_) | refine ZM (z := ?_) | refine ZH (z := ?_) | refine ZO (z := ?_) | refine ZQ (z := ?_) | refine ZR (z := ?_) | refine ZT (z := ?_) | refine ZU (z := ?_) | refine YA (z := ?_) | refine ZG (z := ?_) | refine ZI (z := ?_) | refine YC (z := ?_) | refine YD (z := ?_) | refine YE (z := ?_))
      refine sad rfl rfl rfl (by simp only [List.length_append, List.length_cons, List.length_nil]; omega) ?_
      repeat (first | refine ZA (z := ?_) | refine ZB (z := ?_) | refine ZC (z := ?_) | refine ZD (z := ?_) | refine ZE (z := ?_) | refine ZF (z := ?_) | refine ZJ (z := ?_) | refine ZK (z := ?_) | refine ZM (z := ?_) | refine ZH (z := ?_) | refine ZO (z := ?_) | refine ZQ (z := ?_) | refine ZR (z := ?_) | refine ZT (z := ?_) | refine ZU (z := ?_) | refine YA (z := ?_) | refine ZG (z := ?_) | refine ZI (z := ?_) | refine YC (z := ?_) | refine YD (z := ?_) | refine YE (z := ?_))
      refine cle rfl rfl (dig_ok c wc _) ?_
      refine sad rfl rfl rfl (by simp only [List.length_append, List.length_cons, List.length_nil]; omega) ?_
      repeat (first | refine nl ?_ | refine AWP.seq ?_ | refine rg ?_ | refine AWP.skip ?_ | refine AWP.block ?_ | refine YH (z := ?_) | refine YI (z := ?_) | refine ZA (z := ?_) | refine ZB (z := ?_) | refine ZC (z := ?_) | refine ZD (z := ?_) | refine ZE (z := ?_) | refine ZF (z := ?_) | refine ZJ (z := ?_) | refine ZK (z := ?_) | refine ZM (z := ?_) | refine ZH (z := ?_) | refine ZO (z := ?_) | refine ZQ (z := ?_) | refine ZR (z := ?_) | refine ZT (z := ?_) | refine ZU (z := ?_) | refine YA (z := ?_) | refine ZG (z := ?_) | refine ZI (z := ?_) | refine YC (z := ?_) | refine YD (z := ?_) | refine YE (z := ?_))
      refine ⟨k + 1, by omega, by omega, ?_, .refl _⟩
      refine TLe.cons rfl (.refl _) (TLe.consE rfl (fin3 ?_) (tl1 rfl))
      rw [hsn, e]
      simp [seg, rTx]
    have n99 : ¬ x = 99 := fun e => h99 (show (x.toNat : Int) = 99 by rw [e]; rfl)
    repeat (first | refine nl ?_ | refine AWP.seq ?_ | refine rg ?_ | refine AWP.skip ?_ | refine AWP.block ?_ | refine YH (z := ?_) | refine YI (z := ?_) | refine ZA (z := ?_) | refine ZB (z := ?_) | refine ZC (z := ?_) | refine ZD (z := ?_) | refine ZE (z := ?_) | refine ZF (z := ?_) | refine ZJ (z := ?_) | refine ZK (z := ?_) | refine ZM (z := ?_) | refine ZH (z := ?_) | refine ZO (z := ?_) | refine ZQ (z := ?_) | refine ZR (z := ?_) | refine ZT (z := ?_) | refine ZU (z := ?_) | refine YA (z := ?_) | refine ZG (z := ?_) | refine ZI (z := ?_) | refine YC (z := ?_) | refine YD (z := ?_) | refine YE (z := ?_))
    refine sad rfl rfl rfl (by simp only [List.length_append, List.length_cons, List.length_nil]; omega) ?_
    repeat (first | refine ZA (z := ?_) | refine ZB (z := ?_) | refine ZC (z := ?_) | refine ZD (z := ?_) | refine ZE (z := ?_) | refine ZF (z := ?_) | refine ZJ (z := ?_) | refine ZK (z := ?_) | refine ZM (z := ?_) | refine ZH (z := ?_) | refine ZO (z := ?_) | refine ZQ (z := ?_) | refine ZR (z := ?_) | refine ZT (z := ?_) | refine ZU (z := ?_) | refine YA (z := ?_) | refine ZG (z := ?_) | refine ZI (z := ?_) | refine YC (z := ?_) | refine YD (z := ?_) | refine YE (z := ?_))
    refine cle rfl rfl (dig_ok imm wi _) ?_
    refine sad rfl rfl rfl (by simp only [List.length_append, List.length_cons, List.length_nil]; omega) ?_
    repeat (first | refine nl ?_ | refine AWP.seq ?_ | refine rg ?_ | refine AWP.skip ?_ | refine AWP.block ?_ | refine YH (z := ?_) | refine YI (z := ?_) | refine ZA (z := ?_) | refine ZB (z := ?_) | refine ZC (z := ?_) | refine ZD (z := ?_) | refine ZE (z := ?_) | refine ZF (z := ?_) | refine ZJ (z := ?_) | refine ZK (z := ?_) | refine ZM (z := ?_) | refine ZH (z := ?_) | refine ZO (z := ?_) | refine ZQ (z := ?_) | refine ZR (z := ?_) | refine ZT (z := ?_) | refine ZU (z := ?_) | refine YA (z := ?_) | refine ZG (z := ?_) | refine ZI (z := ?_) | refine YC (z := ?_) | refine YD (z := ?_) | refine YE (z := ?_))
    refine ⟨k + 1, by omega, by omega, ?_, .refl _⟩
    refine TLe.cons rfl (.refl _) (TLe.consE rfl (fin3 ?_) (tl1 rfl))
    rw [hsn]
    simp [seg, n97, n98, n99]
  · refine nxe rfl rfl (St.obj_set _ _ _) hge ?_
    repeat (first | refine nl ?_ | refine AWP.seq ?_ | refine rg ?_ | refine AWP.skip ?_ | refine AWP.block ?_ | refine YH (z := ?_) | refine YI (z := ?_) | refine ZA (z := ?_) | refine ZB (z := ?_) | refine ZC (z := ?_) | refine ZD (z := ?_) | refine ZE (z := ?_) | refine ZF (z := ?_) | refine ZJ (z := ?_) | refine ZK (z := ?_) | refine ZM (z := ?_) | refine ZH (z := ?_) | refine ZO (z := ?_) | refine ZQ (z := ?_) | refine ZR (z := ?_) | refine ZT (z := ?_) | refine ZU (z := ?_) | refine YA (z := ?_) | refine ZG (z := ?_) | refine ZI (z := ?_) | refine YC (z := ?_) | refine YD (z := ?_) | refine YE (z := ?_))
    refine AWP.exit (blk_hit ?_)
    repeat (first | refine nl ?_ | refine AWP.seq ?_ | refine rg ?_ | refine AWP.skip ?_ | refine AWP.block ?_ | refine YH (z := ?_) | refine YI (z := ?_) | refine ZA (z := ?_) | refine ZB (z := ?_) | refine ZC (z := ?_) | refine ZD (z := ?_) | refine ZE (z := ?_) | refine ZF (z := ?_) | refine ZJ (z := ?_) | refine ZK (z := ?_) | refine ZM (z := ?_) | refine ZH (z := ?_) | refine ZO (z := ?_) | refine ZQ (z := ?_) | refine ZR (z := ?_) | refine ZT (z := ?_) | refine ZU (z := ?_) | refine YA (z := ?_) | refine ZG (z := ?_) | refine ZI (z := ?_) | refine YC (z := ?_) | refine YD (z := ?_) | refine YE (z := ?_))
    refine AWP.ret (rets rfl (.refl _) (StLe.new ho (.refl _)) ⟨fin ?_, rfl⟩)
    rw [List.take_of_length_le hge]
    exact fin2
end Go.Proofs
/- The law's helpers: List, Outcome, words, known. No conditions: definitions and lemmas only. -/
namespace Go.Proofs
open Go.AM
attribute [local irreducible] AWP AOps ACalls
set_option linter.unusedSimpArgs false

theorem list_ok (l : List Int) (hl : l.length ≤ 1000000000) (u v : AV) (hu : Le u (.view 1 (l.map ivRow) .shared)) (hv : Le v (.view 1 (l.map ivRow) .shared)) (st : St) : ACalls Tryd.prog 28 [u, v] st (fun v st' => v = .bool true ∧ st' = st) (fun _ _ => False) := by
  refine ACalls.ofBody Tryd.func28 rfl Tryd.ntmps28 rfl ?_
  refine AWP.weaken (T' := [(0, .view 1 (l.map ivRow) .shared), (1, .view 1 (l.map ivRow) .shared)]) (TLe.cons rfl hu (TLe.cons rfl hv (.nil _))) (.refl _) ?_
  have ll : (l.map ivRow).length = l.length := List.length_map ..
  repeat (first | refine nl ?_ | refine AWP.seq ?_ | refine rg ?_ | refine AWP.skip ?_ | refine AWP.block ?_ | refine YH (z := ?_) | refine YI (z := ?_) | refine ZA (z := ?_) | refine ZB (z := ?_) | refine ZC (z := ?_) | refine ZD (z := ?_) | refine ZE (z := ?_) | refine ZF (z := ?_) | refine ZJ (z := ?_) | refine ZK (z := ?_) | refine ZM (z := ?_) | refine ZH (z := ?_) | refine ZO (z := ?_) | refine ZQ (z := ?_) | refine ZR (z := ?_) | refine ZT (z := ?_) | refine ZU (z := ?_) | refine YA (z := ?_) | refine ZG (z := ?_) | refine ZI (z := ?_) | refine YC (z := ?_) | refine YD (z := ?_) | refine YE (z := ?_))
  refine AWP.loop (α := Nat) (fun i => [(5, .int .i64 (i : Int)), (1, .view 1 (l.map ivRow) .shared), (0, .view 1 (l.map ivRow) .shared)]) (fun _ => st) (fun i => i ≤ l.length) (fun i => l.length - i) 0 (Nat.zero_le _) (tl3 rfl rfl rfl) (.refl _) ?_
  intro i hi
  repeat (first | refine nl ?_ | refine AWP.seq ?_ | refine rg ?_ | refine AWP.skip ?_ | refine AWP.block ?_ | refine YH (z := ?_) | refine YI (z := ?_) | refine ZA (z := ?_) | refine ZB (z := ?_) | refine ZC (z := ?_) | refine ZD (z := ?_) | refine ZE (z := ?_) | refine ZF (z := ?_) | refine ZJ (z := ?_) | refine ZK (z := ?_) | refine ZM (z := ?_) | refine ZH (z := ?_) | refine ZO (z := ?_) | refine ZQ (z := ?_) | refine ZR (z := ?_) | refine ZT (z := ?_) | refine ZU (z := ?_) | refine YA (z := ?_) | refine ZG (z := ?_) | refine ZI (z := ?_) | refine YC (z := ?_) | refine YD (z := ?_) | refine YE (z := ?_))
  rw [ll]
  refine AWP.cond_dec rfl (fun h => AWP.skip ?_) (fun h => AWP.exit (blk_hit ?_))
  · have hi' : i < l.length := by have h0 : (i : Int) < (l.length : Int) := h; omega
    have hr : (l.map ivRow)[i]? = some [.int .i64 l[i]] := by rw [List.getElem?_map, List.getElem?_eq_getElem hi']; rfl
    generalize l[i] = x at hr
    repeat (first | refine nl ?_ | refine AWP.seq ?_ | refine AWP.skip ?_ | refine AWP.block ?_)
    refine AWP.draw rfl 8 8 (fun _ _ => False) rfl ?_
    repeat (first | refine ds rfl rfl ?_ | refine dp (h := fun _ _ => ZD (z := nz)) (z := ?_) | refine dp (h := fun _ _ => ZE (z := nz)) (z := ?_) | refine dp (h := fun _ _ => ZF (z := nz)) (z := ?_) | refine dp (h := fun _ _ => ZC (z := nz)) (z := ?_) | refine dp (h := fun _ _ => ZJ (z := nz)) (z := ?_) | refine dp (h := fun _ _ => ZK (z := nz)) (z := ?_) | refine dp (h := fun _ _ => ZM (z := nz)) (z := ?_) | refine dp (h := fun _ _ => ZH (z := nz)) (z := ?_) | refine dp (h := fun _ _ => ZQ (z := nz)) (z := ?_) | refine dp (h := fun _ _ => ZO (z := nz)) (z := ?_) | refine dp (h := fun _ _ => ZG (z := nz)) (z := ?_) | refine dp (h := fun _ _ => ZI (z := nz)) (z := ?_) | refine dp (h := fun _ _ => YC (z := nz)) (z := ?_) | refine dp (h := fun _ _ => YJ (z := nz)) (z := ?_) | refine dp (h := fun _ _ => YK (z := nz)) (z := ?_) | refine dp (h := fun _ _ => YL (z := nz)) (z := ?_) | refine dp (h := fun _ _ => YM (z := nz)) (z := ?_))
    refine dq rfl rfl rfl (fun st1 hle => ix (m := i) rfl rfl rfl rfl (by rw [ll]; exact hi') (nl ⟨_, rfl, rfl, rfl⟩)) ?_
    repeat (first | refine ds rfl rfl ?_ | refine dp (h := fun _ _ => ZD (z := nz)) (z := ?_) | refine dp (h := fun _ _ => ZE (z := nz)) (z := ?_) | refine dp (h := fun _ _ => ZF (z := nz)) (z := ?_) | refine dp (h := fun _ _ => ZC (z := nz)) (z := ?_) | refine dp (h := fun _ _ => ZJ (z := nz)) (z := ?_) | refine dp (h := fun _ _ => ZK (z := nz)) (z := ?_) | refine dp (h := fun _ _ => ZM (z := nz)) (z := ?_) | refine dp (h := fun _ _ => ZH (z := nz)) (z := ?_) | refine dp (h := fun _ _ => ZQ (z := nz)) (z := ?_) | refine dp (h := fun _ _ => ZO (z := nz)) (z := ?_) | refine dp (h := fun _ _ => ZG (z := nz)) (z := ?_) | refine dp (h := fun _ _ => ZI (z := nz)) (z := ?_) | refine dp (h := fun _ _ => YC (z := nz)) (z := ?_) | refine dp (h := fun _ _ => YJ (z := nz)) (z := ?_) | refine dp (h := fun _ _ => YK (z := nz)) (z := ?_) | refine dp (h := fun _ _ => YL (z := nz)) (z := ?_) | refine dp (h := fun _ _ => YM (z := nz)) (z := ?_))
    refine dq rfl rfl rfl (fun st1 hle => ix (m := i) rfl rfl rfl rfl (by rw [ll]; exact hi') (nl ⟨_, rfl, rfl, rfl⟩)) ?_
    repeat (first | refine ds rfl rfl ?_ | refine dp (h := fun _ _ => ZD (z := nz)) (z := ?_) | refine dp (h := fun _ _ => ZE (z := nz)) (z := ?_) | refine dp (h := fun _ _ => ZF (z := nz)) (z := ?_) | refine dp (h := fun _ _ => ZC (z := nz)) (z := ?_) | refine dp (h := fun _ _ => ZJ (z := nz)) (z := ?_) | refine dp (h := fun _ _ => ZK (z := nz)) (z := ?_) | refine dp (h := fun _ _ => ZM (z := nz)) (z := ?_) | refine dp (h := fun _ _ => ZH (z := nz)) (z := ?_) | refine dp (h := fun _ _ => ZQ (z := nz)) (z := ?_) | refine dp (h := fun _ _ => ZO (z := nz)) (z := ?_) | refine dp (h := fun _ _ => ZG (z := nz)) (z := ?_) | refine dp (h := fun _ _ => ZI (z := nz)) (z := ?_) | refine dp (h := fun _ _ => YC (z := nz)) (z := ?_) | refine dp (h := fun _ _ => YJ (z := nz)) (z := ?_) | refine dp (h := fun _ _ => YK (z := nz)) (z := ?_) | refine dp (h := fun _ _ => YL (z := nz)) (z := ?_) | refine dp (h := fun _ _ => YM (z := nz)) (z := ?_))
    refine dn ⟨fun _ => ?_, fun h => absurd h (by decide)⟩
    repeat (first | refine nl ?_ | refine AWP.seq ?_ | refine rg ?_ | refine AWP.skip ?_ | refine AWP.block ?_ | refine YH (z := ?_) | refine YI (z := ?_) | refine ZA (z := ?_) | refine ZB (z := ?_) | refine ZC (z := ?_) | refine ZD (z := ?_) | refine ZE (z := ?_) | refine ZF (z := ?_) | refine ZJ (z := ?_) | refine ZK (z := ?_) | refine ZM (z := ?_) | refine ZH (z := ?_) | refine ZO (z := ?_) | refine ZQ (z := ?_) | refine ZR (z := ?_) | refine ZT (z := ?_) | refine ZU (z := ?_) | refine YA (z := ?_) | refine ZG (z := ?_) | refine ZI (z := ?_) | refine YC (z := ?_) | refine YD (z := ?_) | refine YE (z := ?_))
    exact ⟨i + 1, by omega, by omega, (tl3 rfl rfl rfl), .refl _⟩
  · repeat (first | refine nl ?_ | refine AWP.seq ?_ | refine rg ?_ | refine AWP.skip ?_ | refine AWP.block ?_ | refine YH (z := ?_) | refine YI (z := ?_) | refine ZA (z := ?_) | refine ZB (z := ?_) | refine ZC (z := ?_) | refine ZD (z := ?_) | refine ZE (z := ?_) | refine ZF (z := ?_) | refine ZJ (z := ?_) | refine ZK (z := ?_) | refine ZM (z := ?_) | refine ZH (z := ?_) | refine ZO (z := ?_) | refine ZQ (z := ?_) | refine ZR (z := ?_) | refine ZT (z := ?_) | refine ZU (z := ?_) | refine YA (z := ?_) | refine ZG (z := ?_) | refine ZI (z := ?_) | refine YC (z := ?_) | refine YD (z := ?_) | refine YE (z := ?_))
    exact AWP.ret (rets rfl (.refl _) (.refl _) ⟨rfl, rfl⟩)
theorem outcome_ok (x : Oc) (hl : x.out.length ≤ 1000000000) (st : St) : ACalls Tryd.prog 23 [.agg (ocRow x), .agg (ocRow x)] st (fun v st' => v = .bool true ∧ st' = st) (fun _ _ => False) := by
  refine ACalls.ofBody Tryd.func23 rfl Tryd.ntmps23 rfl ?_
  obtain ⟨e, t, v, out⟩ := x
  rw [show ocRow ⟨e, t, v, out⟩ = [.int .i64 e, .bool t, .int .i64 v, .view 1 (out.map ivRow) .shared] from rfl]
  repeat (first | refine nl ?_ | refine AWP.seq ?_ | refine rg ?_ | refine AWP.skip ?_ | refine AWP.block ?_ | refine YH (z := ?_) | refine YI (z := ?_) | refine ZA (z := ?_) | refine ZB (z := ?_) | refine ZC (z := ?_) | refine ZD (z := ?_) | refine ZE (z := ?_) | refine ZF (z := ?_) | refine ZJ (z := ?_) | refine ZK (z := ?_) | refine ZM (z := ?_) | refine ZH (z := ?_) | refine ZO (z := ?_) | refine ZQ (z := ?_) | refine ZR (z := ?_) | refine ZT (z := ?_) | refine ZU (z := ?_) | refine YA (z := ?_) | refine ZG (z := ?_) | refine ZI (z := ?_) | refine YC (z := ?_) | refine YD (z := ?_) | refine YE (z := ?_))
  refine cle rfl rfl (list_ok out hl _ _ (.refl _) (.refl _) _) ?_
  repeat (first | refine nl ?_ | refine AWP.seq ?_ | refine rg ?_ | refine AWP.skip ?_ | refine AWP.block ?_ | refine YH (z := ?_) | refine YI (z := ?_) | refine ZA (z := ?_) | refine ZB (z := ?_) | refine ZC (z := ?_) | refine ZD (z := ?_) | refine ZE (z := ?_) | refine ZF (z := ?_) | refine ZJ (z := ?_) | refine ZK (z := ?_) | refine ZM (z := ?_) | refine ZH (z := ?_) | refine ZO (z := ?_) | refine ZQ (z := ?_) | refine ZR (z := ?_) | refine ZT (z := ?_) | refine ZU (z := ?_) | refine YA (z := ?_) | refine ZG (z := ?_) | refine ZI (z := ?_) | refine YC (z := ?_) | refine YD (z := ?_) | refine YE (z := ?_))
  exact AWP.ret (rets rfl (.refl _) (.refl _) ⟨rfl, rfl⟩)
end Go.Proofs
/- The law's helpers: words, known. No conditions: definitions and lemmas only. -/
namespace Go.Proofs
open Go.AM
attribute [local irreducible] AWP AOps ACalls
set_option linter.unusedSimpArgs false

def wordsP (l : List Ins) : List Int := l.map fun i => (enc i).1
theorem ints_le (l : List Int) (tk : AM.Tok) : Le (.view 1 (l.map ivRow) tk) (.view 1 (l.map ivRow) .shared) := .shared _ _ _
theorem words_ok (l : List Ins) (hl : l.length ≤ 1000000) (u : AV) (hu : Le u (.view 5 (l.map insRow) .shared)) (st : St) : ACalls Tryd.prog 26 [u] st (fun v st' => v = .view 1 ((wordsP l).map ivRow) .shared ∧ st' = st) (fun _ _ => False) := by
  refine ACalls.ofBody Tryd.func26 rfl Tryd.ntmps26 rfl ?_
  refine AWP.weaken (T' := [(0, .view 5 (l.map insRow) .shared)]) (TLe.cons rfl hu (.nil _)) (.refl _) ?_
  have ll : (l.map insRow).length = l.length := List.length_map ..
  repeat (first | refine nl ?_ | refine AWP.seq ?_ | refine AWP.skip ?_ | refine AWP.block ?_)
  refine rg ?_
  repeat (first | refine ZA (z := ?_) | refine ZB (z := ?_) | refine ZC (z := ?_) | refine ZD (z := ?_) | refine ZE (z := ?_) | refine ZF (z := ?_) | refine ZJ (z := ?_) | refine ZK (z := ?_) | refine ZM (z := ?_) | refine ZH (z := ?_) | refine ZO (z := ?_) | refine ZQ (z := ?_) | refine ZR (z := ?_) | refine ZT (z := ?_) | refine ZU (z := ?_) | refine YA (z := ?_) | refine ZG (z := ?_) | refine ZI (z := ?_) | refine YC (z := ?_) | refine YD (z := ?_) | refine YE (z := ?_))
  repeat (first | refine nl ?_ | refine AWP.seq ?_ | refine AWP.skip ?_ | refine AWP.block ?_)
  refine rg ?_
  repeat (first | refine ZA (z := ?_) | refine ZB (z := ?_) | refine ZC (z := ?_) | refine ZD (z := ?_) | refine ZE (z := ?_) | refine ZF (z := ?_) | refine ZJ (z := ?_) | refine ZK (z := ?_) | refine ZM (z := ?_) | refine ZH (z := ?_) | refine ZO (z := ?_) | refine ZQ (z := ?_) | refine ZR (z := ?_) | refine ZT (z := ?_) | refine ZU (z := ?_) | refine YA (z := ?_) | refine ZG (z := ?_) | refine ZI (z := ?_) | refine YC (z := ?_) | refine YD (z := ?_) | refine YE (z := ?_))
  repeat (first | refine nl ?_ | refine AWP.seq ?_ | refine AWP.skip ?_ | refine AWP.block ?_)
  refine rg ?_
  repeat (first | refine ZA (z := ?_) | refine ZB (z := ?_) | refine ZC (z := ?_) | refine ZD (z := ?_) | refine ZE (z := ?_) | refine ZF (z := ?_) | refine ZJ (z := ?_) | refine ZK (z := ?_) | refine ZM (z := ?_) | refine ZH (z := ?_) | refine ZO (z := ?_) | refine ZQ (z := ?_) | refine ZR (z := ?_) | refine ZT (z := ?_) | refine ZU (z := ?_) | refine YA (z := ?_) | refine ZG (z := ?_) | refine ZI (z := ?_) | refine YC (z := ?_) | refine YD (z := ?_) | refine YE (z := ?_))
  rw [ll]
  repeat (first | refine nl ?_ | refine AWP.seq ?_ | refine AWP.skip ?_ | refine AWP.block ?_)
  refine AWP.nilTok 3 3 1 rfl fun tk0 htk0 => ?_
  refine AWP.loop (α := Nat × Nat) (fun x => [(10, .int .i64 (x.1 : Int)), (9, .int .i64 (l.length : Int)), (8, .view 5 (l.map insRow) .shared), (3, .view 1 ((wordsP (l.take x.1)).map ivRow) (.own x.2 3))]) (fun x => st.addTok x.2) (fun x => x.1 ≤ l.length ∧ st.tok x.2 = false) (fun x => l.length - x.1) (0, tk0) ⟨Nat.zero_le _, htk0⟩ (tl4 rfl rfl rfl rfl) (.refl _) ?_
  rintro ⟨i, tk⟩ ⟨hi, htk⟩
  simp only at hi htk
  refine AWP.weaken (T' := [(10, .int .i64 (i : Int)), (9, .int .i64 (l.length : Int)), (8, .view 5 (l.map insRow) .shared), (3, .view 1 ((wordsP (l.take i)).map ivRow) (.own tk 3))]) (st' := st.addTok tk) (tl4 rfl rfl rfl rfl) (.refl _) ?_
  repeat (first | refine nl ?_ | refine AWP.seq ?_ | refine rg ?_ | refine AWP.skip ?_ | refine AWP.block ?_ | refine YH (z := ?_) | refine YI (z := ?_) | refine ZA (z := ?_) | refine ZB (z := ?_) | refine ZC (z := ?_) | refine ZD (z := ?_) | refine ZE (z := ?_) | refine ZF (z := ?_) | refine ZJ (z := ?_) | refine ZK (z := ?_) | refine ZM (z := ?_) | refine ZH (z := ?_) | refine ZO (z := ?_) | refine ZQ (z := ?_) | refine ZR (z := ?_) | refine ZT (z := ?_) | refine ZU (z := ?_) | refine YA (z := ?_) | refine ZG (z := ?_) | refine ZI (z := ?_) | refine YC (z := ?_) | refine YD (z := ?_) | refine YE (z := ?_))
  refine AWP.cond_dec rfl (fun h => AWP.skip ?_) (fun h => AWP.exit (blk_hit ?_))
  · have hi' : i < l.length := by have h0 : (i : Int) < (l.length : Int) := h; omega
    have hv : l[i]? = some l[i] := List.getElem?_eq_getElem hi'
    have hr : (l.map insRow)[i]? = some (insRow l[i]) := by rw [List.getElem?_map, hv]; rfl
    generalize l[i] = x at hv hr
    repeat (first | refine nl ?_ | refine AWP.seq ?_ | refine rg ?_ | refine AWP.skip ?_ | refine AWP.block ?_ | refine YH (z := ?_) | refine YI (z := ?_) | refine ZA (z := ?_) | refine ZB (z := ?_) | refine ZC (z := ?_) | refine ZD (z := ?_) | refine ZE (z := ?_) | refine ZF (z := ?_) | refine ZJ (z := ?_) | refine ZK (z := ?_) | refine ZM (z := ?_) | refine ZH (z := ?_) | refine ZO (z := ?_) | refine ZQ (z := ?_) | refine ZR (z := ?_) | refine ZT (z := ?_) | refine ZU (z := ?_) | refine YA (z := ?_) | refine ZG (z := ?_) | refine ZI (z := ?_) | refine YC (z := ?_) | refine YD (z := ?_) | refine YE (z := ?_))
    refine ix (m := i) rfl rfl rfl rfl (by rw [ll]; exact hi') ?_
    refine leW rfl rfl rfl hr rfl ?_
    refine al rfl rfl fun o5 h5 => ?_
    refine soN 5 rfl rfl rfl rfl rfl rfl h5 ?_
    repeat (first | refine nl ?_ | refine AWP.seq ?_ | refine rg ?_ | refine AWP.skip ?_ | refine AWP.block ?_ | refine YH (z := ?_) | refine YI (z := ?_) | refine ZA (z := ?_) | refine ZB (z := ?_) | refine ZC (z := ?_) | refine ZD (z := ?_) | refine ZE (z := ?_) | refine ZF (z := ?_) | refine ZJ (z := ?_) | refine ZK (z := ?_) | refine ZM (z := ?_) | refine ZH (z := ?_) | refine ZO (z := ?_) | refine ZQ (z := ?_) | refine ZR (z := ?_) | refine ZT (z := ?_) | refine ZU (z := ?_) | refine YA (z := ?_) | refine ZG (z := ?_) | refine ZI (z := ?_) | refine YC (z := ?_) | refine YD (z := ?_) | refine YE (z := ?_))
    have hw : (wordsP (l.take i)).map ivRow ++ [[AV.int .i64 (enc x).1]] = (wordsP (l.take (i + 1))).map ivRow := by
      rw [List.take_add_one, hv, Option.toList_some]
      simp [wordsP, ivRow, iv]
    have hwl : ((wordsP (l.take i)).map ivRow).length ≤ i := by simp [wordsP]; omega
    refine ap rfl rfl rfl (St.tok_addTok _ _) rfl (by simp at hwl ⊢; omega) (by simp at hwl ⊢; unfold maxLen; omega) fun tk' htk' => ?_
    refine AOps.weaken (.refl _) (StLe.reTok htk _) ?_
    rw [hw]
    repeat (first | refine nl ?_ | refine AWP.seq ?_ | refine rg ?_ | refine AWP.skip ?_ | refine AWP.block ?_ | refine YH (z := ?_) | refine YI (z := ?_) | refine ZA (z := ?_) | refine ZB (z := ?_) | refine ZC (z := ?_) | refine ZD (z := ?_) | refine ZE (z := ?_) | refine ZF (z := ?_) | refine ZJ (z := ?_) | refine ZK (z := ?_) | refine ZM (z := ?_) | refine ZH (z := ?_) | refine ZO (z := ?_) | refine ZQ (z := ?_) | refine ZR (z := ?_) | refine ZT (z := ?_) | refine ZU (z := ?_) | refine YA (z := ?_) | refine ZG (z := ?_) | refine ZI (z := ?_) | refine YC (z := ?_) | refine YD (z := ?_) | refine YE (z := ?_))
    exact ⟨(i + 1, tk'), ⟨by omega, St.tok_of_add htk'⟩, by simp only; omega, (tl4 rfl rfl rfl rfl), .refl _⟩
  · have hi' : i = l.length := by have h0 : ¬ (i : Int) < (l.length : Int) := h; omega
    subst hi'
    rw [List.take_length]
    repeat (first | refine nl ?_ | refine AWP.seq ?_ | refine rg ?_ | refine AWP.skip ?_ | refine AWP.block ?_ | refine YH (z := ?_) | refine YI (z := ?_) | refine ZA (z := ?_) | refine ZB (z := ?_) | refine ZC (z := ?_) | refine ZD (z := ?_) | refine ZE (z := ?_) | refine ZF (z := ?_) | refine ZJ (z := ?_) | refine ZK (z := ?_) | refine ZM (z := ?_) | refine ZH (z := ?_) | refine ZO (z := ?_) | refine ZQ (z := ?_) | refine ZR (z := ?_) | refine ZT (z := ?_) | refine ZU (z := ?_) | refine YA (z := ?_) | refine ZG (z := ?_) | refine ZI (z := ?_) | refine YC (z := ?_) | refine YD (z := ?_) | refine YE (z := ?_))
    exact AWP.ret (rets rfl (ints_le _ _) (StLe.addTok _ (.refl _)) ⟨rfl, rfl⟩)
theorem known_run : runP [word ⟨3, 0, 0, 0, 7⟩, word ⟨24, 0, 0, 0, 0⟩] 40 0 [] 9 = ⟨0, false, 7, []⟩ := by kernel_rfl
theorem known_text : text ⟨5, 1, 2, 0, 0⟩ = [109, 111, 118, 101, 32, 114, 49, 32, 114, 50] := by
  have h1 : Lib.itoa 1 = [49] := by rw [show (1 : Int) = ((1 : Nat) : Int) from rfl, itoa_nat, Lib.decDigits_one (by decide)]; rfl
  have h2 : Lib.itoa 2 = [50] := by rw [show (2 : Int) = ((2 : Nat) : Int) from rfl, itoa_nat, Lib.decDigits_one (by decide)]; rfl
  unfold text
  rw [if_neg (by decide), show fmOf (Ins.op ⟨5, 1, 2, 0, 0⟩) = [97, 98] from rfl]
  simp only [List.flatMap_cons, List.flatMap_nil, seg, rTx]
  simp only [if_pos, h1, h2, show ((98 : UInt8) = 97) = False by decide, if_false]
  rfl
theorem known_ok (st : St) (hT : (1, powRow) ∈ st.glob) (hN : st.row 0 = some nameRow) : ACalls Tryd.prog 16 [] st (fun v st' => v = .bool true ∧ st' = st) (fun _ _ => False) := by
  refine ACalls.ofBody Tryd.func16 rfl Tryd.ntmps16 rfl ?_
  repeat (first | refine nl ?_ | refine AWP.seq ?_ | refine rg ?_ | refine AWP.skip ?_ | refine AWP.block ?_ | refine YH (z := ?_) | refine YI (z := ?_) | refine ZA (z := ?_) | refine ZB (z := ?_) | refine ZC (z := ?_) | refine ZD (z := ?_) | refine ZE (z := ?_) | refine ZF (z := ?_) | refine ZJ (z := ?_) | refine ZK (z := ?_) | refine ZM (z := ?_) | refine ZH (z := ?_) | refine ZO (z := ?_) | refine ZQ (z := ?_) | refine ZR (z := ?_) | refine ZT (z := ?_) | refine ZU (z := ?_) | refine YA (z := ?_) | refine ZG (z := ?_) | refine ZI (z := ?_) | refine YC (z := ?_) | refine YD (z := ?_) | refine YE (z := ?_))
  refine bds (cs := insRow ⟨3, 0, 0, 0, 7⟩) rfl rfl rfl rfl ?_
  refine clp rfl rfl (encode_ok ⟨3, 0, 0, 0, 7⟩) ?_
  rw [encH (i := ⟨3, 0, 0, 0, 7⟩) (by decide) (by decide)]
  repeat (first | refine nl ?_ | refine AWP.seq ?_ | refine rg ?_ | refine AWP.skip ?_ | refine AWP.block ?_ | refine YH (z := ?_) | refine YI (z := ?_) | refine ZA (z := ?_) | refine ZB (z := ?_) | refine ZC (z := ?_) | refine ZD (z := ?_) | refine ZE (z := ?_) | refine ZF (z := ?_) | refine ZJ (z := ?_) | refine ZK (z := ?_) | refine ZM (z := ?_) | refine ZH (z := ?_) | refine ZO (z := ?_) | refine ZQ (z := ?_) | refine ZR (z := ?_) | refine ZT (z := ?_) | refine ZU (z := ?_) | refine YA (z := ?_) | refine ZG (z := ?_) | refine ZI (z := ?_) | refine YC (z := ?_) | refine YD (z := ?_) | refine YE (z := ?_))
  refine bds (cs := insRow ⟨24, 0, 0, 0, 0⟩) rfl rfl rfl rfl ?_
  refine clp rfl rfl (encode_ok ⟨24, 0, 0, 0, 0⟩) ?_
  rw [encH (i := ⟨24, 0, 0, 0, 0⟩) (by decide) (by decide)]
  repeat (first | refine nl ?_ | refine AWP.seq ?_ | refine rg ?_ | refine AWP.skip ?_ | refine AWP.block ?_ | refine YH (z := ?_) | refine YI (z := ?_) | refine ZA (z := ?_) | refine ZB (z := ?_) | refine ZC (z := ?_) | refine ZD (z := ?_) | refine ZE (z := ?_) | refine ZF (z := ?_) | refine ZJ (z := ?_) | refine ZK (z := ?_) | refine ZM (z := ?_) | refine ZH (z := ?_) | refine ZO (z := ?_) | refine ZQ (z := ?_) | refine ZR (z := ?_) | refine ZT (z := ?_) | refine ZU (z := ?_) | refine YA (z := ?_) | refine ZG (z := ?_) | refine ZI (z := ?_) | refine YC (z := ?_) | refine YD (z := ?_) | refine YE (z := ?_))
  refine bsh (cs := [.int .i64 (word ⟨3, 0, 0, 0, 7⟩), .int .i64 (word ⟨24, 0, 0, 0, 0⟩)]) rfl rfl rfl rfl rfl ?_
  refine cle rfl rfl (run_ok [word ⟨3, 0, 0, 0, 7⟩, word ⟨24, 0, 0, 0, 0⟩] [] 40 0 9 _ _ (.refl _) (.nilShared _ _) (by intro x hx; simp only [List.mem_cons, List.not_mem_nil, or_false] at hx; rcases hx with rfl | rfl <;> exact word_range (by decide) (by decide)) (fun x hx => by cases hx) w0 (by decide) (by decide) _) ?_
  rw [known_run]
  refine al rfl rfl fun o5 h5 => ?_
  refine soN 5 rfl rfl rfl rfl rfl rfl h5 ?_
  repeat (first | refine nl ?_ | refine AWP.seq ?_ | refine rg ?_ | refine AWP.skip ?_ | refine AWP.block ?_ | refine YH (z := ?_) | refine YI (z := ?_) | refine ZA (z := ?_) | refine ZB (z := ?_) | refine ZC (z := ?_) | refine ZD (z := ?_) | refine ZE (z := ?_) | refine ZF (z := ?_) | refine ZJ (z := ?_) | refine ZK (z := ?_) | refine ZM (z := ?_) | refine ZH (z := ?_) | refine ZO (z := ?_) | refine ZQ (z := ?_) | refine ZR (z := ?_) | refine ZT (z := ?_) | refine ZU (z := ?_) | refine YA (z := ?_) | refine ZG (z := ?_) | refine ZI (z := ?_) | refine YC (z := ?_) | refine YD (z := ?_) | refine YE (z := ?_))
  refine bds (cs := insRow ⟨5, 1, 2, 0, 0⟩) rfl rfl rfl rfl ?_
  refine cle rfl rfl (text_ok ⟨5, 1, 2, 0, 0⟩ _ hT hN ⟨⟨by decide, by decide⟩, ⟨by decide, by decide⟩, ⟨by decide, by decide⟩, ⟨by decide, by decide⟩⟩) ?_
  rw [known_text]
  repeat (first | refine nl ?_ | refine AWP.seq ?_ | refine rg ?_ | refine AWP.skip ?_ | refine AWP.block ?_ | refine YH (z := ?_) | refine YI (z := ?_) | refine ZA (z := ?_) | refine ZB (z := ?_) | refine ZC (z := ?_) | refine ZD (z := ?_) | refine ZE (z := ?_) | refine ZF (z := ?_) | refine ZJ (z := ?_) | refine ZK (z := ?_) | refine ZM (z := ?_) | refine ZH (z := ?_) | refine ZO (z := ?_) | refine ZQ (z := ?_) | refine ZR (z := ?_) | refine ZT (z := ?_) | refine ZU (z := ?_) | refine YA (z := ?_) | refine ZG (z := ?_) | refine ZI (z := ?_) | refine YC (z := ?_) | refine YD (z := ?_) | refine YE (z := ?_))
  exact AWP.ret (rets rfl (.refl _) (.refl _) ⟨rfl, rfl⟩)
end Go.Proofs
/- The walks of IsaWords and IsaBack. No conditions: lemmas only. -/
namespace Go.Proofs
open Go.AM
attribute [local irreducible] AWP AOps ACalls
set_option linter.unusedSimpArgs false

def efSh : List Sh := [.kI .i64, .kI .i64, .kI .i64, .kI .i64, .kI .i64, .kI .i64, .kI .i64, .kI .i64, .kI .i64, .kI .i64, .kI .i64, .kI .i64, .kI .i64, .kI .i64, .kI .i64, .kI .i64, .kI .i64, .kB, .kI .i64, .kI .i64, .kB, .kI .i64]
def rSh : List Sh := [.kI .i64, .kI .i64, .kI .i64, .kI .i64, .kI .i64, .kI .i64, .kI .i64, .kI .i64, .kI .i64, .kI .i64, .kI .i64, .kI .i64, .kI .i64, .kI .i64, .kI .i64, .kI .i64]
instance insFlat : FlatT Tryd.prog 23 [.kI .i64, .kI .i64, .kI .i64, .kI .i64, .kI .i64] := ⟨by kernel_rfl, by kernel_rfl, by kernel_rfl⟩
instance efFlat : FlatT Tryd.prog 40 efSh := ⟨by kernel_rfl, by kernel_rfl, by kernel_rfl⟩
instance rFlat : FlatT Tryd.prog 33 rSh := ⟨by kernel_rfl, by kernel_rfl, by kernel_rfl⟩
theorem fits_ef {x : Ef} (h : x.cpu.r.length = 16) : fits efSh (efRow x) = true := by
  obtain ⟨⟨r, pc⟩, s, a, w, p, n⟩ := x
  match r, h with
  | [_, _, _, _, _, _, _, _, _, _, _, _, _, _, _, _], _ => rfl
theorem fits_r {r : List Int} (h : r.length = 16) : fits rSh (r.map iv) = true := by
  match r, h with
  | [_, _, _, _, _, _, _, _, _, _, _, _, _, _, _, _], _ => rfl
theorem insEq (i : Ins) : cellsEq (insRow i) (insRow i) = true := cellsEq_self (ss := [.kI .i64, .kI .i64, .kI .i64, .kI .i64, .kI .i64]) rfl
def Ins.w (i : Ins) : Prop := w64 i.op ∧ w64 i.a ∧ w64 i.b ∧ w64 i.c ∧ w64 i.imm
theorem dec_w {w : Int} (hw : w64 w) : w64 (dec w).1.a ∧ w64 (dec w).1.b ∧ w64 (dec w).1.c ∧ w64 (dec w).1.imm := by
  by_cases h : decOk (split w) = true
  · rw [show dec w = (split w, 0) from if_pos h]
    simp only [split]
    unfold w64 at *
    omega
  · rw [show dec w = (zIns, 4) from if_neg h]
    exact ⟨w0, w0, w0, w0⟩
set_option maxHeartbeats 2000000 in
theorem IsaWords_ok (i : Ins) (hi : i.w) (w : Int) (hw : w64 w) (st : St) (hT : (1, powRow) ∈ st.glob) (hN : st.row 0 = some nameRow) :
    ACalls Tryd.prog 3 [.agg (insRow i), .int .i64 w] st (fun v _ => v = .bool true) (fun _ _ => False) := by
  refine ACalls.ofBody Tryd.func3 rfl Tryd.ntmps3 rfl ?_
  obtain ⟨wo, wa, wb, wc, wi⟩ := hi
  have hd := dec_w hw
  repeat (first | refine nl ?_ | refine AWP.seq ?_ | refine AWP.skip ?_ | refine AWP.block ?_)
  refine rg ?_
  refine bxe (sz := 5) rfl rfl rfl rfl ?_
  repeat (first | refine nl ?_ | refine AWP.seq ?_ | refine rg ?_ | refine AWP.skip ?_ | refine AWP.block ?_ | refine YH (z := ?_) | refine YI (z := ?_) | refine ZA (z := ?_) | refine ZB (z := ?_) | refine ZC (z := ?_) | refine ZD (z := ?_) | refine ZE (z := ?_) | refine ZF (z := ?_) | refine ZJ (z := ?_) | refine ZK (z := ?_) | refine ZM (z := ?_) | refine ZH (z := ?_) | refine ZO (z := ?_) | refine ZQ (z := ?_) | refine ZR (z := ?_) | refine ZT (z := ?_) | refine ZU (z := ?_) | refine YA (z := ?_) | refine ZG (z := ?_) | refine ZI (z := ?_) | refine YC (z := ?_) | refine YD (z := ?_) | refine YE (z := ?_))
  refine cle rfl rfl (rdecode_ok w hw _) ?_
  repeat (first | refine nl ?_ | refine AWP.seq ?_ | refine rg ?_ | refine AWP.skip ?_ | refine AWP.block ?_ | refine YH (z := ?_) | refine YI (z := ?_) | refine ZA (z := ?_) | refine ZB (z := ?_) | refine ZC (z := ?_) | refine ZD (z := ?_) | refine ZE (z := ?_) | refine ZF (z := ?_) | refine ZJ (z := ?_) | refine ZK (z := ?_) | refine ZM (z := ?_) | refine ZH (z := ?_) | refine ZO (z := ?_) | refine ZQ (z := ?_) | refine ZR (z := ?_) | refine ZT (z := ?_) | refine ZU (z := ?_) | refine YA (z := ?_) | refine ZG (z := ?_) | refine ZI (z := ?_) | refine YC (z := ?_) | refine YD (z := ?_) | refine YE (z := ?_))
  have gT : ∀ s : St, StLe s st.notok → (1, powRow) ∈ s.glob := fun s h => by rw [show s.glob = st.glob from h.glob.symm]; exact hT
  have gN : ∀ s : St, StLe s st.notok → s.row 0 = some nameRow := fun s h => by unfold St.row at *; rw [show s.glob = st.glob from h.glob.symm]; exact hN
  refine AWP.draw rfl 36 36 (fun _ _ => False) rfl ?_
  repeat (first | refine dq (v := .bool true) rfl rfl rfl (fun st1 hle => sm rfl (nl ⟨_, rfl, congrArg AV.bool (by (fail_if_success rfl); first | assumption | exact decide_eq_true (by assumption) | exact decide_eq_false (by assumption) | exact decide_eq_true rfl | exact decide_eq_true (by omega) | exact decide_eq_false (by omega)), rfl⟩)) ?_ | refine dq (v := .bool true) rfl rfl rfl (fun st1 hle => eqA rfl rfl rfl rfl rfl (nl ⟨_, rfl, congrArg AV.bool (cellsEq_self rfl), rfl⟩)) ?_ | refine ds rfl rfl ?_ | refine dp (h := fun _ _ => ZD (z := nz)) (z := ?_) | refine dp (h := fun _ _ => ZE (z := nz)) (z := ?_) | refine dp (h := fun _ _ => ZF (z := nz)) (z := ?_) | refine dp (h := fun _ _ => ZC (z := nz)) (z := ?_) | refine dp (h := fun _ _ => ZJ (z := nz)) (z := ?_) | refine dp (h := fun _ _ => ZK (z := nz)) (z := ?_) | refine dp (h := fun _ _ => ZM (z := nz)) (z := ?_) | refine dp (h := fun _ _ => ZH (z := nz)) (z := ?_) | refine dp (h := fun _ _ => ZQ (z := nz)) (z := ?_) | refine dp (h := fun _ _ => ZO (z := nz)) (z := ?_) | refine dp (h := fun _ _ => ZG (z := nz)) (z := ?_) | refine dp (h := fun _ _ => ZI (z := nz)) (z := ?_) | refine dp (h := fun _ _ => YC (z := nz)) (z := ?_) | refine dp (h := fun _ _ => YJ (z := nz)) (z := ?_) | refine dp (h := fun _ _ => YK (z := nz)) (z := ?_) | refine dp (h := fun _ _ => YL (z := nz)) (z := ?_) | refine dp (h := fun _ _ => YM (z := nz)) (z := ?_))
  refine dq (v := .bool true) rfl rfl rfl (fun st1 hle => eqA rfl rfl rfl rfl rfl (nl ⟨_, rfl, congrArg AV.bool (insEq _), rfl⟩)) ?_
  repeat (first | refine dq (v := .bool true) rfl rfl rfl (fun st1 hle => sm rfl (nl ⟨_, rfl, congrArg AV.bool (by (fail_if_success rfl); first | assumption | exact decide_eq_true (by assumption) | exact decide_eq_false (by assumption) | exact decide_eq_true rfl | exact decide_eq_true (by omega) | exact decide_eq_false (by omega)), rfl⟩)) ?_ | refine dq (v := .bool true) rfl rfl rfl (fun st1 hle => eqA rfl rfl rfl rfl rfl (nl ⟨_, rfl, congrArg AV.bool (cellsEq_self rfl), rfl⟩)) ?_ | refine ds rfl rfl ?_ | refine dp (h := fun _ _ => ZD (z := nz)) (z := ?_) | refine dp (h := fun _ _ => ZE (z := nz)) (z := ?_) | refine dp (h := fun _ _ => ZF (z := nz)) (z := ?_) | refine dp (h := fun _ _ => ZC (z := nz)) (z := ?_) | refine dp (h := fun _ _ => ZJ (z := nz)) (z := ?_) | refine dp (h := fun _ _ => ZK (z := nz)) (z := ?_) | refine dp (h := fun _ _ => ZM (z := nz)) (z := ?_) | refine dp (h := fun _ _ => ZH (z := nz)) (z := ?_) | refine dp (h := fun _ _ => ZQ (z := nz)) (z := ?_) | refine dp (h := fun _ _ => ZO (z := nz)) (z := ?_) | refine dp (h := fun _ _ => ZG (z := nz)) (z := ?_) | refine dp (h := fun _ _ => ZI (z := nz)) (z := ?_) | refine dp (h := fun _ _ => YC (z := nz)) (z := ?_) | refine dp (h := fun _ _ => YJ (z := nz)) (z := ?_) | refine dp (h := fun _ _ => YK (z := nz)) (z := ?_) | refine dp (h := fun _ _ => YL (z := nz)) (z := ?_) | refine dp (h := fun _ _ => YM (z := nz)) (z := ?_))
  refine dq rfl rfl rfl (fun st1 hle => cle rfl rfl (text_ok i _ (gT _ hle) (gN _ hle) ⟨wa, wb, wc, wi⟩) (nl ⟨_, rfl, rfl, rfl⟩)) ?_
  repeat (first | refine dq (v := .bool true) rfl rfl rfl (fun st1 hle => sm rfl (nl ⟨_, rfl, congrArg AV.bool (by (fail_if_success rfl); first | assumption | exact decide_eq_true (by assumption) | exact decide_eq_false (by assumption) | exact decide_eq_true rfl | exact decide_eq_true (by omega) | exact decide_eq_false (by omega)), rfl⟩)) ?_ | refine dq (v := .bool true) rfl rfl rfl (fun st1 hle => eqA rfl rfl rfl rfl rfl (nl ⟨_, rfl, congrArg AV.bool (cellsEq_self rfl), rfl⟩)) ?_ | refine ds rfl rfl ?_ | refine dp (h := fun _ _ => ZD (z := nz)) (z := ?_) | refine dp (h := fun _ _ => ZE (z := nz)) (z := ?_) | refine dp (h := fun _ _ => ZF (z := nz)) (z := ?_) | refine dp (h := fun _ _ => ZC (z := nz)) (z := ?_) | refine dp (h := fun _ _ => ZJ (z := nz)) (z := ?_) | refine dp (h := fun _ _ => ZK (z := nz)) (z := ?_) | refine dp (h := fun _ _ => ZM (z := nz)) (z := ?_) | refine dp (h := fun _ _ => ZH (z := nz)) (z := ?_) | refine dp (h := fun _ _ => ZQ (z := nz)) (z := ?_) | refine dp (h := fun _ _ => ZO (z := nz)) (z := ?_) | refine dp (h := fun _ _ => ZG (z := nz)) (z := ?_) | refine dp (h := fun _ _ => ZI (z := nz)) (z := ?_) | refine dp (h := fun _ _ => YC (z := nz)) (z := ?_) | refine dp (h := fun _ _ => YJ (z := nz)) (z := ?_) | refine dp (h := fun _ _ => YK (z := nz)) (z := ?_) | refine dp (h := fun _ _ => YL (z := nz)) (z := ?_) | refine dp (h := fun _ _ => YM (z := nz)) (z := ?_))
  refine dq rfl rfl rfl (fun st1 hle => cle rfl rfl (rtext_ok i _ ⟨wa, wb, wc, wi⟩) (nl ⟨_, rfl, rfl, rfl⟩)) ?_
  repeat (first | refine dq (v := .bool true) rfl rfl rfl (fun st1 hle => sm rfl (nl ⟨_, rfl, congrArg AV.bool (by (fail_if_success rfl); first | assumption | exact decide_eq_true (by assumption) | exact decide_eq_false (by assumption) | exact decide_eq_true rfl | exact decide_eq_true (by omega) | exact decide_eq_false (by omega)), rfl⟩)) ?_ | refine dq (v := .bool true) rfl rfl rfl (fun st1 hle => eqA rfl rfl rfl rfl rfl (nl ⟨_, rfl, congrArg AV.bool (cellsEq_self rfl), rfl⟩)) ?_ | refine ds rfl rfl ?_ | refine dp (h := fun _ _ => ZD (z := nz)) (z := ?_) | refine dp (h := fun _ _ => ZE (z := nz)) (z := ?_) | refine dp (h := fun _ _ => ZF (z := nz)) (z := ?_) | refine dp (h := fun _ _ => ZC (z := nz)) (z := ?_) | refine dp (h := fun _ _ => ZJ (z := nz)) (z := ?_) | refine dp (h := fun _ _ => ZK (z := nz)) (z := ?_) | refine dp (h := fun _ _ => ZM (z := nz)) (z := ?_) | refine dp (h := fun _ _ => ZH (z := nz)) (z := ?_) | refine dp (h := fun _ _ => ZQ (z := nz)) (z := ?_) | refine dp (h := fun _ _ => ZO (z := nz)) (z := ?_) | refine dp (h := fun _ _ => ZG (z := nz)) (z := ?_) | refine dp (h := fun _ _ => ZI (z := nz)) (z := ?_) | refine dp (h := fun _ _ => YC (z := nz)) (z := ?_) | refine dp (h := fun _ _ => YJ (z := nz)) (z := ?_) | refine dp (h := fun _ _ => YK (z := nz)) (z := ?_) | refine dp (h := fun _ _ => YL (z := nz)) (z := ?_) | refine dp (h := fun _ _ => YM (z := nz)) (z := ?_))
  refine dq rfl rfl rfl (fun st1 hle => cle rfl rfl (text_ok _ _ (gT _ hle) (gN _ hle) hd) (nl ⟨_, rfl, rfl, rfl⟩)) ?_
  repeat (first | refine dq (v := .bool true) rfl rfl rfl (fun st1 hle => sm rfl (nl ⟨_, rfl, congrArg AV.bool (by (fail_if_success rfl); first | assumption | exact decide_eq_true (by assumption) | exact decide_eq_false (by assumption) | exact decide_eq_true rfl | exact decide_eq_true (by omega) | exact decide_eq_false (by omega)), rfl⟩)) ?_ | refine dq (v := .bool true) rfl rfl rfl (fun st1 hle => eqA rfl rfl rfl rfl rfl (nl ⟨_, rfl, congrArg AV.bool (cellsEq_self rfl), rfl⟩)) ?_ | refine ds rfl rfl ?_ | refine dp (h := fun _ _ => ZD (z := nz)) (z := ?_) | refine dp (h := fun _ _ => ZE (z := nz)) (z := ?_) | refine dp (h := fun _ _ => ZF (z := nz)) (z := ?_) | refine dp (h := fun _ _ => ZC (z := nz)) (z := ?_) | refine dp (h := fun _ _ => ZJ (z := nz)) (z := ?_) | refine dp (h := fun _ _ => ZK (z := nz)) (z := ?_) | refine dp (h := fun _ _ => ZM (z := nz)) (z := ?_) | refine dp (h := fun _ _ => ZH (z := nz)) (z := ?_) | refine dp (h := fun _ _ => ZQ (z := nz)) (z := ?_) | refine dp (h := fun _ _ => ZO (z := nz)) (z := ?_) | refine dp (h := fun _ _ => ZG (z := nz)) (z := ?_) | refine dp (h := fun _ _ => ZI (z := nz)) (z := ?_) | refine dp (h := fun _ _ => YC (z := nz)) (z := ?_) | refine dp (h := fun _ _ => YJ (z := nz)) (z := ?_) | refine dp (h := fun _ _ => YK (z := nz)) (z := ?_) | refine dp (h := fun _ _ => YL (z := nz)) (z := ?_) | refine dp (h := fun _ _ => YM (z := nz)) (z := ?_))
  refine dq rfl rfl rfl (fun st1 hle => cle rfl rfl (rtext_ok _ _ hd) (nl ⟨_, rfl, rfl, rfl⟩)) ?_
  repeat (first | refine dq (v := .bool true) rfl rfl rfl (fun st1 hle => sm rfl (nl ⟨_, rfl, congrArg AV.bool (by (fail_if_success rfl); first | assumption | exact decide_eq_true (by assumption) | exact decide_eq_false (by assumption) | exact decide_eq_true rfl | exact decide_eq_true (by omega) | exact decide_eq_false (by omega)), rfl⟩)) ?_ | refine dq (v := .bool true) rfl rfl rfl (fun st1 hle => eqA rfl rfl rfl rfl rfl (nl ⟨_, rfl, congrArg AV.bool (cellsEq_self rfl), rfl⟩)) ?_ | refine ds rfl rfl ?_ | refine dp (h := fun _ _ => ZD (z := nz)) (z := ?_) | refine dp (h := fun _ _ => ZE (z := nz)) (z := ?_) | refine dp (h := fun _ _ => ZF (z := nz)) (z := ?_) | refine dp (h := fun _ _ => ZC (z := nz)) (z := ?_) | refine dp (h := fun _ _ => ZJ (z := nz)) (z := ?_) | refine dp (h := fun _ _ => ZK (z := nz)) (z := ?_) | refine dp (h := fun _ _ => ZM (z := nz)) (z := ?_) | refine dp (h := fun _ _ => ZH (z := nz)) (z := ?_) | refine dp (h := fun _ _ => ZQ (z := nz)) (z := ?_) | refine dp (h := fun _ _ => ZO (z := nz)) (z := ?_) | refine dp (h := fun _ _ => ZG (z := nz)) (z := ?_) | refine dp (h := fun _ _ => ZI (z := nz)) (z := ?_) | refine dp (h := fun _ _ => YC (z := nz)) (z := ?_) | refine dp (h := fun _ _ => YJ (z := nz)) (z := ?_) | refine dp (h := fun _ _ => YK (z := nz)) (z := ?_) | refine dp (h := fun _ _ => YL (z := nz)) (z := ?_) | refine dp (h := fun _ _ => YM (z := nz)) (z := ?_))
  refine dq rfl rfl rfl (fun st1 hle => cle rfl rfl (known_ok _ (gT _ hle) (gN _ hle)) (nl ⟨_, rfl, rfl, rfl⟩)) ?_
  repeat (first | refine dq (v := .bool true) rfl rfl rfl (fun st1 hle => sm rfl (nl ⟨_, rfl, congrArg AV.bool (by (fail_if_success rfl); first | assumption | exact decide_eq_true (by assumption) | exact decide_eq_false (by assumption) | exact decide_eq_true rfl | exact decide_eq_true (by omega) | exact decide_eq_false (by omega)), rfl⟩)) ?_ | refine dq (v := .bool true) rfl rfl rfl (fun st1 hle => eqA rfl rfl rfl rfl rfl (nl ⟨_, rfl, congrArg AV.bool (cellsEq_self rfl), rfl⟩)) ?_ | refine ds rfl rfl ?_ | refine dp (h := fun _ _ => ZD (z := nz)) (z := ?_) | refine dp (h := fun _ _ => ZE (z := nz)) (z := ?_) | refine dp (h := fun _ _ => ZF (z := nz)) (z := ?_) | refine dp (h := fun _ _ => ZC (z := nz)) (z := ?_) | refine dp (h := fun _ _ => ZJ (z := nz)) (z := ?_) | refine dp (h := fun _ _ => ZK (z := nz)) (z := ?_) | refine dp (h := fun _ _ => ZM (z := nz)) (z := ?_) | refine dp (h := fun _ _ => ZH (z := nz)) (z := ?_) | refine dp (h := fun _ _ => ZQ (z := nz)) (z := ?_) | refine dp (h := fun _ _ => ZO (z := nz)) (z := ?_) | refine dp (h := fun _ _ => ZG (z := nz)) (z := ?_) | refine dp (h := fun _ _ => ZI (z := nz)) (z := ?_) | refine dp (h := fun _ _ => YC (z := nz)) (z := ?_) | refine dp (h := fun _ _ => YJ (z := nz)) (z := ?_) | refine dp (h := fun _ _ => YK (z := nz)) (z := ?_) | refine dp (h := fun _ _ => YL (z := nz)) (z := ?_) | refine dp (h := fun _ _ => YM (z := nz)) (z := ?_))
  refine dn ⟨fun _ => ?_, fun h => absurd h (by decide)⟩
  repeat (first | refine nl ?_ | refine AWP.seq ?_ | refine rg ?_ | refine AWP.skip ?_ | refine AWP.block ?_ | refine YH (z := ?_) | refine YI (z := ?_) | refine ZA (z := ?_) | refine ZB (z := ?_) | refine ZC (z := ?_) | refine ZD (z := ?_) | refine ZE (z := ?_) | refine ZF (z := ?_) | refine ZJ (z := ?_) | refine ZK (z := ?_) | refine ZM (z := ?_) | refine ZH (z := ?_) | refine ZO (z := ?_) | refine ZQ (z := ?_) | refine ZR (z := ?_) | refine ZT (z := ?_) | refine ZU (z := ?_) | refine YA (z := ?_) | refine ZG (z := ?_) | refine ZI (z := ?_) | refine YC (z := ?_) | refine YD (z := ?_) | refine YE (z := ?_))
  exact AWP.ret (rets rfl (.refl _) (.refl _) rfl)
end Go.Proofs
/- The laws' arguments, opened. No conditions: lemmas only. -/
namespace Go.Proofs
open Go.AM
theorem wf64 {x : Int} (h : (Lit.int .i64 x).wf = true) : w64 x := by
  simp only [Lit.wf, Bool.and_eq_true, decide_eq_true_eq] at h
  have h1 : (-9223372036854775808 : Int) ≤ x := h.1
  have h2 : x ≤ (9223372036854775807 : Int) := h.2
  unfold w64
  omega
theorem arg_ins {a : AV} (h : ArgTy Tryd.prog 23 a) : ∃ i : Ins, a = .agg (insRow i) ∧ i.w := by
  obtain ⟨cs, rfl, hf⟩ := arg_flat (d := 10) (sh := List.replicate 5 (.kI .i64)) Tryd.underlying23 rfl (by kernel_rfl) (by kernel_rfl) h
  obtain ⟨l, rfl, hl, hw⟩ := fits_ints 5 hf
  match l, hl with
  | [o, a, b, c, m], _ => exact ⟨⟨o, a, b, c, m⟩, rfl, wf64 (hw o (by simp)), wf64 (hw a (by simp)), wf64 (hw b (by simp)), wf64 (hw c (by simp)), wf64 (hw m (by simp))⟩
theorem arg_cpu {a : AV} (h : ArgTy Tryd.prog 35 a) : ∃ c : Cp, a = .agg (cpRow c) ∧ c.good := by
  obtain ⟨cs, rfl, hf⟩ := arg_flat (d := 10) (sh := List.replicate 17 (.kI .i64)) Tryd.underlying35 rfl (by kernel_rfl) (by kernel_rfl) h
  obtain ⟨l, rfl, hl, hw⟩ := fits_ints 17 hf
  obtain ⟨p, hp⟩ : ∃ p, l[16]? = some p := ⟨l[16], List.getElem?_eq_getElem (by omega)⟩
  have e : l = l.take 16 ++ [p] := by
    have h1 : l.take 17 = l := List.take_of_length_le (by omega)
    rw [List.take_add_one, hp] at h1
    exact h1.symm
  refine ⟨⟨l.take 16, p⟩, ?_, by simp [hl], fun x hx => wf64 (hw x (List.mem_of_mem_take hx)), wf64 (hw p (List.mem_of_getElem? hp))⟩
  conv => lhs; rw [e]
  rw [List.map_append]
  rfl
end Go.Proofs
/- What the laws of this seat share: the laid tables, the arguments' kinds. No conditions: lemmas only. -/
namespace Go.Proofs.YtmbjedojknmgcaaDoor
open Go.ChangeShapes Go.WideShapes Go.ChangeAt Go.RowKit Go.AM

theorem own : ownKnob Tryd.prog.godebug = none := by kernel_rfl
theorem laidOut : laidOutB Tryd.prog = true := by kernel_rfl
def laidAll : List (String × DataW Unit) := [("math/bits.deBruijn32tab", Rows.laid_math_bits_deBruijn32tab), ("math/bits.deBruijn64tab", Rows.laid_math_bits_deBruijn64tab), ("internal/strconv.uint64pow10", Rows.laid_internal_strconv_uint64pow10), ("debugger/isa.names", Rows.laid_debugger_isa_names)]

theorem kinds : ∀ t ∈ [3, 9, 44, 23, 36, 33, 35, 59, 75, 81], Go.AM.kindOk Tryd.prog [3, 9, 44, 23, 36, 33, 35, 59, 75, 81] t = true := by
  intro t ht
  simp only [List.mem_cons, List.not_mem_nil, or_false] at ht
  rcases ht with rfl | rfl | rfl | rfl | rfl | rfl | rfl | rfl | rfl | rfl <;> kernel_rfl
theorem pow_row : litRow (Rows.laid_internal_strconv_uint64pow10 : DataW Unit) = some powRow := by kernel_rfl
theorem tables {W : World} (h : laidMetH Tryd.prog laidAll W) : ∀ gi row, (gi, row) ∈ [(0, nameRow), (1, powRow)] → GlobAt (G0 W) W gi row := by
  have h' : laidMet Tryd.prog laidAll W := h
  intro gi row hm
  simp only [List.mem_cons, List.not_mem_nil, or_false] at hm
  rcases hm with hm | hm
  · cases hm
    exact laid_row kinds h' (n := "debugger/isa.names") (t := 59) (.tail _ (.tail _ (.tail _ (.head _)))) rfl (by kernel_rfl) (by kernel_rfl) (by decide) (by decide)
  · cases hm
    exact laid_row kinds h' (n := "internal/strconv.uint64pow10") (t := 81) (.tail _ (.tail _ (.head _))) pow_row (by kernel_rfl) (by kernel_rfl) (by decide) (by decide)
theorem hT : ((1, powRow) : Nat × List AV) ∈ [(0, nameRow), (1, powRow)] := .tail _ (.head _)
end Go.Proofs.YtmbjedojknmgcaaDoor
/- The walk of IsaExecutes. No conditions: lemmas only. -/
namespace Go.Proofs
open Go.AM
attribute [local irreducible] AWP AOps ACalls
set_option linter.unusedSimpArgs false

set_option maxHeartbeats 4000000 in
theorem IsaExecutes_ok (c : Cp) (hc : c.good) (i : Ins) (hi : i.w) (l : Int) (_ : w64 l) (st : St) (hT : (1, powRow) ∈ st.glob) (hN : st.row 0 = some nameRow) :
    ACalls Tryd.prog 5 [.agg (cpRow c), .agg (insRow i), .int .i64 l] st (fun v _ => v = .bool true) (fun _ _ => False) := by
  refine ACalls.ofBody Tryd.func5 rfl Tryd.ntmps5 rfl ?_
  have hcl := cp_len hc.len
  have hw : ∀ n, (hn : n < 2) → ∃ x : Ins, [insRow i, insRow (near i)][n]? = some (insRow x) ∧ w64 x.imm := fun n hn => match n, hn with
    | 0, _ => ⟨i, rfl, hi.2.2.2.2⟩
    | 1, _ => ⟨near i, rfl, by simp only [near]; unfold w64; omega⟩
  repeat (first | refine nl ?_ | refine AWP.seq ?_ | refine AWP.skip ?_ | refine AWP.block ?_)
  refine rg ?_
  refine bxe (sz := 17) rfl rfl rfl hcl ?_
  refine bxe (sz := 5) rfl rfl rfl rfl ?_
  repeat (first | refine nl ?_ | refine AWP.seq ?_ | refine rg ?_ | refine AWP.skip ?_ | refine AWP.block ?_ | refine YH (z := ?_) | refine YI (z := ?_) | refine ZA (z := ?_) | refine ZB (z := ?_) | refine ZC (z := ?_) | refine ZD (z := ?_) | refine ZE (z := ?_) | refine ZF (z := ?_) | refine ZJ (z := ?_) | refine ZK (z := ?_) | refine ZM (z := ?_) | refine ZH (z := ?_) | refine ZO (z := ?_) | refine ZQ (z := ?_) | refine ZR (z := ?_) | refine ZT (z := ?_) | refine ZU (z := ?_) | refine YA (z := ?_) | refine ZG (z := ?_) | refine ZI (z := ?_) | refine YC (z := ?_) | refine YD (z := ?_) | refine YE (z := ?_))
  refine AWP.draw rfl 6 6 (fun _ _ => False) rfl ?_
  repeat (first | refine ds rfl rfl ?_ | refine dp (h := fun _ _ => ZD (z := nz)) (z := ?_) | refine dp (h := fun _ _ => ZE (z := nz)) (z := ?_) | refine dp (h := fun _ _ => ZF (z := nz)) (z := ?_) | refine dp (h := fun _ _ => ZC (z := nz)) (z := ?_) | refine dp (h := fun _ _ => ZJ (z := nz)) (z := ?_) | refine dp (h := fun _ _ => ZK (z := nz)) (z := ?_) | refine dp (h := fun _ _ => ZM (z := nz)) (z := ?_) | refine dp (h := fun _ _ => ZH (z := nz)) (z := ?_) | refine dp (h := fun _ _ => ZQ (z := nz)) (z := ?_) | refine dp (h := fun _ _ => ZO (z := nz)) (z := ?_) | refine dp (h := fun _ _ => ZG (z := nz)) (z := ?_) | refine dp (h := fun _ _ => ZI (z := nz)) (z := ?_) | refine dp (h := fun _ _ => YC (z := nz)) (z := ?_) | refine dp (h := fun _ _ => YJ (z := nz)) (z := ?_) | refine dp (h := fun _ _ => YK (z := nz)) (z := ?_) | refine dp (h := fun _ _ => YL (z := nz)) (z := ?_) | refine dp (h := fun _ _ => YM (z := nz)) (z := ?_))
  refine dq rfl rfl rfl (fun st1 hle => bsh (cs := insRow i ++ insRow (near i)) rfl rfl rfl rfl rfl (nl ⟨_, rfl, rfl, rfl⟩)) ?_
  repeat (first | refine ds rfl rfl ?_ | refine dp (h := fun _ _ => ZD (z := nz)) (z := ?_) | refine dp (h := fun _ _ => ZE (z := nz)) (z := ?_) | refine dp (h := fun _ _ => ZF (z := nz)) (z := ?_) | refine dp (h := fun _ _ => ZC (z := nz)) (z := ?_) | refine dp (h := fun _ _ => ZJ (z := nz)) (z := ?_) | refine dp (h := fun _ _ => ZK (z := nz)) (z := ?_) | refine dp (h := fun _ _ => ZM (z := nz)) (z := ?_) | refine dp (h := fun _ _ => ZH (z := nz)) (z := ?_) | refine dp (h := fun _ _ => ZQ (z := nz)) (z := ?_) | refine dp (h := fun _ _ => ZO (z := nz)) (z := ?_) | refine dp (h := fun _ _ => ZG (z := nz)) (z := ?_) | refine dp (h := fun _ _ => ZI (z := nz)) (z := ?_) | refine dp (h := fun _ _ => YC (z := nz)) (z := ?_) | refine dp (h := fun _ _ => YJ (z := nz)) (z := ?_) | refine dp (h := fun _ _ => YK (z := nz)) (z := ?_) | refine dp (h := fun _ _ => YL (z := nz)) (z := ?_) | refine dp (h := fun _ _ => YM (z := nz)) (z := ?_))
  refine dn ⟨fun _ => ?_, fun h => absurd h (by decide)⟩
  refine nl ?_
  repeat (first | refine nl ?_ | refine AWP.seq ?_ | refine AWP.skip ?_ | refine AWP.block ?_)
  refine AWP.weaken (T' := [(22, .int .i64 ((0 : Nat) : Int)), (21, .int .i64 2), (20, .view 5 [insRow i, insRow (near i)] .shared), (4, .eptr 5 [insRow i] 0 0), (3, .eptr 17 [cpRow c] 0 0), (2, .int .i64 l)]) (tl6 rfl rfl rfl rfl rfl rfl) (.refl _) ?_
  repeat (first | refine nl ?_ | refine AWP.seq ?_ | refine AWP.skip ?_ | refine AWP.block ?_)
  refine AWP.loop (α := Nat) (fun n => [(22, .int .i64 (n : Int)), (21, .int .i64 2), (20, .view 5 [insRow i, insRow (near i)] .shared), (4, .eptr 5 [insRow i] 0 0), (3, .eptr 17 [cpRow c] 0 0), (2, .int .i64 l)]) (fun _ => st) (fun n => n ≤ 2) (fun n => 2 - n) 0 (Nat.zero_le _) (tl6 rfl rfl rfl rfl rfl rfl) (.refl _) ?_
  intro n hn
  repeat (first | refine nl ?_ | refine AWP.seq ?_ | refine rg ?_ | refine AWP.skip ?_ | refine AWP.block ?_ | refine YH (z := ?_) | refine YI (z := ?_) | refine ZA (z := ?_) | refine ZB (z := ?_) | refine ZC (z := ?_) | refine ZD (z := ?_) | refine ZE (z := ?_) | refine ZF (z := ?_) | refine ZJ (z := ?_) | refine ZK (z := ?_) | refine ZM (z := ?_) | refine ZH (z := ?_) | refine ZO (z := ?_) | refine ZQ (z := ?_) | refine ZR (z := ?_) | refine ZT (z := ?_) | refine ZU (z := ?_) | refine YA (z := ?_) | refine ZG (z := ?_) | refine ZI (z := ?_) | refine YC (z := ?_) | refine YD (z := ?_) | refine YE (z := ?_))
  refine AWP.cond_dec rfl (fun h => AWP.skip ?_) (fun h => AWP.exit (blk_hit ?_))
  · have hn2 : n < 2 := by have h0 : (n : Int) < 2 := h; omega
    obtain ⟨x, gx, wx⟩ := hw n hn2
    have hle := exec_len hc.len x l
    have hb : (!((reads c x).2 == (reads c x).2)) = false := by simp
    have hq : (!cellsEq (efRow (exec c x l).1) (efRow (exec c x l).1)) = false := by rw [cellsEq_self (fits_ef hle)]; rfl
    have hz : (decide ((exec c x l).2 ≠ (exec c x l).2)) = false := by simp
    repeat (first | refine nl ?_ | refine AWP.seq ?_ | refine rg ?_ | refine AWP.skip ?_ | refine AWP.block ?_ | refine YH (z := ?_) | refine YI (z := ?_) | refine ZA (z := ?_) | refine ZB (z := ?_) | refine ZC (z := ?_) | refine ZD (z := ?_) | refine ZE (z := ?_) | refine ZF (z := ?_) | refine ZJ (z := ?_) | refine ZK (z := ?_) | refine ZM (z := ?_) | refine ZH (z := ?_) | refine ZO (z := ?_) | refine ZQ (z := ?_) | refine ZR (z := ?_) | refine ZT (z := ?_) | refine ZU (z := ?_) | refine YA (z := ?_) | refine ZG (z := ?_) | refine ZI (z := ?_) | refine YC (z := ?_) | refine YD (z := ?_) | refine YE (z := ?_))
    refine leW rfl rfl rfl rfl (by rw [hcl]; rfl) ?_
    repeat (first | refine ZA (z := ?_) | refine ZB (z := ?_) | refine ZC (z := ?_) | refine ZD (z := ?_) | refine ZE (z := ?_) | refine ZF (z := ?_) | refine ZJ (z := ?_) | refine ZK (z := ?_) | refine ZM (z := ?_) | refine ZH (z := ?_) | refine ZO (z := ?_) | refine ZQ (z := ?_) | refine ZR (z := ?_) | refine ZT (z := ?_) | refine ZU (z := ?_) | refine YA (z := ?_) | refine ZG (z := ?_) | refine ZI (z := ?_) | refine YC (z := ?_) | refine YD (z := ?_) | refine YE (z := ?_))
    refine cle rfl rfl (reads_ok c hc.len x wx _) ?_
    repeat (first | refine nl ?_ | refine AWP.seq ?_ | refine rg ?_ | refine AWP.skip ?_ | refine AWP.block ?_ | refine YH (z := ?_) | refine YI (z := ?_) | refine ZA (z := ?_) | refine ZB (z := ?_) | refine ZC (z := ?_) | refine ZD (z := ?_) | refine ZE (z := ?_) | refine ZF (z := ?_) | refine ZJ (z := ?_) | refine ZK (z := ?_) | refine ZM (z := ?_) | refine ZH (z := ?_) | refine ZO (z := ?_) | refine ZQ (z := ?_) | refine ZR (z := ?_) | refine ZT (z := ?_) | refine ZU (z := ?_) | refine YA (z := ?_) | refine ZG (z := ?_) | refine ZI (z := ?_) | refine YC (z := ?_) | refine YD (z := ?_) | refine YE (z := ?_))
    refine leW rfl rfl rfl rfl (by rw [hcl]; rfl) ?_
    repeat (first | refine ZA (z := ?_) | refine ZB (z := ?_) | refine ZC (z := ?_) | refine ZD (z := ?_) | refine ZE (z := ?_) | refine ZF (z := ?_) | refine ZJ (z := ?_) | refine ZK (z := ?_) | refine ZM (z := ?_) | refine ZH (z := ?_) | refine ZO (z := ?_) | refine ZQ (z := ?_) | refine ZR (z := ?_) | refine ZT (z := ?_) | refine ZU (z := ?_) | refine YA (z := ?_) | refine ZG (z := ?_) | refine ZI (z := ?_) | refine YC (z := ?_) | refine YD (z := ?_) | refine YE (z := ?_))
    refine cle rfl rfl (rreads_ok c hc.len x _) ?_
    repeat (first | refine nl ?_ | refine AWP.seq ?_ | refine rg ?_ | refine AWP.skip ?_ | refine AWP.block ?_ | refine YH (z := ?_) | refine YI (z := ?_) | refine ZA (z := ?_) | refine ZB (z := ?_) | refine ZC (z := ?_) | refine ZD (z := ?_) | refine ZE (z := ?_) | refine ZF (z := ?_) | refine ZJ (z := ?_) | refine ZK (z := ?_) | refine ZM (z := ?_) | refine ZH (z := ?_) | refine ZO (z := ?_) | refine ZQ (z := ?_) | refine ZR (z := ?_) | refine ZT (z := ?_) | refine ZU (z := ?_) | refine YA (z := ?_) | refine ZG (z := ?_) | refine ZI (z := ?_) | refine YC (z := ?_) | refine YD (z := ?_) | refine YE (z := ?_))
    refine leW rfl rfl rfl rfl (by rw [hcl]; rfl) ?_
    repeat (first | refine ZA (z := ?_) | refine ZB (z := ?_) | refine ZC (z := ?_) | refine ZD (z := ?_) | refine ZE (z := ?_) | refine ZF (z := ?_) | refine ZJ (z := ?_) | refine ZK (z := ?_) | refine ZM (z := ?_) | refine ZH (z := ?_) | refine ZO (z := ?_) | refine ZQ (z := ?_) | refine ZR (z := ?_) | refine ZT (z := ?_) | refine ZU (z := ?_) | refine YA (z := ?_) | refine ZG (z := ?_) | refine ZI (z := ?_) | refine YC (z := ?_) | refine YD (z := ?_) | refine YE (z := ?_))
    refine cle rfl rfl (execute_ok c hc.len x l _) ?_
    repeat (first | refine ZA (z := ?_) | refine ZB (z := ?_) | refine ZC (z := ?_) | refine ZD (z := ?_) | refine ZE (z := ?_) | refine ZF (z := ?_) | refine ZJ (z := ?_) | refine ZK (z := ?_) | refine ZM (z := ?_) | refine ZH (z := ?_) | refine ZO (z := ?_) | refine ZQ (z := ?_) | refine ZR (z := ?_) | refine ZT (z := ?_) | refine ZU (z := ?_) | refine YA (z := ?_) | refine ZG (z := ?_) | refine ZI (z := ?_) | refine YC (z := ?_) | refine YD (z := ?_) | refine YE (z := ?_))
    refine al rfl rfl fun o13 h13 => ?_
    refine soN 13 rfl rfl rfl rfl (by rw [ef_len' hle]; rfl) (by rw [ef_len' hle]; rfl) h13 ?_
    repeat (first | refine nl ?_ | refine AWP.seq ?_ | refine rg ?_ | refine AWP.skip ?_ | refine AWP.block ?_ | refine YH (z := ?_) | refine YI (z := ?_) | refine ZA (z := ?_) | refine ZB (z := ?_) | refine ZC (z := ?_) | refine ZD (z := ?_) | refine ZE (z := ?_) | refine ZF (z := ?_) | refine ZJ (z := ?_) | refine ZK (z := ?_) | refine ZM (z := ?_) | refine ZH (z := ?_) | refine ZO (z := ?_) | refine ZQ (z := ?_) | refine ZR (z := ?_) | refine ZT (z := ?_) | refine ZU (z := ?_) | refine YA (z := ?_) | refine ZG (z := ?_) | refine ZI (z := ?_) | refine YC (z := ?_) | refine YD (z := ?_) | refine YE (z := ?_))
    refine leW rfl rfl rfl rfl (by rw [hcl]; rfl) ?_
    repeat (first | refine ZA (z := ?_) | refine ZB (z := ?_) | refine ZC (z := ?_) | refine ZD (z := ?_) | refine ZE (z := ?_) | refine ZF (z := ?_) | refine ZJ (z := ?_) | refine ZK (z := ?_) | refine ZM (z := ?_) | refine ZH (z := ?_) | refine ZO (z := ?_) | refine ZQ (z := ?_) | refine ZR (z := ?_) | refine ZT (z := ?_) | refine ZU (z := ?_) | refine YA (z := ?_) | refine ZG (z := ?_) | refine ZI (z := ?_) | refine YC (z := ?_) | refine YD (z := ?_) | refine YE (z := ?_))
    refine cle rfl rfl (rexecute_ok c hc.len x l _) ?_
    repeat (first | refine ZA (z := ?_) | refine ZB (z := ?_) | refine ZC (z := ?_) | refine ZD (z := ?_) | refine ZE (z := ?_) | refine ZF (z := ?_) | refine ZJ (z := ?_) | refine ZK (z := ?_) | refine ZM (z := ?_) | refine ZH (z := ?_) | refine ZO (z := ?_) | refine ZQ (z := ?_) | refine ZR (z := ?_) | refine ZT (z := ?_) | refine ZU (z := ?_) | refine YA (z := ?_) | refine ZG (z := ?_) | refine ZI (z := ?_) | refine YC (z := ?_) | refine YD (z := ?_) | refine YE (z := ?_))
    refine al rfl rfl fun o15 h15 => ?_
    refine soN 15 rfl rfl rfl rfl (by rw [ef_len' hle]; rfl) (by rw [ef_len' hle]; rfl) h15 ?_
    repeat (first | refine nl ?_ | refine AWP.seq ?_ | refine rg ?_ | refine AWP.skip ?_ | refine AWP.block ?_ | refine YH (z := ?_) | refine YI (z := ?_) | refine ZA (z := ?_) | refine ZB (z := ?_) | refine ZC (z := ?_) | refine ZD (z := ?_) | refine ZE (z := ?_) | refine ZF (z := ?_) | refine ZJ (z := ?_) | refine ZK (z := ?_) | refine ZM (z := ?_) | refine ZH (z := ?_) | refine ZO (z := ?_) | refine ZQ (z := ?_) | refine ZR (z := ?_) | refine ZT (z := ?_) | refine ZU (z := ?_) | refine YA (z := ?_) | refine ZG (z := ?_) | refine ZI (z := ?_) | refine YC (z := ?_) | refine YD (z := ?_) | refine YE (z := ?_))
    refine leW rfl rfl rfl rfl (by rw [ef_len' hle]; rfl) ?_
    refine leW rfl rfl rfl rfl (by rw [ef_len' hle]; rfl) ?_
    refine neA rfl rfl rfl (fits_ef hle) (fits_ef hle) ?_
    repeat (first | refine nl ?_ | refine AWP.seq ?_ | refine rg ?_ | refine AWP.skip ?_ | refine AWP.block ?_ | refine YH (z := ?_) | refine YI (z := ?_) | refine ZA (z := ?_) | refine ZB (z := ?_) | refine ZC (z := ?_) | refine ZD (z := ?_) | refine ZE (z := ?_) | refine ZF (z := ?_) | refine ZJ (z := ?_) | refine ZK (z := ?_) | refine ZM (z := ?_) | refine ZH (z := ?_) | refine ZO (z := ?_) | refine ZQ (z := ?_) | refine ZR (z := ?_) | refine ZT (z := ?_) | refine ZU (z := ?_) | refine YA (z := ?_) | refine ZG (z := ?_) | refine ZI (z := ?_) | refine YC (z := ?_) | refine YD (z := ?_) | refine YE (z := ?_))
    exact ⟨n + 1, by omega, by omega, (tl6 rfl rfl rfl rfl rfl rfl), .refl _⟩
  · repeat (first | refine nl ?_ | refine AWP.seq ?_ | refine rg ?_ | refine AWP.skip ?_ | refine AWP.block ?_ | refine YH (z := ?_) | refine YI (z := ?_) | refine ZA (z := ?_) | refine ZB (z := ?_) | refine ZC (z := ?_) | refine ZD (z := ?_) | refine ZE (z := ?_) | refine ZF (z := ?_) | refine ZJ (z := ?_) | refine ZK (z := ?_) | refine ZM (z := ?_) | refine ZH (z := ?_) | refine ZO (z := ?_) | refine ZQ (z := ?_) | refine ZR (z := ?_) | refine ZT (z := ?_) | refine ZU (z := ?_) | refine YA (z := ?_) | refine ZG (z := ?_) | refine ZI (z := ?_) | refine YC (z := ?_) | refine YD (z := ?_) | refine YE (z := ?_))
    refine cle rfl rfl (known_ok _ hT hN) ?_
    repeat (first | refine nl ?_ | refine AWP.seq ?_ | refine rg ?_ | refine AWP.skip ?_ | refine AWP.block ?_ | refine YH (z := ?_) | refine YI (z := ?_) | refine ZA (z := ?_) | refine ZB (z := ?_) | refine ZC (z := ?_) | refine ZD (z := ?_) | refine ZE (z := ?_) | refine ZF (z := ?_) | refine ZJ (z := ?_) | refine ZK (z := ?_) | refine ZM (z := ?_) | refine ZH (z := ?_) | refine ZO (z := ?_) | refine ZQ (z := ?_) | refine ZR (z := ?_) | refine ZT (z := ?_) | refine ZU (z := ?_) | refine YA (z := ?_) | refine ZG (z := ?_) | refine ZI (z := ?_) | refine YC (z := ?_) | refine YD (z := ?_) | refine YE (z := ?_))
    exact AWP.ret (rets rfl (.refl _) (.refl _) rfl)
end Go.Proofs
