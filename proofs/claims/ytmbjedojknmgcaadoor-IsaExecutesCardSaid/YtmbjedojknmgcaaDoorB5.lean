/- One step of a thread. No conditions: definitions and lemmas only. -/
import Derived.Shelf.Strconv.Itoa3
import Derived.Test.YtmbjedojknmgcaaDoorProg
import Derived.Lib.ItoaNum
import Derived.Test.YtmbjedojknmgcaaDoorB4
namespace Go.Proofs
open Go.AM
attribute [local irreducible] AWP AOps ACalls
set_option linter.unusedSimpArgs false

def ivRow (x : Int) : List AV := [iv x]
def memC (m : List Int) : AObj := .cells 3 1 (m.map ivRow)
def ins (n : Int) (len : Nat) : Bool := decide (0 ≤ n) && decide (n < (len : Int))
theorem ins_iff {n : Int} {len : Nat} : ins n len = true ↔ 0 ≤ n ∧ n < (len : Int) := by simp [ins]
def memAt (m : List Int) (n : Int) : Int := m.getD n.toNat 0
/-- The effect of the next instruction, if it can be executed. -/
def stepP (m : List Int) (c : Cp) : Option Ef :=
  if ins c.pc m.length = false then none else
  if (dec (memAt m c.pc)).2 ≠ 0 then none else
  if (reads c (dec (memAt m c.pc)).1).2 = true ∧ ins (reads c (dec (memAt m c.pc)).1).1 m.length = false then none else
  let x := exec c (dec (memAt m c.pc)).1 (if (reads c (dec (memAt m c.pc)).1).2 = true then memAt m (reads c (dec (memAt m c.pc)).1).1 else 0)
  if x.2 ≠ 0 ∨ (x.1.stores = true ∧ ins x.1.addr m.length = false) then none else some x.1
theorem mem_at {m : List Int} {n : Int} (h : ins n m.length = true) : (m.map ivRow)[0 + n.toNat]? = some [.int .i64 (memAt m n)] ∧ n = (n.toNat : Int) ∧ n.toNat < m.length := by
  have h' := ins_iff.1 h
  refine ⟨?_, by omega, by omega⟩
  rw [Nat.zero_add, List.getElem?_map, List.getElem?_eq_getElem (by omega)]
  unfold memAt
  rw [List.getD_eq_getElem?_getD, List.getElem?_eq_getElem (by omega)]
  rfl
theorem inside_ok (n : Int) (o len : Nat) (st : St) : ACalls Tryd.prog 42 [.int .i64 n, .eptr 1 [[.msl o 1 0 len]] 0 0] st (fun v st' => v = .bool (ins n len) ∧ st' = st) (fun _ _ => False) := by
    refine ACalls.ofBody Tryd.func42 rfl Tryd.ntmps42 rfl ?_
    repeat (first | refine nl ?_ | refine AWP.seq ?_ | refine rg ?_ | refine AWP.skip ?_ | refine AWP.block ?_ | refine YH (z := ?_) | refine YI (z := ?_) | refine ZA (z := ?_) | refine ZB (z := ?_) | refine ZC (z := ?_) | refine ZD (z := ?_) | refine ZE (z := ?_) | refine ZF (z := ?_) | refine ZJ (z := ?_) | refine ZK (z := ?_) | refine ZM (z := ?_) | refine ZH (z := ?_) | refine ZO (z := ?_) | refine ZQ (z := ?_) | refine ZR (z := ?_) | refine ZT (z := ?_) | refine ZU (z := ?_) | refine YA (z := ?_) | refine ZG (z := ?_) | refine ZI (z := ?_) | refine YC (z := ?_) | refine YD (z := ?_) | refine YE (z := ?_))
    refine gS rfl (fun h => ?_) (fun h => ?_)
    · repeat (first | refine nl ?_ | refine AWP.seq ?_ | refine rg ?_ | refine AWP.skip ?_ | refine AWP.block ?_ | refine YH (z := ?_) | refine YI (z := ?_) | refine ZA (z := ?_) | refine ZB (z := ?_) | refine ZC (z := ?_) | refine ZD (z := ?_) | refine ZE (z := ?_) | refine ZF (z := ?_) | refine ZJ (z := ?_) | refine ZK (z := ?_) | refine ZM (z := ?_) | refine ZH (z := ?_) | refine ZO (z := ?_) | refine ZQ (z := ?_) | refine ZR (z := ?_) | refine ZT (z := ?_) | refine ZU (z := ?_) | refine YA (z := ?_) | refine ZG (z := ?_) | refine ZI (z := ?_) | refine YC (z := ?_) | refine YD (z := ?_) | refine YE (z := ?_))
      exact AWP.ret (rets rfl (.refl _) (.refl _) ⟨by simp [packA, ins, show 0 ≤ n from h], rfl⟩)
    · repeat (first | refine nl ?_ | refine AWP.seq ?_ | refine rg ?_ | refine AWP.skip ?_ | refine AWP.block ?_ | refine YH (z := ?_) | refine YI (z := ?_) | refine ZA (z := ?_) | refine ZB (z := ?_) | refine ZC (z := ?_) | refine ZD (z := ?_) | refine ZE (z := ?_) | refine ZF (z := ?_) | refine ZJ (z := ?_) | refine ZK (z := ?_) | refine ZM (z := ?_) | refine ZH (z := ?_) | refine ZO (z := ?_) | refine ZQ (z := ?_) | refine ZR (z := ?_) | refine ZT (z := ?_) | refine ZU (z := ?_) | refine YA (z := ?_) | refine ZG (z := ?_) | refine ZI (z := ?_) | refine YC (z := ?_) | refine YD (z := ?_) | refine YE (z := ?_))
      exact AWP.ret (rets rfl (.refl _) (.refl _) ⟨by simp [packA, ins, show ¬ 0 ≤ n from h], rfl⟩)
theorem dec_imm {w : Int} (hw : w64 w) : w64 (dec w).1.imm := by
  unfold dec w64 at *
  split
  · simp only [split]; omega
  · decide
theorem ef_col (x : Ef) (h : x.cpu.r.length = 16) (k : Nat) : (efRow x)[16 + k]? = [AV.int .i64 x.cpu.pc, .bool x.stores, .int .i64 x.addr, .int .i64 x.word, .bool x.prints, .int .i64 x.print][k]? := by
  unfold efRow
  rw [List.getElem?_append_right (by simp [h])]
  simp [h]
theorem ef_cols {x : Ef} (h : x.cpu.r.length = 16) : (efRow x)[0 + 17]? = some (.bool x.stores) ∧ (efRow x)[0 + 18]? = some (.int .i64 x.addr) ∧ (efRow x)[0 + 19]? = some (.int .i64 x.word) ∧ (efRow x)[0 + 20]? = some (.bool x.prints) ∧ (efRow x)[0 + 21]? = some (.int .i64 x.print) :=
  ⟨ef_col x h 1, ef_col x h 2, ef_col x h 3, ef_col x h 4, ef_col x h 5⟩
def stepV (m : List Int) (c : Cp) : AV := match stepP m c with
  | some e => .tuple [.agg (efRow e), .bool true]
  | none => .tuple [.agg (efRow zEf), .bool false]
theorem exec_len {c : Cp} (h : c.r.length = 16) (i : Ins) (l : Int) : (exec c i l).1.cpu.r.length = 16 := by
  have P : ∀ {p : Prop} [Decidable p] {a b : Ef × Int}, a.1.cpu.r.length = 16 → b.1.cpu.r.length = 16 → (if p then a else b).1.cpu.r.length = 16 := by
    intro p _ a b ha hb
    split <;> assumption
  have s : ∀ (n : Nat) (v : Int), (c.r.set n v).length = 16 := fun n v => (List.length_set ..).trans h
  exact P rfl (P h (P (s _ _) (P (s _ _) (P (s _ _) (P (s _ _) (P h (P h (P (P h h) (P (s _ _) (P (s _ _) (P h (s _ _))))))))))))
set_option maxHeartbeats 4000000 in
theorem step_ok (m : List Int) (hm : ∀ x ∈ m, w64 x) (c : Cp) (h : c.r.length = 16) (o : Nat) (st : St) (ho : st.obj o = some (memC m)) :
    ACalls Tryd.prog 37 [.msl o 1 0 m.length, .agg (cpRow c)] st (fun v st' => v = stepV m c ∧ st' = st) (fun _ _ => False) := by
  refine ACalls.ofBody Tryd.func37 rfl Tryd.ntmps37 rfl ?_
  have hl := cp_len h
  have g16 : (cpRow c)[0 + 16]? = some (.int .i64 c.pc) := cp_pc h
  have fin : stepP m c = none → AV.tuple [.agg (efRow zEf), .bool false] = stepV m c := fun h => by rw [stepV, h]
  have memw : ∀ n, w64 (memAt m n) := fun n => by
    unfold memAt
    rw [List.getD_eq_getElem?_getD]
    cases hx : m[n.toNat]? with
    | none => exact ⟨by decide, by decide⟩
    | some x => exact hm x (List.mem_of_getElem? hx)
  repeat (first | refine nl ?_ | refine AWP.seq ?_ | refine AWP.skip ?_ | refine AWP.block ?_)
  refine rg ?_
  refine bxe (sz := 1) rfl rfl rfl rfl ?_
  refine bxe rfl rfl rfl hl ?_
  refine al rfl rfl fun o4 h4 => ?_
  rw [zef_row]
  have ho4 : (st.set o4 (.cells 40 22 [efRow zEf])).obj o = some (.cells 3 1 (m.map ivRow)) := St.obj_new h4 ho
  repeat (first | refine nl ?_ | refine AWP.seq ?_ | refine rg ?_ | refine AWP.skip ?_ | refine AWP.block ?_ | refine YH (z := ?_) | refine YI (z := ?_) | refine ZA (z := ?_) | refine ZB (z := ?_) | refine ZC (z := ?_) | refine ZD (z := ?_) | refine ZE (z := ?_) | refine ZF (z := ?_) | refine ZJ (z := ?_) | refine ZK (z := ?_) | refine ZM (z := ?_) | refine ZH (z := ?_) | refine ZO (z := ?_) | refine ZQ (z := ?_) | refine ZR (z := ?_) | refine ZT (z := ?_) | refine ZU (z := ?_) | refine YA (z := ?_) | refine ZG (z := ?_) | refine ZI (z := ?_) | refine YC (z := ?_) | refine YD (z := ?_) | refine YE (z := ?_))
  refine mkf (cs := []) (ds := [.eptr 1 [[.msl o 1 0 m.length]] 0 0]) rfl rfl rfl ?_
  repeat (first | refine nl ?_ | refine AWP.seq ?_ | refine rg ?_ | refine AWP.skip ?_ | refine AWP.block ?_ | refine YH (z := ?_) | refine YI (z := ?_) | refine ZA (z := ?_) | refine ZB (z := ?_) | refine ZC (z := ?_) | refine ZD (z := ?_) | refine ZE (z := ?_) | refine ZF (z := ?_) | refine ZJ (z := ?_) | refine ZK (z := ?_) | refine ZM (z := ?_) | refine ZH (z := ?_) | refine ZO (z := ?_) | refine ZQ (z := ?_) | refine ZR (z := ?_) | refine ZT (z := ?_) | refine ZU (z := ?_) | refine YA (z := ?_) | refine ZG (z := ?_) | refine ZI (z := ?_) | refine YC (z := ?_) | refine YD (z := ?_) | refine YE (z := ?_))
  refine clc rfl rfl rfl (inside_ok c.pc o m.length _) ?_
  repeat (first | refine nl ?_ | refine AWP.seq ?_ | refine rg ?_ | refine AWP.skip ?_ | refine AWP.block ?_ | refine YH (z := ?_) | refine YI (z := ?_) | refine ZA (z := ?_) | refine ZB (z := ?_) | refine ZC (z := ?_) | refine ZD (z := ?_) | refine ZE (z := ?_) | refine ZF (z := ?_) | refine ZJ (z := ?_) | refine ZK (z := ?_) | refine ZM (z := ?_) | refine ZH (z := ?_) | refine ZO (z := ?_) | refine ZQ (z := ?_) | refine ZR (z := ?_) | refine ZT (z := ?_) | refine ZU (z := ?_) | refine YA (z := ?_) | refine ZG (z := ?_) | refine ZI (z := ?_) | refine YC (z := ?_) | refine YD (z := ?_) | refine YE (z := ?_))
  refine AWP.cond_bool rfl (fun h1 => ?_) (fun h1 => AWP.skip ?_)
  · have h1' : ins c.pc m.length = false := by simpa using h1
    repeat (first | refine nl ?_ | refine AWP.seq ?_ | refine rg ?_ | refine AWP.skip ?_ | refine AWP.block ?_ | refine YH (z := ?_) | refine YI (z := ?_) | refine ZA (z := ?_) | refine ZB (z := ?_) | refine ZC (z := ?_) | refine ZD (z := ?_) | refine ZE (z := ?_) | refine ZF (z := ?_) | refine ZJ (z := ?_) | refine ZK (z := ?_) | refine ZM (z := ?_) | refine ZH (z := ?_) | refine ZO (z := ?_) | refine ZQ (z := ?_) | refine ZR (z := ?_) | refine ZT (z := ?_) | refine ZU (z := ?_) | refine YA (z := ?_) | refine ZG (z := ?_) | refine ZI (z := ?_) | refine YC (z := ?_) | refine YD (z := ?_) | refine YE (z := ?_))
    refine bds (cs := efRow zEf) rfl rfl rfl rfl ?_
    refine soV rfl rfl rfl rfl rfl rfl ?_
    repeat (first | refine nl ?_ | refine AWP.seq ?_ | refine rg ?_ | refine AWP.skip ?_ | refine AWP.block ?_ | refine YH (z := ?_) | refine YI (z := ?_) | refine ZA (z := ?_) | refine ZB (z := ?_) | refine ZC (z := ?_) | refine ZD (z := ?_) | refine ZE (z := ?_) | refine ZF (z := ?_) | refine ZJ (z := ?_) | refine ZK (z := ?_) | refine ZM (z := ?_) | refine ZH (z := ?_) | refine ZO (z := ?_) | refine ZQ (z := ?_) | refine ZR (z := ?_) | refine ZT (z := ?_) | refine ZU (z := ?_) | refine YA (z := ?_) | refine ZG (z := ?_) | refine ZI (z := ?_) | refine YC (z := ?_) | refine YD (z := ?_) | refine YE (z := ?_))
    exact AWP.ret (rets (resCW rfl (St.obj_set _ _ _) rfl rfl rfl rfl) (.refl _) (StLe.new h4 (.refl _)) ⟨fin (by unfold stepP; rw [if_pos h1']), rfl⟩)
  have h1' : ins c.pc m.length = true := by simpa using h1
  obtain ⟨q1, e1, l1⟩ := mem_at h1'
  repeat (first | refine nl ?_ | refine AWP.seq ?_ | refine rg ?_ | refine AWP.skip ?_ | refine AWP.block ?_ | refine YH (z := ?_) | refine YI (z := ?_) | refine ZA (z := ?_) | refine ZB (z := ?_) | refine ZC (z := ?_) | refine ZD (z := ?_) | refine ZE (z := ?_) | refine ZF (z := ?_) | refine ZJ (z := ?_) | refine ZK (z := ?_) | refine ZM (z := ?_) | refine ZH (z := ?_) | refine ZO (z := ?_) | refine ZQ (z := ?_) | refine ZR (z := ?_) | refine ZT (z := ?_) | refine ZU (z := ?_) | refine YA (z := ?_) | refine ZG (z := ?_) | refine ZI (z := ?_) | refine YC (z := ?_) | refine YD (z := ?_) | refine YE (z := ?_))
  refine ixm (m := c.pc.toNat) rfl rfl rfl e1 l1 ?_
  refine lc rfl rfl ho4 q1 rfl ?_
  repeat (first | refine ZA (z := ?_) | refine ZB (z := ?_) | refine ZC (z := ?_) | refine ZD (z := ?_) | refine ZE (z := ?_) | refine ZF (z := ?_) | refine ZJ (z := ?_) | refine ZK (z := ?_) | refine ZM (z := ?_) | refine ZH (z := ?_) | refine ZO (z := ?_) | refine ZQ (z := ?_) | refine ZR (z := ?_) | refine ZT (z := ?_) | refine ZU (z := ?_) | refine YA (z := ?_) | refine ZG (z := ?_) | refine ZI (z := ?_) | refine YC (z := ?_) | refine YD (z := ?_) | refine YE (z := ?_))
  have hdi := dec_imm (memw c.pc)
  generalize hD : dec (memAt m c.pc) = D at hdi
  repeat (first | refine nl ?_ | refine AWP.seq ?_ | refine rg ?_ | refine AWP.skip ?_ | refine AWP.block ?_ | refine YH (z := ?_) | refine YI (z := ?_) | refine ZA (z := ?_) | refine ZB (z := ?_) | refine ZC (z := ?_) | refine ZD (z := ?_) | refine ZE (z := ?_) | refine ZF (z := ?_) | refine ZJ (z := ?_) | refine ZK (z := ?_) | refine ZM (z := ?_) | refine ZH (z := ?_) | refine ZO (z := ?_) | refine ZQ (z := ?_) | refine ZR (z := ?_) | refine ZT (z := ?_) | refine ZU (z := ?_) | refine YA (z := ?_) | refine ZG (z := ?_) | refine ZI (z := ?_) | refine YC (z := ?_) | refine YD (z := ?_) | refine YE (z := ?_))
  refine AWP.cond_dec rfl (fun h2 => ?_) (fun h2 => AWP.skip ?_)
  · repeat (first | refine nl ?_ | refine AWP.seq ?_ | refine rg ?_ | refine AWP.skip ?_ | refine AWP.block ?_ | refine YH (z := ?_) | refine YI (z := ?_) | refine ZA (z := ?_) | refine ZB (z := ?_) | refine ZC (z := ?_) | refine ZD (z := ?_) | refine ZE (z := ?_) | refine ZF (z := ?_) | refine ZJ (z := ?_) | refine ZK (z := ?_) | refine ZM (z := ?_) | refine ZH (z := ?_) | refine ZO (z := ?_) | refine ZQ (z := ?_) | refine ZR (z := ?_) | refine ZT (z := ?_) | refine ZU (z := ?_) | refine YA (z := ?_) | refine ZG (z := ?_) | refine ZI (z := ?_) | refine YC (z := ?_) | refine YD (z := ?_) | refine YE (z := ?_))
    refine bds (cs := efRow zEf) rfl rfl rfl rfl ?_
    refine soV rfl rfl rfl rfl rfl rfl ?_
    repeat (first | refine nl ?_ | refine AWP.seq ?_ | refine rg ?_ | refine AWP.skip ?_ | refine AWP.block ?_ | refine YH (z := ?_) | refine YI (z := ?_) | refine ZA (z := ?_) | refine ZB (z := ?_) | refine ZC (z := ?_) | refine ZD (z := ?_) | refine ZE (z := ?_) | refine ZF (z := ?_) | refine ZJ (z := ?_) | refine ZK (z := ?_) | refine ZM (z := ?_) | refine ZH (z := ?_) | refine ZO (z := ?_) | refine ZQ (z := ?_) | refine ZR (z := ?_) | refine ZT (z := ?_) | refine ZU (z := ?_) | refine YA (z := ?_) | refine ZG (z := ?_) | refine ZI (z := ?_) | refine YC (z := ?_) | refine YD (z := ?_) | refine YE (z := ?_))
    exact AWP.ret (rets (resCW rfl (St.obj_set _ _ _) rfl rfl rfl rfl) (.refl _) (StLe.new h4 (.refl _)) ⟨fin (by unfold stepP; rw [if_neg (by rw [h1']; decide), hD, if_pos h2]), rfl⟩)
  have h2' : ¬ D.2 ≠ 0 := h2
  repeat (first | refine nl ?_ | refine AWP.seq ?_ | refine rg ?_ | refine AWP.skip ?_ | refine AWP.block ?_ | refine YH (z := ?_) | refine YI (z := ?_) | refine ZA (z := ?_) | refine ZB (z := ?_) | refine ZC (z := ?_) | refine ZD (z := ?_) | refine ZE (z := ?_) | refine ZF (z := ?_) | refine ZJ (z := ?_) | refine ZK (z := ?_) | refine ZM (z := ?_) | refine ZH (z := ?_) | refine ZO (z := ?_) | refine ZQ (z := ?_) | refine ZR (z := ?_) | refine ZT (z := ?_) | refine ZU (z := ?_) | refine YA (z := ?_) | refine ZG (z := ?_) | refine ZI (z := ?_) | refine YC (z := ?_) | refine YD (z := ?_) | refine YE (z := ?_))
  refine leW rfl rfl rfl rfl (by rw [hl]; rfl) ?_
  repeat (first | refine nl ?_ | refine AWP.seq ?_ | refine rg ?_ | refine AWP.skip ?_ | refine AWP.block ?_ | refine YH (z := ?_) | refine YI (z := ?_) | refine ZA (z := ?_) | refine ZB (z := ?_) | refine ZC (z := ?_) | refine ZD (z := ?_) | refine ZE (z := ?_) | refine ZF (z := ?_) | refine ZJ (z := ?_) | refine ZK (z := ?_) | refine ZM (z := ?_) | refine ZH (z := ?_) | refine ZO (z := ?_) | refine ZQ (z := ?_) | refine ZR (z := ?_) | refine ZT (z := ?_) | refine ZU (z := ?_) | refine YA (z := ?_) | refine ZG (z := ?_) | refine ZI (z := ?_) | refine YC (z := ?_) | refine YD (z := ?_) | refine YE (z := ?_))
  refine cle rfl rfl (reads_ok c h D.1 hdi _) ?_
  repeat (first | refine nl ?_ | refine AWP.seq ?_ | refine rg ?_ | refine AWP.skip ?_ | refine AWP.block ?_ | refine YH (z := ?_) | refine YI (z := ?_) | refine ZA (z := ?_) | refine ZB (z := ?_) | refine ZC (z := ?_) | refine ZD (z := ?_) | refine ZE (z := ?_) | refine ZF (z := ?_) | refine ZJ (z := ?_) | refine ZK (z := ?_) | refine ZM (z := ?_) | refine ZH (z := ?_) | refine ZO (z := ?_) | refine ZQ (z := ?_) | refine ZR (z := ?_) | refine ZT (z := ?_) | refine ZU (z := ?_) | refine YA (z := ?_) | refine ZG (z := ?_) | refine ZI (z := ?_) | refine YC (z := ?_) | refine YD (z := ?_) | refine YE (z := ?_))
  have fl : ∀ x, stepP m c = x → stepP m c = x := fun _ h => h
  have unf : stepP m c = (if (reads c D.1).2 = true ∧ ins (reads c D.1).1 m.length = false then none else
      let x := exec c D.1 (if (reads c D.1).2 = true then memAt m (reads c D.1).1 else 0)
      if x.2 ≠ 0 ∨ (x.1.stores = true ∧ ins x.1.addr m.length = false) then none else some x.1) := by
    unfold stepP
    rw [if_neg (by rw [h1']; decide), hD, if_neg h2']
  refine midp (¬ ((reads c D.1).2 = true ∧ ins (reads c D.1).1 m.length = false)) [(9, .int .i64 (if (reads c D.1).2 = true then memAt m (reads c D.1).1 else 0)), (7, .eptr 5 [insRow D.1] 0 0), (6, .func (.func 42) [] [.eptr 1 [[.msl o 1 0 m.length]] 0 0]), (4, .cptr o4 22 0 0), (3, .eptr 17 [cpRow c] 0 0)] (st.set o4 (.cells 40 22 [efRow zEf])) ?_ fun hin => ?_
  · refine AWP.cond_bool rfl (fun h3 => ?_) (fun h3 => AWP.skip ?_)
    · repeat (first | refine nl ?_ | refine AWP.seq ?_ | refine rg ?_ | refine AWP.skip ?_ | refine AWP.block ?_ | refine YH (z := ?_) | refine YI (z := ?_) | refine ZA (z := ?_) | refine ZB (z := ?_) | refine ZC (z := ?_) | refine ZD (z := ?_) | refine ZE (z := ?_) | refine ZF (z := ?_) | refine ZJ (z := ?_) | refine ZK (z := ?_) | refine ZM (z := ?_) | refine ZH (z := ?_) | refine ZO (z := ?_) | refine ZQ (z := ?_) | refine ZR (z := ?_) | refine ZT (z := ?_) | refine ZU (z := ?_) | refine YA (z := ?_) | refine ZG (z := ?_) | refine ZI (z := ?_) | refine YC (z := ?_) | refine YD (z := ?_) | refine YE (z := ?_))
      refine clc rfl rfl rfl (inside_ok (reads c D.1).1 o m.length _) ?_
      repeat (first | refine nl ?_ | refine AWP.seq ?_ | refine rg ?_ | refine AWP.skip ?_ | refine AWP.block ?_ | refine YH (z := ?_) | refine YI (z := ?_) | refine ZA (z := ?_) | refine ZB (z := ?_) | refine ZC (z := ?_) | refine ZD (z := ?_) | refine ZE (z := ?_) | refine ZF (z := ?_) | refine ZJ (z := ?_) | refine ZK (z := ?_) | refine ZM (z := ?_) | refine ZH (z := ?_) | refine ZO (z := ?_) | refine ZQ (z := ?_) | refine ZR (z := ?_) | refine ZT (z := ?_) | refine ZU (z := ?_) | refine YA (z := ?_) | refine ZG (z := ?_) | refine ZI (z := ?_) | refine YC (z := ?_) | refine YD (z := ?_) | refine YE (z := ?_))
      refine AWP.cond_bool rfl (fun h4' => ?_) (fun h4' => AWP.skip ?_)
      · have h5 : ins (reads c D.1).1 m.length = false := by simpa using h4'
        repeat (first | refine nl ?_ | refine AWP.seq ?_ | refine rg ?_ | refine AWP.skip ?_ | refine AWP.block ?_ | refine YH (z := ?_) | refine YI (z := ?_) | refine ZA (z := ?_) | refine ZB (z := ?_) | refine ZC (z := ?_) | refine ZD (z := ?_) | refine ZE (z := ?_) | refine ZF (z := ?_) | refine ZJ (z := ?_) | refine ZK (z := ?_) | refine ZM (z := ?_) | refine ZH (z := ?_) | refine ZO (z := ?_) | refine ZQ (z := ?_) | refine ZR (z := ?_) | refine ZT (z := ?_) | refine ZU (z := ?_) | refine YA (z := ?_) | refine ZG (z := ?_) | refine ZI (z := ?_) | refine YC (z := ?_) | refine YD (z := ?_) | refine YE (z := ?_))
        refine bds (cs := efRow zEf) rfl rfl rfl rfl ?_
        refine soV rfl rfl rfl rfl rfl rfl ?_
        repeat (first | refine nl ?_ | refine AWP.seq ?_ | refine rg ?_ | refine AWP.skip ?_ | refine AWP.block ?_ | refine YH (z := ?_) | refine YI (z := ?_) | refine ZA (z := ?_) | refine ZB (z := ?_) | refine ZC (z := ?_) | refine ZD (z := ?_) | refine ZE (z := ?_) | refine ZF (z := ?_) | refine ZJ (z := ?_) | refine ZK (z := ?_) | refine ZM (z := ?_) | refine ZH (z := ?_) | refine ZO (z := ?_) | refine ZQ (z := ?_) | refine ZR (z := ?_) | refine ZT (z := ?_) | refine ZU (z := ?_) | refine YA (z := ?_) | refine ZG (z := ?_) | refine ZI (z := ?_) | refine YC (z := ?_) | refine YD (z := ?_) | refine YE (z := ?_))
        exact AWP.ret (rets (resCW rfl (St.obj_set _ _ _) rfl rfl rfl rfl) (.refl _) (StLe.new h4 (.refl _)) ⟨fin (by rw [unf, if_pos ⟨h3, h5⟩]), rfl⟩)
      · have h5 : ins (reads c D.1).1 m.length = true := by simpa using h4'
        obtain ⟨q2, e2, l2⟩ := mem_at h5
        repeat (first | refine nl ?_ | refine AWP.seq ?_ | refine rg ?_ | refine AWP.skip ?_ | refine AWP.block ?_ | refine YH (z := ?_) | refine YI (z := ?_) | refine ZA (z := ?_) | refine ZB (z := ?_) | refine ZC (z := ?_) | refine ZD (z := ?_) | refine ZE (z := ?_) | refine ZF (z := ?_) | refine ZJ (z := ?_) | refine ZK (z := ?_) | refine ZM (z := ?_) | refine ZH (z := ?_) | refine ZO (z := ?_) | refine ZQ (z := ?_) | refine ZR (z := ?_) | refine ZT (z := ?_) | refine ZU (z := ?_) | refine YA (z := ?_) | refine ZG (z := ?_) | refine ZI (z := ?_) | refine YC (z := ?_) | refine YD (z := ?_) | refine YE (z := ?_))
        refine ixm (m := (reads c D.1).1.toNat) rfl rfl rfl e2 l2 ?_
        refine lc rfl rfl ho4 q2 rfl ?_
        repeat (first | refine nl ?_ | refine AWP.seq ?_ | refine rg ?_ | refine AWP.skip ?_ | refine AWP.block ?_ | refine YH (z := ?_) | refine YI (z := ?_) | refine ZA (z := ?_) | refine ZB (z := ?_) | refine ZC (z := ?_) | refine ZD (z := ?_) | refine ZE (z := ?_) | refine ZF (z := ?_) | refine ZJ (z := ?_) | refine ZK (z := ?_) | refine ZM (z := ?_) | refine ZH (z := ?_) | refine ZO (z := ?_) | refine ZQ (z := ?_) | refine ZR (z := ?_) | refine ZT (z := ?_) | refine ZU (z := ?_) | refine YA (z := ?_) | refine ZG (z := ?_) | refine ZI (z := ?_) | refine YC (z := ?_) | refine YD (z := ?_) | refine YE (z := ?_))
        refine ⟨?_, .refl _, fun h => by rw [h5] at h; exact absurd h.2 (by decide)⟩
        rw [if_pos h3]
        exact (tl5 rfl rfl rfl rfl rfl)
    · refine ⟨?_, .refl _, fun h => absurd h.1 (by rw [h3]; decide)⟩
      rw [if_neg (by rw [h3]; decide)]
      exact (tl5 rfl rfl rfl rfl rfl)
  rw [if_neg hin] at unf
  generalize (if (reads c D.1).2 = true then memAt m (reads c D.1).1 else 0) = L at unf
  have hxl := exec_len h D.1 L
  repeat (first | refine nl ?_ | refine AWP.seq ?_ | refine rg ?_ | refine AWP.skip ?_ | refine AWP.block ?_ | refine YH (z := ?_) | refine YI (z := ?_) | refine ZA (z := ?_) | refine ZB (z := ?_) | refine ZC (z := ?_) | refine ZD (z := ?_) | refine ZE (z := ?_) | refine ZF (z := ?_) | refine ZJ (z := ?_) | refine ZK (z := ?_) | refine ZM (z := ?_) | refine ZH (z := ?_) | refine ZO (z := ?_) | refine ZQ (z := ?_) | refine ZR (z := ?_) | refine ZT (z := ?_) | refine ZU (z := ?_) | refine YA (z := ?_) | refine ZG (z := ?_) | refine ZI (z := ?_) | refine YC (z := ?_) | refine YD (z := ?_) | refine YE (z := ?_))
  refine leW rfl rfl rfl rfl (by rw [hl]; rfl) ?_
  repeat (first | refine nl ?_ | refine AWP.seq ?_ | refine rg ?_ | refine AWP.skip ?_ | refine AWP.block ?_ | refine YH (z := ?_) | refine YI (z := ?_) | refine ZA (z := ?_) | refine ZB (z := ?_) | refine ZC (z := ?_) | refine ZD (z := ?_) | refine ZE (z := ?_) | refine ZF (z := ?_) | refine ZJ (z := ?_) | refine ZK (z := ?_) | refine ZM (z := ?_) | refine ZH (z := ?_) | refine ZO (z := ?_) | refine ZQ (z := ?_) | refine ZR (z := ?_) | refine ZT (z := ?_) | refine ZU (z := ?_) | refine YA (z := ?_) | refine ZG (z := ?_) | refine ZI (z := ?_) | refine YC (z := ?_) | refine YD (z := ?_) | refine YE (z := ?_))
  refine cle rfl rfl (execute_ok c h D.1 L _) ?_
  generalize hX : exec c D.1 L = X at unf hxl
  have hV : execV c D.1 L = .tuple [.agg (efRow X.1), .int .i64 X.2] := by rw [execV, hX]
  rw [hV]
  repeat (first | refine nl ?_ | refine AWP.seq ?_ | refine rg ?_ | refine AWP.skip ?_ | refine AWP.block ?_ | refine YH (z := ?_) | refine YI (z := ?_) | refine ZA (z := ?_) | refine ZB (z := ?_) | refine ZC (z := ?_) | refine ZD (z := ?_) | refine ZE (z := ?_) | refine ZF (z := ?_) | refine ZJ (z := ?_) | refine ZK (z := ?_) | refine ZM (z := ?_) | refine ZH (z := ?_) | refine ZO (z := ?_) | refine ZQ (z := ?_) | refine ZR (z := ?_) | refine ZT (z := ?_) | refine ZU (z := ?_) | refine YA (z := ?_) | refine ZG (z := ?_) | refine ZI (z := ?_) | refine YC (z := ?_) | refine YD (z := ?_) | refine YE (z := ?_))
  refine al rfl rfl fun o12 h12 => ?_
  refine soN 12 rfl rfl rfl rfl (by rw [ef_len hxl]; rfl) (by rw [ef_len hxl]; rfl) h12 ?_
  obtain ⟨q17, q18, q19, q20, q21⟩ := ef_cols hxl
  repeat (first | refine nl ?_ | refine AWP.seq ?_ | refine rg ?_ | refine AWP.skip ?_ | refine AWP.block ?_ | refine YH (z := ?_) | refine YI (z := ?_) | refine ZA (z := ?_) | refine ZB (z := ?_) | refine ZC (z := ?_) | refine ZD (z := ?_) | refine ZE (z := ?_) | refine ZF (z := ?_) | refine ZJ (z := ?_) | refine ZK (z := ?_) | refine ZM (z := ?_) | refine ZH (z := ?_) | refine ZO (z := ?_) | refine ZQ (z := ?_) | refine ZR (z := ?_) | refine ZT (z := ?_) | refine ZU (z := ?_) | refine YA (z := ?_) | refine ZG (z := ?_) | refine ZI (z := ?_) | refine YC (z := ?_) | refine YD (z := ?_) | refine YE (z := ?_))
  refine gS rfl (fun h5 => ?_) (fun h5 => ?_)
  · have h5' : X.2 ≠ 0 := h5
    repeat (first | refine nl ?_ | refine AWP.seq ?_ | refine rg ?_ | refine AWP.skip ?_ | refine AWP.block ?_ | refine YH (z := ?_) | refine YI (z := ?_) | refine ZA (z := ?_) | refine ZB (z := ?_) | refine ZC (z := ?_) | refine ZD (z := ?_) | refine ZE (z := ?_) | refine ZF (z := ?_) | refine ZJ (z := ?_) | refine ZK (z := ?_) | refine ZM (z := ?_) | refine ZH (z := ?_) | refine ZO (z := ?_) | refine ZQ (z := ?_) | refine ZR (z := ?_) | refine ZT (z := ?_) | refine ZU (z := ?_) | refine YA (z := ?_) | refine ZG (z := ?_) | refine ZI (z := ?_) | refine YC (z := ?_) | refine YD (z := ?_) | refine YE (z := ?_))
    refine bds (cs := efRow zEf) rfl rfl rfl rfl ?_
    refine soV rfl rfl rfl rfl rfl rfl ?_
    repeat (first | refine nl ?_ | refine AWP.seq ?_ | refine rg ?_ | refine AWP.skip ?_ | refine AWP.block ?_ | refine YH (z := ?_) | refine YI (z := ?_) | refine ZA (z := ?_) | refine ZB (z := ?_) | refine ZC (z := ?_) | refine ZD (z := ?_) | refine ZE (z := ?_) | refine ZF (z := ?_) | refine ZJ (z := ?_) | refine ZK (z := ?_) | refine ZM (z := ?_) | refine ZH (z := ?_) | refine ZO (z := ?_) | refine ZQ (z := ?_) | refine ZR (z := ?_) | refine ZT (z := ?_) | refine ZU (z := ?_) | refine YA (z := ?_) | refine ZG (z := ?_) | refine ZI (z := ?_) | refine YC (z := ?_) | refine YD (z := ?_) | refine YE (z := ?_))
    exact AWP.ret (rets (resCW rfl (St.obj_set _ _ _) rfl rfl rfl rfl) (.refl _) (StLe.new h4 (.refl _)) ⟨fin (by rw [unf, if_pos (.inl h5')]), rfl⟩)
  have h5' : ¬ X.2 ≠ 0 := h5
  repeat (first | refine nl ?_ | refine AWP.seq ?_ | refine rg ?_ | refine AWP.skip ?_ | refine AWP.block ?_ | refine YH (z := ?_) | refine YI (z := ?_) | refine ZA (z := ?_) | refine ZB (z := ?_) | refine ZC (z := ?_) | refine ZD (z := ?_) | refine ZE (z := ?_) | refine ZF (z := ?_) | refine ZJ (z := ?_) | refine ZK (z := ?_) | refine ZM (z := ?_) | refine ZH (z := ?_) | refine ZO (z := ?_) | refine ZQ (z := ?_) | refine ZR (z := ?_) | refine ZT (z := ?_) | refine ZU (z := ?_) | refine YA (z := ?_) | refine ZG (z := ?_) | refine ZI (z := ?_) | refine YC (z := ?_) | refine YD (z := ?_) | refine YE (z := ?_))
  refine gSB rfl (fun h6 => ?_) (fun h6 => ?_)
  · repeat (first | refine nl ?_ | refine AWP.seq ?_ | refine rg ?_ | refine AWP.skip ?_ | refine AWP.block ?_ | refine YH (z := ?_) | refine YI (z := ?_) | refine ZA (z := ?_) | refine ZB (z := ?_) | refine ZC (z := ?_) | refine ZD (z := ?_) | refine ZE (z := ?_) | refine ZF (z := ?_) | refine ZJ (z := ?_) | refine ZK (z := ?_) | refine ZM (z := ?_) | refine ZH (z := ?_) | refine ZO (z := ?_) | refine ZQ (z := ?_) | refine ZR (z := ?_) | refine ZT (z := ?_) | refine ZU (z := ?_) | refine YA (z := ?_) | refine ZG (z := ?_) | refine ZI (z := ?_) | refine YC (z := ?_) | refine YD (z := ?_) | refine YE (z := ?_))
    refine clc rfl rfl rfl (inside_ok X.1.addr o m.length _) ?_
    repeat (first | refine nl ?_ | refine AWP.seq ?_ | refine rg ?_ | refine AWP.skip ?_ | refine AWP.block ?_ | refine YH (z := ?_) | refine YI (z := ?_) | refine ZA (z := ?_) | refine ZB (z := ?_) | refine ZC (z := ?_) | refine ZD (z := ?_) | refine ZE (z := ?_) | refine ZF (z := ?_) | refine ZJ (z := ?_) | refine ZK (z := ?_) | refine ZM (z := ?_) | refine ZH (z := ?_) | refine ZO (z := ?_) | refine ZQ (z := ?_) | refine ZR (z := ?_) | refine ZT (z := ?_) | refine ZU (z := ?_) | refine YA (z := ?_) | refine ZG (z := ?_) | refine ZI (z := ?_) | refine YC (z := ?_) | refine YD (z := ?_) | refine YE (z := ?_))
    refine AWP.cond_bool rfl (fun h7' => ?_) (fun h7' => AWP.skip ?_)
    · have h8 : ins X.1.addr m.length = false := by simpa using h7'
      repeat (first | refine nl ?_ | refine AWP.seq ?_ | refine rg ?_ | refine AWP.skip ?_ | refine AWP.block ?_ | refine YH (z := ?_) | refine YI (z := ?_) | refine ZA (z := ?_) | refine ZB (z := ?_) | refine ZC (z := ?_) | refine ZD (z := ?_) | refine ZE (z := ?_) | refine ZF (z := ?_) | refine ZJ (z := ?_) | refine ZK (z := ?_) | refine ZM (z := ?_) | refine ZH (z := ?_) | refine ZO (z := ?_) | refine ZQ (z := ?_) | refine ZR (z := ?_) | refine ZT (z := ?_) | refine ZU (z := ?_) | refine YA (z := ?_) | refine ZG (z := ?_) | refine ZI (z := ?_) | refine YC (z := ?_) | refine YD (z := ?_) | refine YE (z := ?_))
      refine bds (cs := efRow zEf) rfl rfl rfl rfl ?_
      refine soV rfl rfl rfl rfl rfl rfl ?_
      repeat (first | refine nl ?_ | refine AWP.seq ?_ | refine rg ?_ | refine AWP.skip ?_ | refine AWP.block ?_ | refine YH (z := ?_) | refine YI (z := ?_) | refine ZA (z := ?_) | refine ZB (z := ?_) | refine ZC (z := ?_) | refine ZD (z := ?_) | refine ZE (z := ?_) | refine ZF (z := ?_) | refine ZJ (z := ?_) | refine ZK (z := ?_) | refine ZM (z := ?_) | refine ZH (z := ?_) | refine ZO (z := ?_) | refine ZQ (z := ?_) | refine ZR (z := ?_) | refine ZT (z := ?_) | refine ZU (z := ?_) | refine YA (z := ?_) | refine ZG (z := ?_) | refine ZI (z := ?_) | refine YC (z := ?_) | refine YD (z := ?_) | refine YE (z := ?_))
      exact AWP.ret (rets (resCW rfl (St.obj_set _ _ _) rfl rfl rfl rfl) (.refl _) (StLe.new h4 (.refl _)) ⟨fin (by rw [unf, if_pos (.inr ⟨h6, h8⟩)]), rfl⟩)
    · have h8 : ins X.1.addr m.length = true := by simpa using h7'
      repeat (first | refine nl ?_ | refine AWP.seq ?_ | refine rg ?_ | refine AWP.skip ?_ | refine AWP.block ?_ | refine YH (z := ?_) | refine YI (z := ?_) | refine ZA (z := ?_) | refine ZB (z := ?_) | refine ZC (z := ?_) | refine ZD (z := ?_) | refine ZE (z := ?_) | refine ZF (z := ?_) | refine ZJ (z := ?_) | refine ZK (z := ?_) | refine ZM (z := ?_) | refine ZH (z := ?_) | refine ZO (z := ?_) | refine ZQ (z := ?_) | refine ZR (z := ?_) | refine ZT (z := ?_) | refine ZU (z := ?_) | refine YA (z := ?_) | refine ZG (z := ?_) | refine ZI (z := ?_) | refine YC (z := ?_) | refine YD (z := ?_) | refine YE (z := ?_))
      refine leW rfl rfl rfl rfl (by rw [ef_len hxl]; rfl) ?_
      refine soV rfl rfl rfl rfl (by rw [ef_len hxl]; rfl) (by rw [ef_len hxl]; rfl) ?_
      repeat (first | refine nl ?_ | refine AWP.seq ?_ | refine rg ?_ | refine AWP.skip ?_ | refine AWP.block ?_ | refine YH (z := ?_) | refine YI (z := ?_) | refine ZA (z := ?_) | refine ZB (z := ?_) | refine ZC (z := ?_) | refine ZD (z := ?_) | refine ZE (z := ?_) | refine ZF (z := ?_) | refine ZJ (z := ?_) | refine ZK (z := ?_) | refine ZM (z := ?_) | refine ZH (z := ?_) | refine ZO (z := ?_) | refine ZQ (z := ?_) | refine ZR (z := ?_) | refine ZT (z := ?_) | refine ZU (z := ?_) | refine YA (z := ?_) | refine ZG (z := ?_) | refine ZI (z := ?_) | refine YC (z := ?_) | refine YD (z := ?_) | refine YE (z := ?_))
      exact AWP.ret (rets (resCW rfl (St.obj_set _ _ _) rfl rfl (by rw [ef_len hxl]; rfl) rfl) (.refl _) (StLe.new h4 (.refl _)) ⟨by rw [stepV, unf, if_neg (by rw [h8]; intro hh; rcases hh with hh | hh; exact h5' hh; exact absurd hh.2 (by decide))]; rfl, rfl⟩)
  · repeat (first | refine nl ?_ | refine AWP.seq ?_ | refine rg ?_ | refine AWP.skip ?_ | refine AWP.block ?_ | refine YH (z := ?_) | refine YI (z := ?_) | refine ZA (z := ?_) | refine ZB (z := ?_) | refine ZC (z := ?_) | refine ZD (z := ?_) | refine ZE (z := ?_) | refine ZF (z := ?_) | refine ZJ (z := ?_) | refine ZK (z := ?_) | refine ZM (z := ?_) | refine ZH (z := ?_) | refine ZO (z := ?_) | refine ZQ (z := ?_) | refine ZR (z := ?_) | refine ZT (z := ?_) | refine ZU (z := ?_) | refine YA (z := ?_) | refine ZG (z := ?_) | refine ZI (z := ?_) | refine YC (z := ?_) | refine YD (z := ?_) | refine YE (z := ?_))
    refine leW rfl rfl rfl rfl (by rw [ef_len hxl]; rfl) ?_
    refine soV rfl rfl rfl rfl (by rw [ef_len hxl]; rfl) (by rw [ef_len hxl]; rfl) ?_
    repeat (first | refine nl ?_ | refine AWP.seq ?_ | refine rg ?_ | refine AWP.skip ?_ | refine AWP.block ?_ | refine YH (z := ?_) | refine YI (z := ?_) | refine ZA (z := ?_) | refine ZB (z := ?_) | refine ZC (z := ?_) | refine ZD (z := ?_) | refine ZE (z := ?_) | refine ZF (z := ?_) | refine ZJ (z := ?_) | refine ZK (z := ?_) | refine ZM (z := ?_) | refine ZH (z := ?_) | refine ZO (z := ?_) | refine ZQ (z := ?_) | refine ZR (z := ?_) | refine ZT (z := ?_) | refine ZU (z := ?_) | refine YA (z := ?_) | refine ZG (z := ?_) | refine ZI (z := ?_) | refine YC (z := ?_) | refine YD (z := ?_) | refine YE (z := ?_))
    exact AWP.ret (rets (resCW rfl (St.obj_set _ _ _) rfl rfl (by rw [ef_len hxl]; rfl) rfl) (.refl _) (StLe.new h4 (.refl _)) ⟨by rw [stepV, unf, if_neg (by rw [h6]; intro hh; rcases hh with hh | hh; exact h5' hh; exact absurd hh.1 (by decide))]; rfl, rfl⟩)
end Go.Proofs
/- Runs of threads, in plain numbers. No conditions: definitions and lemmas only. -/
namespace Go.Proofs
open Go.AM

theorem wrap_w64 (n : Int) : w64 (IntKind.i64.wrap n) := by
  unfold IntKind.wrap w64
  simp only [IntKind.bits, IntKind.signed]
  simp
  split <;> omega
theorem bits_w64 (bo : BinOp) (hb : bo = .and ∨ bo = .or ∨ bo = .xor) (a b : Int) : w64 (bits bo .i64 a b) := by
  rcases hb with rfl | rfl | rfl <;> exact wrap_w64 _
theorem bin_w64 (k a b : Int) (ha : w64 a) : w64 (bin k a b) := by
  have h01 : ∀ x, w64 (b01 x) := fun x => by cases x <;> exact ⟨by decide, by decide⟩
  unfold bin
  split
  · exact wrap_w64 _
  split
  · exact wrap_w64 _
  split
  · exact wrap_w64 _
  split
  · split
    · exact ⟨by decide, by decide⟩
    · exact wrap_w64 _
  split
  · split
    · exact ha
    · rename_i hb
      unfold w64 at *
      have h1 : (a.tmod b).natAbs ≤ a.natAbs := by rw [Int.natAbs_tmod]; exact Nat.mod_le _ _
      rcases Int.lt_or_le a 0 with hs | hs
      · have := Int.tmod_nonneg (-b) (a := -a) (by omega)
        rw [Int.neg_tmod, Int.tmod_neg] at this
        omega
      · have := Int.tmod_nonneg b hs
        omega
  split
  · exact bits_w64 _ (.inl rfl) _ _
  split
  · exact bits_w64 _ (.inr (.inl rfl)) _ _
  split
  · exact bits_w64 _ (.inr (.inr rfl)) _ _
  repeat' split
  all_goals exact h01 _
structure Cp.good (c : Cp) : Prop where
  len : c.r.length = 16
  regs : ∀ x ∈ c.r, w64 x
  pc : w64 c.pc
theorem Cp.good.get {c : Cp} (h : c.good) (n : Int) : w64 (c.get n) := by
  unfold Cp.get
  rw [List.getD_eq_getElem?_getD]
  cases hx : c.r[n.toNat]? with
  | none => exact ⟨by decide, by decide⟩
  | some x => exact h.regs x (List.mem_of_getElem? hx)
theorem Cp.good.put {c : Cp} (h : c.good) (n : Int) {v : Int} (hv : w64 v) : (c.put n v).good :=
  ⟨(List.length_set ..).trans h.len, fun x hx => by rcases List.mem_or_eq_of_mem_set hx with h1 | h1; exact h.regs x h1; exact h1 ▸ hv, h.pc⟩
theorem Cp.good.at {c : Cp} (h : c.good) {v : Int} (hv : w64 v) : Cp.good { c with pc := v } := ⟨h.len, h.regs, hv⟩
structure Ef.good (e : Ef) : Prop where
  cpu : e.cpu.good
  word : w64 e.word
  print : w64 e.print
theorem zCp_good : zCp.good := ⟨rfl, fun x hx => by rw [show zCp.r = List.replicate 16 0 from rfl, List.mem_replicate] at hx; rw [hx.2]; exact ⟨by decide, by decide⟩, ⟨by decide, by decide⟩⟩
theorem w0 : w64 0 := ⟨by decide, by decide⟩
theorem exec_good {c : Cp} (h : c.good) {i : Ins} (hi : w64 i.imm) {l : Int} (hl : w64 l) : (exec c i l).1.good := by
  have P : ∀ {p : Prop} [Decidable p] {a b : Ef × Int}, a.1.good → b.1.good → (if p then a else b).1.good := by
    intro p _ a b ha hb
    split <;> assumption
  have q : ∀ {c : Cp}, c.good → Ef.good { zEf with cpu := c } := fun h => ⟨h, w0, w0⟩
  have nx : Cp.good { c with pc := add64 c.pc 1 } := h.at (wrap_w64 _)
  exact P ⟨zCp_good, w0, w0⟩ (P (q nx) (P (q (nx.put _ hi)) (P (q (nx.put _ hl)) (P (q (nx.put _ (h.get _))) (P (q (nx.put _ (wrap_w64 _))) (P ⟨nx, h.get _, w0⟩ (P (q (h.at hi)) (P (P (q (h.at hi)) (q nx)) (P ⟨(h.put _ (wrap_w64 _)).at hi, wrap_w64 _, w0⟩ (P (q ((h.put _ (wrap_w64 _)).at hl)) (P ⟨nx, w0, h.get _⟩ (q (nx.put _ (bin_w64 _ _ _ (h.get _)))))))))))))))
theorem memAt_w64 {m : List Int} (hm : ∀ x ∈ m, w64 x) (n : Int) : w64 (memAt m n) := by
  unfold memAt
  rw [List.getD_eq_getElem?_getD]
  cases hx : m[n.toNat]? with
  | none => exact w0
  | some x => exact hm x (List.mem_of_getElem? hx)
theorem stepP_good {m : List Int} (hm : ∀ x ∈ m, w64 x) {c : Cp} (h : c.good) {e : Ef} (he : stepP m c = some e) : e.good ∧ (e.stores = true → ins e.addr m.length = true) := by
  unfold stepP at he
  split at he
  · cases he
  split at he
  · cases he
  split at he
  · cases he
  dsimp only at he
  have hg := exec_good h (dec_imm (memAt_w64 hm c.pc)) (l := if (reads c (dec (memAt m c.pc)).1).2 = true then memAt m (reads c (dec (memAt m c.pc)).1).1 else 0) (by split; exact memAt_w64 hm _; exact w0)
  generalize exec c (dec (memAt m c.pc)).1 (if (reads c (dec (memAt m c.pc)).1).2 = true then memAt m (reads c (dec (memAt m c.pc)).1).1 else 0) = X at he hg
  split at he
  · cases he
  · rename_i h4
    cases he
    refine ⟨hg, fun hs => ?_⟩
    cases hi : ins _ m.length with
    | true => rfl
    | false => exact absurd (.inr ⟨hs, hi⟩) h4
structure Oc where
  err : Int
  thrown : Bool
  value : Int
  out : List Int
def ocRow (x : Oc) : List AV := [.int .i64 x.err, .bool x.thrown, .int .i64 x.value, .view 1 (x.out.map ivRow) .shared]
def memNx (m : List Int) (e : Ef) : List Int := if e.stores = true then m.set e.addr.toNat e.word else m
def outNx (out : List Int) (e : Ef) : List Int := if e.prints = true then out ++ [e.print] else out
def runL : Nat → List Int → Cp → List Int → Oc
  | k, m, c, out => if c.pc = -1 then ⟨0, decide (c.get 13 ≠ 0), c.get 0, out⟩ else
    match k with
    | 0 => ⟨13, false, 0, out⟩
    | k + 1 => match stepP m c with
      | none => ⟨14, false, 0, out⟩
      | some e => runL k (memNx m e) e.cpu (outNx out e)
theorem runL_exit {k : Nat} {m : List Int} {c : Cp} {out : List Int} (h : c.pc = -1) : runL k m c out = ⟨0, decide (c.get 13 ≠ 0), c.get 0, out⟩ := by
  cases k <;> simp [runL, h]
theorem runL_fuel {m : List Int} {c : Cp} {out : List Int} (h : ¬ c.pc = -1) : runL 0 m c out = ⟨13, false, 0, out⟩ := by simp [runL, h]
theorem runL_fault {k : Nat} {m : List Int} {c : Cp} {out : List Int} (h : ¬ c.pc = -1) (hs : stepP m c = none) : runL (k + 1) m c out = ⟨14, false, 0, out⟩ := by simp [runL, h, hs]
theorem runL_step {k : Nat} {m : List Int} {c : Cp} {out : List Int} {e : Ef} (h : ¬ c.pc = -1) (hs : stepP m c = some e) : runL (k + 1) m c out = runL k (memNx m e) e.cpu (outNx out e) := by simp [runL, h, hs]
def mem0 (raw : List Int) (size : Nat) : List Int := (raw ++ List.replicate (size - raw.length) 0).set (size - 1) (-1)
def cpu0 (size : Nat) (entry : Int) (args : List Int) : Cp := ⟨[0] ++ args ++ (List.replicate (15 - args.length) 0).set (13 - args.length) ((size : Int) - 1), entry⟩
def runOk (n : Nat) (size : Int) (a : Nat) (steps : Int) : Prop := ¬ size < (n : Int) + 16 ∧ ¬ 16384 < size ∧ ¬ 4 < (a : Int) ∧ ¬ steps < 0 ∧ ¬ 200000 < steps
instance (n : Nat) (size : Int) (a : Nat) (steps : Int) : Decidable (runOk n size a steps) := by unfold runOk; infer_instance
def runP (raw : List Int) (size entry : Int) (args : List Int) (steps : Int) : Oc :=
  if runOk raw.length size args.length steps then runL steps.toNat (mem0 raw size.toNat) (cpu0 size.toNat entry args) [] else ⟨1, false, 0, []⟩
end Go.Proofs
/- The state of a run, and small laws of rows. No conditions: definitions and lemmas only. -/
namespace Go.Proofs
open Go.AM

theorem St.ext3 {a b : St} (h1 : a.obj = b.obj) (h2 : a.tok = b.tok) (h3 : a.glob = b.glob) : a = b := by
  cases a; cases b; simp_all
theorem StLe.of_eq {a b : St} (h : a = b) : StLe a b := h ▸ .refl _
def cpC (c : Cp) : AObj := .cells 35 17 [cpRow c]
/-- Three objects and a token above a state. -/
def RS (st : St) (o1 oM oC : Nat) (z : AObj) (m : List Int) (c : Cp) (tk : Nat) : St := (((st.set o1 z).set oM (memC m)).set oC (cpC c)).addTok tk
section
variable {st : St} {o1 oM oC : Nat} {z z' : AObj} {m m' : List Int} {c c' : Cp} {tk tk' : Nat}
theorem RS_o1 (h1 : o1 ≠ oM) (h2 : o1 ≠ oC) : (RS st o1 oM oC z m c tk).obj o1 = some z := by simp [RS, St.addTok, St.set, h1, h2]
theorem RS_oM (h3 : oM ≠ oC) : (RS st o1 oM oC z m c tk).obj oM = some (memC m) := by simp [RS, St.addTok, St.set, h3]
theorem RS_oC : (RS st o1 oM oC z m c tk).obj oC = some (cpC c) := by simp [RS, St.addTok, St.set]
theorem RS_set1 (h1 : o1 ≠ oM) (h2 : o1 ≠ oC) : (RS st o1 oM oC z m c tk).set o1 z' = RS st o1 oM oC z' m c tk := by
  refine St.ext3 (funext fun p => ?_) rfl rfl
  simp only [RS, St.addTok, St.set]
  by_cases a : p = o1
  · subst a; simp [h1, h2]
  · simp [a]
theorem RS_setM (h3 : oM ≠ oC) : (RS st o1 oM oC z m c tk).set oM (memC m') = RS st o1 oM oC z m' c tk := by
  refine St.ext3 (funext fun p => ?_) rfl rfl
  simp only [RS, St.addTok, St.set]
  by_cases a : p = oM
  · subst a; simp [h3]
  · simp [a]
theorem RS_setC : (RS st o1 oM oC z m c tk).set oC (cpC c') = RS st o1 oM oC z m c' tk := by
  refine St.ext3 (funext fun p => ?_) rfl rfl
  simp only [RS, St.addTok, St.set]
  by_cases a : p = oC
  · simp [a]
  · simp [a]
theorem RS_le (h1 : st.obj o1 = none) (h2 : st.obj oM = none) (h3 : st.obj oC = none) : StLe (RS st o1 oM oC z m c tk) st := by
  refine ⟨fun p x hx => ?_, fun t ht => ?_, rfl⟩
  · simp only [RS, St.addTok, St.set]
    by_cases a : p = oC
    · subst a; rw [h3] at hx; cases hx
    by_cases b : p = oM
    · subst b; rw [h2] at hx; cases hx
    by_cases d : p = o1
    · subst d; rw [h1] at hx; cases hx
    simp [a, b, d, hx]
  · simp only [RS, St.addTok, St.set]
    by_cases a : t = tk
    · simp [a]
    · simp [a, ht]
theorem RS_tok : (RS st o1 oM oC z m c tk).tok tk = true := by simp [RS, St.addTok]
theorem RS_new (h : (RS st o1 oM oC z m c tk).tok tk' = false) : st.tok tk' = false := by
  simp only [RS, St.addTok, St.set] at h
  by_cases a : tk' = tk
  · simp [a] at h
  · simpa [a] using h
theorem RS_re (h : st.tok tk = false) : StLe (((RS st o1 oM oC z m c tk).untok tk).addTok tk') (RS st o1 oM oC z m c tk') := by
  refine ⟨fun _ _ h => h, fun t ht => ?_, rfl⟩
  simp only [RS, St.addTok, St.untok, St.set] at ht ⊢
  by_cases a : t = tk'
  · simp [a]
  · simp only [a, if_false] at ht ⊢
    by_cases b : t = tk
    · subst b; rw [h] at ht; cases ht
    · simpa [b] using ht
end
theorem St.new_old' {st : St} {o1 oM oC : Nat} {a b : AObj} (h : ((st.set o1 a).set oM b).obj oC = none) : (st.set o1 a).obj oC = none := St.new_old h
theorem oc_nil (e v : Int) (t : Bool) : Le (.agg [.int .i64 e, .bool t, .int .i64 v, .view 0 [] .nil]) (.agg (ocRow ⟨e, t, v, []⟩)) := by
  refine .agg _ _ rfl (fun c hc => by simp only [ocRow, List.mem_cons, List.not_mem_nil, or_false] at hc; rcases hc with rfl | rfl | rfl | rfl <;> rfl) fun i a b h1 h2 => ?_
  match i, h1, h2 with
  | 0, h1, h2 => cases h1; cases h2; exact .refl _
  | 1, h1, h2 => cases h1; cases h2; exact .refl _
  | 2, h1, h2 => cases h1; cases h2; exact .refl _
  | 3, h1, h2 => cases h1; cases h2; exact .nilShared _ _
theorem oc_own (e v : Int) (t : Bool) (out : List Int) (tk : AM.Tok) : Le (.agg [.int .i64 e, .bool t, .int .i64 v, .view 1 (out.map ivRow) tk]) (.agg (ocRow ⟨e, t, v, out⟩)) := by
  refine .agg _ _ rfl (fun c hc => by simp only [ocRow, List.mem_cons, List.not_mem_nil, or_false] at hc; rcases hc with rfl | rfl | rfl | rfl <;> rfl) fun i a b h1 h2 => ?_
  match i, h1, h2 with
  | 0, h1, h2 => cases h1; cases h2; exact .refl _
  | 1, h1, h2 => cases h1; cases h2; exact .refl _
  | 2, h1, h2 => cases h1; cases h2; exact .refl _
  | 3, h1, h2 => cases h1; cases h2; exact .shared _ _ _
theorem cp_put {r : List Int} {pc : Int} (h : r.length = 16) {n off : Nat} (ho : off = n) (hn : n < 16) (v : Int) : rowSet (cpRow ⟨r, pc⟩) off [.int .i64 v] = cpRow ⟨r.set n v, pc⟩ := by
  subst ho
  unfold rowSet cpRow
  simp only
  have hl : (r.map iv).length = 16 := by simp [h]
  rw [List.take_append_of_le_length (by omega), List.drop_append_of_le_length (by simp; omega)]
  rw [← List.append_assoc]
  congr 1
  rw [List.map_set, List.set_eq_take_append_cons_drop, if_pos (by omega)]
  simp [iv]
theorem ef_sel {e : Ef} (h : e.cpu.r.length = 16) : sel true 17 (efRow e) 0 = some (.agg (cpRow e.cpu)) := by
  unfold sel
  rw [show Nat.ble (0 + 17) (efRow e).length = true by rw [ef_len h]; rfl]
  simp only [cond_true, List.drop_zero, Option.some.injEq, AV.agg.injEq]
  unfold efRow cpRow
  rw [List.take_append]
  simp [h]
  exact List.take_of_length_le (by simp [h])
theorem mem_set {m : List Int} {a : Nat} (v : Int) : (m.map ivRow).set (0 + a) (rowSet [.int .i64 (memAt m a)] 0 [.int .i64 v]) = (m.set a v).map ivRow := by
  rw [Nat.zero_add, List.map_set]
  rfl
theorem zeros_map (n : Nat) : List.replicate n [AV.int .i64 0] = (List.replicate n (0 : Int)).map ivRow := by simp [ivRow, iv]
theorem copy_rows (raw : List Int) (n : Nat) : (((List.replicate n (0 : Int)).map ivRow).take 0 ++ (raw.map ivRow).take raw.length ++ ((List.replicate n (0 : Int)).map ivRow).drop (0 + raw.length)) = (raw ++ List.replicate (n - raw.length) 0).map ivRow := by
  simp [List.take_of_length_le]
theorem copy_args {args : List Int} {s pc : Int} (h : args.length ≤ 4) : rowSet (cpRow ⟨(List.replicate 16 0).set 14 s, pc⟩) 1 (args.map iv) = cpRow ⟨[0] ++ args ++ (List.replicate (15 - args.length) 0).set (13 - args.length) s, pc⟩ := by
  match args, h with
  | [], _ => rfl
  | [_], _ => rfl
  | [_, _], _ => rfl
  | [_, _, _], _ => rfl
  | [_, _, _, _], _ => rfl
theorem mem0_good {raw : List Int} (h : ∀ x ∈ raw, w64 x) (n : Nat) : ∀ x ∈ mem0 raw n, w64 x := by
  intro x hx
  unfold mem0 at hx
  rcases List.mem_or_eq_of_mem_set hx with h1 | h1
  · rcases List.mem_append.1 h1 with h2 | h2
    · exact h x h2
    · rw [(List.mem_replicate.1 h2).2]; exact w0
  · subst h1; exact ⟨by decide, by decide⟩
theorem mem0_len {raw : List Int} {n : Nat} (h : raw.length ≤ n) : (mem0 raw n).length = n := by
  unfold mem0
  simp
  omega
theorem cpu0_good {args : List Int} (h : args.length ≤ 4) (ha : ∀ x ∈ args, w64 x) {n : Nat} (hn : n ≤ 16384) {e : Int} (he : w64 e) : (cpu0 n e args).good := by
  refine ⟨?_, fun x hx => ?_, he⟩
  · unfold cpu0
    simp
    omega
  · unfold cpu0 at hx
    simp only [List.mem_append, List.mem_singleton] at hx
    rcases hx with (h1 | h1) | h1
    · subst h1; exact w0
    · exact ha x h1
    · rcases List.mem_or_eq_of_mem_set h1 with h2 | h2
      · rw [(List.mem_replicate.1 h2).2]; exact w0
      · subst h2; unfold w64; omega
theorem memNx_good {m : List Int} (hm : ∀ x ∈ m, w64 x) {e : Ef} (he : e.good) : ∀ x ∈ memNx m e, w64 x := by
  intro x hx
  unfold memNx at hx
  split at hx
  · rcases List.mem_or_eq_of_mem_set hx with h1 | h1
    · exact hm x h1
    · subst h1; exact he.word
  · exact hm x hx
theorem memNx_len (m : List Int) (e : Ef) : (memNx m e).length = m.length := by
  unfold memNx
  split
  · exact List.length_set ..
  · rfl
end Go.Proofs
/- The walk of Run. No conditions: lemmas only. -/
namespace Go.Proofs
open Go.AM
attribute [local irreducible] AWP AOps ACalls RS
set_option linter.unusedSimpArgs false

theorem flat_iv : ∀ l : List Int, (l.map ivRow).flatten = l.map iv
  | [] => rfl
  | x :: l => by simp only [List.map_cons, List.flatten_cons, flat_iv l]; rfl
structure RX where
  m : List Int
  c : Cp
  out : List Int
  tk : Nat
  n : Nat
set_option maxHeartbeats 8000000 in
theorem run_ok (raw args : List Int) (size entry steps : Int) (wv av : AV) (hwv : Le wv (.view 1 (raw.map ivRow) .shared)) (hav : Le av (.view 1 (args.map ivRow) .shared)) (hr : ∀ x ∈ raw, w64 x) (ha : ∀ x ∈ args, w64 x) (he : w64 entry)
    (hl : raw.length ≤ 1000000) (hla : args.length ≤ 1000000) (st : St) :
    ACalls Tryd.prog 24 [wv, .int .i64 size, .int .i64 entry, av, .int .i64 steps] st (fun v st' => v = .agg (ocRow (runP raw size entry args steps)) ∧ st' = st) (fun _ _ => False) := by
  refine ACalls.ofBody Tryd.func24 rfl Tryd.ntmps24 rfl ?_
  refine AWP.weaken (T' := [(0, .view 1 (raw.map ivRow) .shared), (1, .int .i64 size), (2, .int .i64 entry), (3, .view 1 (args.map ivRow) .shared), (4, .int .i64 steps)]) (TLe.cons rfl hwv (TLe.cons' rfl (TLe.cons' rfl (TLe.cons rfl hav (TLe.cons' rfl (.nil _)))))) (.refl _) ?_
  have lr : (raw.map ivRow).length = raw.length := List.length_map ..
  have lg : (args.map ivRow).length = args.length := List.length_map ..
  have bad : ¬ runOk raw.length size args.length steps → runP raw size entry args steps = ⟨1, false, 0, []⟩ := fun h => by rw [runP, if_neg h]
  repeat (first | refine nl ?_ | refine AWP.seq ?_ | refine AWP.skip ?_ | refine AWP.block ?_)
  refine rg ?_
  refine al rfl rfl fun o1 h1 => ?_
  repeat (first | refine nl ?_ | refine AWP.seq ?_ | refine rg ?_ | refine AWP.skip ?_ | refine AWP.block ?_ | refine YH (z := ?_) | refine YI (z := ?_) | refine ZA (z := ?_) | refine ZB (z := ?_) | refine ZC (z := ?_) | refine ZD (z := ?_) | refine ZE (z := ?_) | refine ZF (z := ?_) | refine ZJ (z := ?_) | refine ZK (z := ?_) | refine ZM (z := ?_) | refine ZH (z := ?_) | refine ZO (z := ?_) | refine ZQ (z := ?_) | refine ZR (z := ?_) | refine ZT (z := ?_) | refine ZU (z := ?_) | refine YA (z := ?_) | refine ZG (z := ?_) | refine ZI (z := ?_) | refine YC (z := ?_) | refine YD (z := ?_) | refine YE (z := ?_))
  refine Go.AM.ad rfl rfl rfl (by omega) ?_
  rw [lr]
  repeat (first | refine nl ?_ | refine AWP.seq ?_ | refine rg ?_ | refine AWP.skip ?_ | refine AWP.block ?_ | refine YH (z := ?_) | refine YI (z := ?_) | refine ZA (z := ?_) | refine ZB (z := ?_) | refine ZC (z := ?_) | refine ZD (z := ?_) | refine ZE (z := ?_) | refine ZF (z := ?_) | refine ZJ (z := ?_) | refine ZK (z := ?_) | refine ZM (z := ?_) | refine ZH (z := ?_) | refine ZO (z := ?_) | refine ZQ (z := ?_) | refine ZR (z := ?_) | refine ZT (z := ?_) | refine ZU (z := ?_) | refine YA (z := ?_) | refine ZG (z := ?_) | refine ZI (z := ?_) | refine YC (z := ?_) | refine YD (z := ?_) | refine YE (z := ?_))
  refine gS rfl (fun c1 => ?_) (fun c1 => ?_)
  · have c1' : size < (raw.length : Int) + 16 := c1
    repeat (first | refine nl ?_ | refine AWP.seq ?_ | refine rg ?_ | refine AWP.skip ?_ | refine AWP.block ?_ | refine YH (z := ?_) | refine YI (z := ?_) | refine ZA (z := ?_) | refine ZB (z := ?_) | refine ZC (z := ?_) | refine ZD (z := ?_) | refine ZE (z := ?_) | refine ZF (z := ?_) | refine ZJ (z := ?_) | refine ZK (z := ?_) | refine ZM (z := ?_) | refine ZH (z := ?_) | refine ZO (z := ?_) | refine ZQ (z := ?_) | refine ZR (z := ?_) | refine ZT (z := ?_) | refine ZU (z := ?_) | refine YA (z := ?_) | refine ZG (z := ?_) | refine ZI (z := ?_) | refine YC (z := ?_) | refine YD (z := ?_) | refine YE (z := ?_))
    refine bds (cs := [.int .i64 1, .bool false, .int .i64 0, .view 0 [] .nil]) rfl rfl rfl rfl ?_
    refine soV rfl rfl rfl rfl rfl rfl ?_
    repeat (first | refine nl ?_ | refine AWP.seq ?_ | refine rg ?_ | refine AWP.skip ?_ | refine AWP.block ?_ | refine YH (z := ?_) | refine YI (z := ?_) | refine ZA (z := ?_) | refine ZB (z := ?_) | refine ZC (z := ?_) | refine ZD (z := ?_) | refine ZE (z := ?_) | refine ZF (z := ?_) | refine ZJ (z := ?_) | refine ZK (z := ?_) | refine ZM (z := ?_) | refine ZH (z := ?_) | refine ZO (z := ?_) | refine ZQ (z := ?_) | refine ZR (z := ?_) | refine ZT (z := ?_) | refine ZU (z := ?_) | refine YA (z := ?_) | refine ZG (z := ?_) | refine ZI (z := ?_) | refine YC (z := ?_) | refine YD (z := ?_) | refine YE (z := ?_))
    refine AWP.ret (rets (resCW rfl (St.obj_set _ _ _) rfl rfl rfl rfl) (oc_nil _ _ _) (StLe.new h1 (.refl _)) ⟨?_, rfl⟩)
    rw [bad fun h => h.1 c1']
  have c1' : ¬ size < (raw.length : Int) + 16 := c1
  repeat (first | refine nl ?_ | refine AWP.seq ?_ | refine rg ?_ | refine AWP.skip ?_ | refine AWP.block ?_ | refine YH (z := ?_) | refine YI (z := ?_) | refine ZA (z := ?_) | refine ZB (z := ?_) | refine ZC (z := ?_) | refine ZD (z := ?_) | refine ZE (z := ?_) | refine ZF (z := ?_) | refine ZJ (z := ?_) | refine ZK (z := ?_) | refine ZM (z := ?_) | refine ZH (z := ?_) | refine ZO (z := ?_) | refine ZQ (z := ?_) | refine ZR (z := ?_) | refine ZT (z := ?_) | refine ZU (z := ?_) | refine YA (z := ?_) | refine ZG (z := ?_) | refine ZI (z := ?_) | refine YC (z := ?_) | refine YD (z := ?_) | refine YE (z := ?_))
  refine gS rfl (fun c2 => ?_) (fun c2 => ?_)
  · have c2' : 16384 < size := c2
    repeat (first | refine nl ?_ | refine AWP.seq ?_ | refine rg ?_ | refine AWP.skip ?_ | refine AWP.block ?_ | refine YH (z := ?_) | refine YI (z := ?_) | refine ZA (z := ?_) | refine ZB (z := ?_) | refine ZC (z := ?_) | refine ZD (z := ?_) | refine ZE (z := ?_) | refine ZF (z := ?_) | refine ZJ (z := ?_) | refine ZK (z := ?_) | refine ZM (z := ?_) | refine ZH (z := ?_) | refine ZO (z := ?_) | refine ZQ (z := ?_) | refine ZR (z := ?_) | refine ZT (z := ?_) | refine ZU (z := ?_) | refine YA (z := ?_) | refine ZG (z := ?_) | refine ZI (z := ?_) | refine YC (z := ?_) | refine YD (z := ?_) | refine YE (z := ?_))
    refine bds (cs := [.int .i64 1, .bool false, .int .i64 0, .view 0 [] .nil]) rfl rfl rfl rfl ?_
    refine soV rfl rfl rfl rfl rfl rfl ?_
    repeat (first | refine nl ?_ | refine AWP.seq ?_ | refine rg ?_ | refine AWP.skip ?_ | refine AWP.block ?_ | refine YH (z := ?_) | refine YI (z := ?_) | refine ZA (z := ?_) | refine ZB (z := ?_) | refine ZC (z := ?_) | refine ZD (z := ?_) | refine ZE (z := ?_) | refine ZF (z := ?_) | refine ZJ (z := ?_) | refine ZK (z := ?_) | refine ZM (z := ?_) | refine ZH (z := ?_) | refine ZO (z := ?_) | refine ZQ (z := ?_) | refine ZR (z := ?_) | refine ZT (z := ?_) | refine ZU (z := ?_) | refine YA (z := ?_) | refine ZG (z := ?_) | refine ZI (z := ?_) | refine YC (z := ?_) | refine YD (z := ?_) | refine YE (z := ?_))
    refine AWP.ret (rets (resCW rfl (St.obj_set _ _ _) rfl rfl rfl rfl) (oc_nil _ _ _) (StLe.new h1 (.refl _)) ⟨?_, rfl⟩)
    rw [bad fun h => h.2.1 c2']
  have c2' : ¬ 16384 < size := c2
  repeat (first | refine nl ?_ | refine AWP.seq ?_ | refine rg ?_ | refine AWP.skip ?_ | refine AWP.block ?_ | refine YH (z := ?_) | refine YI (z := ?_) | refine ZA (z := ?_) | refine ZB (z := ?_) | refine ZC (z := ?_) | refine ZD (z := ?_) | refine ZE (z := ?_) | refine ZF (z := ?_) | refine ZJ (z := ?_) | refine ZK (z := ?_) | refine ZM (z := ?_) | refine ZH (z := ?_) | refine ZO (z := ?_) | refine ZQ (z := ?_) | refine ZR (z := ?_) | refine ZT (z := ?_) | refine ZU (z := ?_) | refine YA (z := ?_) | refine ZG (z := ?_) | refine ZI (z := ?_) | refine YC (z := ?_) | refine YD (z := ?_) | refine YE (z := ?_))
  refine gS rfl (fun c3 => ?_) (fun c3 => ?_)
  · have c3' : 4 < ((args.map ivRow).length : Int) := c3
    repeat (first | refine nl ?_ | refine AWP.seq ?_ | refine rg ?_ | refine AWP.skip ?_ | refine AWP.block ?_ | refine YH (z := ?_) | refine YI (z := ?_) | refine ZA (z := ?_) | refine ZB (z := ?_) | refine ZC (z := ?_) | refine ZD (z := ?_) | refine ZE (z := ?_) | refine ZF (z := ?_) | refine ZJ (z := ?_) | refine ZK (z := ?_) | refine ZM (z := ?_) | refine ZH (z := ?_) | refine ZO (z := ?_) | refine ZQ (z := ?_) | refine ZR (z := ?_) | refine ZT (z := ?_) | refine ZU (z := ?_) | refine YA (z := ?_) | refine ZG (z := ?_) | refine ZI (z := ?_) | refine YC (z := ?_) | refine YD (z := ?_) | refine YE (z := ?_))
    refine bds (cs := [.int .i64 1, .bool false, .int .i64 0, .view 0 [] .nil]) rfl rfl rfl rfl ?_
    refine soV rfl rfl rfl rfl rfl rfl ?_
    repeat (first | refine nl ?_ | refine AWP.seq ?_ | refine rg ?_ | refine AWP.skip ?_ | refine AWP.block ?_ | refine YH (z := ?_) | refine YI (z := ?_) | refine ZA (z := ?_) | refine ZB (z := ?_) | refine ZC (z := ?_) | refine ZD (z := ?_) | refine ZE (z := ?_) | refine ZF (z := ?_) | refine ZJ (z := ?_) | refine ZK (z := ?_) | refine ZM (z := ?_) | refine ZH (z := ?_) | refine ZO (z := ?_) | refine ZQ (z := ?_) | refine ZR (z := ?_) | refine ZT (z := ?_) | refine ZU (z := ?_) | refine YA (z := ?_) | refine ZG (z := ?_) | refine ZI (z := ?_) | refine YC (z := ?_) | refine YD (z := ?_) | refine YE (z := ?_))
    refine AWP.ret (rets (resCW rfl (St.obj_set _ _ _) rfl rfl rfl rfl) (oc_nil _ _ _) (StLe.new h1 (.refl _)) ⟨?_, rfl⟩)
    rw [bad fun h => h.2.2.1 (by rw [lg] at c3'; exact c3')]
  have c3' : ¬ 4 < ((args.map ivRow).length : Int) := c3
  repeat (first | refine nl ?_ | refine AWP.seq ?_ | refine rg ?_ | refine AWP.skip ?_ | refine AWP.block ?_ | refine YH (z := ?_) | refine YI (z := ?_) | refine ZA (z := ?_) | refine ZB (z := ?_) | refine ZC (z := ?_) | refine ZD (z := ?_) | refine ZE (z := ?_) | refine ZF (z := ?_) | refine ZJ (z := ?_) | refine ZK (z := ?_) | refine ZM (z := ?_) | refine ZH (z := ?_) | refine ZO (z := ?_) | refine ZQ (z := ?_) | refine ZR (z := ?_) | refine ZT (z := ?_) | refine ZU (z := ?_) | refine YA (z := ?_) | refine ZG (z := ?_) | refine ZI (z := ?_) | refine YC (z := ?_) | refine YD (z := ?_) | refine YE (z := ?_))
  refine gS rfl (fun c4 => ?_) (fun c4 => ?_)
  · have c4' : steps < 0 := c4
    repeat (first | refine nl ?_ | refine AWP.seq ?_ | refine rg ?_ | refine AWP.skip ?_ | refine AWP.block ?_ | refine YH (z := ?_) | refine YI (z := ?_) | refine ZA (z := ?_) | refine ZB (z := ?_) | refine ZC (z := ?_) | refine ZD (z := ?_) | refine ZE (z := ?_) | refine ZF (z := ?_) | refine ZJ (z := ?_) | refine ZK (z := ?_) | refine ZM (z := ?_) | refine ZH (z := ?_) | refine ZO (z := ?_) | refine ZQ (z := ?_) | refine ZR (z := ?_) | refine ZT (z := ?_) | refine ZU (z := ?_) | refine YA (z := ?_) | refine ZG (z := ?_) | refine ZI (z := ?_) | refine YC (z := ?_) | refine YD (z := ?_) | refine YE (z := ?_))
    refine bds (cs := [.int .i64 1, .bool false, .int .i64 0, .view 0 [] .nil]) rfl rfl rfl rfl ?_
    refine soV rfl rfl rfl rfl rfl rfl ?_
    repeat (first | refine nl ?_ | refine AWP.seq ?_ | refine rg ?_ | refine AWP.skip ?_ | refine AWP.block ?_ | refine YH (z := ?_) | refine YI (z := ?_) | refine ZA (z := ?_) | refine ZB (z := ?_) | refine ZC (z := ?_) | refine ZD (z := ?_) | refine ZE (z := ?_) | refine ZF (z := ?_) | refine ZJ (z := ?_) | refine ZK (z := ?_) | refine ZM (z := ?_) | refine ZH (z := ?_) | refine ZO (z := ?_) | refine ZQ (z := ?_) | refine ZR (z := ?_) | refine ZT (z := ?_) | refine ZU (z := ?_) | refine YA (z := ?_) | refine ZG (z := ?_) | refine ZI (z := ?_) | refine YC (z := ?_) | refine YD (z := ?_) | refine YE (z := ?_))
    refine AWP.ret (rets (resCW rfl (St.obj_set _ _ _) rfl rfl rfl rfl) (oc_nil _ _ _) (StLe.new h1 (.refl _)) ⟨?_, rfl⟩)
    rw [bad fun h => h.2.2.2.1 c4']
  have c4' : ¬ steps < 0 := c4
  repeat (first | refine nl ?_ | refine AWP.seq ?_ | refine rg ?_ | refine AWP.skip ?_ | refine AWP.block ?_ | refine YH (z := ?_) | refine YI (z := ?_) | refine ZA (z := ?_) | refine ZB (z := ?_) | refine ZC (z := ?_) | refine ZD (z := ?_) | refine ZE (z := ?_) | refine ZF (z := ?_) | refine ZJ (z := ?_) | refine ZK (z := ?_) | refine ZM (z := ?_) | refine ZH (z := ?_) | refine ZO (z := ?_) | refine ZQ (z := ?_) | refine ZR (z := ?_) | refine ZT (z := ?_) | refine ZU (z := ?_) | refine YA (z := ?_) | refine ZG (z := ?_) | refine ZI (z := ?_) | refine YC (z := ?_) | refine YD (z := ?_) | refine YE (z := ?_))
  refine AWP.cond_dec rfl (fun c5 => ?_) (fun c5 => AWP.skip ?_)
  · have c5' : 200000 < steps := c5
    repeat (first | refine nl ?_ | refine AWP.seq ?_ | refine rg ?_ | refine AWP.skip ?_ | refine AWP.block ?_ | refine YH (z := ?_) | refine YI (z := ?_) | refine ZA (z := ?_) | refine ZB (z := ?_) | refine ZC (z := ?_) | refine ZD (z := ?_) | refine ZE (z := ?_) | refine ZF (z := ?_) | refine ZJ (z := ?_) | refine ZK (z := ?_) | refine ZM (z := ?_) | refine ZH (z := ?_) | refine ZO (z := ?_) | refine ZQ (z := ?_) | refine ZR (z := ?_) | refine ZT (z := ?_) | refine ZU (z := ?_) | refine YA (z := ?_) | refine ZG (z := ?_) | refine ZI (z := ?_) | refine YC (z := ?_) | refine YD (z := ?_) | refine YE (z := ?_))
    refine bds (cs := [.int .i64 1, .bool false, .int .i64 0, .view 0 [] .nil]) rfl rfl rfl rfl ?_
    refine soV rfl rfl rfl rfl rfl rfl ?_
    repeat (first | refine nl ?_ | refine AWP.seq ?_ | refine rg ?_ | refine AWP.skip ?_ | refine AWP.block ?_ | refine YH (z := ?_) | refine YI (z := ?_) | refine ZA (z := ?_) | refine ZB (z := ?_) | refine ZC (z := ?_) | refine ZD (z := ?_) | refine ZE (z := ?_) | refine ZF (z := ?_) | refine ZJ (z := ?_) | refine ZK (z := ?_) | refine ZM (z := ?_) | refine ZH (z := ?_) | refine ZO (z := ?_) | refine ZQ (z := ?_) | refine ZR (z := ?_) | refine ZT (z := ?_) | refine ZU (z := ?_) | refine YA (z := ?_) | refine ZG (z := ?_) | refine ZI (z := ?_) | refine YC (z := ?_) | refine YD (z := ?_) | refine YE (z := ?_))
    refine AWP.ret (rets (resCW rfl (St.obj_set _ _ _) rfl rfl rfl rfl) (oc_nil _ _ _) (StLe.new h1 (.refl _)) ⟨?_, rfl⟩)
    rw [bad fun h => h.2.2.2.2 c5']
  have c5' : ¬ 200000 < steps := c5
  rw [lg] at c3'
  have hok : runOk raw.length size args.length steps := ⟨c1', c2', c3', c4', c5'⟩
  obtain ⟨N, rfl⟩ : ∃ N : Nat, size = (N : Int) := ⟨size.toNat, by omega⟩
  obtain ⟨S, rfl⟩ : ∃ S : Nat, steps = (S : Int) := ⟨steps.toNat, by omega⟩
  have hrun : runP raw (N : Int) entry args (S : Int) = runL S (mem0 raw N) (cpu0 N entry args) [] := by rw [runP, if_pos hok, Int.toNat_natCast, Int.toNat_natCast]
  rw [hrun]
  repeat (first | refine nl ?_ | refine AWP.seq ?_ | refine rg ?_ | refine AWP.skip ?_ | refine AWP.block ?_ | refine YH (z := ?_) | refine YI (z := ?_) | refine ZA (z := ?_) | refine ZB (z := ?_) | refine ZC (z := ?_) | refine ZD (z := ?_) | refine ZE (z := ?_) | refine ZF (z := ?_) | refine ZJ (z := ?_) | refine ZK (z := ?_) | refine ZM (z := ?_) | refine ZH (z := ?_) | refine ZO (z := ?_) | refine ZQ (z := ?_) | refine ZR (z := ?_) | refine ZT (z := ?_) | refine ZU (z := ?_) | refine YA (z := ?_) | refine ZG (z := ?_) | refine ZI (z := ?_) | refine YC (z := ?_) | refine YD (z := ?_) | refine YE (z := ?_))
  refine mk (len := N) (cap := N) rfl rfl rfl rfl (Nat.le_refl _) (by omega) (by omega) fun oM hM => ?_
  have nM : oM ≠ o1 := St.new_ne hM
  rw [show zrow (Value.int .i64 0) = [AV.int .i64 0] from rfl, zeros_map]
  repeat (first | refine nl ?_ | refine AWP.seq ?_ | refine rg ?_ | refine AWP.skip ?_ | refine AWP.block ?_ | refine YH (z := ?_) | refine YI (z := ?_) | refine ZA (z := ?_) | refine ZB (z := ?_) | refine ZC (z := ?_) | refine ZD (z := ?_) | refine ZE (z := ?_) | refine ZF (z := ?_) | refine ZJ (z := ?_) | refine ZK (z := ?_) | refine ZM (z := ?_) | refine ZH (z := ?_) | refine ZO (z := ?_) | refine ZQ (z := ?_) | refine ZR (z := ?_) | refine ZT (z := ?_) | refine ZU (z := ?_) | refine YA (z := ?_) | refine ZG (z := ?_) | refine ZI (z := ?_) | refine YC (z := ?_) | refine YD (z := ?_) | refine YE (z := ?_))
  refine cpm (k1 := raw.length) rfl rfl rfl (St.obj_set _ _ _) (by simp) (by rw [lr]; omega) ?_
  rw [copy_rows, St.set_set]
  repeat (first | refine nl ?_ | refine AWP.seq ?_ | refine rg ?_ | refine AWP.skip ?_ | refine AWP.block ?_ | refine YH (z := ?_) | refine YI (z := ?_) | refine ZA (z := ?_) | refine ZB (z := ?_) | refine ZC (z := ?_) | refine ZD (z := ?_) | refine ZE (z := ?_) | refine ZF (z := ?_) | refine ZJ (z := ?_) | refine ZK (z := ?_) | refine ZM (z := ?_) | refine ZH (z := ?_) | refine ZO (z := ?_) | refine ZQ (z := ?_) | refine ZR (z := ?_) | refine ZT (z := ?_) | refine ZU (z := ?_) | refine YA (z := ?_) | refine ZG (z := ?_) | refine ZI (z := ?_) | refine YC (z := ?_) | refine YD (z := ?_) | refine YE (z := ?_))
  refine Go.AM.sb rfl rfl rfl (by omega) ?_
  rw [show (N : Int) - 1 = ((N - 1 : Nat) : Int) by omega]
  refine ixm (m := N - 1) rfl rfl rfl rfl (by omega) ?_
  have hmr : ((raw ++ List.replicate (N - raw.length) 0).map ivRow)[0 + (N - 1)]? = some [.int .i64 (memAt (raw ++ List.replicate (N - raw.length) 0) ((N - 1 : Nat) : Int))] := by
    have := (mem_at (m := raw ++ List.replicate (N - raw.length) 0) (n := ((N - 1 : Nat) : Int)) (ins_iff.2 ⟨by omega, by simp; omega⟩)).1
    rwa [Int.toNat_natCast] at this
  refine so (rows' := (mem0 raw N).map ivRow) rfl rfl rfl (St.obj_set _ _ _) hmr rfl rfl rfl (mem_set _) ?_
  rw [St.set_set]
  repeat (first | refine nl ?_ | refine AWP.seq ?_ | refine rg ?_ | refine AWP.skip ?_ | refine AWP.block ?_ | refine YH (z := ?_) | refine YI (z := ?_) | refine ZA (z := ?_) | refine ZB (z := ?_) | refine ZC (z := ?_) | refine ZD (z := ?_) | refine ZE (z := ?_) | refine ZF (z := ?_) | refine ZJ (z := ?_) | refine ZK (z := ?_) | refine ZM (z := ?_) | refine ZH (z := ?_) | refine ZO (z := ?_) | refine ZQ (z := ?_) | refine ZR (z := ?_) | refine ZT (z := ?_) | refine ZU (z := ?_) | refine YA (z := ?_) | refine ZG (z := ?_) | refine ZI (z := ?_) | refine YC (z := ?_) | refine YD (z := ?_) | refine YE (z := ?_))
  refine bds (cs := cpRow ⟨List.replicate 16 0, entry⟩) rfl rfl rfl rfl ?_
  refine al rfl rfl fun oC hC => ?_
  have nC : oC ≠ oM := St.new_ne hC
  have nC1 : oC ≠ o1 := St.new_ne (St.new_old' hC)
  refine soV rfl rfl rfl rfl rfl rfl ?_
  repeat (first | refine nl ?_ | refine AWP.seq ?_ | refine rg ?_ | refine AWP.skip ?_ | refine AWP.block ?_ | refine YH (z := ?_) | refine YI (z := ?_) | refine ZA (z := ?_) | refine ZB (z := ?_) | refine ZC (z := ?_) | refine ZD (z := ?_) | refine ZE (z := ?_) | refine ZF (z := ?_) | refine ZJ (z := ?_) | refine ZK (z := ?_) | refine ZM (z := ?_) | refine ZH (z := ?_) | refine ZO (z := ?_) | refine ZQ (z := ?_) | refine ZR (z := ?_) | refine ZT (z := ?_) | refine ZU (z := ?_) | refine YA (z := ?_) | refine ZG (z := ?_) | refine ZI (z := ?_) | refine YC (z := ?_) | refine YD (z := ?_) | refine YE (z := ?_))
  refine Go.AM.sb rfl rfl rfl (by omega) ?_
  repeat (first | refine ZA (z := ?_) | refine ZB (z := ?_) | refine ZC (z := ?_) | refine ZD (z := ?_) | refine ZE (z := ?_) | refine ZF (z := ?_) | refine ZJ (z := ?_) | refine ZK (z := ?_) | refine ZM (z := ?_) | refine ZH (z := ?_) | refine ZO (z := ?_) | refine ZQ (z := ?_) | refine ZR (z := ?_) | refine ZT (z := ?_) | refine ZU (z := ?_) | refine YA (z := ?_) | refine ZG (z := ?_) | refine ZI (z := ?_) | refine YC (z := ?_) | refine YD (z := ?_) | refine YE (z := ?_))
  refine ixa (m := 14) rfl rfl rfl (by decide) rfl ?_
  refine so1 rfl rfl rfl rfl rfl (Nat.le_of_ble_eq_true rfl) (cp_put (n := 14) rfl rfl (by decide) _) ?_
  repeat (first | refine nl ?_ | refine AWP.seq ?_ | refine rg ?_ | refine AWP.skip ?_ | refine AWP.block ?_ | refine YH (z := ?_) | refine YI (z := ?_) | refine ZA (z := ?_) | refine ZB (z := ?_) | refine ZC (z := ?_) | refine ZD (z := ?_) | refine ZE (z := ?_) | refine ZF (z := ?_) | refine ZJ (z := ?_) | refine ZK (z := ?_) | refine ZM (z := ?_) | refine ZH (z := ?_) | refine ZO (z := ?_) | refine ZQ (z := ?_) | refine ZR (z := ?_) | refine ZT (z := ?_) | refine ZU (z := ?_) | refine YA (z := ?_) | refine ZG (z := ?_) | refine ZI (z := ?_) | refine YC (z := ?_) | refine YD (z := ?_) | refine YE (z := ?_))
  refine sla (a := 1) rfl rfl rfl (St.obj_set _ _ _) (by decide) (Nat.le_of_ble_eq_true rfl) (by decide) ?_
  repeat (first | refine ZA (z := ?_) | refine ZB (z := ?_) | refine ZC (z := ?_) | refine ZD (z := ?_) | refine ZE (z := ?_) | refine ZF (z := ?_) | refine ZJ (z := ?_) | refine ZK (z := ?_) | refine ZM (z := ?_) | refine ZH (z := ?_) | refine ZO (z := ?_) | refine ZQ (z := ?_) | refine ZR (z := ?_) | refine ZT (z := ?_) | refine ZU (z := ?_) | refine YA (z := ?_) | refine ZG (z := ?_) | refine ZI (z := ?_) | refine YC (z := ?_) | refine YD (z := ?_) | refine YE (z := ?_))
  refine cpa (k1 := args.length) (cs := args.map iv) rfl rfl rfl (St.obj_set _ _ _) (Nat.le_of_ble_eq_true rfl) (by rw [lg]; omega) (by rw [flat_iv, List.take_of_length_le (by simp)]) ?_
  rw [St.set_set, copy_args (by omega)]
  repeat (first | refine nl ?_ | refine AWP.seq ?_ | refine AWP.skip ?_ | refine AWP.block ?_)
  refine rg ?_
  repeat (first | refine ZA (z := ?_) | refine ZB (z := ?_) | refine ZC (z := ?_) | refine ZD (z := ?_) | refine ZE (z := ?_) | refine ZF (z := ?_) | refine ZJ (z := ?_) | refine ZK (z := ?_) | refine ZM (z := ?_) | refine ZH (z := ?_) | refine ZO (z := ?_) | refine ZQ (z := ?_) | refine ZR (z := ?_) | refine ZT (z := ?_) | refine ZU (z := ?_) | refine YA (z := ?_) | refine ZG (z := ?_) | refine ZI (z := ?_) | refine YC (z := ?_) | refine YD (z := ?_) | refine YE (z := ?_))
  repeat (first | refine nl ?_ | refine AWP.seq ?_ | refine AWP.skip ?_ | refine AWP.block ?_)
  refine rg ?_
  repeat (first | refine ZA (z := ?_) | refine ZB (z := ?_) | refine ZC (z := ?_) | refine ZD (z := ?_) | refine ZE (z := ?_) | refine ZF (z := ?_) | refine ZJ (z := ?_) | refine ZK (z := ?_) | refine ZM (z := ?_) | refine ZH (z := ?_) | refine ZO (z := ?_) | refine ZQ (z := ?_) | refine ZR (z := ?_) | refine ZT (z := ?_) | refine ZU (z := ?_) | refine YA (z := ?_) | refine ZG (z := ?_) | refine ZI (z := ?_) | refine YC (z := ?_) | refine YD (z := ?_) | refine YE (z := ?_))
  repeat (first | refine nl ?_ | refine AWP.seq ?_ | refine AWP.skip ?_ | refine AWP.block ?_)
  refine AWP.nilTok 13 3 1 rfl fun tk0 htk0 => ?_
  have m1 : o1 ≠ oM := Ne.symm nM
  have m2 : o1 ≠ oC := Ne.symm nC1
  have m3 : oM ≠ oC := Ne.symm nC
  have n1 : st.obj oM = none := St.new_old hM
  have n2 : st.obj oC = none := St.new_old (St.new_old hC)
  generalize hz : AObj.cells 48 4 [zrow (Value.agg #[.int .i64 0, .bool false, .int .i64 0, .slice none 0 0])] = z
  generalize hR : runL S (mem0 raw N) (cpu0 N entry args) [] = R0
  refine AWP.loop (α := RX) (fun x => [(14, .int .i64 (x.n : Int)), (13, .view 1 (x.out.map ivRow) (.own x.tk 3)), (12, .cptr oC 17 0 0), (11, .msl oM 1 0 N), (10, .cptr o1 4 0 0), (4, .int .i64 (S : Int))]) (fun x => RS st o1 oM oC z x.m x.c x.tk)
    (fun x => x.m.length = N ∧ (∀ y ∈ x.m, w64 y) ∧ x.c.good ∧ x.n ≤ S ∧ x.out.length ≤ x.n ∧ st.tok x.tk = false ∧ runL (S - x.n) x.m x.c x.out = R0) (fun x => S - x.n) ⟨mem0 raw N, cpu0 N entry args, [], tk0, 0⟩
    ⟨mem0_len (by omega), mem0_good hr N, cpu0_good (by omega) ha (by omega) he, Nat.zero_le _, Nat.le_refl _, htk0, hR⟩ (tl6 rfl rfl rfl rfl rfl rfl) (by unfold RS; exact .refl _) ?_
  rintro ⟨m, c, out, tk, n⟩ ⟨im, iw, ic, inn, iout, itk, irun⟩
  simp only at im iw ic inn iout itk irun
  have hcl := ic.len
  have fC : ∀ z m tk, (RS st o1 oM oC z m c tk).obj oC = some (.cells 35 17 [cpRow c]) := fun _ _ _ => RS_oC
  have fM : ∀ z c tk, (RS st o1 oM oC z m c tk).obj oM = some (.cells 3 1 (m.map ivRow)) := fun _ _ _ => RS_oM m3
  have g16 : (cpRow c)[0 + 16]? = some (.int .i64 c.pc) := cp_pc hcl
  repeat (first | refine nl ?_ | refine AWP.seq ?_ | refine rg ?_ | refine AWP.skip ?_ | refine AWP.block ?_ | refine YH (z := ?_) | refine YI (z := ?_) | refine ZA (z := ?_) | refine ZB (z := ?_) | refine ZC (z := ?_) | refine ZD (z := ?_) | refine ZE (z := ?_) | refine ZF (z := ?_) | refine ZJ (z := ?_) | refine ZK (z := ?_) | refine ZM (z := ?_) | refine ZH (z := ?_) | refine ZO (z := ?_) | refine ZQ (z := ?_) | refine ZR (z := ?_) | refine ZT (z := ?_) | refine ZU (z := ?_) | refine YA (z := ?_) | refine ZG (z := ?_) | refine ZI (z := ?_) | refine YC (z := ?_) | refine YD (z := ?_) | refine YE (z := ?_))
  refine lcS rfl rfl rfl (fC _ _ _) rfl g16 ?_
  repeat (first | refine nl ?_ | refine AWP.seq ?_ | refine rg ?_ | refine AWP.skip ?_ | refine AWP.block ?_ | refine YH (z := ?_) | refine YI (z := ?_) | refine ZA (z := ?_) | refine ZB (z := ?_) | refine ZC (z := ?_) | refine ZD (z := ?_) | refine ZE (z := ?_) | refine ZF (z := ?_) | refine ZJ (z := ?_) | refine ZK (z := ?_) | refine ZM (z := ?_) | refine ZH (z := ?_) | refine ZO (z := ?_) | refine ZQ (z := ?_) | refine ZR (z := ?_) | refine ZT (z := ?_) | refine ZU (z := ?_) | refine YA (z := ?_) | refine ZG (z := ?_) | refine ZI (z := ?_) | refine YC (z := ?_) | refine YD (z := ?_) | refine YE (z := ?_))
  refine AWP.cond_dec rfl (fun hx => AWP.skip ?_) (fun hx => AWP.exit (blk_hit ?_))
  · have hx' : ¬ c.pc = -1 := hx
    repeat (first | refine nl ?_ | refine AWP.seq ?_ | refine rg ?_ | refine AWP.skip ?_ | refine AWP.block ?_ | refine YH (z := ?_) | refine YI (z := ?_) | refine ZA (z := ?_) | refine ZB (z := ?_) | refine ZC (z := ?_) | refine ZD (z := ?_) | refine ZE (z := ?_) | refine ZF (z := ?_) | refine ZJ (z := ?_) | refine ZK (z := ?_) | refine ZM (z := ?_) | refine ZH (z := ?_) | refine ZO (z := ?_) | refine ZQ (z := ?_) | refine ZR (z := ?_) | refine ZT (z := ?_) | refine ZU (z := ?_) | refine YA (z := ?_) | refine ZG (z := ?_) | refine ZI (z := ?_) | refine YC (z := ?_) | refine YD (z := ?_) | refine YE (z := ?_))
    refine AWP.cond_dec rfl (fun hf => ?_) (fun hf => AWP.skip ?_)
    · have hf' : n = S := by have h0 : (n : Int) = (S : Int) := hf; omega
      rw [hf', Nat.sub_self, runL_fuel hx'] at irun
      repeat (first | refine nl ?_ | refine AWP.seq ?_ | refine rg ?_ | refine AWP.skip ?_ | refine AWP.block ?_ | refine YH (z := ?_) | refine YI (z := ?_) | refine ZA (z := ?_) | refine ZB (z := ?_) | refine ZC (z := ?_) | refine ZD (z := ?_) | refine ZE (z := ?_) | refine ZF (z := ?_) | refine ZJ (z := ?_) | refine ZK (z := ?_) | refine ZM (z := ?_) | refine ZH (z := ?_) | refine ZO (z := ?_) | refine ZQ (z := ?_) | refine ZR (z := ?_) | refine ZT (z := ?_) | refine ZU (z := ?_) | refine YA (z := ?_) | refine ZG (z := ?_) | refine ZI (z := ?_) | refine YC (z := ?_) | refine YD (z := ?_) | refine YE (z := ?_))
      refine bds (cs := [.int .i64 13, .bool false, .int .i64 0, .view 1 (out.map ivRow) (.own tk 3)]) rfl rfl rfl rfl ?_
      refine so (rows' := [[.int .i64 13, .bool false, .int .i64 0, .view 1 (out.map ivRow) (.own tk 3)]]) rfl rfl rfl ((RS_o1 m1 m2).trans (by rw [← hz])) rfl rfl rfl rfl rfl ?_
      rw [RS_set1 m1 m2]
      repeat (first | refine nl ?_ | refine AWP.seq ?_ | refine rg ?_ | refine AWP.skip ?_ | refine AWP.block ?_ | refine YH (z := ?_) | refine YI (z := ?_) | refine ZA (z := ?_) | refine ZB (z := ?_) | refine ZC (z := ?_) | refine ZD (z := ?_) | refine ZE (z := ?_) | refine ZF (z := ?_) | refine ZJ (z := ?_) | refine ZK (z := ?_) | refine ZM (z := ?_) | refine ZH (z := ?_) | refine ZO (z := ?_) | refine ZQ (z := ?_) | refine ZR (z := ?_) | refine ZT (z := ?_) | refine ZU (z := ?_) | refine YA (z := ?_) | refine ZG (z := ?_) | refine ZI (z := ?_) | refine YC (z := ?_) | refine YD (z := ?_) | refine YE (z := ?_))
      refine AWP.ret (rets (resCW rfl (RS_o1 m1 m2) rfl rfl rfl rfl) (oc_own _ _ _ _ _) (RS_le h1 n1 n2) ⟨by rw [← irun], rfl⟩)
    have hf' : n < S := by have h0 : ¬ (n : Int) = (S : Int) := hf; omega
    obtain ⟨k, hk⟩ : ∃ k, S - n = k + 1 := ⟨S - n - 1, by omega⟩
    rw [hk] at irun
    repeat (first | refine nl ?_ | refine AWP.seq ?_ | refine rg ?_ | refine AWP.skip ?_ | refine AWP.block ?_ | refine YH (z := ?_) | refine YI (z := ?_) | refine ZA (z := ?_) | refine ZB (z := ?_) | refine ZC (z := ?_) | refine ZD (z := ?_) | refine ZE (z := ?_) | refine ZF (z := ?_) | refine ZJ (z := ?_) | refine ZK (z := ?_) | refine ZM (z := ?_) | refine ZH (z := ?_) | refine ZO (z := ?_) | refine ZQ (z := ?_) | refine ZR (z := ?_) | refine ZT (z := ?_) | refine ZU (z := ?_) | refine YA (z := ?_) | refine ZG (z := ?_) | refine ZI (z := ?_) | refine YC (z := ?_) | refine YD (z := ?_) | refine YE (z := ?_))
    refine lcW rfl rfl rfl (fC _ _ _) rfl (by rw [cp_len hcl]; rfl) ?_
    have hst := step_ok m iw c hcl oM (RS st o1 oM oC z m c tk) (RS_oM m3)
    rw [im] at hst
    refine cle rfl rfl hst ?_
    cases hs : stepP m c with
    | none =>
      rw [runL_fault hx' hs] at irun
      rw [show stepV m c = .tuple [.agg (efRow zEf), .bool false] by rw [stepV, hs]]
      repeat (first | refine nl ?_ | refine AWP.seq ?_ | refine rg ?_ | refine AWP.skip ?_ | refine AWP.block ?_ | refine YH (z := ?_) | refine YI (z := ?_) | refine ZA (z := ?_) | refine ZB (z := ?_) | refine ZC (z := ?_) | refine ZD (z := ?_) | refine ZE (z := ?_) | refine ZF (z := ?_) | refine ZJ (z := ?_) | refine ZK (z := ?_) | refine ZM (z := ?_) | refine ZH (z := ?_) | refine ZO (z := ?_) | refine ZQ (z := ?_) | refine ZR (z := ?_) | refine ZT (z := ?_) | refine ZU (z := ?_) | refine YA (z := ?_) | refine ZG (z := ?_) | refine ZI (z := ?_) | refine YC (z := ?_) | refine YD (z := ?_) | refine YE (z := ?_))
      refine bds (cs := [.int .i64 14, .bool false, .int .i64 0, .view 1 (out.map ivRow) (.own tk 3)]) rfl rfl rfl rfl ?_
      refine so (rows' := [[.int .i64 14, .bool false, .int .i64 0, .view 1 (out.map ivRow) (.own tk 3)]]) rfl rfl rfl ((RS_o1 m1 m2).trans (by rw [← hz])) rfl rfl rfl rfl rfl ?_
      rw [RS_set1 m1 m2]
      repeat (first | refine nl ?_ | refine AWP.seq ?_ | refine rg ?_ | refine AWP.skip ?_ | refine AWP.block ?_ | refine YH (z := ?_) | refine YI (z := ?_) | refine ZA (z := ?_) | refine ZB (z := ?_) | refine ZC (z := ?_) | refine ZD (z := ?_) | refine ZE (z := ?_) | refine ZF (z := ?_) | refine ZJ (z := ?_) | refine ZK (z := ?_) | refine ZM (z := ?_) | refine ZH (z := ?_) | refine ZO (z := ?_) | refine ZQ (z := ?_) | refine ZR (z := ?_) | refine ZT (z := ?_) | refine ZU (z := ?_) | refine YA (z := ?_) | refine ZG (z := ?_) | refine ZI (z := ?_) | refine YC (z := ?_) | refine YD (z := ?_) | refine YE (z := ?_))
      refine AWP.ret (rets (resCW rfl (RS_o1 m1 m2) rfl rfl rfl rfl) (oc_own _ _ _ _ _) (RS_le h1 n1 n2) ⟨by rw [← irun], rfl⟩)
    | some e =>
      rw [runL_step hx' hs] at irun
      obtain ⟨eg, ein⟩ := stepP_good iw ic hs
      have el := eg.cpu.len
      rw [show stepV m c = .tuple [.agg (efRow e), .bool true] by rw [stepV, hs]]
      obtain ⟨q17, q18, q19, q20, q21⟩ := ef_cols el
      repeat (first | refine nl ?_ | refine AWP.seq ?_ | refine rg ?_ | refine AWP.skip ?_ | refine AWP.block ?_ | refine YH (z := ?_) | refine YI (z := ?_) | refine ZA (z := ?_) | refine ZB (z := ?_) | refine ZC (z := ?_) | refine ZD (z := ?_) | refine ZE (z := ?_) | refine ZF (z := ?_) | refine ZJ (z := ?_) | refine ZK (z := ?_) | refine ZM (z := ?_) | refine ZH (z := ?_) | refine ZO (z := ?_) | refine ZQ (z := ?_) | refine ZR (z := ?_) | refine ZT (z := ?_) | refine ZU (z := ?_) | refine YA (z := ?_) | refine ZG (z := ?_) | refine ZI (z := ?_) | refine YC (z := ?_) | refine YD (z := ?_) | refine YE (z := ?_))
      refine al rfl rfl fun o15 h15 => ?_
      refine soN 15 rfl rfl rfl rfl (by rw [ef_len el]; rfl) (by rw [ef_len el]; rfl) h15 ?_
      repeat (first | refine nl ?_ | refine AWP.seq ?_ | refine rg ?_ | refine AWP.skip ?_ | refine AWP.block ?_ | refine YH (z := ?_) | refine YI (z := ?_) | refine ZA (z := ?_) | refine ZB (z := ?_) | refine ZC (z := ?_) | refine ZD (z := ?_) | refine ZE (z := ?_) | refine ZF (z := ?_) | refine ZJ (z := ?_) | refine ZK (z := ?_) | refine ZM (z := ?_) | refine ZH (z := ?_) | refine ZO (z := ?_) | refine ZQ (z := ?_) | refine ZR (z := ?_) | refine ZT (z := ?_) | refine ZU (z := ?_) | refine YA (z := ?_) | refine ZG (z := ?_) | refine ZI (z := ?_) | refine YC (z := ?_) | refine YD (z := ?_) | refine YE (z := ?_))
      have fC' : ∀ z m tk, (RS st o1 oM oC z m c tk).obj oC = some (.cells 35 17 [cpRow c]) := fC
      refine midk [(15, .eptr 22 [efRow e] 0 0), (14, .int .i64 (n : Int)), (13, .view 1 (out.map ivRow) (.own tk 3)), (12, .cptr oC 17 0 0), (11, .msl oM 1 0 N), (10, .cptr o1 4 0 0), (4, .int .i64 (S : Int))] (RS st o1 oM oC z (memNx m e) c tk) ?_ ?_
      · refine AWP.cond_bool rfl (fun hse => ?_) (fun hse => AWP.skip ?_)
        · obtain ⟨qa, ea, la⟩ := mem_at (ein hse)
          repeat (first | refine nl ?_ | refine AWP.seq ?_ | refine rg ?_ | refine AWP.skip ?_ | refine AWP.block ?_ | refine YH (z := ?_) | refine YI (z := ?_) | refine ZA (z := ?_) | refine ZB (z := ?_) | refine ZC (z := ?_) | refine ZD (z := ?_) | refine ZE (z := ?_) | refine ZF (z := ?_) | refine ZJ (z := ?_) | refine ZK (z := ?_) | refine ZM (z := ?_) | refine ZH (z := ?_) | refine ZO (z := ?_) | refine ZQ (z := ?_) | refine ZR (z := ?_) | refine ZT (z := ?_) | refine ZU (z := ?_) | refine YA (z := ?_) | refine ZG (z := ?_) | refine ZI (z := ?_) | refine YC (z := ?_) | refine YD (z := ?_) | refine YE (z := ?_))
          refine ixm (m := e.addr.toNat) rfl rfl rfl ea (by omega) ?_
          refine so (rows' := (m.set e.addr.toNat e.word).map ivRow) rfl rfl rfl (fM _ _ _) qa rfl rfl rfl (by rw [Nat.zero_add, List.map_set]; rfl) ?_
          repeat (first | refine nl ?_ | refine AWP.seq ?_ | refine rg ?_ | refine AWP.skip ?_ | refine AWP.block ?_ | refine YH (z := ?_) | refine YI (z := ?_) | refine ZA (z := ?_) | refine ZB (z := ?_) | refine ZC (z := ?_) | refine ZD (z := ?_) | refine ZE (z := ?_) | refine ZF (z := ?_) | refine ZJ (z := ?_) | refine ZK (z := ?_) | refine ZM (z := ?_) | refine ZH (z := ?_) | refine ZO (z := ?_) | refine ZQ (z := ?_) | refine ZR (z := ?_) | refine ZT (z := ?_) | refine ZU (z := ?_) | refine YA (z := ?_) | refine ZG (z := ?_) | refine ZI (z := ?_) | refine YC (z := ?_) | refine YD (z := ?_) | refine YE (z := ?_))
          refine ⟨(tl7 rfl rfl rfl rfl rfl rfl rfl), ?_⟩
          rw [show memNx m e = m.set e.addr.toNat e.word from if_pos hse]
          exact StLe.of_eq (RS_setM m3)
        · refine ⟨(tl7 rfl rfl rfl rfl rfl rfl rfl), ?_⟩
          rw [show memNx m e = m from if_neg (by rw [hse]; decide)]
          exact .refl _
      · repeat (first | refine nl ?_ | refine AWP.seq ?_ | refine rg ?_ | refine AWP.skip ?_ | refine AWP.block ?_ | refine YH (z := ?_) | refine YI (z := ?_) | refine ZA (z := ?_) | refine ZB (z := ?_) | refine ZC (z := ?_) | refine ZD (z := ?_) | refine ZE (z := ?_) | refine ZF (z := ?_) | refine ZJ (z := ?_) | refine ZK (z := ?_) | refine ZM (z := ?_) | refine ZH (z := ?_) | refine ZO (z := ?_) | refine ZQ (z := ?_) | refine ZR (z := ?_) | refine ZT (z := ?_) | refine ZU (z := ?_) | refine YA (z := ?_) | refine ZG (z := ?_) | refine ZI (z := ?_) | refine YC (z := ?_) | refine YD (z := ?_) | refine YE (z := ?_))
        refine AWP.cond_bool rfl (fun hpe => ?_) (fun hpe => AWP.skip ?_)
        · have ho : outNx out e = out ++ [e.print] := if_pos hpe
          repeat (first | refine nl ?_ | refine AWP.seq ?_ | refine rg ?_ | refine AWP.skip ?_ | refine AWP.block ?_ | refine YH (z := ?_) | refine YI (z := ?_) | refine ZA (z := ?_) | refine ZB (z := ?_) | refine ZC (z := ?_) | refine ZD (z := ?_) | refine ZE (z := ?_) | refine ZF (z := ?_) | refine ZJ (z := ?_) | refine ZK (z := ?_) | refine ZM (z := ?_) | refine ZH (z := ?_) | refine ZO (z := ?_) | refine ZQ (z := ?_) | refine ZR (z := ?_) | refine ZT (z := ?_) | refine ZU (z := ?_) | refine YA (z := ?_) | refine ZG (z := ?_) | refine ZI (z := ?_) | refine YC (z := ?_) | refine YD (z := ?_) | refine YE (z := ?_))
          refine ap rfl rfl rfl RS_tok rfl (by simp; omega) (by simp; unfold maxLen; omega) fun tk' htk' => ?_
          refine AOps.weaken (.refl _) (RS_re itk) ?_
          rw [show out.map ivRow ++ [[AV.int .i64 e.print]] = (outNx out e).map ivRow by rw [ho, List.map_append]; rfl]
          repeat (first | refine nl ?_ | refine AWP.seq ?_ | refine rg ?_ | refine AWP.skip ?_ | refine AWP.block ?_ | refine YH (z := ?_) | refine YI (z := ?_) | refine ZA (z := ?_) | refine ZB (z := ?_) | refine ZC (z := ?_) | refine ZD (z := ?_) | refine ZE (z := ?_) | refine ZF (z := ?_) | refine ZJ (z := ?_) | refine ZK (z := ?_) | refine ZM (z := ?_) | refine ZH (z := ?_) | refine ZO (z := ?_) | refine ZQ (z := ?_) | refine ZR (z := ?_) | refine ZT (z := ?_) | refine ZU (z := ?_) | refine YA (z := ?_) | refine ZG (z := ?_) | refine ZI (z := ?_) | refine YC (z := ?_) | refine YD (z := ?_) | refine YE (z := ?_))
          refine le rfl rfl rfl (by exact ef_sel el) ?_
          refine so (rows' := [cpRow e.cpu]) rfl rfl rfl (fC' _ _ _) rfl rfl (by rw [cp_len el]; rfl) (by rw [cp_len el, cp_len hcl]; rfl) (congrArg (fun x => [x]) (rowSet_all ((cp_len el).trans (cp_len hcl).symm))) ?_
          repeat (first | refine nl ?_ | refine AWP.seq ?_ | refine rg ?_ | refine AWP.skip ?_ | refine AWP.block ?_ | refine YH (z := ?_) | refine YI (z := ?_) | refine ZA (z := ?_) | refine ZB (z := ?_) | refine ZC (z := ?_) | refine ZD (z := ?_) | refine ZE (z := ?_) | refine ZF (z := ?_) | refine ZJ (z := ?_) | refine ZK (z := ?_) | refine ZM (z := ?_) | refine ZH (z := ?_) | refine ZO (z := ?_) | refine ZQ (z := ?_) | refine ZR (z := ?_) | refine ZT (z := ?_) | refine ZU (z := ?_) | refine YA (z := ?_) | refine ZG (z := ?_) | refine ZI (z := ?_) | refine YC (z := ?_) | refine YD (z := ?_) | refine YE (z := ?_))
          refine ⟨⟨memNx m e, e.cpu, outNx out e, tk', n + 1⟩, ⟨by simp only [memNx_len]; exact im, memNx_good iw eg, eg.cpu, hf', by simp only [outNx]; (rw [if_pos hpe]; simp; omega), RS_new htk', by simp only; rw [show S - (n + 1) = k by omega]; exact irun⟩, by simp only; omega, ?_, StLe.of_eq RS_setC⟩
          exact (tl6 rfl rfl rfl rfl rfl rfl)
        · have ho : outNx out e = out := if_neg (by rw [hpe]; decide)
          rw [← ho]
          repeat (first | refine nl ?_ | refine AWP.seq ?_ | refine rg ?_ | refine AWP.skip ?_ | refine AWP.block ?_ | refine YH (z := ?_) | refine YI (z := ?_) | refine ZA (z := ?_) | refine ZB (z := ?_) | refine ZC (z := ?_) | refine ZD (z := ?_) | refine ZE (z := ?_) | refine ZF (z := ?_) | refine ZJ (z := ?_) | refine ZK (z := ?_) | refine ZM (z := ?_) | refine ZH (z := ?_) | refine ZO (z := ?_) | refine ZQ (z := ?_) | refine ZR (z := ?_) | refine ZT (z := ?_) | refine ZU (z := ?_) | refine YA (z := ?_) | refine ZG (z := ?_) | refine ZI (z := ?_) | refine YC (z := ?_) | refine YD (z := ?_) | refine YE (z := ?_))
          refine le rfl rfl rfl (by exact ef_sel el) ?_
          refine so (rows' := [cpRow e.cpu]) rfl rfl rfl (fC' _ _ _) rfl rfl (by rw [cp_len el]; rfl) (by rw [cp_len el, cp_len hcl]; rfl) (congrArg (fun x => [x]) (rowSet_all ((cp_len el).trans (cp_len hcl).symm))) ?_
          repeat (first | refine nl ?_ | refine AWP.seq ?_ | refine rg ?_ | refine AWP.skip ?_ | refine AWP.block ?_ | refine YH (z := ?_) | refine YI (z := ?_) | refine ZA (z := ?_) | refine ZB (z := ?_) | refine ZC (z := ?_) | refine ZD (z := ?_) | refine ZE (z := ?_) | refine ZF (z := ?_) | refine ZJ (z := ?_) | refine ZK (z := ?_) | refine ZM (z := ?_) | refine ZH (z := ?_) | refine ZO (z := ?_) | refine ZQ (z := ?_) | refine ZR (z := ?_) | refine ZT (z := ?_) | refine ZU (z := ?_) | refine YA (z := ?_) | refine ZG (z := ?_) | refine ZI (z := ?_) | refine YC (z := ?_) | refine YD (z := ?_) | refine YE (z := ?_))
          refine ⟨⟨memNx m e, e.cpu, outNx out e, tk, n + 1⟩, ⟨by simp only [memNx_len]; exact im, memNx_good iw eg, eg.cpu, hf', by simp only [outNx]; (rw [if_neg (by rw [hpe]; decide)]; omega), itk, by simp only; rw [show S - (n + 1) = k by omega]; exact irun⟩, by simp only; omega, ?_, StLe.of_eq RS_setC⟩
          exact (tl6 rfl rfl rfl rfl rfl rfl)
  · have hx' : c.pc = -1 := by
      have h0 : ¬ c.pc ≠ -1 := hx
      omega
    have g13 : (cpRow c)[0 + 0 + 13 * 1]? = some (.int .i64 (c.get 13)) := cp_get hcl 13 (by decide)
    have g0 : (cpRow c)[0 + 0 + 0 * 1]? = some (.int .i64 (c.get 0)) := cp_get hcl 0 (by decide)
    rw [runL_exit hx'] at irun
    repeat (first | refine nl ?_ | refine AWP.seq ?_ | refine rg ?_ | refine AWP.skip ?_ | refine AWP.block ?_ | refine YH (z := ?_) | refine YI (z := ?_) | refine ZA (z := ?_) | refine ZB (z := ?_) | refine ZC (z := ?_) | refine ZD (z := ?_) | refine ZE (z := ?_) | refine ZF (z := ?_) | refine ZJ (z := ?_) | refine ZK (z := ?_) | refine ZM (z := ?_) | refine ZH (z := ?_) | refine ZO (z := ?_) | refine ZQ (z := ?_) | refine ZR (z := ?_) | refine ZT (z := ?_) | refine ZU (z := ?_) | refine YA (z := ?_) | refine ZG (z := ?_) | refine ZI (z := ?_) | refine YC (z := ?_) | refine YD (z := ?_) | refine YE (z := ?_))
    refine ixa (m := 13) rfl rfl rfl (by decide) rfl ?_
    refine lcS rfl rfl rfl (fC _ _ _) rfl g13 ?_
    repeat (first | refine ZA (z := ?_) | refine ZB (z := ?_) | refine ZC (z := ?_) | refine ZD (z := ?_) | refine ZE (z := ?_) | refine ZF (z := ?_) | refine ZJ (z := ?_) | refine ZK (z := ?_) | refine ZM (z := ?_) | refine ZH (z := ?_) | refine ZO (z := ?_) | refine ZQ (z := ?_) | refine ZR (z := ?_) | refine ZT (z := ?_) | refine ZU (z := ?_) | refine YA (z := ?_) | refine ZG (z := ?_) | refine ZI (z := ?_) | refine YC (z := ?_) | refine YD (z := ?_) | refine YE (z := ?_))
    refine ixa (m := 0) rfl rfl rfl (by decide) rfl ?_
    refine lcS rfl rfl rfl (fC _ _ _) rfl g0 ?_
    repeat (first | refine ZA (z := ?_) | refine ZB (z := ?_) | refine ZC (z := ?_) | refine ZD (z := ?_) | refine ZE (z := ?_) | refine ZF (z := ?_) | refine ZJ (z := ?_) | refine ZK (z := ?_) | refine ZM (z := ?_) | refine ZH (z := ?_) | refine ZO (z := ?_) | refine ZQ (z := ?_) | refine ZR (z := ?_) | refine ZT (z := ?_) | refine ZU (z := ?_) | refine YA (z := ?_) | refine ZG (z := ?_) | refine ZI (z := ?_) | refine YC (z := ?_) | refine YD (z := ?_) | refine YE (z := ?_))
    refine bds (cs := [.int .i64 0, .bool (decide (c.get 13 ≠ 0)), .int .i64 (c.get 0), .view 1 (out.map ivRow) (.own tk 3)]) rfl rfl rfl rfl ?_
    refine so (rows' := [[.int .i64 0, .bool (decide (c.get 13 ≠ 0)), .int .i64 (c.get 0), .view 1 (out.map ivRow) (.own tk 3)]]) rfl rfl rfl ((RS_o1 m1 m2).trans (by rw [← hz])) rfl rfl rfl rfl rfl ?_
    rw [RS_set1 m1 m2]
    repeat (first | refine nl ?_ | refine AWP.seq ?_ | refine rg ?_ | refine AWP.skip ?_ | refine AWP.block ?_ | refine YH (z := ?_) | refine YI (z := ?_) | refine ZA (z := ?_) | refine ZB (z := ?_) | refine ZC (z := ?_) | refine ZD (z := ?_) | refine ZE (z := ?_) | refine ZF (z := ?_) | refine ZJ (z := ?_) | refine ZK (z := ?_) | refine ZM (z := ?_) | refine ZH (z := ?_) | refine ZO (z := ?_) | refine ZQ (z := ?_) | refine ZR (z := ?_) | refine ZT (z := ?_) | refine ZU (z := ?_) | refine YA (z := ?_) | refine ZG (z := ?_) | refine ZI (z := ?_) | refine YC (z := ?_) | refine YD (z := ?_) | refine YE (z := ?_))
    exact AWP.ret (rets (resCW rfl (RS_o1 m1 m2) rfl rfl rfl rfl) (oc_own _ _ _ _ _) (RS_le h1 n1 n2) ⟨by rw [← irun], rfl⟩)
end Go.Proofs
/- The walk of the reference's Begin. No conditions: lemmas only. -/
namespace Go.Proofs
open Go.AM
attribute [local irreducible] AWP AOps ACalls RS
set_option linter.unusedSimpArgs false

def cpI (s entry : Int) (args : List Int) (i : Nat) : Cp := ⟨[0] ++ args.take i ++ (List.replicate (15 - i) 0).set (13 - i) s, entry⟩
theorem cpI_step {s entry : Int} {args : List Int} (h : args.length ≤ 4) {i : Nat} {v : Int} (hv : args[i]? = some v) : rowSet (cpRow (cpI s entry args i)) (1 + i) [.int .i64 v] = cpRow (cpI s entry args (i + 1)) := by
  have hi : i < args.length := (List.getElem?_eq_some_iff.1 hv).1
  match args, h, i, hi, hv with
  | [_], _, 0, _, hv => cases hv; rfl
  | [_, _], _, 0, _, hv => cases hv; rfl
  | [_, _], _, 1, _, hv => cases hv; rfl
  | [_, _, _], _, 0, _, hv => cases hv; rfl
  | [_, _, _], _, 1, _, hv => cases hv; rfl
  | [_, _, _], _, 2, _, hv => cases hv; rfl
  | [_, _, _, _], _, 0, _, hv => cases hv; rfl
  | [_, _, _, _], _, 1, _, hv => cases hv; rfl
  | [_, _, _, _], _, 2, _, hv => cases hv; rfl
  | [_, _, _, _], _, 3, _, hv => cases hv; rfl
theorem cpI_len {s entry : Int} {args : List Int} (h : args.length ≤ 4) {i : Nat} (hi : i ≤ args.length) : (cpRow (cpI s entry args i)).length = 17 := by
  refine cp_len ?_
  unfold cpI
  simp
  omega
theorem cpI_end (N : Nat) (entry : Int) (args : List Int) : cpI ((N : Int) - 1) entry args args.length = cpu0 N entry args := by
  unfold cpI cpu0
  rw [List.take_length]
theorem resT {P : Program} {st : St} {T : Tmps} {t : Tmp} {v : AV} {r : List ResultVar} {vs : List AV} (h1 : T.get t = some v) (h2 : resA P st T r = some vs) : resA P st T (.tmp t :: r) = some (v :: vs) := by
  unfold resA
  rw [h1, h2]
theorem le_begin {st : St} {o9 oM oC : Nat} {a b c d : AObj} (h9 : st.obj o9 = none) (hC : st.obj oC = none) (n1 : oM ≠ o9) (n2 : oC ≠ oM) : StLe ((((st.set o9 a).set oM b).set oC c).set o9 d) (st.set oM b) := by
  refine ⟨fun p x hx => ?_, fun t ht => ht, rfl⟩
  simp only [St.set] at hx ⊢
  by_cases e1 : p = o9
  · subst e1
    rw [if_neg (Ne.symm n1), h9] at hx
    cases hx
  · by_cases e2 : p = oC
    · subst e2
      rw [if_neg n2, hC] at hx
      cases hx
    · rw [if_neg e1, if_neg e2]
      by_cases e3 : p = oM
      · subst e3; simpa using hx
      · rw [if_neg e3, if_neg e1]
        rwa [if_neg e3] at hx
set_option maxHeartbeats 4000000 in
theorem begin_ok (raw args : List Int) (N : Nat) (entry : Int) (wv av : AV) (hwv : Le wv (.view 1 (raw.map ivRow) .shared)) (hav : Le av (.view 1 (args.map ivRow) .shared)) (hN : raw.length + 16 ≤ N) (hN2 : N ≤ 16384) (hla : args.length ≤ 4) (st : St) :
    ACalls Tryd.prog 38 [wv, .int .i64 (N : Int), .int .i64 entry, av] st (fun v st' => ∃ oM, st.obj oM = none ∧ v = .tuple [.msl oM 1 0 N, .agg (cpRow (cpu0 N entry args))] ∧ st' = st.set oM (memC (mem0 raw N))) (fun _ _ => False) := by
  refine ACalls.ofBody Tryd.func38 rfl Tryd.ntmps38 rfl ?_
  refine AWP.weaken (T' := [(0, .view 1 (raw.map ivRow) .shared), (1, .int .i64 (N : Int)), (2, .int .i64 entry), (3, .view 1 (args.map ivRow) .shared)]) (TLe.cons rfl hwv (TLe.cons' rfl (TLe.cons' rfl (TLe.cons rfl hav (.nil _))))) (.refl _) ?_
  have lr : (raw.map ivRow).length = raw.length := List.length_map ..
  have lg : (args.map ivRow).length = args.length := List.length_map ..
  repeat (first | refine nl ?_ | refine AWP.seq ?_ | refine AWP.skip ?_ | refine AWP.block ?_)
  refine rg ?_
  repeat (first | refine ZA (z := ?_) | refine ZB (z := ?_) | refine ZC (z := ?_) | refine ZD (z := ?_) | refine ZE (z := ?_) | refine ZF (z := ?_) | refine ZJ (z := ?_) | refine ZK (z := ?_) | refine ZM (z := ?_) | refine ZH (z := ?_) | refine ZO (z := ?_) | refine ZQ (z := ?_) | refine ZR (z := ?_) | refine ZT (z := ?_) | refine ZU (z := ?_) | refine YA (z := ?_) | refine ZG (z := ?_) | refine ZI (z := ?_) | refine YC (z := ?_) | refine YD (z := ?_) | refine YE (z := ?_))
  refine al rfl rfl fun o9 h9 => ?_
  repeat (first | refine nl ?_ | refine AWP.seq ?_ | refine rg ?_ | refine AWP.skip ?_ | refine AWP.block ?_ | refine YH (z := ?_) | refine YI (z := ?_) | refine ZA (z := ?_) | refine ZB (z := ?_) | refine ZC (z := ?_) | refine ZD (z := ?_) | refine ZE (z := ?_) | refine ZF (z := ?_) | refine ZJ (z := ?_) | refine ZK (z := ?_) | refine ZM (z := ?_) | refine ZH (z := ?_) | refine ZO (z := ?_) | refine ZQ (z := ?_) | refine ZR (z := ?_) | refine ZT (z := ?_) | refine ZU (z := ?_) | refine YA (z := ?_) | refine ZG (z := ?_) | refine ZI (z := ?_) | refine YC (z := ?_) | refine YD (z := ?_) | refine YE (z := ?_))
  refine mk (len := N) (cap := N) rfl rfl rfl rfl (Nat.le_refl _) (by omega) (by omega) fun oM hM => ?_
  have nM : oM ≠ o9 := St.new_ne hM
  rw [show zrow (Value.int .i64 0) = [AV.int .i64 0] from rfl, zeros_map]
  repeat (first | refine nl ?_ | refine AWP.seq ?_ | refine rg ?_ | refine AWP.skip ?_ | refine AWP.block ?_ | refine YH (z := ?_) | refine YI (z := ?_) | refine ZA (z := ?_) | refine ZB (z := ?_) | refine ZC (z := ?_) | refine ZD (z := ?_) | refine ZE (z := ?_) | refine ZF (z := ?_) | refine ZJ (z := ?_) | refine ZK (z := ?_) | refine ZM (z := ?_) | refine ZH (z := ?_) | refine ZO (z := ?_) | refine ZQ (z := ?_) | refine ZR (z := ?_) | refine ZT (z := ?_) | refine ZU (z := ?_) | refine YA (z := ?_) | refine ZG (z := ?_) | refine ZI (z := ?_) | refine YC (z := ?_) | refine YD (z := ?_) | refine YE (z := ?_))
  refine cpm (k1 := raw.length) rfl rfl rfl (St.obj_set _ _ _) (by simp) (by rw [lr]; omega) ?_
  rw [copy_rows, St.set_set]
  repeat (first | refine nl ?_ | refine AWP.seq ?_ | refine rg ?_ | refine AWP.skip ?_ | refine AWP.block ?_ | refine YH (z := ?_) | refine YI (z := ?_) | refine ZA (z := ?_) | refine ZB (z := ?_) | refine ZC (z := ?_) | refine ZD (z := ?_) | refine ZE (z := ?_) | refine ZF (z := ?_) | refine ZJ (z := ?_) | refine ZK (z := ?_) | refine ZM (z := ?_) | refine ZH (z := ?_) | refine ZO (z := ?_) | refine ZQ (z := ?_) | refine ZR (z := ?_) | refine ZT (z := ?_) | refine ZU (z := ?_) | refine YA (z := ?_) | refine ZG (z := ?_) | refine ZI (z := ?_) | refine YC (z := ?_) | refine YD (z := ?_) | refine YE (z := ?_))
  refine Go.AM.sb rfl rfl rfl (by omega) ?_
  rw [show (N : Int) - 1 = ((N - 1 : Nat) : Int) by omega]
  refine ixm (m := N - 1) rfl rfl rfl rfl (by omega) ?_
  have hmr : ((raw ++ List.replicate (N - raw.length) 0).map ivRow)[0 + (N - 1)]? = some [.int .i64 (memAt (raw ++ List.replicate (N - raw.length) 0) ((N - 1 : Nat) : Int))] := by
    have := (mem_at (m := raw ++ List.replicate (N - raw.length) 0) (n := ((N - 1 : Nat) : Int)) (ins_iff.2 ⟨by omega, by simp; omega⟩)).1
    rwa [Int.toNat_natCast] at this
  refine so (rows' := (mem0 raw N).map ivRow) rfl rfl rfl (St.obj_set _ _ _) hmr rfl rfl rfl (mem_set _) ?_
  rw [St.set_set]
  repeat (first | refine nl ?_ | refine AWP.seq ?_ | refine rg ?_ | refine AWP.skip ?_ | refine AWP.block ?_ | refine YH (z := ?_) | refine YI (z := ?_) | refine ZA (z := ?_) | refine ZB (z := ?_) | refine ZC (z := ?_) | refine ZD (z := ?_) | refine ZE (z := ?_) | refine ZF (z := ?_) | refine ZJ (z := ?_) | refine ZK (z := ?_) | refine ZM (z := ?_) | refine ZH (z := ?_) | refine ZO (z := ?_) | refine ZQ (z := ?_) | refine ZR (z := ?_) | refine ZT (z := ?_) | refine ZU (z := ?_) | refine YA (z := ?_) | refine ZG (z := ?_) | refine ZI (z := ?_) | refine YC (z := ?_) | refine YD (z := ?_) | refine YE (z := ?_))
  refine bds (cs := cpRow ⟨List.replicate 16 0, entry⟩) rfl rfl rfl rfl ?_
  refine al rfl rfl fun oC hC => ?_
  have nC : oC ≠ oM := St.new_ne hC
  have nC1 : oC ≠ o9 := St.new_ne (St.new_old' hC)
  refine soV rfl rfl rfl rfl rfl rfl ?_
  repeat (first | refine nl ?_ | refine AWP.seq ?_ | refine rg ?_ | refine AWP.skip ?_ | refine AWP.block ?_ | refine YH (z := ?_) | refine YI (z := ?_) | refine ZA (z := ?_) | refine ZB (z := ?_) | refine ZC (z := ?_) | refine ZD (z := ?_) | refine ZE (z := ?_) | refine ZF (z := ?_) | refine ZJ (z := ?_) | refine ZK (z := ?_) | refine ZM (z := ?_) | refine ZH (z := ?_) | refine ZO (z := ?_) | refine ZQ (z := ?_) | refine ZR (z := ?_) | refine ZT (z := ?_) | refine ZU (z := ?_) | refine YA (z := ?_) | refine ZG (z := ?_) | refine ZI (z := ?_) | refine YC (z := ?_) | refine YD (z := ?_) | refine YE (z := ?_))
  refine Go.AM.sb rfl rfl rfl (by omega) ?_
  repeat (first | refine ZA (z := ?_) | refine ZB (z := ?_) | refine ZC (z := ?_) | refine ZD (z := ?_) | refine ZE (z := ?_) | refine ZF (z := ?_) | refine ZJ (z := ?_) | refine ZK (z := ?_) | refine ZM (z := ?_) | refine ZH (z := ?_) | refine ZO (z := ?_) | refine ZQ (z := ?_) | refine ZR (z := ?_) | refine ZT (z := ?_) | refine ZU (z := ?_) | refine YA (z := ?_) | refine ZG (z := ?_) | refine ZI (z := ?_) | refine YC (z := ?_) | refine YD (z := ?_) | refine YE (z := ?_))
  refine ixa (m := 14) rfl rfl rfl (by decide) rfl ?_
  refine so1 rfl rfl rfl rfl rfl (Nat.le_of_ble_eq_true rfl) (cp_put (n := 14) rfl rfl (by decide) _) ?_
  have n1 : st.obj oM = none := St.new_old hM
  have n2 : st.obj oC = none := St.new_old (St.new_old hC)
  rw [show cpRow ⟨(List.replicate 16 0).set 14 ((N : Int) - 1), entry⟩ = cpRow (cpI ((N : Int) - 1) entry args 0) from rfl]
  generalize hY : (st.set o9 _).set oM _ = Y
  repeat (first | refine nl ?_ | refine AWP.seq ?_ | refine rg ?_ | refine AWP.skip ?_ | refine AWP.block ?_ | refine YH (z := ?_) | refine YI (z := ?_) | refine ZA (z := ?_) | refine ZB (z := ?_) | refine ZC (z := ?_) | refine ZD (z := ?_) | refine ZE (z := ?_) | refine ZF (z := ?_) | refine ZJ (z := ?_) | refine ZK (z := ?_) | refine ZM (z := ?_) | refine ZH (z := ?_) | refine ZO (z := ?_) | refine ZQ (z := ?_) | refine ZR (z := ?_) | refine ZT (z := ?_) | refine ZU (z := ?_) | refine YA (z := ?_) | refine ZG (z := ?_) | refine ZI (z := ?_) | refine YC (z := ?_) | refine YD (z := ?_) | refine YE (z := ?_))
  rw [lg]
  refine AWP.loop (α := Nat) (fun i => [(31, .int .i64 (i : Int)), (30, .int .i64 (args.length : Int)), (29, .view 1 (args.map ivRow) .shared), (11, .cptr oC 17 0 0), (10, .msl oM 1 0 N), (9, .cptr o9 17 0 0)]) (fun i => Y.set oC (.cells 35 17 [cpRow (cpI ((N : Int) - 1) entry args i)])) (fun i => i ≤ args.length) (fun i => args.length - i) 0 (Nat.zero_le _) (tl6 rfl rfl rfl rfl rfl rfl) (.refl _) ?_
  intro i hi
  have hcl := cpI_len (s := (N : Int) - 1) (entry := entry) hla hi
  repeat (first | refine nl ?_ | refine AWP.seq ?_ | refine rg ?_ | refine AWP.skip ?_ | refine AWP.block ?_ | refine YH (z := ?_) | refine YI (z := ?_) | refine ZA (z := ?_) | refine ZB (z := ?_) | refine ZC (z := ?_) | refine ZD (z := ?_) | refine ZE (z := ?_) | refine ZF (z := ?_) | refine ZJ (z := ?_) | refine ZK (z := ?_) | refine ZM (z := ?_) | refine ZH (z := ?_) | refine ZO (z := ?_) | refine ZQ (z := ?_) | refine ZR (z := ?_) | refine ZT (z := ?_) | refine ZU (z := ?_) | refine YA (z := ?_) | refine ZG (z := ?_) | refine ZI (z := ?_) | refine YC (z := ?_) | refine YD (z := ?_) | refine YE (z := ?_))
  refine AWP.cond_dec rfl (fun h => AWP.skip ?_) (fun h => AWP.exit (blk_hit ?_))
  · have hi' : i < args.length := by have h0 : (i : Int) < (args.length : Int) := h; omega
    have hv : args[i]? = some args[i] := List.getElem?_eq_getElem hi'
    have hr : (args.map ivRow)[i]? = some [.int .i64 args[i]] := by rw [List.getElem?_map, hv]; rfl
    generalize args[i] = v at hv hr
    repeat (first | refine nl ?_ | refine AWP.seq ?_ | refine rg ?_ | refine AWP.skip ?_ | refine AWP.block ?_ | refine YH (z := ?_) | refine YI (z := ?_) | refine ZA (z := ?_) | refine ZB (z := ?_) | refine ZC (z := ?_) | refine ZD (z := ?_) | refine ZE (z := ?_) | refine ZF (z := ?_) | refine ZJ (z := ?_) | refine ZK (z := ?_) | refine ZM (z := ?_) | refine ZH (z := ?_) | refine ZO (z := ?_) | refine ZQ (z := ?_) | refine ZR (z := ?_) | refine ZT (z := ?_) | refine ZU (z := ?_) | refine YA (z := ?_) | refine ZG (z := ?_) | refine ZI (z := ?_) | refine YC (z := ?_) | refine YD (z := ?_) | refine YE (z := ?_))
    refine ix (m := i) rfl rfl rfl rfl (by rw [lg]; exact hi') ?_
    refine le rfl rfl hr rfl ?_
    repeat (first | refine nl ?_ | refine AWP.seq ?_ | refine rg ?_ | refine AWP.skip ?_ | refine AWP.block ?_ | refine YH (z := ?_) | refine YI (z := ?_) | refine ZA (z := ?_) | refine ZB (z := ?_) | refine ZC (z := ?_) | refine ZD (z := ?_) | refine ZE (z := ?_) | refine ZF (z := ?_) | refine ZJ (z := ?_) | refine ZK (z := ?_) | refine ZM (z := ?_) | refine ZH (z := ?_) | refine ZO (z := ?_) | refine ZQ (z := ?_) | refine ZR (z := ?_) | refine ZT (z := ?_) | refine ZU (z := ?_) | refine YA (z := ?_) | refine ZG (z := ?_) | refine ZI (z := ?_) | refine YC (z := ?_) | refine YD (z := ?_) | refine YE (z := ?_))
    refine adn (a := 1) (b := i) rfl rfl rfl (by omega) ?_
    repeat (first | refine ZA (z := ?_) | refine ZB (z := ?_) | refine ZC (z := ?_) | refine ZD (z := ?_) | refine ZE (z := ?_) | refine ZF (z := ?_) | refine ZJ (z := ?_) | refine ZK (z := ?_) | refine ZM (z := ?_) | refine ZH (z := ?_) | refine ZO (z := ?_) | refine ZQ (z := ?_) | refine ZR (z := ?_) | refine ZT (z := ?_) | refine ZU (z := ?_) | refine YA (z := ?_) | refine ZG (z := ?_) | refine ZI (z := ?_) | refine YC (z := ?_) | refine YD (z := ?_) | refine YE (z := ?_))
    refine ixa (m := 1 + i) rfl rfl rfl (by omega) rfl ?_
    refine so1 (row' := cpRow (cpI ((N : Int) - 1) entry args (i + 1))) rfl rfl rfl rfl rfl (by rw [hcl]; simp only [AV.cells, List.length_singleton]; omega) (by rw [show 0 + 0 + (1 + i) * 1 = 1 + i by omega]; exact cpI_step hla hv) ?_
    repeat (first | refine nl ?_ | refine AWP.seq ?_ | refine rg ?_ | refine AWP.skip ?_ | refine AWP.block ?_ | refine YH (z := ?_) | refine YI (z := ?_) | refine ZA (z := ?_) | refine ZB (z := ?_) | refine ZC (z := ?_) | refine ZD (z := ?_) | refine ZE (z := ?_) | refine ZF (z := ?_) | refine ZJ (z := ?_) | refine ZK (z := ?_) | refine ZM (z := ?_) | refine ZH (z := ?_) | refine ZO (z := ?_) | refine ZQ (z := ?_) | refine ZR (z := ?_) | refine ZT (z := ?_) | refine ZU (z := ?_) | refine YA (z := ?_) | refine ZG (z := ?_) | refine ZI (z := ?_) | refine YC (z := ?_) | refine YD (z := ?_) | refine YE (z := ?_))
    exact ⟨i + 1, by omega, by omega, (tl6 rfl rfl rfl rfl rfl rfl), .refl _⟩
  · have hi' : i = args.length := by have h0 : ¬ (i : Int) < (args.length : Int) := h; omega
    subst hi'
    rw [cpI_end] at *
    repeat (first | refine nl ?_ | refine AWP.seq ?_ | refine AWP.skip ?_ | refine AWP.block ?_)
    refine AWP.draw rfl 3 3 (fun _ _ => False) rfl ?_
    repeat (first | refine ds rfl rfl ?_ | refine dp (h := fun _ _ => ZD (z := nz)) (z := ?_) | refine dp (h := fun _ _ => ZE (z := nz)) (z := ?_) | refine dp (h := fun _ _ => ZF (z := nz)) (z := ?_) | refine dp (h := fun _ _ => ZC (z := nz)) (z := ?_) | refine dp (h := fun _ _ => ZJ (z := nz)) (z := ?_) | refine dp (h := fun _ _ => ZK (z := nz)) (z := ?_) | refine dp (h := fun _ _ => ZM (z := nz)) (z := ?_) | refine dp (h := fun _ _ => ZH (z := nz)) (z := ?_) | refine dp (h := fun _ _ => ZQ (z := nz)) (z := ?_) | refine dp (h := fun _ _ => ZO (z := nz)) (z := ?_) | refine dp (h := fun _ _ => ZG (z := nz)) (z := ?_) | refine dp (h := fun _ _ => ZI (z := nz)) (z := ?_) | refine dp (h := fun _ _ => YC (z := nz)) (z := ?_) | refine dp (h := fun _ _ => YJ (z := nz)) (z := ?_) | refine dp (h := fun _ _ => YK (z := nz)) (z := ?_) | refine dp (h := fun _ _ => YL (z := nz)) (z := ?_) | refine dp (h := fun _ _ => YM (z := nz)) (z := ?_))
    refine dq rfl rfl rfl (fun st1 hle => lcW rfl rfl rfl (hle.obj _ _ (St.obj_set _ _ _)) rfl (by rw [hcl]; rfl) (nl ⟨_, rfl, rfl, rfl⟩)) ?_
    repeat (first | refine ds rfl rfl ?_ | refine dp (h := fun _ _ => ZD (z := nz)) (z := ?_) | refine dp (h := fun _ _ => ZE (z := nz)) (z := ?_) | refine dp (h := fun _ _ => ZF (z := nz)) (z := ?_) | refine dp (h := fun _ _ => ZC (z := nz)) (z := ?_) | refine dp (h := fun _ _ => ZJ (z := nz)) (z := ?_) | refine dp (h := fun _ _ => ZK (z := nz)) (z := ?_) | refine dp (h := fun _ _ => ZM (z := nz)) (z := ?_) | refine dp (h := fun _ _ => ZH (z := nz)) (z := ?_) | refine dp (h := fun _ _ => ZQ (z := nz)) (z := ?_) | refine dp (h := fun _ _ => ZO (z := nz)) (z := ?_) | refine dp (h := fun _ _ => ZG (z := nz)) (z := ?_) | refine dp (h := fun _ _ => ZI (z := nz)) (z := ?_) | refine dp (h := fun _ _ => YC (z := nz)) (z := ?_) | refine dp (h := fun _ _ => YJ (z := nz)) (z := ?_) | refine dp (h := fun _ _ => YK (z := nz)) (z := ?_) | refine dp (h := fun _ _ => YL (z := nz)) (z := ?_) | refine dp (h := fun _ _ => YM (z := nz)) (z := ?_))
    refine dn ⟨fun _ => ?_, fun h => absurd h (by decide)⟩
    subst hY
    refine so (rows' := [cpRow (cpu0 N entry args)]) rfl rfl rfl (by rw [St.obj_set_ne (Ne.symm nC1)]; exact St.obj_under nM _ _) rfl rfl (by rw [hcl]; rfl) (by rw [hcl]; rfl) (by exact congrArg (fun x => [x]) (rowSet_all (hcl.trans rfl))) ?_
    repeat (first | refine nl ?_ | refine AWP.seq ?_ | refine rg ?_ | refine AWP.skip ?_ | refine AWP.block ?_ | refine YH (z := ?_) | refine YI (z := ?_) | refine ZA (z := ?_) | refine ZB (z := ?_) | refine ZC (z := ?_) | refine ZD (z := ?_) | refine ZE (z := ?_) | refine ZF (z := ?_) | refine ZJ (z := ?_) | refine ZK (z := ?_) | refine ZM (z := ?_) | refine ZH (z := ?_) | refine ZO (z := ?_) | refine ZQ (z := ?_) | refine ZR (z := ?_) | refine ZT (z := ?_) | refine ZU (z := ?_) | refine YA (z := ?_) | refine ZG (z := ?_) | refine ZI (z := ?_) | refine YC (z := ?_) | refine YD (z := ?_) | refine YE (z := ?_))
    exact AWP.ret (rets (resT rfl (resCW rfl (St.obj_set _ _ _) rfl rfl (by rw [hcl]; rfl) rfl)) (.refl _) (le_begin h9 n2 nM nC) ⟨oM, n1, rfl, rfl⟩)
end Go.Proofs
/- The walk of the reference's Step. No conditions: lemmas only. -/
namespace Go.Proofs
open Go.AM
attribute [local irreducible] AWP AOps ACalls RS
set_option linter.unusedSimpArgs false

def rstepV (m : List Int) (c : Cp) : AV := match stepP m c with
  | some e => .tuple [.agg (cpRow e.cpu), .agg (efRow e), .int .i64 0]
  | none => .tuple [.agg (cpRow c), .agg (efRow zEf), .int .i64 14]
def rstepM (m : List Int) (c : Cp) : List Int := match stepP m c with
  | some e => memNx m e
  | none => m
theorem St.set_same {st : St} {o : Nat} {c : AObj} (h : st.obj o = some c) : st.set o c = st := by
  refine St.ext3 (funext fun p => ?_) rfl rfl
  simp only [St.set]
  by_cases e : p = o
  · subst e; simp [h]
  · simp [e]
theorem le_two {st : St} {a b : Nat} {x y : AObj} (ha : st.obj a = none) (hb : st.obj b = none) : StLe ((st.set a x).set b y) st := by
  refine ⟨fun p z hz => ?_, fun t ht => ht, rfl⟩
  simp only [St.set]
  by_cases e1 : p = b
  · subst e1; rw [hb] at hz; cases hz
  · by_cases e2 : p = a
    · subst e2; rw [ha] at hz; cases hz
    · simp [e1, e2, hz]
theorem St.swap3 {st : St} {o a b : Nat} {x y z : AObj} (h1 : o ≠ a) (h2 : o ≠ b) : ((st.set a x).set b y).set o z = ((st.set o z).set a x).set b y := by
  refine St.ext3 (funext fun p => ?_) rfl rfl
  simp only [St.set]
  by_cases e : p = o
  · subst e; simp [h1, h2]
  · simp [e]
set_option maxHeartbeats 4000000 in
theorem rstep_ok (m : List Int) (hm : ∀ x ∈ m, w64 x) (c : Cp) (hg : c.good) (o : Nat) (st : St) (ho : st.obj o = some (memC m)) :
    ACalls Tryd.prog 39 [.msl o 1 0 m.length, .agg (cpRow c)] st (fun v st' => v = rstepV m c ∧ st' = st.set o (memC (rstepM m c))) (fun _ _ => False) := by
  refine ACalls.ofBody Tryd.func39 rfl Tryd.ntmps39 rfl ?_
  have h := hg.len
  have hl := cp_len h
  have g16 : (cpRow c)[0 + 16]? = some (.int .i64 c.pc) := cp_pc h
  have hsame : stepP m c = none → st.set o (memC (rstepM m c)) = st := fun h => by rw [rstepM, h]; exact St.set_same ho
  have fin : stepP m c = none → AV.tuple [.agg (cpRow c), .agg (efRow zEf), .int .i64 14] = rstepV m c := fun h => by rw [rstepV, h]
  have inN : ∀ n : Int, (n < 0 ∨ (m.length : Int) ≤ n) → ins n m.length = false := fun n hn => by
    cases h : ins n m.length with
    | false => rfl
    | true => have := ins_iff.1 h; omega
  repeat (first | refine nl ?_ | refine AWP.seq ?_ | refine AWP.skip ?_ | refine AWP.block ?_)
  refine rg ?_
  refine bxe rfl rfl rfl hl ?_
  refine al rfl rfl fun o4 h4 => ?_
  refine al rfl rfl fun o5 h5 => ?_
  have n45 : o5 ≠ o4 := St.new_ne h5
  have h5' : st.obj o5 = none := St.new_old h5
  have no4 : o ≠ o4 := fun e => by rw [e, h4] at ho; cases ho
  have no5 : o ≠ o5 := fun e => by rw [e, h5'] at ho; cases ho
  rw [zef_row, show zrow (Value.agg #[.int .i64 0, .int .i64 0, .int .i64 0, .int .i64 0, .int .i64 0, .int .i64 0, .int .i64 0, .int .i64 0, .int .i64 0, .int .i64 0, .int .i64 0, .int .i64 0, .int .i64 0, .int .i64 0, .int .i64 0, .int .i64 0, .int .i64 0]) = cpRow zCp from rfl]
  have ho5 : ((st.set o4 (.cells 35 17 [cpRow zCp])).set o5 (.cells 40 22 [efRow zEf])).obj o = some (.cells 3 1 (m.map ivRow)) := by
    rw [St.obj_set_ne no5, St.obj_set_ne no4]; exact ho
  repeat (first | refine nl ?_ | refine AWP.seq ?_ | refine rg ?_ | refine AWP.skip ?_ | refine AWP.block ?_ | refine YH (z := ?_) | refine YI (z := ?_) | refine ZA (z := ?_) | refine ZB (z := ?_) | refine ZC (z := ?_) | refine ZD (z := ?_) | refine ZE (z := ?_) | refine ZF (z := ?_) | refine ZJ (z := ?_) | refine ZK (z := ?_) | refine ZM (z := ?_) | refine ZH (z := ?_) | refine ZO (z := ?_) | refine ZQ (z := ?_) | refine ZR (z := ?_) | refine ZT (z := ?_) | refine ZU (z := ?_) | refine YA (z := ?_) | refine ZG (z := ?_) | refine ZI (z := ?_) | refine YC (z := ?_) | refine YD (z := ?_) | refine YE (z := ?_))
  refine gS rfl (fun c1 => ?_) (fun c1 => ?_)
  · have c1' : c.pc < 0 := c1
    have sn : stepP m c = none := by unfold stepP; rw [if_pos (inN _ (.inl c1'))]
    repeat (first | refine nl ?_ | refine AWP.seq ?_ | refine rg ?_ | refine AWP.skip ?_ | refine AWP.block ?_ | refine YH (z := ?_) | refine YI (z := ?_) | refine ZA (z := ?_) | refine ZB (z := ?_) | refine ZC (z := ?_) | refine ZD (z := ?_) | refine ZE (z := ?_) | refine ZF (z := ?_) | refine ZJ (z := ?_) | refine ZK (z := ?_) | refine ZM (z := ?_) | refine ZH (z := ?_) | refine ZO (z := ?_) | refine ZQ (z := ?_) | refine ZR (z := ?_) | refine ZT (z := ?_) | refine ZU (z := ?_) | refine YA (z := ?_) | refine ZG (z := ?_) | refine ZI (z := ?_) | refine YC (z := ?_) | refine YD (z := ?_) | refine YE (z := ?_))
    refine leW rfl rfl rfl rfl (by rw [hl]; rfl) ?_
    refine bds (cs := efRow zEf) rfl rfl rfl rfl ?_
    refine soU rfl n45 rfl rfl rfl (by rw [hl]; rfl) (by rw [hl]; rfl) ?_
    refine soV rfl rfl rfl rfl rfl rfl ?_
    repeat (first | refine nl ?_ | refine AWP.seq ?_ | refine rg ?_ | refine AWP.skip ?_ | refine AWP.block ?_ | refine YH (z := ?_) | refine YI (z := ?_) | refine ZA (z := ?_) | refine ZB (z := ?_) | refine ZC (z := ?_) | refine ZD (z := ?_) | refine ZE (z := ?_) | refine ZF (z := ?_) | refine ZJ (z := ?_) | refine ZK (z := ?_) | refine ZM (z := ?_) | refine ZH (z := ?_) | refine ZO (z := ?_) | refine ZQ (z := ?_) | refine ZR (z := ?_) | refine ZT (z := ?_) | refine ZU (z := ?_) | refine YA (z := ?_) | refine ZG (z := ?_) | refine ZI (z := ?_) | refine YC (z := ?_) | refine YD (z := ?_) | refine YE (z := ?_))
    refine AWP.ret (rets (resCW rfl (St.obj_under n45 _ _) rfl rfl (by rw [hl]; rfl) (resCW rfl (St.obj_set _ _ _) rfl rfl rfl rfl)) (.refl _) (le_two h4 h5') ⟨fin sn, (hsame sn).symm⟩)
  have c1' : ¬ c.pc < 0 := c1
  repeat (first | refine nl ?_ | refine AWP.seq ?_ | refine rg ?_ | refine AWP.skip ?_ | refine AWP.block ?_ | refine YH (z := ?_) | refine YI (z := ?_) | refine ZA (z := ?_) | refine ZB (z := ?_) | refine ZC (z := ?_) | refine ZD (z := ?_) | refine ZE (z := ?_) | refine ZF (z := ?_) | refine ZJ (z := ?_) | refine ZK (z := ?_) | refine ZM (z := ?_) | refine ZH (z := ?_) | refine ZO (z := ?_) | refine ZQ (z := ?_) | refine ZR (z := ?_) | refine ZT (z := ?_) | refine ZU (z := ?_) | refine YA (z := ?_) | refine ZG (z := ?_) | refine ZI (z := ?_) | refine YC (z := ?_) | refine YD (z := ?_) | refine YE (z := ?_))
  refine AWP.cond_dec rfl (fun c2 => ?_) (fun c2 => AWP.skip ?_)
  · have c2' : (m.length : Int) ≤ c.pc := c2
    have sn : stepP m c = none := by unfold stepP; rw [if_pos (inN _ (.inr c2'))]
    repeat (first | refine nl ?_ | refine AWP.seq ?_ | refine rg ?_ | refine AWP.skip ?_ | refine AWP.block ?_ | refine YH (z := ?_) | refine YI (z := ?_) | refine ZA (z := ?_) | refine ZB (z := ?_) | refine ZC (z := ?_) | refine ZD (z := ?_) | refine ZE (z := ?_) | refine ZF (z := ?_) | refine ZJ (z := ?_) | refine ZK (z := ?_) | refine ZM (z := ?_) | refine ZH (z := ?_) | refine ZO (z := ?_) | refine ZQ (z := ?_) | refine ZR (z := ?_) | refine ZT (z := ?_) | refine ZU (z := ?_) | refine YA (z := ?_) | refine ZG (z := ?_) | refine ZI (z := ?_) | refine YC (z := ?_) | refine YD (z := ?_) | refine YE (z := ?_))
    refine leW rfl rfl rfl rfl (by rw [hl]; rfl) ?_
    refine bds (cs := efRow zEf) rfl rfl rfl rfl ?_
    refine soU rfl n45 rfl rfl rfl (by rw [hl]; rfl) (by rw [hl]; rfl) ?_
    refine soV rfl rfl rfl rfl rfl rfl ?_
    repeat (first | refine nl ?_ | refine AWP.seq ?_ | refine rg ?_ | refine AWP.skip ?_ | refine AWP.block ?_ | refine YH (z := ?_) | refine YI (z := ?_) | refine ZA (z := ?_) | refine ZB (z := ?_) | refine ZC (z := ?_) | refine ZD (z := ?_) | refine ZE (z := ?_) | refine ZF (z := ?_) | refine ZJ (z := ?_) | refine ZK (z := ?_) | refine ZM (z := ?_) | refine ZH (z := ?_) | refine ZO (z := ?_) | refine ZQ (z := ?_) | refine ZR (z := ?_) | refine ZT (z := ?_) | refine ZU (z := ?_) | refine YA (z := ?_) | refine ZG (z := ?_) | refine ZI (z := ?_) | refine YC (z := ?_) | refine YD (z := ?_) | refine YE (z := ?_))
    exact AWP.ret (rets (resCW rfl (St.obj_under n45 _ _) rfl rfl (by rw [hl]; rfl) (resCW rfl (St.obj_set _ _ _) rfl rfl rfl rfl)) (.refl _) (le_two h4 h5') ⟨fin sn, (hsame sn).symm⟩)
  have c2' : ¬ (m.length : Int) ≤ c.pc := c2
  have h1' : ins c.pc m.length = true := ins_iff.2 ⟨by omega, by omega⟩
  obtain ⟨q1, e1, l1⟩ := mem_at h1'
  repeat (first | refine nl ?_ | refine AWP.seq ?_ | refine rg ?_ | refine AWP.skip ?_ | refine AWP.block ?_ | refine YH (z := ?_) | refine YI (z := ?_) | refine ZA (z := ?_) | refine ZB (z := ?_) | refine ZC (z := ?_) | refine ZD (z := ?_) | refine ZE (z := ?_) | refine ZF (z := ?_) | refine ZJ (z := ?_) | refine ZK (z := ?_) | refine ZM (z := ?_) | refine ZH (z := ?_) | refine ZO (z := ?_) | refine ZQ (z := ?_) | refine ZR (z := ?_) | refine ZT (z := ?_) | refine ZU (z := ?_) | refine YA (z := ?_) | refine ZG (z := ?_) | refine ZI (z := ?_) | refine YC (z := ?_) | refine YD (z := ?_) | refine YE (z := ?_))
  refine ixm (m := c.pc.toNat) rfl rfl rfl e1 l1 ?_
  refine lc rfl rfl ho5 q1 rfl ?_
  repeat (first | refine ZA (z := ?_) | refine ZB (z := ?_) | refine ZC (z := ?_) | refine ZD (z := ?_) | refine ZE (z := ?_) | refine ZF (z := ?_) | refine ZJ (z := ?_) | refine ZK (z := ?_) | refine ZM (z := ?_) | refine ZH (z := ?_) | refine ZO (z := ?_) | refine ZQ (z := ?_) | refine ZR (z := ?_) | refine ZT (z := ?_) | refine ZU (z := ?_) | refine YA (z := ?_) | refine ZG (z := ?_) | refine ZI (z := ?_) | refine YC (z := ?_) | refine YD (z := ?_) | refine YE (z := ?_))
  refine cle rfl rfl (rdecode_ok _ (memAt_w64 hm c.pc) _) ?_
  repeat (first | refine ZA (z := ?_) | refine ZB (z := ?_) | refine ZC (z := ?_) | refine ZD (z := ?_) | refine ZE (z := ?_) | refine ZF (z := ?_) | refine ZJ (z := ?_) | refine ZK (z := ?_) | refine ZM (z := ?_) | refine ZH (z := ?_) | refine ZO (z := ?_) | refine ZQ (z := ?_) | refine ZR (z := ?_) | refine ZT (z := ?_) | refine ZU (z := ?_) | refine YA (z := ?_) | refine ZG (z := ?_) | refine ZI (z := ?_) | refine YC (z := ?_) | refine YD (z := ?_) | refine YE (z := ?_))
  have hdi := dec_imm (memAt_w64 hm c.pc)
  generalize hD : dec (memAt m c.pc) = D at hdi
  have hV : decV (memAt m c.pc) = .tuple [.agg (insRow D.1), .int .i64 D.2] := by rw [decV, hD]
  rw [hV]
  repeat (first | refine ZA (z := ?_) | refine ZB (z := ?_) | refine ZC (z := ?_) | refine ZD (z := ?_) | refine ZE (z := ?_) | refine ZF (z := ?_) | refine ZJ (z := ?_) | refine ZK (z := ?_) | refine ZM (z := ?_) | refine ZH (z := ?_) | refine ZO (z := ?_) | refine ZQ (z := ?_) | refine ZR (z := ?_) | refine ZT (z := ?_) | refine ZU (z := ?_) | refine YA (z := ?_) | refine ZG (z := ?_) | refine ZI (z := ?_) | refine YC (z := ?_) | refine YD (z := ?_) | refine YE (z := ?_))
  repeat (first | refine nl ?_ | refine AWP.seq ?_ | refine rg ?_ | refine AWP.skip ?_ | refine AWP.block ?_ | refine YH (z := ?_) | refine YI (z := ?_) | refine ZA (z := ?_) | refine ZB (z := ?_) | refine ZC (z := ?_) | refine ZD (z := ?_) | refine ZE (z := ?_) | refine ZF (z := ?_) | refine ZJ (z := ?_) | refine ZK (z := ?_) | refine ZM (z := ?_) | refine ZH (z := ?_) | refine ZO (z := ?_) | refine ZQ (z := ?_) | refine ZR (z := ?_) | refine ZT (z := ?_) | refine ZU (z := ?_) | refine YA (z := ?_) | refine ZG (z := ?_) | refine ZI (z := ?_) | refine YC (z := ?_) | refine YD (z := ?_) | refine YE (z := ?_))
  refine AWP.cond_dec rfl (fun h2 => ?_) (fun h2 => AWP.skip ?_)
  · have sn : stepP m c = none := by unfold stepP; rw [if_neg (by rw [h1']; decide), hD, if_pos h2]
    repeat (first | refine nl ?_ | refine AWP.seq ?_ | refine rg ?_ | refine AWP.skip ?_ | refine AWP.block ?_ | refine YH (z := ?_) | refine YI (z := ?_) | refine ZA (z := ?_) | refine ZB (z := ?_) | refine ZC (z := ?_) | refine ZD (z := ?_) | refine ZE (z := ?_) | refine ZF (z := ?_) | refine ZJ (z := ?_) | refine ZK (z := ?_) | refine ZM (z := ?_) | refine ZH (z := ?_) | refine ZO (z := ?_) | refine ZQ (z := ?_) | refine ZR (z := ?_) | refine ZT (z := ?_) | refine ZU (z := ?_) | refine YA (z := ?_) | refine ZG (z := ?_) | refine ZI (z := ?_) | refine YC (z := ?_) | refine YD (z := ?_) | refine YE (z := ?_))
    refine leW rfl rfl rfl rfl (by rw [hl]; rfl) ?_
    refine bds (cs := efRow zEf) rfl rfl rfl rfl ?_
    refine soU rfl n45 rfl rfl rfl (by rw [hl]; rfl) (by rw [hl]; rfl) ?_
    refine soV rfl rfl rfl rfl rfl rfl ?_
    repeat (first | refine nl ?_ | refine AWP.seq ?_ | refine rg ?_ | refine AWP.skip ?_ | refine AWP.block ?_ | refine YH (z := ?_) | refine YI (z := ?_) | refine ZA (z := ?_) | refine ZB (z := ?_) | refine ZC (z := ?_) | refine ZD (z := ?_) | refine ZE (z := ?_) | refine ZF (z := ?_) | refine ZJ (z := ?_) | refine ZK (z := ?_) | refine ZM (z := ?_) | refine ZH (z := ?_) | refine ZO (z := ?_) | refine ZQ (z := ?_) | refine ZR (z := ?_) | refine ZT (z := ?_) | refine ZU (z := ?_) | refine YA (z := ?_) | refine ZG (z := ?_) | refine ZI (z := ?_) | refine YC (z := ?_) | refine YD (z := ?_) | refine YE (z := ?_))
    exact AWP.ret (rets (resCW rfl (St.obj_under n45 _ _) rfl rfl (by rw [hl]; rfl) (resCW rfl (St.obj_set _ _ _) rfl rfl rfl rfl)) (.refl _) (le_two h4 h5') ⟨fin sn, (hsame sn).symm⟩)
  have h2' : ¬ D.2 ≠ 0 := h2
  repeat (first | refine nl ?_ | refine AWP.seq ?_ | refine rg ?_ | refine AWP.skip ?_ | refine AWP.block ?_ | refine YH (z := ?_) | refine YI (z := ?_) | refine ZA (z := ?_) | refine ZB (z := ?_) | refine ZC (z := ?_) | refine ZD (z := ?_) | refine ZE (z := ?_) | refine ZF (z := ?_) | refine ZJ (z := ?_) | refine ZK (z := ?_) | refine ZM (z := ?_) | refine ZH (z := ?_) | refine ZO (z := ?_) | refine ZQ (z := ?_) | refine ZR (z := ?_) | refine ZT (z := ?_) | refine ZU (z := ?_) | refine YA (z := ?_) | refine ZG (z := ?_) | refine ZI (z := ?_) | refine YC (z := ?_) | refine YD (z := ?_) | refine YE (z := ?_))
  refine leW rfl rfl rfl rfl (by rw [hl]; rfl) ?_
  repeat (first | refine nl ?_ | refine AWP.seq ?_ | refine rg ?_ | refine AWP.skip ?_ | refine AWP.block ?_ | refine YH (z := ?_) | refine YI (z := ?_) | refine ZA (z := ?_) | refine ZB (z := ?_) | refine ZC (z := ?_) | refine ZD (z := ?_) | refine ZE (z := ?_) | refine ZF (z := ?_) | refine ZJ (z := ?_) | refine ZK (z := ?_) | refine ZM (z := ?_) | refine ZH (z := ?_) | refine ZO (z := ?_) | refine ZQ (z := ?_) | refine ZR (z := ?_) | refine ZT (z := ?_) | refine ZU (z := ?_) | refine YA (z := ?_) | refine ZG (z := ?_) | refine ZI (z := ?_) | refine YC (z := ?_) | refine YD (z := ?_) | refine YE (z := ?_))
  refine cle rfl rfl (rreads_ok c h D.1 _) ?_
  repeat (first | refine nl ?_ | refine AWP.seq ?_ | refine rg ?_ | refine AWP.skip ?_ | refine AWP.block ?_ | refine YH (z := ?_) | refine YI (z := ?_) | refine ZA (z := ?_) | refine ZB (z := ?_) | refine ZC (z := ?_) | refine ZD (z := ?_) | refine ZE (z := ?_) | refine ZF (z := ?_) | refine ZJ (z := ?_) | refine ZK (z := ?_) | refine ZM (z := ?_) | refine ZH (z := ?_) | refine ZO (z := ?_) | refine ZQ (z := ?_) | refine ZR (z := ?_) | refine ZT (z := ?_) | refine ZU (z := ?_) | refine YA (z := ?_) | refine ZG (z := ?_) | refine ZI (z := ?_) | refine YC (z := ?_) | refine YD (z := ?_) | refine YE (z := ?_))
  have unf : stepP m c = (if (reads c D.1).2 = true ∧ ins (reads c D.1).1 m.length = false then none else
      let x := exec c D.1 (if (reads c D.1).2 = true then memAt m (reads c D.1).1 else 0)
      if x.2 ≠ 0 ∨ (x.1.stores = true ∧ ins x.1.addr m.length = false) then none else some x.1) := by
    unfold stepP
    rw [if_neg (by rw [h1']; decide), hD, if_neg h2']
  refine midp (¬ ((reads c D.1).2 = true ∧ ins (reads c D.1).1 m.length = false)) [(11, .int .i64 (if (reads c D.1).2 = true then memAt m (reads c D.1).1 else 0)), (7, .eptr 5 [insRow D.1] 0 0), (5, .cptr o5 22 0 0), (4, .cptr o4 17 0 0), (3, .eptr 17 [cpRow c] 0 0), (0, .msl o 1 0 m.length)] ((st.set o4 (.cells 35 17 [cpRow zCp])).set o5 (.cells 40 22 [efRow zEf])) ?_ fun hin => ?_
  · refine AWP.cond_bool rfl (fun h3 => ?_) (fun h3 => AWP.skip ?_)
    · repeat (first | refine nl ?_ | refine AWP.seq ?_ | refine rg ?_ | refine AWP.skip ?_ | refine AWP.block ?_ | refine YH (z := ?_) | refine YI (z := ?_) | refine ZA (z := ?_) | refine ZB (z := ?_) | refine ZC (z := ?_) | refine ZD (z := ?_) | refine ZE (z := ?_) | refine ZF (z := ?_) | refine ZJ (z := ?_) | refine ZK (z := ?_) | refine ZM (z := ?_) | refine ZH (z := ?_) | refine ZO (z := ?_) | refine ZQ (z := ?_) | refine ZR (z := ?_) | refine ZT (z := ?_) | refine ZU (z := ?_) | refine YA (z := ?_) | refine ZG (z := ?_) | refine ZI (z := ?_) | refine YC (z := ?_) | refine YD (z := ?_) | refine YE (z := ?_))
      refine gS rfl (fun d1 => ?_) (fun d1 => ?_)
      · have sn : stepP m c = none := by rw [unf, if_pos ⟨h3, inN _ (.inl d1)⟩]
        repeat (first | refine nl ?_ | refine AWP.seq ?_ | refine rg ?_ | refine AWP.skip ?_ | refine AWP.block ?_ | refine YH (z := ?_) | refine YI (z := ?_) | refine ZA (z := ?_) | refine ZB (z := ?_) | refine ZC (z := ?_) | refine ZD (z := ?_) | refine ZE (z := ?_) | refine ZF (z := ?_) | refine ZJ (z := ?_) | refine ZK (z := ?_) | refine ZM (z := ?_) | refine ZH (z := ?_) | refine ZO (z := ?_) | refine ZQ (z := ?_) | refine ZR (z := ?_) | refine ZT (z := ?_) | refine ZU (z := ?_) | refine YA (z := ?_) | refine ZG (z := ?_) | refine ZI (z := ?_) | refine YC (z := ?_) | refine YD (z := ?_) | refine YE (z := ?_))
        refine leW rfl rfl rfl rfl (by rw [hl]; rfl) ?_
        refine bds (cs := efRow zEf) rfl rfl rfl rfl ?_
        refine soU rfl n45 rfl rfl rfl (by rw [hl]; rfl) (by rw [hl]; rfl) ?_
        refine soV rfl rfl rfl rfl rfl rfl ?_
        repeat (first | refine nl ?_ | refine AWP.seq ?_ | refine rg ?_ | refine AWP.skip ?_ | refine AWP.block ?_ | refine YH (z := ?_) | refine YI (z := ?_) | refine ZA (z := ?_) | refine ZB (z := ?_) | refine ZC (z := ?_) | refine ZD (z := ?_) | refine ZE (z := ?_) | refine ZF (z := ?_) | refine ZJ (z := ?_) | refine ZK (z := ?_) | refine ZM (z := ?_) | refine ZH (z := ?_) | refine ZO (z := ?_) | refine ZQ (z := ?_) | refine ZR (z := ?_) | refine ZT (z := ?_) | refine ZU (z := ?_) | refine YA (z := ?_) | refine ZG (z := ?_) | refine ZI (z := ?_) | refine YC (z := ?_) | refine YD (z := ?_) | refine YE (z := ?_))
        exact AWP.ret (rets (resCW rfl (St.obj_under n45 _ _) rfl rfl (by rw [hl]; rfl) (resCW rfl (St.obj_set _ _ _) rfl rfl rfl rfl)) (.refl _) (le_two h4 h5') ⟨fin sn, (hsame sn).symm⟩)
      repeat (first | refine nl ?_ | refine AWP.seq ?_ | refine rg ?_ | refine AWP.skip ?_ | refine AWP.block ?_ | refine YH (z := ?_) | refine YI (z := ?_) | refine ZA (z := ?_) | refine ZB (z := ?_) | refine ZC (z := ?_) | refine ZD (z := ?_) | refine ZE (z := ?_) | refine ZF (z := ?_) | refine ZJ (z := ?_) | refine ZK (z := ?_) | refine ZM (z := ?_) | refine ZH (z := ?_) | refine ZO (z := ?_) | refine ZQ (z := ?_) | refine ZR (z := ?_) | refine ZT (z := ?_) | refine ZU (z := ?_) | refine YA (z := ?_) | refine ZG (z := ?_) | refine ZI (z := ?_) | refine YC (z := ?_) | refine YD (z := ?_) | refine YE (z := ?_))
      refine AWP.cond_dec rfl (fun d2 => ?_) (fun d2 => AWP.skip ?_)
      · have sn : stepP m c = none := by rw [unf, if_pos ⟨h3, inN _ (.inr d2)⟩]
        repeat (first | refine nl ?_ | refine AWP.seq ?_ | refine rg ?_ | refine AWP.skip ?_ | refine AWP.block ?_ | refine YH (z := ?_) | refine YI (z := ?_) | refine ZA (z := ?_) | refine ZB (z := ?_) | refine ZC (z := ?_) | refine ZD (z := ?_) | refine ZE (z := ?_) | refine ZF (z := ?_) | refine ZJ (z := ?_) | refine ZK (z := ?_) | refine ZM (z := ?_) | refine ZH (z := ?_) | refine ZO (z := ?_) | refine ZQ (z := ?_) | refine ZR (z := ?_) | refine ZT (z := ?_) | refine ZU (z := ?_) | refine YA (z := ?_) | refine ZG (z := ?_) | refine ZI (z := ?_) | refine YC (z := ?_) | refine YD (z := ?_) | refine YE (z := ?_))
        refine leW rfl rfl rfl rfl (by rw [hl]; rfl) ?_
        refine bds (cs := efRow zEf) rfl rfl rfl rfl ?_
        refine soU rfl n45 rfl rfl rfl (by rw [hl]; rfl) (by rw [hl]; rfl) ?_
        refine soV rfl rfl rfl rfl rfl rfl ?_
        repeat (first | refine nl ?_ | refine AWP.seq ?_ | refine rg ?_ | refine AWP.skip ?_ | refine AWP.block ?_ | refine YH (z := ?_) | refine YI (z := ?_) | refine ZA (z := ?_) | refine ZB (z := ?_) | refine ZC (z := ?_) | refine ZD (z := ?_) | refine ZE (z := ?_) | refine ZF (z := ?_) | refine ZJ (z := ?_) | refine ZK (z := ?_) | refine ZM (z := ?_) | refine ZH (z := ?_) | refine ZO (z := ?_) | refine ZQ (z := ?_) | refine ZR (z := ?_) | refine ZT (z := ?_) | refine ZU (z := ?_) | refine YA (z := ?_) | refine ZG (z := ?_) | refine ZI (z := ?_) | refine YC (z := ?_) | refine YD (z := ?_) | refine YE (z := ?_))
        exact AWP.ret (rets (resCW rfl (St.obj_under n45 _ _) rfl rfl (by rw [hl]; rfl) (resCW rfl (St.obj_set _ _ _) rfl rfl rfl rfl)) (.refl _) (le_two h4 h5') ⟨fin sn, (hsame sn).symm⟩)
      have d1' : ¬ (reads c D.1).1 < 0 := d1
      have d2' : ¬ (m.length : Int) ≤ (reads c D.1).1 := d2
      have h5 : ins (reads c D.1).1 m.length = true := ins_iff.2 ⟨by omega, by omega⟩
      obtain ⟨q2, e2, l2⟩ := mem_at h5
      repeat (first | refine nl ?_ | refine AWP.seq ?_ | refine rg ?_ | refine AWP.skip ?_ | refine AWP.block ?_ | refine YH (z := ?_) | refine YI (z := ?_) | refine ZA (z := ?_) | refine ZB (z := ?_) | refine ZC (z := ?_) | refine ZD (z := ?_) | refine ZE (z := ?_) | refine ZF (z := ?_) | refine ZJ (z := ?_) | refine ZK (z := ?_) | refine ZM (z := ?_) | refine ZH (z := ?_) | refine ZO (z := ?_) | refine ZQ (z := ?_) | refine ZR (z := ?_) | refine ZT (z := ?_) | refine ZU (z := ?_) | refine YA (z := ?_) | refine ZG (z := ?_) | refine ZI (z := ?_) | refine YC (z := ?_) | refine YD (z := ?_) | refine YE (z := ?_))
      refine ixm (m := (reads c D.1).1.toNat) rfl rfl rfl e2 l2 ?_
      refine lc rfl rfl ho5 q2 rfl ?_
      repeat (first | refine nl ?_ | refine AWP.seq ?_ | refine rg ?_ | refine AWP.skip ?_ | refine AWP.block ?_ | refine YH (z := ?_) | refine YI (z := ?_) | refine ZA (z := ?_) | refine ZB (z := ?_) | refine ZC (z := ?_) | refine ZD (z := ?_) | refine ZE (z := ?_) | refine ZF (z := ?_) | refine ZJ (z := ?_) | refine ZK (z := ?_) | refine ZM (z := ?_) | refine ZH (z := ?_) | refine ZO (z := ?_) | refine ZQ (z := ?_) | refine ZR (z := ?_) | refine ZT (z := ?_) | refine ZU (z := ?_) | refine YA (z := ?_) | refine ZG (z := ?_) | refine ZI (z := ?_) | refine YC (z := ?_) | refine YD (z := ?_) | refine YE (z := ?_))
      refine ⟨?_, .refl _, fun h => by rw [h5] at h; exact absurd h.2 (by decide)⟩
      rw [if_pos h3]
      exact (tl6 rfl rfl rfl rfl rfl rfl)
    · refine ⟨?_, .refl _, fun h => absurd h.1 (by rw [h3]; decide)⟩
      rw [if_neg (by rw [h3]; decide)]
      exact (tl6 rfl rfl rfl rfl rfl rfl)
  rw [if_neg hin] at unf
  generalize (if (reads c D.1).2 = true then memAt m (reads c D.1).1 else 0) = L at unf
  have hxl := exec_len h D.1 L
  repeat (first | refine nl ?_ | refine AWP.seq ?_ | refine rg ?_ | refine AWP.skip ?_ | refine AWP.block ?_ | refine YH (z := ?_) | refine YI (z := ?_) | refine ZA (z := ?_) | refine ZB (z := ?_) | refine ZC (z := ?_) | refine ZD (z := ?_) | refine ZE (z := ?_) | refine ZF (z := ?_) | refine ZJ (z := ?_) | refine ZK (z := ?_) | refine ZM (z := ?_) | refine ZH (z := ?_) | refine ZO (z := ?_) | refine ZQ (z := ?_) | refine ZR (z := ?_) | refine ZT (z := ?_) | refine ZU (z := ?_) | refine YA (z := ?_) | refine ZG (z := ?_) | refine ZI (z := ?_) | refine YC (z := ?_) | refine YD (z := ?_) | refine YE (z := ?_))
  refine leW rfl rfl rfl rfl (by rw [hl]; rfl) ?_
  repeat (first | refine nl ?_ | refine AWP.seq ?_ | refine rg ?_ | refine AWP.skip ?_ | refine AWP.block ?_ | refine YH (z := ?_) | refine YI (z := ?_) | refine ZA (z := ?_) | refine ZB (z := ?_) | refine ZC (z := ?_) | refine ZD (z := ?_) | refine ZE (z := ?_) | refine ZF (z := ?_) | refine ZJ (z := ?_) | refine ZK (z := ?_) | refine ZM (z := ?_) | refine ZH (z := ?_) | refine ZO (z := ?_) | refine ZQ (z := ?_) | refine ZR (z := ?_) | refine ZT (z := ?_) | refine ZU (z := ?_) | refine YA (z := ?_) | refine ZG (z := ?_) | refine ZI (z := ?_) | refine YC (z := ?_) | refine YD (z := ?_) | refine YE (z := ?_))
  refine cle rfl rfl (rexecute_ok c h D.1 L _) ?_
  generalize hX : exec c D.1 L = X at unf hxl
  have hV2 : execV c D.1 L = .tuple [.agg (efRow X.1), .int .i64 X.2] := by rw [execV, hX]
  rw [hV2]
  repeat (first | refine nl ?_ | refine AWP.seq ?_ | refine rg ?_ | refine AWP.skip ?_ | refine AWP.block ?_ | refine YH (z := ?_) | refine YI (z := ?_) | refine ZA (z := ?_) | refine ZB (z := ?_) | refine ZC (z := ?_) | refine ZD (z := ?_) | refine ZE (z := ?_) | refine ZF (z := ?_) | refine ZJ (z := ?_) | refine ZK (z := ?_) | refine ZM (z := ?_) | refine ZH (z := ?_) | refine ZO (z := ?_) | refine ZQ (z := ?_) | refine ZR (z := ?_) | refine ZT (z := ?_) | refine ZU (z := ?_) | refine YA (z := ?_) | refine ZG (z := ?_) | refine ZI (z := ?_) | refine YC (z := ?_) | refine YD (z := ?_) | refine YE (z := ?_))
  refine al rfl rfl fun o12 h12 => ?_
  refine soN 12 rfl rfl rfl rfl (by rw [ef_len hxl]; rfl) (by rw [ef_len hxl]; rfl) h12 ?_
  obtain ⟨q17, q18, q19, q20, q21⟩ := ef_cols hxl
  repeat (first | refine nl ?_ | refine AWP.seq ?_ | refine rg ?_ | refine AWP.skip ?_ | refine AWP.block ?_ | refine YH (z := ?_) | refine YI (z := ?_) | refine ZA (z := ?_) | refine ZB (z := ?_) | refine ZC (z := ?_) | refine ZD (z := ?_) | refine ZE (z := ?_) | refine ZF (z := ?_) | refine ZJ (z := ?_) | refine ZK (z := ?_) | refine ZM (z := ?_) | refine ZH (z := ?_) | refine ZO (z := ?_) | refine ZQ (z := ?_) | refine ZR (z := ?_) | refine ZT (z := ?_) | refine ZU (z := ?_) | refine YA (z := ?_) | refine ZG (z := ?_) | refine ZI (z := ?_) | refine YC (z := ?_) | refine YD (z := ?_) | refine YE (z := ?_))
  refine gS rfl (fun h5 => ?_) (fun h5 => ?_)
  · have sn : stepP m c = none := by rw [unf, if_pos (.inl h5)]
    repeat (first | refine nl ?_ | refine AWP.seq ?_ | refine rg ?_ | refine AWP.skip ?_ | refine AWP.block ?_ | refine YH (z := ?_) | refine YI (z := ?_) | refine ZA (z := ?_) | refine ZB (z := ?_) | refine ZC (z := ?_) | refine ZD (z := ?_) | refine ZE (z := ?_) | refine ZF (z := ?_) | refine ZJ (z := ?_) | refine ZK (z := ?_) | refine ZM (z := ?_) | refine ZH (z := ?_) | refine ZO (z := ?_) | refine ZQ (z := ?_) | refine ZR (z := ?_) | refine ZT (z := ?_) | refine ZU (z := ?_) | refine YA (z := ?_) | refine ZG (z := ?_) | refine ZI (z := ?_) | refine YC (z := ?_) | refine YD (z := ?_) | refine YE (z := ?_))
    refine leW rfl rfl rfl rfl (by rw [hl]; rfl) ?_
    refine bds (cs := efRow zEf) rfl rfl rfl rfl ?_
    refine soU rfl n45 rfl rfl rfl (by rw [hl]; rfl) (by rw [hl]; rfl) ?_
    refine soV rfl rfl rfl rfl rfl rfl ?_
    repeat (first | refine nl ?_ | refine AWP.seq ?_ | refine rg ?_ | refine AWP.skip ?_ | refine AWP.block ?_ | refine YH (z := ?_) | refine YI (z := ?_) | refine ZA (z := ?_) | refine ZB (z := ?_) | refine ZC (z := ?_) | refine ZD (z := ?_) | refine ZE (z := ?_) | refine ZF (z := ?_) | refine ZJ (z := ?_) | refine ZK (z := ?_) | refine ZM (z := ?_) | refine ZH (z := ?_) | refine ZO (z := ?_) | refine ZQ (z := ?_) | refine ZR (z := ?_) | refine ZT (z := ?_) | refine ZU (z := ?_) | refine YA (z := ?_) | refine ZG (z := ?_) | refine ZI (z := ?_) | refine YC (z := ?_) | refine YD (z := ?_) | refine YE (z := ?_))
    exact AWP.ret (rets (resCW rfl (St.obj_under n45 _ _) rfl rfl (by rw [hl]; rfl) (resCW rfl (St.obj_set _ _ _) rfl rfl rfl rfl)) (.refl _) (le_two h4 h5') ⟨fin sn, (hsame sn).symm⟩)
  have h5'' : ¬ X.2 ≠ 0 := h5
  repeat (first | refine nl ?_ | refine AWP.seq ?_ | refine rg ?_ | refine AWP.skip ?_ | refine AWP.block ?_ | refine YH (z := ?_) | refine YI (z := ?_) | refine ZA (z := ?_) | refine ZB (z := ?_) | refine ZC (z := ?_) | refine ZD (z := ?_) | refine ZE (z := ?_) | refine ZF (z := ?_) | refine ZJ (z := ?_) | refine ZK (z := ?_) | refine ZM (z := ?_) | refine ZH (z := ?_) | refine ZO (z := ?_) | refine ZQ (z := ?_) | refine ZR (z := ?_) | refine ZT (z := ?_) | refine ZU (z := ?_) | refine YA (z := ?_) | refine ZG (z := ?_) | refine ZI (z := ?_) | refine YC (z := ?_) | refine YD (z := ?_) | refine YE (z := ?_))
  refine gSB rfl (fun h6 => ?_) (fun h6 => ?_)
  · repeat (first | refine nl ?_ | refine AWP.seq ?_ | refine rg ?_ | refine AWP.skip ?_ | refine AWP.block ?_ | refine YH (z := ?_) | refine YI (z := ?_) | refine ZA (z := ?_) | refine ZB (z := ?_) | refine ZC (z := ?_) | refine ZD (z := ?_) | refine ZE (z := ?_) | refine ZF (z := ?_) | refine ZJ (z := ?_) | refine ZK (z := ?_) | refine ZM (z := ?_) | refine ZH (z := ?_) | refine ZO (z := ?_) | refine ZQ (z := ?_) | refine ZR (z := ?_) | refine ZT (z := ?_) | refine ZU (z := ?_) | refine YA (z := ?_) | refine ZG (z := ?_) | refine ZI (z := ?_) | refine YC (z := ?_) | refine YD (z := ?_) | refine YE (z := ?_))
    refine gS rfl (fun d1 => ?_) (fun d1 => ?_)
    · have sn : stepP m c = none := by rw [unf, if_pos (.inr ⟨h6, inN _ (.inl d1)⟩)]
      repeat (first | refine nl ?_ | refine AWP.seq ?_ | refine rg ?_ | refine AWP.skip ?_ | refine AWP.block ?_ | refine YH (z := ?_) | refine YI (z := ?_) | refine ZA (z := ?_) | refine ZB (z := ?_) | refine ZC (z := ?_) | refine ZD (z := ?_) | refine ZE (z := ?_) | refine ZF (z := ?_) | refine ZJ (z := ?_) | refine ZK (z := ?_) | refine ZM (z := ?_) | refine ZH (z := ?_) | refine ZO (z := ?_) | refine ZQ (z := ?_) | refine ZR (z := ?_) | refine ZT (z := ?_) | refine ZU (z := ?_) | refine YA (z := ?_) | refine ZG (z := ?_) | refine ZI (z := ?_) | refine YC (z := ?_) | refine YD (z := ?_) | refine YE (z := ?_))
      refine leW rfl rfl rfl rfl (by rw [hl]; rfl) ?_
      refine bds (cs := efRow zEf) rfl rfl rfl rfl ?_
      refine soU rfl n45 rfl rfl rfl (by rw [hl]; rfl) (by rw [hl]; rfl) ?_
      refine soV rfl rfl rfl rfl rfl rfl ?_
      repeat (first | refine nl ?_ | refine AWP.seq ?_ | refine rg ?_ | refine AWP.skip ?_ | refine AWP.block ?_ | refine YH (z := ?_) | refine YI (z := ?_) | refine ZA (z := ?_) | refine ZB (z := ?_) | refine ZC (z := ?_) | refine ZD (z := ?_) | refine ZE (z := ?_) | refine ZF (z := ?_) | refine ZJ (z := ?_) | refine ZK (z := ?_) | refine ZM (z := ?_) | refine ZH (z := ?_) | refine ZO (z := ?_) | refine ZQ (z := ?_) | refine ZR (z := ?_) | refine ZT (z := ?_) | refine ZU (z := ?_) | refine YA (z := ?_) | refine ZG (z := ?_) | refine ZI (z := ?_) | refine YC (z := ?_) | refine YD (z := ?_) | refine YE (z := ?_))
      exact AWP.ret (rets (resCW rfl (St.obj_under n45 _ _) rfl rfl (by rw [hl]; rfl) (resCW rfl (St.obj_set _ _ _) rfl rfl rfl rfl)) (.refl _) (le_two h4 h5') ⟨fin sn, (hsame sn).symm⟩)
    repeat (first | refine nl ?_ | refine AWP.seq ?_ | refine rg ?_ | refine AWP.skip ?_ | refine AWP.block ?_ | refine YH (z := ?_) | refine YI (z := ?_) | refine ZA (z := ?_) | refine ZB (z := ?_) | refine ZC (z := ?_) | refine ZD (z := ?_) | refine ZE (z := ?_) | refine ZF (z := ?_) | refine ZJ (z := ?_) | refine ZK (z := ?_) | refine ZM (z := ?_) | refine ZH (z := ?_) | refine ZO (z := ?_) | refine ZQ (z := ?_) | refine ZR (z := ?_) | refine ZT (z := ?_) | refine ZU (z := ?_) | refine YA (z := ?_) | refine ZG (z := ?_) | refine ZI (z := ?_) | refine YC (z := ?_) | refine YD (z := ?_) | refine YE (z := ?_))
    refine AWP.cond_dec rfl (fun d2 => ?_) (fun d2 => AWP.skip ?_)
    · have sn : stepP m c = none := by rw [unf, if_pos (.inr ⟨h6, inN _ (.inr d2)⟩)]
      repeat (first | refine nl ?_ | refine AWP.seq ?_ | refine rg ?_ | refine AWP.skip ?_ | refine AWP.block ?_ | refine YH (z := ?_) | refine YI (z := ?_) | refine ZA (z := ?_) | refine ZB (z := ?_) | refine ZC (z := ?_) | refine ZD (z := ?_) | refine ZE (z := ?_) | refine ZF (z := ?_) | refine ZJ (z := ?_) | refine ZK (z := ?_) | refine ZM (z := ?_) | refine ZH (z := ?_) | refine ZO (z := ?_) | refine ZQ (z := ?_) | refine ZR (z := ?_) | refine ZT (z := ?_) | refine ZU (z := ?_) | refine YA (z := ?_) | refine ZG (z := ?_) | refine ZI (z := ?_) | refine YC (z := ?_) | refine YD (z := ?_) | refine YE (z := ?_))
      refine leW rfl rfl rfl rfl (by rw [hl]; rfl) ?_
      refine bds (cs := efRow zEf) rfl rfl rfl rfl ?_
      refine soU rfl n45 rfl rfl rfl (by rw [hl]; rfl) (by rw [hl]; rfl) ?_
      refine soV rfl rfl rfl rfl rfl rfl ?_
      repeat (first | refine nl ?_ | refine AWP.seq ?_ | refine rg ?_ | refine AWP.skip ?_ | refine AWP.block ?_ | refine YH (z := ?_) | refine YI (z := ?_) | refine ZA (z := ?_) | refine ZB (z := ?_) | refine ZC (z := ?_) | refine ZD (z := ?_) | refine ZE (z := ?_) | refine ZF (z := ?_) | refine ZJ (z := ?_) | refine ZK (z := ?_) | refine ZM (z := ?_) | refine ZH (z := ?_) | refine ZO (z := ?_) | refine ZQ (z := ?_) | refine ZR (z := ?_) | refine ZT (z := ?_) | refine ZU (z := ?_) | refine YA (z := ?_) | refine ZG (z := ?_) | refine ZI (z := ?_) | refine YC (z := ?_) | refine YD (z := ?_) | refine YE (z := ?_))
      exact AWP.ret (rets (resCW rfl (St.obj_under n45 _ _) rfl rfl (by rw [hl]; rfl) (resCW rfl (St.obj_set _ _ _) rfl rfl rfl rfl)) (.refl _) (le_two h4 h5') ⟨fin sn, (hsame sn).symm⟩)
    have d1' : ¬ X.1.addr < 0 := d1
    have d2' : ¬ (m.length : Int) ≤ X.1.addr := d2
    have h8 : ins X.1.addr m.length = true := ins_iff.2 ⟨by omega, by omega⟩
    have so_ : stepP m c = some X.1 := by rw [unf, if_neg (by rw [h8]; intro hh; rcases hh with hh | hh; exact h5'' hh; exact absurd hh.2 (by decide))]
    obtain ⟨q2, e2, l2⟩ := mem_at h8
    repeat (first | refine nl ?_ | refine AWP.seq ?_ | refine rg ?_ | refine AWP.skip ?_ | refine AWP.block ?_ | refine YH (z := ?_) | refine YI (z := ?_) | refine ZA (z := ?_) | refine ZB (z := ?_) | refine ZC (z := ?_) | refine ZD (z := ?_) | refine ZE (z := ?_) | refine ZF (z := ?_) | refine ZJ (z := ?_) | refine ZK (z := ?_) | refine ZM (z := ?_) | refine ZH (z := ?_) | refine ZO (z := ?_) | refine ZQ (z := ?_) | refine ZR (z := ?_) | refine ZT (z := ?_) | refine ZU (z := ?_) | refine YA (z := ?_) | refine ZG (z := ?_) | refine ZI (z := ?_) | refine YC (z := ?_) | refine YD (z := ?_) | refine YE (z := ?_))
    refine ixm (m := X.1.addr.toNat) rfl rfl rfl e2 l2 ?_
    refine so (rows' := (m.set X.1.addr.toNat X.1.word).map ivRow) rfl rfl rfl ho5 q2 rfl rfl rfl (by rw [Nat.zero_add, List.map_set]; rfl) ?_
    rw [St.swap3 no4 no5]
    repeat (first | refine nl ?_ | refine AWP.seq ?_ | refine AWP.skip ?_ | refine AWP.block ?_)
    refine AWP.drawX rfl 4 [3] [((st.set o (.cells 3 1 ((m.set X.1.addr.toNat X.1.word).map ivRow))).set o4 (.cells 35 17 [cpRow zCp])).set o5 (.cells 40 22 [efRow zEf]), ((st.set o (.cells 3 1 ((m.set X.1.addr.toNat X.1.word).map ivRow))).set o4 (.cells 35 17 [cpRow X.1.cpu])).set o5 (.cells 40 22 [efRow zEf])] (st.set o (.cells 3 1 ((m.set X.1.addr.toNat X.1.word).map ivRow))) rfl rfl (le_two (by rw [St.obj_set_ne (Ne.symm no4)]; exact h4) (by rw [St.obj_set_ne (Ne.symm no5)]; exact h5')) ?_
    repeat (first | refine dsS rfl rfl ?_ | refine dpS (h := fun _ _ => ZD (z := nz)) (z := ?_) | refine dpS (h := fun _ _ => ZE (z := nz)) (z := ?_) | refine dpS (h := fun _ _ => ZF (z := nz)) (z := ?_) | refine dpS (h := fun _ _ => ZC (z := nz)) (z := ?_) | refine dpS (h := fun _ _ => ZJ (z := nz)) (z := ?_) | refine dpS (h := fun _ _ => ZK (z := nz)) (z := ?_) | refine dpS (h := fun _ _ => ZM (z := nz)) (z := ?_) | refine dpS (h := fun _ _ => ZH (z := nz)) (z := ?_) | refine dpS (h := fun _ _ => ZQ (z := nz)) (z := ?_) | refine dpS (h := fun _ _ => ZO (z := nz)) (z := ?_) | refine dpS (h := fun _ _ => ZG (z := nz)) (z := ?_) | refine dpS (h := fun _ _ => ZI (z := nz)) (z := ?_) | refine dpS (h := fun _ _ => YC (z := nz)) (z := ?_) | refine dpS (h := fun _ _ => YJ (z := nz)) (z := ?_) | refine dpS (h := fun _ _ => YK (z := nz)) (z := ?_) | refine dpS (h := fun _ _ => YL (z := nz)) (z := ?_) | refine dpS (h := fun _ _ => YM (z := nz)) (z := ?_))
    refine dqS rfl rfl rfl (fun st1 hle => le rfl rfl rfl (by exact ef_sel hxl) (nl ⟨_, rfl, rfl, rfl⟩)) ?_
    repeat (first | refine dsS rfl rfl ?_ | refine dpS (h := fun _ _ => ZD (z := nz)) (z := ?_) | refine dpS (h := fun _ _ => ZE (z := nz)) (z := ?_) | refine dpS (h := fun _ _ => ZF (z := nz)) (z := ?_) | refine dpS (h := fun _ _ => ZC (z := nz)) (z := ?_) | refine dpS (h := fun _ _ => ZJ (z := nz)) (z := ?_) | refine dpS (h := fun _ _ => ZK (z := nz)) (z := ?_) | refine dpS (h := fun _ _ => ZM (z := nz)) (z := ?_) | refine dpS (h := fun _ _ => ZH (z := nz)) (z := ?_) | refine dpS (h := fun _ _ => ZQ (z := nz)) (z := ?_) | refine dpS (h := fun _ _ => ZO (z := nz)) (z := ?_) | refine dpS (h := fun _ _ => ZG (z := nz)) (z := ?_) | refine dpS (h := fun _ _ => ZI (z := nz)) (z := ?_) | refine dpS (h := fun _ _ => YC (z := nz)) (z := ?_) | refine dpS (h := fun _ _ => YJ (z := nz)) (z := ?_) | refine dpS (h := fun _ _ => YK (z := nz)) (z := ?_) | refine dpS (h := fun _ _ => YL (z := nz)) (z := ?_) | refine dpS (h := fun _ _ => YM (z := nz)) (z := ?_))
    refine dqS rfl rfl rfl (fun st1 hle => leW rfl rfl rfl rfl (by rw [ef_len hxl]; rfl) (nl ⟨_, rfl, rfl, rfl⟩)) ?_
    refine deS rfl rfl rfl (le_two (by rw [St.obj_set_ne (Ne.symm no4)]; exact h4) (by rw [St.obj_set_ne (Ne.symm no5)]; exact h5')) rfl rfl (soU rfl n45 rfl rfl rfl (by rw [cp_len hxl]; rfl) (by rw [cp_len hxl]; rfl) (nl ⟨rfl, rfl⟩)) ?_
    refine dnS rfl ?_
    refine soV rfl rfl rfl rfl (by rw [ef_len hxl]; rfl) (by rw [ef_len hxl]; rfl) ?_
    repeat (first | refine nl ?_ | refine AWP.seq ?_ | refine rg ?_ | refine AWP.skip ?_ | refine AWP.block ?_ | refine YH (z := ?_) | refine YI (z := ?_) | refine ZA (z := ?_) | refine ZB (z := ?_) | refine ZC (z := ?_) | refine ZD (z := ?_) | refine ZE (z := ?_) | refine ZF (z := ?_) | refine ZJ (z := ?_) | refine ZK (z := ?_) | refine ZM (z := ?_) | refine ZH (z := ?_) | refine ZO (z := ?_) | refine ZQ (z := ?_) | refine ZR (z := ?_) | refine ZT (z := ?_) | refine ZU (z := ?_) | refine YA (z := ?_) | refine ZG (z := ?_) | refine ZI (z := ?_) | refine YC (z := ?_) | refine YD (z := ?_) | refine YE (z := ?_))
    refine AWP.ret (rets (resCW rfl (St.obj_under n45 _ _) rfl rfl (by rw [cp_len hxl]; rfl) (resCW rfl (St.obj_set _ _ _) rfl rfl (by rw [ef_len hxl]; rfl) rfl)) (.refl _) (le_two (by rw [St.obj_set_ne (Ne.symm no4)]; exact h4) (by rw [St.obj_set_ne (Ne.symm no5)]; exact h5')) ⟨by rw [rstepV, so_]; rfl, ?_⟩)
    rw [rstepM, so_]; show _ = st.set o (memC (memNx m X.1))
    rw [show memNx m X.1 = m.set X.1.addr.toNat X.1.word from if_pos h6]; rfl
  · have so_ : stepP m c = some X.1 := by rw [unf, if_neg (by rw [h6]; intro hh; rcases hh with hh | hh; exact h5'' hh; exact absurd hh.1 (by decide))]
    repeat (first | refine nl ?_ | refine AWP.seq ?_ | refine rg ?_ | refine AWP.skip ?_ | refine AWP.block ?_ | refine YH (z := ?_) | refine YI (z := ?_) | refine ZA (z := ?_) | refine ZB (z := ?_) | refine ZC (z := ?_) | refine ZD (z := ?_) | refine ZE (z := ?_) | refine ZF (z := ?_) | refine ZJ (z := ?_) | refine ZK (z := ?_) | refine ZM (z := ?_) | refine ZH (z := ?_) | refine ZO (z := ?_) | refine ZQ (z := ?_) | refine ZR (z := ?_) | refine ZT (z := ?_) | refine ZU (z := ?_) | refine YA (z := ?_) | refine ZG (z := ?_) | refine ZI (z := ?_) | refine YC (z := ?_) | refine YD (z := ?_) | refine YE (z := ?_))
    repeat (first | refine nl ?_ | refine AWP.seq ?_ | refine AWP.skip ?_ | refine AWP.block ?_)
    refine AWP.drawX rfl 4 [3] [((st).set o4 (.cells 35 17 [cpRow zCp])).set o5 (.cells 40 22 [efRow zEf]), ((st).set o4 (.cells 35 17 [cpRow X.1.cpu])).set o5 (.cells 40 22 [efRow zEf])] (st) rfl rfl (le_two h4 h5') ?_
    repeat (first | refine dsS rfl rfl ?_ | refine dpS (h := fun _ _ => ZD (z := nz)) (z := ?_) | refine dpS (h := fun _ _ => ZE (z := nz)) (z := ?_) | refine dpS (h := fun _ _ => ZF (z := nz)) (z := ?_) | refine dpS (h := fun _ _ => ZC (z := nz)) (z := ?_) | refine dpS (h := fun _ _ => ZJ (z := nz)) (z := ?_) | refine dpS (h := fun _ _ => ZK (z := nz)) (z := ?_) | refine dpS (h := fun _ _ => ZM (z := nz)) (z := ?_) | refine dpS (h := fun _ _ => ZH (z := nz)) (z := ?_) | refine dpS (h := fun _ _ => ZQ (z := nz)) (z := ?_) | refine dpS (h := fun _ _ => ZO (z := nz)) (z := ?_) | refine dpS (h := fun _ _ => ZG (z := nz)) (z := ?_) | refine dpS (h := fun _ _ => ZI (z := nz)) (z := ?_) | refine dpS (h := fun _ _ => YC (z := nz)) (z := ?_) | refine dpS (h := fun _ _ => YJ (z := nz)) (z := ?_) | refine dpS (h := fun _ _ => YK (z := nz)) (z := ?_) | refine dpS (h := fun _ _ => YL (z := nz)) (z := ?_) | refine dpS (h := fun _ _ => YM (z := nz)) (z := ?_))
    refine dqS rfl rfl rfl (fun st1 hle => le rfl rfl rfl (by exact ef_sel hxl) (nl ⟨_, rfl, rfl, rfl⟩)) ?_
    repeat (first | refine dsS rfl rfl ?_ | refine dpS (h := fun _ _ => ZD (z := nz)) (z := ?_) | refine dpS (h := fun _ _ => ZE (z := nz)) (z := ?_) | refine dpS (h := fun _ _ => ZF (z := nz)) (z := ?_) | refine dpS (h := fun _ _ => ZC (z := nz)) (z := ?_) | refine dpS (h := fun _ _ => ZJ (z := nz)) (z := ?_) | refine dpS (h := fun _ _ => ZK (z := nz)) (z := ?_) | refine dpS (h := fun _ _ => ZM (z := nz)) (z := ?_) | refine dpS (h := fun _ _ => ZH (z := nz)) (z := ?_) | refine dpS (h := fun _ _ => ZQ (z := nz)) (z := ?_) | refine dpS (h := fun _ _ => ZO (z := nz)) (z := ?_) | refine dpS (h := fun _ _ => ZG (z := nz)) (z := ?_) | refine dpS (h := fun _ _ => ZI (z := nz)) (z := ?_) | refine dpS (h := fun _ _ => YC (z := nz)) (z := ?_) | refine dpS (h := fun _ _ => YJ (z := nz)) (z := ?_) | refine dpS (h := fun _ _ => YK (z := nz)) (z := ?_) | refine dpS (h := fun _ _ => YL (z := nz)) (z := ?_) | refine dpS (h := fun _ _ => YM (z := nz)) (z := ?_))
    refine dqS rfl rfl rfl (fun st1 hle => leW rfl rfl rfl rfl (by rw [ef_len hxl]; rfl) (nl ⟨_, rfl, rfl, rfl⟩)) ?_
    refine deS rfl rfl rfl (le_two h4 h5') rfl rfl (soU rfl n45 rfl rfl rfl (by rw [cp_len hxl]; rfl) (by rw [cp_len hxl]; rfl) (nl ⟨rfl, rfl⟩)) ?_
    refine dnS rfl ?_
    refine soV rfl rfl rfl rfl (by rw [ef_len hxl]; rfl) (by rw [ef_len hxl]; rfl) ?_
    repeat (first | refine nl ?_ | refine AWP.seq ?_ | refine rg ?_ | refine AWP.skip ?_ | refine AWP.block ?_ | refine YH (z := ?_) | refine YI (z := ?_) | refine ZA (z := ?_) | refine ZB (z := ?_) | refine ZC (z := ?_) | refine ZD (z := ?_) | refine ZE (z := ?_) | refine ZF (z := ?_) | refine ZJ (z := ?_) | refine ZK (z := ?_) | refine ZM (z := ?_) | refine ZH (z := ?_) | refine ZO (z := ?_) | refine ZQ (z := ?_) | refine ZR (z := ?_) | refine ZT (z := ?_) | refine ZU (z := ?_) | refine YA (z := ?_) | refine ZG (z := ?_) | refine ZI (z := ?_) | refine YC (z := ?_) | refine YD (z := ?_) | refine YE (z := ?_))
    refine AWP.ret (rets (resCW rfl (St.obj_under n45 _ _) rfl rfl (by rw [cp_len hxl]; rfl) (resCW rfl (St.obj_set _ _ _) rfl rfl (by rw [ef_len hxl]; rfl) rfl)) (.refl _) (le_two h4 h5') ⟨by rw [rstepV, so_]; rfl, ?_⟩)
    rw [rstepM, so_]; show _ = st.set o (memC (memNx m X.1))
    rw [show memNx m X.1 = m from if_neg (by rw [h6]; decide)]; exact (St.set_same ho).symm
end Go.Proofs
/- The walk of the reference's Run. No conditions: lemmas only. -/
namespace Go.Proofs
open Go.AM
set_option linter.unusedSimpArgs false

def outC (err : Int) (t : Bool) (v : Int) (out : List Int) (tk : Nat) : AObj := .cells 48 4 [[.int .i64 err, .bool t, .int .i64 v, .view 1 (out.map ivRow) (.own tk 3)]]
section
variable {st : St} {o1 oM oC oO : Nat} {z x y : AObj} {m : List Int} {c : Cp} {tk : Nat}
theorem RS_in (h1 : oO ≠ o1) (h2 : oO ≠ oM) (h3 : oO ≠ oC) : (RS (st.set oO x) o1 oM oC z m c tk).set oO y = RS (st.set oO y) o1 oM oC z m c tk := by
  refine St.ext3 (funext fun p => ?_) rfl rfl
  simp only [RS, St.addTok, St.set]
  by_cases e : p = oO
  · subst e; simp [h1, h2, h3]
  · simp [e]
theorem RS_oO (h1 : oO ≠ o1) (h2 : oO ≠ oM) (h3 : oO ≠ oC) : (RS (st.set oO x) o1 oM oC z m c tk).obj oO = some x := by
  simp [RS, St.addTok, St.set, h1, h2, h3]
theorem RS_drop (h0 : st.obj oO = none) (h1 : oO ≠ o1) (h2 : oO ≠ oM) (h3 : oO ≠ oC) : StLe (RS (st.set oO x) o1 oM oC z m c tk) (RS st o1 oM oC z m c tk) := by
  refine ⟨fun p q hq => ?_, fun t ht => ht, rfl⟩
  simp only [RS, St.addTok, St.set] at hq ⊢
  by_cases e : p = oO
  · subst e
    simp only [h1, h2, h3, if_false, h0] at hq
    cases hq
  · simpa [e] using hq
end
attribute [local irreducible] AWP AOps ACalls RS
set_option maxHeartbeats 8000000 in
theorem rrun_ok (raw args : List Int) (size entry steps : Int) (wv av : AV) (hwv : Le wv (.view 1 (raw.map ivRow) .shared)) (hav : Le av (.view 1 (args.map ivRow) .shared)) (hr : ∀ x ∈ raw, w64 x) (ha : ∀ x ∈ args, w64 x) (he : w64 entry)
    (hl : raw.length ≤ 1000000) (hla : args.length ≤ 1000000) (st : St) :
    ACalls Tryd.prog 25 [wv, .int .i64 size, .int .i64 entry, av, .int .i64 steps] st (fun v st' => v = .agg (ocRow (runP raw size entry args steps)) ∧ st' = st) (fun _ _ => False) := by
  refine ACalls.ofBody Tryd.func25 rfl Tryd.ntmps25 rfl ?_
  refine AWP.weaken (T' := [(0, .view 1 (raw.map ivRow) .shared), (1, .int .i64 size), (2, .int .i64 entry), (3, .view 1 (args.map ivRow) .shared), (4, .int .i64 steps)]) (TLe.cons rfl hwv (TLe.cons' rfl (TLe.cons' rfl (TLe.cons rfl hav (TLe.cons' rfl (.nil _)))))) (.refl _) ?_
  have lr : (raw.map ivRow).length = raw.length := List.length_map ..
  have lg : (args.map ivRow).length = args.length := List.length_map ..
  have bad : ¬ runOk raw.length size args.length steps → runP raw size entry args steps = ⟨1, false, 0, []⟩ := fun h => by rw [runP, if_neg h]
  repeat (first | refine nl ?_ | refine AWP.seq ?_ | refine AWP.skip ?_ | refine AWP.block ?_)
  refine rg ?_
  refine al rfl rfl fun o1 h1 => ?_
  repeat (first | refine nl ?_ | refine AWP.seq ?_ | refine rg ?_ | refine AWP.skip ?_ | refine AWP.block ?_ | refine YH (z := ?_) | refine YI (z := ?_) | refine ZA (z := ?_) | refine ZB (z := ?_) | refine ZC (z := ?_) | refine ZD (z := ?_) | refine ZE (z := ?_) | refine ZF (z := ?_) | refine ZJ (z := ?_) | refine ZK (z := ?_) | refine ZM (z := ?_) | refine ZH (z := ?_) | refine ZO (z := ?_) | refine ZQ (z := ?_) | refine ZR (z := ?_) | refine ZT (z := ?_) | refine ZU (z := ?_) | refine YA (z := ?_) | refine ZG (z := ?_) | refine ZI (z := ?_) | refine YC (z := ?_) | refine YD (z := ?_) | refine YE (z := ?_))
  refine Go.AM.ad rfl rfl rfl (by omega) ?_
  rw [lr]
  repeat (first | refine nl ?_ | refine AWP.seq ?_ | refine rg ?_ | refine AWP.skip ?_ | refine AWP.block ?_ | refine YH (z := ?_) | refine YI (z := ?_) | refine ZA (z := ?_) | refine ZB (z := ?_) | refine ZC (z := ?_) | refine ZD (z := ?_) | refine ZE (z := ?_) | refine ZF (z := ?_) | refine ZJ (z := ?_) | refine ZK (z := ?_) | refine ZM (z := ?_) | refine ZH (z := ?_) | refine ZO (z := ?_) | refine ZQ (z := ?_) | refine ZR (z := ?_) | refine ZT (z := ?_) | refine ZU (z := ?_) | refine YA (z := ?_) | refine ZG (z := ?_) | refine ZI (z := ?_) | refine YC (z := ?_) | refine YD (z := ?_) | refine YE (z := ?_))
  refine gS rfl (fun c1 => ?_) (fun c1 => ?_)
  · have c1' : size < (raw.length : Int) + 16 := c1
    repeat (first | refine nl ?_ | refine AWP.seq ?_ | refine rg ?_ | refine AWP.skip ?_ | refine AWP.block ?_ | refine YH (z := ?_) | refine YI (z := ?_) | refine ZA (z := ?_) | refine ZB (z := ?_) | refine ZC (z := ?_) | refine ZD (z := ?_) | refine ZE (z := ?_) | refine ZF (z := ?_) | refine ZJ (z := ?_) | refine ZK (z := ?_) | refine ZM (z := ?_) | refine ZH (z := ?_) | refine ZO (z := ?_) | refine ZQ (z := ?_) | refine ZR (z := ?_) | refine ZT (z := ?_) | refine ZU (z := ?_) | refine YA (z := ?_) | refine ZG (z := ?_) | refine ZI (z := ?_) | refine YC (z := ?_) | refine YD (z := ?_) | refine YE (z := ?_))
    refine bds (cs := [.int .i64 1, .bool false, .int .i64 0, .view 0 [] .nil]) rfl rfl rfl rfl ?_
    refine soV rfl rfl rfl rfl rfl rfl ?_
    repeat (first | refine nl ?_ | refine AWP.seq ?_ | refine rg ?_ | refine AWP.skip ?_ | refine AWP.block ?_ | refine YH (z := ?_) | refine YI (z := ?_) | refine ZA (z := ?_) | refine ZB (z := ?_) | refine ZC (z := ?_) | refine ZD (z := ?_) | refine ZE (z := ?_) | refine ZF (z := ?_) | refine ZJ (z := ?_) | refine ZK (z := ?_) | refine ZM (z := ?_) | refine ZH (z := ?_) | refine ZO (z := ?_) | refine ZQ (z := ?_) | refine ZR (z := ?_) | refine ZT (z := ?_) | refine ZU (z := ?_) | refine YA (z := ?_) | refine ZG (z := ?_) | refine ZI (z := ?_) | refine YC (z := ?_) | refine YD (z := ?_) | refine YE (z := ?_))
    refine AWP.ret (rets (resCW rfl (St.obj_set _ _ _) rfl rfl rfl rfl) (oc_nil _ _ _) (StLe.new h1 (.refl _)) ⟨?_, rfl⟩)
    rw [bad fun h => h.1 c1']
  have c1' : ¬ size < (raw.length : Int) + 16 := c1
  repeat (first | refine nl ?_ | refine AWP.seq ?_ | refine rg ?_ | refine AWP.skip ?_ | refine AWP.block ?_ | refine YH (z := ?_) | refine YI (z := ?_) | refine ZA (z := ?_) | refine ZB (z := ?_) | refine ZC (z := ?_) | refine ZD (z := ?_) | refine ZE (z := ?_) | refine ZF (z := ?_) | refine ZJ (z := ?_) | refine ZK (z := ?_) | refine ZM (z := ?_) | refine ZH (z := ?_) | refine ZO (z := ?_) | refine ZQ (z := ?_) | refine ZR (z := ?_) | refine ZT (z := ?_) | refine ZU (z := ?_) | refine YA (z := ?_) | refine ZG (z := ?_) | refine ZI (z := ?_) | refine YC (z := ?_) | refine YD (z := ?_) | refine YE (z := ?_))
  refine gS rfl (fun c2 => ?_) (fun c2 => ?_)
  · have c2' : 16384 < size := c2
    repeat (first | refine nl ?_ | refine AWP.seq ?_ | refine rg ?_ | refine AWP.skip ?_ | refine AWP.block ?_ | refine YH (z := ?_) | refine YI (z := ?_) | refine ZA (z := ?_) | refine ZB (z := ?_) | refine ZC (z := ?_) | refine ZD (z := ?_) | refine ZE (z := ?_) | refine ZF (z := ?_) | refine ZJ (z := ?_) | refine ZK (z := ?_) | refine ZM (z := ?_) | refine ZH (z := ?_) | refine ZO (z := ?_) | refine ZQ (z := ?_) | refine ZR (z := ?_) | refine ZT (z := ?_) | refine ZU (z := ?_) | refine YA (z := ?_) | refine ZG (z := ?_) | refine ZI (z := ?_) | refine YC (z := ?_) | refine YD (z := ?_) | refine YE (z := ?_))
    refine bds (cs := [.int .i64 1, .bool false, .int .i64 0, .view 0 [] .nil]) rfl rfl rfl rfl ?_
    refine soV rfl rfl rfl rfl rfl rfl ?_
    repeat (first | refine nl ?_ | refine AWP.seq ?_ | refine rg ?_ | refine AWP.skip ?_ | refine AWP.block ?_ | refine YH (z := ?_) | refine YI (z := ?_) | refine ZA (z := ?_) | refine ZB (z := ?_) | refine ZC (z := ?_) | refine ZD (z := ?_) | refine ZE (z := ?_) | refine ZF (z := ?_) | refine ZJ (z := ?_) | refine ZK (z := ?_) | refine ZM (z := ?_) | refine ZH (z := ?_) | refine ZO (z := ?_) | refine ZQ (z := ?_) | refine ZR (z := ?_) | refine ZT (z := ?_) | refine ZU (z := ?_) | refine YA (z := ?_) | refine ZG (z := ?_) | refine ZI (z := ?_) | refine YC (z := ?_) | refine YD (z := ?_) | refine YE (z := ?_))
    refine AWP.ret (rets (resCW rfl (St.obj_set _ _ _) rfl rfl rfl rfl) (oc_nil _ _ _) (StLe.new h1 (.refl _)) ⟨?_, rfl⟩)
    rw [bad fun h => h.2.1 c2']
  have c2' : ¬ 16384 < size := c2
  repeat (first | refine nl ?_ | refine AWP.seq ?_ | refine rg ?_ | refine AWP.skip ?_ | refine AWP.block ?_ | refine YH (z := ?_) | refine YI (z := ?_) | refine ZA (z := ?_) | refine ZB (z := ?_) | refine ZC (z := ?_) | refine ZD (z := ?_) | refine ZE (z := ?_) | refine ZF (z := ?_) | refine ZJ (z := ?_) | refine ZK (z := ?_) | refine ZM (z := ?_) | refine ZH (z := ?_) | refine ZO (z := ?_) | refine ZQ (z := ?_) | refine ZR (z := ?_) | refine ZT (z := ?_) | refine ZU (z := ?_) | refine YA (z := ?_) | refine ZG (z := ?_) | refine ZI (z := ?_) | refine YC (z := ?_) | refine YD (z := ?_) | refine YE (z := ?_))
  refine gS rfl (fun c3 => ?_) (fun c3 => ?_)
  · have c3' : 4 < ((args.map ivRow).length : Int) := c3
    repeat (first | refine nl ?_ | refine AWP.seq ?_ | refine rg ?_ | refine AWP.skip ?_ | refine AWP.block ?_ | refine YH (z := ?_) | refine YI (z := ?_) | refine ZA (z := ?_) | refine ZB (z := ?_) | refine ZC (z := ?_) | refine ZD (z := ?_) | refine ZE (z := ?_) | refine ZF (z := ?_) | refine ZJ (z := ?_) | refine ZK (z := ?_) | refine ZM (z := ?_) | refine ZH (z := ?_) | refine ZO (z := ?_) | refine ZQ (z := ?_) | refine ZR (z := ?_) | refine ZT (z := ?_) | refine ZU (z := ?_) | refine YA (z := ?_) | refine ZG (z := ?_) | refine ZI (z := ?_) | refine YC (z := ?_) | refine YD (z := ?_) | refine YE (z := ?_))
    refine bds (cs := [.int .i64 1, .bool false, .int .i64 0, .view 0 [] .nil]) rfl rfl rfl rfl ?_
    refine soV rfl rfl rfl rfl rfl rfl ?_
    repeat (first | refine nl ?_ | refine AWP.seq ?_ | refine rg ?_ | refine AWP.skip ?_ | refine AWP.block ?_ | refine YH (z := ?_) | refine YI (z := ?_) | refine ZA (z := ?_) | refine ZB (z := ?_) | refine ZC (z := ?_) | refine ZD (z := ?_) | refine ZE (z := ?_) | refine ZF (z := ?_) | refine ZJ (z := ?_) | refine ZK (z := ?_) | refine ZM (z := ?_) | refine ZH (z := ?_) | refine ZO (z := ?_) | refine ZQ (z := ?_) | refine ZR (z := ?_) | refine ZT (z := ?_) | refine ZU (z := ?_) | refine YA (z := ?_) | refine ZG (z := ?_) | refine ZI (z := ?_) | refine YC (z := ?_) | refine YD (z := ?_) | refine YE (z := ?_))
    refine AWP.ret (rets (resCW rfl (St.obj_set _ _ _) rfl rfl rfl rfl) (oc_nil _ _ _) (StLe.new h1 (.refl _)) ⟨?_, rfl⟩)
    rw [bad fun h => h.2.2.1 (by rw [lg] at c3'; exact c3')]
  have c3' : ¬ 4 < ((args.map ivRow).length : Int) := c3
  repeat (first | refine nl ?_ | refine AWP.seq ?_ | refine rg ?_ | refine AWP.skip ?_ | refine AWP.block ?_ | refine YH (z := ?_) | refine YI (z := ?_) | refine ZA (z := ?_) | refine ZB (z := ?_) | refine ZC (z := ?_) | refine ZD (z := ?_) | refine ZE (z := ?_) | refine ZF (z := ?_) | refine ZJ (z := ?_) | refine ZK (z := ?_) | refine ZM (z := ?_) | refine ZH (z := ?_) | refine ZO (z := ?_) | refine ZQ (z := ?_) | refine ZR (z := ?_) | refine ZT (z := ?_) | refine ZU (z := ?_) | refine YA (z := ?_) | refine ZG (z := ?_) | refine ZI (z := ?_) | refine YC (z := ?_) | refine YD (z := ?_) | refine YE (z := ?_))
  refine gS rfl (fun c4 => ?_) (fun c4 => ?_)
  · have c4' : steps < 0 := c4
    repeat (first | refine nl ?_ | refine AWP.seq ?_ | refine rg ?_ | refine AWP.skip ?_ | refine AWP.block ?_ | refine YH (z := ?_) | refine YI (z := ?_) | refine ZA (z := ?_) | refine ZB (z := ?_) | refine ZC (z := ?_) | refine ZD (z := ?_) | refine ZE (z := ?_) | refine ZF (z := ?_) | refine ZJ (z := ?_) | refine ZK (z := ?_) | refine ZM (z := ?_) | refine ZH (z := ?_) | refine ZO (z := ?_) | refine ZQ (z := ?_) | refine ZR (z := ?_) | refine ZT (z := ?_) | refine ZU (z := ?_) | refine YA (z := ?_) | refine ZG (z := ?_) | refine ZI (z := ?_) | refine YC (z := ?_) | refine YD (z := ?_) | refine YE (z := ?_))
    refine bds (cs := [.int .i64 1, .bool false, .int .i64 0, .view 0 [] .nil]) rfl rfl rfl rfl ?_
    refine soV rfl rfl rfl rfl rfl rfl ?_
    repeat (first | refine nl ?_ | refine AWP.seq ?_ | refine rg ?_ | refine AWP.skip ?_ | refine AWP.block ?_ | refine YH (z := ?_) | refine YI (z := ?_) | refine ZA (z := ?_) | refine ZB (z := ?_) | refine ZC (z := ?_) | refine ZD (z := ?_) | refine ZE (z := ?_) | refine ZF (z := ?_) | refine ZJ (z := ?_) | refine ZK (z := ?_) | refine ZM (z := ?_) | refine ZH (z := ?_) | refine ZO (z := ?_) | refine ZQ (z := ?_) | refine ZR (z := ?_) | refine ZT (z := ?_) | refine ZU (z := ?_) | refine YA (z := ?_) | refine ZG (z := ?_) | refine ZI (z := ?_) | refine YC (z := ?_) | refine YD (z := ?_) | refine YE (z := ?_))
    refine AWP.ret (rets (resCW rfl (St.obj_set _ _ _) rfl rfl rfl rfl) (oc_nil _ _ _) (StLe.new h1 (.refl _)) ⟨?_, rfl⟩)
    rw [bad fun h => h.2.2.2.1 c4']
  have c4' : ¬ steps < 0 := c4
  repeat (first | refine nl ?_ | refine AWP.seq ?_ | refine rg ?_ | refine AWP.skip ?_ | refine AWP.block ?_ | refine YH (z := ?_) | refine YI (z := ?_) | refine ZA (z := ?_) | refine ZB (z := ?_) | refine ZC (z := ?_) | refine ZD (z := ?_) | refine ZE (z := ?_) | refine ZF (z := ?_) | refine ZJ (z := ?_) | refine ZK (z := ?_) | refine ZM (z := ?_) | refine ZH (z := ?_) | refine ZO (z := ?_) | refine ZQ (z := ?_) | refine ZR (z := ?_) | refine ZT (z := ?_) | refine ZU (z := ?_) | refine YA (z := ?_) | refine ZG (z := ?_) | refine ZI (z := ?_) | refine YC (z := ?_) | refine YD (z := ?_) | refine YE (z := ?_))
  refine AWP.cond_dec rfl (fun c5 => ?_) (fun c5 => AWP.skip ?_)
  · have c5' : 200000 < steps := c5
    repeat (first | refine nl ?_ | refine AWP.seq ?_ | refine rg ?_ | refine AWP.skip ?_ | refine AWP.block ?_ | refine YH (z := ?_) | refine YI (z := ?_) | refine ZA (z := ?_) | refine ZB (z := ?_) | refine ZC (z := ?_) | refine ZD (z := ?_) | refine ZE (z := ?_) | refine ZF (z := ?_) | refine ZJ (z := ?_) | refine ZK (z := ?_) | refine ZM (z := ?_) | refine ZH (z := ?_) | refine ZO (z := ?_) | refine ZQ (z := ?_) | refine ZR (z := ?_) | refine ZT (z := ?_) | refine ZU (z := ?_) | refine YA (z := ?_) | refine ZG (z := ?_) | refine ZI (z := ?_) | refine YC (z := ?_) | refine YD (z := ?_) | refine YE (z := ?_))
    refine bds (cs := [.int .i64 1, .bool false, .int .i64 0, .view 0 [] .nil]) rfl rfl rfl rfl ?_
    refine soV rfl rfl rfl rfl rfl rfl ?_
    repeat (first | refine nl ?_ | refine AWP.seq ?_ | refine rg ?_ | refine AWP.skip ?_ | refine AWP.block ?_ | refine YH (z := ?_) | refine YI (z := ?_) | refine ZA (z := ?_) | refine ZB (z := ?_) | refine ZC (z := ?_) | refine ZD (z := ?_) | refine ZE (z := ?_) | refine ZF (z := ?_) | refine ZJ (z := ?_) | refine ZK (z := ?_) | refine ZM (z := ?_) | refine ZH (z := ?_) | refine ZO (z := ?_) | refine ZQ (z := ?_) | refine ZR (z := ?_) | refine ZT (z := ?_) | refine ZU (z := ?_) | refine YA (z := ?_) | refine ZG (z := ?_) | refine ZI (z := ?_) | refine YC (z := ?_) | refine YD (z := ?_) | refine YE (z := ?_))
    refine AWP.ret (rets (resCW rfl (St.obj_set _ _ _) rfl rfl rfl rfl) (oc_nil _ _ _) (StLe.new h1 (.refl _)) ⟨?_, rfl⟩)
    rw [bad fun h => h.2.2.2.2 c5']
  have c5' : ¬ 200000 < steps := c5
  rw [lg] at c3'
  have hok : runOk raw.length size args.length steps := ⟨c1', c2', c3', c4', c5'⟩
  obtain ⟨N, rfl⟩ : ∃ N : Nat, size = (N : Int) := ⟨size.toNat, by omega⟩
  obtain ⟨S, rfl⟩ : ∃ S : Nat, steps = (S : Int) := ⟨steps.toNat, by omega⟩
  have hrun : runP raw (N : Int) entry args (S : Int) = runL S (mem0 raw N) (cpu0 N entry args) [] := by rw [runP, if_pos hok, Int.toNat_natCast, Int.toNat_natCast]
  rw [hrun]
  repeat (first | refine nl ?_ | refine AWP.seq ?_ | refine rg ?_ | refine AWP.skip ?_ | refine AWP.block ?_ | refine YH (z := ?_) | refine YI (z := ?_) | refine ZA (z := ?_) | refine ZB (z := ?_) | refine ZC (z := ?_) | refine ZD (z := ?_) | refine ZE (z := ?_) | refine ZF (z := ?_) | refine ZJ (z := ?_) | refine ZK (z := ?_) | refine ZM (z := ?_) | refine ZH (z := ?_) | refine ZO (z := ?_) | refine ZQ (z := ?_) | refine ZR (z := ?_) | refine ZT (z := ?_) | refine ZU (z := ?_) | refine YA (z := ?_) | refine ZG (z := ?_) | refine ZI (z := ?_) | refine YC (z := ?_) | refine YD (z := ?_) | refine YE (z := ?_))
  refine cl rfl rfl (begin_ok raw args N entry _ _ (.refl _) (.refl _) (by omega) (by omega) (by omega) _) fun v st' ⟨oM, hM, hv, hst⟩ => ?_
  subst hv
  subst hst
  have nM : oM ≠ o1 := St.new_ne hM
  have n1 : st.obj oM = none := St.new_old hM
  have hcg := cpu0_good (n := N) (args := args) (by omega) ha (by omega) he
  have hcl0 := cp_len hcg.len
  repeat (first | refine nl ?_ | refine AWP.seq ?_ | refine rg ?_ | refine AWP.skip ?_ | refine AWP.block ?_ | refine YH (z := ?_) | refine YI (z := ?_) | refine ZA (z := ?_) | refine ZB (z := ?_) | refine ZC (z := ?_) | refine ZD (z := ?_) | refine ZE (z := ?_) | refine ZF (z := ?_) | refine ZJ (z := ?_) | refine ZK (z := ?_) | refine ZM (z := ?_) | refine ZH (z := ?_) | refine ZO (z := ?_) | refine ZQ (z := ?_) | refine ZR (z := ?_) | refine ZT (z := ?_) | refine ZU (z := ?_) | refine YA (z := ?_) | refine ZG (z := ?_) | refine ZI (z := ?_) | refine YC (z := ?_) | refine YD (z := ?_) | refine YE (z := ?_))
  refine al rfl rfl fun oC hC => ?_
  have nC : oC ≠ oM := St.new_ne hC
  have nC1 : oC ≠ o1 := St.new_ne (St.new_old' hC)
  have n2 : st.obj oC = none := St.new_old (St.new_old hC)
  repeat (first | refine ZA (z := ?_) | refine ZB (z := ?_) | refine ZC (z := ?_) | refine ZD (z := ?_) | refine ZE (z := ?_) | refine ZF (z := ?_) | refine ZJ (z := ?_) | refine ZK (z := ?_) | refine ZM (z := ?_) | refine ZH (z := ?_) | refine ZO (z := ?_) | refine ZQ (z := ?_) | refine ZR (z := ?_) | refine ZT (z := ?_) | refine ZU (z := ?_) | refine YA (z := ?_) | refine ZG (z := ?_) | refine ZI (z := ?_) | refine YC (z := ?_) | refine YD (z := ?_) | refine YE (z := ?_))
  refine soV rfl rfl rfl rfl (by rw [hcl0]; rfl) (by rw [hcl0]; rfl) ?_
  repeat (first | refine nl ?_ | refine AWP.seq ?_ | refine AWP.skip ?_ | refine AWP.block ?_)
  refine rg ?_
  refine al rfl rfl fun oO hO => ?_
  have nO : oO ≠ oC := St.new_ne hO
  have nO2 : oO ≠ oM := St.new_ne (St.new_old hO)
  have nO3 : oO ≠ o1 := St.new_ne (St.new_old (St.new_old hO))
  have n3 : st.obj oO = none := St.new_old (St.new_old (St.new_old hO))
  repeat (first | refine nl ?_ | refine AWP.seq ?_ | refine AWP.skip ?_ | refine AWP.block ?_)
  refine rg ?_
  repeat (first | refine ZA (z := ?_) | refine ZB (z := ?_) | refine ZC (z := ?_) | refine ZD (z := ?_) | refine ZE (z := ?_) | refine ZF (z := ?_) | refine ZJ (z := ?_) | refine ZK (z := ?_) | refine ZM (z := ?_) | refine ZH (z := ?_) | refine ZO (z := ?_) | refine ZQ (z := ?_) | refine ZR (z := ?_) | refine ZT (z := ?_) | refine ZU (z := ?_) | refine YA (z := ?_) | refine ZG (z := ?_) | refine ZI (z := ?_) | refine YC (z := ?_) | refine YD (z := ?_) | refine YE (z := ?_))
  repeat (first | refine nl ?_ | refine AWP.seq ?_ | refine AWP.skip ?_ | refine AWP.block ?_)
  refine AWP.nilIn 3 1 (St.obj_set _ _ _) (i := 0) (j := 3) rfl rfl fun tk0 htk0 => ?_
  have m1 : o1 ≠ oM := Ne.symm nM
  have m2 : o1 ≠ oC := Ne.symm nC1
  have m3 : oM ≠ oC := Ne.symm nC
  generalize hz : AObj.cells 48 4 [zrow (Value.agg #[.int .i64 0, .bool false, .int .i64 0, .slice none 0 0])] = z
  generalize hR : runL S (mem0 raw N) (cpu0 N entry args) [] = R0
  refine AWP.loop (α := RX) (fun x => [(14, .int .i64 (x.n : Int)), (13, .cptr oO 4 0 0), (12, .cptr oC 17 0 0), (11, .msl oM 1 0 N), (10, .cptr o1 4 0 0), (4, .int .i64 (S : Int))]) (fun x => RS (st.set oO (outC 0 false 0 x.out x.tk)) o1 oM oC z x.m x.c x.tk)
    (fun x => x.m.length = N ∧ (∀ y ∈ x.m, w64 y) ∧ x.c.good ∧ x.n ≤ S ∧ x.out.length ≤ x.n ∧ st.tok x.tk = false ∧ runL (S - x.n) x.m x.c x.out = R0) (fun x => S - x.n) ⟨mem0 raw N, cpu0 N entry args, [], tk0, 0⟩
    ⟨mem0_len (by omega), mem0_good hr N, hcg, Nat.zero_le _, Nat.le_refl _, htk0, hR⟩ (tl6 rfl rfl rfl rfl rfl rfl) ?_ ?_
  · refine StLe.of_eq (St.ext3 (funext fun p => ?_) ?_ ?_)
    · unfold RS
      simp only [St.addTok, St.set]
      by_cases e : p = oO
      · subst e
        simp [nO, nO2, nO3]
        rfl
      · simp only [e, if_false]
        rfl
    · unfold RS; rfl
    · unfold RS; rfl
  rintro ⟨m, c, out, tk, n⟩ ⟨im, iw, ic, inn, iout, itk, irun⟩
  simp only at im iw ic inn iout itk irun
  refine AWP.weaken (T' := [(14, .int .i64 (n : Int)), (13, .cptr oO 4 0 0), (12, .cptr oC 17 0 0), (11, .msl oM 1 0 N), (10, .cptr o1 4 0 0), (4, .int .i64 (S : Int))]) (st' := RS (st.set oO (outC 0 false 0 out tk)) o1 oM oC z m c tk) (tl6 rfl rfl rfl rfl rfl rfl) (.refl _) ?_
  have hcl := ic.len
  have fC : ∀ st z m tk, (RS st o1 oM oC z m c tk).obj oC = some (.cells 35 17 [cpRow c]) := fun _ _ _ _ => RS_oC
  have g16 : (cpRow c)[0 + 16]? = some (.int .i64 c.pc) := cp_pc hcl
  repeat (first | refine nl ?_ | refine AWP.seq ?_ | refine rg ?_ | refine AWP.skip ?_ | refine AWP.block ?_ | refine YH (z := ?_) | refine YI (z := ?_) | refine ZA (z := ?_) | refine ZB (z := ?_) | refine ZC (z := ?_) | refine ZD (z := ?_) | refine ZE (z := ?_) | refine ZF (z := ?_) | refine ZJ (z := ?_) | refine ZK (z := ?_) | refine ZM (z := ?_) | refine ZH (z := ?_) | refine ZO (z := ?_) | refine ZQ (z := ?_) | refine ZR (z := ?_) | refine ZT (z := ?_) | refine ZU (z := ?_) | refine YA (z := ?_) | refine ZG (z := ?_) | refine ZI (z := ?_) | refine YC (z := ?_) | refine YD (z := ?_) | refine YE (z := ?_))
  refine lcS rfl rfl rfl (fC _ _ _ _) rfl g16 ?_
  repeat (first | refine nl ?_ | refine AWP.seq ?_ | refine rg ?_ | refine AWP.skip ?_ | refine AWP.block ?_ | refine YH (z := ?_) | refine YI (z := ?_) | refine ZA (z := ?_) | refine ZB (z := ?_) | refine ZC (z := ?_) | refine ZD (z := ?_) | refine ZE (z := ?_) | refine ZF (z := ?_) | refine ZJ (z := ?_) | refine ZK (z := ?_) | refine ZM (z := ?_) | refine ZH (z := ?_) | refine ZO (z := ?_) | refine ZQ (z := ?_) | refine ZR (z := ?_) | refine ZT (z := ?_) | refine ZU (z := ?_) | refine YA (z := ?_) | refine ZG (z := ?_) | refine ZI (z := ?_) | refine YC (z := ?_) | refine YD (z := ?_) | refine YE (z := ?_))
  refine AWP.cond_dec rfl (fun hx => AWP.skip ?_) (fun hx => AWP.exit (blk_hit ?_))
  · have hx' : ¬ c.pc = -1 := hx
    repeat (first | refine nl ?_ | refine AWP.seq ?_ | refine rg ?_ | refine AWP.skip ?_ | refine AWP.block ?_ | refine YH (z := ?_) | refine YI (z := ?_) | refine ZA (z := ?_) | refine ZB (z := ?_) | refine ZC (z := ?_) | refine ZD (z := ?_) | refine ZE (z := ?_) | refine ZF (z := ?_) | refine ZJ (z := ?_) | refine ZK (z := ?_) | refine ZM (z := ?_) | refine ZH (z := ?_) | refine ZO (z := ?_) | refine ZQ (z := ?_) | refine ZR (z := ?_) | refine ZT (z := ?_) | refine ZU (z := ?_) | refine YA (z := ?_) | refine ZG (z := ?_) | refine ZI (z := ?_) | refine YC (z := ?_) | refine YD (z := ?_) | refine YE (z := ?_))
    refine AWP.cond_dec rfl (fun hf => ?_) (fun hf => AWP.skip ?_)
    · have hf' : n = S := by have h0 : (S : Int) ≤ (n : Int) := hf; omega
      rw [hf', Nat.sub_self, runL_fuel hx'] at irun
      repeat (first | refine nl ?_ | refine AWP.seq ?_ | refine rg ?_ | refine AWP.skip ?_ | refine AWP.block ?_ | refine YH (z := ?_) | refine YI (z := ?_) | refine ZA (z := ?_) | refine ZB (z := ?_) | refine ZC (z := ?_) | refine ZD (z := ?_) | refine ZE (z := ?_) | refine ZF (z := ?_) | refine ZJ (z := ?_) | refine ZK (z := ?_) | refine ZM (z := ?_) | refine ZH (z := ?_) | refine ZO (z := ?_) | refine ZQ (z := ?_) | refine ZR (z := ?_) | refine ZT (z := ?_) | refine ZU (z := ?_) | refine YA (z := ?_) | refine ZG (z := ?_) | refine ZI (z := ?_) | refine YC (z := ?_) | refine YD (z := ?_) | refine YE (z := ?_))
      refine so (rows' := [[.int .i64 13, .bool false, .int .i64 0, .view 1 (out.map ivRow) (.own tk 3)]]) rfl rfl rfl (RS_oO nO3 nO2 nO) rfl rfl rfl rfl rfl ?_
      rw [show (AObj.cells 48 4 [[.int .i64 13, .bool false, .int .i64 0, .view 1 (out.map ivRow) (.own tk 3)]]) = outC 13 false 0 out tk from rfl, RS_in nO3 nO2 nO]
      repeat (first | refine nl ?_ | refine AWP.seq ?_ | refine rg ?_ | refine AWP.skip ?_ | refine AWP.block ?_ | refine YH (z := ?_) | refine YI (z := ?_) | refine ZA (z := ?_) | refine ZB (z := ?_) | refine ZC (z := ?_) | refine ZD (z := ?_) | refine ZE (z := ?_) | refine ZF (z := ?_) | refine ZJ (z := ?_) | refine ZK (z := ?_) | refine ZM (z := ?_) | refine ZH (z := ?_) | refine ZO (z := ?_) | refine ZQ (z := ?_) | refine ZR (z := ?_) | refine ZT (z := ?_) | refine ZU (z := ?_) | refine YA (z := ?_) | refine ZG (z := ?_) | refine ZI (z := ?_) | refine YC (z := ?_) | refine YD (z := ?_) | refine YE (z := ?_))
      refine lcW rfl rfl rfl (RS_oO nO3 nO2 nO) rfl rfl ?_
      refine so (rows' := [[.int .i64 13, .bool false, .int .i64 0, .view 1 (out.map ivRow) (.own tk 3)]]) rfl rfl rfl ((RS_o1 m1 m2).trans (by rw [← hz])) rfl rfl rfl rfl rfl ?_
      rw [RS_set1 m1 m2]
      repeat (first | refine nl ?_ | refine AWP.seq ?_ | refine rg ?_ | refine AWP.skip ?_ | refine AWP.block ?_ | refine YH (z := ?_) | refine YI (z := ?_) | refine ZA (z := ?_) | refine ZB (z := ?_) | refine ZC (z := ?_) | refine ZD (z := ?_) | refine ZE (z := ?_) | refine ZF (z := ?_) | refine ZJ (z := ?_) | refine ZK (z := ?_) | refine ZM (z := ?_) | refine ZH (z := ?_) | refine ZO (z := ?_) | refine ZQ (z := ?_) | refine ZR (z := ?_) | refine ZT (z := ?_) | refine ZU (z := ?_) | refine YA (z := ?_) | refine ZG (z := ?_) | refine ZI (z := ?_) | refine YC (z := ?_) | refine YD (z := ?_) | refine YE (z := ?_))
      exact AWP.ret (rets (resCW rfl (RS_o1 m1 m2) rfl rfl rfl rfl) (oc_own _ _ _ _ _) ((RS_drop n3 nO3 nO2 nO).trans (RS_le h1 n1 n2)) ⟨by rw [← irun], rfl⟩)
    have hf' : n < S := by have h0 : ¬ (S : Int) ≤ (n : Int) := hf; omega
    obtain ⟨k, hk⟩ : ∃ k, S - n = k + 1 := ⟨S - n - 1, by omega⟩
    rw [hk] at irun
    repeat (first | refine nl ?_ | refine AWP.seq ?_ | refine rg ?_ | refine AWP.skip ?_ | refine AWP.block ?_ | refine YH (z := ?_) | refine YI (z := ?_) | refine ZA (z := ?_) | refine ZB (z := ?_) | refine ZC (z := ?_) | refine ZD (z := ?_) | refine ZE (z := ?_) | refine ZF (z := ?_) | refine ZJ (z := ?_) | refine ZK (z := ?_) | refine ZM (z := ?_) | refine ZH (z := ?_) | refine ZO (z := ?_) | refine ZQ (z := ?_) | refine ZR (z := ?_) | refine ZT (z := ?_) | refine ZU (z := ?_) | refine YA (z := ?_) | refine ZG (z := ?_) | refine ZI (z := ?_) | refine YC (z := ?_) | refine YD (z := ?_) | refine YE (z := ?_))
    refine lcW rfl rfl rfl (fC _ _ _ _) rfl (by rw [cp_len hcl]; rfl) ?_
    have hst := rstep_ok m iw c ic oM (RS (st.set oO (outC 0 false 0 out tk)) o1 oM oC z m c tk) (RS_oM m3)
    rw [im, RS_setM m3] at hst
    refine cl rfl rfl hst fun v st' ⟨hv, hst'⟩ => ?_
    subst hv
    subst hst'
    cases hs : stepP m c with
    | none =>
      rw [runL_fault hx' hs] at irun
      rw [show rstepV m c = .tuple [.agg (cpRow c), .agg (efRow zEf), .int .i64 14] by rw [rstepV, hs], show rstepM m c = m by rw [rstepM, hs]]
      repeat (first | refine nl ?_ | refine AWP.seq ?_ | refine rg ?_ | refine AWP.skip ?_ | refine AWP.block ?_ | refine YH (z := ?_) | refine YI (z := ?_) | refine ZA (z := ?_) | refine ZB (z := ?_) | refine ZC (z := ?_) | refine ZD (z := ?_) | refine ZE (z := ?_) | refine ZF (z := ?_) | refine ZJ (z := ?_) | refine ZK (z := ?_) | refine ZM (z := ?_) | refine ZH (z := ?_) | refine ZO (z := ?_) | refine ZQ (z := ?_) | refine ZR (z := ?_) | refine ZT (z := ?_) | refine ZU (z := ?_) | refine YA (z := ?_) | refine ZG (z := ?_) | refine ZI (z := ?_) | refine YC (z := ?_) | refine YD (z := ?_) | refine YE (z := ?_))
      refine al rfl rfl fun o15 h15 => ?_
      refine al rfl rfl fun o16 h16 => ?_
      have n16 : o16 ≠ o15 := St.new_ne h16
      refine soU rfl n16 rfl rfl rfl (by rw [cp_len hcl]; rfl) (by rw [cp_len hcl]; rfl) ?_
      refine soN 16 rfl rfl rfl rfl rfl rfl (by rw [St.obj_set_ne n16]; exact St.new_old h16) ?_
      refine AOps.fz 15 rfl h15 ?_
      repeat (first | refine nl ?_ | refine AWP.seq ?_ | refine rg ?_ | refine AWP.skip ?_ | refine AWP.block ?_ | refine YH (z := ?_) | refine YI (z := ?_) | refine ZA (z := ?_) | refine ZB (z := ?_) | refine ZC (z := ?_) | refine ZD (z := ?_) | refine ZE (z := ?_) | refine ZF (z := ?_) | refine ZJ (z := ?_) | refine ZK (z := ?_) | refine ZM (z := ?_) | refine ZH (z := ?_) | refine ZO (z := ?_) | refine ZQ (z := ?_) | refine ZR (z := ?_) | refine ZT (z := ?_) | refine ZU (z := ?_) | refine YA (z := ?_) | refine ZG (z := ?_) | refine ZI (z := ?_) | refine YC (z := ?_) | refine YD (z := ?_) | refine YE (z := ?_))
      refine so (rows' := [[.int .i64 14, .bool false, .int .i64 0, .view 1 (out.map ivRow) (.own tk 3)]]) rfl rfl rfl (RS_oO nO3 nO2 nO) rfl rfl rfl rfl rfl ?_
      rw [show (AObj.cells 48 4 [[.int .i64 14, .bool false, .int .i64 0, .view 1 (out.map ivRow) (.own tk 3)]]) = outC 14 false 0 out tk from rfl, RS_in nO3 nO2 nO]
      repeat (first | refine nl ?_ | refine AWP.seq ?_ | refine rg ?_ | refine AWP.skip ?_ | refine AWP.block ?_ | refine YH (z := ?_) | refine YI (z := ?_) | refine ZA (z := ?_) | refine ZB (z := ?_) | refine ZC (z := ?_) | refine ZD (z := ?_) | refine ZE (z := ?_) | refine ZF (z := ?_) | refine ZJ (z := ?_) | refine ZK (z := ?_) | refine ZM (z := ?_) | refine ZH (z := ?_) | refine ZO (z := ?_) | refine ZQ (z := ?_) | refine ZR (z := ?_) | refine ZT (z := ?_) | refine ZU (z := ?_) | refine YA (z := ?_) | refine ZG (z := ?_) | refine ZI (z := ?_) | refine YC (z := ?_) | refine YD (z := ?_) | refine YE (z := ?_))
      refine lcW rfl rfl rfl (RS_oO nO3 nO2 nO) rfl rfl ?_
      refine so (rows' := [[.int .i64 14, .bool false, .int .i64 0, .view 1 (out.map ivRow) (.own tk 3)]]) rfl rfl rfl ((RS_o1 m1 m2).trans (by rw [← hz])) rfl rfl rfl rfl rfl ?_
      rw [RS_set1 m1 m2]
      repeat (first | refine nl ?_ | refine AWP.seq ?_ | refine rg ?_ | refine AWP.skip ?_ | refine AWP.block ?_ | refine YH (z := ?_) | refine YI (z := ?_) | refine ZA (z := ?_) | refine ZB (z := ?_) | refine ZC (z := ?_) | refine ZD (z := ?_) | refine ZE (z := ?_) | refine ZF (z := ?_) | refine ZJ (z := ?_) | refine ZK (z := ?_) | refine ZM (z := ?_) | refine ZH (z := ?_) | refine ZO (z := ?_) | refine ZQ (z := ?_) | refine ZR (z := ?_) | refine ZT (z := ?_) | refine ZU (z := ?_) | refine YA (z := ?_) | refine ZG (z := ?_) | refine ZI (z := ?_) | refine YC (z := ?_) | refine YD (z := ?_) | refine YE (z := ?_))
      exact AWP.ret (rets (resCW rfl (RS_o1 m1 m2) rfl rfl rfl rfl) (oc_own _ _ _ _ _) ((RS_drop n3 nO3 nO2 nO).trans (RS_le h1 n1 n2)) ⟨by rw [← irun], rfl⟩)
    | some e =>
      rw [runL_step hx' hs] at irun
      obtain ⟨eg, ein⟩ := stepP_good iw ic hs
      have el := eg.cpu.len
      have ell := cp_len el
      rw [show rstepV m c = .tuple [.agg (cpRow e.cpu), .agg (efRow e), .int .i64 0] by rw [rstepV, hs], show rstepM m c = memNx m e by rw [rstepM, hs]]
      obtain ⟨q17, q18, q19, q20, q21⟩ := ef_cols el
      repeat (first | refine nl ?_ | refine AWP.seq ?_ | refine rg ?_ | refine AWP.skip ?_ | refine AWP.block ?_ | refine YH (z := ?_) | refine YI (z := ?_) | refine ZA (z := ?_) | refine ZB (z := ?_) | refine ZC (z := ?_) | refine ZD (z := ?_) | refine ZE (z := ?_) | refine ZF (z := ?_) | refine ZJ (z := ?_) | refine ZK (z := ?_) | refine ZM (z := ?_) | refine ZH (z := ?_) | refine ZO (z := ?_) | refine ZQ (z := ?_) | refine ZR (z := ?_) | refine ZT (z := ?_) | refine ZU (z := ?_) | refine YA (z := ?_) | refine ZG (z := ?_) | refine ZI (z := ?_) | refine YC (z := ?_) | refine YD (z := ?_) | refine YE (z := ?_))
      refine al rfl rfl fun o15 h15 => ?_
      refine al rfl rfl fun o16 h16 => ?_
      have n16 : o16 ≠ o15 := St.new_ne h16
      refine soU rfl n16 rfl rfl rfl (by rw [cp_len el]; rfl) (by rw [cp_len el]; rfl) ?_
      refine soN 16 rfl rfl rfl rfl (by rw [ef_len el]; rfl) (by rw [ef_len el]; rfl) (by rw [St.obj_set_ne n16]; exact St.new_old h16) ?_
      refine AOps.fz 15 rfl h15 ?_
      repeat (first | refine nl ?_ | refine AWP.seq ?_ | refine rg ?_ | refine AWP.skip ?_ | refine AWP.block ?_ | refine YH (z := ?_) | refine YI (z := ?_) | refine ZA (z := ?_) | refine ZB (z := ?_) | refine ZC (z := ?_) | refine ZD (z := ?_) | refine ZE (z := ?_) | refine ZF (z := ?_) | refine ZJ (z := ?_) | refine ZK (z := ?_) | refine ZM (z := ?_) | refine ZH (z := ?_) | refine ZO (z := ?_) | refine ZQ (z := ?_) | refine ZR (z := ?_) | refine ZT (z := ?_) | refine ZU (z := ?_) | refine YA (z := ?_) | refine ZG (z := ?_) | refine ZI (z := ?_) | refine YC (z := ?_) | refine YD (z := ?_) | refine YE (z := ?_))
      refine AWP.cond_bool rfl (fun hpe => ?_) (fun hpe => AWP.skip ?_)
      · have ho : outNx out e = out ++ [e.print] := if_pos hpe
        repeat (first | refine nl ?_ | refine AWP.seq ?_ | refine rg ?_ | refine AWP.skip ?_ | refine AWP.block ?_ | refine YH (z := ?_) | refine YI (z := ?_) | refine ZA (z := ?_) | refine ZB (z := ?_) | refine ZC (z := ?_) | refine ZD (z := ?_) | refine ZE (z := ?_) | refine ZF (z := ?_) | refine ZJ (z := ?_) | refine ZK (z := ?_) | refine ZM (z := ?_) | refine ZH (z := ?_) | refine ZO (z := ?_) | refine ZQ (z := ?_) | refine ZR (z := ?_) | refine ZT (z := ?_) | refine ZU (z := ?_) | refine YA (z := ?_) | refine ZG (z := ?_) | refine ZI (z := ?_) | refine YC (z := ?_) | refine YD (z := ?_) | refine YE (z := ?_))
        refine lcS rfl rfl rfl (RS_oO nO3 nO2 nO) rfl rfl ?_
        repeat (first | refine ZA (z := ?_) | refine ZB (z := ?_) | refine ZC (z := ?_) | refine ZD (z := ?_) | refine ZE (z := ?_) | refine ZF (z := ?_) | refine ZJ (z := ?_) | refine ZK (z := ?_) | refine ZM (z := ?_) | refine ZH (z := ?_) | refine ZO (z := ?_) | refine ZQ (z := ?_) | refine ZR (z := ?_) | refine ZT (z := ?_) | refine ZU (z := ?_) | refine YA (z := ?_) | refine ZG (z := ?_) | refine ZI (z := ?_) | refine YC (z := ?_) | refine YD (z := ?_) | refine YE (z := ?_))
        refine ap rfl rfl rfl RS_tok rfl (by simp; omega) (by simp; unfold maxLen; omega) fun tk' htk' => ?_
        refine AOps.weaken (.refl _) (RS_re (by exact itk)) ?_
        rw [show out.map ivRow ++ [[AV.int .i64 e.print]] = (outNx out e).map ivRow by rw [ho, List.map_append]; rfl]
        repeat (first | refine ZA (z := ?_) | refine ZB (z := ?_) | refine ZC (z := ?_) | refine ZD (z := ?_) | refine ZE (z := ?_) | refine ZF (z := ?_) | refine ZJ (z := ?_) | refine ZK (z := ?_) | refine ZM (z := ?_) | refine ZH (z := ?_) | refine ZO (z := ?_) | refine ZQ (z := ?_) | refine ZR (z := ?_) | refine ZT (z := ?_) | refine ZU (z := ?_) | refine YA (z := ?_) | refine ZG (z := ?_) | refine ZI (z := ?_) | refine YC (z := ?_) | refine YD (z := ?_) | refine YE (z := ?_))
        refine so (rows' := [[.int .i64 0, .bool false, .int .i64 0, .view 1 ((outNx out e).map ivRow) (.own tk' 3)]]) rfl rfl rfl (RS_oO nO3 nO2 nO) rfl rfl rfl rfl rfl ?_
        rw [show (AObj.cells 48 4 [[.int .i64 0, .bool false, .int .i64 0, .view 1 ((outNx out e).map ivRow) (.own tk' 3)]]) = outC 0 false 0 (outNx out e) tk' from rfl, RS_in nO3 nO2 nO]
        repeat (first | refine nl ?_ | refine AWP.seq ?_ | refine rg ?_ | refine AWP.skip ?_ | refine AWP.block ?_ | refine YH (z := ?_) | refine YI (z := ?_) | refine ZA (z := ?_) | refine ZB (z := ?_) | refine ZC (z := ?_) | refine ZD (z := ?_) | refine ZE (z := ?_) | refine ZF (z := ?_) | refine ZJ (z := ?_) | refine ZK (z := ?_) | refine ZM (z := ?_) | refine ZH (z := ?_) | refine ZO (z := ?_) | refine ZQ (z := ?_) | refine ZR (z := ?_) | refine ZT (z := ?_) | refine ZU (z := ?_) | refine YA (z := ?_) | refine ZG (z := ?_) | refine ZI (z := ?_) | refine YC (z := ?_) | refine YD (z := ?_) | refine YE (z := ?_))
        refine leW rfl rfl rfl rfl (by rw [ell]; rfl) ?_
        refine so (rows' := [cpRow e.cpu]) rfl rfl rfl (fC _ _ _ _) rfl rfl (by rw [cp_len el]; rfl) (by rw [cp_len el, cp_len hcl]; rfl) (congrArg (fun x => [x]) (rowSet_all ((cp_len el).trans (cp_len hcl).symm))) ?_
        repeat (first | refine nl ?_ | refine AWP.seq ?_ | refine rg ?_ | refine AWP.skip ?_ | refine AWP.block ?_ | refine YH (z := ?_) | refine YI (z := ?_) | refine ZA (z := ?_) | refine ZB (z := ?_) | refine ZC (z := ?_) | refine ZD (z := ?_) | refine ZE (z := ?_) | refine ZF (z := ?_) | refine ZJ (z := ?_) | refine ZK (z := ?_) | refine ZM (z := ?_) | refine ZH (z := ?_) | refine ZO (z := ?_) | refine ZQ (z := ?_) | refine ZR (z := ?_) | refine ZT (z := ?_) | refine ZU (z := ?_) | refine YA (z := ?_) | refine ZG (z := ?_) | refine ZI (z := ?_) | refine YC (z := ?_) | refine YD (z := ?_) | refine YE (z := ?_))
        refine ⟨⟨memNx m e, e.cpu, outNx out e, tk', n + 1⟩, ⟨by simp only [memNx_len]; exact im, memNx_good iw eg, eg.cpu, hf', by simp only [outNx]; rw [if_pos hpe]; simp; omega, RS_new (st := st.set oO (outC 0 false 0 out tk)) htk', by simp only; rw [show S - (n + 1) = k by omega]; exact irun⟩, by simp only; omega, (tl6 rfl rfl rfl rfl rfl rfl), StLe.of_eq RS_setC⟩
      · have ho : outNx out e = out := if_neg (by rw [hpe]; decide)
        rw [← ho]
        repeat (first | refine nl ?_ | refine AWP.seq ?_ | refine rg ?_ | refine AWP.skip ?_ | refine AWP.block ?_ | refine YH (z := ?_) | refine YI (z := ?_) | refine ZA (z := ?_) | refine ZB (z := ?_) | refine ZC (z := ?_) | refine ZD (z := ?_) | refine ZE (z := ?_) | refine ZF (z := ?_) | refine ZJ (z := ?_) | refine ZK (z := ?_) | refine ZM (z := ?_) | refine ZH (z := ?_) | refine ZO (z := ?_) | refine ZQ (z := ?_) | refine ZR (z := ?_) | refine ZT (z := ?_) | refine ZU (z := ?_) | refine YA (z := ?_) | refine ZG (z := ?_) | refine ZI (z := ?_) | refine YC (z := ?_) | refine YD (z := ?_) | refine YE (z := ?_))
        refine leW rfl rfl rfl rfl (by rw [ell]; rfl) ?_
        refine so (rows' := [cpRow e.cpu]) rfl rfl rfl (fC _ _ _ _) rfl rfl (by rw [cp_len el]; rfl) (by rw [cp_len el, cp_len hcl]; rfl) (congrArg (fun x => [x]) (rowSet_all ((cp_len el).trans (cp_len hcl).symm))) ?_
        repeat (first | refine nl ?_ | refine AWP.seq ?_ | refine rg ?_ | refine AWP.skip ?_ | refine AWP.block ?_ | refine YH (z := ?_) | refine YI (z := ?_) | refine ZA (z := ?_) | refine ZB (z := ?_) | refine ZC (z := ?_) | refine ZD (z := ?_) | refine ZE (z := ?_) | refine ZF (z := ?_) | refine ZJ (z := ?_) | refine ZK (z := ?_) | refine ZM (z := ?_) | refine ZH (z := ?_) | refine ZO (z := ?_) | refine ZQ (z := ?_) | refine ZR (z := ?_) | refine ZT (z := ?_) | refine ZU (z := ?_) | refine YA (z := ?_) | refine ZG (z := ?_) | refine ZI (z := ?_) | refine YC (z := ?_) | refine YD (z := ?_) | refine YE (z := ?_))
        refine ⟨⟨memNx m e, e.cpu, outNx out e, tk, n + 1⟩, ⟨by simp only [memNx_len]; exact im, memNx_good iw eg, eg.cpu, hf', by simp only [outNx]; rw [if_neg (by rw [hpe]; decide)]; omega, itk, by simp only; rw [show S - (n + 1) = k by omega]; exact irun⟩, by simp only; omega, (tl6 rfl rfl rfl rfl rfl rfl), StLe.of_eq RS_setC⟩
  · have hx' : c.pc = -1 := by
      have h0 : ¬ c.pc ≠ -1 := hx
      omega
    have g13 : (cpRow c)[0 + 0 + 13 * 1]? = some (.int .i64 (c.get 13)) := cp_get hcl 13 (by decide)
    have g0 : (cpRow c)[0 + 0 + 0 * 1]? = some (.int .i64 (c.get 0)) := cp_get hcl 0 (by decide)
    rw [runL_exit hx'] at irun
    repeat (first | refine nl ?_ | refine AWP.seq ?_ | refine AWP.skip ?_ | refine AWP.block ?_)
    have LE : ∀ x, StLe (RS (st.set oO x) o1 oM oC z m c tk) (RS st o1 oM oC z m c tk) := fun x => RS_drop n3 nO3 nO2 nO
    refine AWP.drawX rfl 9 [8] [RS (st.set oO (outC 0 false 0 out tk)) o1 oM oC z m c tk, RS (st.set oO (outC 0 false (c.get 0) out tk)) o1 oM oC z m c tk] (RS st o1 oM oC z m c tk) rfl rfl (LE _) ?_
    repeat (first | refine dsS rfl rfl ?_ | refine dpS (h := fun _ _ => ZD (z := nz)) (z := ?_) | refine dpS (h := fun _ _ => ZE (z := nz)) (z := ?_) | refine dpS (h := fun _ _ => ZF (z := nz)) (z := ?_) | refine dpS (h := fun _ _ => ZC (z := nz)) (z := ?_) | refine dpS (h := fun _ _ => ZJ (z := nz)) (z := ?_) | refine dpS (h := fun _ _ => ZK (z := nz)) (z := ?_) | refine dpS (h := fun _ _ => ZM (z := nz)) (z := ?_) | refine dpS (h := fun _ _ => ZH (z := nz)) (z := ?_) | refine dpS (h := fun _ _ => ZQ (z := nz)) (z := ?_) | refine dpS (h := fun _ _ => ZO (z := nz)) (z := ?_) | refine dpS (h := fun _ _ => ZG (z := nz)) (z := ?_) | refine dpS (h := fun _ _ => ZI (z := nz)) (z := ?_) | refine dpS (h := fun _ _ => YC (z := nz)) (z := ?_) | refine dpS (h := fun _ _ => YJ (z := nz)) (z := ?_) | refine dpS (h := fun _ _ => YK (z := nz)) (z := ?_) | refine dpS (h := fun _ _ => YL (z := nz)) (z := ?_) | refine dpS (h := fun _ _ => YM (z := nz)) (z := ?_))
    refine dqS rfl rfl rfl (fun st1 hle => ixa (m := 0) rfl rfl rfl (by decide) rfl (nl ⟨_, rfl, rfl, rfl⟩)) ?_
    refine dqS rfl rfl rfl (fun st1 hle => lcS rfl rfl rfl (hle.obj _ _ (fC _ _ _ _)) rfl g0 (nl ⟨_, rfl, rfl, rfl⟩)) ?_
    repeat (first | refine dsS rfl rfl ?_ | refine dpS (h := fun _ _ => ZD (z := nz)) (z := ?_) | refine dpS (h := fun _ _ => ZE (z := nz)) (z := ?_) | refine dpS (h := fun _ _ => ZF (z := nz)) (z := ?_) | refine dpS (h := fun _ _ => ZC (z := nz)) (z := ?_) | refine dpS (h := fun _ _ => ZJ (z := nz)) (z := ?_) | refine dpS (h := fun _ _ => ZK (z := nz)) (z := ?_) | refine dpS (h := fun _ _ => ZM (z := nz)) (z := ?_) | refine dpS (h := fun _ _ => ZH (z := nz)) (z := ?_) | refine dpS (h := fun _ _ => ZQ (z := nz)) (z := ?_) | refine dpS (h := fun _ _ => ZO (z := nz)) (z := ?_) | refine dpS (h := fun _ _ => ZG (z := nz)) (z := ?_) | refine dpS (h := fun _ _ => ZI (z := nz)) (z := ?_) | refine dpS (h := fun _ _ => YC (z := nz)) (z := ?_) | refine dpS (h := fun _ _ => YJ (z := nz)) (z := ?_) | refine dpS (h := fun _ _ => YK (z := nz)) (z := ?_) | refine dpS (h := fun _ _ => YL (z := nz)) (z := ?_) | refine dpS (h := fun _ _ => YM (z := nz)) (z := ?_))
    refine dqS rfl rfl rfl (fun st1 hle => ixa (m := 13) rfl rfl rfl (by decide) rfl (nl ⟨_, rfl, rfl, rfl⟩)) ?_
    refine dqS rfl rfl rfl (fun st1 hle => lcS rfl rfl rfl (hle.obj _ _ (fC _ _ _ _)) rfl g13 (nl ⟨_, rfl, rfl, rfl⟩)) ?_
    repeat (first | refine dsS rfl rfl ?_ | refine dpS (h := fun _ _ => ZD (z := nz)) (z := ?_) | refine dpS (h := fun _ _ => ZE (z := nz)) (z := ?_) | refine dpS (h := fun _ _ => ZF (z := nz)) (z := ?_) | refine dpS (h := fun _ _ => ZC (z := nz)) (z := ?_) | refine dpS (h := fun _ _ => ZJ (z := nz)) (z := ?_) | refine dpS (h := fun _ _ => ZK (z := nz)) (z := ?_) | refine dpS (h := fun _ _ => ZM (z := nz)) (z := ?_) | refine dpS (h := fun _ _ => ZH (z := nz)) (z := ?_) | refine dpS (h := fun _ _ => ZQ (z := nz)) (z := ?_) | refine dpS (h := fun _ _ => ZO (z := nz)) (z := ?_) | refine dpS (h := fun _ _ => ZG (z := nz)) (z := ?_) | refine dpS (h := fun _ _ => ZI (z := nz)) (z := ?_) | refine dpS (h := fun _ _ => YC (z := nz)) (z := ?_) | refine dpS (h := fun _ _ => YJ (z := nz)) (z := ?_) | refine dpS (h := fun _ _ => YK (z := nz)) (z := ?_) | refine dpS (h := fun _ _ => YL (z := nz)) (z := ?_) | refine dpS (h := fun _ _ => YM (z := nz)) (z := ?_))
    refine deS rfl rfl rfl (LE _) rfl rfl (so (rows' := [[.int .i64 0, .bool false, .int .i64 (c.get 0), .view 1 (out.map ivRow) (.own tk 3)]]) rfl rfl rfl (RS_oO nO3 nO2 nO) rfl rfl rfl rfl rfl (nl ⟨rfl, RS_in nO3 nO2 nO⟩)) ?_
    refine dnS rfl ?_
    repeat (first | refine ZA (z := ?_) | refine ZB (z := ?_) | refine ZC (z := ?_) | refine ZD (z := ?_) | refine ZE (z := ?_) | refine ZF (z := ?_) | refine ZJ (z := ?_) | refine ZK (z := ?_) | refine ZM (z := ?_) | refine ZH (z := ?_) | refine ZO (z := ?_) | refine ZQ (z := ?_) | refine ZR (z := ?_) | refine ZT (z := ?_) | refine ZU (z := ?_) | refine YA (z := ?_) | refine ZG (z := ?_) | refine ZI (z := ?_) | refine YC (z := ?_) | refine YD (z := ?_) | refine YE (z := ?_))
    refine so (rows' := [[.int .i64 0, .bool (decide (c.get 13 ≠ 0)), .int .i64 (c.get 0), .view 1 (out.map ivRow) (.own tk 3)]]) rfl rfl rfl (RS_oO nO3 nO2 nO) rfl rfl rfl rfl rfl ?_
    rw [show (AObj.cells 48 4 [[.int .i64 0, .bool (decide (c.get 13 ≠ 0)), .int .i64 (c.get 0), .view 1 (out.map ivRow) (.own tk 3)]]) = outC 0 (decide (c.get 13 ≠ 0)) (c.get 0) out tk from rfl, RS_in nO3 nO2 nO]
    repeat (first | refine nl ?_ | refine AWP.seq ?_ | refine rg ?_ | refine AWP.skip ?_ | refine AWP.block ?_ | refine YH (z := ?_) | refine YI (z := ?_) | refine ZA (z := ?_) | refine ZB (z := ?_) | refine ZC (z := ?_) | refine ZD (z := ?_) | refine ZE (z := ?_) | refine ZF (z := ?_) | refine ZJ (z := ?_) | refine ZK (z := ?_) | refine ZM (z := ?_) | refine ZH (z := ?_) | refine ZO (z := ?_) | refine ZQ (z := ?_) | refine ZR (z := ?_) | refine ZT (z := ?_) | refine ZU (z := ?_) | refine YA (z := ?_) | refine ZG (z := ?_) | refine ZI (z := ?_) | refine YC (z := ?_) | refine YD (z := ?_) | refine YE (z := ?_))
    refine lcW rfl rfl rfl (RS_oO nO3 nO2 nO) rfl rfl ?_
    refine so (rows' := [[.int .i64 0, .bool (decide (c.get 13 ≠ 0)), .int .i64 (c.get 0), .view 1 (out.map ivRow) (.own tk 3)]]) rfl rfl rfl ((RS_o1 m1 m2).trans (by rw [← hz])) rfl rfl rfl rfl rfl ?_
    rw [RS_set1 m1 m2]
    repeat (first | refine nl ?_ | refine AWP.seq ?_ | refine rg ?_ | refine AWP.skip ?_ | refine AWP.block ?_ | refine YH (z := ?_) | refine YI (z := ?_) | refine ZA (z := ?_) | refine ZB (z := ?_) | refine ZC (z := ?_) | refine ZD (z := ?_) | refine ZE (z := ?_) | refine ZF (z := ?_) | refine ZJ (z := ?_) | refine ZK (z := ?_) | refine ZM (z := ?_) | refine ZH (z := ?_) | refine ZO (z := ?_) | refine ZQ (z := ?_) | refine ZR (z := ?_) | refine ZT (z := ?_) | refine ZU (z := ?_) | refine YA (z := ?_) | refine ZG (z := ?_) | refine ZI (z := ?_) | refine YC (z := ?_) | refine YD (z := ?_) | refine YE (z := ?_))
    exact AWP.ret (rets (resCW rfl (RS_o1 m1 m2) rfl rfl rfl rfl) (oc_own _ _ _ _ _) ((RS_drop n3 nO3 nO2 nO).trans (RS_le h1 n1 n2)) ⟨by rw [← irun], rfl⟩)
end Go.Proofs
/- strconv.Itoa at this program: the kit's contract, laid by the kit's own tool in plain words. No conditions: lemmas only. -/
namespace Go.Proofs
open Go.Shelf
def Tryd.laysItoa_ren : Go.Shelf.Ren := ⟨fun | 171 => 32 | 243 => 40 | 246 => 43 | 283 => 44 | 284 => 45 | 285 => 46 | 286 => 47 | 129 => 49 | 317 => 48 | 318 => 50 | 319 => 51 | 320 => 52 | 337 => 53 | 338 => 54 | n => n, fun | 3 => 3 | 9 => 9 | 2 => 2 | 4 => 4 | 171 => 74 | 0 => 0 | 53 => 75 | 37 => 71 | 5 => 5 | 173 => 78 | 212 => 81 | 51 => 82 | 20 => 20 | 213 => 83 | 46 => 57 | 232 => 86 | 233 => 87 | n => n, fun | 17 => 1 | 18 => 2 | 19 => 3 | n => n⟩
theorem Tryd.laysItoa : Go.Proofs.LaysM.n171 Tryd.prog Tryd.laysItoa_ren := {
  mixed := by kernel_rfl
  f129 := Tryd.func49.trans (congrArg some (by kernel_rfl))
  f171 := Tryd.func32.trans (congrArg some (by kernel_rfl))
  f243 := Tryd.func40.trans (congrArg some (by kernel_rfl))
  f246 := Tryd.func43.trans (congrArg some (by kernel_rfl))
  f283 := Tryd.func44.trans (congrArg some (by kernel_rfl))
  f284 := Tryd.func45.trans (congrArg some (by kernel_rfl))
  f285 := Tryd.func46.trans (congrArg some (by kernel_rfl))
  f286 := Tryd.func47.trans (congrArg some (by kernel_rfl))
  f317 := Tryd.func48.trans (congrArg some (by kernel_rfl))
  f318 := Tryd.func50.trans (congrArg some (by kernel_rfl))
  f319 := Tryd.func51.trans (congrArg some (by kernel_rfl))
  f320 := Tryd.func52.trans (congrArg some (by kernel_rfl))
  f337 := Tryd.func53.trans (congrArg some (by kernel_rfl))
  f338 := Tryd.func54.trans (congrArg some (by kernel_rfl))
  t0 := Tryd.underlying0
  a0 := Tryd.isAgg0
  z0 := Tryd.sizeOf0
  v0 := Tryd.zeroValue0
  t2 := Tryd.underlying2
  a2 := Tryd.isAgg2
  z2 := Tryd.sizeOf2
  v2 := Tryd.zeroValue2
  t3 := Tryd.underlying3
  a3 := Tryd.isAgg3
  z3 := Tryd.sizeOf3
  v3 := Tryd.zeroValue3
  t4 := Tryd.underlying4
  a4 := Tryd.isAgg4
  z4 := Tryd.sizeOf4
  v4 := Tryd.zeroValue4
  t5 := Tryd.underlying5
  a5 := Tryd.isAgg5
  z5 := Tryd.sizeOf5
  v5 := Tryd.zeroValue5
  t9 := Tryd.underlying9
  a9 := Tryd.isAgg9
  z9 := Tryd.sizeOf9
  v9 := Tryd.zeroValue9
  t20 := Tryd.underlying20
  a20 := Tryd.isAgg20
  z20 := Tryd.sizeOf20
  v20 := Tryd.zeroValue20
  t37 := Tryd.underlying71
  a37 := Tryd.isAgg71
  z37 := Tryd.sizeOf71
  v37 := Tryd.zeroValue71
  t46 := Tryd.underlying57
  a46 := Tryd.isAgg57
  z46 := Tryd.sizeOf57
  v46 := Tryd.zeroValue57
  t51 := Tryd.underlying82
  a51 := Tryd.isAgg82
  z51 := Tryd.sizeOf82
  v51 := Tryd.zeroValue82
  t53 := Tryd.underlying75
  a53 := Tryd.isAgg75
  z53 := Tryd.sizeOf75
  v53 := Tryd.zeroValue75
  t171 := Tryd.underlying74
  a171 := Tryd.isAgg74
  z171 := Tryd.sizeOf74
  v171 := Tryd.zeroValue74
  t173 := Tryd.underlying78
  a173 := Tryd.isAgg78
  z173 := Tryd.sizeOf78
  v173 := Tryd.zeroValue78
  t212 := Tryd.underlying81
  a212 := Tryd.isAgg81
  z212 := Tryd.sizeOf81
  v212 := Tryd.zeroValue81
  t213 := Tryd.underlying83
  a213 := Tryd.isAgg83
  z213 := Tryd.sizeOf83
  t232 := Tryd.underlying86
  a232 := Tryd.isAgg86
  z232 := Tryd.sizeOf86
  v232 := Tryd.zeroValue86
  t233 := Tryd.underlying87
  a233 := Tryd.isAgg87
  z233 := Tryd.sizeOf87
  v233 := Tryd.zeroValue87
  g17 := by kernel_rfl
  g18 := by kernel_rfl
  g19 := by kernel_rfl
  i0 := by kernel_rfl
  i2 := by kernel_rfl
  i3 := by kernel_rfl
  i4 := by kernel_rfl
  i5 := by kernel_rfl
  i9 := by kernel_rfl
  i20 := by kernel_rfl
  i37 := by kernel_rfl
  i46 := by kernel_rfl
  i51 := by kernel_rfl
  i53 := by kernel_rfl
  i171 := by kernel_rfl
  i173 := by kernel_rfl
  i212 := by kernel_rfl
  i232 := by kernel_rfl
  i233 := by kernel_rfl
  m17 := by kernel_rfl
  m18 := by kernel_rfl
  m19 := by kernel_rfl }
theorem itoaC (n : Int) (h0 : -9223372036854775808 ≤ n) (h1 : n ≤ 9223372036854775807) (w : World) (htab : Lib.TabIs Tryd.prog w "internal/strconv.uint64pow10" .u64 Lib.pow10Tab) :
    Calls Tryd.prog 32 #[.int .i64 n] w fun e w' => e = .returned (.string ⟨(Lib.itoa n).toArray⟩) ∧ ∃ k os, w' = Sort.grow (w.drewN k) os := Any.strconv_Itoa Tryd.laysItoa n h0 h1 w htab
end Go.Proofs
/- Numbers and instructions as texts. No conditions: definitions and lemmas only. -/
namespace Go.Proofs
open Go.AM
attribute [local irreducible] AWP AOps ACalls
set_option linter.unusedSimpArgs false

theorem wrap8 {a : Int} (h : 0 ≤ a ∧ a < 256) : IntKind.u8.wrap a = a := by
  simp only [IntKind.wrap, IntKind.bits, IntKind.signed]
  simp
  omega
theorem nDigits_le : ∀ (k u : Nat), 1 ≤ k → u < 10 ^ k → Lib.nDigits u ≤ k
  | 0, _, h, _ => by omega
  | k + 1, u, _, h => by
    rw [Lib.nDigits]
    split
    · omega
    · rename_i hu
      cases k with
      | zero => simp at h; omega
      | succ k =>
        have := nDigits_le (k + 1) (u / 10) (by omega) (by rw [Nat.pow_succ] at h; omega)
        omega
theorem dec_len {u : Nat} (h : u < 10000000000000000000) : (Lib.decDigits u).length ≤ 19 := by
  rw [Lib.decDigits_length]
  exact nDigits_le 19 u (by decide) h
theorem itoa_len {n : Int} (h : w64 n) : (Lib.itoa n).length ≤ 20 := by
  unfold w64 at h
  unfold Lib.itoa
  split
  · have := dec_len (u := n.natAbs) (by omega)
    simp only [List.length_cons]
    omega
  · have := dec_len (u := n.toNat) (by omega)
    omega
theorem itoa_nat (u : Nat) : Lib.itoa (u : Int) = Lib.decDigits u := by
  unfold Lib.itoa
  rw [if_neg (by omega), Int.toNat_natCast]
/-- The reference's Digits. -/
theorem dig_nat (u : Nat) : ∀ (_ : u < 9223372036854775808) (st : St), ACalls Tryd.prog 34 [.int .i64 (u : Int)] st (fun v st' => v = .str (Lib.decDigits u) ∧ st' = st) (fun _ _ => False) := by
  induction u using Nat.strongRecOn with
  | _ u ih =>
    intro hu st
    refine ACalls.ofBody Tryd.func34 rfl Tryd.ntmps34 rfl ?_
    repeat (first | refine nl ?_ | refine AWP.seq ?_ | refine rg ?_ | refine AWP.skip ?_ | refine AWP.block ?_ | refine YH (z := ?_) | refine YI (z := ?_) | refine ZA (z := ?_) | refine ZB (z := ?_) | refine ZC (z := ?_) | refine ZD (z := ?_) | refine ZE (z := ?_) | refine ZF (z := ?_) | refine ZJ (z := ?_) | refine ZK (z := ?_) | refine ZM (z := ?_) | refine ZH (z := ?_) | refine ZO (z := ?_) | refine ZQ (z := ?_) | refine ZR (z := ?_) | refine ZT (z := ?_) | refine ZU (z := ?_) | refine YA (z := ?_) | refine ZG (z := ?_) | refine ZI (z := ?_) | refine YC (z := ?_) | refine YD (z := ?_) | refine YE (z := ?_))
    refine AWP.cond_dec rfl (fun h => ?_) (fun h => AWP.skip ?_)
    · have h' : u < 10 := by have h0 : (u : Int) < 10 := h; omega
      repeat (first | refine nl ?_ | refine AWP.seq ?_ | refine rg ?_ | refine AWP.skip ?_ | refine AWP.block ?_ | refine YH (z := ?_) | refine YI (z := ?_) | refine ZA (z := ?_) | refine ZB (z := ?_) | refine ZC (z := ?_) | refine ZD (z := ?_) | refine ZE (z := ?_) | refine ZF (z := ?_) | refine ZJ (z := ?_) | refine ZK (z := ?_) | refine ZM (z := ?_) | refine ZH (z := ?_) | refine ZO (z := ?_) | refine ZQ (z := ?_) | refine ZR (z := ?_) | refine ZT (z := ?_) | refine ZU (z := ?_) | refine YA (z := ?_) | refine ZG (z := ?_) | refine ZI (z := ?_) | refine YC (z := ?_) | refine YD (z := ?_) | refine YE (z := ?_))
      refine Go.AM.ad rfl rfl rfl (by omega) ?_
      refine cv (c := ((UInt8.ofNat (48 + u)).toNat : Int)) rfl rfl ?_ ?_
      · have e : (UInt8.ofNat (48 + u)).toNat = 48 + u := by rw [UInt8.toNat_ofNat']; omega
        rw [e, wrap8 (by omega)]
        omega
      repeat (first | refine nl ?_ | refine AWP.seq ?_ | refine rg ?_ | refine AWP.skip ?_ | refine AWP.block ?_ | refine YH (z := ?_) | refine YI (z := ?_) | refine ZA (z := ?_) | refine ZB (z := ?_) | refine ZC (z := ?_) | refine ZD (z := ?_) | refine ZE (z := ?_) | refine ZF (z := ?_) | refine ZJ (z := ?_) | refine ZK (z := ?_) | refine ZM (z := ?_) | refine ZH (z := ?_) | refine ZO (z := ?_) | refine ZQ (z := ?_) | refine ZR (z := ?_) | refine ZT (z := ?_) | refine ZU (z := ?_) | refine YA (z := ?_) | refine ZG (z := ?_) | refine ZI (z := ?_) | refine YC (z := ?_) | refine YD (z := ?_) | refine YE (z := ?_))
      refine cbs (l := [UInt8.ofNat (48 + u)]) rfl rfl ?_
      repeat (first | refine nl ?_ | refine AWP.seq ?_ | refine rg ?_ | refine AWP.skip ?_ | refine AWP.block ?_ | refine YH (z := ?_) | refine YI (z := ?_) | refine ZA (z := ?_) | refine ZB (z := ?_) | refine ZC (z := ?_) | refine ZD (z := ?_) | refine ZE (z := ?_) | refine ZF (z := ?_) | refine ZJ (z := ?_) | refine ZK (z := ?_) | refine ZM (z := ?_) | refine ZH (z := ?_) | refine ZO (z := ?_) | refine ZQ (z := ?_) | refine ZR (z := ?_) | refine ZT (z := ?_) | refine ZU (z := ?_) | refine YA (z := ?_) | refine ZG (z := ?_) | refine ZI (z := ?_) | refine YC (z := ?_) | refine YD (z := ?_) | refine YE (z := ?_))
      exact AWP.ret (rets rfl (.refl _) (.refl _) ⟨by rw [Lib.decDigits_one h']; rfl, rfl⟩)
    · have h' : ¬ u < 10 := by have h0 : ¬ (u : Int) < 10 := h; omega
      have hd := dec_len (u := u / 10) (by omega)
      have hm := dec_len (u := u % 10) (by omega)
      have e1 : (u : Int).tdiv 10 = ((u / 10 : Nat) : Int) := by rw [Int.tdiv_eq_ediv_of_nonneg (by omega)]; omega
      have e2 : (u : Int).tmod 10 = ((u % 10 : Nat) : Int) := by rw [Int.tmod_eq_emod_of_nonneg (by omega)]; omega
      repeat (first | refine nl ?_ | refine AWP.seq ?_ | refine rg ?_ | refine AWP.skip ?_ | refine AWP.block ?_ | refine YH (z := ?_) | refine YI (z := ?_) | refine ZA (z := ?_) | refine ZB (z := ?_) | refine ZC (z := ?_) | refine ZD (z := ?_) | refine ZE (z := ?_) | refine ZF (z := ?_) | refine ZJ (z := ?_) | refine ZK (z := ?_) | refine ZM (z := ?_) | refine ZH (z := ?_) | refine ZO (z := ?_) | refine ZQ (z := ?_) | refine ZR (z := ?_) | refine ZT (z := ?_) | refine ZU (z := ?_) | refine YA (z := ?_) | refine ZG (z := ?_) | refine ZI (z := ?_) | refine YC (z := ?_) | refine YD (z := ?_) | refine YE (z := ?_))
      refine qu rfl rfl rfl (by decide) (by rw [e1]; omega) ?_
      rw [e1]
      repeat (first | refine ZA (z := ?_) | refine ZB (z := ?_) | refine ZC (z := ?_) | refine ZD (z := ?_) | refine ZE (z := ?_) | refine ZF (z := ?_) | refine ZJ (z := ?_) | refine ZK (z := ?_) | refine ZM (z := ?_) | refine ZH (z := ?_) | refine ZO (z := ?_) | refine ZQ (z := ?_) | refine ZR (z := ?_) | refine ZT (z := ?_) | refine ZU (z := ?_) | refine YA (z := ?_) | refine ZG (z := ?_) | refine ZI (z := ?_) | refine YC (z := ?_) | refine YD (z := ?_) | refine YE (z := ?_))
      refine cle rfl rfl (ih (u / 10) (by omega) (by omega) _) ?_
      repeat (first | refine ZA (z := ?_) | refine ZB (z := ?_) | refine ZC (z := ?_) | refine ZD (z := ?_) | refine ZE (z := ?_) | refine ZF (z := ?_) | refine ZJ (z := ?_) | refine ZK (z := ?_) | refine ZM (z := ?_) | refine ZH (z := ?_) | refine ZO (z := ?_) | refine ZQ (z := ?_) | refine ZR (z := ?_) | refine ZT (z := ?_) | refine ZU (z := ?_) | refine YA (z := ?_) | refine ZG (z := ?_) | refine ZI (z := ?_) | refine YC (z := ?_) | refine YD (z := ?_) | refine YE (z := ?_))
      refine rm rfl rfl rfl (by decide) ?_
      rw [e2]
      repeat (first | refine ZA (z := ?_) | refine ZB (z := ?_) | refine ZC (z := ?_) | refine ZD (z := ?_) | refine ZE (z := ?_) | refine ZF (z := ?_) | refine ZJ (z := ?_) | refine ZK (z := ?_) | refine ZM (z := ?_) | refine ZH (z := ?_) | refine ZO (z := ?_) | refine ZQ (z := ?_) | refine ZR (z := ?_) | refine ZT (z := ?_) | refine ZU (z := ?_) | refine YA (z := ?_) | refine ZG (z := ?_) | refine ZI (z := ?_) | refine YC (z := ?_) | refine YD (z := ?_) | refine YE (z := ?_))
      refine cle rfl rfl (ih (u % 10) (by omega) (by omega) _) ?_
      refine sad rfl rfl rfl (by omega) ?_
      repeat (first | refine nl ?_ | refine AWP.seq ?_ | refine rg ?_ | refine AWP.skip ?_ | refine AWP.block ?_ | refine YH (z := ?_) | refine YI (z := ?_) | refine ZA (z := ?_) | refine ZB (z := ?_) | refine ZC (z := ?_) | refine ZD (z := ?_) | refine ZE (z := ?_) | refine ZF (z := ?_) | refine ZJ (z := ?_) | refine ZK (z := ?_) | refine ZM (z := ?_) | refine ZH (z := ?_) | refine ZO (z := ?_) | refine ZQ (z := ?_) | refine ZR (z := ?_) | refine ZT (z := ?_) | refine ZU (z := ?_) | refine YA (z := ?_) | refine ZG (z := ?_) | refine ZI (z := ?_) | refine YC (z := ?_) | refine YD (z := ?_) | refine YE (z := ?_))
      refine AWP.ret (rets rfl (.refl _) (.refl _) ⟨?_, rfl⟩)
      rw [Lib.decDigits_one (i := u % 10) (by omega)]
      conv => rhs; rw [Lib.decDigits, dif_neg h']
      rfl
theorem dig_ok (n : Int) (hn : w64 n) (st : St) : ACalls Tryd.prog 34 [.int .i64 n] st (fun v st' => v = .str (Lib.itoa n) ∧ st' = st) (fun _ _ => False) := by
  by_cases h0 : n < 0
  · refine ACalls.ofBody Tryd.func34 rfl Tryd.ntmps34 rfl ?_
    unfold w64 at hn
    repeat (first | refine nl ?_ | refine AWP.seq ?_ | refine rg ?_ | refine AWP.skip ?_ | refine AWP.block ?_ | refine YH (z := ?_) | refine YI (z := ?_) | refine ZA (z := ?_) | refine ZB (z := ?_) | refine ZC (z := ?_) | refine ZD (z := ?_) | refine ZE (z := ?_) | refine ZF (z := ?_) | refine ZJ (z := ?_) | refine ZK (z := ?_) | refine ZM (z := ?_) | refine ZH (z := ?_) | refine ZO (z := ?_) | refine ZQ (z := ?_) | refine ZR (z := ?_) | refine ZT (z := ?_) | refine ZU (z := ?_) | refine YA (z := ?_) | refine ZG (z := ?_) | refine ZI (z := ?_) | refine YC (z := ?_) | refine YD (z := ?_) | refine YE (z := ?_))
    refine AWP.cond_dec rfl (fun h => ?_) (fun h => AWP.skip ?_)
    · have h' : n = -9223372036854775808 := h
      repeat (first | refine nl ?_ | refine AWP.seq ?_ | refine rg ?_ | refine AWP.skip ?_ | refine AWP.block ?_ | refine YH (z := ?_) | refine YI (z := ?_) | refine ZA (z := ?_) | refine ZB (z := ?_) | refine ZC (z := ?_) | refine ZD (z := ?_) | refine ZE (z := ?_) | refine ZF (z := ?_) | refine ZJ (z := ?_) | refine ZK (z := ?_) | refine ZM (z := ?_) | refine ZH (z := ?_) | refine ZO (z := ?_) | refine ZQ (z := ?_) | refine ZR (z := ?_) | refine ZT (z := ?_) | refine ZU (z := ?_) | refine YA (z := ?_) | refine ZG (z := ?_) | refine ZI (z := ?_) | refine YC (z := ?_) | refine YD (z := ?_) | refine YE (z := ?_))
      refine AWP.ret (rets rfl (.refl _) (.refl _) ⟨?_, rfl⟩)
      subst h'
      have e : Lib.itoa (-9223372036854775808) = [45, 57, 50, 50, 51, 51, 55, 50, 48, 51, 54, 56, 53, 52, 55, 55, 53, 56, 48, 56] := by
        unfold Lib.itoa
        rw [if_pos (by decide), show Int.natAbs (-9223372036854775808) = 9223372036854775808 by decide]
        simp [Lib.decDigits]
      rw [e]
      rfl
    · have h' : ¬ n = -9223372036854775808 := h
      obtain ⟨u, hu⟩ : ∃ u : Nat, (0 : Int) - n = (u : Int) := ⟨(0 - n).toNat, by omega⟩
      have hd := dec_len (u := u) (by omega)
      repeat (first | refine nl ?_ | refine AWP.seq ?_ | refine rg ?_ | refine AWP.skip ?_ | refine AWP.block ?_ | refine YH (z := ?_) | refine YI (z := ?_) | refine ZA (z := ?_) | refine ZB (z := ?_) | refine ZC (z := ?_) | refine ZD (z := ?_) | refine ZE (z := ?_) | refine ZF (z := ?_) | refine ZJ (z := ?_) | refine ZK (z := ?_) | refine ZM (z := ?_) | refine ZH (z := ?_) | refine ZO (z := ?_) | refine ZQ (z := ?_) | refine ZR (z := ?_) | refine ZT (z := ?_) | refine ZU (z := ?_) | refine YA (z := ?_) | refine ZG (z := ?_) | refine ZI (z := ?_) | refine YC (z := ?_) | refine YD (z := ?_) | refine YE (z := ?_))
      refine Go.AM.sb rfl rfl rfl (by omega) ?_
      rw [hu]
      repeat (first | refine ZA (z := ?_) | refine ZB (z := ?_) | refine ZC (z := ?_) | refine ZD (z := ?_) | refine ZE (z := ?_) | refine ZF (z := ?_) | refine ZJ (z := ?_) | refine ZK (z := ?_) | refine ZM (z := ?_) | refine ZH (z := ?_) | refine ZO (z := ?_) | refine ZQ (z := ?_) | refine ZR (z := ?_) | refine ZT (z := ?_) | refine ZU (z := ?_) | refine YA (z := ?_) | refine ZG (z := ?_) | refine ZI (z := ?_) | refine YC (z := ?_) | refine YD (z := ?_) | refine YE (z := ?_))
      refine cle rfl rfl (dig_nat u (by omega) _) ?_
      refine sad rfl rfl rfl (by simp; omega) ?_
      repeat (first | refine nl ?_ | refine AWP.seq ?_ | refine rg ?_ | refine AWP.skip ?_ | refine AWP.block ?_ | refine YH (z := ?_) | refine YI (z := ?_) | refine ZA (z := ?_) | refine ZB (z := ?_) | refine ZC (z := ?_) | refine ZD (z := ?_) | refine ZE (z := ?_) | refine ZF (z := ?_) | refine ZJ (z := ?_) | refine ZK (z := ?_) | refine ZM (z := ?_) | refine ZH (z := ?_) | refine ZO (z := ?_) | refine ZQ (z := ?_) | refine ZR (z := ?_) | refine ZT (z := ?_) | refine ZU (z := ?_) | refine YA (z := ?_) | refine ZG (z := ?_) | refine ZI (z := ?_) | refine YC (z := ?_) | refine YD (z := ?_) | refine YE (z := ?_))
      refine AWP.ret (rets rfl (.refl _) (.refl _) ⟨?_, rfl⟩)
      unfold Lib.itoa
      rw [if_pos h0, show n.natAbs = u by omega]
      rfl
  · obtain ⟨u, rfl⟩ : ∃ u : Nat, n = (u : Int) := ⟨n.toNat, by omega⟩
    rw [itoa_nat]
    exact dig_nat u (by have := hn.2; omega) st
def powRow : List AV := Lib.pow10Tab.map fun z => .int .u64 z
theorem itoa_ok (n : Int) (hn : w64 n) (st : St) (hT : (1, powRow) ∈ st.glob) : ACalls Tryd.prog 32 [.int .i64 n] st (fun v st' => v = .str (Lib.itoa n) ∧ st' = st) (fun _ _ => False) := by
  refine ACalls.grown fun g w rargs hs hl hr => ?_
  have hra : rargs = #[.int .i64 n] := by
    have h1 : rargs.size = 1 := by simpa using hl.symm
    obtain ⟨v, rfl⟩ := Array.size_eq_one_iff.1 h1
    have := hr 0 _ v rfl rfl
    cases this
    rfl
  subst hra
  have h64 := hn
  unfold w64 at h64
  refine (itoaC n h64.1 (by omega) w (tabIs hs (by kernel_rfl) hT)).mono fun e w' ⟨he, k, os, hw⟩ => ⟨_, he, fun g w => .str _, os, by rw [hw]; rfl, by rw [hw]; rfl, by rw [hw]; rfl, by rw [hw]; rfl⟩
end Go.Proofs
