/- Instructions and processors, in plain numbers. No conditions: definitions and lemmas only. -/
import Derived.Test.YtmbjedojknmgcaaDoorB2
namespace Go.Proofs
open Go.AM

structure Ins where
  op : Int
  a : Int
  b : Int
  c : Int
  imm : Int
def insRow (i : Ins) : List AV := [.int .i64 i.op, .int .i64 i.a, .int .i64 i.b, .int .i64 i.c, .int .i64 i.imm]
def zIns : Ins := ⟨0, 0, 0, 0, 0⟩
def reg (n : Int) : Bool := decide (0 ≤ n) && decide (n < 16)
def opr (n : Int) : Bool := decide (1 ≤ n) && decide (n < 26)
def w64 (n : Int) : Prop := -9223372036854775808 ≤ n ∧ n < 9223372036854775808
def immOk (n : Int) : Bool := decide (-2147483648 ≤ n) && decide (n < 2147483648)
def rngOk (i : Ins) : Bool := immOk i.imm && reg i.a && reg i.b && reg i.c
def word (i : Ins) : Int := i.op + i.a * 256 + i.b * 65536 + i.c * 16777216 + i.imm * 4294967296
/-- The word of an instruction, and the error. -/
def enc (i : Ins) : Int × Int := if rngOk i = false then (0, 2) else if opr i.op = false then (0, 4) else (word i, 0)
def split (w : Int) : Ins := ⟨w % 256, w / 256 % 256, w / 65536 % 256, w / 16777216 % 256, w / 4294967296⟩
def decOk (i : Ins) : Bool := opr i.op && reg i.a && reg i.b && reg i.c
def dec (w : Int) : Ins × Int := if decOk (split w) = true then (split w, 0) else (zIns, 4)
def encV (i : Ins) : AV := .tuple [.int .i64 (enc i).1, .int .i64 (enc i).2]
def decV (w : Int) : AV := .tuple [.agg (insRow (dec w).1), .int .i64 (dec w).2]

theorem reg_iff {n : Int} : reg n = true ↔ 0 ≤ n ∧ n < 16 := by simp [reg]
theorem opr_iff {n : Int} : opr n = true ↔ 1 ≤ n ∧ n < 26 := by simp [opr]
theorem rng_iff {i : Ins} : rngOk i = true ↔ (-2147483648 ≤ i.imm ∧ i.imm < 2147483648) ∧ (0 ≤ i.a ∧ i.a < 16) ∧ (0 ≤ i.b ∧ i.b < 16) ∧ (0 ≤ i.c ∧ i.c < 16) := by
  simp [rngOk, immOk, reg, and_assoc]
theorem enc_ok {i : Ins} (h1 : rngOk i = true) (h2 : opr i.op = true) : enc i = (word i, 0) := by simp [enc, h1, h2]
theorem word_range {i : Ins} (h1 : rngOk i = true) (h2 : opr i.op = true) : w64 (word i) := by
  rw [rng_iff] at h1
  rw [opr_iff] at h2
  unfold w64 word
  omega
/-! bits -/
theorem and255 (a : Int) : bits .and .i64 a 255 = a % 256 := by
  have h1 : (BitVec.ofInt 64 a &&& BitVec.ofInt 64 255).toNat = (a % 256).toNat := by
    rw [BitVec.toNat_and, BitVec.toNat_ofInt, BitVec.toNat_ofInt]
    rw [show ((255 : Int) % ((2 ^ 64 : Nat) : Int)).toNat = 2 ^ 8 - 1 by decide, Nat.and_two_pow_sub_one_eq_mod]
    omega
  show IntKind.i64.wrap ((BitVec.ofInt 64 a &&& BitVec.ofInt 64 255).toNat : Int) = a % 256
  rw [h1, wrap64 (by omega)]
  omega
/-- Low bits and high bits. -/
theorem or_lo_hi (k : Nat) (hk : k < 64) (lo hi : Int) (h0 : 0 ≤ lo ∧ lo < 2 ^ k) (hr : w64 (lo + hi * 2 ^ k)) : bits .or .i64 lo (hi * 2 ^ k) = lo + hi * 2 ^ k ∧ bits .or .i64 (hi * 2 ^ k) lo = lo + hi * 2 ^ k := by
  have e64 : (2 : Int) ^ 64 = 2 ^ (64 - k) * 2 ^ k := by rw [← Int.pow_add, Nat.sub_add_cancel (by omega)]
  have hpk : (0 : Int) < 2 ^ k := Int.pow_pos (by decide)
  have hhi : (hi * 2 ^ k) % (2 : Int) ^ 64 = (hi % 2 ^ (64 - k)) * 2 ^ k := by rw [e64, Int.mul_comm hi, Int.mul_comm (2 ^ (64 - k)), Int.mul_emod_mul_of_pos _ _ hpk, Int.mul_comm]
  have hm0 : 0 ≤ hi % 2 ^ (64 - k) := Int.emod_nonneg _ (Int.ne_of_gt (Int.pow_pos (by decide)))
  obtain ⟨q, hq⟩ : ∃ q : Nat, hi % 2 ^ (64 - k) = (q : Int) := ⟨_, (Int.toNat_of_nonneg hm0).symm⟩
  obtain ⟨l, rfl⟩ : ∃ l : Nat, lo = (l : Int) := ⟨_, (Int.toNat_of_nonneg h0.1).symm⟩
  have hl : l < 2 ^ k := by have := h0.2; exact_mod_cast this
  have hl64 : l < 2 ^ 64 := Nat.lt_trans hl (Nat.pow_lt_pow_right (by decide) hk)
  have n1 : (BitVec.ofInt 64 (l : Int)).toNat = l := by
    rw [BitVec.toNat_ofInt]
    have : ((2 ^ 64 : Nat) : Int) = 18446744073709551616 := by decide
    rw [this]
    have : (2 : Nat) ^ 64 = 18446744073709551616 := by decide
    omega
  have n2 : (BitVec.ofInt 64 (hi * 2 ^ k)).toNat = 2 ^ k * q := by
    rw [BitVec.toNat_ofInt, show ((2 ^ 64 : Nat) : Int) = 2 ^ 64 by decide, hhi, hq]
    have : ((q : Int) * 2 ^ k) = ((2 ^ k * q : Nat) : Int) := by rw [Nat.mul_comm]; push_cast; rfl
    rw [this, Int.toNat_natCast]
  have hsum : IntKind.i64.wrap ((2 ^ k * q + l : Nat) : Int) = (l : Int) + hi * 2 ^ k := by
    rw [← wrap64 (a := (l : Int) + hi * 2 ^ k) hr]
    have : (((2 ^ k * q + l : Nat) : Int)) % 18446744073709551616 = ((l : Int) + hi * 2 ^ k) % 18446744073709551616 := by
      have e : ((2 ^ k * q + l : Nat) : Int) = (l : Int) + (hi * 2 ^ k) % (2 : Int) ^ 64 := by rw [hhi, hq]; push_cast; rw [Int.mul_comm]; omega
      rw [e, show (2 : Int) ^ 64 = 18446744073709551616 by decide, Int.add_emod_emod]
    unfold IntKind.wrap
    simp only [show (2 : Int) ^ IntKind.i64.bits = 18446744073709551616 by decide]
    rw [this]
  constructor
  · show IntKind.i64.wrap ((BitVec.ofInt 64 (l : Int) ||| BitVec.ofInt 64 (hi * 2 ^ k)).toNat : Int) = _
    rw [BitVec.toNat_or, n1, n2, Nat.or_comm, ← Nat.two_pow_add_eq_or_of_lt hl]
    exact hsum
  · show IntKind.i64.wrap ((BitVec.ofInt 64 (hi * 2 ^ k) ||| BitVec.ofInt 64 (l : Int)).toNat : Int) = _
    rw [BitVec.toNat_or, n1, n2, ← Nat.two_pow_add_eq_or_of_lt hl]
    exact hsum
/-! processors -/
structure Cp where
  r : List Int
  pc : Int
def iv (n : Int) : AV := .int .i64 n
def cpRow (c : Cp) : List AV := c.r.map iv ++ [.int .i64 c.pc]
def Cp.ok (c : Cp) : Prop := c.r.length = 16 ∧ (∀ x ∈ c.r, w64 x) ∧ w64 c.pc
structure Ef where
  cpu : Cp
  stores : Bool
  addr : Int
  word : Int
  prints : Bool
  print : Int
def efRow (e : Ef) : List AV := e.cpu.r.map iv ++ [.int .i64 e.cpu.pc, .bool e.stores, .int .i64 e.addr, .int .i64 e.word, .bool e.prints, .int .i64 e.print]
def zCp : Cp := ⟨List.replicate 16 0, 0⟩
def zEf : Ef := ⟨zCp, false, 0, 0, false, 0⟩
def Cp.get (c : Cp) (n : Int) : Int := c.r.getD n.toNat 0
def Cp.put (c : Cp) (n v : Int) : Cp := { c with r := c.r.set n.toNat v }
def add64 (a b : Int) : Int := IntKind.i64.wrap (a + b)
def sub64 (a b : Int) : Int := IntKind.i64.wrap (a - b)
def mul64 (a b : Int) : Int := IntKind.i64.wrap (a * b)
def b01 (b : Bool) : Int := bif b then 1 else 0
/-- The twelve operations. -/
def bin (k a b : Int) : Int :=
  if k = 0 then add64 a b else if k = 1 then sub64 a b else if k = 2 then mul64 a b else if k = 3 then (if b = 0 then 0 else IntKind.i64.wrap (a.tdiv b)) else if k = 4 then (if b = 0 then a else a.tmod b)
  else if k = 5 then bits .and .i64 a b else if k = 6 then bits .or .i64 a b else if k = 7 then bits .xor .i64 a b
  else if k = 8 then b01 (decide (a < b)) else if k = 9 then b01 (decide (a ≤ b)) else if k = 10 then b01 (decide (a = b)) else b01 (decide (a ≠ b))
def reads (c : Cp) (i : Ins) : Int × Bool :=
  if i.op = 4 then (i.imm, true) else if i.op = 19 then (add64 (if reg i.b = true then c.get i.b else 0) i.imm, true) else if i.op = 24 then (c.get 14, true) else (0, false)
def exec (c : Cp) (i : Ins) (l : Int) : Ef × Int :=
  if (enc i).2 ≠ 0 ∨ i.op = 2 then (zEf, 14) else
  let nx : Cp := { c with pc := add64 c.pc 1 }
  let q (c : Cp) : Ef × Int := ({ zEf with cpu := c }, 0)
  if i.op = 1 then q nx
  else if i.op = 3 then q (nx.put i.a i.imm)
  else if i.op = 4 ∨ i.op = 19 then q (nx.put i.a l)
  else if i.op = 5 then q (nx.put i.a (c.get i.b))
  else if i.op = 18 then q (nx.put i.a (add64 (c.get i.b) i.imm))
  else if i.op = 20 then (⟨nx, true, add64 (c.get i.b) i.imm, c.get i.a, false, 0⟩, 0)
  else if i.op = 21 then q { c with pc := i.imm }
  else if i.op = 22 then (if c.get i.a = 0 then q { c with pc := i.imm } else q nx)
  else if i.op = 23 then (⟨{ c.put 14 (sub64 (c.get 14) 1) with pc := i.imm }, true, sub64 (c.get 14) 1, add64 c.pc 1, false, 0⟩, 0)
  else if i.op = 24 then q { c.put 14 (add64 (c.get 14) 1) with pc := l }
  else if i.op = 25 then (⟨nx, false, 0, 0, true, c.get i.a⟩, 0)
  else q (nx.put i.a (bin (i.op - 6) (c.get i.b) (c.get i.c)))
def readsV (c : Cp) (i : Ins) : AV := .tuple [.int .i64 (reads c i).1, .bool (reads c i).2]
def execV (c : Cp) (i : Ins) (l : Int) : AV := .tuple [.agg (efRow (exec c i l).1), .int .i64 (exec c i l).2]
end Go.Proofs
/- The walks of Mod and of the small functions of isa. No conditions: lemmas only. -/
namespace Go.Proofs
open Go.AM
attribute [local irreducible] AWP AOps ACalls

theorem tmod_gt (n k : Int) (hk : 0 < k) : -k < n.tmod k := by
  have := Int.tmod_lt_of_pos (-n) hk
  rw [Int.neg_tmod] at this
  omega

theorem mod_rem (n k : Int) (hk : 0 < k) : n % k = if n.tmod k < 0 then n.tmod k + k else n.tmod k := by
  have h1 : n % k = n.tmod k % k := by
    conv => lhs; rw [← Int.tmod_add_mul_tdiv n k]
    rw [Int.add_mul_emod_self_left]
  have h2 := Int.tmod_lt_of_pos n hk
  have h3 := tmod_gt n k hk
  rw [h1]
  split
  · rw [← Int.add_emod_right, Int.emod_eq_of_lt (by omega) (by omega)]
  · exact Int.emod_eq_of_lt (by omega) (by omega)

theorem mod_ok (n k : Int) (hk : 0 < k) (hk2 : k ≤ 4611686018427387904) (st : St) : ACalls Tryd.prog 22 [.int .i64 n, .int .i64 k] st (fun v st' => v = .int .i64 (n % k) ∧ st' = st) (fun _ _ => False) := by
  refine ACalls.ofBody Tryd.func22 rfl Tryd.ntmps22 rfl ?_
  have hm := mod_rem n k hk
  repeat (first | refine nl ?_ | refine AWP.seq ?_ | refine rg ?_ | refine AWP.skip ?_ | refine AWP.block ?_ | refine sm rfl ?_ | refine uw rfl ?_ | refine fa rfl rfl ?_ | refine leW rfl rfl rfl rfl rfl ?_ | refine leW rfl rfl rfl (by assumption) rfl ?_ | refine lcW rfl rfl rfl (St.obj_set _ _ _) rfl rfl ?_ | refine le rfl rfl rfl rfl ?_ | refine le rfl rfl (by assumption) rfl ?_ | refine lnv rfl rfl ?_ | refine lnm rfl rfl ?_ | refine ixm rfl rfl rfl rfl (by assumption) ?_ | refine lc rfl rfl (St.obj_set _ _ _) rfl rfl ?_ | refine lc rfl rfl (St.obj_set _ _ _) (by assumption) rfl ?_ | refine lc rfl rfl (by assumption) rfl rfl ?_ | refine lc rfl rfl (by assumption) (by assumption) rfl ?_ | refine inc rfl rfl rfl (by omega) ?_ | refine adn rfl rfl rfl (by omega) ?_ | refine bs1 rfl rfl rfl rfl rfl rfl ?_ | refine bxe rfl rfl rfl rfl ?_ | refine eqA rfl rfl rfl rfl rfl ?_)
  refine rm rfl rfl rfl (by omega) ?_
  repeat (first | refine nl ?_ | refine AWP.seq ?_ | refine rg ?_ | refine AWP.skip ?_ | refine AWP.block ?_ | refine sm rfl ?_ | refine uw rfl ?_ | refine fa rfl rfl ?_ | refine leW rfl rfl rfl rfl rfl ?_ | refine leW rfl rfl rfl (by assumption) rfl ?_ | refine lcW rfl rfl rfl (St.obj_set _ _ _) rfl rfl ?_ | refine le rfl rfl rfl rfl ?_ | refine le rfl rfl (by assumption) rfl ?_ | refine lnv rfl rfl ?_ | refine lnm rfl rfl ?_ | refine ixm rfl rfl rfl rfl (by assumption) ?_ | refine lc rfl rfl (St.obj_set _ _ _) rfl rfl ?_ | refine lc rfl rfl (St.obj_set _ _ _) (by assumption) rfl ?_ | refine lc rfl rfl (by assumption) rfl rfl ?_ | refine lc rfl rfl (by assumption) (by assumption) rfl ?_ | refine inc rfl rfl rfl (by omega) ?_ | refine adn rfl rfl rfl (by omega) ?_ | refine bs1 rfl rfl rfl rfl rfl rfl ?_ | refine bxe rfl rfl rfl rfl ?_ | refine eqA rfl rfl rfl rfl rfl ?_)
  refine AWP.cond_dec rfl (fun h => ?_) (fun h => AWP.skip ?_)
  · rw [if_pos h] at hm
    have h3 := tmod_gt n k hk
    have h4 := Int.tmod_lt_of_pos n hk
    repeat (first | refine nl ?_ | refine AWP.seq ?_ | refine rg ?_ | refine AWP.skip ?_ | refine AWP.block ?_ | refine sm rfl ?_ | refine uw rfl ?_ | refine fa rfl rfl ?_ | refine leW rfl rfl rfl rfl rfl ?_ | refine leW rfl rfl rfl (by assumption) rfl ?_ | refine lcW rfl rfl rfl (St.obj_set _ _ _) rfl rfl ?_ | refine le rfl rfl rfl rfl ?_ | refine le rfl rfl (by assumption) rfl ?_ | refine lnv rfl rfl ?_ | refine lnm rfl rfl ?_ | refine ixm rfl rfl rfl rfl (by assumption) ?_ | refine lc rfl rfl (St.obj_set _ _ _) rfl rfl ?_ | refine lc rfl rfl (St.obj_set _ _ _) (by assumption) rfl ?_ | refine lc rfl rfl (by assumption) rfl rfl ?_ | refine lc rfl rfl (by assumption) (by assumption) rfl ?_ | refine inc rfl rfl rfl (by omega) ?_ | refine adn rfl rfl rfl (by omega) ?_ | refine bs1 rfl rfl rfl rfl rfl rfl ?_ | refine bxe rfl rfl rfl rfl ?_ | refine eqA rfl rfl rfl rfl rfl ?_)
    refine ad rfl rfl rfl (by omega) ?_
    repeat (first | refine nl ?_ | refine AWP.seq ?_ | refine rg ?_ | refine AWP.skip ?_ | refine AWP.block ?_ | refine sm rfl ?_ | refine uw rfl ?_ | refine fa rfl rfl ?_ | refine leW rfl rfl rfl rfl rfl ?_ | refine leW rfl rfl rfl (by assumption) rfl ?_ | refine lcW rfl rfl rfl (St.obj_set _ _ _) rfl rfl ?_ | refine le rfl rfl rfl rfl ?_ | refine le rfl rfl (by assumption) rfl ?_ | refine lnv rfl rfl ?_ | refine lnm rfl rfl ?_ | refine ixm rfl rfl rfl rfl (by assumption) ?_ | refine lc rfl rfl (St.obj_set _ _ _) rfl rfl ?_ | refine lc rfl rfl (St.obj_set _ _ _) (by assumption) rfl ?_ | refine lc rfl rfl (by assumption) rfl rfl ?_ | refine lc rfl rfl (by assumption) (by assumption) rfl ?_ | refine inc rfl rfl rfl (by omega) ?_ | refine adn rfl rfl rfl (by omega) ?_ | refine bs1 rfl rfl rfl rfl rfl rfl ?_ | refine bxe rfl rfl rfl rfl ?_ | refine eqA rfl rfl rfl rfl rfl ?_)
    refine AWP.ret (rets rfl (.refl _) (.refl _) ⟨?_, rfl⟩)
    rw [hm]
    rfl
  · rw [if_neg h] at hm
    repeat (first | refine nl ?_ | refine AWP.seq ?_ | refine rg ?_ | refine AWP.skip ?_ | refine AWP.block ?_ | refine sm rfl ?_ | refine uw rfl ?_ | refine fa rfl rfl ?_ | refine leW rfl rfl rfl rfl rfl ?_ | refine leW rfl rfl rfl (by assumption) rfl ?_ | refine lcW rfl rfl rfl (St.obj_set _ _ _) rfl rfl ?_ | refine le rfl rfl rfl rfl ?_ | refine le rfl rfl (by assumption) rfl ?_ | refine lnv rfl rfl ?_ | refine lnm rfl rfl ?_ | refine ixm rfl rfl rfl rfl (by assumption) ?_ | refine lc rfl rfl (St.obj_set _ _ _) rfl rfl ?_ | refine lc rfl rfl (St.obj_set _ _ _) (by assumption) rfl ?_ | refine lc rfl rfl (by assumption) rfl rfl ?_ | refine lc rfl rfl (by assumption) (by assumption) rfl ?_ | refine inc rfl rfl rfl (by omega) ?_ | refine adn rfl rfl rfl (by omega) ?_ | refine bs1 rfl rfl rfl rfl rfl rfl ?_ | refine bxe rfl rfl rfl rfl ?_ | refine eqA rfl rfl rfl rfl rfl ?_)
    refine AWP.ret (rets rfl (.refl _) (.refl _) ⟨?_, rfl⟩)
    rw [hm]
    rfl

instance (n : Int) : PureFn Tryd.prog 29 [.int .i64 n] (.bool (reg n)) where
  out st := by
    refine ACalls.ofBody Tryd.func29 rfl Tryd.ntmps29 rfl ?_
    repeat (first | refine nl ?_ | refine AWP.seq ?_ | refine rg ?_ | refine AWP.skip ?_ | refine AWP.block ?_ | refine sm rfl ?_ | refine uw rfl ?_ | refine fa rfl rfl ?_ | refine leW rfl rfl rfl rfl rfl ?_ | refine leW rfl rfl rfl (by assumption) rfl ?_ | refine lcW rfl rfl rfl (St.obj_set _ _ _) rfl rfl ?_ | refine le rfl rfl rfl rfl ?_ | refine le rfl rfl (by assumption) rfl ?_ | refine lnv rfl rfl ?_ | refine lnm rfl rfl ?_ | refine ixm rfl rfl rfl rfl (by assumption) ?_ | refine lc rfl rfl (St.obj_set _ _ _) rfl rfl ?_ | refine lc rfl rfl (St.obj_set _ _ _) (by assumption) rfl ?_ | refine lc rfl rfl (by assumption) rfl rfl ?_ | refine lc rfl rfl (by assumption) (by assumption) rfl ?_ | refine inc rfl rfl rfl (by omega) ?_ | refine adn rfl rfl rfl (by omega) ?_ | refine bs1 rfl rfl rfl rfl rfl rfl ?_ | refine bxe rfl rfl rfl rfl ?_ | refine eqA rfl rfl rfl rfl rfl ?_)
    refine gS rfl (fun h => ?_) (fun h => ?_)
    · repeat (first | refine nl ?_ | refine AWP.seq ?_ | refine rg ?_ | refine AWP.skip ?_ | refine AWP.block ?_ | refine sm rfl ?_ | refine uw rfl ?_ | refine fa rfl rfl ?_ | refine leW rfl rfl rfl rfl rfl ?_ | refine leW rfl rfl rfl (by assumption) rfl ?_ | refine lcW rfl rfl rfl (St.obj_set _ _ _) rfl rfl ?_ | refine le rfl rfl rfl rfl ?_ | refine le rfl rfl (by assumption) rfl ?_ | refine lnv rfl rfl ?_ | refine lnm rfl rfl ?_ | refine ixm rfl rfl rfl rfl (by assumption) ?_ | refine lc rfl rfl (St.obj_set _ _ _) rfl rfl ?_ | refine lc rfl rfl (St.obj_set _ _ _) (by assumption) rfl ?_ | refine lc rfl rfl (by assumption) rfl rfl ?_ | refine lc rfl rfl (by assumption) (by assumption) rfl ?_ | refine inc rfl rfl rfl (by omega) ?_ | refine adn rfl rfl rfl (by omega) ?_ | refine bs1 rfl rfl rfl rfl rfl rfl ?_ | refine bxe rfl rfl rfl rfl ?_ | refine eqA rfl rfl rfl rfl rfl ?_)
      exact AWP.ret (rets rfl (.refl _) (.refl _) ⟨by simp [packA, reg, show 0 ≤ n from h], rfl⟩)
    · repeat (first | refine nl ?_ | refine AWP.seq ?_ | refine rg ?_ | refine AWP.skip ?_ | refine AWP.block ?_ | refine sm rfl ?_ | refine uw rfl ?_ | refine fa rfl rfl ?_ | refine leW rfl rfl rfl rfl rfl ?_ | refine leW rfl rfl rfl (by assumption) rfl ?_ | refine lcW rfl rfl rfl (St.obj_set _ _ _) rfl rfl ?_ | refine le rfl rfl rfl rfl ?_ | refine le rfl rfl (by assumption) rfl ?_ | refine lnv rfl rfl ?_ | refine lnm rfl rfl ?_ | refine ixm rfl rfl rfl rfl (by assumption) ?_ | refine lc rfl rfl (St.obj_set _ _ _) rfl rfl ?_ | refine lc rfl rfl (St.obj_set _ _ _) (by assumption) rfl ?_ | refine lc rfl rfl (by assumption) rfl rfl ?_ | refine lc rfl rfl (by assumption) (by assumption) rfl ?_ | refine inc rfl rfl rfl (by omega) ?_ | refine adn rfl rfl rfl (by omega) ?_ | refine bs1 rfl rfl rfl rfl rfl rfl ?_ | refine bxe rfl rfl rfl rfl ?_ | refine eqA rfl rfl rfl rfl rfl ?_)
      exact AWP.ret (rets rfl (.refl _) (.refl _) ⟨by simp [packA, reg, absV, abs1, show ¬ 0 ≤ n from h], rfl⟩)
instance (n : Int) : PureFn Tryd.prog 31 [.int .i64 n] (.bool (reg n)) where
  out st := by
    refine ACalls.ofBody Tryd.func31 rfl Tryd.ntmps31 rfl ?_
    repeat (first | refine nl ?_ | refine AWP.seq ?_ | refine rg ?_ | refine AWP.skip ?_ | refine AWP.block ?_ | refine sm rfl ?_ | refine uw rfl ?_ | refine fa rfl rfl ?_ | refine leW rfl rfl rfl rfl rfl ?_ | refine leW rfl rfl rfl (by assumption) rfl ?_ | refine lcW rfl rfl rfl (St.obj_set _ _ _) rfl rfl ?_ | refine le rfl rfl rfl rfl ?_ | refine le rfl rfl (by assumption) rfl ?_ | refine lnv rfl rfl ?_ | refine lnm rfl rfl ?_ | refine ixm rfl rfl rfl rfl (by assumption) ?_ | refine lc rfl rfl (St.obj_set _ _ _) rfl rfl ?_ | refine lc rfl rfl (St.obj_set _ _ _) (by assumption) rfl ?_ | refine lc rfl rfl (by assumption) rfl rfl ?_ | refine lc rfl rfl (by assumption) (by assumption) rfl ?_ | refine inc rfl rfl rfl (by omega) ?_ | refine adn rfl rfl rfl (by omega) ?_ | refine bs1 rfl rfl rfl rfl rfl rfl ?_ | refine bxe rfl rfl rfl rfl ?_ | refine eqA rfl rfl rfl rfl rfl ?_)
    refine gS rfl (fun h => ?_) (fun h => ?_)
    · repeat (first | refine nl ?_ | refine AWP.seq ?_ | refine rg ?_ | refine AWP.skip ?_ | refine AWP.block ?_ | refine sm rfl ?_ | refine uw rfl ?_ | refine fa rfl rfl ?_ | refine leW rfl rfl rfl rfl rfl ?_ | refine leW rfl rfl rfl (by assumption) rfl ?_ | refine lcW rfl rfl rfl (St.obj_set _ _ _) rfl rfl ?_ | refine le rfl rfl rfl rfl ?_ | refine le rfl rfl (by assumption) rfl ?_ | refine lnv rfl rfl ?_ | refine lnm rfl rfl ?_ | refine ixm rfl rfl rfl rfl (by assumption) ?_ | refine lc rfl rfl (St.obj_set _ _ _) rfl rfl ?_ | refine lc rfl rfl (St.obj_set _ _ _) (by assumption) rfl ?_ | refine lc rfl rfl (by assumption) rfl rfl ?_ | refine lc rfl rfl (by assumption) (by assumption) rfl ?_ | refine inc rfl rfl rfl (by omega) ?_ | refine adn rfl rfl rfl (by omega) ?_ | refine bs1 rfl rfl rfl rfl rfl rfl ?_ | refine bxe rfl rfl rfl rfl ?_ | refine eqA rfl rfl rfl rfl rfl ?_)
      exact AWP.ret (rets rfl (.refl _) (.refl _) ⟨by simp [packA, reg, show 0 ≤ n from h], rfl⟩)
    · repeat (first | refine nl ?_ | refine AWP.seq ?_ | refine rg ?_ | refine AWP.skip ?_ | refine AWP.block ?_ | refine sm rfl ?_ | refine uw rfl ?_ | refine fa rfl rfl ?_ | refine leW rfl rfl rfl rfl rfl ?_ | refine leW rfl rfl rfl (by assumption) rfl ?_ | refine lcW rfl rfl rfl (St.obj_set _ _ _) rfl rfl ?_ | refine le rfl rfl rfl rfl ?_ | refine le rfl rfl (by assumption) rfl ?_ | refine lnv rfl rfl ?_ | refine lnm rfl rfl ?_ | refine ixm rfl rfl rfl rfl (by assumption) ?_ | refine lc rfl rfl (St.obj_set _ _ _) rfl rfl ?_ | refine lc rfl rfl (St.obj_set _ _ _) (by assumption) rfl ?_ | refine lc rfl rfl (by assumption) rfl rfl ?_ | refine lc rfl rfl (by assumption) (by assumption) rfl ?_ | refine inc rfl rfl rfl (by omega) ?_ | refine adn rfl rfl rfl (by omega) ?_ | refine bs1 rfl rfl rfl rfl rfl rfl ?_ | refine bxe rfl rfl rfl rfl ?_ | refine eqA rfl rfl rfl rfl rfl ?_)
      exact AWP.ret (rets rfl (.refl _) (.refl _) ⟨by simp [packA, reg, absV, abs1, show ¬ 0 ≤ n from h], rfl⟩)
instance (n : Int) : PureFn Tryd.prog 30 [.int .i64 n] (.bool (opr n)) where
  out st := by
    refine ACalls.ofBody Tryd.func30 rfl Tryd.ntmps30 rfl ?_
    repeat (first | refine nl ?_ | refine AWP.seq ?_ | refine rg ?_ | refine AWP.skip ?_ | refine AWP.block ?_ | refine sm rfl ?_ | refine uw rfl ?_ | refine fa rfl rfl ?_ | refine leW rfl rfl rfl rfl rfl ?_ | refine leW rfl rfl rfl (by assumption) rfl ?_ | refine lcW rfl rfl rfl (St.obj_set _ _ _) rfl rfl ?_ | refine le rfl rfl rfl rfl ?_ | refine le rfl rfl (by assumption) rfl ?_ | refine lnv rfl rfl ?_ | refine lnm rfl rfl ?_ | refine ixm rfl rfl rfl rfl (by assumption) ?_ | refine lc rfl rfl (St.obj_set _ _ _) rfl rfl ?_ | refine lc rfl rfl (St.obj_set _ _ _) (by assumption) rfl ?_ | refine lc rfl rfl (by assumption) rfl rfl ?_ | refine lc rfl rfl (by assumption) (by assumption) rfl ?_ | refine inc rfl rfl rfl (by omega) ?_ | refine adn rfl rfl rfl (by omega) ?_ | refine bs1 rfl rfl rfl rfl rfl rfl ?_ | refine bxe rfl rfl rfl rfl ?_ | refine eqA rfl rfl rfl rfl rfl ?_)
    refine gS rfl (fun h => ?_) (fun h => ?_)
    · repeat (first | refine nl ?_ | refine AWP.seq ?_ | refine rg ?_ | refine AWP.skip ?_ | refine AWP.block ?_ | refine sm rfl ?_ | refine uw rfl ?_ | refine fa rfl rfl ?_ | refine leW rfl rfl rfl rfl rfl ?_ | refine leW rfl rfl rfl (by assumption) rfl ?_ | refine lcW rfl rfl rfl (St.obj_set _ _ _) rfl rfl ?_ | refine le rfl rfl rfl rfl ?_ | refine le rfl rfl (by assumption) rfl ?_ | refine lnv rfl rfl ?_ | refine lnm rfl rfl ?_ | refine ixm rfl rfl rfl rfl (by assumption) ?_ | refine lc rfl rfl (St.obj_set _ _ _) rfl rfl ?_ | refine lc rfl rfl (St.obj_set _ _ _) (by assumption) rfl ?_ | refine lc rfl rfl (by assumption) rfl rfl ?_ | refine lc rfl rfl (by assumption) (by assumption) rfl ?_ | refine inc rfl rfl rfl (by omega) ?_ | refine adn rfl rfl rfl (by omega) ?_ | refine bs1 rfl rfl rfl rfl rfl rfl ?_ | refine bxe rfl rfl rfl rfl ?_ | refine eqA rfl rfl rfl rfl rfl ?_)
      exact AWP.ret (rets rfl (.refl _) (.refl _) ⟨by simp [packA, opr, show 1 ≤ n from h], rfl⟩)
    · repeat (first | refine nl ?_ | refine AWP.seq ?_ | refine rg ?_ | refine AWP.skip ?_ | refine AWP.block ?_ | refine sm rfl ?_ | refine uw rfl ?_ | refine fa rfl rfl ?_ | refine leW rfl rfl rfl rfl rfl ?_ | refine leW rfl rfl rfl (by assumption) rfl ?_ | refine lcW rfl rfl rfl (St.obj_set _ _ _) rfl rfl ?_ | refine le rfl rfl rfl rfl ?_ | refine le rfl rfl (by assumption) rfl ?_ | refine lnv rfl rfl ?_ | refine lnm rfl rfl ?_ | refine ixm rfl rfl rfl rfl (by assumption) ?_ | refine lc rfl rfl (St.obj_set _ _ _) rfl rfl ?_ | refine lc rfl rfl (St.obj_set _ _ _) (by assumption) rfl ?_ | refine lc rfl rfl (by assumption) rfl rfl ?_ | refine lc rfl rfl (by assumption) (by assumption) rfl ?_ | refine inc rfl rfl rfl (by omega) ?_ | refine adn rfl rfl rfl (by omega) ?_ | refine bs1 rfl rfl rfl rfl rfl rfl ?_ | refine bxe rfl rfl rfl rfl ?_ | refine eqA rfl rfl rfl rfl rfl ?_)
      exact AWP.ret (rets rfl (.refl _) (.refl _) ⟨by simp [packA, opr, absV, abs1, show ¬ 1 ≤ n from h], rfl⟩)
theorem shl_w {a : Int} {k : Nat} (h : w64 (a * 2 ^ k)) (hk : k ≤ 64) : IntKind.i64.wrap (a * 2 ^ (min k IntKind.i64.bits)) = a * 2 ^ k := by
  rw [show min k IntKind.i64.bits = k from Nat.min_eq_left hk]
  exact wrap64 h
theorem shl8 {a : Int} (h : w64 (a * 256)) : IntKind.i64.wrap (a * 2 ^ (min 8 IntKind.i64.bits)) = a * 256 := shl_w (k := 8) h (by decide)
theorem shl16 {a : Int} (h : w64 (a * 65536)) : IntKind.i64.wrap (a * 2 ^ (min 16 IntKind.i64.bits)) = a * 65536 := shl_w (k := 16) h (by decide)
theorem shl24 {a : Int} (h : w64 (a * 16777216)) : IntKind.i64.wrap (a * 2 ^ (min 24 IntKind.i64.bits)) = a * 16777216 := shl_w (k := 24) h (by decide)
theorem shl32 {a : Int} (h : w64 (a * 4294967296)) : IntKind.i64.wrap (a * 2 ^ (min 32 IntKind.i64.bits)) = a * 4294967296 := shl_w (k := 32) h (by decide)
theorem or8 {lo hi : Int} (h0 : 0 ≤ lo ∧ lo < 256) (hr : w64 (lo + hi * 256)) : bits .or .i64 lo (hi * 256) = lo + hi * 256 ∧ bits .or .i64 (hi * 256) lo = lo + hi * 256 := or_lo_hi 8 (by decide) lo hi h0 hr
theorem or16 {lo hi : Int} (h0 : 0 ≤ lo ∧ lo < 65536) (hr : w64 (lo + hi * 65536)) : bits .or .i64 lo (hi * 65536) = lo + hi * 65536 ∧ bits .or .i64 (hi * 65536) lo = lo + hi * 65536 := or_lo_hi 16 (by decide) lo hi h0 hr
theorem or24 {lo hi : Int} (h0 : 0 ≤ lo ∧ lo < 16777216) (hr : w64 (lo + hi * 16777216)) : bits .or .i64 lo (hi * 16777216) = lo + hi * 16777216 ∧ bits .or .i64 (hi * 16777216) lo = lo + hi * 16777216 := or_lo_hi 24 (by decide) lo hi h0 hr
theorem or32 {lo hi : Int} (h0 : 0 ≤ lo ∧ lo < 4294967296) (hr : w64 (lo + hi * 4294967296)) : bits .or .i64 lo (hi * 4294967296) = lo + hi * 4294967296 ∧ bits .or .i64 (hi * 4294967296) lo = lo + hi * 4294967296 := or_lo_hi 32 (by decide) lo hi h0 hr
theorem insRow_mk (op a b c imm : Int) : insRow ⟨op, a, b, c, imm⟩ = [.int .i64 op, .int .i64 a, .int .i64 b, .int .i64 c, .int .i64 imm] := rfl
theorem encF {i : Ins} (h : rngOk i = false) : encV i = .tuple [.int .i64 0, .int .i64 2] := by simp [encV, enc, h]
theorem encG {i : Ins} (h : rngOk i = true) (h2 : opr i.op = false) : encV i = .tuple [.int .i64 0, .int .i64 4] := by simp [encV, enc, h, h2]
theorem encH {i : Ins} (h : rngOk i = true) (h2 : opr i.op = true) : encV i = .tuple [.int .i64 (word i), .int .i64 0] := by simp [encV, enc, h, h2]
theorem rng_false {i : Ins} (h : ¬ ((-2147483648 ≤ i.imm ∧ i.imm < 2147483648) ∧ reg i.a = true ∧ reg i.b = true ∧ reg i.c = true)) : rngOk i = false := by
  cases h2 : rngOk i with
  | false => rfl
  | true =>
    rw [rng_iff] at h2
    exact absurd ⟨h2.1, reg_iff.2 h2.2.1, reg_iff.2 h2.2.2.1, reg_iff.2 h2.2.2.2⟩ h
theorem rng_true {i : Ins} (h : (-2147483648 ≤ i.imm ∧ i.imm < 2147483648) ∧ reg i.a = true ∧ reg i.b = true ∧ reg i.c = true) : rngOk i = true := by
  rw [rng_iff]
  exact ⟨h.1, reg_iff.1 h.2.1, reg_iff.1 h.2.2.1, reg_iff.1 h.2.2.2⟩
set_option maxHeartbeats 2000000 in
instance encode_ok (i : Ins) : PureFn Tryd.prog 10 [.agg (insRow i)] (encV i) where
  out st := by
    refine ACalls.ofBody Tryd.func10 rfl Tryd.ntmps10 rfl ?_
    obtain ⟨op, a, b, c, imm⟩ := i
    rw [insRow_mk]
    repeat (first | refine nl ?_ | refine AWP.seq ?_ | refine rg ?_ | refine AWP.skip ?_ | refine AWP.block ?_ | refine YH (z := ?_) | refine YI (z := ?_) | refine ZA (z := ?_) | refine ZB (z := ?_) | refine ZC (z := ?_) | refine ZD (z := ?_) | refine ZF (z := ?_) | refine ZJ (z := ?_) | refine ZK (z := ?_) | refine ZO (z := ?_) | refine ZQ (z := ?_) | refine ZR (z := ?_) | refine YA (z := ?_) | refine ZG (z := ?_) | refine ZI (z := ?_) | refine YC (z := ?_) | refine YD (z := ?_))
    refine gS rfl (fun h1 => ?_) (fun h1 => ?_)
    · have hr : rngOk ⟨op, a, b, c, imm⟩ = false := rng_false (fun h => by have := h.1; have h1' : imm < -2147483648 := h1; simp only at this; omega)
      repeat (first | refine nl ?_ | refine AWP.seq ?_ | refine rg ?_ | refine AWP.skip ?_ | refine AWP.block ?_ | refine YH (z := ?_) | refine YI (z := ?_) | refine ZA (z := ?_) | refine ZB (z := ?_) | refine ZC (z := ?_) | refine ZD (z := ?_) | refine ZF (z := ?_) | refine ZJ (z := ?_) | refine ZK (z := ?_) | refine ZO (z := ?_) | refine ZQ (z := ?_) | refine ZR (z := ?_) | refine YA (z := ?_) | refine ZG (z := ?_) | refine ZI (z := ?_) | refine YC (z := ?_) | refine YD (z := ?_))
      exact AWP.ret (rets rfl (.refl _) (.refl _) ⟨by rw [encF hr]; rfl, rfl⟩)
    repeat (first | refine nl ?_ | refine AWP.seq ?_ | refine rg ?_ | refine AWP.skip ?_ | refine AWP.block ?_ | refine YH (z := ?_) | refine YI (z := ?_) | refine ZA (z := ?_) | refine ZB (z := ?_) | refine ZC (z := ?_) | refine ZD (z := ?_) | refine ZF (z := ?_) | refine ZJ (z := ?_) | refine ZK (z := ?_) | refine ZO (z := ?_) | refine ZQ (z := ?_) | refine ZR (z := ?_) | refine YA (z := ?_) | refine ZG (z := ?_) | refine ZI (z := ?_) | refine YC (z := ?_) | refine YD (z := ?_))
    refine gS rfl (fun h2 => ?_) (fun h2 => ?_)
    · have hr : rngOk ⟨op, a, b, c, imm⟩ = false := rng_false (fun h => by have := h.1; have h2' : 2147483647 < imm := h2; simp only at this; omega)
      repeat (first | refine nl ?_ | refine AWP.seq ?_ | refine rg ?_ | refine AWP.skip ?_ | refine AWP.block ?_ | refine YH (z := ?_) | refine YI (z := ?_) | refine ZA (z := ?_) | refine ZB (z := ?_) | refine ZC (z := ?_) | refine ZD (z := ?_) | refine ZF (z := ?_) | refine ZJ (z := ?_) | refine ZK (z := ?_) | refine ZO (z := ?_) | refine ZQ (z := ?_) | refine ZR (z := ?_) | refine YA (z := ?_) | refine ZG (z := ?_) | refine ZI (z := ?_) | refine YC (z := ?_) | refine YD (z := ?_))
      exact AWP.ret (rets rfl (.refl _) (.refl _) ⟨by rw [encF hr]; rfl, rfl⟩)
    repeat (first | refine nl ?_ | refine AWP.seq ?_ | refine rg ?_ | refine AWP.skip ?_ | refine AWP.block ?_ | refine YH (z := ?_) | refine YI (z := ?_) | refine ZA (z := ?_) | refine ZB (z := ?_) | refine ZC (z := ?_) | refine ZD (z := ?_) | refine ZF (z := ?_) | refine ZJ (z := ?_) | refine ZK (z := ?_) | refine ZO (z := ?_) | refine ZQ (z := ?_) | refine ZR (z := ?_) | refine YA (z := ?_) | refine ZG (z := ?_) | refine ZI (z := ?_) | refine YC (z := ?_) | refine YD (z := ?_))
    refine gSB rfl (fun ha => ?_) (fun ha => ?_)
    · have h' : reg a = false := by simpa using ha
      have hr : rngOk ⟨op, a, b, c, imm⟩ = false := rng_false (fun h => by have := h.2; simp only at this; simp_all)
      repeat (first | refine nl ?_ | refine AWP.seq ?_ | refine rg ?_ | refine AWP.skip ?_ | refine AWP.block ?_ | refine YH (z := ?_) | refine YI (z := ?_) | refine ZA (z := ?_) | refine ZB (z := ?_) | refine ZC (z := ?_) | refine ZD (z := ?_) | refine ZF (z := ?_) | refine ZJ (z := ?_) | refine ZK (z := ?_) | refine ZO (z := ?_) | refine ZQ (z := ?_) | refine ZR (z := ?_) | refine YA (z := ?_) | refine ZG (z := ?_) | refine ZI (z := ?_) | refine YC (z := ?_) | refine YD (z := ?_))
      exact AWP.ret (rets rfl (.refl _) (.refl _) ⟨by rw [encF hr]; rfl, rfl⟩)
    repeat (first | refine nl ?_ | refine AWP.seq ?_ | refine rg ?_ | refine AWP.skip ?_ | refine AWP.block ?_ | refine YH (z := ?_) | refine YI (z := ?_) | refine ZA (z := ?_) | refine ZB (z := ?_) | refine ZC (z := ?_) | refine ZD (z := ?_) | refine ZF (z := ?_) | refine ZJ (z := ?_) | refine ZK (z := ?_) | refine ZO (z := ?_) | refine ZQ (z := ?_) | refine ZR (z := ?_) | refine YA (z := ?_) | refine ZG (z := ?_) | refine ZI (z := ?_) | refine YC (z := ?_) | refine YD (z := ?_))
    refine gSB rfl (fun hb => ?_) (fun hb => ?_)
    · have h' : reg b = false := by simpa using hb
      have hr : rngOk ⟨op, a, b, c, imm⟩ = false := rng_false (fun h => by have := h.2; simp only at this; simp_all)
      repeat (first | refine nl ?_ | refine AWP.seq ?_ | refine rg ?_ | refine AWP.skip ?_ | refine AWP.block ?_ | refine YH (z := ?_) | refine YI (z := ?_) | refine ZA (z := ?_) | refine ZB (z := ?_) | refine ZC (z := ?_) | refine ZD (z := ?_) | refine ZF (z := ?_) | refine ZJ (z := ?_) | refine ZK (z := ?_) | refine ZO (z := ?_) | refine ZQ (z := ?_) | refine ZR (z := ?_) | refine YA (z := ?_) | refine ZG (z := ?_) | refine ZI (z := ?_) | refine YC (z := ?_) | refine YD (z := ?_))
      exact AWP.ret (rets rfl (.refl _) (.refl _) ⟨by rw [encF hr]; rfl, rfl⟩)
    repeat (first | refine nl ?_ | refine AWP.seq ?_ | refine rg ?_ | refine AWP.skip ?_ | refine AWP.block ?_ | refine YH (z := ?_) | refine YI (z := ?_) | refine ZA (z := ?_) | refine ZB (z := ?_) | refine ZC (z := ?_) | refine ZD (z := ?_) | refine ZF (z := ?_) | refine ZJ (z := ?_) | refine ZK (z := ?_) | refine ZO (z := ?_) | refine ZQ (z := ?_) | refine ZR (z := ?_) | refine YA (z := ?_) | refine ZG (z := ?_) | refine ZI (z := ?_) | refine YC (z := ?_) | refine YD (z := ?_))
    refine AWP.cond_bool rfl (fun hc => ?_) (fun hc => AWP.skip ?_)
    · have h' : reg c = false := by simpa using hc
      have hr : rngOk ⟨op, a, b, c, imm⟩ = false := rng_false (fun h => by have := h.2; simp only at this; simp_all)
      repeat (first | refine nl ?_ | refine AWP.seq ?_ | refine rg ?_ | refine AWP.skip ?_ | refine AWP.block ?_ | refine YH (z := ?_) | refine YI (z := ?_) | refine ZA (z := ?_) | refine ZB (z := ?_) | refine ZC (z := ?_) | refine ZD (z := ?_) | refine ZF (z := ?_) | refine ZJ (z := ?_) | refine ZK (z := ?_) | refine ZO (z := ?_) | refine ZQ (z := ?_) | refine ZR (z := ?_) | refine YA (z := ?_) | refine ZG (z := ?_) | refine ZI (z := ?_) | refine YC (z := ?_) | refine YD (z := ?_))
      exact AWP.ret (rets rfl (.refl _) (.refl _) ⟨by rw [encF hr]; rfl, rfl⟩)
    have hr : rngOk ⟨op, a, b, c, imm⟩ = true := rng_true ⟨⟨by have h1' : ¬ imm < -2147483648 := h1; simp only; omega, by have h2' : ¬ 2147483647 < imm := h2; simp only; omega⟩, by simpa using ha, by simpa using hb, by simpa using hc⟩
    have hq := rng_iff.1 hr
    simp only at hq
    repeat (first | refine nl ?_ | refine AWP.seq ?_ | refine rg ?_ | refine AWP.skip ?_ | refine AWP.block ?_ | refine YH (z := ?_) | refine YI (z := ?_) | refine ZA (z := ?_) | refine ZB (z := ?_) | refine ZC (z := ?_) | refine ZD (z := ?_) | refine ZF (z := ?_) | refine ZJ (z := ?_) | refine ZK (z := ?_) | refine ZO (z := ?_) | refine ZQ (z := ?_) | refine ZR (z := ?_) | refine YA (z := ?_) | refine ZG (z := ?_) | refine ZI (z := ?_) | refine YC (z := ?_) | refine YD (z := ?_))
    refine AWP.cond_bool rfl (fun ho => ?_) (fun ho => AWP.skip ?_)
    · have ho' : opr op = false := by simpa using ho
      repeat (first | refine nl ?_ | refine AWP.seq ?_ | refine rg ?_ | refine AWP.skip ?_ | refine AWP.block ?_ | refine YH (z := ?_) | refine YI (z := ?_) | refine ZA (z := ?_) | refine ZB (z := ?_) | refine ZC (z := ?_) | refine ZD (z := ?_) | refine ZF (z := ?_) | refine ZJ (z := ?_) | refine ZK (z := ?_) | refine ZO (z := ?_) | refine ZQ (z := ?_) | refine ZR (z := ?_) | refine YA (z := ?_) | refine ZG (z := ?_) | refine ZI (z := ?_) | refine YC (z := ?_) | refine YD (z := ?_))
      exact AWP.ret (rets rfl (.refl _) (.refl _) ⟨by rw [encG hr ho']; rfl, rfl⟩)
    have hop : opr op = true := by simpa using ho
    repeat (first | refine nl ?_ | refine AWP.seq ?_ | refine rg ?_ | refine AWP.skip ?_ | refine AWP.block ?_ | refine YH (z := ?_) | refine YI (z := ?_) | refine ZA (z := ?_) | refine ZB (z := ?_) | refine ZC (z := ?_) | refine ZD (z := ?_) | refine ZF (z := ?_) | refine ZJ (z := ?_) | refine ZK (z := ?_) | refine ZO (z := ?_) | refine ZQ (z := ?_) | refine ZR (z := ?_) | refine YA (z := ?_) | refine ZG (z := ?_) | refine ZI (z := ?_) | refine YC (z := ?_) | refine YD (z := ?_))
    have hw : w64 (word ⟨op, a, b, c, imm⟩) := word_range hr hop
    have hq2 := opr_iff.1 hop
    simp only [word] at hw
    unfold w64 at hw
    refine shl_ (c := a * 256) (b := 8) rfl rfl rfl (shl8 (by unfold w64; omega)) ?_
    repeat (first | refine ZA (z := ?_) | refine ZB (z := ?_) | refine ZC (z := ?_) | refine ZD (z := ?_) | refine ZF (z := ?_) | refine ZJ (z := ?_) | refine ZK (z := ?_) | refine ZO (z := ?_) | refine ZQ (z := ?_) | refine ZR (z := ?_) | refine YA (z := ?_) | refine ZG (z := ?_) | refine ZI (z := ?_) | refine YC (z := ?_) | refine YD (z := ?_))
    refine btk (c := op + a * 256) (.inr (.inl rfl)) rfl rfl rfl ((or8 (lo := op) (hi := a) (by omega) (by unfold w64; omega)).1) ?_
    repeat (first | refine ZA (z := ?_) | refine ZB (z := ?_) | refine ZC (z := ?_) | refine ZD (z := ?_) | refine ZF (z := ?_) | refine ZJ (z := ?_) | refine ZK (z := ?_) | refine ZO (z := ?_) | refine ZQ (z := ?_) | refine ZR (z := ?_) | refine YA (z := ?_) | refine ZG (z := ?_) | refine ZI (z := ?_) | refine YC (z := ?_) | refine YD (z := ?_))
    refine shl_ (c := b * 65536) (b := 16) rfl rfl rfl (shl16 (by unfold w64; omega)) ?_
    repeat (first | refine ZA (z := ?_) | refine ZB (z := ?_) | refine ZC (z := ?_) | refine ZD (z := ?_) | refine ZF (z := ?_) | refine ZJ (z := ?_) | refine ZK (z := ?_) | refine ZO (z := ?_) | refine ZQ (z := ?_) | refine ZR (z := ?_) | refine YA (z := ?_) | refine ZG (z := ?_) | refine ZI (z := ?_) | refine YC (z := ?_) | refine YD (z := ?_))
    refine btk (c := op + a * 256 + b * 65536) (.inr (.inl rfl)) rfl rfl rfl ((or16 (lo := (op + a * 256)) (hi := b) (by omega) (by unfold w64; omega)).1) ?_
    repeat (first | refine ZA (z := ?_) | refine ZB (z := ?_) | refine ZC (z := ?_) | refine ZD (z := ?_) | refine ZF (z := ?_) | refine ZJ (z := ?_) | refine ZK (z := ?_) | refine ZO (z := ?_) | refine ZQ (z := ?_) | refine ZR (z := ?_) | refine YA (z := ?_) | refine ZG (z := ?_) | refine ZI (z := ?_) | refine YC (z := ?_) | refine YD (z := ?_))
    refine shl_ (c := c * 16777216) (b := 24) rfl rfl rfl (shl24 (by unfold w64; omega)) ?_
    repeat (first | refine ZA (z := ?_) | refine ZB (z := ?_) | refine ZC (z := ?_) | refine ZD (z := ?_) | refine ZF (z := ?_) | refine ZJ (z := ?_) | refine ZK (z := ?_) | refine ZO (z := ?_) | refine ZQ (z := ?_) | refine ZR (z := ?_) | refine YA (z := ?_) | refine ZG (z := ?_) | refine ZI (z := ?_) | refine YC (z := ?_) | refine YD (z := ?_))
    refine btk (c := op + a * 256 + b * 65536 + c * 16777216) (.inr (.inl rfl)) rfl rfl rfl ((or24 (lo := (op + a * 256 + b * 65536)) (hi := c) (by omega) (by unfold w64; omega)).1) ?_
    repeat (first | refine ZA (z := ?_) | refine ZB (z := ?_) | refine ZC (z := ?_) | refine ZD (z := ?_) | refine ZF (z := ?_) | refine ZJ (z := ?_) | refine ZK (z := ?_) | refine ZO (z := ?_) | refine ZQ (z := ?_) | refine ZR (z := ?_) | refine YA (z := ?_) | refine ZG (z := ?_) | refine ZI (z := ?_) | refine YC (z := ?_) | refine YD (z := ?_))
    refine shl_ (c := imm * 4294967296) (b := 32) rfl rfl rfl (shl32 (by unfold w64; omega)) ?_
    repeat (first | refine ZA (z := ?_) | refine ZB (z := ?_) | refine ZC (z := ?_) | refine ZD (z := ?_) | refine ZF (z := ?_) | refine ZJ (z := ?_) | refine ZK (z := ?_) | refine ZO (z := ?_) | refine ZQ (z := ?_) | refine ZR (z := ?_) | refine YA (z := ?_) | refine ZG (z := ?_) | refine ZI (z := ?_) | refine YC (z := ?_) | refine YD (z := ?_))
    refine btk (c := op + a * 256 + b * 65536 + c * 16777216 + imm * 4294967296) (.inr (.inl rfl)) rfl rfl rfl ((or32 (lo := (op + a * 256 + b * 65536 + c * 16777216)) (hi := imm) (by omega) (by unfold w64; omega)).1) ?_
    repeat (first | refine ZA (z := ?_) | refine ZB (z := ?_) | refine ZC (z := ?_) | refine ZD (z := ?_) | refine ZF (z := ?_) | refine ZJ (z := ?_) | refine ZK (z := ?_) | refine ZO (z := ?_) | refine ZQ (z := ?_) | refine ZR (z := ?_) | refine YA (z := ?_) | refine ZG (z := ?_) | refine ZI (z := ?_) | refine YC (z := ?_) | refine YD (z := ?_))
    repeat (first | refine nl ?_ | refine AWP.seq ?_ | refine rg ?_ | refine AWP.skip ?_ | refine AWP.block ?_ | refine YH (z := ?_) | refine YI (z := ?_) | refine ZA (z := ?_) | refine ZB (z := ?_) | refine ZC (z := ?_) | refine ZD (z := ?_) | refine ZF (z := ?_) | refine ZJ (z := ?_) | refine ZK (z := ?_) | refine ZO (z := ?_) | refine ZQ (z := ?_) | refine ZR (z := ?_) | refine YA (z := ?_) | refine ZG (z := ?_) | refine ZI (z := ?_) | refine YC (z := ?_) | refine YD (z := ?_))
    exact AWP.ret (rets rfl (.refl _) (.refl _) ⟨by rw [encH hr hop]; rfl, rfl⟩)
set_option maxHeartbeats 2000000 in
instance rencode_ok (i : Ins) : PureFn Tryd.prog 11 [.agg (insRow i)] (encV i) where
  out st := by
    refine ACalls.ofBody Tryd.func11 rfl Tryd.ntmps11 rfl ?_
    obtain ⟨op, a, b, c, imm⟩ := i
    rw [insRow_mk]
    repeat (first | refine nl ?_ | refine AWP.seq ?_ | refine rg ?_ | refine AWP.skip ?_ | refine AWP.block ?_ | refine YH (z := ?_) | refine YI (z := ?_) | refine ZA (z := ?_) | refine ZB (z := ?_) | refine ZC (z := ?_) | refine ZD (z := ?_) | refine ZF (z := ?_) | refine ZJ (z := ?_) | refine ZK (z := ?_) | refine ZO (z := ?_) | refine ZQ (z := ?_) | refine ZR (z := ?_) | refine YA (z := ?_) | refine ZG (z := ?_) | refine ZI (z := ?_) | refine YC (z := ?_) | refine YD (z := ?_))
    refine gS rfl (fun h1 => ?_) (fun h1 => ?_)
    · have hr : rngOk ⟨op, a, b, c, imm⟩ = false := rng_false (fun h => by have := h.1; have h1' : imm < -2147483648 := h1; simp only at this; omega)
      repeat (first | refine nl ?_ | refine AWP.seq ?_ | refine rg ?_ | refine AWP.skip ?_ | refine AWP.block ?_ | refine YH (z := ?_) | refine YI (z := ?_) | refine ZA (z := ?_) | refine ZB (z := ?_) | refine ZC (z := ?_) | refine ZD (z := ?_) | refine ZF (z := ?_) | refine ZJ (z := ?_) | refine ZK (z := ?_) | refine ZO (z := ?_) | refine ZQ (z := ?_) | refine ZR (z := ?_) | refine YA (z := ?_) | refine ZG (z := ?_) | refine ZI (z := ?_) | refine YC (z := ?_) | refine YD (z := ?_))
      exact AWP.ret (rets rfl (.refl _) (.refl _) ⟨by rw [encF hr]; rfl, rfl⟩)
    repeat (first | refine nl ?_ | refine AWP.seq ?_ | refine rg ?_ | refine AWP.skip ?_ | refine AWP.block ?_ | refine YH (z := ?_) | refine YI (z := ?_) | refine ZA (z := ?_) | refine ZB (z := ?_) | refine ZC (z := ?_) | refine ZD (z := ?_) | refine ZF (z := ?_) | refine ZJ (z := ?_) | refine ZK (z := ?_) | refine ZO (z := ?_) | refine ZQ (z := ?_) | refine ZR (z := ?_) | refine YA (z := ?_) | refine ZG (z := ?_) | refine ZI (z := ?_) | refine YC (z := ?_) | refine YD (z := ?_))
    refine gS rfl (fun h2 => ?_) (fun h2 => ?_)
    · have hr : rngOk ⟨op, a, b, c, imm⟩ = false := rng_false (fun h => by have := h.1; have h2' : 2147483648 ≤ imm := h2; simp only at this; omega)
      repeat (first | refine nl ?_ | refine AWP.seq ?_ | refine rg ?_ | refine AWP.skip ?_ | refine AWP.block ?_ | refine YH (z := ?_) | refine YI (z := ?_) | refine ZA (z := ?_) | refine ZB (z := ?_) | refine ZC (z := ?_) | refine ZD (z := ?_) | refine ZF (z := ?_) | refine ZJ (z := ?_) | refine ZK (z := ?_) | refine ZO (z := ?_) | refine ZQ (z := ?_) | refine ZR (z := ?_) | refine YA (z := ?_) | refine ZG (z := ?_) | refine ZI (z := ?_) | refine YC (z := ?_) | refine YD (z := ?_))
      exact AWP.ret (rets rfl (.refl _) (.refl _) ⟨by rw [encF hr]; rfl, rfl⟩)
    repeat (first | refine nl ?_ | refine AWP.seq ?_ | refine rg ?_ | refine AWP.skip ?_ | refine AWP.block ?_ | refine YH (z := ?_) | refine YI (z := ?_) | refine ZA (z := ?_) | refine ZB (z := ?_) | refine ZC (z := ?_) | refine ZD (z := ?_) | refine ZF (z := ?_) | refine ZJ (z := ?_) | refine ZK (z := ?_) | refine ZO (z := ?_) | refine ZQ (z := ?_) | refine ZR (z := ?_) | refine YA (z := ?_) | refine ZG (z := ?_) | refine ZI (z := ?_) | refine YC (z := ?_) | refine YD (z := ?_))
    refine gSB rfl (fun ha => ?_) (fun ha => ?_)
    · have h' : reg a = false := by simpa using ha
      have hr : rngOk ⟨op, a, b, c, imm⟩ = false := rng_false (fun h => by have := h.2; simp only at this; simp_all)
      repeat (first | refine nl ?_ | refine AWP.seq ?_ | refine rg ?_ | refine AWP.skip ?_ | refine AWP.block ?_ | refine YH (z := ?_) | refine YI (z := ?_) | refine ZA (z := ?_) | refine ZB (z := ?_) | refine ZC (z := ?_) | refine ZD (z := ?_) | refine ZF (z := ?_) | refine ZJ (z := ?_) | refine ZK (z := ?_) | refine ZO (z := ?_) | refine ZQ (z := ?_) | refine ZR (z := ?_) | refine YA (z := ?_) | refine ZG (z := ?_) | refine ZI (z := ?_) | refine YC (z := ?_) | refine YD (z := ?_))
      exact AWP.ret (rets rfl (.refl _) (.refl _) ⟨by rw [encF hr]; rfl, rfl⟩)
    repeat (first | refine nl ?_ | refine AWP.seq ?_ | refine rg ?_ | refine AWP.skip ?_ | refine AWP.block ?_ | refine YH (z := ?_) | refine YI (z := ?_) | refine ZA (z := ?_) | refine ZB (z := ?_) | refine ZC (z := ?_) | refine ZD (z := ?_) | refine ZF (z := ?_) | refine ZJ (z := ?_) | refine ZK (z := ?_) | refine ZO (z := ?_) | refine ZQ (z := ?_) | refine ZR (z := ?_) | refine YA (z := ?_) | refine ZG (z := ?_) | refine ZI (z := ?_) | refine YC (z := ?_) | refine YD (z := ?_))
    refine gSB rfl (fun hb => ?_) (fun hb => ?_)
    · have h' : reg b = false := by simpa using hb
      have hr : rngOk ⟨op, a, b, c, imm⟩ = false := rng_false (fun h => by have := h.2; simp only at this; simp_all)
      repeat (first | refine nl ?_ | refine AWP.seq ?_ | refine rg ?_ | refine AWP.skip ?_ | refine AWP.block ?_ | refine YH (z := ?_) | refine YI (z := ?_) | refine ZA (z := ?_) | refine ZB (z := ?_) | refine ZC (z := ?_) | refine ZD (z := ?_) | refine ZF (z := ?_) | refine ZJ (z := ?_) | refine ZK (z := ?_) | refine ZO (z := ?_) | refine ZQ (z := ?_) | refine ZR (z := ?_) | refine YA (z := ?_) | refine ZG (z := ?_) | refine ZI (z := ?_) | refine YC (z := ?_) | refine YD (z := ?_))
      exact AWP.ret (rets rfl (.refl _) (.refl _) ⟨by rw [encF hr]; rfl, rfl⟩)
    repeat (first | refine nl ?_ | refine AWP.seq ?_ | refine rg ?_ | refine AWP.skip ?_ | refine AWP.block ?_ | refine YH (z := ?_) | refine YI (z := ?_) | refine ZA (z := ?_) | refine ZB (z := ?_) | refine ZC (z := ?_) | refine ZD (z := ?_) | refine ZF (z := ?_) | refine ZJ (z := ?_) | refine ZK (z := ?_) | refine ZO (z := ?_) | refine ZQ (z := ?_) | refine ZR (z := ?_) | refine YA (z := ?_) | refine ZG (z := ?_) | refine ZI (z := ?_) | refine YC (z := ?_) | refine YD (z := ?_))
    refine AWP.cond_bool rfl (fun hc => ?_) (fun hc => AWP.skip ?_)
    · have h' : reg c = false := by simpa using hc
      have hr : rngOk ⟨op, a, b, c, imm⟩ = false := rng_false (fun h => by have := h.2; simp only at this; simp_all)
      repeat (first | refine nl ?_ | refine AWP.seq ?_ | refine rg ?_ | refine AWP.skip ?_ | refine AWP.block ?_ | refine YH (z := ?_) | refine YI (z := ?_) | refine ZA (z := ?_) | refine ZB (z := ?_) | refine ZC (z := ?_) | refine ZD (z := ?_) | refine ZF (z := ?_) | refine ZJ (z := ?_) | refine ZK (z := ?_) | refine ZO (z := ?_) | refine ZQ (z := ?_) | refine ZR (z := ?_) | refine YA (z := ?_) | refine ZG (z := ?_) | refine ZI (z := ?_) | refine YC (z := ?_) | refine YD (z := ?_))
      exact AWP.ret (rets rfl (.refl _) (.refl _) ⟨by rw [encF hr]; rfl, rfl⟩)
    have hr : rngOk ⟨op, a, b, c, imm⟩ = true := rng_true ⟨⟨by have h1' : ¬ imm < -2147483648 := h1; simp only; omega, by have h2' : ¬ 2147483648 ≤ imm := h2; simp only; omega⟩, by simpa using ha, by simpa using hb, by simpa using hc⟩
    have hq := rng_iff.1 hr
    simp only at hq
    repeat (first | refine nl ?_ | refine AWP.seq ?_ | refine rg ?_ | refine AWP.skip ?_ | refine AWP.block ?_ | refine YH (z := ?_) | refine YI (z := ?_) | refine ZA (z := ?_) | refine ZB (z := ?_) | refine ZC (z := ?_) | refine ZD (z := ?_) | refine ZF (z := ?_) | refine ZJ (z := ?_) | refine ZK (z := ?_) | refine ZO (z := ?_) | refine ZQ (z := ?_) | refine ZR (z := ?_) | refine YA (z := ?_) | refine ZG (z := ?_) | refine ZI (z := ?_) | refine YC (z := ?_) | refine YD (z := ?_))
    refine gS rfl (fun ho => ?_) (fun ho => ?_)
    · have ho' : opr op = false := by have ho1 : op < 1 := ho; simp [opr]; omega
      repeat (first | refine nl ?_ | refine AWP.seq ?_ | refine rg ?_ | refine AWP.skip ?_ | refine AWP.block ?_ | refine YH (z := ?_) | refine YI (z := ?_) | refine ZA (z := ?_) | refine ZB (z := ?_) | refine ZC (z := ?_) | refine ZD (z := ?_) | refine ZF (z := ?_) | refine ZJ (z := ?_) | refine ZK (z := ?_) | refine ZO (z := ?_) | refine ZQ (z := ?_) | refine ZR (z := ?_) | refine YA (z := ?_) | refine ZG (z := ?_) | refine ZI (z := ?_) | refine YC (z := ?_) | refine YD (z := ?_))
      exact AWP.ret (rets rfl (.refl _) (.refl _) ⟨by rw [encG hr ho']; rfl, rfl⟩)
    repeat (first | refine nl ?_ | refine AWP.seq ?_ | refine rg ?_ | refine AWP.skip ?_ | refine AWP.block ?_ | refine YH (z := ?_) | refine YI (z := ?_) | refine ZA (z := ?_) | refine ZB (z := ?_) | refine ZC (z := ?_) | refine ZD (z := ?_) | refine ZF (z := ?_) | refine ZJ (z := ?_) | refine ZK (z := ?_) | refine ZO (z := ?_) | refine ZQ (z := ?_) | refine ZR (z := ?_) | refine YA (z := ?_) | refine ZG (z := ?_) | refine ZI (z := ?_) | refine YC (z := ?_) | refine YD (z := ?_))
    refine AWP.cond_dec rfl (fun ho2 => ?_) (fun ho2 => AWP.skip ?_)
    · have ho' : opr op = false := by have ho1 : 26 ≤ op := ho2; simp [opr]; omega
      repeat (first | refine nl ?_ | refine AWP.seq ?_ | refine rg ?_ | refine AWP.skip ?_ | refine AWP.block ?_ | refine YH (z := ?_) | refine YI (z := ?_) | refine ZA (z := ?_) | refine ZB (z := ?_) | refine ZC (z := ?_) | refine ZD (z := ?_) | refine ZF (z := ?_) | refine ZJ (z := ?_) | refine ZK (z := ?_) | refine ZO (z := ?_) | refine ZQ (z := ?_) | refine ZR (z := ?_) | refine YA (z := ?_) | refine ZG (z := ?_) | refine ZI (z := ?_) | refine YC (z := ?_) | refine YD (z := ?_))
      exact AWP.ret (rets rfl (.refl _) (.refl _) ⟨by rw [encG hr ho']; rfl, rfl⟩)
    have hop : opr op = true := opr_iff.2 ⟨by have ho1 : ¬ op < 1 := ho; omega, by have ho1 : ¬ 26 ≤ op := ho2; omega⟩
    repeat (first | refine nl ?_ | refine AWP.seq ?_ | refine rg ?_ | refine AWP.skip ?_ | refine AWP.block ?_ | refine YH (z := ?_) | refine YI (z := ?_) | refine ZA (z := ?_) | refine ZB (z := ?_) | refine ZC (z := ?_) | refine ZD (z := ?_) | refine ZF (z := ?_) | refine ZJ (z := ?_) | refine ZK (z := ?_) | refine ZO (z := ?_) | refine ZQ (z := ?_) | refine ZR (z := ?_) | refine YA (z := ?_) | refine ZG (z := ?_) | refine ZI (z := ?_) | refine YC (z := ?_) | refine YD (z := ?_))
    have hw : w64 (word ⟨op, a, b, c, imm⟩) := word_range hr hop
    have hq2 := opr_iff.1 hop
    simp only [word] at hw
    unfold w64 at hw
    refine shl_ (c := imm * 4294967296) (b := 32) rfl rfl rfl (shl32 (by unfold w64; omega)) ?_
    repeat (first | refine ZA (z := ?_) | refine ZB (z := ?_) | refine ZC (z := ?_) | refine ZD (z := ?_) | refine ZF (z := ?_) | refine ZJ (z := ?_) | refine ZK (z := ?_) | refine ZO (z := ?_) | refine ZQ (z := ?_) | refine ZR (z := ?_) | refine YA (z := ?_) | refine ZG (z := ?_) | refine ZI (z := ?_) | refine YC (z := ?_) | refine YD (z := ?_))
    refine shl_ (c := c * 16777216) (b := 24) rfl rfl rfl (shl24 (by unfold w64; omega)) ?_
    repeat (first | refine ZA (z := ?_) | refine ZB (z := ?_) | refine ZC (z := ?_) | refine ZD (z := ?_) | refine ZF (z := ?_) | refine ZJ (z := ?_) | refine ZK (z := ?_) | refine ZO (z := ?_) | refine ZQ (z := ?_) | refine ZR (z := ?_) | refine YA (z := ?_) | refine ZG (z := ?_) | refine ZI (z := ?_) | refine YC (z := ?_) | refine YD (z := ?_))
    refine btk (c := c * 16777216 + imm * 4294967296) (.inr (.inl rfl)) rfl rfl rfl ((or32 (lo := (c * 16777216)) (hi := imm) (by omega) (by unfold w64; omega)).2) ?_
    repeat (first | refine ZA (z := ?_) | refine ZB (z := ?_) | refine ZC (z := ?_) | refine ZD (z := ?_) | refine ZF (z := ?_) | refine ZJ (z := ?_) | refine ZK (z := ?_) | refine ZO (z := ?_) | refine ZQ (z := ?_) | refine ZR (z := ?_) | refine YA (z := ?_) | refine ZG (z := ?_) | refine ZI (z := ?_) | refine YC (z := ?_) | refine YD (z := ?_))
    refine shl_ (c := b * 65536) (b := 16) rfl rfl rfl (shl16 (by unfold w64; omega)) ?_
    repeat (first | refine ZA (z := ?_) | refine ZB (z := ?_) | refine ZC (z := ?_) | refine ZD (z := ?_) | refine ZF (z := ?_) | refine ZJ (z := ?_) | refine ZK (z := ?_) | refine ZO (z := ?_) | refine ZQ (z := ?_) | refine ZR (z := ?_) | refine YA (z := ?_) | refine ZG (z := ?_) | refine ZI (z := ?_) | refine YC (z := ?_) | refine YD (z := ?_))
    have e1 : c * 16777216 + imm * 4294967296 = (c + imm * 256) * 16777216 := by omega
    rw [e1]
    refine btk (c := b * 65536 + (c + imm * 256) * 16777216) (.inr (.inl rfl)) rfl rfl rfl ((or24 (lo := (b * 65536)) (hi := (c + imm * 256)) (by omega) (by unfold w64; omega)).2) ?_
    repeat (first | refine ZA (z := ?_) | refine ZB (z := ?_) | refine ZC (z := ?_) | refine ZD (z := ?_) | refine ZF (z := ?_) | refine ZJ (z := ?_) | refine ZK (z := ?_) | refine ZO (z := ?_) | refine ZQ (z := ?_) | refine ZR (z := ?_) | refine YA (z := ?_) | refine ZG (z := ?_) | refine ZI (z := ?_) | refine YC (z := ?_) | refine YD (z := ?_))
    refine shl_ (c := a * 256) (b := 8) rfl rfl rfl (shl8 (by unfold w64; omega)) ?_
    repeat (first | refine ZA (z := ?_) | refine ZB (z := ?_) | refine ZC (z := ?_) | refine ZD (z := ?_) | refine ZF (z := ?_) | refine ZJ (z := ?_) | refine ZK (z := ?_) | refine ZO (z := ?_) | refine ZQ (z := ?_) | refine ZR (z := ?_) | refine YA (z := ?_) | refine ZG (z := ?_) | refine ZI (z := ?_) | refine YC (z := ?_) | refine YD (z := ?_))
    have e2 : b * 65536 + (c + imm * 256) * 16777216 = (b + (c + imm * 256) * 256) * 65536 := by omega
    rw [e2]
    refine btk (c := a * 256 + (b + (c + imm * 256) * 256) * 65536) (.inr (.inl rfl)) rfl rfl rfl ((or16 (lo := (a * 256)) (hi := (b + (c + imm * 256) * 256)) (by omega) (by unfold w64; omega)).2) ?_
    repeat (first | refine ZA (z := ?_) | refine ZB (z := ?_) | refine ZC (z := ?_) | refine ZD (z := ?_) | refine ZF (z := ?_) | refine ZJ (z := ?_) | refine ZK (z := ?_) | refine ZO (z := ?_) | refine ZQ (z := ?_) | refine ZR (z := ?_) | refine YA (z := ?_) | refine ZG (z := ?_) | refine ZI (z := ?_) | refine YC (z := ?_) | refine YD (z := ?_))
    have e3 : a * 256 + (b + (c + imm * 256) * 256) * 65536 = (a + (b + (c + imm * 256) * 256) * 256) * 256 := by omega
    rw [e3]
    refine btk (c := op + a * 256 + b * 65536 + c * 16777216 + imm * 4294967296) (.inr (.inl rfl)) rfl rfl rfl ((or8 (lo := op) (hi := (a + (b + (c + imm * 256) * 256) * 256)) (by omega) (by unfold w64; omega)).2.trans (by omega)) ?_
    repeat (first | refine ZA (z := ?_) | refine ZB (z := ?_) | refine ZC (z := ?_) | refine ZD (z := ?_) | refine ZF (z := ?_) | refine ZJ (z := ?_) | refine ZK (z := ?_) | refine ZO (z := ?_) | refine ZQ (z := ?_) | refine ZR (z := ?_) | refine YA (z := ?_) | refine ZG (z := ?_) | refine ZI (z := ?_) | refine YC (z := ?_) | refine YD (z := ?_))
    repeat (first | refine nl ?_ | refine AWP.seq ?_ | refine rg ?_ | refine AWP.skip ?_ | refine AWP.block ?_ | refine YH (z := ?_) | refine YI (z := ?_) | refine ZA (z := ?_) | refine ZB (z := ?_) | refine ZC (z := ?_) | refine ZD (z := ?_) | refine ZF (z := ?_) | refine ZJ (z := ?_) | refine ZK (z := ?_) | refine ZO (z := ?_) | refine ZQ (z := ?_) | refine ZR (z := ?_) | refine YA (z := ?_) | refine ZG (z := ?_) | refine ZI (z := ?_) | refine YC (z := ?_) | refine YD (z := ?_))
    exact AWP.ret (rets rfl (.refl _) (.refl _) ⟨by rw [encH hr hop]; rfl, rfl⟩)
end Go.Proofs
/- The walks of Decode, near and Reads. No conditions: lemmas only. -/
namespace Go.Proofs
open Go.AM
attribute [local irreducible] AWP AOps ACalls

theorem shr_w {a : Int} {k : Nat} (hk : k ≤ 64) : a.fdiv (2 ^ (min k IntKind.i64.bits)) = a / 2 ^ k := by
  rw [show min k IntKind.i64.bits = k from Nat.min_eq_left hk, Int.fdiv_eq_ediv_of_nonneg]
  exact Int.le_of_lt (Int.pow_pos (by decide))
theorem shr8 {a : Int} : a.fdiv (2 ^ (min 8 IntKind.i64.bits)) = a / 256 := shr_w (k := 8) (by decide)
theorem shr16 {a : Int} : a.fdiv (2 ^ (min 16 IntKind.i64.bits)) = a / 65536 := shr_w (k := 16) (by decide)
theorem shr24 {a : Int} : a.fdiv (2 ^ (min 24 IntKind.i64.bits)) = a / 16777216 := shr_w (k := 24) (by decide)
theorem shr32 {a : Int} : a.fdiv (2 ^ (min 32 IntKind.i64.bits)) = a / 4294967296 := shr_w (k := 32) (by decide)
theorem decF {w : Int} (h : decOk (split w) = false) : decV w = .tuple [.agg (insRow zIns), .int .i64 4] := by simp [decV, dec, h]
theorem decT {w : Int} (h : decOk (split w) = true) : decV w = .tuple [.agg (insRow (split w)), .int .i64 0] := by simp [decV, dec, h]
theorem decOk_false {i : Ins} (h : ¬ (opr i.op = true ∧ reg i.a = true ∧ reg i.b = true ∧ reg i.c = true)) : decOk i = false := by
  cases h2 : decOk i with
  | false => rfl
  | true => simp only [decOk, Bool.and_eq_true] at h2; exact absurd ⟨h2.1.1.1, h2.1.1.2, h2.1.2, h2.2⟩ h

set_option maxHeartbeats 2000000 in
instance decode_ok (w : Int) : PureFn Tryd.prog 12 [.int .i64 w] (decV w) where
  out st := by
    refine ACalls.ofBody Tryd.func12 rfl Tryd.ntmps12 rfl ?_
    repeat (first | refine nl ?_ | refine AWP.seq ?_ | refine AWP.skip ?_ | refine AWP.block ?_)
    refine rg ?_
    refine al rfl rfl fun o2 h2 => ?_
    repeat (first | refine nl ?_ | refine AWP.seq ?_ | refine rg ?_ | refine AWP.skip ?_ | refine AWP.block ?_ | refine YH (z := ?_) | refine YI (z := ?_) | refine ZA (z := ?_) | refine ZB (z := ?_) | refine ZC (z := ?_) | refine ZD (z := ?_) | refine ZF (z := ?_) | refine ZJ (z := ?_) | refine ZK (z := ?_) | refine ZO (z := ?_) | refine ZQ (z := ?_) | refine ZR (z := ?_) | refine YA (z := ?_) | refine ZG (z := ?_) | refine ZI (z := ?_) | refine YC (z := ?_) | refine YD (z := ?_))
    refine btk (.inl rfl) rfl rfl rfl (and255 _) ?_
    repeat (first | refine ZA (z := ?_) | refine ZB (z := ?_) | refine ZC (z := ?_) | refine ZD (z := ?_) | refine ZF (z := ?_) | refine ZJ (z := ?_) | refine ZK (z := ?_) | refine ZO (z := ?_) | refine ZQ (z := ?_) | refine ZR (z := ?_) | refine YA (z := ?_) | refine ZG (z := ?_) | refine ZI (z := ?_) | refine YC (z := ?_) | refine YD (z := ?_))
    refine shr_ (b := 8) rfl rfl rfl shr8 ?_
    refine btk (.inl rfl) rfl rfl rfl (and255 _) ?_
    repeat (first | refine ZA (z := ?_) | refine ZB (z := ?_) | refine ZC (z := ?_) | refine ZD (z := ?_) | refine ZF (z := ?_) | refine ZJ (z := ?_) | refine ZK (z := ?_) | refine ZO (z := ?_) | refine ZQ (z := ?_) | refine ZR (z := ?_) | refine YA (z := ?_) | refine ZG (z := ?_) | refine ZI (z := ?_) | refine YC (z := ?_) | refine YD (z := ?_))
    refine shr_ (b := 16) rfl rfl rfl shr16 ?_
    refine btk (.inl rfl) rfl rfl rfl (and255 _) ?_
    repeat (first | refine ZA (z := ?_) | refine ZB (z := ?_) | refine ZC (z := ?_) | refine ZD (z := ?_) | refine ZF (z := ?_) | refine ZJ (z := ?_) | refine ZK (z := ?_) | refine ZO (z := ?_) | refine ZQ (z := ?_) | refine ZR (z := ?_) | refine YA (z := ?_) | refine ZG (z := ?_) | refine ZI (z := ?_) | refine YC (z := ?_) | refine YD (z := ?_))
    refine shr_ (b := 24) rfl rfl rfl shr24 ?_
    refine btk (.inl rfl) rfl rfl rfl (and255 _) ?_
    repeat (first | refine ZA (z := ?_) | refine ZB (z := ?_) | refine ZC (z := ?_) | refine ZD (z := ?_) | refine ZF (z := ?_) | refine ZJ (z := ?_) | refine ZK (z := ?_) | refine ZO (z := ?_) | refine ZQ (z := ?_) | refine ZR (z := ?_) | refine YA (z := ?_) | refine ZG (z := ?_) | refine ZI (z := ?_) | refine YC (z := ?_) | refine YD (z := ?_))
    refine shr_ (b := 32) rfl rfl rfl shr32 ?_
    refine bds (cs := insRow (split w)) rfl rfl rfl rfl ?_
    refine al rfl rfl fun o4 h4 => ?_
    refine soN 4 rfl rfl rfl rfl rfl rfl h4 ?_
    have fin : ∀ h : decOk (split w) = false, decV w = .tuple [.agg (insRow zIns), .int .i64 4] := decF
    repeat (first | refine nl ?_ | refine AWP.seq ?_ | refine rg ?_ | refine AWP.skip ?_ | refine AWP.block ?_ | refine YH (z := ?_) | refine YI (z := ?_) | refine ZA (z := ?_) | refine ZB (z := ?_) | refine ZC (z := ?_) | refine ZD (z := ?_) | refine ZF (z := ?_) | refine ZJ (z := ?_) | refine ZK (z := ?_) | refine ZO (z := ?_) | refine ZQ (z := ?_) | refine ZR (z := ?_) | refine YA (z := ?_) | refine ZG (z := ?_) | refine ZI (z := ?_) | refine YC (z := ?_) | refine YD (z := ?_))
    refine gSB rfl (fun ho => ?_) (fun ho => ?_)
    · have hr : decOk (split w) = false := decOk_false (fun h => by have h1 : opr (split w).op = false := (by simpa using ho); simp_all)
      repeat (first | refine nl ?_ | refine AWP.seq ?_ | refine rg ?_ | refine AWP.skip ?_ | refine AWP.block ?_ | refine YH (z := ?_) | refine YI (z := ?_) | refine ZA (z := ?_) | refine ZB (z := ?_) | refine ZC (z := ?_) | refine ZD (z := ?_) | refine ZF (z := ?_) | refine ZJ (z := ?_) | refine ZK (z := ?_) | refine ZO (z := ?_) | refine ZQ (z := ?_) | refine ZR (z := ?_) | refine YA (z := ?_) | refine ZG (z := ?_) | refine ZI (z := ?_) | refine YC (z := ?_) | refine YD (z := ?_))
      refine bds (cs := insRow zIns) rfl rfl rfl rfl ?_
      refine soV rfl rfl rfl rfl rfl rfl ?_
      repeat (first | refine nl ?_ | refine AWP.seq ?_ | refine rg ?_ | refine AWP.skip ?_ | refine AWP.block ?_ | refine YH (z := ?_) | refine YI (z := ?_) | refine ZA (z := ?_) | refine ZB (z := ?_) | refine ZC (z := ?_) | refine ZD (z := ?_) | refine ZF (z := ?_) | refine ZJ (z := ?_) | refine ZK (z := ?_) | refine ZO (z := ?_) | refine ZQ (z := ?_) | refine ZR (z := ?_) | refine YA (z := ?_) | refine ZG (z := ?_) | refine ZI (z := ?_) | refine YC (z := ?_) | refine YD (z := ?_))
      exact AWP.ret (rets (resCW rfl (St.obj_set _ _ _) rfl rfl rfl rfl) (.refl _) (StLe.new h2 (.refl _)) ⟨by rw [decF hr]; rfl, rfl⟩)
    repeat (first | refine nl ?_ | refine AWP.seq ?_ | refine rg ?_ | refine AWP.skip ?_ | refine AWP.block ?_ | refine YH (z := ?_) | refine YI (z := ?_) | refine ZA (z := ?_) | refine ZB (z := ?_) | refine ZC (z := ?_) | refine ZD (z := ?_) | refine ZF (z := ?_) | refine ZJ (z := ?_) | refine ZK (z := ?_) | refine ZO (z := ?_) | refine ZQ (z := ?_) | refine ZR (z := ?_) | refine YA (z := ?_) | refine ZG (z := ?_) | refine ZI (z := ?_) | refine YC (z := ?_) | refine YD (z := ?_))
    refine gSB rfl (fun ha => ?_) (fun ha => ?_)
    · have hr : decOk (split w) = false := decOk_false (fun h => by have h1 : reg (split w).a = false := (by simpa using ha); simp_all)
      repeat (first | refine nl ?_ | refine AWP.seq ?_ | refine rg ?_ | refine AWP.skip ?_ | refine AWP.block ?_ | refine YH (z := ?_) | refine YI (z := ?_) | refine ZA (z := ?_) | refine ZB (z := ?_) | refine ZC (z := ?_) | refine ZD (z := ?_) | refine ZF (z := ?_) | refine ZJ (z := ?_) | refine ZK (z := ?_) | refine ZO (z := ?_) | refine ZQ (z := ?_) | refine ZR (z := ?_) | refine YA (z := ?_) | refine ZG (z := ?_) | refine ZI (z := ?_) | refine YC (z := ?_) | refine YD (z := ?_))
      refine bds (cs := insRow zIns) rfl rfl rfl rfl ?_
      refine soV rfl rfl rfl rfl rfl rfl ?_
      repeat (first | refine nl ?_ | refine AWP.seq ?_ | refine rg ?_ | refine AWP.skip ?_ | refine AWP.block ?_ | refine YH (z := ?_) | refine YI (z := ?_) | refine ZA (z := ?_) | refine ZB (z := ?_) | refine ZC (z := ?_) | refine ZD (z := ?_) | refine ZF (z := ?_) | refine ZJ (z := ?_) | refine ZK (z := ?_) | refine ZO (z := ?_) | refine ZQ (z := ?_) | refine ZR (z := ?_) | refine YA (z := ?_) | refine ZG (z := ?_) | refine ZI (z := ?_) | refine YC (z := ?_) | refine YD (z := ?_))
      exact AWP.ret (rets (resCW rfl (St.obj_set _ _ _) rfl rfl rfl rfl) (.refl _) (StLe.new h2 (.refl _)) ⟨by rw [decF hr]; rfl, rfl⟩)
    repeat (first | refine nl ?_ | refine AWP.seq ?_ | refine rg ?_ | refine AWP.skip ?_ | refine AWP.block ?_ | refine YH (z := ?_) | refine YI (z := ?_) | refine ZA (z := ?_) | refine ZB (z := ?_) | refine ZC (z := ?_) | refine ZD (z := ?_) | refine ZF (z := ?_) | refine ZJ (z := ?_) | refine ZK (z := ?_) | refine ZO (z := ?_) | refine ZQ (z := ?_) | refine ZR (z := ?_) | refine YA (z := ?_) | refine ZG (z := ?_) | refine ZI (z := ?_) | refine YC (z := ?_) | refine YD (z := ?_))
    refine gSB rfl (fun hb => ?_) (fun hb => ?_)
    · have hr : decOk (split w) = false := decOk_false (fun h => by have h1 : reg (split w).b = false := (by simpa using hb); simp_all)
      repeat (first | refine nl ?_ | refine AWP.seq ?_ | refine rg ?_ | refine AWP.skip ?_ | refine AWP.block ?_ | refine YH (z := ?_) | refine YI (z := ?_) | refine ZA (z := ?_) | refine ZB (z := ?_) | refine ZC (z := ?_) | refine ZD (z := ?_) | refine ZF (z := ?_) | refine ZJ (z := ?_) | refine ZK (z := ?_) | refine ZO (z := ?_) | refine ZQ (z := ?_) | refine ZR (z := ?_) | refine YA (z := ?_) | refine ZG (z := ?_) | refine ZI (z := ?_) | refine YC (z := ?_) | refine YD (z := ?_))
      refine bds (cs := insRow zIns) rfl rfl rfl rfl ?_
      refine soV rfl rfl rfl rfl rfl rfl ?_
      repeat (first | refine nl ?_ | refine AWP.seq ?_ | refine rg ?_ | refine AWP.skip ?_ | refine AWP.block ?_ | refine YH (z := ?_) | refine YI (z := ?_) | refine ZA (z := ?_) | refine ZB (z := ?_) | refine ZC (z := ?_) | refine ZD (z := ?_) | refine ZF (z := ?_) | refine ZJ (z := ?_) | refine ZK (z := ?_) | refine ZO (z := ?_) | refine ZQ (z := ?_) | refine ZR (z := ?_) | refine YA (z := ?_) | refine ZG (z := ?_) | refine ZI (z := ?_) | refine YC (z := ?_) | refine YD (z := ?_))
      exact AWP.ret (rets (resCW rfl (St.obj_set _ _ _) rfl rfl rfl rfl) (.refl _) (StLe.new h2 (.refl _)) ⟨by rw [decF hr]; rfl, rfl⟩)
    repeat (first | refine nl ?_ | refine AWP.seq ?_ | refine rg ?_ | refine AWP.skip ?_ | refine AWP.block ?_ | refine YH (z := ?_) | refine YI (z := ?_) | refine ZA (z := ?_) | refine ZB (z := ?_) | refine ZC (z := ?_) | refine ZD (z := ?_) | refine ZF (z := ?_) | refine ZJ (z := ?_) | refine ZK (z := ?_) | refine ZO (z := ?_) | refine ZQ (z := ?_) | refine ZR (z := ?_) | refine YA (z := ?_) | refine ZG (z := ?_) | refine ZI (z := ?_) | refine YC (z := ?_) | refine YD (z := ?_))
    refine AWP.cond_bool rfl (fun hc => ?_) (fun hc => AWP.skip ?_)
    · have hr : decOk (split w) = false := decOk_false (fun h => by have h1 : reg (split w).c = false := (by simpa using hc); simp_all)
      repeat (first | refine nl ?_ | refine AWP.seq ?_ | refine rg ?_ | refine AWP.skip ?_ | refine AWP.block ?_ | refine YH (z := ?_) | refine YI (z := ?_) | refine ZA (z := ?_) | refine ZB (z := ?_) | refine ZC (z := ?_) | refine ZD (z := ?_) | refine ZF (z := ?_) | refine ZJ (z := ?_) | refine ZK (z := ?_) | refine ZO (z := ?_) | refine ZQ (z := ?_) | refine ZR (z := ?_) | refine YA (z := ?_) | refine ZG (z := ?_) | refine ZI (z := ?_) | refine YC (z := ?_) | refine YD (z := ?_))
      refine bds (cs := insRow zIns) rfl rfl rfl rfl ?_
      refine soV rfl rfl rfl rfl rfl rfl ?_
      repeat (first | refine nl ?_ | refine AWP.seq ?_ | refine rg ?_ | refine AWP.skip ?_ | refine AWP.block ?_ | refine YH (z := ?_) | refine YI (z := ?_) | refine ZA (z := ?_) | refine ZB (z := ?_) | refine ZC (z := ?_) | refine ZD (z := ?_) | refine ZF (z := ?_) | refine ZJ (z := ?_) | refine ZK (z := ?_) | refine ZO (z := ?_) | refine ZQ (z := ?_) | refine ZR (z := ?_) | refine YA (z := ?_) | refine ZG (z := ?_) | refine ZI (z := ?_) | refine YC (z := ?_) | refine YD (z := ?_))
      exact AWP.ret (rets (resCW rfl (St.obj_set _ _ _) rfl rfl rfl rfl) (.refl _) (StLe.new h2 (.refl _)) ⟨by rw [decF hr]; rfl, rfl⟩)
    have hr : decOk (split w) = true := by
      have h1 : opr (split w).op = true := by simpa using ho
      have h3 : reg (split w).a = true := by simpa using ha
      have h5 : reg (split w).b = true := by simpa using hb
      have h6 : reg (split w).c = true := by simpa using hc
      simp [decOk, h1, h3, h5, h6]
    repeat (first | refine nl ?_ | refine AWP.seq ?_ | refine rg ?_ | refine AWP.skip ?_ | refine AWP.block ?_ | refine YH (z := ?_) | refine YI (z := ?_) | refine ZA (z := ?_) | refine ZB (z := ?_) | refine ZC (z := ?_) | refine ZD (z := ?_) | refine ZF (z := ?_) | refine ZJ (z := ?_) | refine ZK (z := ?_) | refine ZO (z := ?_) | refine ZQ (z := ?_) | refine ZR (z := ?_) | refine YA (z := ?_) | refine ZG (z := ?_) | refine ZI (z := ?_) | refine YC (z := ?_) | refine YD (z := ?_))
    refine soV rfl rfl rfl rfl rfl rfl ?_
    repeat (first | refine nl ?_ | refine AWP.seq ?_ | refine rg ?_ | refine AWP.skip ?_ | refine AWP.block ?_ | refine YH (z := ?_) | refine YI (z := ?_) | refine ZA (z := ?_) | refine ZB (z := ?_) | refine ZC (z := ?_) | refine ZD (z := ?_) | refine ZF (z := ?_) | refine ZJ (z := ?_) | refine ZK (z := ?_) | refine ZO (z := ?_) | refine ZQ (z := ?_) | refine ZR (z := ?_) | refine YA (z := ?_) | refine ZG (z := ?_) | refine ZI (z := ?_) | refine YC (z := ?_) | refine YD (z := ?_))
    exact AWP.ret (rets (resCW rfl (St.obj_set _ _ _) rfl rfl rfl rfl) (.refl _) (StLe.new h2 (.refl _)) ⟨by rw [decT hr]; rfl, rfl⟩)

instance (n : Int) : PureFn Tryd.prog 22 [.int .i64 n, .int .i64 25] (.int .i64 (n % 25)) := ⟨mod_ok n 25 (by decide) (by decide)⟩
instance (n : Int) : PureFn Tryd.prog 22 [.int .i64 n, .int .i64 16] (.int .i64 (n % 16)) := ⟨mod_ok n 16 (by decide) (by decide)⟩
instance (n : Int) : PureFn Tryd.prog 22 [.int .i64 n, .int .i64 4294967296] (.int .i64 (n % 4294967296)) := ⟨mod_ok n 4294967296 (by decide) (by decide)⟩
def near (i : Ins) : Ins := ⟨1 + i.op % 25, i.a % 16, i.b % 16, i.c % 16, i.imm % 4294967296 - 2147483648⟩
set_option maxHeartbeats 2000000 in
instance near_walk (i : Ins) : PureFn Tryd.prog 17 [.agg (insRow i)] (.agg (insRow (near i))) where
  out st := by
    refine ACalls.ofBody Tryd.func17 rfl Tryd.ntmps17 rfl ?_
    obtain ⟨op, a, b, c, imm⟩ := i
    rw [insRow_mk]
    repeat (first | refine nl ?_ | refine AWP.seq ?_ | refine AWP.skip ?_ | refine AWP.block ?_)
    refine rg ?_
    repeat (first | refine ZA (z := ?_) | refine ZB (z := ?_) | refine ZC (z := ?_) | refine ZD (z := ?_) | refine ZF (z := ?_) | refine ZJ (z := ?_) | refine ZK (z := ?_) | refine ZO (z := ?_) | refine ZQ (z := ?_) | refine ZR (z := ?_) | refine YA (z := ?_) | refine ZG (z := ?_) | refine ZI (z := ?_) | refine YC (z := ?_) | refine YD (z := ?_))
    refine al rfl rfl fun o2 h2 => ?_
    repeat (first | refine nl ?_ | refine AWP.seq ?_ | refine AWP.skip ?_ | refine AWP.block ?_)
    refine AWP.draw rfl 17 17 (fun _ _ => False) rfl ?_
    repeat (first | refine ds rfl rfl ?_ | refine dp (h := fun _ _ => ZD (z := nz)) (z := ?_) | refine dp (h := fun _ _ => ZF (z := nz)) (z := ?_) | refine dp (h := fun _ _ => ZC (z := nz)) (z := ?_) | refine dp (h := fun _ _ => ZJ (z := nz)) (z := ?_) | refine dp (h := fun _ _ => ZK (z := nz)) (z := ?_) | refine dp (h := fun _ _ => ZQ (z := nz)) (z := ?_) | refine dp (h := fun _ _ => ZO (z := nz)) (z := ?_) | refine dp (h := fun _ _ => ZG (z := nz)) (z := ?_) | refine dp (h := fun _ _ => ZI (z := nz)) (z := ?_) | refine dp (h := fun _ _ => YC (z := nz)) (z := ?_) | refine dp (h := fun _ _ => YL (z := nz)) (z := ?_) | refine dp (h := fun _ _ => YM (z := nz)) (z := ?_))
    refine dn ⟨fun _ => ?_, fun h => absurd h (by decide)⟩
    refine bds (cs := insRow (near ⟨op, a, b, c, imm⟩)) rfl rfl rfl rfl ?_
    refine soV rfl rfl rfl rfl rfl rfl ?_
    repeat (first | refine nl ?_ | refine AWP.seq ?_ | refine rg ?_ | refine AWP.skip ?_ | refine AWP.block ?_ | refine YH (z := ?_) | refine YI (z := ?_) | refine ZA (z := ?_) | refine ZB (z := ?_) | refine ZC (z := ?_) | refine ZD (z := ?_) | refine ZF (z := ?_) | refine ZJ (z := ?_) | refine ZK (z := ?_) | refine ZO (z := ?_) | refine ZQ (z := ?_) | refine ZR (z := ?_) | refine YA (z := ?_) | refine ZG (z := ?_) | refine ZI (z := ?_) | refine YC (z := ?_) | refine YD (z := ?_))
    exact AWP.ret (rets (resCW rfl (St.obj_set _ _ _) rfl rfl rfl rfl) (.refl _) (StLe.new h2 (.refl _)) ⟨rfl, rfl⟩)
end Go.Proofs
/- The walks of the operations and of Reads. No conditions: lemmas only. -/
namespace Go.Proofs
open Go.AM
attribute [local irreducible] AWP AOps ACalls
set_option linter.unusedSimpArgs false

instance (b : Bool) : PureFn Tryd.prog 41 [.bool b] (.int .i64 (b01 b)) where
  out st := by
    refine ACalls.ofBody Tryd.func41 rfl Tryd.ntmps41 rfl ?_
    cases b
    · repeat (first | refine nl ?_ | refine AWP.seq ?_ | refine rg ?_ | refine AWP.skip ?_ | refine AWP.block ?_ | refine YH (z := ?_) | refine YI (z := ?_) | refine ZA (z := ?_) | refine ZB (z := ?_) | refine ZC (z := ?_) | refine ZD (z := ?_) | refine ZF (z := ?_) | refine ZJ (z := ?_) | refine ZK (z := ?_) | refine ZO (z := ?_) | refine ZQ (z := ?_) | refine ZR (z := ?_) | refine YA (z := ?_) | refine ZG (z := ?_) | refine ZI (z := ?_) | refine YC (z := ?_) | refine YD (z := ?_))
      exact AWP.ret (rets rfl (.refl _) (.refl _) ⟨rfl, rfl⟩)
    · repeat (first | refine nl ?_ | refine AWP.seq ?_ | refine rg ?_ | refine AWP.skip ?_ | refine AWP.block ?_ | refine YH (z := ?_) | refine YI (z := ?_) | refine ZA (z := ?_) | refine ZB (z := ?_) | refine ZC (z := ?_) | refine ZD (z := ?_) | refine ZF (z := ?_) | refine ZJ (z := ?_) | refine ZK (z := ?_) | refine ZO (z := ?_) | refine ZQ (z := ?_) | refine ZR (z := ?_) | refine YA (z := ?_) | refine ZG (z := ?_) | refine ZI (z := ?_) | refine YC (z := ?_) | refine YD (z := ?_))
      exact AWP.ret (rets rfl (.refl _) (.refl _) ⟨rfl, rfl⟩)
set_option maxHeartbeats 2000000 in
instance compute_ok (op x y : Int) : PureFn Tryd.prog 36 [.int .i64 op, .int .i64 x, .int .i64 y] (.int .i64 (bin (op - 6) x y)) where
  out st := by
    refine ACalls.ofBody Tryd.func36 rfl Tryd.ntmps36 rfl ?_
    have fin : ∀ {v : Int}, v = bin (op - 6) x y → AV.int .i64 v = .int .i64 (bin (op - 6) x y) := fun h => by rw [h]
    repeat (first | refine nl ?_ | refine AWP.seq ?_ | refine rg ?_ | refine AWP.skip ?_ | refine AWP.block ?_ | refine YH (z := ?_) | refine YI (z := ?_) | refine ZA (z := ?_) | refine ZB (z := ?_) | refine ZC (z := ?_) | refine ZD (z := ?_) | refine ZF (z := ?_) | refine ZJ (z := ?_) | refine ZK (z := ?_) | refine ZO (z := ?_) | refine ZQ (z := ?_) | refine ZR (z := ?_) | refine YA (z := ?_) | refine ZG (z := ?_) | refine ZI (z := ?_) | refine YC (z := ?_) | refine YD (z := ?_))
    refine AWP.cond_dec rfl (fun h6 => ?_) (fun h6 => ?_)
    · have e6 : op - 6 = 0 := by have h0 : op = 6 := h6; omega
      repeat (first | refine nl ?_ | refine AWP.seq ?_ | refine rg ?_ | refine AWP.skip ?_ | refine AWP.block ?_ | refine YH (z := ?_) | refine YI (z := ?_) | refine ZA (z := ?_) | refine ZB (z := ?_) | refine ZC (z := ?_) | refine ZD (z := ?_) | refine ZF (z := ?_) | refine ZJ (z := ?_) | refine ZK (z := ?_) | refine ZO (z := ?_) | refine ZQ (z := ?_) | refine ZR (z := ?_) | refine YA (z := ?_) | refine ZG (z := ?_) | refine ZI (z := ?_) | refine YC (z := ?_) | refine YD (z := ?_))
      refine adk rfl rfl rfl rfl ?_
      repeat (first | refine nl ?_ | refine AWP.seq ?_ | refine rg ?_ | refine AWP.skip ?_ | refine AWP.block ?_ | refine YH (z := ?_) | refine YI (z := ?_) | refine ZA (z := ?_) | refine ZB (z := ?_) | refine ZC (z := ?_) | refine ZD (z := ?_) | refine ZF (z := ?_) | refine ZJ (z := ?_) | refine ZK (z := ?_) | refine ZO (z := ?_) | refine ZQ (z := ?_) | refine ZR (z := ?_) | refine YA (z := ?_) | refine ZG (z := ?_) | refine ZI (z := ?_) | refine YC (z := ?_) | refine YD (z := ?_))
      exact AWP.ret (rets rfl (.refl _) (.refl _) ⟨fin (by simp [bin, add64, sub64, mul64, e6]), rfl⟩)
    have h6' : ¬ op - 6 = 0 := by have h0 : ¬ op = 6 := h6; omega
    repeat (first | refine nl ?_ | refine AWP.seq ?_ | refine rg ?_ | refine AWP.skip ?_ | refine AWP.block ?_ | refine YH (z := ?_) | refine YI (z := ?_) | refine ZA (z := ?_) | refine ZB (z := ?_) | refine ZC (z := ?_) | refine ZD (z := ?_) | refine ZF (z := ?_) | refine ZJ (z := ?_) | refine ZK (z := ?_) | refine ZO (z := ?_) | refine ZQ (z := ?_) | refine ZR (z := ?_) | refine YA (z := ?_) | refine ZG (z := ?_) | refine ZI (z := ?_) | refine YC (z := ?_) | refine YD (z := ?_))
    refine AWP.cond_dec rfl (fun h7 => ?_) (fun h7 => ?_)
    · have e7 : op - 6 = 1 := by have h0 : op = 7 := h7; omega
      repeat (first | refine nl ?_ | refine AWP.seq ?_ | refine rg ?_ | refine AWP.skip ?_ | refine AWP.block ?_ | refine YH (z := ?_) | refine YI (z := ?_) | refine ZA (z := ?_) | refine ZB (z := ?_) | refine ZC (z := ?_) | refine ZD (z := ?_) | refine ZF (z := ?_) | refine ZJ (z := ?_) | refine ZK (z := ?_) | refine ZO (z := ?_) | refine ZQ (z := ?_) | refine ZR (z := ?_) | refine YA (z := ?_) | refine ZG (z := ?_) | refine ZI (z := ?_) | refine YC (z := ?_) | refine YD (z := ?_))
      refine sbk rfl rfl rfl rfl ?_
      repeat (first | refine nl ?_ | refine AWP.seq ?_ | refine rg ?_ | refine AWP.skip ?_ | refine AWP.block ?_ | refine YH (z := ?_) | refine YI (z := ?_) | refine ZA (z := ?_) | refine ZB (z := ?_) | refine ZC (z := ?_) | refine ZD (z := ?_) | refine ZF (z := ?_) | refine ZJ (z := ?_) | refine ZK (z := ?_) | refine ZO (z := ?_) | refine ZQ (z := ?_) | refine ZR (z := ?_) | refine YA (z := ?_) | refine ZG (z := ?_) | refine ZI (z := ?_) | refine YC (z := ?_) | refine YD (z := ?_))
      exact AWP.ret (rets rfl (.refl _) (.refl _) ⟨fin (by simp [bin, add64, sub64, mul64, h6', e7]), rfl⟩)
    have h7' : ¬ op - 6 = 1 := by have h0 : ¬ op = 7 := h7; omega
    repeat (first | refine nl ?_ | refine AWP.seq ?_ | refine rg ?_ | refine AWP.skip ?_ | refine AWP.block ?_ | refine YH (z := ?_) | refine YI (z := ?_) | refine ZA (z := ?_) | refine ZB (z := ?_) | refine ZC (z := ?_) | refine ZD (z := ?_) | refine ZF (z := ?_) | refine ZJ (z := ?_) | refine ZK (z := ?_) | refine ZO (z := ?_) | refine ZQ (z := ?_) | refine ZR (z := ?_) | refine YA (z := ?_) | refine ZG (z := ?_) | refine ZI (z := ?_) | refine YC (z := ?_) | refine YD (z := ?_))
    refine AWP.cond_dec rfl (fun h8 => ?_) (fun h8 => ?_)
    · have e8 : op - 6 = 2 := by have h0 : op = 8 := h8; omega
      repeat (first | refine nl ?_ | refine AWP.seq ?_ | refine rg ?_ | refine AWP.skip ?_ | refine AWP.block ?_ | refine YH (z := ?_) | refine YI (z := ?_) | refine ZA (z := ?_) | refine ZB (z := ?_) | refine ZC (z := ?_) | refine ZD (z := ?_) | refine ZF (z := ?_) | refine ZJ (z := ?_) | refine ZK (z := ?_) | refine ZO (z := ?_) | refine ZQ (z := ?_) | refine ZR (z := ?_) | refine YA (z := ?_) | refine ZG (z := ?_) | refine ZI (z := ?_) | refine YC (z := ?_) | refine YD (z := ?_))
      refine mlk rfl rfl rfl rfl ?_
      repeat (first | refine nl ?_ | refine AWP.seq ?_ | refine rg ?_ | refine AWP.skip ?_ | refine AWP.block ?_ | refine YH (z := ?_) | refine YI (z := ?_) | refine ZA (z := ?_) | refine ZB (z := ?_) | refine ZC (z := ?_) | refine ZD (z := ?_) | refine ZF (z := ?_) | refine ZJ (z := ?_) | refine ZK (z := ?_) | refine ZO (z := ?_) | refine ZQ (z := ?_) | refine ZR (z := ?_) | refine YA (z := ?_) | refine ZG (z := ?_) | refine ZI (z := ?_) | refine YC (z := ?_) | refine YD (z := ?_))
      exact AWP.ret (rets rfl (.refl _) (.refl _) ⟨fin (by simp [bin, add64, sub64, mul64, h6', h7', e8]), rfl⟩)
    have h8' : ¬ op - 6 = 2 := by have h0 : ¬ op = 8 := h8; omega
    repeat (first | refine nl ?_ | refine AWP.seq ?_ | refine rg ?_ | refine AWP.skip ?_ | refine AWP.block ?_ | refine YH (z := ?_) | refine YI (z := ?_) | refine ZA (z := ?_) | refine ZB (z := ?_) | refine ZC (z := ?_) | refine ZD (z := ?_) | refine ZF (z := ?_) | refine ZJ (z := ?_) | refine ZK (z := ?_) | refine ZO (z := ?_) | refine ZQ (z := ?_) | refine ZR (z := ?_) | refine YA (z := ?_) | refine ZG (z := ?_) | refine ZI (z := ?_) | refine YC (z := ?_) | refine YD (z := ?_))
    refine AWP.cond_dec rfl (fun h9 => ?_) (fun h9 => ?_)
    · have e9 : op - 6 = 3 := by have h0 : op = 9 := h9; omega
      repeat (first | refine nl ?_ | refine AWP.seq ?_ | refine rg ?_ | refine AWP.skip ?_ | refine AWP.block ?_ | refine YH (z := ?_) | refine YI (z := ?_) | refine ZA (z := ?_) | refine ZB (z := ?_) | refine ZC (z := ?_) | refine ZD (z := ?_) | refine ZF (z := ?_) | refine ZJ (z := ?_) | refine ZK (z := ?_) | refine ZO (z := ?_) | refine ZQ (z := ?_) | refine ZR (z := ?_) | refine YA (z := ?_) | refine ZG (z := ?_) | refine ZI (z := ?_) | refine YC (z := ?_) | refine YD (z := ?_))
      refine AWP.cond_dec rfl (fun hy => ?_) (fun hy => AWP.skip ?_)
      · have hy' : y = 0 := hy
        repeat (first | refine nl ?_ | refine AWP.seq ?_ | refine rg ?_ | refine AWP.skip ?_ | refine AWP.block ?_ | refine YH (z := ?_) | refine YI (z := ?_) | refine ZA (z := ?_) | refine ZB (z := ?_) | refine ZC (z := ?_) | refine ZD (z := ?_) | refine ZF (z := ?_) | refine ZJ (z := ?_) | refine ZK (z := ?_) | refine ZO (z := ?_) | refine ZQ (z := ?_) | refine ZR (z := ?_) | refine YA (z := ?_) | refine ZG (z := ?_) | refine ZI (z := ?_) | refine YC (z := ?_) | refine YD (z := ?_))
        exact AWP.ret (rets rfl (.refl _) (.refl _) ⟨fin (by simp [bin, add64, sub64, mul64, h6', h7', h8', e9, hy']), rfl⟩)
      · have hy' : ¬ y = 0 := hy
        repeat (first | refine nl ?_ | refine AWP.seq ?_ | refine rg ?_ | refine AWP.skip ?_ | refine AWP.block ?_ | refine YH (z := ?_) | refine YI (z := ?_) | refine ZA (z := ?_) | refine ZB (z := ?_) | refine ZC (z := ?_) | refine ZD (z := ?_) | refine ZF (z := ?_) | refine ZJ (z := ?_) | refine ZK (z := ?_) | refine ZO (z := ?_) | refine ZQ (z := ?_) | refine ZR (z := ?_) | refine YA (z := ?_) | refine ZG (z := ?_) | refine ZI (z := ?_) | refine YC (z := ?_) | refine YD (z := ?_))
        refine quk rfl rfl rfl hy' rfl ?_
        repeat (first | refine nl ?_ | refine AWP.seq ?_ | refine rg ?_ | refine AWP.skip ?_ | refine AWP.block ?_ | refine YH (z := ?_) | refine YI (z := ?_) | refine ZA (z := ?_) | refine ZB (z := ?_) | refine ZC (z := ?_) | refine ZD (z := ?_) | refine ZF (z := ?_) | refine ZJ (z := ?_) | refine ZK (z := ?_) | refine ZO (z := ?_) | refine ZQ (z := ?_) | refine ZR (z := ?_) | refine YA (z := ?_) | refine ZG (z := ?_) | refine ZI (z := ?_) | refine YC (z := ?_) | refine YD (z := ?_))
        exact AWP.ret (rets rfl (.refl _) (.refl _) ⟨fin (by simp [bin, add64, sub64, mul64, h6', h7', h8', e9, hy']), rfl⟩)
    have h9' : ¬ op - 6 = 3 := by have h0 : ¬ op = 9 := h9; omega
    repeat (first | refine nl ?_ | refine AWP.seq ?_ | refine rg ?_ | refine AWP.skip ?_ | refine AWP.block ?_ | refine YH (z := ?_) | refine YI (z := ?_) | refine ZA (z := ?_) | refine ZB (z := ?_) | refine ZC (z := ?_) | refine ZD (z := ?_) | refine ZF (z := ?_) | refine ZJ (z := ?_) | refine ZK (z := ?_) | refine ZO (z := ?_) | refine ZQ (z := ?_) | refine ZR (z := ?_) | refine YA (z := ?_) | refine ZG (z := ?_) | refine ZI (z := ?_) | refine YC (z := ?_) | refine YD (z := ?_))
    refine AWP.cond_dec rfl (fun h10 => ?_) (fun h10 => ?_)
    · have e10 : op - 6 = 4 := by have h0 : op = 10 := h10; omega
      repeat (first | refine nl ?_ | refine AWP.seq ?_ | refine rg ?_ | refine AWP.skip ?_ | refine AWP.block ?_ | refine YH (z := ?_) | refine YI (z := ?_) | refine ZA (z := ?_) | refine ZB (z := ?_) | refine ZC (z := ?_) | refine ZD (z := ?_) | refine ZF (z := ?_) | refine ZJ (z := ?_) | refine ZK (z := ?_) | refine ZO (z := ?_) | refine ZQ (z := ?_) | refine ZR (z := ?_) | refine YA (z := ?_) | refine ZG (z := ?_) | refine ZI (z := ?_) | refine YC (z := ?_) | refine YD (z := ?_))
      refine AWP.cond_dec rfl (fun hy => ?_) (fun hy => AWP.skip ?_)
      · have hy' : y = 0 := hy
        repeat (first | refine nl ?_ | refine AWP.seq ?_ | refine rg ?_ | refine AWP.skip ?_ | refine AWP.block ?_ | refine YH (z := ?_) | refine YI (z := ?_) | refine ZA (z := ?_) | refine ZB (z := ?_) | refine ZC (z := ?_) | refine ZD (z := ?_) | refine ZF (z := ?_) | refine ZJ (z := ?_) | refine ZK (z := ?_) | refine ZO (z := ?_) | refine ZQ (z := ?_) | refine ZR (z := ?_) | refine YA (z := ?_) | refine ZG (z := ?_) | refine ZI (z := ?_) | refine YC (z := ?_) | refine YD (z := ?_))
        exact AWP.ret (rets rfl (.refl _) (.refl _) ⟨fin (by simp [bin, add64, sub64, mul64, h6', h7', h8', h9', e10, hy']), rfl⟩)
      · have hy' : ¬ y = 0 := hy
        repeat (first | refine nl ?_ | refine AWP.seq ?_ | refine rg ?_ | refine AWP.skip ?_ | refine AWP.block ?_ | refine YH (z := ?_) | refine YI (z := ?_) | refine ZA (z := ?_) | refine ZB (z := ?_) | refine ZC (z := ?_) | refine ZD (z := ?_) | refine ZF (z := ?_) | refine ZJ (z := ?_) | refine ZK (z := ?_) | refine ZO (z := ?_) | refine ZQ (z := ?_) | refine ZR (z := ?_) | refine YA (z := ?_) | refine ZG (z := ?_) | refine ZI (z := ?_) | refine YC (z := ?_) | refine YD (z := ?_))
        refine rm rfl rfl rfl hy' ?_
        repeat (first | refine nl ?_ | refine AWP.seq ?_ | refine rg ?_ | refine AWP.skip ?_ | refine AWP.block ?_ | refine YH (z := ?_) | refine YI (z := ?_) | refine ZA (z := ?_) | refine ZB (z := ?_) | refine ZC (z := ?_) | refine ZD (z := ?_) | refine ZF (z := ?_) | refine ZJ (z := ?_) | refine ZK (z := ?_) | refine ZO (z := ?_) | refine ZQ (z := ?_) | refine ZR (z := ?_) | refine YA (z := ?_) | refine ZG (z := ?_) | refine ZI (z := ?_) | refine YC (z := ?_) | refine YD (z := ?_))
        exact AWP.ret (rets rfl (.refl _) (.refl _) ⟨fin (by simp [bin, add64, sub64, mul64, h6', h7', h8', h9', e10, hy']), rfl⟩)
    have h10' : ¬ op - 6 = 4 := by have h0 : ¬ op = 10 := h10; omega
    repeat (first | refine nl ?_ | refine AWP.seq ?_ | refine rg ?_ | refine AWP.skip ?_ | refine AWP.block ?_ | refine YH (z := ?_) | refine YI (z := ?_) | refine ZA (z := ?_) | refine ZB (z := ?_) | refine ZC (z := ?_) | refine ZD (z := ?_) | refine ZF (z := ?_) | refine ZJ (z := ?_) | refine ZK (z := ?_) | refine ZO (z := ?_) | refine ZQ (z := ?_) | refine ZR (z := ?_) | refine YA (z := ?_) | refine ZG (z := ?_) | refine ZI (z := ?_) | refine YC (z := ?_) | refine YD (z := ?_))
    refine AWP.cond_dec rfl (fun h11 => ?_) (fun h11 => ?_)
    · have e11 : op - 6 = 5 := by have h0 : op = 11 := h11; omega
      repeat (first | refine nl ?_ | refine AWP.seq ?_ | refine rg ?_ | refine AWP.skip ?_ | refine AWP.block ?_ | refine YH (z := ?_) | refine YI (z := ?_) | refine ZA (z := ?_) | refine ZB (z := ?_) | refine ZC (z := ?_) | refine ZD (z := ?_) | refine ZF (z := ?_) | refine ZJ (z := ?_) | refine ZK (z := ?_) | refine ZO (z := ?_) | refine ZQ (z := ?_) | refine ZR (z := ?_) | refine YA (z := ?_) | refine ZG (z := ?_) | refine ZI (z := ?_) | refine YC (z := ?_) | refine YD (z := ?_))
      refine btk (.inl rfl) rfl rfl rfl rfl ?_
      repeat (first | refine nl ?_ | refine AWP.seq ?_ | refine rg ?_ | refine AWP.skip ?_ | refine AWP.block ?_ | refine YH (z := ?_) | refine YI (z := ?_) | refine ZA (z := ?_) | refine ZB (z := ?_) | refine ZC (z := ?_) | refine ZD (z := ?_) | refine ZF (z := ?_) | refine ZJ (z := ?_) | refine ZK (z := ?_) | refine ZO (z := ?_) | refine ZQ (z := ?_) | refine ZR (z := ?_) | refine YA (z := ?_) | refine ZG (z := ?_) | refine ZI (z := ?_) | refine YC (z := ?_) | refine YD (z := ?_))
      exact AWP.ret (rets rfl (.refl _) (.refl _) ⟨fin (by simp [bin, add64, sub64, mul64, h6', h7', h8', h9', h10', e11]), rfl⟩)
    have h11' : ¬ op - 6 = 5 := by have h0 : ¬ op = 11 := h11; omega
    repeat (first | refine nl ?_ | refine AWP.seq ?_ | refine rg ?_ | refine AWP.skip ?_ | refine AWP.block ?_ | refine YH (z := ?_) | refine YI (z := ?_) | refine ZA (z := ?_) | refine ZB (z := ?_) | refine ZC (z := ?_) | refine ZD (z := ?_) | refine ZF (z := ?_) | refine ZJ (z := ?_) | refine ZK (z := ?_) | refine ZO (z := ?_) | refine ZQ (z := ?_) | refine ZR (z := ?_) | refine YA (z := ?_) | refine ZG (z := ?_) | refine ZI (z := ?_) | refine YC (z := ?_) | refine YD (z := ?_))
    refine AWP.cond_dec rfl (fun h12 => ?_) (fun h12 => ?_)
    · have e12 : op - 6 = 6 := by have h0 : op = 12 := h12; omega
      repeat (first | refine nl ?_ | refine AWP.seq ?_ | refine rg ?_ | refine AWP.skip ?_ | refine AWP.block ?_ | refine YH (z := ?_) | refine YI (z := ?_) | refine ZA (z := ?_) | refine ZB (z := ?_) | refine ZC (z := ?_) | refine ZD (z := ?_) | refine ZF (z := ?_) | refine ZJ (z := ?_) | refine ZK (z := ?_) | refine ZO (z := ?_) | refine ZQ (z := ?_) | refine ZR (z := ?_) | refine YA (z := ?_) | refine ZG (z := ?_) | refine ZI (z := ?_) | refine YC (z := ?_) | refine YD (z := ?_))
      refine btk (.inr (.inl rfl)) rfl rfl rfl rfl ?_
      repeat (first | refine nl ?_ | refine AWP.seq ?_ | refine rg ?_ | refine AWP.skip ?_ | refine AWP.block ?_ | refine YH (z := ?_) | refine YI (z := ?_) | refine ZA (z := ?_) | refine ZB (z := ?_) | refine ZC (z := ?_) | refine ZD (z := ?_) | refine ZF (z := ?_) | refine ZJ (z := ?_) | refine ZK (z := ?_) | refine ZO (z := ?_) | refine ZQ (z := ?_) | refine ZR (z := ?_) | refine YA (z := ?_) | refine ZG (z := ?_) | refine ZI (z := ?_) | refine YC (z := ?_) | refine YD (z := ?_))
      exact AWP.ret (rets rfl (.refl _) (.refl _) ⟨fin (by simp [bin, add64, sub64, mul64, h6', h7', h8', h9', h10', h11', e12]), rfl⟩)
    have h12' : ¬ op - 6 = 6 := by have h0 : ¬ op = 12 := h12; omega
    repeat (first | refine nl ?_ | refine AWP.seq ?_ | refine rg ?_ | refine AWP.skip ?_ | refine AWP.block ?_ | refine YH (z := ?_) | refine YI (z := ?_) | refine ZA (z := ?_) | refine ZB (z := ?_) | refine ZC (z := ?_) | refine ZD (z := ?_) | refine ZF (z := ?_) | refine ZJ (z := ?_) | refine ZK (z := ?_) | refine ZO (z := ?_) | refine ZQ (z := ?_) | refine ZR (z := ?_) | refine YA (z := ?_) | refine ZG (z := ?_) | refine ZI (z := ?_) | refine YC (z := ?_) | refine YD (z := ?_))
    refine AWP.cond_dec rfl (fun h13 => ?_) (fun h13 => ?_)
    · have e13 : op - 6 = 7 := by have h0 : op = 13 := h13; omega
      repeat (first | refine nl ?_ | refine AWP.seq ?_ | refine rg ?_ | refine AWP.skip ?_ | refine AWP.block ?_ | refine YH (z := ?_) | refine YI (z := ?_) | refine ZA (z := ?_) | refine ZB (z := ?_) | refine ZC (z := ?_) | refine ZD (z := ?_) | refine ZF (z := ?_) | refine ZJ (z := ?_) | refine ZK (z := ?_) | refine ZO (z := ?_) | refine ZQ (z := ?_) | refine ZR (z := ?_) | refine YA (z := ?_) | refine ZG (z := ?_) | refine ZI (z := ?_) | refine YC (z := ?_) | refine YD (z := ?_))
      refine btk (.inr (.inr rfl)) rfl rfl rfl rfl ?_
      repeat (first | refine nl ?_ | refine AWP.seq ?_ | refine rg ?_ | refine AWP.skip ?_ | refine AWP.block ?_ | refine YH (z := ?_) | refine YI (z := ?_) | refine ZA (z := ?_) | refine ZB (z := ?_) | refine ZC (z := ?_) | refine ZD (z := ?_) | refine ZF (z := ?_) | refine ZJ (z := ?_) | refine ZK (z := ?_) | refine ZO (z := ?_) | refine ZQ (z := ?_) | refine ZR (z := ?_) | refine YA (z := ?_) | refine ZG (z := ?_) | refine ZI (z := ?_) | refine YC (z := ?_) | refine YD (z := ?_))
      exact AWP.ret (rets rfl (.refl _) (.refl _) ⟨fin (by simp [bin, add64, sub64, mul64, h6', h7', h8', h9', h10', h11', h12', e13]), rfl⟩)
    have h13' : ¬ op - 6 = 7 := by have h0 : ¬ op = 13 := h13; omega
    repeat (first | refine nl ?_ | refine AWP.seq ?_ | refine rg ?_ | refine AWP.skip ?_ | refine AWP.block ?_ | refine YH (z := ?_) | refine YI (z := ?_) | refine ZA (z := ?_) | refine ZB (z := ?_) | refine ZC (z := ?_) | refine ZD (z := ?_) | refine ZF (z := ?_) | refine ZJ (z := ?_) | refine ZK (z := ?_) | refine ZO (z := ?_) | refine ZQ (z := ?_) | refine ZR (z := ?_) | refine YA (z := ?_) | refine ZG (z := ?_) | refine ZI (z := ?_) | refine YC (z := ?_) | refine YD (z := ?_))
    refine AWP.cond_dec rfl (fun h14 => ?_) (fun h14 => ?_)
    · have e14 : op - 6 = 8 := by have h0 : op = 14 := h14; omega
      repeat (first | refine nl ?_ | refine AWP.seq ?_ | refine rg ?_ | refine AWP.skip ?_ | refine AWP.block ?_ | refine YH (z := ?_) | refine YI (z := ?_) | refine ZA (z := ?_) | refine ZB (z := ?_) | refine ZC (z := ?_) | refine ZD (z := ?_) | refine ZF (z := ?_) | refine ZJ (z := ?_) | refine ZK (z := ?_) | refine ZO (z := ?_) | refine ZQ (z := ?_) | refine ZR (z := ?_) | refine YA (z := ?_) | refine ZG (z := ?_) | refine ZI (z := ?_) | refine YC (z := ?_) | refine YD (z := ?_))
      exact AWP.ret (rets rfl (.refl _) (.refl _) ⟨fin (by simp [bin, add64, sub64, mul64, h6', h7', h8', h9', h10', h11', h12', h13', e14]), rfl⟩)
    have h14' : ¬ op - 6 = 8 := by have h0 : ¬ op = 14 := h14; omega
    repeat (first | refine nl ?_ | refine AWP.seq ?_ | refine rg ?_ | refine AWP.skip ?_ | refine AWP.block ?_ | refine YH (z := ?_) | refine YI (z := ?_) | refine ZA (z := ?_) | refine ZB (z := ?_) | refine ZC (z := ?_) | refine ZD (z := ?_) | refine ZF (z := ?_) | refine ZJ (z := ?_) | refine ZK (z := ?_) | refine ZO (z := ?_) | refine ZQ (z := ?_) | refine ZR (z := ?_) | refine YA (z := ?_) | refine ZG (z := ?_) | refine ZI (z := ?_) | refine YC (z := ?_) | refine YD (z := ?_))
    refine AWP.cond_dec rfl (fun h15 => ?_) (fun h15 => ?_)
    · have e15 : op - 6 = 9 := by have h0 : op = 15 := h15; omega
      repeat (first | refine nl ?_ | refine AWP.seq ?_ | refine rg ?_ | refine AWP.skip ?_ | refine AWP.block ?_ | refine YH (z := ?_) | refine YI (z := ?_) | refine ZA (z := ?_) | refine ZB (z := ?_) | refine ZC (z := ?_) | refine ZD (z := ?_) | refine ZF (z := ?_) | refine ZJ (z := ?_) | refine ZK (z := ?_) | refine ZO (z := ?_) | refine ZQ (z := ?_) | refine ZR (z := ?_) | refine YA (z := ?_) | refine ZG (z := ?_) | refine ZI (z := ?_) | refine YC (z := ?_) | refine YD (z := ?_))
      exact AWP.ret (rets rfl (.refl _) (.refl _) ⟨fin (by simp [bin, add64, sub64, mul64, h6', h7', h8', h9', h10', h11', h12', h13', h14', e15]), rfl⟩)
    have h15' : ¬ op - 6 = 9 := by have h0 : ¬ op = 15 := h15; omega
    repeat (first | refine nl ?_ | refine AWP.seq ?_ | refine rg ?_ | refine AWP.skip ?_ | refine AWP.block ?_ | refine YH (z := ?_) | refine YI (z := ?_) | refine ZA (z := ?_) | refine ZB (z := ?_) | refine ZC (z := ?_) | refine ZD (z := ?_) | refine ZF (z := ?_) | refine ZJ (z := ?_) | refine ZK (z := ?_) | refine ZO (z := ?_) | refine ZQ (z := ?_) | refine ZR (z := ?_) | refine YA (z := ?_) | refine ZG (z := ?_) | refine ZI (z := ?_) | refine YC (z := ?_) | refine YD (z := ?_))
    refine AWP.cond_dec rfl (fun h16 => ?_) (fun h16 => ?_)
    · have e16 : op - 6 = 10 := by have h0 : op = 16 := h16; omega
      repeat (first | refine nl ?_ | refine AWP.seq ?_ | refine rg ?_ | refine AWP.skip ?_ | refine AWP.block ?_ | refine YH (z := ?_) | refine YI (z := ?_) | refine ZA (z := ?_) | refine ZB (z := ?_) | refine ZC (z := ?_) | refine ZD (z := ?_) | refine ZF (z := ?_) | refine ZJ (z := ?_) | refine ZK (z := ?_) | refine ZO (z := ?_) | refine ZQ (z := ?_) | refine ZR (z := ?_) | refine YA (z := ?_) | refine ZG (z := ?_) | refine ZI (z := ?_) | refine YC (z := ?_) | refine YD (z := ?_))
      exact AWP.ret (rets rfl (.refl _) (.refl _) ⟨fin (by simp [bin, add64, sub64, mul64, h6', h7', h8', h9', h10', h11', h12', h13', h14', h15', e16]), rfl⟩)
    have h16' : ¬ op - 6 = 10 := by have h0 : ¬ op = 16 := h16; omega
    repeat (first | refine nl ?_ | refine AWP.seq ?_ | refine rg ?_ | refine AWP.skip ?_ | refine AWP.block ?_ | refine YH (z := ?_) | refine YI (z := ?_) | refine ZA (z := ?_) | refine ZB (z := ?_) | refine ZC (z := ?_) | refine ZD (z := ?_) | refine ZF (z := ?_) | refine ZJ (z := ?_) | refine ZK (z := ?_) | refine ZO (z := ?_) | refine ZQ (z := ?_) | refine ZR (z := ?_) | refine YA (z := ?_) | refine ZG (z := ?_) | refine ZI (z := ?_) | refine YC (z := ?_) | refine YD (z := ?_))
    exact AWP.ret (rets rfl (.refl _) (.refl _) ⟨fin (by simp [bin, add64, sub64, mul64, h6', h7', h8', h9', h10', h11', h12', h13', h14', h15', h16']), rfl⟩)
end Go.Proofs
/- The walks of the reference's Binary and of Reads. No conditions: lemmas only. -/
namespace Go.Proofs
open Go.AM
attribute [local irreducible] AWP AOps ACalls
set_option linter.unusedSimpArgs false

theorem cp_pc {c : Cp} (h : c.r.length = 16) : (cpRow c)[16]? = some (.int .i64 c.pc) := by
  unfold cpRow
  rw [List.getElem?_append_right (by simp [h])]
  simp [h]
theorem cp_get {c : Cp} (h : c.r.length = 16) (n : Nat) (hn : n < 16) : (cpRow c)[n]? = some (.int .i64 (c.get n)) := by
  unfold cpRow Cp.get
  rw [List.getElem?_append_left (by simp [h]; omega), List.getElem?_map, List.getElem?_eq_getElem (by omega)]
  simp [List.getD_eq_getElem?_getD, List.getElem?_eq_getElem (show n < c.r.length by omega), iv]
theorem cp_len {c : Cp} (h : c.r.length = 16) : (cpRow c).length = 17 := by simp [cpRow, h]
theorem cp_at {c : Cp} (h : c.r.length = 16) {n : Int} (hn : reg n = true) : (cpRow c)[0 + n.toNat * 1]? = some (.int .i64 (c.get n)) ∧ n = (n.toNat : Int) ∧ n.toNat < 16 := by
  have := reg_iff.1 hn
  refine ⟨?_, by omega, by omega⟩
  rw [Nat.zero_add, Nat.mul_one, cp_get h n.toNat (by omega)]
  rw [show ((n.toNat : Nat) : Int) = n by omega]

set_option maxHeartbeats 2000000 in
theorem reads_ok (c : Cp) (h : c.r.length = 16) (i : Ins) (hi : w64 i.imm) (st : St) : ACalls Tryd.prog 18 [.agg (cpRow c), .agg (insRow i)] st (fun v st' => v = readsV c i ∧ st' = st) (fun _ _ => False) := by
  refine ACalls.ofBody Tryd.func18 rfl Tryd.ntmps18 rfl ?_
  have hl := cp_len h
  have g14 : (cpRow c)[0 + 14 * 1]? = some (.int .i64 (c.get 14)) := cp_get h 14 (by decide)
  obtain ⟨op, a, b, cc, imm⟩ := i
  rw [insRow_mk]
  repeat (first | refine nl ?_ | refine AWP.seq ?_ | refine AWP.skip ?_ | refine AWP.block ?_)
  refine rg ?_
  refine bxe rfl rfl rfl hl ?_
  repeat (first | refine nl ?_ | refine AWP.seq ?_ | refine rg ?_ | refine AWP.skip ?_ | refine AWP.block ?_ | refine YH (z := ?_) | refine YI (z := ?_) | refine ZA (z := ?_) | refine ZB (z := ?_) | refine ZC (z := ?_) | refine ZD (z := ?_) | refine ZF (z := ?_) | refine ZJ (z := ?_) | refine ZK (z := ?_) | refine ZO (z := ?_) | refine ZQ (z := ?_) | refine ZR (z := ?_) | refine YA (z := ?_) | refine ZG (z := ?_) | refine ZI (z := ?_) | refine YC (z := ?_) | refine YD (z := ?_))
  refine AWP.cond_dec rfl (fun h4 => ?_) (fun h4 => ?_)
  · have e : op = 4 := h4
    repeat (first | refine nl ?_ | refine AWP.seq ?_ | refine rg ?_ | refine AWP.skip ?_ | refine AWP.block ?_ | refine YH (z := ?_) | refine YI (z := ?_) | refine ZA (z := ?_) | refine ZB (z := ?_) | refine ZC (z := ?_) | refine ZD (z := ?_) | refine ZF (z := ?_) | refine ZJ (z := ?_) | refine ZK (z := ?_) | refine ZO (z := ?_) | refine ZQ (z := ?_) | refine ZR (z := ?_) | refine YA (z := ?_) | refine ZG (z := ?_) | refine ZI (z := ?_) | refine YC (z := ?_) | refine YD (z := ?_))
    exact AWP.ret (rets rfl (.refl _) (.refl _) ⟨by simp [readsV, reads, e, packA], rfl⟩)
  have n4 : ¬ op = 4 := h4
  repeat (first | refine nl ?_ | refine AWP.seq ?_ | refine rg ?_ | refine AWP.skip ?_ | refine AWP.block ?_ | refine YH (z := ?_) | refine YI (z := ?_) | refine ZA (z := ?_) | refine ZB (z := ?_) | refine ZC (z := ?_) | refine ZD (z := ?_) | refine ZF (z := ?_) | refine ZJ (z := ?_) | refine ZK (z := ?_) | refine ZO (z := ?_) | refine ZQ (z := ?_) | refine ZR (z := ?_) | refine YA (z := ?_) | refine ZG (z := ?_) | refine ZI (z := ?_) | refine YC (z := ?_) | refine YD (z := ?_))
  refine AWP.cond_dec rfl (fun h19 => ?_) (fun h19 => ?_)
  · have e : op = 19 := h19
    repeat (first | refine nl ?_ | refine AWP.seq ?_ | refine rg ?_ | refine AWP.skip ?_ | refine AWP.block ?_ | refine YH (z := ?_) | refine YI (z := ?_) | refine ZA (z := ?_) | refine ZB (z := ?_) | refine ZC (z := ?_) | refine ZD (z := ?_) | refine ZF (z := ?_) | refine ZJ (z := ?_) | refine ZK (z := ?_) | refine ZO (z := ?_) | refine ZQ (z := ?_) | refine ZR (z := ?_) | refine YA (z := ?_) | refine ZG (z := ?_) | refine ZI (z := ?_) | refine YC (z := ?_) | refine YD (z := ?_))
    refine AWP.cond_bool rfl (fun hc => ?_) (fun hc => AWP.skip ?_)
    · have hr : reg b = false := by simpa using hc
      repeat (first | refine nl ?_ | refine AWP.seq ?_ | refine rg ?_ | refine AWP.skip ?_ | refine AWP.block ?_ | refine YH (z := ?_) | refine YI (z := ?_) | refine ZA (z := ?_) | refine ZB (z := ?_) | refine ZC (z := ?_) | refine ZD (z := ?_) | refine ZF (z := ?_) | refine ZJ (z := ?_) | refine ZK (z := ?_) | refine ZO (z := ?_) | refine ZQ (z := ?_) | refine ZR (z := ?_) | refine YA (z := ?_) | refine ZG (z := ?_) | refine ZI (z := ?_) | refine YC (z := ?_) | refine YD (z := ?_))
      exact AWP.ret (rets rfl (.refl _) (.refl _) ⟨by simp [readsV, reads, e, hr, packA, add64, wrap64 hi], rfl⟩)
    · have hr : reg b = true := by simpa using hc
      obtain ⟨q1, q2, q3⟩ := cp_at h hr
      repeat (first | refine nl ?_ | refine AWP.seq ?_ | refine AWP.skip ?_ | refine AWP.block ?_)
      refine AWP.draw rfl 8 8 (fun _ _ => False) rfl ?_
      repeat (first | refine ds rfl rfl ?_ | refine dp (h := fun _ _ => ZD (z := nz)) (z := ?_) | refine dp (h := fun _ _ => ZF (z := nz)) (z := ?_) | refine dp (h := fun _ _ => ZC (z := nz)) (z := ?_) | refine dp (h := fun _ _ => ZJ (z := nz)) (z := ?_) | refine dp (h := fun _ _ => ZK (z := nz)) (z := ?_) | refine dp (h := fun _ _ => ZQ (z := nz)) (z := ?_) | refine dp (h := fun _ _ => ZO (z := nz)) (z := ?_) | refine dp (h := fun _ _ => ZG (z := nz)) (z := ?_) | refine dp (h := fun _ _ => ZI (z := nz)) (z := ?_) | refine dp (h := fun _ _ => YC (z := nz)) (z := ?_) | refine dp (h := fun _ _ => YL (z := nz)) (z := ?_) | refine dp (h := fun _ _ => YM (z := nz)) (z := ?_))
      refine dq rfl rfl rfl (fun st1 hle => ixa (m := b.toNat) rfl rfl q2 q3 rfl (nl ⟨_, rfl, rfl, rfl⟩)) ?_
      repeat (first | refine ds rfl rfl ?_ | refine dp (h := fun _ _ => ZD (z := nz)) (z := ?_) | refine dp (h := fun _ _ => ZF (z := nz)) (z := ?_) | refine dp (h := fun _ _ => ZC (z := nz)) (z := ?_) | refine dp (h := fun _ _ => ZJ (z := nz)) (z := ?_) | refine dp (h := fun _ _ => ZK (z := nz)) (z := ?_) | refine dp (h := fun _ _ => ZQ (z := nz)) (z := ?_) | refine dp (h := fun _ _ => ZO (z := nz)) (z := ?_) | refine dp (h := fun _ _ => ZG (z := nz)) (z := ?_) | refine dp (h := fun _ _ => ZI (z := nz)) (z := ?_) | refine dp (h := fun _ _ => YC (z := nz)) (z := ?_) | refine dp (h := fun _ _ => YL (z := nz)) (z := ?_) | refine dp (h := fun _ _ => YM (z := nz)) (z := ?_))
      refine dn ⟨fun _ => ?_, fun h => absurd h (by decide)⟩
      repeat (first | refine nl ?_ | refine AWP.seq ?_ | refine rg ?_ | refine AWP.skip ?_ | refine AWP.block ?_ | refine YH (z := ?_) | refine YI (z := ?_) | refine ZA (z := ?_) | refine ZB (z := ?_) | refine ZC (z := ?_) | refine ZD (z := ?_) | refine ZF (z := ?_) | refine ZJ (z := ?_) | refine ZK (z := ?_) | refine ZO (z := ?_) | refine ZQ (z := ?_) | refine ZR (z := ?_) | refine YA (z := ?_) | refine ZG (z := ?_) | refine ZI (z := ?_) | refine YC (z := ?_) | refine YD (z := ?_))
      exact AWP.ret (rets rfl (.refl _) (.refl _) ⟨by simp [readsV, reads, e, hr, packA, add64], rfl⟩)
  have n19 : ¬ op = 19 := h19
  repeat (first | refine nl ?_ | refine AWP.seq ?_ | refine rg ?_ | refine AWP.skip ?_ | refine AWP.block ?_ | refine YH (z := ?_) | refine YI (z := ?_) | refine ZA (z := ?_) | refine ZB (z := ?_) | refine ZC (z := ?_) | refine ZD (z := ?_) | refine ZF (z := ?_) | refine ZJ (z := ?_) | refine ZK (z := ?_) | refine ZO (z := ?_) | refine ZQ (z := ?_) | refine ZR (z := ?_) | refine YA (z := ?_) | refine ZG (z := ?_) | refine ZI (z := ?_) | refine YC (z := ?_) | refine YD (z := ?_))
  refine AWP.cond_dec rfl (fun h24 => ?_) (fun h24 => AWP.skip ?_)
  · have e : op = 24 := h24
    repeat (first | refine nl ?_ | refine AWP.seq ?_ | refine rg ?_ | refine AWP.skip ?_ | refine AWP.block ?_ | refine YH (z := ?_) | refine YI (z := ?_) | refine ZA (z := ?_) | refine ZB (z := ?_) | refine ZC (z := ?_) | refine ZD (z := ?_) | refine ZF (z := ?_) | refine ZJ (z := ?_) | refine ZK (z := ?_) | refine ZO (z := ?_) | refine ZQ (z := ?_) | refine ZR (z := ?_) | refine YA (z := ?_) | refine ZG (z := ?_) | refine ZI (z := ?_) | refine YC (z := ?_) | refine YD (z := ?_))
    refine ixa (m := 14) rfl rfl rfl (by decide) rfl ?_
    repeat (first | refine nl ?_ | refine AWP.seq ?_ | refine rg ?_ | refine AWP.skip ?_ | refine AWP.block ?_ | refine YH (z := ?_) | refine YI (z := ?_) | refine ZA (z := ?_) | refine ZB (z := ?_) | refine ZC (z := ?_) | refine ZD (z := ?_) | refine ZF (z := ?_) | refine ZJ (z := ?_) | refine ZK (z := ?_) | refine ZO (z := ?_) | refine ZQ (z := ?_) | refine ZR (z := ?_) | refine YA (z := ?_) | refine ZG (z := ?_) | refine ZI (z := ?_) | refine YC (z := ?_) | refine YD (z := ?_))
    exact AWP.ret (rets rfl (.refl _) (.refl _) ⟨by simp [readsV, reads, e, packA], rfl⟩)
  have n24 : ¬ op = 24 := h24
  repeat (first | refine nl ?_ | refine AWP.seq ?_ | refine rg ?_ | refine AWP.skip ?_ | refine AWP.block ?_ | refine YH (z := ?_) | refine YI (z := ?_) | refine ZA (z := ?_) | refine ZB (z := ?_) | refine ZC (z := ?_) | refine ZD (z := ?_) | refine ZF (z := ?_) | refine ZJ (z := ?_) | refine ZK (z := ?_) | refine ZO (z := ?_) | refine ZQ (z := ?_) | refine ZR (z := ?_) | refine YA (z := ?_) | refine ZG (z := ?_) | refine ZI (z := ?_) | refine YC (z := ?_) | refine YD (z := ?_))
  exact AWP.ret (rets rfl (.refl _) (.refl _) ⟨by simp [readsV, reads, n4, n19, n24, packA, absV, abs1], rfl⟩)

end Go.Proofs
/- The walk of Execute. No conditions: lemmas only. -/
namespace Go.Proofs
open Go.AM
attribute [local irreducible] AWP AOps ACalls
set_option linter.unusedSimpArgs false

theorem ef_len {x : Ef} (h : x.cpu.r.length = 16) : (efRow x).length = 22 := by simp [efRow, h]
theorem ef_split (x : Ef) (h : x.cpu.r.length = 16) (k : Nat) (v : AV) (hk : k < 6) : rowSet (efRow x) (16 + k) [v] = x.cpu.r.map iv ++ ([.int .i64 x.cpu.pc, .bool x.stores, .int .i64 x.addr, .int .i64 x.word, .bool x.prints, .int .i64 x.print].set k v) := by
  unfold rowSet efRow
  have hl : (x.cpu.r.map iv).length = 16 := by simp [h]
  rw [List.take_append, List.drop_append, hl]
  simp only [List.length_singleton, show 16 + k - 16 = k by omega, show 16 + k + 1 - 16 = k + 1 by omega]
  rw [List.take_of_length_le (by omega), List.drop_eq_nil_of_le (by omega), List.nil_append]
  rw [List.append_assoc, List.append_assoc]
  congr 1
  have hk' : k = 0 ∨ k = 1 ∨ k = 2 ∨ k = 3 ∨ k = 4 ∨ k = 5 := by omega
  rcases hk' with rfl | rfl | rfl | rfl | rfl | rfl <;> rfl
section
variable {r : List Int} {pc ad wo pn : Int} {s p : Bool}
theorem ef_pc (h : r.length = 16) (v : Int) : rowSet (efRow ⟨⟨r, pc⟩, s, ad, wo, p, pn⟩) 16 [.int .i64 v] = efRow ⟨⟨r, v⟩, s, ad, wo, p, pn⟩ := ef_split _ h 0 _ (by decide)
theorem ef_stores (h : r.length = 16) (v : Bool) : rowSet (efRow ⟨⟨r, pc⟩, s, ad, wo, p, pn⟩) 17 [.bool v] = efRow ⟨⟨r, pc⟩, v, ad, wo, p, pn⟩ := ef_split _ h 1 _ (by decide)
theorem ef_addr (h : r.length = 16) (v : Int) : rowSet (efRow ⟨⟨r, pc⟩, s, ad, wo, p, pn⟩) 18 [.int .i64 v] = efRow ⟨⟨r, pc⟩, s, v, wo, p, pn⟩ := ef_split _ h 2 _ (by decide)
theorem ef_word (h : r.length = 16) (v : Int) : rowSet (efRow ⟨⟨r, pc⟩, s, ad, wo, p, pn⟩) 19 [.int .i64 v] = efRow ⟨⟨r, pc⟩, s, ad, v, p, pn⟩ := ef_split _ h 3 _ (by decide)
theorem ef_prints (h : r.length = 16) (v : Bool) : rowSet (efRow ⟨⟨r, pc⟩, s, ad, wo, p, pn⟩) 20 [.bool v] = efRow ⟨⟨r, pc⟩, s, ad, wo, v, pn⟩ := ef_split _ h 4 _ (by decide)
theorem ef_print (h : r.length = 16) (v : Int) : rowSet (efRow ⟨⟨r, pc⟩, s, ad, wo, p, pn⟩) 21 [.int .i64 v] = efRow ⟨⟨r, pc⟩, s, ad, wo, p, v⟩ := ef_split _ h 5 _ (by decide)
theorem ef_put (h : r.length = 16) {n off : Nat} (ho : off = n) (hn : n < 16) (v : Int) : rowSet (efRow ⟨⟨r, pc⟩, s, ad, wo, p, pn⟩) off [.int .i64 v] = efRow ⟨⟨r.set n v, pc⟩, s, ad, wo, p, pn⟩ := by
  subst ho
  unfold rowSet efRow
  simp only
  have hl : (r.map iv).length = 16 := by simp [h]
  rw [List.take_append_of_le_length (by omega), List.drop_append_of_le_length (by simp; omega)]
  rw [← List.append_assoc]
  congr 1
  rw [List.map_set, List.set_eq_take_append_cons_drop, if_pos (by omega)]
  simp [iv]
end
theorem ef_at {x : Ef} (h : x.cpu.r.length = 16) {n off : Nat} (ho : off = n) (hn : n < 16) : (efRow x)[off]? = some (.int .i64 (x.cpu.get n)) := by
  subst ho
  unfold efRow Cp.get
  rw [List.getElem?_append_left (by simp [h]; omega), List.getElem?_map, List.getElem?_eq_getElem (by omega)]
  simp [List.getD_eq_getElem?_getD, List.getElem?_eq_getElem (show off < x.cpu.r.length by omega), iv]
theorem zef_row : zrow (Value.agg #[.int .i64 0, .int .i64 0, .int .i64 0, .int .i64 0, .int .i64 0, .int .i64 0, .int .i64 0, .int .i64 0, .int .i64 0, .int .i64 0, .int .i64 0, .int .i64 0, .int .i64 0, .int .i64 0, .int .i64 0, .int .i64 0, .int .i64 0, .bool false, .int .i64 0, .int .i64 0, .bool false, .int .i64 0]) = efRow zEf := rfl
theorem ef_cpu {r : List Int} {pc : Int} (h : r.length = 16) : rowSet (efRow zEf) 0 (cpRow ⟨r, pc⟩) = efRow ⟨⟨r, pc⟩, false, 0, 0, false, 0⟩ := by
  have hl : (cpRow ⟨r, pc⟩).length = 17 := cp_len h
  unfold rowSet
  rw [hl]
  show cpRow ⟨r, pc⟩ ++ [.bool false, .int .i64 0, .int .i64 0, .bool false, .int .i64 0] = _
  simp [cpRow, efRow]
theorem enc0 {i : Ins} (h : ¬ (enc i).2 ≠ 0) : rngOk i = true ∧ opr i.op = true := by
  unfold enc at h
  split at h
  · simp at h
  · split at h
    · simp at h
    · rename_i h1 h2
      exact ⟨by simpa using h1, by simpa using h2⟩
theorem fill_cpu {r : List Int} {pc : Int} (h : r.length = 16) {pl : Nat → Option (Nat × Nat)} (hp : pl 0 = some (0, 17)) : afill pl (efRow zEf) [(0, .agg (cpRow ⟨r, pc⟩))] = some (efRow ⟨⟨r, pc⟩, false, 0, 0, false, 0⟩) := by
  have hl : (cpRow ⟨r, pc⟩).length = 17 := cp_len h
  have hl2 : (efRow zEf).length = 22 := rfl
  simp only [afill, hp, AV.cells, hl, hl2, storable, nbeq_self, show Nat.ble (0 + 17) 22 = true from rfl, Bool.and_self, cond_true, ef_cpu h]
theorem ef_len' {r : List Int} {pc ad wo pn : Int} {s p : Bool} (h : r.length = 16) : (efRow ⟨⟨r, pc⟩, s, ad, wo, p, pn⟩).length = 22 := ef_len (x := ⟨⟨r, pc⟩, s, ad, wo, p, pn⟩) h
theorem set_len {r : List Int} (h : r.length = 16) (n : Nat) (v : Int) : (r.set n v).length = 16 := by rw [List.length_set, h]
theorem St.new2 {st : St} {o o' : Nat} {a b c : AObj} (h : st.obj o = none) (h' : (st.set o c).obj o' = none) : StLe ((st.set o a).set o' b) st :=
  StLe.new (by rw [St.obj_set_ne (St.new_ne h')]; exact St.new_old h') (StLe.new h (.refl _))

set_option maxHeartbeats 4000000 in
theorem execute_ok (c : Cp) (h : c.r.length = 16) (i : Ins) (l : Int) (st : St) : ACalls Tryd.prog 20 [.agg (cpRow c), .agg (insRow i), .int .i64 l] st (fun v st' => v = execV c i l ∧ st' = st) (fun _ _ => False) := by
  refine ACalls.ofBody Tryd.func20 rfl Tryd.ntmps20 rfl ?_
  have hl := cp_len h
  have g16 : (cpRow c)[0 + 16]? = some (.int .i64 c.pc) := cp_pc h
  have g14 : (cpRow c)[0 + 14 * 1]? = some (.int .i64 (c.get 14)) := cp_get h 14 (by decide)
  have fin : ∀ {x : Ef} {e : Int}, exec c i l = (x, e) → AV.tuple [.agg (efRow x), .int .i64 e] = execV c i l := fun h => by rw [execV, h]
  repeat (first | refine nl ?_ | refine AWP.seq ?_ | refine AWP.skip ?_ | refine AWP.block ?_)
  refine rg ?_
  refine bxe rfl rfl rfl hl ?_
  repeat (first | refine ZA (z := ?_) | refine ZB (z := ?_) | refine ZC (z := ?_) | refine ZD (z := ?_) | refine ZF (z := ?_) | refine ZJ (z := ?_) | refine ZK (z := ?_) | refine ZO (z := ?_) | refine ZQ (z := ?_) | refine ZR (z := ?_) | refine YA (z := ?_) | refine ZG (z := ?_) | refine ZI (z := ?_) | refine YC (z := ?_) | refine YD (z := ?_))
  refine al rfl rfl fun o6 h6 => ?_
  rw [zef_row]
  repeat (first | refine nl ?_ | refine AWP.seq ?_ | refine rg ?_ | refine AWP.skip ?_ | refine AWP.block ?_ | refine YH (z := ?_) | refine YI (z := ?_) | refine ZA (z := ?_) | refine ZB (z := ?_) | refine ZC (z := ?_) | refine ZD (z := ?_) | refine ZF (z := ?_) | refine ZJ (z := ?_) | refine ZK (z := ?_) | refine ZO (z := ?_) | refine ZQ (z := ?_) | refine ZR (z := ?_) | refine YA (z := ?_) | refine ZG (z := ?_) | refine ZI (z := ?_) | refine YC (z := ?_) | refine YD (z := ?_))
  refine gS rfl (fun he => ?_) (fun he => ?_)
  · repeat (first | refine nl ?_ | refine AWP.seq ?_ | refine rg ?_ | refine AWP.skip ?_ | refine AWP.block ?_ | refine YH (z := ?_) | refine YI (z := ?_) | refine ZA (z := ?_) | refine ZB (z := ?_) | refine ZC (z := ?_) | refine ZD (z := ?_) | refine ZF (z := ?_) | refine ZJ (z := ?_) | refine ZK (z := ?_) | refine ZO (z := ?_) | refine ZQ (z := ?_) | refine ZR (z := ?_) | refine YA (z := ?_) | refine ZG (z := ?_) | refine ZI (z := ?_) | refine YC (z := ?_) | refine YD (z := ?_))
    refine bds (cs := efRow zEf) rfl rfl rfl rfl ?_
    refine soV rfl rfl rfl rfl rfl rfl ?_
    repeat (first | refine nl ?_ | refine AWP.seq ?_ | refine rg ?_ | refine AWP.skip ?_ | refine AWP.block ?_ | refine YH (z := ?_) | refine YI (z := ?_) | refine ZA (z := ?_) | refine ZB (z := ?_) | refine ZC (z := ?_) | refine ZD (z := ?_) | refine ZF (z := ?_) | refine ZJ (z := ?_) | refine ZK (z := ?_) | refine ZO (z := ?_) | refine ZQ (z := ?_) | refine ZR (z := ?_) | refine YA (z := ?_) | refine ZG (z := ?_) | refine ZI (z := ?_) | refine YC (z := ?_) | refine YD (z := ?_))
    exact AWP.ret (rets (resCW rfl (St.obj_set _ _ _) rfl rfl rfl rfl) (.refl _) (StLe.new h6 (.refl _)) ⟨fin (by unfold exec; rw [if_pos (.inl he)]), rfl⟩)
  obtain ⟨hr, hop⟩ := enc0 he
  have hn : (enc i).2 = 0 := by simpa using he
  have hrr := rng_iff.1 hr
  have hor := opr_iff.1 hop
  have ga := cp_at h (reg_iff.2 hrr.2.1)
  have gb := cp_at h (reg_iff.2 hrr.2.2.1)
  have gc := cp_at h (reg_iff.2 hrr.2.2.2)
  obtain ⟨op, a, b, cc, imm⟩ := i
  obtain ⟨r, pc⟩ := c
  rw [insRow_mk]
  simp only at h hn hrr hor ga gb gc fin g16
  obtain ⟨qa, ea, la⟩ := ga
  obtain ⟨qb, eb, lb⟩ := gb
  obtain ⟨qc, ec, lc⟩ := gc
  repeat (first | refine nl ?_ | refine AWP.seq ?_ | refine rg ?_ | refine AWP.skip ?_ | refine AWP.block ?_ | refine YH (z := ?_) | refine YI (z := ?_) | refine ZA (z := ?_) | refine ZB (z := ?_) | refine ZC (z := ?_) | refine ZD (z := ?_) | refine ZF (z := ?_) | refine ZJ (z := ?_) | refine ZK (z := ?_) | refine ZO (z := ?_) | refine ZQ (z := ?_) | refine ZR (z := ?_) | refine YA (z := ?_) | refine ZG (z := ?_) | refine ZI (z := ?_) | refine YC (z := ?_) | refine YD (z := ?_))
  refine AWP.cond_dec rfl (fun h2 => ?_) (fun h2 => AWP.skip ?_)
  · have e2 : op = 2 := h2
    repeat (first | refine nl ?_ | refine AWP.seq ?_ | refine rg ?_ | refine AWP.skip ?_ | refine AWP.block ?_ | refine YH (z := ?_) | refine YI (z := ?_) | refine ZA (z := ?_) | refine ZB (z := ?_) | refine ZC (z := ?_) | refine ZD (z := ?_) | refine ZF (z := ?_) | refine ZJ (z := ?_) | refine ZK (z := ?_) | refine ZO (z := ?_) | refine ZQ (z := ?_) | refine ZR (z := ?_) | refine YA (z := ?_) | refine ZG (z := ?_) | refine ZI (z := ?_) | refine YC (z := ?_) | refine YD (z := ?_))
    refine bds (cs := efRow zEf) rfl rfl rfl rfl ?_
    refine soV rfl rfl rfl rfl rfl rfl ?_
    repeat (first | refine nl ?_ | refine AWP.seq ?_ | refine rg ?_ | refine AWP.skip ?_ | refine AWP.block ?_ | refine YH (z := ?_) | refine YI (z := ?_) | refine ZA (z := ?_) | refine ZB (z := ?_) | refine ZC (z := ?_) | refine ZD (z := ?_) | refine ZF (z := ?_) | refine ZJ (z := ?_) | refine ZK (z := ?_) | refine ZO (z := ?_) | refine ZQ (z := ?_) | refine ZR (z := ?_) | refine YA (z := ?_) | refine ZG (z := ?_) | refine ZI (z := ?_) | refine YC (z := ?_) | refine YD (z := ?_))
    exact AWP.ret (rets (resCW rfl (St.obj_set _ _ _) rfl rfl rfl rfl) (.refl _) (StLe.new h6 (.refl _)) ⟨fin (by unfold exec; rw [if_pos (.inr e2)]), rfl⟩)
  have n2 : ¬ op = 2 := h2
  have hno : ¬ ((enc ⟨op, a, b, cc, imm⟩).2 ≠ 0 ∨ op = 2) := by rw [hn]; simp [n2]
  repeat (first | refine nl ?_ | refine AWP.seq ?_ | refine rg ?_ | refine AWP.skip ?_ | refine AWP.block ?_ | refine YH (z := ?_) | refine YI (z := ?_) | refine ZA (z := ?_) | refine ZB (z := ?_) | refine ZC (z := ?_) | refine ZD (z := ?_) | refine ZF (z := ?_) | refine ZJ (z := ?_) | refine ZK (z := ?_) | refine ZO (z := ?_) | refine ZQ (z := ?_) | refine ZR (z := ?_) | refine YA (z := ?_) | refine ZG (z := ?_) | refine ZI (z := ?_) | refine YC (z := ?_) | refine YD (z := ?_))
  refine leW rfl rfl rfl rfl (by rw [hl]; rfl) ?_
  refine bds (cs := efRow ⟨⟨r, pc⟩, false, 0, 0, false, 0⟩) rfl rfl rfl (fill_cpu h rfl) ?_
  refine al rfl rfl fun o10 h10 => ?_
  have hne : o10 ≠ o6 := St.new_ne h10
  refine soV rfl rfl rfl rfl (by rw [ef_len' h]; rfl) (by rw [ef_len' h]; rfl) ?_
  repeat (first | refine nl ?_ | refine AWP.seq ?_ | refine rg ?_ | refine AWP.skip ?_ | refine AWP.block ?_ | refine YH (z := ?_) | refine YI (z := ?_) | refine ZA (z := ?_) | refine ZB (z := ?_) | refine ZC (z := ?_) | refine ZD (z := ?_) | refine ZF (z := ?_) | refine ZJ (z := ?_) | refine ZK (z := ?_) | refine ZO (z := ?_) | refine ZQ (z := ?_) | refine ZR (z := ?_) | refine YA (z := ?_) | refine ZG (z := ?_) | refine ZI (z := ?_) | refine YC (z := ?_) | refine YD (z := ?_))
  refine adk (c := add64 pc 1) rfl rfl rfl rfl ?_
  repeat (first | refine nl ?_ | refine AWP.seq ?_ | refine rg ?_ | refine AWP.skip ?_ | refine AWP.block ?_ | refine YH (z := ?_) | refine YI (z := ?_) | refine ZA (z := ?_) | refine ZB (z := ?_) | refine ZC (z := ?_) | refine ZD (z := ?_) | refine ZF (z := ?_) | refine ZJ (z := ?_) | refine ZK (z := ?_) | refine ZO (z := ?_) | refine ZQ (z := ?_) | refine ZR (z := ?_) | refine YA (z := ?_) | refine ZG (z := ?_) | refine ZI (z := ?_) | refine YC (z := ?_) | refine YD (z := ?_))
  refine so1 rfl rfl rfl rfl rfl (by rw [ef_len' h]; simp only [AV.cells, List.length_singleton]; omega) (ef_pc h _) ?_
  repeat (first | refine nl ?_ | refine AWP.seq ?_ | refine rg ?_ | refine AWP.skip ?_ | refine AWP.block ?_ | refine YH (z := ?_) | refine YI (z := ?_) | refine ZA (z := ?_) | refine ZB (z := ?_) | refine ZC (z := ?_) | refine ZD (z := ?_) | refine ZF (z := ?_) | refine ZJ (z := ?_) | refine ZK (z := ?_) | refine ZO (z := ?_) | refine ZQ (z := ?_) | refine ZR (z := ?_) | refine YA (z := ?_) | refine ZG (z := ?_) | refine ZI (z := ?_) | refine YC (z := ?_) | refine YD (z := ?_))
  refine AWP.weaken (tl9 (i0 := 56) (i1 := 37) (i2 := 12) (i3 := 11) (i4 := 10) (i5 := 6) (i6 := 4) (i7 := 3) (i8 := 2) rfl rfl rfl rfl rfl rfl rfl rfl rfl) (.refl _) ?_
  refine AWP.cond_dec rfl (fun h1 => AWP.skip ?_) (fun h1 => ?_)
  · have e1 : op = 1 := h1
    repeat (first | refine nl ?_ | refine AWP.seq ?_ | refine rg ?_ | refine AWP.skip ?_ | refine AWP.block ?_ | refine YH (z := ?_) | refine YI (z := ?_) | refine ZA (z := ?_) | refine ZB (z := ?_) | refine ZC (z := ?_) | refine ZD (z := ?_) | refine ZF (z := ?_) | refine ZJ (z := ?_) | refine ZK (z := ?_) | refine ZO (z := ?_) | refine ZQ (z := ?_) | refine ZR (z := ?_) | refine YA (z := ?_) | refine ZG (z := ?_) | refine ZI (z := ?_) | refine YC (z := ?_) | refine YD (z := ?_))
    refine lcW rfl rfl rfl (St.obj_set _ _ _) rfl (by rw [ef_len' h]; rfl) ?_
    refine soU rfl hne rfl rfl rfl (by rw [ef_len' h]; rfl) (by rw [ef_len' h]; rfl) ?_
    repeat (first | refine nl ?_ | refine AWP.seq ?_ | refine rg ?_ | refine AWP.skip ?_ | refine AWP.block ?_ | refine YH (z := ?_) | refine YI (z := ?_) | refine ZA (z := ?_) | refine ZB (z := ?_) | refine ZC (z := ?_) | refine ZD (z := ?_) | refine ZF (z := ?_) | refine ZJ (z := ?_) | refine ZK (z := ?_) | refine ZO (z := ?_) | refine ZQ (z := ?_) | refine ZR (z := ?_) | refine YA (z := ?_) | refine ZG (z := ?_) | refine ZI (z := ?_) | refine YC (z := ?_) | refine YD (z := ?_))
    exact AWP.ret (rets (resCW rfl (St.obj_under hne _ _) rfl rfl (by rw [ef_len' h]; rfl) rfl) (.refl _) (St.new2 h6 h10) ⟨fin (by unfold exec; rw [if_neg hno]; simp only [if_pos e1] <;> rfl), rfl⟩)
  have n1 : ¬ op = 1 := h1
  repeat (first | refine nl ?_ | refine AWP.seq ?_ | refine rg ?_ | refine AWP.skip ?_ | refine AWP.block ?_ | refine YH (z := ?_) | refine YI (z := ?_) | refine ZA (z := ?_) | refine ZB (z := ?_) | refine ZC (z := ?_) | refine ZD (z := ?_) | refine ZF (z := ?_) | refine ZJ (z := ?_) | refine ZK (z := ?_) | refine ZO (z := ?_) | refine ZQ (z := ?_) | refine ZR (z := ?_) | refine YA (z := ?_) | refine ZG (z := ?_) | refine ZI (z := ?_) | refine YC (z := ?_) | refine YD (z := ?_))
  refine AWP.cond_dec rfl (fun h3 => ?_) (fun h3 => ?_)
  · have e3 : op = 3 := h3
    repeat (first | refine nl ?_ | refine AWP.seq ?_ | refine AWP.skip ?_ | refine AWP.block ?_)
    refine AWP.draw rfl 6 6 (fun _ _ => False) rfl ?_
    repeat (first | refine ds rfl rfl ?_ | refine dp (h := fun _ _ => ZD (z := nz)) (z := ?_) | refine dp (h := fun _ _ => ZF (z := nz)) (z := ?_) | refine dp (h := fun _ _ => ZC (z := nz)) (z := ?_) | refine dp (h := fun _ _ => ZJ (z := nz)) (z := ?_) | refine dp (h := fun _ _ => ZK (z := nz)) (z := ?_) | refine dp (h := fun _ _ => ZQ (z := nz)) (z := ?_) | refine dp (h := fun _ _ => ZO (z := nz)) (z := ?_) | refine dp (h := fun _ _ => ZG (z := nz)) (z := ?_) | refine dp (h := fun _ _ => ZI (z := nz)) (z := ?_) | refine dp (h := fun _ _ => YC (z := nz)) (z := ?_) | refine dp (h := fun _ _ => YL (z := nz)) (z := ?_) | refine dp (h := fun _ _ => YM (z := nz)) (z := ?_))
    refine dn ⟨fun _ => ?_, fun h => absurd h (by decide)⟩
    repeat (first | refine ZA (z := ?_) | refine ZB (z := ?_) | refine ZC (z := ?_) | refine ZD (z := ?_) | refine ZF (z := ?_) | refine ZJ (z := ?_) | refine ZK (z := ?_) | refine ZO (z := ?_) | refine ZQ (z := ?_) | refine ZR (z := ?_) | refine YA (z := ?_) | refine ZG (z := ?_) | refine ZI (z := ?_) | refine YC (z := ?_) | refine YD (z := ?_))
    refine ixa (m := a.toNat) rfl rfl ea la rfl ?_
    refine so1 rfl rfl rfl rfl rfl (by rw [ef_len' h]; simp only [AV.cells, List.length_singleton]; omega) (ef_put h (by omega) la _) ?_
    repeat (first | refine nl ?_ | refine AWP.seq ?_ | refine rg ?_ | refine AWP.skip ?_ | refine AWP.block ?_ | refine YH (z := ?_) | refine YI (z := ?_) | refine ZA (z := ?_) | refine ZB (z := ?_) | refine ZC (z := ?_) | refine ZD (z := ?_) | refine ZF (z := ?_) | refine ZJ (z := ?_) | refine ZK (z := ?_) | refine ZO (z := ?_) | refine ZQ (z := ?_) | refine ZR (z := ?_) | refine YA (z := ?_) | refine ZG (z := ?_) | refine ZI (z := ?_) | refine YC (z := ?_) | refine YD (z := ?_))
    refine lcW rfl rfl rfl (St.obj_set _ _ _) rfl (by rw [ef_len' (set_len h _ _)]; rfl) ?_
    refine soU rfl hne rfl rfl rfl (by rw [ef_len' (set_len h _ _)]; rfl) (by rw [ef_len' (set_len h _ _)]; rfl) ?_
    repeat (first | refine nl ?_ | refine AWP.seq ?_ | refine rg ?_ | refine AWP.skip ?_ | refine AWP.block ?_ | refine YH (z := ?_) | refine YI (z := ?_) | refine ZA (z := ?_) | refine ZB (z := ?_) | refine ZC (z := ?_) | refine ZD (z := ?_) | refine ZF (z := ?_) | refine ZJ (z := ?_) | refine ZK (z := ?_) | refine ZO (z := ?_) | refine ZQ (z := ?_) | refine ZR (z := ?_) | refine YA (z := ?_) | refine ZG (z := ?_) | refine ZI (z := ?_) | refine YC (z := ?_) | refine YD (z := ?_))
    exact AWP.ret (rets (resCW rfl (St.obj_under hne _ _) rfl rfl (by rw [ef_len' (set_len h _ _)]; rfl) rfl) (.refl _) (St.new2 h6 h10) ⟨fin (by unfold exec; rw [if_neg hno]; simp only [if_neg n1, if_pos e3] <;> rfl), rfl⟩)
  have n3 : ¬ op = 3 := h3
  repeat (first | refine nl ?_ | refine AWP.seq ?_ | refine rg ?_ | refine AWP.skip ?_ | refine AWP.block ?_ | refine YH (z := ?_) | refine YI (z := ?_) | refine ZA (z := ?_) | refine ZB (z := ?_) | refine ZC (z := ?_) | refine ZD (z := ?_) | refine ZF (z := ?_) | refine ZJ (z := ?_) | refine ZK (z := ?_) | refine ZO (z := ?_) | refine ZQ (z := ?_) | refine ZR (z := ?_) | refine YA (z := ?_) | refine ZG (z := ?_) | refine ZI (z := ?_) | refine YC (z := ?_) | refine YD (z := ?_))
  refine AWP.cond_dec rfl (fun h4 => AWP.skip ?_) (fun h4 => ?_)
  · have e4 : op = 4 := h4
    repeat (first | refine nl ?_ | refine AWP.seq ?_ | refine rg ?_ | refine AWP.skip ?_ | refine AWP.block ?_ | refine YH (z := ?_) | refine YI (z := ?_) | refine ZA (z := ?_) | refine ZB (z := ?_) | refine ZC (z := ?_) | refine ZD (z := ?_) | refine ZF (z := ?_) | refine ZJ (z := ?_) | refine ZK (z := ?_) | refine ZO (z := ?_) | refine ZQ (z := ?_) | refine ZR (z := ?_) | refine YA (z := ?_) | refine ZG (z := ?_) | refine ZI (z := ?_) | refine YC (z := ?_) | refine YD (z := ?_))
    refine AWP.draw rfl 5 5 (fun _ _ => False) rfl ?_
    repeat (first | refine ds rfl rfl ?_ | refine dp (h := fun _ _ => ZD (z := nz)) (z := ?_) | refine dp (h := fun _ _ => ZF (z := nz)) (z := ?_) | refine dp (h := fun _ _ => ZC (z := nz)) (z := ?_) | refine dp (h := fun _ _ => ZJ (z := nz)) (z := ?_) | refine dp (h := fun _ _ => ZK (z := nz)) (z := ?_) | refine dp (h := fun _ _ => ZQ (z := nz)) (z := ?_) | refine dp (h := fun _ _ => ZO (z := nz)) (z := ?_) | refine dp (h := fun _ _ => ZG (z := nz)) (z := ?_) | refine dp (h := fun _ _ => ZI (z := nz)) (z := ?_) | refine dp (h := fun _ _ => YC (z := nz)) (z := ?_) | refine dp (h := fun _ _ => YL (z := nz)) (z := ?_) | refine dp (h := fun _ _ => YM (z := nz)) (z := ?_))
    refine dn ⟨fun _ => ?_, fun h => absurd h (by decide)⟩
    repeat (first | refine ZA (z := ?_) | refine ZB (z := ?_) | refine ZC (z := ?_) | refine ZD (z := ?_) | refine ZF (z := ?_) | refine ZJ (z := ?_) | refine ZK (z := ?_) | refine ZO (z := ?_) | refine ZQ (z := ?_) | refine ZR (z := ?_) | refine YA (z := ?_) | refine ZG (z := ?_) | refine ZI (z := ?_) | refine YC (z := ?_) | refine YD (z := ?_))
    refine ixa (m := a.toNat) rfl rfl ea la rfl ?_
    refine so1 rfl rfl rfl rfl rfl (by rw [ef_len' h]; simp only [AV.cells, List.length_singleton]; omega) (ef_put h (by omega) la _) ?_
    repeat (first | refine nl ?_ | refine AWP.seq ?_ | refine rg ?_ | refine AWP.skip ?_ | refine AWP.block ?_ | refine YH (z := ?_) | refine YI (z := ?_) | refine ZA (z := ?_) | refine ZB (z := ?_) | refine ZC (z := ?_) | refine ZD (z := ?_) | refine ZF (z := ?_) | refine ZJ (z := ?_) | refine ZK (z := ?_) | refine ZO (z := ?_) | refine ZQ (z := ?_) | refine ZR (z := ?_) | refine YA (z := ?_) | refine ZG (z := ?_) | refine ZI (z := ?_) | refine YC (z := ?_) | refine YD (z := ?_))
    refine lcW rfl rfl rfl (St.obj_set _ _ _) rfl (by rw [ef_len' (set_len h _ _)]; rfl) ?_
    refine soU rfl hne rfl rfl rfl (by rw [ef_len' (set_len h _ _)]; rfl) (by rw [ef_len' (set_len h _ _)]; rfl) ?_
    repeat (first | refine nl ?_ | refine AWP.seq ?_ | refine rg ?_ | refine AWP.skip ?_ | refine AWP.block ?_ | refine YH (z := ?_) | refine YI (z := ?_) | refine ZA (z := ?_) | refine ZB (z := ?_) | refine ZC (z := ?_) | refine ZD (z := ?_) | refine ZF (z := ?_) | refine ZJ (z := ?_) | refine ZK (z := ?_) | refine ZO (z := ?_) | refine ZQ (z := ?_) | refine ZR (z := ?_) | refine YA (z := ?_) | refine ZG (z := ?_) | refine ZI (z := ?_) | refine YC (z := ?_) | refine YD (z := ?_))
    exact AWP.ret (rets (resCW rfl (St.obj_under hne _ _) rfl rfl (by rw [ef_len' (set_len h _ _)]; rfl) rfl) (.refl _) (St.new2 h6 h10) ⟨fin (by unfold exec; rw [if_neg hno]; simp only [if_neg n1, if_neg n3, if_pos (show op = 4 ∨ op = 19 by omega)] <;> rfl), rfl⟩)
  have n4 : ¬ op = 4 := h4
  repeat (first | refine nl ?_ | refine AWP.seq ?_ | refine rg ?_ | refine AWP.skip ?_ | refine AWP.block ?_ | refine YH (z := ?_) | refine YI (z := ?_) | refine ZA (z := ?_) | refine ZB (z := ?_) | refine ZC (z := ?_) | refine ZD (z := ?_) | refine ZF (z := ?_) | refine ZJ (z := ?_) | refine ZK (z := ?_) | refine ZO (z := ?_) | refine ZQ (z := ?_) | refine ZR (z := ?_) | refine YA (z := ?_) | refine ZG (z := ?_) | refine ZI (z := ?_) | refine YC (z := ?_) | refine YD (z := ?_))
  refine AWP.cond_dec rfl (fun h19 => ?_) (fun h19 => ?_)
  · have e19 : op = 19 := h19
    repeat (first | refine nl ?_ | refine AWP.seq ?_ | refine rg ?_ | refine AWP.skip ?_ | refine AWP.block ?_ | refine YH (z := ?_) | refine YI (z := ?_) | refine ZA (z := ?_) | refine ZB (z := ?_) | refine ZC (z := ?_) | refine ZD (z := ?_) | refine ZF (z := ?_) | refine ZJ (z := ?_) | refine ZK (z := ?_) | refine ZO (z := ?_) | refine ZQ (z := ?_) | refine ZR (z := ?_) | refine YA (z := ?_) | refine ZG (z := ?_) | refine ZI (z := ?_) | refine YC (z := ?_) | refine YD (z := ?_))
    refine AWP.draw rfl 5 5 (fun _ _ => False) rfl ?_
    repeat (first | refine ds rfl rfl ?_ | refine dp (h := fun _ _ => ZD (z := nz)) (z := ?_) | refine dp (h := fun _ _ => ZF (z := nz)) (z := ?_) | refine dp (h := fun _ _ => ZC (z := nz)) (z := ?_) | refine dp (h := fun _ _ => ZJ (z := nz)) (z := ?_) | refine dp (h := fun _ _ => ZK (z := nz)) (z := ?_) | refine dp (h := fun _ _ => ZQ (z := nz)) (z := ?_) | refine dp (h := fun _ _ => ZO (z := nz)) (z := ?_) | refine dp (h := fun _ _ => ZG (z := nz)) (z := ?_) | refine dp (h := fun _ _ => ZI (z := nz)) (z := ?_) | refine dp (h := fun _ _ => YC (z := nz)) (z := ?_) | refine dp (h := fun _ _ => YL (z := nz)) (z := ?_) | refine dp (h := fun _ _ => YM (z := nz)) (z := ?_))
    refine dn ⟨fun _ => ?_, fun h => absurd h (by decide)⟩
    repeat (first | refine ZA (z := ?_) | refine ZB (z := ?_) | refine ZC (z := ?_) | refine ZD (z := ?_) | refine ZF (z := ?_) | refine ZJ (z := ?_) | refine ZK (z := ?_) | refine ZO (z := ?_) | refine ZQ (z := ?_) | refine ZR (z := ?_) | refine YA (z := ?_) | refine ZG (z := ?_) | refine ZI (z := ?_) | refine YC (z := ?_) | refine YD (z := ?_))
    refine ixa (m := a.toNat) rfl rfl ea la rfl ?_
    refine so1 rfl rfl rfl rfl rfl (by rw [ef_len' h]; simp only [AV.cells, List.length_singleton]; omega) (ef_put h (by omega) la _) ?_
    repeat (first | refine nl ?_ | refine AWP.seq ?_ | refine rg ?_ | refine AWP.skip ?_ | refine AWP.block ?_ | refine YH (z := ?_) | refine YI (z := ?_) | refine ZA (z := ?_) | refine ZB (z := ?_) | refine ZC (z := ?_) | refine ZD (z := ?_) | refine ZF (z := ?_) | refine ZJ (z := ?_) | refine ZK (z := ?_) | refine ZO (z := ?_) | refine ZQ (z := ?_) | refine ZR (z := ?_) | refine YA (z := ?_) | refine ZG (z := ?_) | refine ZI (z := ?_) | refine YC (z := ?_) | refine YD (z := ?_))
    refine lcW rfl rfl rfl (St.obj_set _ _ _) rfl (by rw [ef_len' (set_len h _ _)]; rfl) ?_
    refine soU rfl hne rfl rfl rfl (by rw [ef_len' (set_len h _ _)]; rfl) (by rw [ef_len' (set_len h _ _)]; rfl) ?_
    repeat (first | refine nl ?_ | refine AWP.seq ?_ | refine rg ?_ | refine AWP.skip ?_ | refine AWP.block ?_ | refine YH (z := ?_) | refine YI (z := ?_) | refine ZA (z := ?_) | refine ZB (z := ?_) | refine ZC (z := ?_) | refine ZD (z := ?_) | refine ZF (z := ?_) | refine ZJ (z := ?_) | refine ZK (z := ?_) | refine ZO (z := ?_) | refine ZQ (z := ?_) | refine ZR (z := ?_) | refine YA (z := ?_) | refine ZG (z := ?_) | refine ZI (z := ?_) | refine YC (z := ?_) | refine YD (z := ?_))
    exact AWP.ret (rets (resCW rfl (St.obj_under hne _ _) rfl rfl (by rw [ef_len' (set_len h _ _)]; rfl) rfl) (.refl _) (St.new2 h6 h10) ⟨fin (by unfold exec; rw [if_neg hno]; simp only [if_neg n1, if_neg n3, if_pos (show op = 4 ∨ op = 19 by omega)] <;> rfl), rfl⟩)
  have n19 : ¬ op = 19 := h19
  have n4' : ¬ (op = 4 ∨ op = 19) := by omega
  repeat (first | refine nl ?_ | refine AWP.seq ?_ | refine rg ?_ | refine AWP.skip ?_ | refine AWP.block ?_ | refine YH (z := ?_) | refine YI (z := ?_) | refine ZA (z := ?_) | refine ZB (z := ?_) | refine ZC (z := ?_) | refine ZD (z := ?_) | refine ZF (z := ?_) | refine ZJ (z := ?_) | refine ZK (z := ?_) | refine ZO (z := ?_) | refine ZQ (z := ?_) | refine ZR (z := ?_) | refine YA (z := ?_) | refine ZG (z := ?_) | refine ZI (z := ?_) | refine YC (z := ?_) | refine YD (z := ?_))
  refine AWP.cond_dec rfl (fun h5 => ?_) (fun h5 => ?_)
  · have e5 : op = 5 := h5
    repeat (first | refine nl ?_ | refine AWP.seq ?_ | refine AWP.skip ?_ | refine AWP.block ?_)
    refine AWP.draw rfl 9 9 (fun _ _ => False) rfl ?_
    repeat (first | refine ds rfl rfl ?_ | refine dp (h := fun _ _ => ZD (z := nz)) (z := ?_) | refine dp (h := fun _ _ => ZF (z := nz)) (z := ?_) | refine dp (h := fun _ _ => ZC (z := nz)) (z := ?_) | refine dp (h := fun _ _ => ZJ (z := nz)) (z := ?_) | refine dp (h := fun _ _ => ZK (z := nz)) (z := ?_) | refine dp (h := fun _ _ => ZQ (z := nz)) (z := ?_) | refine dp (h := fun _ _ => ZO (z := nz)) (z := ?_) | refine dp (h := fun _ _ => ZG (z := nz)) (z := ?_) | refine dp (h := fun _ _ => ZI (z := nz)) (z := ?_) | refine dp (h := fun _ _ => YC (z := nz)) (z := ?_) | refine dp (h := fun _ _ => YL (z := nz)) (z := ?_) | refine dp (h := fun _ _ => YM (z := nz)) (z := ?_))
    refine dq rfl rfl rfl (fun st1 hle => ixa (m := b.toNat) rfl rfl eb lb rfl (nl ⟨_, rfl, rfl, rfl⟩)) ?_
    repeat (first | refine ds rfl rfl ?_ | refine dp (h := fun _ _ => ZD (z := nz)) (z := ?_) | refine dp (h := fun _ _ => ZF (z := nz)) (z := ?_) | refine dp (h := fun _ _ => ZC (z := nz)) (z := ?_) | refine dp (h := fun _ _ => ZJ (z := nz)) (z := ?_) | refine dp (h := fun _ _ => ZK (z := nz)) (z := ?_) | refine dp (h := fun _ _ => ZQ (z := nz)) (z := ?_) | refine dp (h := fun _ _ => ZO (z := nz)) (z := ?_) | refine dp (h := fun _ _ => ZG (z := nz)) (z := ?_) | refine dp (h := fun _ _ => ZI (z := nz)) (z := ?_) | refine dp (h := fun _ _ => YC (z := nz)) (z := ?_) | refine dp (h := fun _ _ => YL (z := nz)) (z := ?_) | refine dp (h := fun _ _ => YM (z := nz)) (z := ?_))
    refine dn ⟨fun _ => ?_, fun h => absurd h (by decide)⟩
    repeat (first | refine ZA (z := ?_) | refine ZB (z := ?_) | refine ZC (z := ?_) | refine ZD (z := ?_) | refine ZF (z := ?_) | refine ZJ (z := ?_) | refine ZK (z := ?_) | refine ZO (z := ?_) | refine ZQ (z := ?_) | refine ZR (z := ?_) | refine YA (z := ?_) | refine ZG (z := ?_) | refine ZI (z := ?_) | refine YC (z := ?_) | refine YD (z := ?_))
    refine ixa (m := a.toNat) rfl rfl ea la rfl ?_
    refine so1 rfl rfl rfl rfl rfl (by rw [ef_len' h]; simp only [AV.cells, List.length_singleton]; omega) (ef_put h (by omega) la _) ?_
    repeat (first | refine nl ?_ | refine AWP.seq ?_ | refine rg ?_ | refine AWP.skip ?_ | refine AWP.block ?_ | refine YH (z := ?_) | refine YI (z := ?_) | refine ZA (z := ?_) | refine ZB (z := ?_) | refine ZC (z := ?_) | refine ZD (z := ?_) | refine ZF (z := ?_) | refine ZJ (z := ?_) | refine ZK (z := ?_) | refine ZO (z := ?_) | refine ZQ (z := ?_) | refine ZR (z := ?_) | refine YA (z := ?_) | refine ZG (z := ?_) | refine ZI (z := ?_) | refine YC (z := ?_) | refine YD (z := ?_))
    refine lcW rfl rfl rfl (St.obj_set _ _ _) rfl (by rw [ef_len' (set_len h _ _)]; rfl) ?_
    refine soU rfl hne rfl rfl rfl (by rw [ef_len' (set_len h _ _)]; rfl) (by rw [ef_len' (set_len h _ _)]; rfl) ?_
    repeat (first | refine nl ?_ | refine AWP.seq ?_ | refine rg ?_ | refine AWP.skip ?_ | refine AWP.block ?_ | refine YH (z := ?_) | refine YI (z := ?_) | refine ZA (z := ?_) | refine ZB (z := ?_) | refine ZC (z := ?_) | refine ZD (z := ?_) | refine ZF (z := ?_) | refine ZJ (z := ?_) | refine ZK (z := ?_) | refine ZO (z := ?_) | refine ZQ (z := ?_) | refine ZR (z := ?_) | refine YA (z := ?_) | refine ZG (z := ?_) | refine ZI (z := ?_) | refine YC (z := ?_) | refine YD (z := ?_))
    exact AWP.ret (rets (resCW rfl (St.obj_under hne _ _) rfl rfl (by rw [ef_len' (set_len h _ _)]; rfl) rfl) (.refl _) (St.new2 h6 h10) ⟨fin (by unfold exec; rw [if_neg hno]; simp only [if_neg n1, if_neg n3, if_neg n4', if_pos e5, ← eb] <;> rfl), rfl⟩)
  have n5 : ¬ op = 5 := h5
  repeat (first | refine nl ?_ | refine AWP.seq ?_ | refine rg ?_ | refine AWP.skip ?_ | refine AWP.block ?_ | refine YH (z := ?_) | refine YI (z := ?_) | refine ZA (z := ?_) | refine ZB (z := ?_) | refine ZC (z := ?_) | refine ZD (z := ?_) | refine ZF (z := ?_) | refine ZJ (z := ?_) | refine ZK (z := ?_) | refine ZO (z := ?_) | refine ZQ (z := ?_) | refine ZR (z := ?_) | refine YA (z := ?_) | refine ZG (z := ?_) | refine ZI (z := ?_) | refine YC (z := ?_) | refine YD (z := ?_))
  refine AWP.cond_dec rfl (fun h18 => ?_) (fun h18 => ?_)
  · have e18 : op = 18 := h18
    repeat (first | refine nl ?_ | refine AWP.seq ?_ | refine AWP.skip ?_ | refine AWP.block ?_)
    refine AWP.draw rfl 12 12 (fun _ _ => False) rfl ?_
    repeat (first | refine ds rfl rfl ?_ | refine dp (h := fun _ _ => ZD (z := nz)) (z := ?_) | refine dp (h := fun _ _ => ZF (z := nz)) (z := ?_) | refine dp (h := fun _ _ => ZC (z := nz)) (z := ?_) | refine dp (h := fun _ _ => ZJ (z := nz)) (z := ?_) | refine dp (h := fun _ _ => ZK (z := nz)) (z := ?_) | refine dp (h := fun _ _ => ZQ (z := nz)) (z := ?_) | refine dp (h := fun _ _ => ZO (z := nz)) (z := ?_) | refine dp (h := fun _ _ => ZG (z := nz)) (z := ?_) | refine dp (h := fun _ _ => ZI (z := nz)) (z := ?_) | refine dp (h := fun _ _ => YC (z := nz)) (z := ?_) | refine dp (h := fun _ _ => YL (z := nz)) (z := ?_) | refine dp (h := fun _ _ => YM (z := nz)) (z := ?_))
    refine dq rfl rfl rfl (fun st1 hle => ixa (m := b.toNat) rfl rfl eb lb rfl (nl ⟨_, rfl, rfl, rfl⟩)) ?_
    repeat (first | refine ds rfl rfl ?_ | refine dp (h := fun _ _ => ZD (z := nz)) (z := ?_) | refine dp (h := fun _ _ => ZF (z := nz)) (z := ?_) | refine dp (h := fun _ _ => ZC (z := nz)) (z := ?_) | refine dp (h := fun _ _ => ZJ (z := nz)) (z := ?_) | refine dp (h := fun _ _ => ZK (z := nz)) (z := ?_) | refine dp (h := fun _ _ => ZQ (z := nz)) (z := ?_) | refine dp (h := fun _ _ => ZO (z := nz)) (z := ?_) | refine dp (h := fun _ _ => ZG (z := nz)) (z := ?_) | refine dp (h := fun _ _ => ZI (z := nz)) (z := ?_) | refine dp (h := fun _ _ => YC (z := nz)) (z := ?_) | refine dp (h := fun _ _ => YL (z := nz)) (z := ?_) | refine dp (h := fun _ _ => YM (z := nz)) (z := ?_))
    refine dn ⟨fun _ => ?_, fun h => absurd h (by decide)⟩
    repeat (first | refine ZA (z := ?_) | refine ZB (z := ?_) | refine ZC (z := ?_) | refine ZD (z := ?_) | refine ZF (z := ?_) | refine ZJ (z := ?_) | refine ZK (z := ?_) | refine ZO (z := ?_) | refine ZQ (z := ?_) | refine ZR (z := ?_) | refine YA (z := ?_) | refine ZG (z := ?_) | refine ZI (z := ?_) | refine YC (z := ?_) | refine YD (z := ?_))
    refine ixa (m := a.toNat) rfl rfl ea la rfl ?_
    refine so1 rfl rfl rfl rfl rfl (by rw [ef_len' h]; simp only [AV.cells, List.length_singleton]; omega) (ef_put h (by omega) la _) ?_
    repeat (first | refine nl ?_ | refine AWP.seq ?_ | refine rg ?_ | refine AWP.skip ?_ | refine AWP.block ?_ | refine YH (z := ?_) | refine YI (z := ?_) | refine ZA (z := ?_) | refine ZB (z := ?_) | refine ZC (z := ?_) | refine ZD (z := ?_) | refine ZF (z := ?_) | refine ZJ (z := ?_) | refine ZK (z := ?_) | refine ZO (z := ?_) | refine ZQ (z := ?_) | refine ZR (z := ?_) | refine YA (z := ?_) | refine ZG (z := ?_) | refine ZI (z := ?_) | refine YC (z := ?_) | refine YD (z := ?_))
    refine lcW rfl rfl rfl (St.obj_set _ _ _) rfl (by rw [ef_len' (set_len h _ _)]; rfl) ?_
    refine soU rfl hne rfl rfl rfl (by rw [ef_len' (set_len h _ _)]; rfl) (by rw [ef_len' (set_len h _ _)]; rfl) ?_
    repeat (first | refine nl ?_ | refine AWP.seq ?_ | refine rg ?_ | refine AWP.skip ?_ | refine AWP.block ?_ | refine YH (z := ?_) | refine YI (z := ?_) | refine ZA (z := ?_) | refine ZB (z := ?_) | refine ZC (z := ?_) | refine ZD (z := ?_) | refine ZF (z := ?_) | refine ZJ (z := ?_) | refine ZK (z := ?_) | refine ZO (z := ?_) | refine ZQ (z := ?_) | refine ZR (z := ?_) | refine YA (z := ?_) | refine ZG (z := ?_) | refine ZI (z := ?_) | refine YC (z := ?_) | refine YD (z := ?_))
    exact AWP.ret (rets (resCW rfl (St.obj_under hne _ _) rfl rfl (by rw [ef_len' (set_len h _ _)]; rfl) rfl) (.refl _) (St.new2 h6 h10) ⟨fin (by unfold exec; rw [if_neg hno]; simp only [if_neg n1, if_neg n3, if_neg n4', if_neg n5, if_pos e18] <;> rfl), rfl⟩)
  have n18 : ¬ op = 18 := h18
  repeat (first | refine nl ?_ | refine AWP.seq ?_ | refine rg ?_ | refine AWP.skip ?_ | refine AWP.block ?_ | refine YH (z := ?_) | refine YI (z := ?_) | refine ZA (z := ?_) | refine ZB (z := ?_) | refine ZC (z := ?_) | refine ZD (z := ?_) | refine ZF (z := ?_) | refine ZJ (z := ?_) | refine ZK (z := ?_) | refine ZO (z := ?_) | refine ZQ (z := ?_) | refine ZR (z := ?_) | refine YA (z := ?_) | refine ZG (z := ?_) | refine ZI (z := ?_) | refine YC (z := ?_) | refine YD (z := ?_))
  refine AWP.cond_dec rfl (fun h20 => ?_) (fun h20 => ?_)
  · have e20 : op = 20 := h20
    repeat (first | refine nl ?_ | refine AWP.seq ?_ | refine AWP.skip ?_ | refine AWP.block ?_)
    refine AWP.drawX rfl 17 [14, 16] [(st.set o6 (.cells 40 22 [efRow zEf])).set o10 (.cells 40 22 [efRow ⟨⟨r, add64 pc 1⟩, false, 0, 0, false, 0⟩]), (st.set o6 (.cells 40 22 [efRow zEf])).set o10 (.cells 40 22 [efRow ⟨⟨r, add64 pc 1⟩, true, 0, 0, false, 0⟩]), (st.set o6 (.cells 40 22 [efRow zEf])).set o10 (.cells 40 22 [efRow ⟨⟨r, add64 pc 1⟩, true, add64 (Cp.get ⟨r, pc⟩ b) imm, 0, false, 0⟩])] (st.set o6 (.cells 40 22 [efRow zEf])) rfl rfl (StLe.new h10 (.refl _)) ?_
    repeat (first | refine dpS (h := fun _ _ => ZD (z := nz)) (z := ?_) | refine dpS (h := fun _ _ => ZF (z := nz)) (z := ?_) | refine dpS (h := fun _ _ => ZC (z := nz)) (z := ?_) | refine dpS (h := fun _ _ => ZJ (z := nz)) (z := ?_) | refine dpS (h := fun _ _ => ZK (z := nz)) (z := ?_) | refine dpS (h := fun _ _ => ZQ (z := nz)) (z := ?_) | refine dpS (h := fun _ _ => ZO (z := nz)) (z := ?_) | refine dpS (h := fun _ _ => ZG (z := nz)) (z := ?_) | refine dpS (h := fun _ _ => ZI (z := nz)) (z := ?_) | refine dpS (h := fun _ _ => YC (z := nz)) (z := ?_) | refine dpS (h := fun _ _ => YL (z := nz)) (z := ?_) | refine dpS (h := fun _ _ => YM (z := nz)) (z := ?_))
    refine dqS rfl rfl rfl (fun st1 hle => ixa (m := b.toNat) rfl rfl eb lb rfl (nl ⟨_, rfl, rfl, rfl⟩)) ?_
    repeat (first | refine dpS (h := fun _ _ => ZD (z := nz)) (z := ?_) | refine dpS (h := fun _ _ => ZF (z := nz)) (z := ?_) | refine dpS (h := fun _ _ => ZC (z := nz)) (z := ?_) | refine dpS (h := fun _ _ => ZJ (z := nz)) (z := ?_) | refine dpS (h := fun _ _ => ZK (z := nz)) (z := ?_) | refine dpS (h := fun _ _ => ZQ (z := nz)) (z := ?_) | refine dpS (h := fun _ _ => ZO (z := nz)) (z := ?_) | refine dpS (h := fun _ _ => ZG (z := nz)) (z := ?_) | refine dpS (h := fun _ _ => ZI (z := nz)) (z := ?_) | refine dpS (h := fun _ _ => YC (z := nz)) (z := ?_) | refine dpS (h := fun _ _ => YL (z := nz)) (z := ?_) | refine dpS (h := fun _ _ => YM (z := nz)) (z := ?_))
    refine dqS rfl rfl rfl (fun st1 hle => ixa (m := a.toNat) rfl rfl ea la rfl (nl ⟨_, rfl, rfl, rfl⟩)) ?_
    repeat (first | refine dpS (h := fun _ _ => ZD (z := nz)) (z := ?_) | refine dpS (h := fun _ _ => ZF (z := nz)) (z := ?_) | refine dpS (h := fun _ _ => ZC (z := nz)) (z := ?_) | refine dpS (h := fun _ _ => ZJ (z := nz)) (z := ?_) | refine dpS (h := fun _ _ => ZK (z := nz)) (z := ?_) | refine dpS (h := fun _ _ => ZQ (z := nz)) (z := ?_) | refine dpS (h := fun _ _ => ZO (z := nz)) (z := ?_) | refine dpS (h := fun _ _ => ZG (z := nz)) (z := ?_) | refine dpS (h := fun _ _ => ZI (z := nz)) (z := ?_) | refine dpS (h := fun _ _ => YC (z := nz)) (z := ?_) | refine dpS (h := fun _ _ => YL (z := nz)) (z := ?_) | refine dpS (h := fun _ _ => YM (z := nz)) (z := ?_))
    refine deS rfl rfl rfl (StLe.new h10 (.refl _)) rfl rfl (so1 rfl rfl rfl rfl rfl (by rw [ef_len' h]; exact Nat.le_of_ble_eq_true rfl) (ef_stores h _) (nl ⟨rfl, rfl⟩)) ?_
    repeat (first | refine dpS (h := fun _ _ => ZD (z := nz)) (z := ?_) | refine dpS (h := fun _ _ => ZF (z := nz)) (z := ?_) | refine dpS (h := fun _ _ => ZC (z := nz)) (z := ?_) | refine dpS (h := fun _ _ => ZJ (z := nz)) (z := ?_) | refine dpS (h := fun _ _ => ZK (z := nz)) (z := ?_) | refine dpS (h := fun _ _ => ZQ (z := nz)) (z := ?_) | refine dpS (h := fun _ _ => ZO (z := nz)) (z := ?_) | refine dpS (h := fun _ _ => ZG (z := nz)) (z := ?_) | refine dpS (h := fun _ _ => ZI (z := nz)) (z := ?_) | refine dpS (h := fun _ _ => YC (z := nz)) (z := ?_) | refine dpS (h := fun _ _ => YL (z := nz)) (z := ?_) | refine dpS (h := fun _ _ => YM (z := nz)) (z := ?_))
    refine deS rfl rfl rfl (StLe.new h10 (.refl _)) rfl rfl (so1 rfl rfl rfl rfl rfl (by rw [ef_len' h]; exact Nat.le_of_ble_eq_true rfl) (ef_addr h _) (nl ⟨rfl, rfl⟩)) ?_
    refine dnS rfl ?_
    repeat (first | refine ZA (z := ?_) | refine ZB (z := ?_) | refine ZC (z := ?_) | refine ZD (z := ?_) | refine ZF (z := ?_) | refine ZJ (z := ?_) | refine ZK (z := ?_) | refine ZO (z := ?_) | refine ZQ (z := ?_) | refine ZR (z := ?_) | refine YA (z := ?_) | refine ZG (z := ?_) | refine ZI (z := ?_) | refine YC (z := ?_) | refine YD (z := ?_))
    refine so1 rfl rfl rfl rfl rfl (by rw [ef_len' h]; simp only [AV.cells, List.length_singleton]; omega) (ef_word h _) ?_
    repeat (first | refine nl ?_ | refine AWP.seq ?_ | refine rg ?_ | refine AWP.skip ?_ | refine AWP.block ?_ | refine YH (z := ?_) | refine YI (z := ?_) | refine ZA (z := ?_) | refine ZB (z := ?_) | refine ZC (z := ?_) | refine ZD (z := ?_) | refine ZF (z := ?_) | refine ZJ (z := ?_) | refine ZK (z := ?_) | refine ZO (z := ?_) | refine ZQ (z := ?_) | refine ZR (z := ?_) | refine YA (z := ?_) | refine ZG (z := ?_) | refine ZI (z := ?_) | refine YC (z := ?_) | refine YD (z := ?_))
    refine lcW rfl rfl rfl (St.obj_set _ _ _) rfl (by rw [ef_len' h]; rfl) ?_
    refine soU rfl hne rfl rfl rfl (by rw [ef_len' h]; rfl) (by rw [ef_len' h]; rfl) ?_
    repeat (first | refine nl ?_ | refine AWP.seq ?_ | refine rg ?_ | refine AWP.skip ?_ | refine AWP.block ?_ | refine YH (z := ?_) | refine YI (z := ?_) | refine ZA (z := ?_) | refine ZB (z := ?_) | refine ZC (z := ?_) | refine ZD (z := ?_) | refine ZF (z := ?_) | refine ZJ (z := ?_) | refine ZK (z := ?_) | refine ZO (z := ?_) | refine ZQ (z := ?_) | refine ZR (z := ?_) | refine YA (z := ?_) | refine ZG (z := ?_) | refine ZI (z := ?_) | refine YC (z := ?_) | refine YD (z := ?_))
    exact AWP.ret (rets (resCW rfl (St.obj_under hne _ _) rfl rfl (by rw [ef_len' h]; rfl) rfl) (.refl _) (St.new2 h6 h10) ⟨fin (by unfold exec; rw [if_neg hno]; simp only [if_neg n1, if_neg n3, if_neg n4', if_neg n5, if_neg n18, if_pos e20] <;> rfl), rfl⟩)
  have n20 : ¬ op = 20 := h20
  repeat (first | refine nl ?_ | refine AWP.seq ?_ | refine rg ?_ | refine AWP.skip ?_ | refine AWP.block ?_ | refine YH (z := ?_) | refine YI (z := ?_) | refine ZA (z := ?_) | refine ZB (z := ?_) | refine ZC (z := ?_) | refine ZD (z := ?_) | refine ZF (z := ?_) | refine ZJ (z := ?_) | refine ZK (z := ?_) | refine ZO (z := ?_) | refine ZQ (z := ?_) | refine ZR (z := ?_) | refine YA (z := ?_) | refine ZG (z := ?_) | refine ZI (z := ?_) | refine YC (z := ?_) | refine YD (z := ?_))
  refine AWP.cond_dec rfl (fun h21 => ?_) (fun h21 => ?_)
  · have e21 : op = 21 := h21
    repeat (first | refine nl ?_ | refine AWP.seq ?_ | refine rg ?_ | refine AWP.skip ?_ | refine AWP.block ?_ | refine YH (z := ?_) | refine YI (z := ?_) | refine ZA (z := ?_) | refine ZB (z := ?_) | refine ZC (z := ?_) | refine ZD (z := ?_) | refine ZF (z := ?_) | refine ZJ (z := ?_) | refine ZK (z := ?_) | refine ZO (z := ?_) | refine ZQ (z := ?_) | refine ZR (z := ?_) | refine YA (z := ?_) | refine ZG (z := ?_) | refine ZI (z := ?_) | refine YC (z := ?_) | refine YD (z := ?_))
    refine so1 rfl rfl rfl rfl rfl (by rw [ef_len' h]; simp only [AV.cells, List.length_singleton]; omega) (ef_pc h _) ?_
    repeat (first | refine nl ?_ | refine AWP.seq ?_ | refine rg ?_ | refine AWP.skip ?_ | refine AWP.block ?_ | refine YH (z := ?_) | refine YI (z := ?_) | refine ZA (z := ?_) | refine ZB (z := ?_) | refine ZC (z := ?_) | refine ZD (z := ?_) | refine ZF (z := ?_) | refine ZJ (z := ?_) | refine ZK (z := ?_) | refine ZO (z := ?_) | refine ZQ (z := ?_) | refine ZR (z := ?_) | refine YA (z := ?_) | refine ZG (z := ?_) | refine ZI (z := ?_) | refine YC (z := ?_) | refine YD (z := ?_))
    refine lcW rfl rfl rfl (St.obj_set _ _ _) rfl (by rw [ef_len' h]; rfl) ?_
    refine soU rfl hne rfl rfl rfl (by rw [ef_len' h]; rfl) (by rw [ef_len' h]; rfl) ?_
    repeat (first | refine nl ?_ | refine AWP.seq ?_ | refine rg ?_ | refine AWP.skip ?_ | refine AWP.block ?_ | refine YH (z := ?_) | refine YI (z := ?_) | refine ZA (z := ?_) | refine ZB (z := ?_) | refine ZC (z := ?_) | refine ZD (z := ?_) | refine ZF (z := ?_) | refine ZJ (z := ?_) | refine ZK (z := ?_) | refine ZO (z := ?_) | refine ZQ (z := ?_) | refine ZR (z := ?_) | refine YA (z := ?_) | refine ZG (z := ?_) | refine ZI (z := ?_) | refine YC (z := ?_) | refine YD (z := ?_))
    exact AWP.ret (rets (resCW rfl (St.obj_under hne _ _) rfl rfl (by rw [ef_len' h]; rfl) rfl) (.refl _) (St.new2 h6 h10) ⟨fin (by unfold exec; rw [if_neg hno]; simp only [if_neg n1, if_neg n3, if_neg n4', if_neg n5, if_neg n18, if_neg n20, if_pos e21] <;> rfl), rfl⟩)
  have n21 : ¬ op = 21 := h21
  repeat (first | refine nl ?_ | refine AWP.seq ?_ | refine rg ?_ | refine AWP.skip ?_ | refine AWP.block ?_ | refine YH (z := ?_) | refine YI (z := ?_) | refine ZA (z := ?_) | refine ZB (z := ?_) | refine ZC (z := ?_) | refine ZD (z := ?_) | refine ZF (z := ?_) | refine ZJ (z := ?_) | refine ZK (z := ?_) | refine ZO (z := ?_) | refine ZQ (z := ?_) | refine ZR (z := ?_) | refine YA (z := ?_) | refine ZG (z := ?_) | refine ZI (z := ?_) | refine YC (z := ?_) | refine YD (z := ?_))
  refine AWP.cond_dec rfl (fun h22 => ?_) (fun h22 => ?_)
  · have e22 : op = 22 := h22
    repeat (first | refine nl ?_ | refine AWP.seq ?_ | refine rg ?_ | refine AWP.skip ?_ | refine AWP.block ?_ | refine YH (z := ?_) | refine YI (z := ?_) | refine ZA (z := ?_) | refine ZB (z := ?_) | refine ZC (z := ?_) | refine ZD (z := ?_) | refine ZF (z := ?_) | refine ZJ (z := ?_) | refine ZK (z := ?_) | refine ZO (z := ?_) | refine ZQ (z := ?_) | refine ZR (z := ?_) | refine YA (z := ?_) | refine ZG (z := ?_) | refine ZI (z := ?_) | refine YC (z := ?_) | refine YD (z := ?_))
    refine ixa (m := a.toNat) rfl rfl ea la rfl ?_
    repeat (first | refine nl ?_ | refine AWP.seq ?_ | refine rg ?_ | refine AWP.skip ?_ | refine AWP.block ?_ | refine YH (z := ?_) | refine YI (z := ?_) | refine ZA (z := ?_) | refine ZB (z := ?_) | refine ZC (z := ?_) | refine ZD (z := ?_) | refine ZF (z := ?_) | refine ZJ (z := ?_) | refine ZK (z := ?_) | refine ZO (z := ?_) | refine ZQ (z := ?_) | refine ZR (z := ?_) | refine YA (z := ?_) | refine ZG (z := ?_) | refine ZI (z := ?_) | refine YC (z := ?_) | refine YD (z := ?_))
    refine AWP.cond_dec rfl (fun hz => ?_) (fun hz => AWP.skip ?_)
    · have hz' : Cp.get ⟨r, pc⟩ a = 0 := hz
      repeat (first | refine nl ?_ | refine AWP.seq ?_ | refine rg ?_ | refine AWP.skip ?_ | refine AWP.block ?_ | refine YH (z := ?_) | refine YI (z := ?_) | refine ZA (z := ?_) | refine ZB (z := ?_) | refine ZC (z := ?_) | refine ZD (z := ?_) | refine ZF (z := ?_) | refine ZJ (z := ?_) | refine ZK (z := ?_) | refine ZO (z := ?_) | refine ZQ (z := ?_) | refine ZR (z := ?_) | refine YA (z := ?_) | refine ZG (z := ?_) | refine ZI (z := ?_) | refine YC (z := ?_) | refine YD (z := ?_))
      refine so1 rfl rfl rfl rfl rfl (by rw [ef_len' h]; simp only [AV.cells, List.length_singleton]; omega) (ef_pc h _) ?_
      repeat (first | refine nl ?_ | refine AWP.seq ?_ | refine rg ?_ | refine AWP.skip ?_ | refine AWP.block ?_ | refine YH (z := ?_) | refine YI (z := ?_) | refine ZA (z := ?_) | refine ZB (z := ?_) | refine ZC (z := ?_) | refine ZD (z := ?_) | refine ZF (z := ?_) | refine ZJ (z := ?_) | refine ZK (z := ?_) | refine ZO (z := ?_) | refine ZQ (z := ?_) | refine ZR (z := ?_) | refine YA (z := ?_) | refine ZG (z := ?_) | refine ZI (z := ?_) | refine YC (z := ?_) | refine YD (z := ?_))
      refine lcW rfl rfl rfl (St.obj_set _ _ _) rfl (by rw [ef_len' h]; rfl) ?_
      refine soU rfl hne rfl rfl rfl (by rw [ef_len' h]; rfl) (by rw [ef_len' h]; rfl) ?_
      repeat (first | refine nl ?_ | refine AWP.seq ?_ | refine rg ?_ | refine AWP.skip ?_ | refine AWP.block ?_ | refine YH (z := ?_) | refine YI (z := ?_) | refine ZA (z := ?_) | refine ZB (z := ?_) | refine ZC (z := ?_) | refine ZD (z := ?_) | refine ZF (z := ?_) | refine ZJ (z := ?_) | refine ZK (z := ?_) | refine ZO (z := ?_) | refine ZQ (z := ?_) | refine ZR (z := ?_) | refine YA (z := ?_) | refine ZG (z := ?_) | refine ZI (z := ?_) | refine YC (z := ?_) | refine YD (z := ?_))
      exact AWP.ret (rets (resCW rfl (St.obj_under hne _ _) rfl rfl (by rw [ef_len' h]; rfl) rfl) (.refl _) (St.new2 h6 h10) ⟨fin (by unfold exec; rw [if_neg hno]; simp only [if_neg n1, if_neg n3, if_neg n4', if_neg n5, if_neg n18, if_neg n20, if_neg n21, if_pos e22, if_pos hz'] <;> rfl), rfl⟩)
    · have hz' : ¬ Cp.get ⟨r, pc⟩ a = 0 := hz
      repeat (first | refine nl ?_ | refine AWP.seq ?_ | refine rg ?_ | refine AWP.skip ?_ | refine AWP.block ?_ | refine YH (z := ?_) | refine YI (z := ?_) | refine ZA (z := ?_) | refine ZB (z := ?_) | refine ZC (z := ?_) | refine ZD (z := ?_) | refine ZF (z := ?_) | refine ZJ (z := ?_) | refine ZK (z := ?_) | refine ZO (z := ?_) | refine ZQ (z := ?_) | refine ZR (z := ?_) | refine YA (z := ?_) | refine ZG (z := ?_) | refine ZI (z := ?_) | refine YC (z := ?_) | refine YD (z := ?_))
      refine lcW rfl rfl rfl (St.obj_set _ _ _) rfl (by rw [ef_len' h]; rfl) ?_
      refine soU rfl hne rfl rfl rfl (by rw [ef_len' h]; rfl) (by rw [ef_len' h]; rfl) ?_
      repeat (first | refine nl ?_ | refine AWP.seq ?_ | refine rg ?_ | refine AWP.skip ?_ | refine AWP.block ?_ | refine YH (z := ?_) | refine YI (z := ?_) | refine ZA (z := ?_) | refine ZB (z := ?_) | refine ZC (z := ?_) | refine ZD (z := ?_) | refine ZF (z := ?_) | refine ZJ (z := ?_) | refine ZK (z := ?_) | refine ZO (z := ?_) | refine ZQ (z := ?_) | refine ZR (z := ?_) | refine YA (z := ?_) | refine ZG (z := ?_) | refine ZI (z := ?_) | refine YC (z := ?_) | refine YD (z := ?_))
      exact AWP.ret (rets (resCW rfl (St.obj_under hne _ _) rfl rfl (by rw [ef_len' h]; rfl) rfl) (.refl _) (St.new2 h6 h10) ⟨fin (by unfold exec; rw [if_neg hno]; simp only [if_neg n1, if_neg n3, if_neg n4', if_neg n5, if_neg n18, if_neg n20, if_neg n21, if_pos e22, if_neg hz'] <;> rfl), rfl⟩)
  have n22 : ¬ op = 22 := h22
  repeat (first | refine nl ?_ | refine AWP.seq ?_ | refine rg ?_ | refine AWP.skip ?_ | refine AWP.block ?_ | refine YH (z := ?_) | refine YI (z := ?_) | refine ZA (z := ?_) | refine ZB (z := ?_) | refine ZC (z := ?_) | refine ZD (z := ?_) | refine ZF (z := ?_) | refine ZJ (z := ?_) | refine ZK (z := ?_) | refine ZO (z := ?_) | refine ZQ (z := ?_) | refine ZR (z := ?_) | refine YA (z := ?_) | refine ZG (z := ?_) | refine ZI (z := ?_) | refine YC (z := ?_) | refine YD (z := ?_))
  refine AWP.cond_dec rfl (fun h23 => ?_) (fun h23 => ?_)
  · have e23 : op = 23 := h23
    have q14 : (efRow ⟨⟨r, add64 pc 1⟩, false, 0, 0, false, 0⟩)[0 + 0 + 0 + 14 * 1]? = some (.int .i64 (Cp.get ⟨r, pc⟩ 14)) := ef_at (x := ⟨⟨r, add64 pc 1⟩, false, 0, 0, false, 0⟩) (n := 14) h (by decide) (by decide)
    repeat (first | refine nl ?_ | refine AWP.seq ?_ | refine AWP.skip ?_ | refine AWP.block ?_)
    refine AWP.draw rfl 6 6 (fun _ _ => False) rfl ?_
    repeat (first | refine ds rfl rfl ?_ | refine dp (h := fun _ _ => ZD (z := nz)) (z := ?_) | refine dp (h := fun _ _ => ZF (z := nz)) (z := ?_) | refine dp (h := fun _ _ => ZC (z := nz)) (z := ?_) | refine dp (h := fun _ _ => ZJ (z := nz)) (z := ?_) | refine dp (h := fun _ _ => ZK (z := nz)) (z := ?_) | refine dp (h := fun _ _ => ZQ (z := nz)) (z := ?_) | refine dp (h := fun _ _ => ZO (z := nz)) (z := ?_) | refine dp (h := fun _ _ => ZG (z := nz)) (z := ?_) | refine dp (h := fun _ _ => ZI (z := nz)) (z := ?_) | refine dp (h := fun _ _ => YC (z := nz)) (z := ?_) | refine dp (h := fun _ _ => YL (z := nz)) (z := ?_) | refine dp (h := fun _ _ => YM (z := nz)) (z := ?_))
    refine dq rfl rfl rfl (fun st1 hle => ixa (m := 14) rfl rfl rfl (by decide) rfl (nl ⟨_, rfl, rfl, rfl⟩)) ?_
    repeat (first | refine ds rfl rfl ?_ | refine dp (h := fun _ _ => ZD (z := nz)) (z := ?_) | refine dp (h := fun _ _ => ZF (z := nz)) (z := ?_) | refine dp (h := fun _ _ => ZC (z := nz)) (z := ?_) | refine dp (h := fun _ _ => ZJ (z := nz)) (z := ?_) | refine dp (h := fun _ _ => ZK (z := nz)) (z := ?_) | refine dp (h := fun _ _ => ZQ (z := nz)) (z := ?_) | refine dp (h := fun _ _ => ZO (z := nz)) (z := ?_) | refine dp (h := fun _ _ => ZG (z := nz)) (z := ?_) | refine dp (h := fun _ _ => ZI (z := nz)) (z := ?_) | refine dp (h := fun _ _ => YC (z := nz)) (z := ?_) | refine dp (h := fun _ _ => YL (z := nz)) (z := ?_) | refine dp (h := fun _ _ => YM (z := nz)) (z := ?_))
    refine dn ⟨fun _ => ?_, fun h => absurd h (by decide)⟩
    repeat (first | refine ZA (z := ?_) | refine ZB (z := ?_) | refine ZC (z := ?_) | refine ZD (z := ?_) | refine ZF (z := ?_) | refine ZJ (z := ?_) | refine ZK (z := ?_) | refine ZO (z := ?_) | refine ZQ (z := ?_) | refine ZR (z := ?_) | refine YA (z := ?_) | refine ZG (z := ?_) | refine ZI (z := ?_) | refine YC (z := ?_) | refine YD (z := ?_))
    refine ixa (m := 14) rfl rfl rfl (by decide) rfl ?_
    refine so1 rfl rfl rfl rfl rfl (by rw [ef_len' h]; simp only [AV.cells, List.length_singleton]; omega) (ef_put h (n := 14) rfl (by decide) _) ?_
    have q14b : (efRow ⟨⟨r.set 14 (sub64 (Cp.get ⟨r, pc⟩ 14) 1), add64 pc 1⟩, false, 0, 0, false, 0⟩)[0 + 0 + 0 + 14 * 1]? = some (.int .i64 (sub64 (Cp.get ⟨r, pc⟩ 14) 1)) :=
      (ef_at (x := ⟨⟨r.set 14 (sub64 (Cp.get ⟨r, pc⟩ 14) 1), add64 pc 1⟩, false, 0, 0, false, 0⟩) (n := 14) (set_len h _ _) (by decide) (by decide)).trans (by simp [Cp.get, h])
    repeat (first | refine nl ?_ | refine AWP.seq ?_ | refine rg ?_ | refine AWP.skip ?_ | refine AWP.block ?_ | refine YH (z := ?_) | refine YI (z := ?_) | refine ZA (z := ?_) | refine ZB (z := ?_) | refine ZC (z := ?_) | refine ZD (z := ?_) | refine ZF (z := ?_) | refine ZJ (z := ?_) | refine ZK (z := ?_) | refine ZO (z := ?_) | refine ZQ (z := ?_) | refine ZR (z := ?_) | refine YA (z := ?_) | refine ZG (z := ?_) | refine ZI (z := ?_) | refine YC (z := ?_) | refine YD (z := ?_))
    refine ixa (m := 14) rfl rfl rfl (by decide) rfl ?_
    refine lcS rfl rfl rfl (St.obj_set _ _ _) rfl q14b ?_
    repeat (first | refine ZA (z := ?_) | refine ZB (z := ?_) | refine ZC (z := ?_) | refine ZD (z := ?_) | refine ZF (z := ?_) | refine ZJ (z := ?_) | refine ZK (z := ?_) | refine ZO (z := ?_) | refine ZQ (z := ?_) | refine ZR (z := ?_) | refine YA (z := ?_) | refine ZG (z := ?_) | refine ZI (z := ?_) | refine YC (z := ?_) | refine YD (z := ?_))
    refine so1 rfl rfl rfl rfl rfl (by rw [ef_len' (set_len h _ _)]; simp only [AV.cells, List.length_singleton]; omega) (ef_stores (set_len h _ _) _) ?_
    repeat (first | refine ZA (z := ?_) | refine ZB (z := ?_) | refine ZC (z := ?_) | refine ZD (z := ?_) | refine ZF (z := ?_) | refine ZJ (z := ?_) | refine ZK (z := ?_) | refine ZO (z := ?_) | refine ZQ (z := ?_) | refine ZR (z := ?_) | refine YA (z := ?_) | refine ZG (z := ?_) | refine ZI (z := ?_) | refine YC (z := ?_) | refine YD (z := ?_))
    refine so1 rfl rfl rfl rfl rfl (by rw [ef_len' (set_len h _ _)]; simp only [AV.cells, List.length_singleton]; omega) (ef_addr (set_len h _ _) _) ?_
    repeat (first | refine ZA (z := ?_) | refine ZB (z := ?_) | refine ZC (z := ?_) | refine ZD (z := ?_) | refine ZF (z := ?_) | refine ZJ (z := ?_) | refine ZK (z := ?_) | refine ZO (z := ?_) | refine ZQ (z := ?_) | refine ZR (z := ?_) | refine YA (z := ?_) | refine ZG (z := ?_) | refine ZI (z := ?_) | refine YC (z := ?_) | refine YD (z := ?_))
    refine so1 rfl rfl rfl rfl rfl (by rw [ef_len' (set_len h _ _)]; simp only [AV.cells, List.length_singleton]; omega) (ef_word (set_len h _ _) _) ?_
    repeat (first | refine nl ?_ | refine AWP.seq ?_ | refine rg ?_ | refine AWP.skip ?_ | refine AWP.block ?_ | refine YH (z := ?_) | refine YI (z := ?_) | refine ZA (z := ?_) | refine ZB (z := ?_) | refine ZC (z := ?_) | refine ZD (z := ?_) | refine ZF (z := ?_) | refine ZJ (z := ?_) | refine ZK (z := ?_) | refine ZO (z := ?_) | refine ZQ (z := ?_) | refine ZR (z := ?_) | refine YA (z := ?_) | refine ZG (z := ?_) | refine ZI (z := ?_) | refine YC (z := ?_) | refine YD (z := ?_))
    refine so1 rfl rfl rfl rfl rfl (by rw [ef_len' (set_len h _ _)]; simp only [AV.cells, List.length_singleton]; omega) (ef_pc (set_len h _ _) _) ?_
    repeat (first | refine nl ?_ | refine AWP.seq ?_ | refine rg ?_ | refine AWP.skip ?_ | refine AWP.block ?_ | refine YH (z := ?_) | refine YI (z := ?_) | refine ZA (z := ?_) | refine ZB (z := ?_) | refine ZC (z := ?_) | refine ZD (z := ?_) | refine ZF (z := ?_) | refine ZJ (z := ?_) | refine ZK (z := ?_) | refine ZO (z := ?_) | refine ZQ (z := ?_) | refine ZR (z := ?_) | refine YA (z := ?_) | refine ZG (z := ?_) | refine ZI (z := ?_) | refine YC (z := ?_) | refine YD (z := ?_))
    refine lcW rfl rfl rfl (St.obj_set _ _ _) rfl (by rw [ef_len' (set_len h _ _)]; rfl) ?_
    refine soU rfl hne rfl rfl rfl (by rw [ef_len' (set_len h _ _)]; rfl) (by rw [ef_len' (set_len h _ _)]; rfl) ?_
    repeat (first | refine nl ?_ | refine AWP.seq ?_ | refine rg ?_ | refine AWP.skip ?_ | refine AWP.block ?_ | refine YH (z := ?_) | refine YI (z := ?_) | refine ZA (z := ?_) | refine ZB (z := ?_) | refine ZC (z := ?_) | refine ZD (z := ?_) | refine ZF (z := ?_) | refine ZJ (z := ?_) | refine ZK (z := ?_) | refine ZO (z := ?_) | refine ZQ (z := ?_) | refine ZR (z := ?_) | refine YA (z := ?_) | refine ZG (z := ?_) | refine ZI (z := ?_) | refine YC (z := ?_) | refine YD (z := ?_))
    exact AWP.ret (rets (resCW rfl (St.obj_under hne _ _) rfl rfl (by rw [ef_len' (set_len h _ _)]; rfl) rfl) (.refl _) (St.new2 h6 h10) ⟨fin (by unfold exec; rw [if_neg hno]; simp only [if_neg n1, if_neg n3, if_neg n4', if_neg n5, if_neg n18, if_neg n20, if_neg n21, if_neg n22, if_pos e23] <;> rfl), rfl⟩)
  have n23 : ¬ op = 23 := h23
  repeat (first | refine nl ?_ | refine AWP.seq ?_ | refine rg ?_ | refine AWP.skip ?_ | refine AWP.block ?_ | refine YH (z := ?_) | refine YI (z := ?_) | refine ZA (z := ?_) | refine ZB (z := ?_) | refine ZC (z := ?_) | refine ZD (z := ?_) | refine ZF (z := ?_) | refine ZJ (z := ?_) | refine ZK (z := ?_) | refine ZO (z := ?_) | refine ZQ (z := ?_) | refine ZR (z := ?_) | refine YA (z := ?_) | refine ZG (z := ?_) | refine ZI (z := ?_) | refine YC (z := ?_) | refine YD (z := ?_))
  refine AWP.cond_dec rfl (fun h24 => ?_) (fun h24 => ?_)
  · have e24 : op = 24 := h24
    repeat (first | refine nl ?_ | refine AWP.seq ?_ | refine rg ?_ | refine AWP.skip ?_ | refine AWP.block ?_ | refine YH (z := ?_) | refine YI (z := ?_) | refine ZA (z := ?_) | refine ZB (z := ?_) | refine ZC (z := ?_) | refine ZD (z := ?_) | refine ZF (z := ?_) | refine ZJ (z := ?_) | refine ZK (z := ?_) | refine ZO (z := ?_) | refine ZQ (z := ?_) | refine ZR (z := ?_) | refine YA (z := ?_) | refine ZG (z := ?_) | refine ZI (z := ?_) | refine YC (z := ?_) | refine YD (z := ?_))
    refine so1 rfl rfl rfl rfl rfl (by rw [ef_len' h]; simp only [AV.cells, List.length_singleton]; omega) (ef_pc h _) ?_
    have q14 : (efRow ⟨⟨r, l⟩, false, 0, 0, false, 0⟩)[0 + 0 + 0 + 14 * 1]? = some (.int .i64 (Cp.get ⟨r, pc⟩ 14)) := ef_at (x := ⟨⟨r, l⟩, false, 0, 0, false, 0⟩) (n := 14) h (by decide) (by decide)
    repeat (first | refine nl ?_ | refine AWP.seq ?_ | refine AWP.skip ?_ | refine AWP.block ?_)
    refine AWP.draw rfl 6 6 (fun _ _ => False) rfl ?_
    repeat (first | refine ds rfl rfl ?_ | refine dp (h := fun _ _ => ZD (z := nz)) (z := ?_) | refine dp (h := fun _ _ => ZF (z := nz)) (z := ?_) | refine dp (h := fun _ _ => ZC (z := nz)) (z := ?_) | refine dp (h := fun _ _ => ZJ (z := nz)) (z := ?_) | refine dp (h := fun _ _ => ZK (z := nz)) (z := ?_) | refine dp (h := fun _ _ => ZQ (z := nz)) (z := ?_) | refine dp (h := fun _ _ => ZO (z := nz)) (z := ?_) | refine dp (h := fun _ _ => ZG (z := nz)) (z := ?_) | refine dp (h := fun _ _ => ZI (z := nz)) (z := ?_) | refine dp (h := fun _ _ => YC (z := nz)) (z := ?_) | refine dp (h := fun _ _ => YL (z := nz)) (z := ?_) | refine dp (h := fun _ _ => YM (z := nz)) (z := ?_))
    refine dq rfl rfl rfl (fun st1 hle => ixa (m := 14) rfl rfl rfl (by decide) rfl (nl ⟨_, rfl, rfl, rfl⟩)) ?_
    repeat (first | refine ds rfl rfl ?_ | refine dp (h := fun _ _ => ZD (z := nz)) (z := ?_) | refine dp (h := fun _ _ => ZF (z := nz)) (z := ?_) | refine dp (h := fun _ _ => ZC (z := nz)) (z := ?_) | refine dp (h := fun _ _ => ZJ (z := nz)) (z := ?_) | refine dp (h := fun _ _ => ZK (z := nz)) (z := ?_) | refine dp (h := fun _ _ => ZQ (z := nz)) (z := ?_) | refine dp (h := fun _ _ => ZO (z := nz)) (z := ?_) | refine dp (h := fun _ _ => ZG (z := nz)) (z := ?_) | refine dp (h := fun _ _ => ZI (z := nz)) (z := ?_) | refine dp (h := fun _ _ => YC (z := nz)) (z := ?_) | refine dp (h := fun _ _ => YL (z := nz)) (z := ?_) | refine dp (h := fun _ _ => YM (z := nz)) (z := ?_))
    refine dn ⟨fun _ => ?_, fun h => absurd h (by decide)⟩
    repeat (first | refine ZA (z := ?_) | refine ZB (z := ?_) | refine ZC (z := ?_) | refine ZD (z := ?_) | refine ZF (z := ?_) | refine ZJ (z := ?_) | refine ZK (z := ?_) | refine ZO (z := ?_) | refine ZQ (z := ?_) | refine ZR (z := ?_) | refine YA (z := ?_) | refine ZG (z := ?_) | refine ZI (z := ?_) | refine YC (z := ?_) | refine YD (z := ?_))
    refine ixa (m := 14) rfl rfl rfl (by decide) rfl ?_
    refine so1 rfl rfl rfl rfl rfl (by rw [ef_len' h]; simp only [AV.cells, List.length_singleton]; omega) (ef_put h (n := 14) rfl (by decide) _) ?_
    repeat (first | refine nl ?_ | refine AWP.seq ?_ | refine rg ?_ | refine AWP.skip ?_ | refine AWP.block ?_ | refine YH (z := ?_) | refine YI (z := ?_) | refine ZA (z := ?_) | refine ZB (z := ?_) | refine ZC (z := ?_) | refine ZD (z := ?_) | refine ZF (z := ?_) | refine ZJ (z := ?_) | refine ZK (z := ?_) | refine ZO (z := ?_) | refine ZQ (z := ?_) | refine ZR (z := ?_) | refine YA (z := ?_) | refine ZG (z := ?_) | refine ZI (z := ?_) | refine YC (z := ?_) | refine YD (z := ?_))
    refine lcW rfl rfl rfl (St.obj_set _ _ _) rfl (by rw [ef_len' (set_len h _ _)]; rfl) ?_
    refine soU rfl hne rfl rfl rfl (by rw [ef_len' (set_len h _ _)]; rfl) (by rw [ef_len' (set_len h _ _)]; rfl) ?_
    repeat (first | refine nl ?_ | refine AWP.seq ?_ | refine rg ?_ | refine AWP.skip ?_ | refine AWP.block ?_ | refine YH (z := ?_) | refine YI (z := ?_) | refine ZA (z := ?_) | refine ZB (z := ?_) | refine ZC (z := ?_) | refine ZD (z := ?_) | refine ZF (z := ?_) | refine ZJ (z := ?_) | refine ZK (z := ?_) | refine ZO (z := ?_) | refine ZQ (z := ?_) | refine ZR (z := ?_) | refine YA (z := ?_) | refine ZG (z := ?_) | refine ZI (z := ?_) | refine YC (z := ?_) | refine YD (z := ?_))
    exact AWP.ret (rets (resCW rfl (St.obj_under hne _ _) rfl rfl (by rw [ef_len' (set_len h _ _)]; rfl) rfl) (.refl _) (St.new2 h6 h10) ⟨fin (by unfold exec; rw [if_neg hno]; simp only [if_neg n1, if_neg n3, if_neg n4', if_neg n5, if_neg n18, if_neg n20, if_neg n21, if_neg n22, if_neg n23, if_pos e24] <;> rfl), rfl⟩)
  have n24 : ¬ op = 24 := h24
  repeat (first | refine nl ?_ | refine AWP.seq ?_ | refine rg ?_ | refine AWP.skip ?_ | refine AWP.block ?_ | refine YH (z := ?_) | refine YI (z := ?_) | refine ZA (z := ?_) | refine ZB (z := ?_) | refine ZC (z := ?_) | refine ZD (z := ?_) | refine ZF (z := ?_) | refine ZJ (z := ?_) | refine ZK (z := ?_) | refine ZO (z := ?_) | refine ZQ (z := ?_) | refine ZR (z := ?_) | refine YA (z := ?_) | refine ZG (z := ?_) | refine ZI (z := ?_) | refine YC (z := ?_) | refine YD (z := ?_))
  refine AWP.cond_dec rfl (fun h25 => ?_) (fun h25 => ?_)
  · have e25 : op = 25 := h25
    repeat (first | refine nl ?_ | refine AWP.seq ?_ | refine AWP.skip ?_ | refine AWP.block ?_)
    refine AWP.drawX rfl 7 [6] [(st.set o6 (.cells 40 22 [efRow zEf])).set o10 (.cells 40 22 [efRow ⟨⟨r, add64 pc 1⟩, false, 0, 0, false, 0⟩]), (st.set o6 (.cells 40 22 [efRow zEf])).set o10 (.cells 40 22 [efRow ⟨⟨r, add64 pc 1⟩, false, 0, 0, true, 0⟩])] (st.set o6 (.cells 40 22 [efRow zEf])) rfl rfl (StLe.new h10 (.refl _)) ?_
    repeat (first | refine dpS (h := fun _ _ => ZD (z := nz)) (z := ?_) | refine dpS (h := fun _ _ => ZF (z := nz)) (z := ?_) | refine dpS (h := fun _ _ => ZC (z := nz)) (z := ?_) | refine dpS (h := fun _ _ => ZJ (z := nz)) (z := ?_) | refine dpS (h := fun _ _ => ZK (z := nz)) (z := ?_) | refine dpS (h := fun _ _ => ZQ (z := nz)) (z := ?_) | refine dpS (h := fun _ _ => ZO (z := nz)) (z := ?_) | refine dpS (h := fun _ _ => ZG (z := nz)) (z := ?_) | refine dpS (h := fun _ _ => ZI (z := nz)) (z := ?_) | refine dpS (h := fun _ _ => YC (z := nz)) (z := ?_) | refine dpS (h := fun _ _ => YL (z := nz)) (z := ?_) | refine dpS (h := fun _ _ => YM (z := nz)) (z := ?_))
    refine dqS rfl rfl rfl (fun st1 hle => ixa (m := a.toNat) rfl rfl ea la rfl (nl ⟨_, rfl, rfl, rfl⟩)) ?_
    repeat (first | refine dpS (h := fun _ _ => ZD (z := nz)) (z := ?_) | refine dpS (h := fun _ _ => ZF (z := nz)) (z := ?_) | refine dpS (h := fun _ _ => ZC (z := nz)) (z := ?_) | refine dpS (h := fun _ _ => ZJ (z := nz)) (z := ?_) | refine dpS (h := fun _ _ => ZK (z := nz)) (z := ?_) | refine dpS (h := fun _ _ => ZQ (z := nz)) (z := ?_) | refine dpS (h := fun _ _ => ZO (z := nz)) (z := ?_) | refine dpS (h := fun _ _ => ZG (z := nz)) (z := ?_) | refine dpS (h := fun _ _ => ZI (z := nz)) (z := ?_) | refine dpS (h := fun _ _ => YC (z := nz)) (z := ?_) | refine dpS (h := fun _ _ => YL (z := nz)) (z := ?_) | refine dpS (h := fun _ _ => YM (z := nz)) (z := ?_))
    refine deS rfl rfl rfl (StLe.new h10 (.refl _)) rfl rfl (so1 rfl rfl rfl rfl rfl (by rw [ef_len' h]; exact Nat.le_of_ble_eq_true rfl) (ef_prints h _) (nl ⟨rfl, rfl⟩)) ?_
    refine dnS rfl ?_
    repeat (first | refine ZA (z := ?_) | refine ZB (z := ?_) | refine ZC (z := ?_) | refine ZD (z := ?_) | refine ZF (z := ?_) | refine ZJ (z := ?_) | refine ZK (z := ?_) | refine ZO (z := ?_) | refine ZQ (z := ?_) | refine ZR (z := ?_) | refine YA (z := ?_) | refine ZG (z := ?_) | refine ZI (z := ?_) | refine YC (z := ?_) | refine YD (z := ?_))
    refine so1 rfl rfl rfl rfl rfl (by rw [ef_len' h]; simp only [AV.cells, List.length_singleton]; omega) (ef_print h _) ?_
    repeat (first | refine nl ?_ | refine AWP.seq ?_ | refine rg ?_ | refine AWP.skip ?_ | refine AWP.block ?_ | refine YH (z := ?_) | refine YI (z := ?_) | refine ZA (z := ?_) | refine ZB (z := ?_) | refine ZC (z := ?_) | refine ZD (z := ?_) | refine ZF (z := ?_) | refine ZJ (z := ?_) | refine ZK (z := ?_) | refine ZO (z := ?_) | refine ZQ (z := ?_) | refine ZR (z := ?_) | refine YA (z := ?_) | refine ZG (z := ?_) | refine ZI (z := ?_) | refine YC (z := ?_) | refine YD (z := ?_))
    refine lcW rfl rfl rfl (St.obj_set _ _ _) rfl (by rw [ef_len' h]; rfl) ?_
    refine soU rfl hne rfl rfl rfl (by rw [ef_len' h]; rfl) (by rw [ef_len' h]; rfl) ?_
    repeat (first | refine nl ?_ | refine AWP.seq ?_ | refine rg ?_ | refine AWP.skip ?_ | refine AWP.block ?_ | refine YH (z := ?_) | refine YI (z := ?_) | refine ZA (z := ?_) | refine ZB (z := ?_) | refine ZC (z := ?_) | refine ZD (z := ?_) | refine ZF (z := ?_) | refine ZJ (z := ?_) | refine ZK (z := ?_) | refine ZO (z := ?_) | refine ZQ (z := ?_) | refine ZR (z := ?_) | refine YA (z := ?_) | refine ZG (z := ?_) | refine ZI (z := ?_) | refine YC (z := ?_) | refine YD (z := ?_))
    exact AWP.ret (rets (resCW rfl (St.obj_under hne _ _) rfl rfl (by rw [ef_len' h]; rfl) rfl) (.refl _) (St.new2 h6 h10) ⟨fin (by unfold exec; rw [if_neg hno]; simp only [if_neg n1, if_neg n3, if_neg n4', if_neg n5, if_neg n18, if_neg n20, if_neg n21, if_neg n22, if_neg n23, if_neg n24, if_pos e25] <;> rfl), rfl⟩)
  have n25 : ¬ op = 25 := h25
  repeat (first | refine nl ?_ | refine AWP.seq ?_ | refine AWP.skip ?_ | refine AWP.block ?_)
  refine AWP.draw rfl 17 17 (fun _ _ => False) rfl ?_
  repeat (first | refine ds rfl rfl ?_ | refine dp (h := fun _ _ => ZD (z := nz)) (z := ?_) | refine dp (h := fun _ _ => ZF (z := nz)) (z := ?_) | refine dp (h := fun _ _ => ZC (z := nz)) (z := ?_) | refine dp (h := fun _ _ => ZJ (z := nz)) (z := ?_) | refine dp (h := fun _ _ => ZK (z := nz)) (z := ?_) | refine dp (h := fun _ _ => ZQ (z := nz)) (z := ?_) | refine dp (h := fun _ _ => ZO (z := nz)) (z := ?_) | refine dp (h := fun _ _ => ZG (z := nz)) (z := ?_) | refine dp (h := fun _ _ => ZI (z := nz)) (z := ?_) | refine dp (h := fun _ _ => YC (z := nz)) (z := ?_) | refine dp (h := fun _ _ => YL (z := nz)) (z := ?_) | refine dp (h := fun _ _ => YM (z := nz)) (z := ?_))
  refine dq rfl rfl rfl (fun st1 hle => ixa (m := b.toNat) rfl rfl eb lb rfl (nl ⟨_, rfl, rfl, rfl⟩)) ?_
  repeat (first | refine ds rfl rfl ?_ | refine dp (h := fun _ _ => ZD (z := nz)) (z := ?_) | refine dp (h := fun _ _ => ZF (z := nz)) (z := ?_) | refine dp (h := fun _ _ => ZC (z := nz)) (z := ?_) | refine dp (h := fun _ _ => ZJ (z := nz)) (z := ?_) | refine dp (h := fun _ _ => ZK (z := nz)) (z := ?_) | refine dp (h := fun _ _ => ZQ (z := nz)) (z := ?_) | refine dp (h := fun _ _ => ZO (z := nz)) (z := ?_) | refine dp (h := fun _ _ => ZG (z := nz)) (z := ?_) | refine dp (h := fun _ _ => ZI (z := nz)) (z := ?_) | refine dp (h := fun _ _ => YC (z := nz)) (z := ?_) | refine dp (h := fun _ _ => YL (z := nz)) (z := ?_) | refine dp (h := fun _ _ => YM (z := nz)) (z := ?_))
  refine dq rfl rfl rfl (fun st1 hle => ixa (m := cc.toNat) rfl rfl ec lc rfl (nl ⟨_, rfl, rfl, rfl⟩)) ?_
  repeat (first | refine ds rfl rfl ?_ | refine dp (h := fun _ _ => ZD (z := nz)) (z := ?_) | refine dp (h := fun _ _ => ZF (z := nz)) (z := ?_) | refine dp (h := fun _ _ => ZC (z := nz)) (z := ?_) | refine dp (h := fun _ _ => ZJ (z := nz)) (z := ?_) | refine dp (h := fun _ _ => ZK (z := nz)) (z := ?_) | refine dp (h := fun _ _ => ZQ (z := nz)) (z := ?_) | refine dp (h := fun _ _ => ZO (z := nz)) (z := ?_) | refine dp (h := fun _ _ => ZG (z := nz)) (z := ?_) | refine dp (h := fun _ _ => ZI (z := nz)) (z := ?_) | refine dp (h := fun _ _ => YC (z := nz)) (z := ?_) | refine dp (h := fun _ _ => YL (z := nz)) (z := ?_) | refine dp (h := fun _ _ => YM (z := nz)) (z := ?_))
  refine dn ⟨fun _ => ?_, fun h => absurd h (by decide)⟩
  repeat (first | refine ZA (z := ?_) | refine ZB (z := ?_) | refine ZC (z := ?_) | refine ZD (z := ?_) | refine ZF (z := ?_) | refine ZJ (z := ?_) | refine ZK (z := ?_) | refine ZO (z := ?_) | refine ZQ (z := ?_) | refine ZR (z := ?_) | refine YA (z := ?_) | refine ZG (z := ?_) | refine ZI (z := ?_) | refine YC (z := ?_) | refine YD (z := ?_))
  refine ixa (m := a.toNat) rfl rfl ea la rfl ?_
  refine so1 rfl rfl rfl rfl rfl (by rw [ef_len' h]; simp only [AV.cells, List.length_singleton]; omega) (ef_put h (by omega) la _) ?_
  repeat (first | refine nl ?_ | refine AWP.seq ?_ | refine rg ?_ | refine AWP.skip ?_ | refine AWP.block ?_ | refine YH (z := ?_) | refine YI (z := ?_) | refine ZA (z := ?_) | refine ZB (z := ?_) | refine ZC (z := ?_) | refine ZD (z := ?_) | refine ZF (z := ?_) | refine ZJ (z := ?_) | refine ZK (z := ?_) | refine ZO (z := ?_) | refine ZQ (z := ?_) | refine ZR (z := ?_) | refine YA (z := ?_) | refine ZG (z := ?_) | refine ZI (z := ?_) | refine YC (z := ?_) | refine YD (z := ?_))
  refine lcW rfl rfl rfl (St.obj_set _ _ _) rfl (by rw [ef_len' (set_len h _ _)]; rfl) ?_
  refine soU rfl hne rfl rfl rfl (by rw [ef_len' (set_len h _ _)]; rfl) (by rw [ef_len' (set_len h _ _)]; rfl) ?_
  repeat (first | refine nl ?_ | refine AWP.seq ?_ | refine rg ?_ | refine AWP.skip ?_ | refine AWP.block ?_ | refine YH (z := ?_) | refine YI (z := ?_) | refine ZA (z := ?_) | refine ZB (z := ?_) | refine ZC (z := ?_) | refine ZD (z := ?_) | refine ZF (z := ?_) | refine ZJ (z := ?_) | refine ZK (z := ?_) | refine ZO (z := ?_) | refine ZQ (z := ?_) | refine ZR (z := ?_) | refine YA (z := ?_) | refine ZG (z := ?_) | refine ZI (z := ?_) | refine YC (z := ?_) | refine YD (z := ?_))
  exact AWP.ret (rets (resCW rfl (St.obj_under hne _ _) rfl rfl (by rw [ef_len' (set_len h _ _)]; rfl) rfl) (.refl _) (St.new2 h6 h10) ⟨fin (by unfold exec; rw [if_neg hno]; simp only [if_neg n1, if_neg n3, if_neg n4', if_neg n5, if_neg n18, if_neg n20, if_neg n21, if_neg n22, if_neg n23, if_neg n24, if_neg n25] <;> rfl), rfl⟩)
end Go.Proofs
/- The walk of the reference's Execute. No conditions: lemmas only. -/
namespace Go.Proofs
open Go.AM
attribute [local irreducible] AWP AOps ACalls
set_option linter.unusedSimpArgs false

end Go.Proofs
/- One step of a thread. No conditions: definitions and lemmas only. -/
namespace Go.Proofs
open Go.AM
attribute [local irreducible] AWP AOps ACalls
set_option linter.unusedSimpArgs false

def ivRow (x : Int) : List AV := [iv x]
def memC (m : List Int) : AObj := .cells 3 1 (m.map ivRow)
def ins (n : Int) (len : Nat) : Bool := decide (0 ≤ n) && decide (n < (len : Int))
theorem ins_iff {n : Int} {len : Nat} : ins n len = true ↔ 0 ≤ n ∧ n < (len : Int) := by simp [ins]
def memAt (m : List Int) (n : Int) : Int := m.getD n.toNat 0
/-- The effect of the next instruction, if it can be executed. -/
def stepP (m : List Int) (c : Cp) : Option Ef :=
  if ins c.pc m.length = false then none else
  if (dec (memAt m c.pc)).2 ≠ 0 then none else
  if (reads c (dec (memAt m c.pc)).1).2 = true ∧ ins (reads c (dec (memAt m c.pc)).1).1 m.length = false then none else
  let x := exec c (dec (memAt m c.pc)).1 (if (reads c (dec (memAt m c.pc)).1).2 = true then memAt m (reads c (dec (memAt m c.pc)).1).1 else 0)
  if x.2 ≠ 0 ∨ (x.1.stores = true ∧ ins x.1.addr m.length = false) then none else some x.1
theorem mem_at {m : List Int} {n : Int} (h : ins n m.length = true) : (m.map ivRow)[0 + n.toNat]? = some [.int .i64 (memAt m n)] ∧ n = (n.toNat : Int) ∧ n.toNat < m.length := by
  have h' := ins_iff.1 h
  refine ⟨?_, by omega, by omega⟩
  rw [Nat.zero_add, List.getElem?_map, List.getElem?_eq_getElem (by omega)]
  unfold memAt
  rw [List.getD_eq_getElem?_getD, List.getElem?_eq_getElem (by omega)]
  rfl
theorem inside_ok (n : Int) (o len : Nat) (st : St) : ACalls Tryd.prog 42 [.int .i64 n, .eptr 1 [[.msl o 1 0 len]] 0 0] st (fun v st' => v = .bool (ins n len) ∧ st' = st) (fun _ _ => False) := by
    refine ACalls.ofBody Tryd.func42 rfl Tryd.ntmps42 rfl ?_
    repeat (first | refine nl ?_ | refine AWP.seq ?_ | refine rg ?_ | refine AWP.skip ?_ | refine AWP.block ?_ | refine YH (z := ?_) | refine YI (z := ?_) | refine ZA (z := ?_) | refine ZB (z := ?_) | refine ZC (z := ?_) | refine ZD (z := ?_) | refine ZF (z := ?_) | refine ZJ (z := ?_) | refine ZK (z := ?_) | refine ZO (z := ?_) | refine ZQ (z := ?_) | refine ZR (z := ?_) | refine YA (z := ?_) | refine ZG (z := ?_) | refine ZI (z := ?_) | refine YC (z := ?_) | refine YD (z := ?_))
    refine gS rfl (fun h => ?_) (fun h => ?_)
    · repeat (first | refine nl ?_ | refine AWP.seq ?_ | refine rg ?_ | refine AWP.skip ?_ | refine AWP.block ?_ | refine YH (z := ?_) | refine YI (z := ?_) | refine ZA (z := ?_) | refine ZB (z := ?_) | refine ZC (z := ?_) | refine ZD (z := ?_) | refine ZF (z := ?_) | refine ZJ (z := ?_) | refine ZK (z := ?_) | refine ZO (z := ?_) | refine ZQ (z := ?_) | refine ZR (z := ?_) | refine YA (z := ?_) | refine ZG (z := ?_) | refine ZI (z := ?_) | refine YC (z := ?_) | refine YD (z := ?_))
      exact AWP.ret (rets rfl (.refl _) (.refl _) ⟨by simp [packA, ins, show 0 ≤ n from h], rfl⟩)
    · repeat (first | refine nl ?_ | refine AWP.seq ?_ | refine rg ?_ | refine AWP.skip ?_ | refine AWP.block ?_ | refine YH (z := ?_) | refine YI (z := ?_) | refine ZA (z := ?_) | refine ZB (z := ?_) | refine ZC (z := ?_) | refine ZD (z := ?_) | refine ZF (z := ?_) | refine ZJ (z := ?_) | refine ZK (z := ?_) | refine ZO (z := ?_) | refine ZQ (z := ?_) | refine ZR (z := ?_) | refine YA (z := ?_) | refine ZG (z := ?_) | refine ZI (z := ?_) | refine YC (z := ?_) | refine YD (z := ?_))
      exact AWP.ret (rets rfl (.refl _) (.refl _) ⟨by simp [packA, ins, show ¬ 0 ≤ n from h], rfl⟩)
theorem dec_imm {w : Int} (hw : w64 w) : w64 (dec w).1.imm := by
  unfold dec w64 at *
  split
  · simp only [split]; omega
  · decide
theorem ef_col (x : Ef) (h : x.cpu.r.length = 16) (k : Nat) : (efRow x)[16 + k]? = [AV.int .i64 x.cpu.pc, .bool x.stores, .int .i64 x.addr, .int .i64 x.word, .bool x.prints, .int .i64 x.print][k]? := by
  unfold efRow
  rw [List.getElem?_append_right (by simp [h])]
  simp [h]
theorem ef_cols {x : Ef} (h : x.cpu.r.length = 16) : (efRow x)[0 + 17]? = some (.bool x.stores) ∧ (efRow x)[0 + 18]? = some (.int .i64 x.addr) ∧ (efRow x)[0 + 19]? = some (.int .i64 x.word) ∧ (efRow x)[0 + 20]? = some (.bool x.prints) ∧ (efRow x)[0 + 21]? = some (.int .i64 x.print) :=
  ⟨ef_col x h 1, ef_col x h 2, ef_col x h 3, ef_col x h 4, ef_col x h 5⟩
def stepV (m : List Int) (c : Cp) : AV := match stepP m c with
  | some e => .tuple [.agg (efRow e), .bool true]
  | none => .tuple [.agg (efRow zEf), .bool false]
theorem exec_len {c : Cp} (h : c.r.length = 16) (i : Ins) (l : Int) : (exec c i l).1.cpu.r.length = 16 := by
  have P : ∀ {p : Prop} [Decidable p] {a b : Ef × Int}, a.1.cpu.r.length = 16 → b.1.cpu.r.length = 16 → (if p then a else b).1.cpu.r.length = 16 := by
    intro p _ a b ha hb
    split <;> assumption
  have s : ∀ (n : Nat) (v : Int), (c.r.set n v).length = 16 := fun n v => (List.length_set ..).trans h
  exact P rfl (P h (P (s _ _) (P (s _ _) (P (s _ _) (P (s _ _) (P h (P h (P (P h h) (P (s _ _) (P (s _ _) (P h (s _ _))))))))))))
set_option maxHeartbeats 4000000 in
theorem step_ok (m : List Int) (hm : ∀ x ∈ m, w64 x) (c : Cp) (h : c.r.length = 16) (o : Nat) (st : St) (ho : st.obj o = some (memC m)) :
    ACalls Tryd.prog 37 [.msl o 1 0 m.length, .agg (cpRow c)] st (fun v st' => v = stepV m c ∧ st' = st) (fun _ _ => False) := by
  refine ACalls.ofBody Tryd.func37 rfl Tryd.ntmps37 rfl ?_
  have hl := cp_len h
  have g16 : (cpRow c)[0 + 16]? = some (.int .i64 c.pc) := cp_pc h
  have fin : stepP m c = none → AV.tuple [.agg (efRow zEf), .bool false] = stepV m c := fun h => by rw [stepV, h]
  have memw : ∀ n, w64 (memAt m n) := fun n => by
    unfold memAt
    rw [List.getD_eq_getElem?_getD]
    cases hx : m[n.toNat]? with
    | none => exact ⟨by decide, by decide⟩
    | some x => exact hm x (List.mem_of_getElem? hx)
  repeat (first | refine nl ?_ | refine AWP.seq ?_ | refine AWP.skip ?_ | refine AWP.block ?_)
  refine rg ?_
  refine bxe (sz := 1) rfl rfl rfl rfl ?_
  refine bxe rfl rfl rfl hl ?_
  refine al rfl rfl fun o4 h4 => ?_
  rw [zef_row]
  have ho4 : (st.set o4 (.cells 40 22 [efRow zEf])).obj o = some (.cells 3 1 (m.map ivRow)) := St.obj_new h4 ho
  repeat (first | refine nl ?_ | refine AWP.seq ?_ | refine rg ?_ | refine AWP.skip ?_ | refine AWP.block ?_ | refine YH (z := ?_) | refine YI (z := ?_) | refine ZA (z := ?_) | refine ZB (z := ?_) | refine ZC (z := ?_) | refine ZD (z := ?_) | refine ZF (z := ?_) | refine ZJ (z := ?_) | refine ZK (z := ?_) | refine ZO (z := ?_) | refine ZQ (z := ?_) | refine ZR (z := ?_) | refine YA (z := ?_) | refine ZG (z := ?_) | refine ZI (z := ?_) | refine YC (z := ?_) | refine YD (z := ?_))
  refine mkf (cs := []) (ds := [.eptr 1 [[.msl o 1 0 m.length]] 0 0]) rfl rfl rfl ?_
  repeat (first | refine nl ?_ | refine AWP.seq ?_ | refine rg ?_ | refine AWP.skip ?_ | refine AWP.block ?_ | refine YH (z := ?_) | refine YI (z := ?_) | refine ZA (z := ?_) | refine ZB (z := ?_) | refine ZC (z := ?_) | refine ZD (z := ?_) | refine ZF (z := ?_) | refine ZJ (z := ?_) | refine ZK (z := ?_) | refine ZO (z := ?_) | refine ZQ (z := ?_) | refine ZR (z := ?_) | refine YA (z := ?_) | refine ZG (z := ?_) | refine ZI (z := ?_) | refine YC (z := ?_) | refine YD (z := ?_))
  refine clc rfl rfl rfl (inside_ok c.pc o m.length _) ?_
  repeat (first | refine nl ?_ | refine AWP.seq ?_ | refine rg ?_ | refine AWP.skip ?_ | refine AWP.block ?_ | refine YH (z := ?_) | refine YI (z := ?_) | refine ZA (z := ?_) | refine ZB (z := ?_) | refine ZC (z := ?_) | refine ZD (z := ?_) | refine ZF (z := ?_) | refine ZJ (z := ?_) | refine ZK (z := ?_) | refine ZO (z := ?_) | refine ZQ (z := ?_) | refine ZR (z := ?_) | refine YA (z := ?_) | refine ZG (z := ?_) | refine ZI (z := ?_) | refine YC (z := ?_) | refine YD (z := ?_))
  refine AWP.cond_bool rfl (fun h1 => ?_) (fun h1 => AWP.skip ?_)
  · have h1' : ins c.pc m.length = false := by simpa using h1
    repeat (first | refine nl ?_ | refine AWP.seq ?_ | refine rg ?_ | refine AWP.skip ?_ | refine AWP.block ?_ | refine YH (z := ?_) | refine YI (z := ?_) | refine ZA (z := ?_) | refine ZB (z := ?_) | refine ZC (z := ?_) | refine ZD (z := ?_) | refine ZF (z := ?_) | refine ZJ (z := ?_) | refine ZK (z := ?_) | refine ZO (z := ?_) | refine ZQ (z := ?_) | refine ZR (z := ?_) | refine YA (z := ?_) | refine ZG (z := ?_) | refine ZI (z := ?_) | refine YC (z := ?_) | refine YD (z := ?_))
    refine bds (cs := efRow zEf) rfl rfl rfl rfl ?_
    refine soV rfl rfl rfl rfl rfl rfl ?_
    repeat (first | refine nl ?_ | refine AWP.seq ?_ | refine rg ?_ | refine AWP.skip ?_ | refine AWP.block ?_ | refine YH (z := ?_) | refine YI (z := ?_) | refine ZA (z := ?_) | refine ZB (z := ?_) | refine ZC (z := ?_) | refine ZD (z := ?_) | refine ZF (z := ?_) | refine ZJ (z := ?_) | refine ZK (z := ?_) | refine ZO (z := ?_) | refine ZQ (z := ?_) | refine ZR (z := ?_) | refine YA (z := ?_) | refine ZG (z := ?_) | refine ZI (z := ?_) | refine YC (z := ?_) | refine YD (z := ?_))
    exact AWP.ret (rets (resCW rfl (St.obj_set _ _ _) rfl rfl rfl rfl) (.refl _) (StLe.new h4 (.refl _)) ⟨fin (by unfold stepP; rw [if_pos h1']), rfl⟩)
  have h1' : ins c.pc m.length = true := by simpa using h1
  obtain ⟨q1, e1, l1⟩ := mem_at h1'
  repeat (first | refine nl ?_ | refine AWP.seq ?_ | refine rg ?_ | refine AWP.skip ?_ | refine AWP.block ?_ | refine YH (z := ?_) | refine YI (z := ?_) | refine ZA (z := ?_) | refine ZB (z := ?_) | refine ZC (z := ?_) | refine ZD (z := ?_) | refine ZF (z := ?_) | refine ZJ (z := ?_) | refine ZK (z := ?_) | refine ZO (z := ?_) | refine ZQ (z := ?_) | refine ZR (z := ?_) | refine YA (z := ?_) | refine ZG (z := ?_) | refine ZI (z := ?_) | refine YC (z := ?_) | refine YD (z := ?_))
  refine ixm (m := c.pc.toNat) rfl rfl rfl e1 l1 ?_
  refine lc rfl rfl ho4 q1 rfl ?_
  repeat (first | refine ZA (z := ?_) | refine ZB (z := ?_) | refine ZC (z := ?_) | refine ZD (z := ?_) | refine ZF (z := ?_) | refine ZJ (z := ?_) | refine ZK (z := ?_) | refine ZO (z := ?_) | refine ZQ (z := ?_) | refine ZR (z := ?_) | refine YA (z := ?_) | refine ZG (z := ?_) | refine ZI (z := ?_) | refine YC (z := ?_) | refine YD (z := ?_))
  have hdi := dec_imm (memw c.pc)
  generalize hD : dec (memAt m c.pc) = D at hdi
  repeat (first | refine nl ?_ | refine AWP.seq ?_ | refine rg ?_ | refine AWP.skip ?_ | refine AWP.block ?_ | refine YH (z := ?_) | refine YI (z := ?_) | refine ZA (z := ?_) | refine ZB (z := ?_) | refine ZC (z := ?_) | refine ZD (z := ?_) | refine ZF (z := ?_) | refine ZJ (z := ?_) | refine ZK (z := ?_) | refine ZO (z := ?_) | refine ZQ (z := ?_) | refine ZR (z := ?_) | refine YA (z := ?_) | refine ZG (z := ?_) | refine ZI (z := ?_) | refine YC (z := ?_) | refine YD (z := ?_))
  refine AWP.cond_dec rfl (fun h2 => ?_) (fun h2 => AWP.skip ?_)
  · repeat (first | refine nl ?_ | refine AWP.seq ?_ | refine rg ?_ | refine AWP.skip ?_ | refine AWP.block ?_ | refine YH (z := ?_) | refine YI (z := ?_) | refine ZA (z := ?_) | refine ZB (z := ?_) | refine ZC (z := ?_) | refine ZD (z := ?_) | refine ZF (z := ?_) | refine ZJ (z := ?_) | refine ZK (z := ?_) | refine ZO (z := ?_) | refine ZQ (z := ?_) | refine ZR (z := ?_) | refine YA (z := ?_) | refine ZG (z := ?_) | refine ZI (z := ?_) | refine YC (z := ?_) | refine YD (z := ?_))
    refine bds (cs := efRow zEf) rfl rfl rfl rfl ?_
    refine soV rfl rfl rfl rfl rfl rfl ?_
    repeat (first | refine nl ?_ | refine AWP.seq ?_ | refine rg ?_ | refine AWP.skip ?_ | refine AWP.block ?_ | refine YH (z := ?_) | refine YI (z := ?_) | refine ZA (z := ?_) | refine ZB (z := ?_) | refine ZC (z := ?_) | refine ZD (z := ?_) | refine ZF (z := ?_) | refine ZJ (z := ?_) | refine ZK (z := ?_) | refine ZO (z := ?_) | refine ZQ (z := ?_) | refine ZR (z := ?_) | refine YA (z := ?_) | refine ZG (z := ?_) | refine ZI (z := ?_) | refine YC (z := ?_) | refine YD (z := ?_))
    exact AWP.ret (rets (resCW rfl (St.obj_set _ _ _) rfl rfl rfl rfl) (.refl _) (StLe.new h4 (.refl _)) ⟨fin (by unfold stepP; rw [if_neg (by rw [h1']; decide), hD, if_pos h2]), rfl⟩)
  have h2' : ¬ D.2 ≠ 0 := h2
  repeat (first | refine nl ?_ | refine AWP.seq ?_ | refine rg ?_ | refine AWP.skip ?_ | refine AWP.block ?_ | refine YH (z := ?_) | refine YI (z := ?_) | refine ZA (z := ?_) | refine ZB (z := ?_) | refine ZC (z := ?_) | refine ZD (z := ?_) | refine ZF (z := ?_) | refine ZJ (z := ?_) | refine ZK (z := ?_) | refine ZO (z := ?_) | refine ZQ (z := ?_) | refine ZR (z := ?_) | refine YA (z := ?_) | refine ZG (z := ?_) | refine ZI (z := ?_) | refine YC (z := ?_) | refine YD (z := ?_))
  refine leW rfl rfl rfl rfl (by rw [hl]; rfl) ?_
  repeat (first | refine nl ?_ | refine AWP.seq ?_ | refine rg ?_ | refine AWP.skip ?_ | refine AWP.block ?_ | refine YH (z := ?_) | refine YI (z := ?_) | refine ZA (z := ?_) | refine ZB (z := ?_) | refine ZC (z := ?_) | refine ZD (z := ?_) | refine ZF (z := ?_) | refine ZJ (z := ?_) | refine ZK (z := ?_) | refine ZO (z := ?_) | refine ZQ (z := ?_) | refine ZR (z := ?_) | refine YA (z := ?_) | refine ZG (z := ?_) | refine ZI (z := ?_) | refine YC (z := ?_) | refine YD (z := ?_))
  refine cle rfl rfl (reads_ok c h D.1 hdi _) ?_
  repeat (first | refine nl ?_ | refine AWP.seq ?_ | refine rg ?_ | refine AWP.skip ?_ | refine AWP.block ?_ | refine YH (z := ?_) | refine YI (z := ?_) | refine ZA (z := ?_) | refine ZB (z := ?_) | refine ZC (z := ?_) | refine ZD (z := ?_) | refine ZF (z := ?_) | refine ZJ (z := ?_) | refine ZK (z := ?_) | refine ZO (z := ?_) | refine ZQ (z := ?_) | refine ZR (z := ?_) | refine YA (z := ?_) | refine ZG (z := ?_) | refine ZI (z := ?_) | refine YC (z := ?_) | refine YD (z := ?_))
  have fl : ∀ x, stepP m c = x → stepP m c = x := fun _ h => h
  have unf : stepP m c = (if (reads c D.1).2 = true ∧ ins (reads c D.1).1 m.length = false then none else
      let x := exec c D.1 (if (reads c D.1).2 = true then memAt m (reads c D.1).1 else 0)
      if x.2 ≠ 0 ∨ (x.1.stores = true ∧ ins x.1.addr m.length = false) then none else some x.1) := by
    unfold stepP
    rw [if_neg (by rw [h1']; decide), hD, if_neg h2']
  refine midp (¬ ((reads c D.1).2 = true ∧ ins (reads c D.1).1 m.length = false)) [(9, .int .i64 (if (reads c D.1).2 = true then memAt m (reads c D.1).1 else 0)), (7, .eptr 5 [insRow D.1] 0 0), (6, .func (.func 42) [] [.eptr 1 [[.msl o 1 0 m.length]] 0 0]), (4, .cptr o4 22 0 0), (3, .eptr 17 [cpRow c] 0 0)] (st.set o4 (.cells 40 22 [efRow zEf])) ?_ fun hin => ?_
  · refine AWP.cond_bool rfl (fun h3 => ?_) (fun h3 => AWP.skip ?_)
    · repeat (first | refine nl ?_ | refine AWP.seq ?_ | refine rg ?_ | refine AWP.skip ?_ | refine AWP.block ?_ | refine YH (z := ?_) | refine YI (z := ?_) | refine ZA (z := ?_) | refine ZB (z := ?_) | refine ZC (z := ?_) | refine ZD (z := ?_) | refine ZF (z := ?_) | refine ZJ (z := ?_) | refine ZK (z := ?_) | refine ZO (z := ?_) | refine ZQ (z := ?_) | refine ZR (z := ?_) | refine YA (z := ?_) | refine ZG (z := ?_) | refine ZI (z := ?_) | refine YC (z := ?_) | refine YD (z := ?_))
      refine clc rfl rfl rfl (inside_ok (reads c D.1).1 o m.length _) ?_
      repeat (first | refine nl ?_ | refine AWP.seq ?_ | refine rg ?_ | refine AWP.skip ?_ | refine AWP.block ?_ | refine YH (z := ?_) | refine YI (z := ?_) | refine ZA (z := ?_) | refine ZB (z := ?_) | refine ZC (z := ?_) | refine ZD (z := ?_) | refine ZF (z := ?_) | refine ZJ (z := ?_) | refine ZK (z := ?_) | refine ZO (z := ?_) | refine ZQ (z := ?_) | refine ZR (z := ?_) | refine YA (z := ?_) | refine ZG (z := ?_) | refine ZI (z := ?_) | refine YC (z := ?_) | refine YD (z := ?_))
      refine AWP.cond_bool rfl (fun h4' => ?_) (fun h4' => AWP.skip ?_)
      · have h5 : ins (reads c D.1).1 m.length = false := by simpa using h4'
        repeat (first | refine nl ?_ | refine AWP.seq ?_ | refine rg ?_ | refine AWP.skip ?_ | refine AWP.block ?_ | refine YH (z := ?_) | refine YI (z := ?_) | refine ZA (z := ?_) | refine ZB (z := ?_) | refine ZC (z := ?_) | refine ZD (z := ?_) | refine ZF (z := ?_) | refine ZJ (z := ?_) | refine ZK (z := ?_) | refine ZO (z := ?_) | refine ZQ (z := ?_) | refine ZR (z := ?_) | refine YA (z := ?_) | refine ZG (z := ?_) | refine ZI (z := ?_) | refine YC (z := ?_) | refine YD (z := ?_))
        refine bds (cs := efRow zEf) rfl rfl rfl rfl ?_
        refine soV rfl rfl rfl rfl rfl rfl ?_
        repeat (first | refine nl ?_ | refine AWP.seq ?_ | refine rg ?_ | refine AWP.skip ?_ | refine AWP.block ?_ | refine YH (z := ?_) | refine YI (z := ?_) | refine ZA (z := ?_) | refine ZB (z := ?_) | refine ZC (z := ?_) | refine ZD (z := ?_) | refine ZF (z := ?_) | refine ZJ (z := ?_) | refine ZK (z := ?_) | refine ZO (z := ?_) | refine ZQ (z := ?_) | refine ZR (z := ?_) | refine YA (z := ?_) | refine ZG (z := ?_) | refine ZI (z := ?_) | refine YC (z := ?_) | refine YD (z := ?_))
        exact AWP.ret (rets (resCW rfl (St.obj_set _ _ _) rfl rfl rfl rfl) (.refl _) (StLe.new h4 (.refl _)) ⟨fin (by rw [unf, if_pos ⟨h3, h5⟩]), rfl⟩)
      · have h5 : ins (reads c D.1).1 m.length = true := by simpa using h4'
        obtain ⟨q2, e2, l2⟩ := mem_at h5
        repeat (first | refine nl ?_ | refine AWP.seq ?_ | refine rg ?_ | refine AWP.skip ?_ | refine AWP.block ?_ | refine YH (z := ?_) | refine YI (z := ?_) | refine ZA (z := ?_) | refine ZB (z := ?_) | refine ZC (z := ?_) | refine ZD (z := ?_) | refine ZF (z := ?_) | refine ZJ (z := ?_) | refine ZK (z := ?_) | refine ZO (z := ?_) | refine ZQ (z := ?_) | refine ZR (z := ?_) | refine YA (z := ?_) | refine ZG (z := ?_) | refine ZI (z := ?_) | refine YC (z := ?_) | refine YD (z := ?_))
        refine ixm (m := (reads c D.1).1.toNat) rfl rfl rfl e2 l2 ?_
        refine lc rfl rfl ho4 q2 rfl ?_
        repeat (first | refine nl ?_ | refine AWP.seq ?_ | refine rg ?_ | refine AWP.skip ?_ | refine AWP.block ?_ | refine YH (z := ?_) | refine YI (z := ?_) | refine ZA (z := ?_) | refine ZB (z := ?_) | refine ZC (z := ?_) | refine ZD (z := ?_) | refine ZF (z := ?_) | refine ZJ (z := ?_) | refine ZK (z := ?_) | refine ZO (z := ?_) | refine ZQ (z := ?_) | refine ZR (z := ?_) | refine YA (z := ?_) | refine ZG (z := ?_) | refine ZI (z := ?_) | refine YC (z := ?_) | refine YD (z := ?_))
        refine ⟨?_, .refl _, fun h => by rw [h5] at h; exact absurd h.2 (by decide)⟩
        rw [if_pos h3]
        exact (tl5 rfl rfl rfl rfl rfl)
    · refine ⟨?_, .refl _, fun h => absurd h.1 (by rw [h3]; decide)⟩
      rw [if_neg (by rw [h3]; decide)]
      exact (tl5 rfl rfl rfl rfl rfl)
  rw [if_neg hin] at unf
  generalize (if (reads c D.1).2 = true then memAt m (reads c D.1).1 else 0) = L at unf
  have hxl := exec_len h D.1 L
  repeat (first | refine nl ?_ | refine AWP.seq ?_ | refine rg ?_ | refine AWP.skip ?_ | refine AWP.block ?_ | refine YH (z := ?_) | refine YI (z := ?_) | refine ZA (z := ?_) | refine ZB (z := ?_) | refine ZC (z := ?_) | refine ZD (z := ?_) | refine ZF (z := ?_) | refine ZJ (z := ?_) | refine ZK (z := ?_) | refine ZO (z := ?_) | refine ZQ (z := ?_) | refine ZR (z := ?_) | refine YA (z := ?_) | refine ZG (z := ?_) | refine ZI (z := ?_) | refine YC (z := ?_) | refine YD (z := ?_))
  refine leW rfl rfl rfl rfl (by rw [hl]; rfl) ?_
  repeat (first | refine nl ?_ | refine AWP.seq ?_ | refine rg ?_ | refine AWP.skip ?_ | refine AWP.block ?_ | refine YH (z := ?_) | refine YI (z := ?_) | refine ZA (z := ?_) | refine ZB (z := ?_) | refine ZC (z := ?_) | refine ZD (z := ?_) | refine ZF (z := ?_) | refine ZJ (z := ?_) | refine ZK (z := ?_) | refine ZO (z := ?_) | refine ZQ (z := ?_) | refine ZR (z := ?_) | refine YA (z := ?_) | refine ZG (z := ?_) | refine ZI (z := ?_) | refine YC (z := ?_) | refine YD (z := ?_))
  refine cle rfl rfl (execute_ok c h D.1 L _) ?_
  generalize hX : exec c D.1 L = X at unf hxl
  have hV : execV c D.1 L = .tuple [.agg (efRow X.1), .int .i64 X.2] := by rw [execV, hX]
  rw [hV]
  repeat (first | refine nl ?_ | refine AWP.seq ?_ | refine rg ?_ | refine AWP.skip ?_ | refine AWP.block ?_ | refine YH (z := ?_) | refine YI (z := ?_) | refine ZA (z := ?_) | refine ZB (z := ?_) | refine ZC (z := ?_) | refine ZD (z := ?_) | refine ZF (z := ?_) | refine ZJ (z := ?_) | refine ZK (z := ?_) | refine ZO (z := ?_) | refine ZQ (z := ?_) | refine ZR (z := ?_) | refine YA (z := ?_) | refine ZG (z := ?_) | refine ZI (z := ?_) | refine YC (z := ?_) | refine YD (z := ?_))
  refine al rfl rfl fun o12 h12 => ?_
  refine soN 12 rfl rfl rfl rfl (by rw [ef_len hxl]; rfl) (by rw [ef_len hxl]; rfl) h12 ?_
  obtain ⟨q17, q18, q19, q20, q21⟩ := ef_cols hxl
  repeat (first | refine nl ?_ | refine AWP.seq ?_ | refine rg ?_ | refine AWP.skip ?_ | refine AWP.block ?_ | refine YH (z := ?_) | refine YI (z := ?_) | refine ZA (z := ?_) | refine ZB (z := ?_) | refine ZC (z := ?_) | refine ZD (z := ?_) | refine ZF (z := ?_) | refine ZJ (z := ?_) | refine ZK (z := ?_) | refine ZO (z := ?_) | refine ZQ (z := ?_) | refine ZR (z := ?_) | refine YA (z := ?_) | refine ZG (z := ?_) | refine ZI (z := ?_) | refine YC (z := ?_) | refine YD (z := ?_))
  refine gS rfl (fun h5 => ?_) (fun h5 => ?_)
  · have h5' : X.2 ≠ 0 := h5
    repeat (first | refine nl ?_ | refine AWP.seq ?_ | refine rg ?_ | refine AWP.skip ?_ | refine AWP.block ?_ | refine YH (z := ?_) | refine YI (z := ?_) | refine ZA (z := ?_) | refine ZB (z := ?_) | refine ZC (z := ?_) | refine ZD (z := ?_) | refine ZF (z := ?_) | refine ZJ (z := ?_) | refine ZK (z := ?_) | refine ZO (z := ?_) | refine ZQ (z := ?_) | refine ZR (z := ?_) | refine YA (z := ?_) | refine ZG (z := ?_) | refine ZI (z := ?_) | refine YC (z := ?_) | refine YD (z := ?_))
    refine bds (cs := efRow zEf) rfl rfl rfl rfl ?_
    refine soV rfl rfl rfl rfl rfl rfl ?_
    repeat (first | refine nl ?_ | refine AWP.seq ?_ | refine rg ?_ | refine AWP.skip ?_ | refine AWP.block ?_ | refine YH (z := ?_) | refine YI (z := ?_) | refine ZA (z := ?_) | refine ZB (z := ?_) | refine ZC (z := ?_) | refine ZD (z := ?_) | refine ZF (z := ?_) | refine ZJ (z := ?_) | refine ZK (z := ?_) | refine ZO (z := ?_) | refine ZQ (z := ?_) | refine ZR (z := ?_) | refine YA (z := ?_) | refine ZG (z := ?_) | refine ZI (z := ?_) | refine YC (z := ?_) | refine YD (z := ?_))
    exact AWP.ret (rets (resCW rfl (St.obj_set _ _ _) rfl rfl rfl rfl) (.refl _) (StLe.new h4 (.refl _)) ⟨fin (by rw [unf, if_pos (.inl h5')]), rfl⟩)
  have h5' : ¬ X.2 ≠ 0 := h5
  repeat (first | refine nl ?_ | refine AWP.seq ?_ | refine rg ?_ | refine AWP.skip ?_ | refine AWP.block ?_ | refine YH (z := ?_) | refine YI (z := ?_) | refine ZA (z := ?_) | refine ZB (z := ?_) | refine ZC (z := ?_) | refine ZD (z := ?_) | refine ZF (z := ?_) | refine ZJ (z := ?_) | refine ZK (z := ?_) | refine ZO (z := ?_) | refine ZQ (z := ?_) | refine ZR (z := ?_) | refine YA (z := ?_) | refine ZG (z := ?_) | refine ZI (z := ?_) | refine YC (z := ?_) | refine YD (z := ?_))
  refine gSB rfl (fun h6 => ?_) (fun h6 => ?_)
  · repeat (first | refine nl ?_ | refine AWP.seq ?_ | refine rg ?_ | refine AWP.skip ?_ | refine AWP.block ?_ | refine YH (z := ?_) | refine YI (z := ?_) | refine ZA (z := ?_) | refine ZB (z := ?_) | refine ZC (z := ?_) | refine ZD (z := ?_) | refine ZF (z := ?_) | refine ZJ (z := ?_) | refine ZK (z := ?_) | refine ZO (z := ?_) | refine ZQ (z := ?_) | refine ZR (z := ?_) | refine YA (z := ?_) | refine ZG (z := ?_) | refine ZI (z := ?_) | refine YC (z := ?_) | refine YD (z := ?_))
    refine clc rfl rfl rfl (inside_ok X.1.addr o m.length _) ?_
    repeat (first | refine nl ?_ | refine AWP.seq ?_ | refine rg ?_ | refine AWP.skip ?_ | refine AWP.block ?_ | refine YH (z := ?_) | refine YI (z := ?_) | refine ZA (z := ?_) | refine ZB (z := ?_) | refine ZC (z := ?_) | refine ZD (z := ?_) | refine ZF (z := ?_) | refine ZJ (z := ?_) | refine ZK (z := ?_) | refine ZO (z := ?_) | refine ZQ (z := ?_) | refine ZR (z := ?_) | refine YA (z := ?_) | refine ZG (z := ?_) | refine ZI (z := ?_) | refine YC (z := ?_) | refine YD (z := ?_))
    refine AWP.cond_bool rfl (fun h7' => ?_) (fun h7' => AWP.skip ?_)
    · have h8 : ins X.1.addr m.length = false := by simpa using h7'
      repeat (first | refine nl ?_ | refine AWP.seq ?_ | refine rg ?_ | refine AWP.skip ?_ | refine AWP.block ?_ | refine YH (z := ?_) | refine YI (z := ?_) | refine ZA (z := ?_) | refine ZB (z := ?_) | refine ZC (z := ?_) | refine ZD (z := ?_) | refine ZF (z := ?_) | refine ZJ (z := ?_) | refine ZK (z := ?_) | refine ZO (z := ?_) | refine ZQ (z := ?_) | refine ZR (z := ?_) | refine YA (z := ?_) | refine ZG (z := ?_) | refine ZI (z := ?_) | refine YC (z := ?_) | refine YD (z := ?_))
      refine bds (cs := efRow zEf) rfl rfl rfl rfl ?_
      refine soV rfl rfl rfl rfl rfl rfl ?_
      repeat (first | refine nl ?_ | refine AWP.seq ?_ | refine rg ?_ | refine AWP.skip ?_ | refine AWP.block ?_ | refine YH (z := ?_) | refine YI (z := ?_) | refine ZA (z := ?_) | refine ZB (z := ?_) | refine ZC (z := ?_) | refine ZD (z := ?_) | refine ZF (z := ?_) | refine ZJ (z := ?_) | refine ZK (z := ?_) | refine ZO (z := ?_) | refine ZQ (z := ?_) | refine ZR (z := ?_) | refine YA (z := ?_) | refine ZG (z := ?_) | refine ZI (z := ?_) | refine YC (z := ?_) | refine YD (z := ?_))
      exact AWP.ret (rets (resCW rfl (St.obj_set _ _ _) rfl rfl rfl rfl) (.refl _) (StLe.new h4 (.refl _)) ⟨fin (by rw [unf, if_pos (.inr ⟨h6, h8⟩)]), rfl⟩)
    · have h8 : ins X.1.addr m.length = true := by simpa using h7'
      repeat (first | refine nl ?_ | refine AWP.seq ?_ | refine rg ?_ | refine AWP.skip ?_ | refine AWP.block ?_ | refine YH (z := ?_) | refine YI (z := ?_) | refine ZA (z := ?_) | refine ZB (z := ?_) | refine ZC (z := ?_) | refine ZD (z := ?_) | refine ZF (z := ?_) | refine ZJ (z := ?_) | refine ZK (z := ?_) | refine ZO (z := ?_) | refine ZQ (z := ?_) | refine ZR (z := ?_) | refine YA (z := ?_) | refine ZG (z := ?_) | refine ZI (z := ?_) | refine YC (z := ?_) | refine YD (z := ?_))
      refine leW rfl rfl rfl rfl (by rw [ef_len hxl]; rfl) ?_
      refine soV rfl rfl rfl rfl (by rw [ef_len hxl]; rfl) (by rw [ef_len hxl]; rfl) ?_
      repeat (first | refine nl ?_ | refine AWP.seq ?_ | refine rg ?_ | refine AWP.skip ?_ | refine AWP.block ?_ | refine YH (z := ?_) | refine YI (z := ?_) | refine ZA (z := ?_) | refine ZB (z := ?_) | refine ZC (z := ?_) | refine ZD (z := ?_) | refine ZF (z := ?_) | refine ZJ (z := ?_) | refine ZK (z := ?_) | refine ZO (z := ?_) | refine ZQ (z := ?_) | refine ZR (z := ?_) | refine YA (z := ?_) | refine ZG (z := ?_) | refine ZI (z := ?_) | refine YC (z := ?_) | refine YD (z := ?_))
      exact AWP.ret (rets (resCW rfl (St.obj_set _ _ _) rfl rfl (by rw [ef_len hxl]; rfl) rfl) (.refl _) (StLe.new h4 (.refl _)) ⟨by rw [stepV, unf, if_neg (by rw [h8]; intro hh; rcases hh with hh | hh; exact h5' hh; exact absurd hh.2 (by decide))]; rfl, rfl⟩)
  · repeat (first | refine nl ?_ | refine AWP.seq ?_ | refine rg ?_ | refine AWP.skip ?_ | refine AWP.block ?_ | refine YH (z := ?_) | refine YI (z := ?_) | refine ZA (z := ?_) | refine ZB (z := ?_) | refine ZC (z := ?_) | refine ZD (z := ?_) | refine ZF (z := ?_) | refine ZJ (z := ?_) | refine ZK (z := ?_) | refine ZO (z := ?_) | refine ZQ (z := ?_) | refine ZR (z := ?_) | refine YA (z := ?_) | refine ZG (z := ?_) | refine ZI (z := ?_) | refine YC (z := ?_) | refine YD (z := ?_))
    refine leW rfl rfl rfl rfl (by rw [ef_len hxl]; rfl) ?_
    refine soV rfl rfl rfl rfl (by rw [ef_len hxl]; rfl) (by rw [ef_len hxl]; rfl) ?_
    repeat (first | refine nl ?_ | refine AWP.seq ?_ | refine rg ?_ | refine AWP.skip ?_ | refine AWP.block ?_ | refine YH (z := ?_) | refine YI (z := ?_) | refine ZA (z := ?_) | refine ZB (z := ?_) | refine ZC (z := ?_) | refine ZD (z := ?_) | refine ZF (z := ?_) | refine ZJ (z := ?_) | refine ZK (z := ?_) | refine ZO (z := ?_) | refine ZQ (z := ?_) | refine ZR (z := ?_) | refine YA (z := ?_) | refine ZG (z := ?_) | refine ZI (z := ?_) | refine YC (z := ?_) | refine YD (z := ?_))
    exact AWP.ret (rets (resCW rfl (St.obj_set _ _ _) rfl rfl (by rw [ef_len hxl]; rfl) rfl) (.refl _) (StLe.new h4 (.refl _)) ⟨by rw [stepV, unf, if_neg (by rw [h6]; intro hh; rcases hh with hh | hh; exact h5' hh; exact absurd hh.1 (by decide))]; rfl, rfl⟩)
end Go.Proofs
/- Runs of threads, in plain numbers. No conditions: definitions and lemmas only. -/
namespace Go.Proofs
open Go.AM

theorem wrap_w64 (n : Int) : w64 (IntKind.i64.wrap n) := by
  unfold IntKind.wrap w64
  simp only [IntKind.bits, IntKind.signed]
  simp
  split <;> omega
theorem bits_w64 (bo : BinOp) (hb : bo = .and ∨ bo = .or ∨ bo = .xor) (a b : Int) : w64 (bits bo .i64 a b) := by
  rcases hb with rfl | rfl | rfl <;> exact wrap_w64 _
theorem bin_w64 (k a b : Int) (ha : w64 a) : w64 (bin k a b) := by
  have h01 : ∀ x, w64 (b01 x) := fun x => by cases x <;> exact ⟨by decide, by decide⟩
  unfold bin
  split
  · exact wrap_w64 _
  split
  · exact wrap_w64 _
  split
  · exact wrap_w64 _
  split
  · split
    · exact ⟨by decide, by decide⟩
    · exact wrap_w64 _
  split
  · split
    · exact ha
    · rename_i hb
      unfold w64 at *
      have h1 : (a.tmod b).natAbs ≤ a.natAbs := by rw [Int.natAbs_tmod]; exact Nat.mod_le _ _
      rcases Int.lt_or_le a 0 with hs | hs
      · have := Int.tmod_nonneg (-b) (a := -a) (by omega)
        rw [Int.neg_tmod, Int.tmod_neg] at this
        omega
      · have := Int.tmod_nonneg b hs
        omega
  split
  · exact bits_w64 _ (.inl rfl) _ _
  split
  · exact bits_w64 _ (.inr (.inl rfl)) _ _
  split
  · exact bits_w64 _ (.inr (.inr rfl)) _ _
  repeat' split
  all_goals exact h01 _
structure Cp.good (c : Cp) : Prop where
  len : c.r.length = 16
  regs : ∀ x ∈ c.r, w64 x
  pc : w64 c.pc
theorem Cp.good.get {c : Cp} (h : c.good) (n : Int) : w64 (c.get n) := by
  unfold Cp.get
  rw [List.getD_eq_getElem?_getD]
  cases hx : c.r[n.toNat]? with
  | none => exact ⟨by decide, by decide⟩
  | some x => exact h.regs x (List.mem_of_getElem? hx)
theorem Cp.good.put {c : Cp} (h : c.good) (n : Int) {v : Int} (hv : w64 v) : (c.put n v).good :=
  ⟨(List.length_set ..).trans h.len, fun x hx => by rcases List.mem_or_eq_of_mem_set hx with h1 | h1; exact h.regs x h1; exact h1 ▸ hv, h.pc⟩
theorem Cp.good.at {c : Cp} (h : c.good) {v : Int} (hv : w64 v) : Cp.good { c with pc := v } := ⟨h.len, h.regs, hv⟩
structure Ef.good (e : Ef) : Prop where
  cpu : e.cpu.good
  word : w64 e.word
  print : w64 e.print
theorem zCp_good : zCp.good := ⟨rfl, fun x hx => by rw [show zCp.r = List.replicate 16 0 from rfl, List.mem_replicate] at hx; rw [hx.2]; exact ⟨by decide, by decide⟩, ⟨by decide, by decide⟩⟩
theorem w0 : w64 0 := ⟨by decide, by decide⟩
theorem exec_good {c : Cp} (h : c.good) {i : Ins} (hi : w64 i.imm) {l : Int} (hl : w64 l) : (exec c i l).1.good := by
  have P : ∀ {p : Prop} [Decidable p] {a b : Ef × Int}, a.1.good → b.1.good → (if p then a else b).1.good := by
    intro p _ a b ha hb
    split <;> assumption
  have q : ∀ {c : Cp}, c.good → Ef.good { zEf with cpu := c } := fun h => ⟨h, w0, w0⟩
  have nx : Cp.good { c with pc := add64 c.pc 1 } := h.at (wrap_w64 _)
  exact P ⟨zCp_good, w0, w0⟩ (P (q nx) (P (q (nx.put _ hi)) (P (q (nx.put _ hl)) (P (q (nx.put _ (h.get _))) (P (q (nx.put _ (wrap_w64 _))) (P ⟨nx, h.get _, w0⟩ (P (q (h.at hi)) (P (P (q (h.at hi)) (q nx)) (P ⟨(h.put _ (wrap_w64 _)).at hi, wrap_w64 _, w0⟩ (P (q ((h.put _ (wrap_w64 _)).at hl)) (P ⟨nx, w0, h.get _⟩ (q (nx.put _ (bin_w64 _ _ _ (h.get _)))))))))))))))
theorem memAt_w64 {m : List Int} (hm : ∀ x ∈ m, w64 x) (n : Int) : w64 (memAt m n) := by
  unfold memAt
  rw [List.getD_eq_getElem?_getD]
  cases hx : m[n.toNat]? with
  | none => exact w0
  | some x => exact hm x (List.mem_of_getElem? hx)
theorem stepP_good {m : List Int} (hm : ∀ x ∈ m, w64 x) {c : Cp} (h : c.good) {e : Ef} (he : stepP m c = some e) : e.good ∧ (e.stores = true → ins e.addr m.length = true) := by
  unfold stepP at he
  split at he
  · cases he
  split at he
  · cases he
  split at he
  · cases he
  dsimp only at he
  have hg := exec_good h (dec_imm (memAt_w64 hm c.pc)) (l := if (reads c (dec (memAt m c.pc)).1).2 = true then memAt m (reads c (dec (memAt m c.pc)).1).1 else 0) (by split; exact memAt_w64 hm _; exact w0)
  generalize exec c (dec (memAt m c.pc)).1 (if (reads c (dec (memAt m c.pc)).1).2 = true then memAt m (reads c (dec (memAt m c.pc)).1).1 else 0) = X at he hg
  split at he
  · cases he
  · rename_i h4
    cases he
    refine ⟨hg, fun hs => ?_⟩
    cases hi : ins _ m.length with
    | true => rfl
    | false => exact absurd (.inr ⟨hs, hi⟩) h4
structure Oc where
  err : Int
  thrown : Bool
  value : Int
  out : List Int
def ocRow (x : Oc) : List AV := [.int .i64 x.err, .bool x.thrown, .int .i64 x.value, .view 1 (x.out.map ivRow) .shared]
def memNx (m : List Int) (e : Ef) : List Int := if e.stores = true then m.set e.addr.toNat e.word else m
def outNx (out : List Int) (e : Ef) : List Int := if e.prints = true then out ++ [e.print] else out
def runL : Nat → List Int → Cp → List Int → Oc
  | k, m, c, out => if c.pc = -1 then ⟨0, decide (c.get 13 ≠ 0), c.get 0, out⟩ else
    match k with
    | 0 => ⟨13, false, 0, out⟩
    | k + 1 => match stepP m c with
      | none => ⟨14, false, 0, out⟩
      | some e => runL k (memNx m e) e.cpu (outNx out e)
theorem runL_exit {k : Nat} {m : List Int} {c : Cp} {out : List Int} (h : c.pc = -1) : runL k m c out = ⟨0, decide (c.get 13 ≠ 0), c.get 0, out⟩ := by
  cases k <;> simp [runL, h]
theorem runL_fuel {m : List Int} {c : Cp} {out : List Int} (h : ¬ c.pc = -1) : runL 0 m c out = ⟨13, false, 0, out⟩ := by simp [runL, h]
theorem runL_fault {k : Nat} {m : List Int} {c : Cp} {out : List Int} (h : ¬ c.pc = -1) (hs : stepP m c = none) : runL (k + 1) m c out = ⟨14, false, 0, out⟩ := by simp [runL, h, hs]
theorem runL_step {k : Nat} {m : List Int} {c : Cp} {out : List Int} {e : Ef} (h : ¬ c.pc = -1) (hs : stepP m c = some e) : runL (k + 1) m c out = runL k (memNx m e) e.cpu (outNx out e) := by simp [runL, h, hs]
def mem0 (raw : List Int) (size : Nat) : List Int := (raw ++ List.replicate (size - raw.length) 0).set (size - 1) (-1)
def cpu0 (size : Nat) (entry : Int) (args : List Int) : Cp := ⟨[0] ++ args ++ (List.replicate (15 - args.length) 0).set (13 - args.length) ((size : Int) - 1), entry⟩
def runOk (n : Nat) (size : Int) (a : Nat) (steps : Int) : Prop := ¬ size < (n : Int) + 16 ∧ ¬ 16384 < size ∧ ¬ 4 < (a : Int) ∧ ¬ steps < 0 ∧ ¬ 200000 < steps
instance (n : Nat) (size : Int) (a : Nat) (steps : Int) : Decidable (runOk n size a steps) := by unfold runOk; infer_instance
def runP (raw : List Int) (size entry : Int) (args : List Int) (steps : Int) : Oc :=
  if runOk raw.length size args.length steps then runL steps.toNat (mem0 raw size.toNat) (cpu0 size.toNat entry args) [] else ⟨1, false, 0, []⟩
end Go.Proofs
/- The state of a run, and small laws of rows. No conditions: definitions and lemmas only. -/
namespace Go.Proofs
open Go.AM

theorem St.ext3 {a b : St} (h1 : a.obj = b.obj) (h2 : a.tok = b.tok) (h3 : a.glob = b.glob) : a = b := by
  cases a; cases b; simp_all
theorem StLe.of_eq {a b : St} (h : a = b) : StLe a b := h ▸ .refl _
def cpC (c : Cp) : AObj := .cells 35 17 [cpRow c]
/-- Three objects and a token above a state. -/
def RS (st : St) (o1 oM oC : Nat) (z : AObj) (m : List Int) (c : Cp) (tk : Nat) : St := (((st.set o1 z).set oM (memC m)).set oC (cpC c)).addTok tk
section
variable {st : St} {o1 oM oC : Nat} {z z' : AObj} {m m' : List Int} {c c' : Cp} {tk tk' : Nat}
theorem RS_o1 (h1 : o1 ≠ oM) (h2 : o1 ≠ oC) : (RS st o1 oM oC z m c tk).obj o1 = some z := by simp [RS, St.addTok, St.set, h1, h2]
theorem RS_oM (h3 : oM ≠ oC) : (RS st o1 oM oC z m c tk).obj oM = some (memC m) := by simp [RS, St.addTok, St.set, h3]
theorem RS_oC : (RS st o1 oM oC z m c tk).obj oC = some (cpC c) := by simp [RS, St.addTok, St.set]
theorem RS_set1 (h1 : o1 ≠ oM) (h2 : o1 ≠ oC) : (RS st o1 oM oC z m c tk).set o1 z' = RS st o1 oM oC z' m c tk := by
  refine St.ext3 (funext fun p => ?_) rfl rfl
  simp only [RS, St.addTok, St.set]
  by_cases a : p = o1
  · subst a; simp [h1, h2]
  · simp [a]
theorem RS_setM (h3 : oM ≠ oC) : (RS st o1 oM oC z m c tk).set oM (memC m') = RS st o1 oM oC z m' c tk := by
  refine St.ext3 (funext fun p => ?_) rfl rfl
  simp only [RS, St.addTok, St.set]
  by_cases a : p = oM
  · subst a; simp [h3]
  · simp [a]
theorem RS_setC : (RS st o1 oM oC z m c tk).set oC (cpC c') = RS st o1 oM oC z m c' tk := by
  refine St.ext3 (funext fun p => ?_) rfl rfl
  simp only [RS, St.addTok, St.set]
  by_cases a : p = oC
  · simp [a]
  · simp [a]
theorem RS_le (h1 : st.obj o1 = none) (h2 : st.obj oM = none) (h3 : st.obj oC = none) : StLe (RS st o1 oM oC z m c tk) st := by
  refine ⟨fun p x hx => ?_, fun t ht => ?_, rfl⟩
  · simp only [RS, St.addTok, St.set]
    by_cases a : p = oC
    · subst a; rw [h3] at hx; cases hx
    by_cases b : p = oM
    · subst b; rw [h2] at hx; cases hx
    by_cases d : p = o1
    · subst d; rw [h1] at hx; cases hx
    simp [a, b, d, hx]
  · simp only [RS, St.addTok, St.set]
    by_cases a : t = tk
    · simp [a]
    · simp [a, ht]
theorem RS_tok : (RS st o1 oM oC z m c tk).tok tk = true := by simp [RS, St.addTok]
theorem RS_new (h : (RS st o1 oM oC z m c tk).tok tk' = false) : st.tok tk' = false := by
  simp only [RS, St.addTok, St.set] at h
  by_cases a : tk' = tk
  · simp [a] at h
  · simpa [a] using h
theorem RS_re (h : st.tok tk = false) : StLe (((RS st o1 oM oC z m c tk).untok tk).addTok tk') (RS st o1 oM oC z m c tk') := by
  refine ⟨fun _ _ h => h, fun t ht => ?_, rfl⟩
  simp only [RS, St.addTok, St.untok, St.set] at ht ⊢
  by_cases a : t = tk'
  · simp [a]
  · simp only [a, if_false] at ht ⊢
    by_cases b : t = tk
    · subst b; rw [h] at ht; cases ht
    · simpa [b] using ht
end
theorem St.new_old' {st : St} {o1 oM oC : Nat} {a b : AObj} (h : ((st.set o1 a).set oM b).obj oC = none) : (st.set o1 a).obj oC = none := St.new_old h
theorem oc_nil (e v : Int) (t : Bool) : Le (.agg [.int .i64 e, .bool t, .int .i64 v, .view 0 [] .nil]) (.agg (ocRow ⟨e, t, v, []⟩)) := by
  refine .agg _ _ rfl (fun c hc => by simp only [ocRow, List.mem_cons, List.not_mem_nil, or_false] at hc; rcases hc with rfl | rfl | rfl | rfl <;> rfl) fun i a b h1 h2 => ?_
  match i, h1, h2 with
  | 0, h1, h2 => cases h1; cases h2; exact .refl _
  | 1, h1, h2 => cases h1; cases h2; exact .refl _
  | 2, h1, h2 => cases h1; cases h2; exact .refl _
  | 3, h1, h2 => cases h1; cases h2; exact .nilShared _ _
theorem oc_own (e v : Int) (t : Bool) (out : List Int) (tk : Tok) : Le (.agg [.int .i64 e, .bool t, .int .i64 v, .view 1 (out.map ivRow) tk]) (.agg (ocRow ⟨e, t, v, out⟩)) := by
  refine .agg _ _ rfl (fun c hc => by simp only [ocRow, List.mem_cons, List.not_mem_nil, or_false] at hc; rcases hc with rfl | rfl | rfl | rfl <;> rfl) fun i a b h1 h2 => ?_
  match i, h1, h2 with
  | 0, h1, h2 => cases h1; cases h2; exact .refl _
  | 1, h1, h2 => cases h1; cases h2; exact .refl _
  | 2, h1, h2 => cases h1; cases h2; exact .refl _
  | 3, h1, h2 => cases h1; cases h2; exact .shared _ _ _
theorem cp_put {r : List Int} {pc : Int} (h : r.length = 16) {n off : Nat} (ho : off = n) (hn : n < 16) (v : Int) : rowSet (cpRow ⟨r, pc⟩) off [.int .i64 v] = cpRow ⟨r.set n v, pc⟩ := by
  subst ho
  unfold rowSet cpRow
  simp only
  have hl : (r.map iv).length = 16 := by simp [h]
  rw [List.take_append_of_le_length (by omega), List.drop_append_of_le_length (by simp; omega)]
  rw [← List.append_assoc]
  congr 1
  rw [List.map_set, List.set_eq_take_append_cons_drop, if_pos (by omega)]
  simp [iv]
theorem ef_sel {e : Ef} (h : e.cpu.r.length = 16) : sel true 17 (efRow e) 0 = some (.agg (cpRow e.cpu)) := by
  unfold sel
  rw [show Nat.ble (0 + 17) (efRow e).length = true by rw [ef_len h]; rfl]
  simp only [cond_true, List.drop_zero, Option.some.injEq, AV.agg.injEq]
  unfold efRow cpRow
  rw [List.take_append]
  simp [h]
  exact List.take_of_length_le (by simp [h])
theorem mem_set {m : List Int} {a : Nat} (v : Int) : (m.map ivRow).set (0 + a) (rowSet [.int .i64 (memAt m a)] 0 [.int .i64 v]) = (m.set a v).map ivRow := by
  rw [Nat.zero_add, List.map_set]
  rfl
theorem zeros_map (n : Nat) : List.replicate n [AV.int .i64 0] = (List.replicate n (0 : Int)).map ivRow := by simp [ivRow, iv]
theorem copy_rows (raw : List Int) (n : Nat) : (((List.replicate n (0 : Int)).map ivRow).take 0 ++ (raw.map ivRow).take raw.length ++ ((List.replicate n (0 : Int)).map ivRow).drop (0 + raw.length)) = (raw ++ List.replicate (n - raw.length) 0).map ivRow := by
  simp [List.take_of_length_le]
theorem copy_args {args : List Int} {s pc : Int} (h : args.length ≤ 4) : rowSet (cpRow ⟨(List.replicate 16 0).set 14 s, pc⟩) 1 (args.map iv) = cpRow ⟨[0] ++ args ++ (List.replicate (15 - args.length) 0).set (13 - args.length) s, pc⟩ := by
  match args, h with
  | [], _ => rfl
  | [_], _ => rfl
  | [_, _], _ => rfl
  | [_, _, _], _ => rfl
  | [_, _, _, _], _ => rfl
theorem mem0_good {raw : List Int} (h : ∀ x ∈ raw, w64 x) (n : Nat) : ∀ x ∈ mem0 raw n, w64 x := by
  intro x hx
  unfold mem0 at hx
  rcases List.mem_or_eq_of_mem_set hx with h1 | h1
  · rcases List.mem_append.1 h1 with h2 | h2
    · exact h x h2
    · rw [(List.mem_replicate.1 h2).2]; exact w0
  · subst h1; exact ⟨by decide, by decide⟩
theorem mem0_len {raw : List Int} {n : Nat} (h : raw.length ≤ n) : (mem0 raw n).length = n := by
  unfold mem0
  simp
  omega
theorem cpu0_good {args : List Int} (h : args.length ≤ 4) (ha : ∀ x ∈ args, w64 x) {n : Nat} (hn : n ≤ 16384) {e : Int} (he : w64 e) : (cpu0 n e args).good := by
  refine ⟨?_, fun x hx => ?_, he⟩
  · unfold cpu0
    simp
    omega
  · unfold cpu0 at hx
    simp only [List.mem_append, List.mem_singleton] at hx
    rcases hx with (h1 | h1) | h1
    · subst h1; exact w0
    · exact ha x h1
    · rcases List.mem_or_eq_of_mem_set h1 with h2 | h2
      · rw [(List.mem_replicate.1 h2).2]; exact w0
      · subst h2; unfold w64; omega
theorem memNx_good {m : List Int} (hm : ∀ x ∈ m, w64 x) {e : Ef} (he : e.good) : ∀ x ∈ memNx m e, w64 x := by
  intro x hx
  unfold memNx at hx
  split at hx
  · rcases List.mem_or_eq_of_mem_set hx with h1 | h1
    · exact hm x h1
    · subst h1; exact he.word
  · exact hm x hx
theorem memNx_len (m : List Int) (e : Ef) : (memNx m e).length = m.length := by
  unfold memNx
  split
  · exact List.length_set ..
  · rfl
end Go.Proofs
