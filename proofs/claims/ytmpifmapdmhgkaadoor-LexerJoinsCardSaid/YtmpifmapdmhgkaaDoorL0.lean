/- Tokens and the lexer, in plain lists of bytes. No conditions: definitions only. -/
import Derived.Test.YtmpifmapdmhgkaaDoorAM23
namespace Go.Proofs
open Go.AM

structure Tk where
  kind : Nat
  line : Nat
  text : List UInt8
  num : Nat
  deriving DecidableEq

def nv : AV := .view 0 [] .nil
def tokRow (t : Tk) : List AV := [.int .i64 (t.kind : Int), .int .i64 (t.line : Int), .str t.text, .int .i64 (t.num : Int)]

def isLet (c : UInt8) : Bool := (decide (97 ≤ c.toNat) && decide (c.toNat ≤ 122)) || (decide (65 ≤ c.toNat) && decide (c.toNat ≤ 90)) || decide (c.toNat = 95)
def isDig (c : UInt8) : Bool := decide (48 ≤ c.toNat) && decide (c.toNat ≤ 57)
def isNP (c : UInt8) : Bool := isLet c || isDig c

/-- Blanks and comments are passed; the first: within a comment. -/
def skip : Bool → List UInt8 → Nat → List UInt8 × Nat
  | _, [], l => ([], l)
  | cm, c :: r, l => if c = 10 then skip false r (l + 1) else bif cm then skip true r l else if c = 32 ∨ c = 9 ∨ c = 13 then skip false r l else if c = 47 ∧ r.head? = some 47 then skip true r l else (c :: r, l)

def words : List (List UInt8) := [[114, 101, 99, 111, 114, 100], [102, 117, 110, 99], [118, 97, 114], [105, 110, 116], [105, 102], [101, 108, 115, 101], [119, 104, 105, 108, 101], [114, 101, 116, 117, 114, 110], [116, 104, 114, 111, 119], [116, 114, 121], [99, 97, 116, 99, 104], [112, 114, 105, 110, 116]]
def signs2 : List (List UInt8) := [[60, 61], [61, 61], [33, 61]]
def signs1 : List UInt8 := [40, 41, 123, 125, 91, 93, 44, 59, 58, 46, 43, 45, 42, 47, 37, 38, 124, 94, 60, 61, 33]

def sign (s : List UInt8) : List UInt8 :=
  if s.take 2 ∈ signs2 then s.take 2 else match s with
    | c :: _ => if c ∈ signs1 then [c] else []
    | [] => []

def digits (l : List UInt8) : Nat := l.foldl (fun v c => v * 10 + (c.toNat - 48)) 0

/-- The token that begins here, and how many bytes it has; or an error. -/
def one (s : List UInt8) (line : Nat) : Except Nat (Tk × Nat) :=
  match s with
  | [] => .error 6
  | c :: _ => bif isLet c then (let nm := s.takeWhile isNP; if 12 < nm.length then .error 5 else .ok (⟨if nm ∈ words then 3 else 1, line, nm, 0⟩, nm.length))
    else bif isDig c then (let ds := s.takeWhile isDig; if 18 < ds.length then .error 5 else if ((s.drop ds.length).head?.map isNP).getD false = true then .error 6 else .ok (⟨2, line, [], digits ds⟩, ds.length))
    else if sign s = [] then .error 6 else .ok (⟨4, line, sign s, 0⟩, (sign s).length)

def scanL : Nat → List UInt8 → Nat → List Tk → List Tk × Nat × Nat
  | 0, _, _, _ => ([], 0, 0)
  | _ + 1, [], line, out => (out ++ [⟨0, line, [], 0⟩], 0, 0)
  | k + 1, c :: r, line, out => match one (c :: r) line with
    | .error e => ([], line, e)
    | .ok (t, m) => if 2000 ≤ out.length then ([], line, 5) else
      scanL k (skip false ((c :: r).drop m) line).1 (skip false ((c :: r).drop m) line).2 (out ++ [t])

def scan (s : List UInt8) : List Tk × Nat × Nat :=
  if 4000 < s.length then ([], 0, 5) else scanL (s.length + 1) (skip false s 1).1 (skip false s 1).2 []

def scanV (r : List Tk × Nat × Nat) : AV := .tuple [.view 4 (r.1.map tokRow) .shared, .int .i64 (r.2.1 : Int), .int .i64 (r.2.2 : Int)]
end Go.Proofs
