/- The next character, told in one way; short rules for literals. No conditions: lemmas only. -/
import Derived.Test.YtmpifmapdmhgkaaDoorAM21
namespace Go.AM
/-- The fields of a struct type, out of what is known of it. -/
abbrev fOf {P : Program} {t : TypeId} {fs : Array Field} (_ : P.underlying t = some (.struct fs)) : Array Field := fs

section
variable {P : Program} {n : Nat} {K : Post} {E : EPost} {T : Tmps} {st : St} {ops : Array Oper} {rest : List Oper}
variable {d : Tmp} {dd : Option Tmp} {x y z : Operand} {ty : TypeId} {pos : String} {es : Array Edge} {gd : Option (Nat × Bool)}

/-- What a character at a place of a text is: its number r, its bytes w. -/
structure CharAt (l : List UInt8) (ps : Nat) (c : UInt8) (r w : Nat) : Prop where
  pos : 1 ≤ w
  le : ps + w ≤ l.length
  low : c.toNat < 128 → r = c.toNat ∧ w = 1
  high : 128 ≤ c.toNat → 128 ≤ r ∧ ∀ j, ps ≤ j → j < ps + w → ∃ b, l[j]? = some b ∧ 128 ≤ b.toNat

theorem nxu {o ps : Nat} {l : List UInt8} {c : UInt8} (hg : goes ops n T ⟨dd, .next x true, ty, pos, es, gd⟩ = some d) (hx : ev st T x = some (.iter o)) (ho : st.obj o = some (.iter l ps)) (hc : l[ps]? = some c)
    (k : ∀ r w : Nat, CharAt l ps c r w → AOps P n ops rest K E ((d, .tuple [.bool true, .int .i64 (ps : Int), .int .i32 (r : Int)]) :: T) (st.set o (.iter l (ps + w)))) :
    AOps P n ops (⟨dd, .next x true, ty, pos, es, gd⟩ :: rest) K E T st := by
  have hlt : ps < l.length := (List.getElem?_eq_some_iff.1 hc).1
  refine nxs hg hx ho hc (fun h => k c.toNat 1 ⟨Nat.le_refl _, hlt, fun _ => ⟨rfl, rfl⟩, fun h' => by omega⟩) (fun h r w h1 h2 h3 h4 => k r w ⟨h2, h3, fun h' => by omega, fun _ => ⟨h1, fun j hj hj' => ?_⟩⟩)
  rcases Nat.lt_or_ge ps j with hp | hp
  · exact h4 j hp hj'
  · have : j = ps := by omega
    subst this
    exact ⟨c, hc, h⟩
end
end Go.AM
