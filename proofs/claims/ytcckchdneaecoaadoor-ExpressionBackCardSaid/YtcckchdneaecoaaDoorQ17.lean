/- ExpressionBack: the law answers true at every input; its row and its tied card. No conditions. -/
import Derived.Test.YtcckchdneaecoaaDoorB5
namespace Go.Proofs.YtcckchdneaecoaaDoor.expressionBack
open Go.ChangeShapes Go.WideShapes Go.ChangeAt Go.RowKit Go.AM


set_option maxRecDepth 100000 in
theorem lifted (os : Os) (started : os.Started) (H : Type) (enc : TypeId × Value → H) :
    ReturnsInHanded {} Tryd.checked os 5 .any (fun w args => (Rows.expressionBackSpec.pre enc Tryd.prog Tryd.f5 [] false w args ∧ laidMetH Tryd.prog laidAll w) ∧ sizedMet enc Tryd.prog Tryd.f5 (OpenSpec.ofChange Rows.expressionBackSpec) false w args)
      (Rows.expressionBackSpec.post enc Tryd.prog Tryd.f5 false true false false) := by
  refine returnsInHanded_of_change_and (C := Tryd.checked) (X := fun w _ => laidMetH Tryd.prog laidAll w) (fun _ _ _ hh h => h.of_heap hh) own started (by kernel_rfl) Tryd.func5
    (ChangeSpec.witness_at (enc := enc) (C := Tryd.checked) (os := os) (X := fun w _ => laidMetH Tryd.prog laidAll w) false (World.laidAll Tryd.prog os laidAll) #[.slice none 0 0, .int .i64 0] 8 (World.laidAll_os _ _ _) (by kernel_rfl) (by kernel_rfl) (by kernel_rfl) (by kernel_rfl) (by kernel_rfl)
      (show laidMet Tryd.prog laidAll _ from laidMet_laidAll _ (by kernel_rfl) (by kernel_rfl))) ?_
  intro W base args ds gs before hval0 hW _ hwt hL _
  refine law_contractS (tb := 4) (S := _) _ laidOut kinds ?_ rfl ?_ (by kernel_rfl) Tryd.underlying4 W base args ds gs before hval0 hW hwt (tables hL) ?_
  · rw [Tryd.params5]
    intro t ht
    simp only [List.mem_cons, List.not_mem_nil, or_false] at ht
    rcases ht with rfl | rfl <;> exact ⟨by decide, by kernel_rfl, of_decide_eq_true (by kernel_rfl)⟩
  · intro ds hl
    rw [Tryd.params5] at hl
    match ds, hl with
    | [_, _], _ => rfl
  · intro avs hl hty hsm
    rw [Tryd.params5] at hl hty hsm
    match avs, hl with
    | [a, b], _ =>
      obtain ⟨xa, rfl, _, wa⟩ := arg_ints Tryd.underlying22 Tryd.underlying3 (by kernel_rfl) (hty 0 22 a rfl rfl)
      have ha := small_ints Tryd.underlying22 (by kernel_rfl) (hsm 0 22 _ rfl rfl)
      obtain ⟨xb, rfl, hb⟩ := arg_int Tryd.underlying3 (hty 1 3 b rfl rfl)
      exact ExpressionBack_ok xa ha wa xb hb _ hT

theorem over : Rows.ExpressionBackSaid :=
  OpenClaim.holds_of_wide 5 Tryd.f5 rfl rfl rfl rfl rfl rfl rfl ⟨rfl, rfl, rfl, rfl, rfl⟩ rfl rfl rfl rfl rfl (by kernel_rfl) Tryd.func5 (by kernel_rfl)
    (of_decide_eq_true (by kernel_rfl)) (by unfold Func.isWrapper; first | (rw [if_pos (by decide +kernel)]; kernel_rfl) | (rw [if_neg (by decide +kernel)]; exact ⟨rfl, rfl⟩))
    (fun os started H enc _ => lifted os started H enc)

theorem proved : Rows.ExpressionBackCardSaid :=
  Claim7.holds_tied_plain_at .later [] [.data, .data, .data, .data, .data, .data] true (true, "a214f5ea0c5b170d565b8565961ee5e640e87342d7bf26c539b21f055e390209") false
    over (fun _ h => by cases h) (by kernel_rfl) (fun _ h => by cases h) expressionBack_row_tie rfl ⟨rfl, rfl⟩ (by kernel_rfl) rfl
    (fun f fn hf hfn => by
      obtain rfl : f = 5 := Option.some.inj ((show Tryd.prog.funcNamed "debugger/debuggerlaw30.ExpressionBack" = some 5 by kernel_rfl).symm.trans hf) |>.symm
      obtain rfl : fn = Tryd.f5 := (Option.some.inj (Tryd.func5.symm.trans hfn)).symm
      exact ⟨by kernel_rfl, fun j t ht => by
        rw [Tryd.params5] at ht
        have hm : t ∈ [22, 3] := List.mem_of_getElem? (by simpa using ht)
        simp only [List.mem_cons, List.not_mem_nil, or_false] at hm
        rcases hm with rfl | rfl
        · exact (show Tryd.prog.wantsStandIn 22 = false by kernel_rfl)
        · exact (show Tryd.prog.wantsStandIn 3 = false by kernel_rfl)⟩)
    (by kernel_rfl)
#print axioms proved
end Go.Proofs.YtcckchdneaecoaaDoor.expressionBack
