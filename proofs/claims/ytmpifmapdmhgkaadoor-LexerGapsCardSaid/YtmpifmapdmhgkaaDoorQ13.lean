/- LexerGaps: the law answers true at every input; its row and its tied card. No conditions. -/
import Derived.Test.YtmpifmapdmhgkaaDoorB6
namespace Go.Proofs.YtmpifmapdmhgkaaDoor.lexerGaps
open Go.ChangeShapes Go.WideShapes Go.ChangeAt Go.RowKit Go.AM


set_option maxRecDepth 100000 in
theorem lifted (os : Os) (started : os.Started) (H : Type) (enc : TypeId × Value → H) :
    ReturnsInHanded {} Tryd.checked os 5 .any (fun w args => (Rows.lexerGapsSpec.pre enc Tryd.prog Tryd.f5 [] false w args ∧ laidMetH Tryd.prog laidAll w) ∧ sizedMet enc Tryd.prog Tryd.f5 (OpenSpec.ofChange Rows.lexerGapsSpec) false w args)
      (Rows.lexerGapsSpec.post enc Tryd.prog Tryd.f5 false true false false) := by
  refine returnsInHanded_of_change_and (C := Tryd.checked) (X := fun w _ => laidMetH Tryd.prog laidAll w) (fun _ _ _ hh h => h.of_heap hh) own started (by kernel_rfl) Tryd.func5
    (ChangeSpec.witness_at (enc := enc) (C := Tryd.checked) (os := os) (X := fun w _ => laidMetH Tryd.prog laidAll w) false (World.laidAll Tryd.prog os laidAll) #[.slice none 0 0, .slice none 0 0] 8 (World.laidAll_os _ _ _) (by kernel_rfl) (by kernel_rfl) (by kernel_rfl) (by kernel_rfl) (by kernel_rfl)
      (show laidMet Tryd.prog laidAll _ from laidMet_laidAll _ (by kernel_rfl) (by kernel_rfl))) ?_
  intro W base args ds gs before hval0 hW _ hwt hL _
  refine law_contractS (tb := 4) (S := _) _ laidOut kinds ?_ rfl ?_ (by kernel_rfl) Tryd.underlying4 W base args ds gs before hval0 hW hwt (tables hL) ?_
  · rw [Tryd.params5]
    intro t ht
    simp only [List.mem_cons, List.not_mem_nil, or_false, or_self] at ht
    rcases ht with rfl <;> exact ⟨by decide, by kernel_rfl, of_decide_eq_true (by kernel_rfl)⟩
  · intro ds hl
    rw [Tryd.params5] at hl
    match ds, hl with
    | [_, _], _ => rfl
  · intro avs hl hty hsm
    rw [Tryd.params5] at hl hty hsm
    match avs, hl with
    | [a, b], _ =>
      obtain ⟨xa, rfl, _, wa⟩ := arg_ints Tryd.underlying22 Tryd.underlying3 (by kernel_rfl) (hty 0 22 a rfl rfl)
      have ha := small_ints Tryd.underlying22 (by kernel_rfl) (hsm 0 22 _ rfl rfl)
      obtain ⟨xb, rfl, _, wb⟩ := arg_ints Tryd.underlying22 Tryd.underlying3 (by kernel_rfl) (hty 1 22 b rfl rfl)
      have hb := small_ints Tryd.underlying22 (by kernel_rfl) (hsm 1 22 _ rfl rfl)
      exact LexerGaps_ok xa ha wa xb hb wb _ rfl rfl

theorem over : Rows.LexerGapsSaid :=
  OpenClaim.holds_of_wide 5 Tryd.f5 rfl rfl rfl rfl rfl rfl rfl ⟨rfl, rfl, rfl, rfl, rfl⟩ rfl rfl rfl rfl rfl (by kernel_rfl) Tryd.func5 (by kernel_rfl)
    (of_decide_eq_true (by kernel_rfl)) (by unfold Func.isWrapper; first | (rw [if_pos (by decide +kernel)]; kernel_rfl) | (rw [if_neg (by decide +kernel)]; exact ⟨rfl, rfl⟩))
    (fun os started H enc _ => lifted os started H enc)

theorem proved : Rows.LexerGapsCardSaid :=
  Claim7.holds_tied_plain_at .later [] [.data, .data] true (true, "3566161e1332a9b5168803b1ae1f5e4e56fb6fe41994e096405f42d81f7f81f6") false
    over (fun _ h => by cases h) (by kernel_rfl) (fun _ h => by cases h) lexerGaps_row_tie rfl ⟨rfl, rfl⟩ (by kernel_rfl) rfl
    (fun f fn hf hfn => by
      obtain rfl : f = 5 := Option.some.inj ((show Tryd.prog.funcNamed "debugger/debuggerlaw02.LexerGaps" = some 5 by kernel_rfl).symm.trans hf) |>.symm
      obtain rfl : fn = Tryd.f5 := (Option.some.inj (Tryd.func5.symm.trans hfn)).symm
      exact ⟨by kernel_rfl, fun j t ht => by
        rw [Tryd.params5] at ht
        have hm : t ∈ [22, 22] := List.mem_of_getElem? (by simpa using ht)
        simp only [List.mem_cons, List.not_mem_nil, or_false, or_self] at hm
        rcases hm with rfl
        · exact (show Tryd.prog.wantsStandIn 22 = false by kernel_rfl)⟩)
    (by kernel_rfl)
#print axioms proved
end Go.Proofs.YtmpifmapdmhgkaaDoor.lexerGaps
