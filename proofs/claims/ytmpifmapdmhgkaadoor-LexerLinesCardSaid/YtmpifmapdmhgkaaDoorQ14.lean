/- LexerLines: the law answers true at every input; its row and its tied card. No conditions. -/
import Derived.Test.YtmpifmapdmhgkaaDoorB6
namespace Go.Proofs.YtmpifmapdmhgkaaDoor.lexerLines
open Go.ChangeShapes Go.WideShapes Go.ChangeAt Go.RowKit Go.AM


set_option maxRecDepth 100000 in
theorem lifted (os : Os) (started : os.Started) (H : Type) (enc : TypeId × Value → H) :
    ReturnsInHanded {} Tryd.checked os 7 .any (fun w args => (Rows.lexerLinesSpec.pre enc Tryd.prog Tryd.f7 [] false w args ∧ laidMetH Tryd.prog laidAll w) ∧ sizedMet enc Tryd.prog Tryd.f7 (OpenSpec.ofChange Rows.lexerLinesSpec) false w args)
      (Rows.lexerLinesSpec.post enc Tryd.prog Tryd.f7 false true false false) := by
  refine returnsInHanded_of_change_and (C := Tryd.checked) (X := fun w _ => laidMetH Tryd.prog laidAll w) (fun _ _ _ hh h => h.of_heap hh) own started (by kernel_rfl) Tryd.func7
    (ChangeSpec.witness_at (enc := enc) (C := Tryd.checked) (os := os) (X := fun w _ => laidMetH Tryd.prog laidAll w) false (World.laidAll Tryd.prog os laidAll) #[.string ⟨#[]⟩, .slice none 0 0] 8 (World.laidAll_os _ _ _) (by kernel_rfl) (by kernel_rfl) (by kernel_rfl) (by kernel_rfl) (by kernel_rfl)
      (show laidMet Tryd.prog laidAll _ from laidMet_laidAll _ (by kernel_rfl) (by kernel_rfl))) ?_
  intro W base args ds gs before hval0 hW _ hwt hL _
  refine law_contractS (tb := 4) (S := _) _ laidOut kinds ?_ rfl ?_ (by kernel_rfl) Tryd.underlying4 W base args ds gs before hval0 hW hwt (tables hL) ?_
  · rw [Tryd.params7]
    intro t ht
    simp only [List.mem_cons, List.not_mem_nil, or_false] at ht
    rcases ht with rfl | rfl <;> exact ⟨by decide, by kernel_rfl, of_decide_eq_true (by kernel_rfl)⟩
  · intro ds hl
    rw [Tryd.params7] at hl
    match ds, hl with
    | [_, _], _ => rfl
  · intro avs hl hty hsm
    rw [Tryd.params7] at hl hty hsm
    match avs, hl with
    | [a, b], _ =>
      obtain ⟨xa, rfl, _⟩ := arg_str Tryd.underlying9 (hty 0 9 a rfl rfl)
      have ha : xa.length ≤ 140737488351232 := hsm 0 9 _ rfl rfl
      obtain ⟨xb, rfl, _, wb⟩ := arg_ints Tryd.underlying22 Tryd.underlying3 (by kernel_rfl) (hty 1 22 b rfl rfl)
      have hb := small_ints Tryd.underlying22 (by kernel_rfl) (hsm 1 22 _ rfl rfl)
      exact LexerLines_ok xa ha xb hb wb _ rfl rfl

theorem over : Rows.LexerLinesSaid :=
  OpenClaim.holds_of_wide 7 Tryd.f7 rfl rfl rfl rfl rfl rfl rfl ⟨rfl, rfl, rfl, rfl, rfl⟩ rfl rfl rfl rfl rfl (by kernel_rfl) Tryd.func7 (by kernel_rfl)
    (of_decide_eq_true (by kernel_rfl)) (by unfold Func.isWrapper; first | (rw [if_pos (by decide +kernel)]; kernel_rfl) | (rw [if_neg (by decide +kernel)]; exact ⟨rfl, rfl⟩))
    (fun os started H enc _ => lifted os started H enc)

theorem proved : Rows.LexerLinesCardSaid :=
  Claim7.holds_tied_plain_at .later [] [.data, .data] true (true, "3566161e1332a9b5168803b1ae1f5e4e56fb6fe41994e096405f42d81f7f81f6") false
    over (fun _ h => by cases h) (by kernel_rfl) (fun _ h => by cases h) lexerLines_row_tie rfl ⟨rfl, rfl⟩ (by kernel_rfl) rfl
    (fun f fn hf hfn => by
      obtain rfl : f = 7 := Option.some.inj ((show Tryd.prog.funcNamed "debugger/debuggerlaw02.LexerLines" = some 7 by kernel_rfl).symm.trans hf) |>.symm
      obtain rfl : fn = Tryd.f7 := (Option.some.inj (Tryd.func7.symm.trans hfn)).symm
      exact ⟨by kernel_rfl, fun j t ht => by
        rw [Tryd.params7] at ht
        have hm : t ∈ [9, 22] := List.mem_of_getElem? (by simpa using ht)
        simp only [List.mem_cons, List.not_mem_nil, or_false] at hm
        rcases hm with rfl | rfl
        · exact (show Tryd.prog.wantsStandIn 9 = false by kernel_rfl)
        · exact (show Tryd.prog.wantsStandIn 22 = false by kernel_rfl)⟩)
    (by kernel_rfl)
#print axioms proved
end Go.Proofs.YtmpifmapdmhgkaaDoor.lexerLines
