/- LexerSpoilt: the law answers true at every input; its row and its tied card. No conditions. -/
import Derived.Test.YtmpifmapdmhgkaaDoorB5
namespace Go.Proofs.YtmpifmapdmhgkaaDoor.lexerSpoilt
open Go.ChangeShapes Go.WideShapes Go.ChangeAt Go.RowKit Go.AM

theorem kinds8 : ∀ t ∈ [3, 9, 22, 5], Go.AM.kindOk Tryd.prog [3, 9, 22, 5] t = true := by
  intro t ht
  simp only [List.mem_cons, List.not_mem_nil, or_false] at ht
  rcases ht with rfl | rfl | rfl | rfl <;> kernel_rfl

set_option maxRecDepth 100000 in
theorem lifted (os : Os) (started : os.Started) (H : Type) (enc : TypeId × Value → H) :
    ReturnsInHanded {} Tryd.checked os 4 .any (fun w args => (Rows.lexerSpoiltSpec.pre enc Tryd.prog Tryd.f4 [] false w args ∧ laidMetH Tryd.prog laidAll w) ∧ sizedMet enc Tryd.prog Tryd.f4 (OpenSpec.ofChange Rows.lexerSpoiltSpec) false w args)
      (Rows.lexerSpoiltSpec.post enc Tryd.prog Tryd.f4 false true false false) := by
  refine returnsInHanded_of_change_and (C := Tryd.checked) (X := fun w _ => laidMetH Tryd.prog laidAll w) (fun _ _ _ hh h => h.of_heap hh) own started (by kernel_rfl) Tryd.func4
    (ChangeSpec.witness_at (enc := enc) (C := Tryd.checked) (os := os) (X := fun w _ => laidMetH Tryd.prog laidAll w) false (World.laidAll Tryd.prog os laidAll) #[.slice none 0 0, .int .i64 0, .int .i64 0, .int .u8 0] 8 (World.laidAll_os _ _ _) (by kernel_rfl) (by kernel_rfl) (by kernel_rfl) (by kernel_rfl) (by kernel_rfl)
      (show laidMet Tryd.prog laidAll _ from laidMet_laidAll _ (by kernel_rfl) (by kernel_rfl))) ?_
  intro W base args ds gs before hval0 hW _ hwt hL _
  refine law_contractS (tb := 4) (S := _) _ laidOut kinds8 ?_ rfl ?_ (by kernel_rfl) Tryd.underlying4 W base args ds gs before hval0 hW hwt (tables hL) ?_
  · rw [Tryd.params4]
    intro t ht
    simp only [List.mem_cons, List.not_mem_nil, or_false] at ht
    rcases ht with rfl | rfl | rfl | rfl <;> exact ⟨by decide, by kernel_rfl, of_decide_eq_true (by kernel_rfl)⟩
  · intro ds hl
    rw [Tryd.params4] at hl
    match ds, hl with
    | [_, _, _, _], _ => rfl
  · intro avs hl hty hsm
    rw [Tryd.params4] at hl hty hsm
    match avs, hl with
    | [a, b, c, d], _ =>
      obtain ⟨xa, rfl, _, wa⟩ := arg_ints Tryd.underlying22 Tryd.underlying3 (by kernel_rfl) (hty 0 22 a rfl rfl)
      have ha := small_ints Tryd.underlying22 (by kernel_rfl) (hsm 0 22 _ rfl rfl)
      obtain ⟨xb, rfl, hb⟩ := arg_int Tryd.underlying3 (hty 1 3 b rfl rfl)
      obtain ⟨xc, rfl, hc⟩ := arg_int Tryd.underlying3 (hty 2 3 c rfl rfl)
      obtain ⟨xd, rfl, hd⟩ := arg_int Tryd.underlying5 (hty 3 5 d rfl rfl)
      exact LexerSpoilt_ok xa ha wa xb hb xc hc xd hd _ rfl rfl

theorem over : Rows.LexerSpoiltSaid :=
  OpenClaim.holds_of_wide 4 Tryd.f4 rfl rfl rfl rfl rfl rfl rfl ⟨rfl, rfl, rfl, rfl, rfl⟩ rfl rfl rfl rfl rfl (by kernel_rfl) Tryd.func4 (by kernel_rfl)
    (of_decide_eq_true (by kernel_rfl)) (by unfold Func.isWrapper; first | (rw [if_pos (by decide +kernel)]; kernel_rfl) | (rw [if_neg (by decide +kernel)]; exact ⟨rfl, rfl⟩))
    (fun os started H enc _ => lifted os started H enc)

theorem proved : Rows.LexerSpoiltCardSaid :=
  Claim7.holds_tied_plain_at .later [] [.data, .data] true (true, "3566161e1332a9b5168803b1ae1f5e4e56fb6fe41994e096405f42d81f7f81f6") false
    over (fun _ h => by cases h) (by kernel_rfl) (fun _ h => by cases h) lexerSpoilt_row_tie rfl ⟨rfl, rfl⟩ (by kernel_rfl) rfl
    (fun f fn hf hfn => by
      obtain rfl : f = 4 := Option.some.inj ((show Tryd.prog.funcNamed "debugger/debuggerlaw02.LexerSpoilt" = some 4 by kernel_rfl).symm.trans hf) |>.symm
      obtain rfl : fn = Tryd.f4 := (Option.some.inj (Tryd.func4.symm.trans hfn)).symm
      exact ⟨by kernel_rfl, fun j t ht => by
        rw [Tryd.params4] at ht
        have hm : t ∈ [22, 3, 3, 5] := List.mem_of_getElem? (by simpa using ht)
        simp only [List.mem_cons, List.not_mem_nil, or_false] at hm
        rcases hm with rfl | rfl | rfl | rfl
        · exact (show Tryd.prog.wantsStandIn 22 = false by kernel_rfl)
        · exact (show Tryd.prog.wantsStandIn 3 = false by kernel_rfl)
        · exact (show Tryd.prog.wantsStandIn 3 = false by kernel_rfl)
        · exact (show Tryd.prog.wantsStandIn 5 = false by kernel_rfl)⟩)
    (by kernel_rfl)
#print axioms proved
end Go.Proofs.YtmpifmapdmhgkaaDoor.lexerSpoilt
