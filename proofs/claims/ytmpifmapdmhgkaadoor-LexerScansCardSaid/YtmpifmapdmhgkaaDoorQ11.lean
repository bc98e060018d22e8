/- LexerScans: the law answers true at every input; its row and its tied card. No conditions. -/
import Derived.Test.YtmpifmapdmhgkaaDoorB5
namespace Go.Proofs.YtmpifmapdmhgkaaDoor.lexerScans
open Go.ChangeShapes Go.WideShapes Go.ChangeAt Go.RowKit Go.AM

set_option maxRecDepth 100000 in
theorem lifted (os : Os) (started : os.Started) (H : Type) (enc : TypeId × Value → H) :
    ReturnsInHanded {} Tryd.checked os 3 .any (fun w args => (Rows.lexerScansSpec.pre enc Tryd.prog Tryd.f3 [] false w args ∧ laidMetH Tryd.prog laidAll w) ∧ sizedMet enc Tryd.prog Tryd.f3 (OpenSpec.ofChange Rows.lexerScansSpec) false w args)
      (Rows.lexerScansSpec.post enc Tryd.prog Tryd.f3 false true false false) := by
  refine returnsInHanded_of_change_and (C := Tryd.checked) (X := fun w _ => laidMetH Tryd.prog laidAll w) (fun _ _ _ hh h => h.of_heap hh) own started (by kernel_rfl) Tryd.func3
    (ChangeSpec.witness_at (enc := enc) (C := Tryd.checked) (os := os) (X := fun w _ => laidMetH Tryd.prog laidAll w) false (World.laidAll Tryd.prog os laidAll) #[.string ⟨#[]⟩, .slice none 0 0] 8 (World.laidAll_os _ _ _) (by kernel_rfl) (by kernel_rfl) (by kernel_rfl) (by kernel_rfl) (by kernel_rfl)
      (show laidMet Tryd.prog laidAll _ from laidMet_laidAll _ (by kernel_rfl) (by kernel_rfl))) ?_
  intro W base args ds gs before hval0 hW _ hwt hL _
  refine law_contractS (tb := 4) (S := _) _ laidOut kinds ?_ rfl ?_ (by kernel_rfl) Tryd.underlying4 W base args ds gs before hval0 hW hwt (tables hL) ?_
  · rw [Tryd.params3]
    intro t ht
    simp only [List.mem_cons, List.not_mem_nil, or_false] at ht
    rcases ht with rfl | rfl <;> exact ⟨by decide, by kernel_rfl, of_decide_eq_true (by kernel_rfl)⟩
  · intro ds hl
    rw [Tryd.params3] at hl
    match ds, hl with
    | [_, _], _ => rfl
  · intro avs hl hty hsm
    rw [Tryd.params3] at hl hty hsm
    match avs, hl with
    | [a, b], _ =>
      obtain ⟨xa, rfl, _⟩ := arg_str Tryd.underlying9 (hty 0 9 a rfl rfl)
      have ha : xa.length ≤ 140737488351232 := hsm 0 9 _ rfl rfl
      obtain ⟨xb, rfl, _, wb⟩ := arg_ints Tryd.underlying22 Tryd.underlying3 (by kernel_rfl) (hty 1 22 b rfl rfl)
      have hb := small_ints Tryd.underlying22 (by kernel_rfl) (hsm 1 22 _ rfl rfl)
      exact LexerScans_ok xa ha xb hb wb _ rfl rfl

theorem over : Rows.LexerScansSaid :=
  OpenClaim.holds_of_wide 3 Tryd.f3 rfl rfl rfl rfl rfl rfl rfl ⟨rfl, rfl, rfl, rfl, rfl⟩ rfl rfl rfl rfl rfl (by kernel_rfl) Tryd.func3 (by kernel_rfl)
    (of_decide_eq_true (by kernel_rfl)) (by unfold Func.isWrapper; first | (rw [if_pos (by decide +kernel)]; kernel_rfl) | (rw [if_neg (by decide +kernel)]; exact ⟨rfl, rfl⟩))
    (fun os started H enc _ => lifted os started H enc)

theorem proved : Rows.LexerScansCardSaid :=
  Claim7.holds_tied_plain_at .later [] [.data, .data] true (true, "3566161e1332a9b5168803b1ae1f5e4e56fb6fe41994e096405f42d81f7f81f6") false
    over (fun _ h => by cases h) (by kernel_rfl) (fun _ h => by cases h) lexerScans_row_tie rfl ⟨rfl, rfl⟩ (by kernel_rfl) rfl
    (fun f fn hf hfn => by
      obtain rfl : f = 3 := Option.some.inj ((show Tryd.prog.funcNamed "debugger/debuggerlaw02.LexerScans" = some 3 by kernel_rfl).symm.trans hf) |>.symm
      obtain rfl : fn = Tryd.f3 := (Option.some.inj (Tryd.func3.symm.trans hfn)).symm
      exact ⟨by kernel_rfl, fun j t ht => by
        rw [Tryd.params3] at ht
        have hm : t ∈ [9, 22] := List.mem_of_getElem? (by simpa using ht)
        simp only [List.mem_cons, List.not_mem_nil, or_false] at hm
        rcases hm with rfl | rfl
        · exact (show Tryd.prog.wantsStandIn 9 = false by kernel_rfl)
        · exact (show Tryd.prog.wantsStandIn 22 = false by kernel_rfl)⟩)
    (by kernel_rfl)
#print axioms proved
end Go.Proofs.YtmpifmapdmhgkaaDoor.lexerScans
