/- ParserLines: the law answers true at every input; its row and its tied card. No conditions. -/
import Derived.Test.YthjcphjabiajbaaGreatDoorB6
namespace Go.Proofs.YthjcphjabiajbaaGreatDoor.parserLines
open Go.ChangeShapes Go.WideShapes Go.ChangeAt Go.RowKit Go.AM
set_option maxRecDepth 100000 in
theorem lifted (os:Os) (started:os.Started) (H:Type) (enc:TypeId × Value→H) :
  ReturnsInHanded {} Tryz.checked os 3 .any (fun w args=>(Rows.parserLinesSpec.pre enc Tryz.prog Tryz.f3 [] false w args∧laidMetH Tryz.prog laidAll w)∧sizedMet enc Tryz.prog Tryz.f3 (OpenSpec.ofChange Rows.parserLinesSpec) false w args)
   (Rows.parserLinesSpec.post enc Tryz.prog Tryz.f3 false true false false):=by
 refine returnsInHanded_of_change_and (C:=Tryz.checked) (X:=fun w _=>laidMetH Tryz.prog laidAll w) (fun _ _ _ hh h=>h.of_heap hh) own started (by kernel_rfl) Tryz.func3
  (ChangeSpec.witness_at (enc:=enc) (C:=Tryz.checked) (os:=os) (X:=fun w _=>laidMetH Tryz.prog laidAll w) false (World.laidAll Tryz.prog os laidAll) #[.slice none 0 0] 8 (World.laidAll_os _ _ _) (by kernel_rfl) (by kernel_rfl) (by kernel_rfl) (by kernel_rfl) (by kernel_rfl)
   (show laidMet Tryz.prog laidAll _ from laidMet_laidAll _ (by kernel_rfl) (by kernel_rfl))) ?_
 intro W base args ds gs before hval0 hW _ hwt hL _;refine law_contractS (tb:=4) (S:=_) _ laidOut kinds ?_ rfl ?_ (by kernel_rfl) Tryz.underlying4 W base args ds gs before hval0 hW hwt (tables hL) ?_
 ·rw [Tryz.params3];intro t ht;simp only [List.mem_cons,List.not_mem_nil,or_false] at ht;rcases ht with rfl <;> exact ⟨by decide,by kernel_rfl,of_decide_eq_true (by kernel_rfl)⟩
 ·intro ds hl;rw [Tryz.params3] at hl
  match ds,hl with
  | [_],_=>rfl
 ·intro avs hl hty hsm;rw [Tryz.params3] at hl hty hsm
  match avs,hl with
  | [a],_ =>
   obtain ⟨xa,rfl,_,wa⟩:=arg_ints Tryz.underlying22 Tryz.underlying3 (by kernel_rfl) (hty 0 22 a rfl rfl);have ha:=small_ints Tryz.underlying22 (by kernel_rfl) (hsm 0 22 _ rfl rfl);exact ParserLines_ok xa ha wa _ hT

theorem over:Rows.ParserLinesSaid :=
 OpenClaim.holds_of_wide 3 Tryz.f3 rfl rfl rfl rfl rfl rfl rfl ⟨rfl,rfl,rfl,rfl,rfl⟩ rfl rfl rfl rfl rfl (by kernel_rfl) Tryz.func3 (by kernel_rfl)
  (of_decide_eq_true (by kernel_rfl)) (by unfold Func.isWrapper; first|(rw [if_pos (by decide +kernel)]; kernel_rfl)|(rw [if_neg (by decide +kernel)]; exact ⟨rfl,rfl⟩))
  (fun os started H enc _=>lifted os started H enc)

theorem proved:Rows.ParserLinesCardSaid :=
 Claim7.holds_tied_plain_at .later [] [.data, .data, .data, .data, .data, .data] true (true, "6cd6353aa516256812d4cccc0aa2862a00c5b4520e5d57f29181c41341007851") true
  over (fun _ h=>by cases h) (by kernel_rfl) (fun _ h=>by cases h) parserLines_row_tie rfl ⟨rfl,rfl⟩ (by kernel_rfl) rfl
  (fun f fn hf hfn=>by
   obtain rfl : f = 3 := Option.some.inj ((show Tryz.prog.funcNamed "debugger/debuggerlaw03.ParserLines" = some 3 by kernel_rfl).symm.trans hf) |>.symm
   obtain rfl:fn=Tryz.f3:=(Option.some.inj (Tryz.func3.symm.trans hfn)).symm;exact ⟨by kernel_rfl,fun j t ht=>by
    rw [Tryz.params3] at ht;have hm:t ∈ [22]:=List.mem_of_getElem? (by simpa using ht);simp only [List.mem_cons,List.not_mem_nil,or_false] at hm;rcases hm with rfl
    ·exact (show Tryz.prog.wantsStandIn 22=false by kernel_rfl)⟩)
  (by kernel_rfl)
#print axioms proved
end Go.Proofs.YthjcphjabiajbaaGreatDoor.parserLines
