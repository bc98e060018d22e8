/- EvaluateOperators: the law answers true at every input; its row and its tied card. No conditions. -/
import Derived.Test.YtnebahlonhfphaaGreatDoorB14
namespace Go.Proofs.YtnebahlonhfphaaGreatDoor.evaluateOperators
open Go.ChangeShapes Go.WideShapes Go.ChangeAt Go.RowKit Go.AM


set_option maxRecDepth 100000 in
theorem lifted (os:Os) (started:os.Started) (H:Type) (enc:TypeId × Value→H) :
  ReturnsInHanded {} Tryz.checked os 3 .any (fun w args=>(Rows.evaluateOperatorsSpec.pre enc Tryz.prog Tryz.f3 [] false w args∧laidMetH Tryz.prog laidAll w)∧sizedMet enc Tryz.prog Tryz.f3 (OpenSpec.ofChange Rows.evaluateOperatorsSpec) false w args)
   (Rows.evaluateOperatorsSpec.post enc Tryz.prog Tryz.f3 false true false false):=by
 refine returnsInHanded_of_change_and (C:=Tryz.checked) (X:=fun w _=>laidMetH Tryz.prog laidAll w) (fun _ _ _ hh h=>h.of_heap hh) own started (by kernel_rfl) Tryz.func3
  (ChangeSpec.witness_at (enc:=enc) (C:=Tryz.checked) (os:=os) (X:=fun w _=>laidMetH Tryz.prog laidAll w) false (World.laidAll Tryz.prog os laidAll) #[.int .i64 0,.int .i64 0,.int .i64 0] 8 (World.laidAll_os _ _ _) (by kernel_rfl) (by kernel_rfl) (by kernel_rfl) (by kernel_rfl) (by kernel_rfl)
   (show laidMet Tryz.prog laidAll _ from laidMet_laidAll _ (by kernel_rfl) (by kernel_rfl))) ?_
 intro W base args ds gs before hval0 hW _ hwt hL _
 refine law_contractS (tb:=4) (S:=_) _ laidOut kinds ?_ rfl ?_ (by kernel_rfl) Tryz.underlying4 W base args ds gs before hval0 hW hwt (tables hL) ?_
 ·rw [Tryz.params3]
  intro t ht
  simp only [List.mem_cons,List.not_mem_nil,or_false,or_self] at ht
  rcases ht with rfl <;> exact ⟨by decide,by kernel_rfl,of_decide_eq_true (by kernel_rfl)⟩
 ·intro ds hl
  rw [Tryz.params3] at hl
  match ds,hl with
  | [_,_,_],_=>rfl
 ·intro avs hl hty hsm
  rw [Tryz.params3] at hl hty hsm
  match avs,hl with
  | [a,b,c],_ =>
   obtain ⟨xa,rfl,ha⟩:=arg_int Tryz.underlying3 (hty 0 3 a rfl rfl)
   obtain ⟨xb,rfl,hb⟩:=arg_int Tryz.underlying3 (hty 1 3 b rfl rfl)
   obtain ⟨xc,rfl,hc⟩:=arg_int Tryz.underlying3 (hty 2 3 c rfl rfl)
   exact EvaluateOperators_ok xa ha xb hb xc hc _ 

theorem over:Rows.EvaluateOperatorsSaid :=
 OpenClaim.holds_of_wide 3 Tryz.f3 rfl rfl rfl rfl rfl rfl rfl ⟨rfl,rfl,rfl,rfl,rfl⟩ rfl rfl rfl rfl rfl (by kernel_rfl) Tryz.func3 facts
  (of_decide_eq_true (by kernel_rfl)) (by unfold Func.isWrapper; first|(rw [if_pos (by decide +kernel)]; kernel_rfl)|(rw [if_neg (by decide +kernel)]; exact ⟨rfl,rfl⟩))
  (fun os started H enc _=>lifted os started H enc)

theorem proved:Rows.EvaluateOperatorsCardSaid :=
 Claim7.holds_tied_plain_at .later [] [.data, .data, .data] true (true, "3c7bed87286b3f7a866ee7bd8b868bda35d20b78b0a39e78dafcfaf26bf6c7ce") false
  over (fun _ h=>by cases h) (by kernel_rfl) (fun _ h=>by cases h) evaluateOperators_row_tie rfl ⟨rfl,rfl⟩ (by kernel_rfl) rfl
  (fun f fn hf hfn=>by
   obtain rfl : f = 3 := Option.some.inj ((show Tryz.prog.funcNamed "debugger/debuggerlaw31.EvaluateOperators" = some 3 by kernel_rfl).symm.trans hf) |>.symm
   obtain rfl:fn=Tryz.f3:=(Option.some.inj (Tryz.func3.symm.trans hfn)).symm
   exact ⟨by kernel_rfl,fun j t ht=>by
    rw [Tryz.params3] at ht
    have hm:t ∈ [3,3,3]:=List.mem_of_getElem? (by simpa using ht)
    simp only [List.mem_cons,List.not_mem_nil,or_false,or_self] at hm
    rcases hm with rfl
    ·exact (show Tryz.prog.wantsStandIn 3=false by kernel_rfl)⟩)
  (by kernel_rfl)
#print axioms proved
end Go.Proofs.YtnebahlonhfphaaGreatDoor.evaluateOperators
