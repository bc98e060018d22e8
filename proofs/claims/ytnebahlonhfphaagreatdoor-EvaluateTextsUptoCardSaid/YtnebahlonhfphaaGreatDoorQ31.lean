/- EvaluateTexts, where what it reads is of bulk at most 1048576: the law answers true; its row and its tied card. No conditions. -/
import Derived.Deep.DeepHandedRow
import Derived.Test.YtnebahlonhfphaaGreatDoorB15
namespace Go.Proofs.YtnebahlonhfphaaGreatDoor.evaluateTexts
open Go.ChangeShapes Go.WideShapes Go.ChangeAt Go.RowKit Go.AM

theorem reads (os:Os) {H:Type} (enc:TypeId × Value→H):∃ places,DataW.whole enc Tryz.prog ((World.laidAll Tryz.prog os laidAll).forCall (fun _ _=>0) ⟨#[],#[.agg #[.int .i64 0,.int .i64 0,.slice none 0 0,.slice none 0 0],.agg #[.int .i64 0,.int .i64 0,.slice none 0 0,.slice none 0 0],.slice none 0 0,.int .i64 0,.int .i64 0,.int .i64 0],[]⟩).memory Tryz.f4.params.toList Rows.evaluateTextsSpec.vars false
  #[.agg #[.int .i64 0,.int .i64 0,.slice none 0 0,.slice none 0 0],.agg #[.int .i64 0,.int .i64 0,.slice none 0 0,.slice none 0 0],Value.slice none 0 0,.int .i64 0,.int .i64 0,.int .i64 0].toList 8 =
  some ([.agg [.lit (.int .i64 0),.lit (.int .i64 0),.nil,.nil],.agg [.lit (.int .i64 0),.lit (.int .i64 0),.nil,.nil],.nil,.lit (.int .i64 0),.lit (.int .i64 0),.lit (.int .i64 0)],[],places):=⟨[],by kernel_rfl⟩

set_option maxRecDepth 100000 in
theorem contract (H:Type) (enc:TypeId × Value→H) (W:World) (base:Nat) (args:Array Value) (ds gs:List (DataW H)) (before:List MemPlace)
  (hval:∀ (j:Nat) t v,Tryz.f4.params[j]?=some t→args[j]?=some v→Value.okWide Tryz.prog W .any base t v)
  (hW:DataW.Whole enc Tryz.prog Tryz.f4.params.toList Rows.evaluateTextsSpec.vars false W args.toList ds gs before) (hk:Rows.uptoSmall H (ds++gs)=true) (hL:laidMetH Tryz.prog laidAll W) :
  Calls Tryz.prog 4 args W fun e W'=>∃ v,e=.returned v∧Rows.evaluateTextsSpec.post enc Tryz.prog Tryz.f4 false true false false W args v W':=by
 refine law_contractM (M:=67108864) (tb:=4) (S:=kindL) (us:=[]) _ laidOut kinds7 ?_ rfl ?_ (by kernel_rfl) Tryz.underlying4 W base args ds gs before hval hW (small7 ?_ hk) (tables7 hL) ?_
 ·rw [Tryz.params4]
  intro t ht
  simp only [List.mem_cons,List.not_mem_nil,or_false,or_self] at ht
  rcases ht with rfl|rfl|rfl|rfl|rfl|rfl <;> exact ⟨by decide,by kernel_rfl,of_decide_eq_true (by kernel_rfl)⟩
 ·intro ds hl
  rw [Tryz.params4] at hl
  match ds,hl with
  | [_,_,_,_,_,_],_=>rfl
 ·rw [Tryz.params4]
  decide
 ·intro avs hl hty
  rw [Tryz.params4] at hl hty
  match avs,hl with
  | [a,b,c,d,e,f],_ =>
   obtain ⟨xa,rfl,ha⟩:=arg_dat (hty 0 49 a rfl rfl)
   obtain ⟨xb,rfl,hb⟩:=arg_dat (hty 1 49 b rfl rfl)
   obtain ⟨xc,rfl,hc⟩:=arg_recs (hty 2 22 c rfl rfl)
   obtain ⟨xd,rfl,hd⟩:=argM_int Tryz.underlying3 (hty 3 3 d rfl rfl)
   obtain ⟨xe,rfl,he⟩:=argM_int Tryz.underlying3 (hty 4 3 e rfl rfl)
   obtain ⟨xf,rfl,hf⟩:=argM_int Tryz.underlying3 (hty 5 3 f rfl rfl)
   exact EvaluateTexts_ok xa xb ha hb xc hc xd xe xf hd he hf _ (fun _=>rfl) (List.mem_cons_self ..)

set_option maxRecDepth 100000 in
theorem lifted (os:Os) (started:os.Started) (H:Type) (enc:TypeId × Value→H) (F:Stop.Interp) :
  ReturnsInHanded {} Tryz.checked os 4 .any ((Rows.OpenSpec.upto Rows.evaluateTextsSpec).preRow enc Tryz.prog Tryz.f4 Rows.evaluateTextsUptoRow.domain false Rows.evaluateTextsUptoRow.laid) (((Rows.OpenSpec.upto Rows.evaluateTextsSpec).at F).post enc Tryz.prog Tryz.f4 false true false false):=by
 obtain ⟨places,hx⟩:=reads os enc
 refine returnsInHanded_of_row (C:=Tryz.checked) (s:=Rows.OpenSpec.upto Rows.evaluateTextsSpec) own started (by kernel_rfl) Tryz.func4
  (witness_row_at (enc:=enc) (C:=Tryz.checked) false (World.laidAll Tryz.prog os laidAll) #[.agg #[.int .i64 0,.int .i64 0,.slice none 0 0,.slice none 0 0],.agg #[.int .i64 0,.int .i64 0,.slice none 0 0,.slice none 0 0],.slice none 0 0,.int .i64 0,.int .i64 0,.int .i64 0] (World.laidAll_os _ _ _) (by kernel_rfl) (by kernel_rfl) (by kernel_rfl)
   (OpenSpec.preRow_of_cond 8 hx (by kernel_rfl) (fun k hk=>by cases hk; kernel_rfl) (by kernel_rfl) (show laidMet Tryz.prog laidAll _ from laidMet_laidAll _ (by kernel_rfl) (by kernel_rfl)))) ?_
 intro W base args ds gs before hval hW _ hcond _ hL _ _
 exact contract H enc W base args ds gs before hval hW (hcond _ rfl) hL

theorem over:Rows.EvaluateTextsUptoSaid :=
 OpenClaim.holds_of_cond 4 Tryz.f4 rfl rfl rfl rfl rfl rfl rfl ⟨rfl,rfl,rfl,rfl,rfl⟩ rfl rfl rfl rfl rfl (by kernel_rfl) Tryz.func4 facts
  (of_decide_eq_true (by kernel_rfl)) (by unfold Func.isWrapper; first|(rw [if_pos (by decide +kernel)]; kernel_rfl)|(rw [if_neg (by decide +kernel)]; exact ⟨rfl,rfl⟩))
  (fun os started H enc _ F=>by rw [OpenClaim.pre_eq_preRow]; exact lifted os started H enc F)

theorem proved:Rows.EvaluateTextsUptoCardSaid :=
 Claim7.holds_tied_plain_at .later [] [.data, .data, .data] true (true, "3c7bed87286b3f7a866ee7bd8b868bda35d20b78b0a39e78dafcfaf26bf6c7ce") false
  over (fun _ h=>by cases h) (by kernel_rfl) (fun _ h=>by cases h) evaluateTextsUpto_row_tie rfl ⟨rfl,rfl⟩ (by kernel_rfl) rfl
  (fun f fn hf hfn=>by
   obtain rfl : f = 4 := Option.some.inj ((show Tryz.prog.funcNamed "debugger/debuggerlaw31.EvaluateTexts" = some 4 by kernel_rfl).symm.trans hf) |>.symm
   obtain rfl:fn=Tryz.f4:=(Option.some.inj (Tryz.func4.symm.trans hfn)).symm
   exact ⟨by kernel_rfl,fun j t ht=>by
    rw [Tryz.params4] at ht
    have hm:t ∈ [49,49,22,3,3,3]:=List.mem_of_getElem? (by simpa using ht)
    simp only [List.mem_cons,List.not_mem_nil,or_false,or_self] at hm
    rcases hm with rfl|rfl|rfl|rfl
    ·exact (show Tryz.prog.wantsStandIn 49=false by kernel_rfl)
    ·exact (show Tryz.prog.wantsStandIn 49=false by kernel_rfl)
    ·exact (show Tryz.prog.wantsStandIn 22=false by kernel_rfl)
    ·exact (show Tryz.prog.wantsStandIn 3=false by kernel_rfl)⟩)
  (by kernel_rfl)
#print axioms proved
end Go.Proofs.YtnebahlonhfphaaGreatDoor.evaluateTexts
