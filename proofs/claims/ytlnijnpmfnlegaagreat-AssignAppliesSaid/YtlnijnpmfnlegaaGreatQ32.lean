/- AssignApplies: the law answers true at every input. No conditions. -/
import Derived.Test.YtlnijnpmfnlegaaGreatB25
namespace Go.Proofs.YtlnijnpmfnlegaaGreat.assignApplies
open Go.ChangeShapes Go.WideShapes Go.ChangeAt Go.RowKit Go.AM

set_option maxRecDepth 100000 in
theorem lifted (os:Os) (started:os.Started) (H:Type) (enc:TypeId × Value→H) :
  ReturnsInHanded {} Tryz.checked os 3 .any (Rows.assignAppliesSpec.pre6 enc Tryz.prog Tryz.f3 Rows.assignAppliesRow.domain false) (Rows.assignAppliesSpec.post enc Tryz.prog Tryz.f3 false true false false):=by
 refine returnsInHanded_of_change (C:=Tryz.checked) own started (by kernel_rfl) Tryz.func3
  (ChangeSpec.witness6 (enc:=enc) (C:=Tryz.checked) false ⟨#[],#[.agg #[.int .i64 0,.int .i64 0,.int .i64 0,.int .i64 0,.int .i64 0,.int .i64 0,.int .i64 0,.int .i64 0,.int .i64 0,.int .i64 0,.int .i64 0,.int .i64 0,.int .i64 0,.int .i64 0,.int .i64 0,.int .i64 0,.int .i64 0],.slice none 0 0,.slice none 0 0],[]⟩ 8 (by kernel_rfl) (by kernel_rfl) (by kernel_rfl) (by kernel_rfl)) ?_
 intro W base args ds gs before hval0 hW _ _
 refine law_contract (tb:=4) (S:=_) [] laidOut kinds ?_ rfl ?_ (by kernel_rfl) Tryz.underlying4 W base args ds gs before hval0 hW (fun gi row h=>by cases h) ?_
 ·rw [Tryz.params3]
  intro t ht
  simp only [List.mem_cons,List.not_mem_nil,or_false] at ht
  rcases ht with rfl|rfl|rfl <;> exact ⟨by decide,by kernel_rfl,of_decide_eq_true (by kernel_rfl)⟩
 ·intro ds hl
  rw [Tryz.params3] at hl
  match ds,hl with
  | [_,_,_],_=>rfl
 ·intro avs hl hty
  rw [Tryz.params3] at hl hty
  match avs,hl with
  | [a,b,c],_ =>
   obtain ⟨x,rfl,hx⟩:=arg_cpu (hty 0 24 a rfl rfl)
   obtain ⟨l,rfl,hl2⟩:=arg_chs (hty 1 25 b rfl rfl)
   obtain ⟨w,rfl⟩:=arg_wds (hty 2 26 c rfl rfl)
   exact AssignApplies_ok x hx l hl2 w _

theorem over:Rows.assignAppliesRow.holds Tryz.pinned (OpenSpec.ofChange Rows.assignAppliesSpec) :=
 OpenClaim.holds_of_wide 3 Tryz.f3 rfl rfl rfl rfl rfl rfl rfl ⟨rfl,rfl,rfl,rfl,rfl⟩ rfl rfl rfl rfl rfl (by kernel_rfl) Tryz.func3 facts
  (of_decide_eq_true (by kernel_rfl)) (by unfold Func.isWrapper; first|(rw [if_pos (by decide +kernel)]; kernel_rfl)|(rw [if_neg (by decide +kernel)]; exact ⟨rfl,rfl⟩))
  (fun os started H enc _=>lifted os started H enc)

theorem proved:Rows.AssignAppliesSaid:=over
#print axioms proved
end Go.Proofs.YtlnijnpmfnlegaaGreat.assignApplies
