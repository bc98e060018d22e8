/- The arguments of AssignApplies, opened. No conditions: lemmas only. -/
import Derived.Test.YtlnijnpmfnlegaaGreatRows
import Derived.ProofKit
import Derived.OpenShut
import Derived.Test.YtlnijnpmfnlegaaGreatB23
namespace Go.Proofs.YtlnijnpmfnlegaaGreat
open Go.ChangeShapes Go.WideShapes Go.ChangeAt Go.RowKit Go.AM

theorem own:ownKnob Tryz.prog.godebug=none:=by kernel_rfl
theorem laidOut:laidOutB Tryz.prog=true:=by kernel_rfl
theorem rowed:mapsRowed Tryz.prog=true:=by kernel_rfl
theorem keys:Tryz.prog.plainKeys=true:=by kernel_rfl
theorem heard:Tryz.prog.stopsHeard=true:=by kernel_rfl
theorem enter:Tryz.prog.mayEnter=true:=by kernel_rfl
theorem kinds:∀ t ∈ [3,4,26,22,24,33,25],Go.AM.kindOk Tryz.prog [3,4,26,22,24,33,25] t=true:=by
 intro t ht
 simp only [List.mem_cons,List.not_mem_nil,or_false] at ht
 rcases ht with rfl|rfl|rfl|rfl|rfl|rfl|rfl <;> kernel_rfl
theorem wfi64 {x:Int} (h:(Lit.int .i64 x).wf=true):i64 x:=by
 simp only [Lit.wf,Bool.and_eq_true,decide_eq_true_eq] at h
 have h1:(-9223372036854775808:Int)≤x:=h.1
 have h2:x≤(9223372036854775807:Int):=h.2
 unfold i64
 omega
theorem arg_cpu {a:AV} (h:ArgTy Tryz.prog 24 a):∃ c:List Int,a=.agg (cpR c)∧c.length=17:=by
 obtain ⟨cs,rfl,hf⟩:=arg_flat (d:=10) (sh:=List.replicate 17 (.kI .i64)) Tryz.underlying24 rfl (by kernel_rfl) (by kernel_rfl) h
 obtain ⟨l,rfl,hl,_⟩:=fits_ints 17 hf
 exact ⟨l,rfl,hl⟩
theorem hasTy_len {P:Program} {fuel:Nat} {t:TypeId} {cs:List AV} {fs:Array Field} (h:HasTy P fuel t cs) (hu:P.underlying t=some (.struct fs)):cs.length=P.cellsOf t:=by
 cases fuel with
 | zero=>exact h.elim
 | succ fuel =>
  unfold HasTy at h
  rw [hu] at h
  exact h.1
theorem fits_ch {cs:List AV} (h:FitsW [.kB,.kI .i64,.kI .i64] cs):∃ x:Ch,cs=chR x∧i64 x.n:=by
 cases cs with
 | nil=>exact h.elim
 | cons a cs =>
  obtain ⟨⟨x,hx⟩,h⟩:=h
  cases cs with
  | nil=>exact h.elim
  | cons b cs =>
   obtain ⟨⟨y,hy,hy2⟩,h⟩:=h
   cases cs with
   | nil=>exact h.elim
   | cons c cs =>
    obtain ⟨⟨z,hz,_⟩,h⟩:=h
    cases cs with
    | nil =>
     subst hx hy hz
     exact ⟨⟨x,y,z⟩,rfl,wfi64 hy2⟩
    | cons d cs=>exact h.elim
theorem rows_ch {fuel:Nat}:∀ (rows:List (List AV)),(∀ row ∈ rows,HasTy Tryz.prog fuel 33 row)→∃ l:List Ch,rows=chRs l∧∀ x ∈ l,i64 x.n
 | [],_=>⟨[],rfl,fun x hx=>by cases hx⟩
 | row::rows,h=>by
  obtain ⟨l,rfl,hl0⟩:=rows_ch rows fun r hr=>h r (List.mem_cons_of_mem _ hr)
  have h0:=h row (by simp)
  have hc3:Tryz.prog.cellsOf 33=3:=by kernel_rfl
  have hl:=hasTy_len h0 Tryz.underlying33
  rw [hc3] at hl
  obtain ⟨x,rfl,hx⟩:=fits_ch (hasTy_flat 10 fuel 33 [.kB,.kI .i64,.kI .i64] row (by kernel_rfl) (by kernel_rfl) h0 hl)
  refine ⟨x::l,rfl,fun y hy=>?_⟩
  rcases List.mem_cons.1 hy with rfl|hy
  ·exact hx
  ·exact hl0 y hy
theorem slice_of {P:Program} {t e:TypeId} {a:AV} (hu:P.underlying t=some (.slice e)) (h:ArgTy P t a):∃ fuel rows,a=.view (P.cellsOf e) rows .shared∧∀ row ∈ rows,HasTy P fuel e row:=by
 obtain ⟨fuel,h1⟩:=arg_one hu rfl h
 cases fuel with
 | zero=>exact h1.elim
 | succ fuel =>
  unfold HasTy at h1
  rw [hu] at h1
  obtain ⟨rows,hr,_,hrow⟩:=h1
  cases hr
  exact ⟨fuel,rows,rfl,hrow⟩
theorem arg_chs {a:AV} (h:ArgTy Tryz.prog 25 a):∃ l:List Ch,a=.view 3 (chRs l) .shared∧∀ x ∈ l,i64 x.n:=by
 obtain ⟨fuel,rows,rfl,hrow⟩:=slice_of Tryz.underlying25 h
 obtain ⟨l,rfl,hl⟩:=rows_ch rows hrow
 have hc3:Tryz.prog.cellsOf 33=3:=by kernel_rfl
 rw [hc3]
 exact ⟨l,rfl,hl⟩
theorem arg_wds {a:AV} (h:ArgTy Tryz.prog 26 a):∃ l:List Int,a=.view 1 (irs l) .shared:=by
 obtain ⟨l,rfl,_⟩:=arg_ints Tryz.underlying26 Tryz.underlying3 (by kernel_rfl) h
 exact ⟨l,rfl⟩
end Go.Proofs.YtlnijnpmfnlegaaGreat
