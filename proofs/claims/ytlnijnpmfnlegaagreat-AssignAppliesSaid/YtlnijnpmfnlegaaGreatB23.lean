/- The walk of AssignApplies. No conditions: definitions and lemmas only. -/
import Derived.Test.YtlnijnpmfnlegaaGreatB22
namespace Go.Proofs
open Go.AM
attribute [local irreducible] AWP AOps ACalls AAny
set_option linter.unusedSimpArgs false

def cpSh:List Sh:=[.kI .i64,.kI .i64,.kI .i64,.kI .i64,.kI .i64,.kI .i64,.kI .i64,.kI .i64,.kI .i64,.kI .i64,.kI .i64,.kI .i64,.kI .i64,.kI .i64,.kI .i64,.kI .i64,.kI .i64]
instance cpFlat:FlatT Tryz.prog 24 cpSh:=⟨by kernel_rfl,by kernel_rfl,by kernel_rfl⟩
theorem fits_rep:∀ (n:Nat) (c:List Int),c.length=n→fits (List.replicate n (.kI .i64)) (cpR c)=true
 | 0,c,h=>by
  cases c with
  | nil=>rfl
  | cons _ _=>simp at h
 | n + 1,c,h=>by
  cases c with
  | nil=>simp at h
  | cons x c =>
   show (fit1 (.kI .i64) (.int .i64 x) && fits (List.replicate n (.kI .i64)) (cpR c))=true
   rw [fits_rep n c (by simpa using h)]
   rfl
theorem fits_cp {c:List Int} (h:c.length=17):fits cpSh (cpR c)=true:=fits_rep 17 c h
theorem tmod_gt (n k:Int) (hk:0 < k):-k < n.tmod k:=by
 have:=Int.tmod_lt_of_pos (-n) hk
 rw [Int.neg_tmod] at this
 omega

theorem mod_rem (n k:Int) (hk:0 < k):n % k=if n.tmod k < 0 then n.tmod k + k else n.tmod k:=by
 have h1:n % k=n.tmod k % k:=by
  conv=>lhs; rw [← Int.tmod_add_mul_tdiv n k]
  rw [Int.add_mul_emod_self_left]
 have h2:=Int.tmod_lt_of_pos n hk
 have h3:=tmod_gt n k hk
 rw [h1]
 split
 ·rw [← Int.add_emod_right,Int.emod_eq_of_lt (by omega) (by omega)]
 ·exact Int.emod_eq_of_lt (by omega) (by omega)

theorem mod_ok (n k:Int) (hk:0 < k) (hk2:k≤4611686018427387904) (st:St):ACalls Tryz.prog 6 [.int .i64 n,.int .i64 k] st (fun v st'=>v=.int .i64 (n % k)∧st'=st) (fun _ _=>False):=by
 refine ACalls.ofBody Tryz.func6 rfl Tryz.ntmps6 rfl ?_
 have hm:=mod_rem n k hk
 refine goA ?_
 refine rm rfl rfl rfl (by omega) ?_
 refine goA ?_
 refine AWP.cond_dec rfl (fun h=>?_) (fun h=>AWP.skip ?_)
 ·rw [if_pos h] at hm
  have h3:=tmod_gt n k hk
  have h4:=Int.tmod_lt_of_pos n hk
  refine goA ?_
  refine ad rfl rfl rfl (by omega) ?_
  refine goA ?_
  refine AWP.ret (rets rfl (.refl _) (.refl _) ⟨?_,rfl⟩)
  rw [hm]
  rfl
 ·rw [if_neg h] at hm
  refine goA ?_
  refine AWP.ret (rets rfl (.refl _) (.refl _) ⟨?_,rfl⟩)
  rw [hm]
  rfl
theorem awake_ok (st:St):ACalls Tryz.prog 4 [] st (fun v st'=>v=.bool true∧st'=st) (fun _ _=>False) :=
 (Cl.k_37_awake Cl.c_37_awake (List.mem_cons_self ..)).2 st (fun p hp=>by cases hp)
end Go.Proofs
namespace Go.Proofs
open Go.AM
attribute [local irreducible] AWP AOps ACalls AAny
set_option linter.unusedSimpArgs false

def nr (x:Ch):Ch:=⟨x.reg,x.n % 20 - 1,x.w⟩
theorem nr_n (x:Ch):i64 (nr x).n:=by unfold nr i64; simp only; omega
structure LpN where
 s:St
 i:Nat
 ot:Option Nat
structure NI (l:List Ch) (y:LpN):Prop where
 i:y.i≤l.length
 nil:y.ot=none→y.i=0
 tok:∀ tk,y.ot=some tk→y.s.tok tk=true
theorem chRs_snoc {l:List Ch} {i:Nat} {x:Ch} (h:l[i]?=some x):chRs ((l.map nr).take i)++[chR (nr x)]=chRs ((l.map nr).take (i + 1)):=by
 rw [List.take_add_one,List.getElem?_map,h]
 unfold chRs
 rw [List.map_append]
 rfl
set_option maxHeartbeats 16000000 in
theorem AssignApplies_ok (c:List Int) (hc:c.length=17) (l:List Ch) (hN:∀ x ∈ l,i64 x.n) (words:List Int) (st:St) :
  ACalls Tryz.prog 3 [.agg (cpR c),.view 3 (chRs l) .shared,.view 1 (irs words) .shared] st (fun v _=>v=.bool true) (fun _ _=>False):=by
 refine ACalls.ofBody Tryz.func3 rfl Tryz.ntmps3 rfl ?_
 have hcl:=chRs_len l
 have hwl:=irs_len words
 have hcp:=cpR_len c
 refine goC ?_
 refine rg ?_
 refine bxe (sz:=17) rfl rfl rfl (by rw [← hc]; exact hcp) ?_
 by_cases s1:((chRs l).length:Int) > 20
 ·refine goD ?_
  refine cle rfl rfl (awake_ok _) ?_
  refine goD ?_
  exact AWP.ret (rets rfl (.refl _) (.refl _) rfl)
 by_cases s2:((irs words).length:Int) > 300
 ·refine goD ?_
  refine cle rfl rfl (awake_ok _) ?_
  refine goD ?_
  exact AWP.ret (rets rfl (.refl _) (.refl _) rfl)
 have hw300:words.length≤300:=by omega
 have hM:=chs_ok words hw300
 refine goD ?_
 refine cle rfl rfl (of_ok words hw300 _) ?_
 refine goD ?_
 refine AWP.loop (α:=LpN) (fun y=>[(9,.int .i64 (y.i:Int)),(8,oslot 3 (chRs ((l.map nr).take y.i)) 33 y.ot),(7,.eptr 1 [[.view 2 (pgs (chs words)) .shared]] 0 0),(3,.eptr 17 [cpR c] 0 0),(1,.view 3 (chRs l) .shared)]) (fun y=>y.s) (NI l) (fun y=>l.length - y.i) ⟨st,0,none⟩ ⟨Nat.zero_le _,fun _=>rfl,(fun _ h=>by cases h)⟩ (tl5 rfl rfl rfl rfl rfl) (.refl _) ?_
 rintro ⟨s,i,ot⟩ I
 refine AWP.weaken (T':=[(9,.int .i64 (i:Int)),(8,oslot 3 (chRs ((l.map nr).take i)) 33 ot),(7,.eptr 1 [[.view 2 (pgs (chs words)) .shared]] 0 0),(3,.eptr 17 [cpR c] 0 0),(1,.view 3 (chRs l) .shared)]) (tl5 rfl rfl rfl rfl rfl) (.refl _) ?_
 show AWP _ _ _ _ _ _ s
 have hnl:(chRs ((l.map nr).take i)).length=min i l.length:=by rw [chRs_len,List.length_take,List.length_map]
 by_cases hlt:i < l.length
 ·obtain ⟨x,hx⟩:∃ x,l[i]?=some x:=⟨_,List.getElem?_eq_getElem hlt⟩
  have hr:=chRs_at hx
  have hir:i < (chRs l).length:=by omega
  have hir2:(i:Int) < ((chRs l).length:Int):=by omega
  have hsn:=chRs_snoc hx
  have hnil:ot=none→chRs ((l.map nr).take i)=[]:=fun h=>by rw [show i=0 from I.nil h]; rfl
  refine goD ?_
  refine AWP.any rfl ?_
  apply AAny.segQ (k':=20) (hok:=by decide +kernel)
  repeat (first|apply dsY (hi:=rfl) (hs:=rfl)|apply dqY (hi:=rfl) (hd:=rfl) (hw:=rfl) (h:=fun _ _=>ZD (z:=nz))|apply dqY (hi:=rfl) (hd:=rfl) (hw:=rfl) (h:=fun _ _=>ZF (z:=nz))|apply dqY (hi:=rfl) (hd:=rfl) (hw:=rfl) (h:=fun _ _=>ZC (z:=nz))|apply dqY (hi:=rfl) (hd:=rfl) (hw:=rfl) (h:=fun _ _=>ZJ (z:=nz))|apply dqY (hi:=rfl) (hd:=rfl) (hw:=rfl) (h:=fun _ _=>ZK (z:=nz))|apply dqY (hi:=rfl) (hd:=rfl) (hw:=rfl) (h:=fun _ _=>ZM (z:=nz))|apply dqY (hi:=rfl) (hd:=rfl) (hw:=rfl) (h:=fun _ _=>ZN (z:=nz))|apply dqY (hi:=rfl) (hd:=rfl) (hw:=rfl) (h:=fun _ _=>ZH (z:=nz))|apply dqY (hi:=rfl) (hd:=rfl) (hw:=rfl) (h:=fun _ _=>ZQ (z:=nz))|apply dqY (hi:=rfl) (hd:=rfl) (hw:=rfl) (h:=fun _ _=>ZP (z:=nz))|apply dqY (hi:=rfl) (hd:=rfl) (hw:=rfl) (h:=fun _ _=>ZO (z:=nz))|apply dqY (hi:=rfl) (hd:=rfl) (hw:=rfl) (h:=fun _ _=>YK (z:=nz)))
  apply dqY (v:=.int .i64 (x.n % 20)) (hi:=rfl) (hd:=rfl) (hw:=rfl) (h:=fun st' _=>cle rfl rfl (mod_ok x.n 20 (by decide) (by decide) st') nz)
  apply dqY (v:=.int .i64 (x.n % 20 - 1)) (hi:=rfl) (hd:=rfl) (hw:=rfl) (h:=fun st' _=>Go.AM.sb rfl rfl rfl (by omega) nz)
  repeat (first|apply dsY (hi:=rfl) (hs:=rfl)|apply dqY (hi:=rfl) (hd:=rfl) (hw:=rfl) (h:=fun _ _=>ZD (z:=nz))|apply dqY (hi:=rfl) (hd:=rfl) (hw:=rfl) (h:=fun _ _=>ZF (z:=nz))|apply dqY (hi:=rfl) (hd:=rfl) (hw:=rfl) (h:=fun _ _=>ZC (z:=nz))|apply dqY (hi:=rfl) (hd:=rfl) (hw:=rfl) (h:=fun _ _=>ZJ (z:=nz))|apply dqY (hi:=rfl) (hd:=rfl) (hw:=rfl) (h:=fun _ _=>ZK (z:=nz))|apply dqY (hi:=rfl) (hd:=rfl) (hw:=rfl) (h:=fun _ _=>ZM (z:=nz))|apply dqY (hi:=rfl) (hd:=rfl) (hw:=rfl) (h:=fun _ _=>ZN (z:=nz))|apply dqY (hi:=rfl) (hd:=rfl) (hw:=rfl) (h:=fun _ _=>ZH (z:=nz))|apply dqY (hi:=rfl) (hd:=rfl) (hw:=rfl) (h:=fun _ _=>ZQ (z:=nz))|apply dqY (hi:=rfl) (hd:=rfl) (hw:=rfl) (h:=fun _ _=>ZP (z:=nz))|apply dqY (hi:=rfl) (hd:=rfl) (hw:=rfl) (h:=fun _ _=>ZO (z:=nz))|apply dqY (hi:=rfl) (hd:=rfl) (hw:=rfl) (h:=fun _ _=>YK (z:=nz)))
  apply dqY (hi:=rfl) (hd:=rfl) (hw:=rfl) (h:=fun st' _=>bds (cs:=chR (nr x)) rfl rfl rfl rfl nz)
  repeat (first|apply dsY (hi:=rfl) (hs:=rfl)|apply dqY (hi:=rfl) (hd:=rfl) (hw:=rfl) (h:=fun _ _=>ZD (z:=nz))|apply dqY (hi:=rfl) (hd:=rfl) (hw:=rfl) (h:=fun _ _=>ZF (z:=nz))|apply dqY (hi:=rfl) (hd:=rfl) (hw:=rfl) (h:=fun _ _=>ZC (z:=nz))|apply dqY (hi:=rfl) (hd:=rfl) (hw:=rfl) (h:=fun _ _=>ZJ (z:=nz))|apply dqY (hi:=rfl) (hd:=rfl) (hw:=rfl) (h:=fun _ _=>ZK (z:=nz))|apply dqY (hi:=rfl) (hd:=rfl) (hw:=rfl) (h:=fun _ _=>ZM (z:=nz))|apply dqY (hi:=rfl) (hd:=rfl) (hw:=rfl) (h:=fun _ _=>ZN (z:=nz))|apply dqY (hi:=rfl) (hd:=rfl) (hw:=rfl) (h:=fun _ _=>ZH (z:=nz))|apply dqY (hi:=rfl) (hd:=rfl) (hw:=rfl) (h:=fun _ _=>ZQ (z:=nz))|apply dqY (hi:=rfl) (hd:=rfl) (hw:=rfl) (h:=fun _ _=>ZP (z:=nz))|apply dqY (hi:=rfl) (hd:=rfl) (hw:=rfl) (h:=fun _ _=>ZO (z:=nz))|apply dqY (hi:=rfl) (hd:=rfl) (hw:=rfl) (h:=fun _ _=>YK (z:=nz)))
  refine dnQ ?_
  refine AAny.text rfl ?_
  refine apo (rows:=chRs ((l.map nr).take i)) (ot:=ot) (rows2:=[chR (nr x)]) rfl rfl rfl hnil I.tok rfl (by simp only [List.length_cons,List.length_nil]; omega) (by simp only [List.length_cons,List.length_nil,maxLen]; omega) fun tk' htk'=>?_
  rw [hsn]
  refine goD ?_
  exact ⟨⟨_,i + 1,some tk'⟩,⟨hlt,(fun h=>by cases h),fun tk h=>by cases h; exact St.tok_addTok _ _⟩,by show _ - (i + 1) < _ - i; omega,(tl5 rfl rfl rfl rfl rfl),.refl _⟩
 ·have hin:i=l.length:=by have:i≤_:=I.i; omega
  have hir2:¬ (i:Int) < ((chRs l).length:Int):=by omega
  have hle:Le (oslot 3 (chRs ((l.map nr).take i)) 33 ot) (.view 3 (chRs (l.map nr)) .shared):=by
   have ht:(l.map nr).take i=l.map nr:=List.take_of_length_le (by rw [List.length_map]; omega)
   rw [ht]
   cases ot with
   | none =>
    have:i=0:=I.nil rfl
    have hl0:l=[]:=List.eq_nil_of_length_eq_zero (by omega)
    rw [hl0]
    exact .nilShared _ _
   | some t=>exact .shared _ _ _
  refine goD ?_
  refine AWP.exit (blk_hit ?_)
  refine AWP.weaken (T':=[(8,.view 3 (chRs (l.map nr)) .shared),(7,.eptr 1 [[.view 2 (pgs (chs words)) .shared]] 0 0),(3,.eptr 17 [cpR c] 0 0),(1,.view 3 (chRs l) .shared)]) (TLe.cons rfl hle (tl3 rfl rfl rfl)) (.refl _) ?_
  refine goD ?_
  refine bsh (cs:=[.view 3 (chRs l) .shared,.view 3 (chRs (l.map nr)) .shared]) rfl rfl rfl rfl rfl ?_
  refine goD ?_
  refine AWP.loop (α:=Nat) (fun n=>[(58,.int .i64 (n:Int)),(57,.int .i64 2),(56,.view 1 [[.view 3 (chRs l) .shared],[.view 3 (chRs (l.map nr)) .shared]] .shared),(7,.eptr 1 [[.view 2 (pgs (chs words)) .shared]] 0 0),(3,.eptr 17 [cpR c] 0 0)]) (fun _=>s) (fun n=>n≤2) (fun n=>2 - n) 0 (Nat.zero_le _) (tl5 rfl rfl rfl rfl rfl) (.refl _) ?_
  intro n hn
  refine AWP.weaken (T':=[(58,.int .i64 (n:Int)),(57,.int .i64 2),(56,.view 1 [[.view 3 (chRs l) .shared],[.view 3 (chRs (l.map nr)) .shared]] .shared),(7,.eptr 1 [[.view 2 (pgs (chs words)) .shared]] 0 0),(3,.eptr 17 [cpR c] 0 0)]) (tl5 rfl rfl rfl rfl rfl) (.refl _) ?_
  by_cases hn2:n < 2
  ·obtain ⟨x,hx,hxl,hxN⟩:∃ x:List Ch,([[.view 3 (chRs l) .shared],[.view 3 (chRs (l.map nr)) .shared]]:List (List AV))[n]?=some [.view 3 (chRs x) .shared]∧x.length≤100∧∀ y ∈ x,i64 y.n:=by
    match n,hn2 with
    | 0,_=>exact ⟨l,rfl,by omega,hN⟩
    | 1,_=>exact ⟨l.map nr,rfl,by rw [List.length_map]; omega,fun y hy=>by rw [List.mem_map] at hy; obtain ⟨z,_,rfl⟩:=hy; exact nr_n z⟩
   have hnl2:n < ([[.view 3 (chRs l) .shared],[.view 3 (chRs (l.map nr)) .shared]]:List (List AV)).length:=hn2
   have hn2':(n:Int) < 2:=by omega
   obtain ⟨q1,q2⟩:=app_ok (l:=x) hc hM
   have hq:=cpR_len (app x c (chs words)).1
   have hf:=fits_cp q1
   have hb:(!cellsEq (cpR (app x c (chs words)).1) (cpR (app x c (chs words)).1))=false:=by rw [cellsEq_self hf]; rfl
   refine goD ?_
   refine leW rfl rfl rfl rfl (by rw [hcp,hc]; rfl) ?_
   refine goE ?_
   refine cle rfl rfl (apply_ok c hc (chs words) hM x hxl hxN _) ?_
   refine goE ?_
   refine al rfl rfl fun p1 g1=>?_
   refine al rfl rfl fun p2 g2=>?_
   have gne:p2≠p1:=fun e=>by rw [e,St.obj_set] at g2; cases g2
   rw [St.set_comm s gne.symm]
   refine soN 12 rfl rfl rfl rfl (by show Nat.beq (cpR (app x c (chs words)).1).length 17=true; rw [hq,q1]; rfl) (by show Nat.beq (cpR (app x c (chs words)).1).length 17=true; rw [hq,q1]; rfl) (by rw [St.obj_set_ne gne.symm]; exact g1) ?_
   refine soN 13 rfl rfl rfl rfl rfl rfl (St.new_old g2) ?_
   clear gne g1 g2
   refine goD ?_
   refine leW rfl rfl rfl rfl (by rw [hcp,hc]; rfl) ?_
   refine goE ?_
   refine cle rfl rfl (rapply_ok c hc (chs words) hM x hxl hxN _) ?_
   refine goE ?_
   refine al rfl rfl fun p1 g1=>?_
   refine al rfl rfl fun p2 g2=>?_
   have gne:p2≠p1:=fun e=>by rw [e,St.obj_set] at g2; cases g2
   rw [St.set_comm s gne.symm]
   refine soN 14 rfl rfl rfl rfl (by show Nat.beq (cpR (app x c (chs words)).1).length 17=true; rw [hq,q1]; rfl) (by show Nat.beq (cpR (app x c (chs words)).1).length 17=true; rw [hq,q1]; rfl) (by rw [St.obj_set_ne gne.symm]; exact g1) ?_
   refine soN 15 rfl rfl rfl rfl rfl rfl (St.new_old g2) ?_
   clear gne g1 g2
   refine goD ?_
   refine leW rfl rfl rfl rfl (by show Nat.beq 17 (cpR (app x c (chs words)).1).length=true; rw [hq,q1]; rfl) ?_
   refine leW rfl rfl rfl rfl (by show Nat.beq 17 (cpR (app x c (chs words)).1).length=true; rw [hq,q1]; rfl) ?_
   refine neA rfl rfl rfl hf hf ?_
   rw [hb]
   refine goD ?_
   refine cle rfl rfl (same_ok (app x c (chs words)).2 (app x c (chs words)).2 q2 q2 _) ?_
   rw [decide_eq_true rfl]
   refine goD ?_
   exact ⟨n + 1,hn2,by omega,(tl5 rfl rfl rfl rfl rfl),.refl _⟩
  ·have hn2':¬ (n:Int) < 2:=by omega
   refine goD ?_
   refine AWP.exit (blk_hit ?_)
   refine goD ?_
   refine cle rfl rfl (awake_ok _) ?_
   refine goD ?_
   exact AWP.ret (rets rfl (.refl _) (.refl _) rfl)
end Go.Proofs
