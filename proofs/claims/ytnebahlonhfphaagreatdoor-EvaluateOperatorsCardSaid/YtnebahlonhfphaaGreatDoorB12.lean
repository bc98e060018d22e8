/- The walk of EvaluateOperators. No conditions: lemmas only. -/
import Derived.Test.YtnebahlonhfphaaGreatDoorB11
namespace Go.Proofs
open Go.AM
attribute [local irreducible] AWP AOps ACalls AWPL
set_option linter.unusedSimpArgs false

theorem g_tmod_gt (n k:Int) (hk:0 < k):-k < n.tmod k:=by
 have:=Int.tmod_lt_of_pos (-n) hk
 rw [Int.neg_tmod] at this
 omega

theorem g_mod_rem (n k:Int) (hk:0 < k):n % k=if n.tmod k < 0 then n.tmod k + k else n.tmod k:=by
 have h1:n % k=n.tmod k % k:=by
  conv=>lhs; rw [← Int.tmod_add_mul_tdiv n k]
  rw [Int.add_mul_emod_self_left]
 have h2:=Int.tmod_lt_of_pos n hk
 have h3:=g_tmod_gt n k hk
 rw [h1]
 split
 ·rw [← Int.add_emod_right,Int.emod_eq_of_lt (by omega) (by omega)]
 ·exact Int.emod_eq_of_lt (by omega) (by omega)

theorem g_mod_ok (n k:Int) (hk:0 < k) (hk2:k≤4611686018427387904) (st:St):ACalls Tryz.prog 6 [.int .i64 n,.int .i64 k] st (fun v st'=>v=.int .i64 (n % k)∧st'=st) (fun _ _=>False):=by
 refine ACalls.ofBody Tryz.func6 rfl Tryz.ntmps6 rfl ?_
 have hm:=g_mod_rem n k hk
 refine goD ?_
 refine rm rfl rfl rfl (by omega) ?_
 refine goD ?_
 refine AWP.cond_dec rfl (fun h=>?_) (fun h=>AWP.skip ?_)
 ·rw [if_pos h] at hm
  have h3:=g_tmod_gt n k hk
  have h4:=Int.tmod_lt_of_pos n hk
  refine goD ?_
  refine Go.AM.ad rfl rfl rfl (by omega) ?_
  refine goD ?_
  refine AWP.ret (rets rfl (.refl _) (.refl _) ⟨?_,rfl⟩)
  rw [hm]
  rfl
 ·rw [if_neg h] at hm
  refine goD ?_
  refine AWP.ret (rets rfl (.refl _) (.refl _) ⟨?_,rfl⟩)
  rw [hm]
  rfl


theorem of_ok (st:St):∃ a1 a2 a3 a4 a5 a6 a7 a8 a9 a10 a11 a12 a13 a14 a15 a16 a17 a18 a19 a20 a21:AV,
  ACalls Tryz.prog 5 [Cl.txt,.int .i64 0] st (fun v st'=>v=.agg [.bool true,a1,a2,a3,a4,a5,a6,a7,a8,a9,a10,a11,a12,a13,a14,a15,a16,a17,a18,a19,a20,a21]∧st'=st) (fun _ _=>False) :=
 ⟨_,_,_,_,_,_,_,_,_,_,_,_,_,_,_,_,_,_,_,_,_,(Cl.k_of _ (List.mem_cons_self ..)).2 st fun p hp=>by cases hp⟩
theorem awake_ok (st:St):ACalls Tryz.prog 8 [] st (fun v st'=>v=.bool true∧st'=st) (fun _ _=>False):=(Cl.k_awake _ (List.mem_cons_self ..)).2 st fun p hp=>by cases hp
instance:PureFn Tryz.prog 8 [] (.bool true):=⟨awake_ok⟩

set_option maxHeartbeats 8000000 in
theorem EvaluateOperators_ok (op:Int) (_:(Lit.int .i64 op).wf=true) (a:Int) (_:(Lit.int .i64 a).wf=true) (b:Int) (_:(Lit.int .i64 b).wf=true) (st:St) :
  ACalls Tryz.prog 3 [.int .i64 op,.int .i64 a,.int .i64 b] st (fun v _=>v=.bool true) (fun _ _=>False):=by
 refine ACalls.ofBody Tryz.func3 rfl Tryz.ntmps3 rfl ?_
 obtain ⟨a1,a2,a3,a4,a5,a6,a7,a8,a9,a10,a11,a12,a13,a14,a15,a16,a17,a18,a19,a20,a21,hof⟩:=of_ok st
 refine goC ?_
 refine rg ?_
 refine goE ?_
 refine goC ?_
 refine rg ?_
 refine cle rfl rfl hof ?_
 refine goD ?_
 refine cle rfl rfl (g_mod_ok op 12 (by omega) (by omega) _) ?_
 have k0:0≤op % 12:=Int.emod_nonneg _ (by omega)
 have k1:op % 12 < 12:=Int.emod_lt_of_pos _ (by omega)
 generalize op % 12=k at k0 k1
 skip
 refine Go.AM.ad rfl rfl rfl (by omega) ?_
 refine goD ?_
 refine bds (cs:=eRow 0 a noA) rfl rfl rfl rfl ?_
 refine goE ?_
 refine bds (cs:=eRow 0 b noA) rfl rfl rfl rfl ?_
 refine bsF (cs:=eRow 0 a noA++eRow 0 b noA) rfl rfl rfl rfl rfl ?_
 refine bds (cs:=eRow (6 + k) 0 (.view 6 [eRow 0 a noA,eRow 0 b noA] .full)) rfl rfl rfl rfl ?_
 refine goD ?_
 refine cle rfl rfl (eval_op a17 a18 a19 a20 a21 .full k a b k0 (by omega) _) ?_
 have fin:(k=3∨k=4)∧b=0∨¬ ((k=3∨k=4)∧b=0):=Classical.em _
 rcases fin with hb|hb
 ·rw [if_pos hb]
  obtain ⟨hk,rfl⟩:=hb
  rcases hk with rfl|rfl
  ·refine goD ?_
   exact AWP.ret (rets rfl (.refl _) (.refl _) rfl)
  ·refine goD ?_
   exact AWP.ret (rets rfl (.refl _) (.refl _) rfl)
 ·rw [if_neg hb]
  have key:k=3∨k=4∨(k≠3∧k≠4):=by omega
  have hbin:∀ st,ACalls Tryz.prog 9 [.int .i64 (6 + k - 6),.int .i64 a,.int .i64 b] st (fun v st'=>v=.int .i64 (bin k a b)∧st'=st) (fun _ _=>False):=by
   rw [show 6 + k - 6=k by omega]
   exact binary_ok k a b k0 (by omega)
  rcases key with rfl|rfl|⟨n3,n4⟩
  ·have hb':¬ b=0:=fun e=>hb ⟨.inl rfl,e⟩
   refine goD ?_
   refine AWP.draw rfl 24 24 (fun _ _=>False) rfl ?_
   refine goG ?_
   refine dq rfl rfl rfl (fun st1 hle=>cle rfl rfl (hbin st1) (nl ⟨_,rfl,rfl,rfl⟩)) ?_
   refine goG ?_
   refine dn ⟨fun _=>?_,fun h=>absurd h (by decide)⟩
   refine goD ?_
   exact AWP.ret (rets rfl (.refl _) (.refl _) rfl)
  ·have hb':¬ b=0:=fun e=>hb ⟨.inr rfl,e⟩
   refine goD ?_
   refine AWP.draw rfl 24 24 (fun _ _=>False) rfl ?_
   refine goG ?_
   refine dq rfl rfl rfl (fun st1 hle=>cle rfl rfl (hbin st1) (nl ⟨_,rfl,rfl,rfl⟩)) ?_
   refine goG ?_
   refine dn ⟨fun _=>?_,fun h=>absurd h (by decide)⟩
   refine goD ?_
   exact AWP.ret (rets rfl (.refl _) (.refl _) rfl)
  ·refine goD ?_
   refine AWP.draw rfl 24 24 (fun _ _=>False) rfl ?_
   refine goG ?_
   refine dq rfl rfl rfl (fun st1 hle=>cle rfl rfl (hbin st1) (nl ⟨_,rfl,rfl,rfl⟩)) ?_
   refine goG ?_
   refine dn ⟨fun _=>?_,fun h=>absurd h (by decide)⟩
   refine goD ?_
   exact AWP.ret (rets rfl (.refl _) (.refl _) rfl)
end Go.Proofs
