/- The walk of EvaluateOperators. No conditions: lemmas only. -/
import Derived.Test.YtnebahlonhfphaaGreatDoorB11
namespace Go.Proofs
open Go.AM
attribute [local irreducible] AWP AOps ACalls AWPL
set_option linter.unusedSimpArgs false

theorem g_tmod_gt (n k:Int) (hk:0 < k):-k < n.tmod k:=by
 have:=Int.tmod_lt_of_pos (-n) hk
 rw [Int.neg_tmod] at this
 omega

theorem g_mod_rem (n k:Int) (hk:0 < k):n % k=if n.tmod k < 0 then n.tmod k + k else n.tmod k:=by
 have h1:n % k=n.tmod k % k:=by
  conv=>lhs; rw [← Int.tmod_add_mul_tdiv n k]
  rw [Int.add_mul_emod_self_left]
 have h2:=Int.tmod_lt_of_pos n hk
 have h3:=g_tmod_gt n k hk
 rw [h1]
 split
 ·rw [← Int.add_emod_right,Int.emod_eq_of_lt (by omega) (by omega)]
 ·exact Int.emod_eq_of_lt (by omega) (by omega)

theorem g_mod_ok (n k:Int) (hk:0 < k) (hk2:k≤4611686018427387904) (st:St):ACalls Tryz.prog 6 [.int .i64 n,.int .i64 k] st (fun v st'=>v=.int .i64 (n % k)∧st'=st) (fun _ _=>False):=by
 refine ACalls.ofBody Tryz.func6 rfl Tryz.ntmps6 rfl ?_
 have hm:=g_mod_rem n k hk
 refine goD ?_
 refine rm rfl rfl rfl (by omega) ?_
 refine goD ?_
 refine AWP.cond_dec rfl (fun h=>?_) (fun h=>AWP.skip ?_)
 ·rw [if_pos h] at hm
  have h3:=g_tmod_gt n k hk
  have h4:=Int.tmod_lt_of_pos n hk
  refine goD ?_
  refine Go.AM.ad rfl rfl rfl (by omega) ?_
  refine goD ?_
  refine AWP.ret (rets rfl (.refl _) (.refl _) ⟨?_,rfl⟩)
  rw [hm]
  rfl
 ·rw [if_neg h] at hm
  refine goD ?_
  refine AWP.ret (rets rfl (.refl _) (.refl _) ⟨?_,rfl⟩)
  rw [hm]
  rfl


theorem awake_ok (st:St):ACalls Tryz.prog 8 [] st (fun v st'=>v=.bool true∧st'=st) (fun _ _=>False):=(Cl.k_awake _ (List.mem_cons_self ..)).2 st fun p hp=>by cases hp
instance:PureFn Tryz.prog 8 [] (.bool true):=⟨awake_ok⟩

end Go.Proofs
