/- The parser: operands with operators between them. No conditions: definitions and lemmas only. -/
import Derived.Shelf.Strconv.Itoa3
import Derived.Test.YthjcphjabiajbaaGreatDoorProg
import Derived.Lib.ItoaNum
import Derived.Test.YthjcphjabiajbaaGreatDoorRows
import Derived.Test.YthjcphjabiajbaaGreatDoorTie
import Derived.Test.YthjcphjabiajbaaGreatDoorCards
import Derived.ProofKit
import Derived.OpenShut
import Derived.Lay
import Derived.Test.YthjcphjabiajbaaGreatDoorB3
namespace Go.Proofs
open Go.AM
attribute [local irreducible] AWP AOps ACalls AAny
theorem fe_lt {k lv d:Nat} {ts:List Tk} (h4:lv≤4):fe (k + 1) lv d ts=qb (fe k (lv + 1) d ts) fun x r=>fl k lv d x r:=by
 rw [fe,if_neg (by omega)];cases fe k (lv + 1) d ts <;> rfl
theorem fl_eq {k lv d:Nat} {x:Xp} {ts:List Tk} (h2:lv≠1):fl (k + 1) lv d x ts=if (bin (hd ts)).1=lv then qb (fe k (lv + 1) d ts.tail) fun y r=>fl k lv d (.bin (bin (hd ts)).2 x y) r else .ok (x,ts):=by
 rw [fl];split
 ·cases fe k (lv + 1) d ts.tail with
  | error e=>rfl
  | ok p=>rfl
 ·rfl
theorem fl_one {k d:Nat} {x:Xp} {ts:List Tk}:fl (k + 1) 1 d x ts=if (bin (hd ts)).1=1 then qb (fe k 2 d ts.tail) fun y r=>.ok (.bin (bin (hd ts)).2 x y,r) else .ok (x,ts):=by
 rw [fl];split
 ·cases fe k 2 d ts.tail with
  | error e=>rfl
  | ok p=>rfl
 ·rfl
instance gofun_lv (n:Nat):GoFun Tryz.prog (fnLv n):=by
 unfold fnLv;split <;> infer_instance
theorem fe_lt_len {k lv d:Nat} {ts:List Tk} {x:Xp} {r:List Tk} (h1:1≤lv) (h5:lv≤5) (hk:7 * ts.length + (6 - lv) < k) (h:fe k lv d ts=.ok (x,r)):r.length < ts.length:=by
 have:=(fe_all k).1 lv d ts h1 h5 hk;rw [h] at this;exact this
def OpJ {ts:List Tk} (S0:St) (o:Nat) (r:FR):List (Option AV)→St→Prop
 | [none],s=>s=S0
 | [some v],s=>PaR ts o S0 xv r v s
 | _,_=>False
theorem vs1 {vs:List (Option AV)} {b:Bool} (h:vs.map Option.isSome=[b]):∃ v,vs=[v]∧v.isSome=b:=by
 match vs,h with
 | [v],h=>simp at h; exact ⟨v,rfl,h⟩
theorem StLe.drop_set {st:St} {o:Nat} {r:AObj}:StLe (st.set o r) (st.drop o):=by
 refine ⟨fun p c hp=>?_,fun _ h=>h,rfl⟩;by_cases h:p=o
 ·subst h;simp [St.drop] at hp
 ·rw [St.obj_set_ne h]
  simpa [St.drop,h] using hp

theorem bin_or (t:Tk):(bin t).1=0∨6≤(bin t).2:=by
 unfold bin;cases hf:binL.find? fun o=>sg t o.1 with
 | none=>exact .inl rfl
 | some x =>
  have hm:=List.mem_of_find?_eq_some hf;simp only [binL,List.mem_cons,List.not_mem_nil,or_false] at hm
  right
  rcases hm with rfl|rfl|rfl|rfl|rfl|rfl|rfl|rfl|rfl|rfl|rfl|rfl <;> decide

set_option maxHeartbeats 1000000 in
theorem pchain_ok {ts:List Tk} (H:RdH ts) {k:Nat} (hK:FeOk ts k) {lv d a o:Nat} {st:St} (h2l:2≤lv) (h4l:lv≤4) (hd9:d≤9) (ho:st.obj o=some (prC (ts.map tokRow) a)) (ha:a < ts.length) (hk:7 * (ts.length - a) + (6 - lv) < k + 1) (hg:st.row 3=some sgnRow) :
  ACalls Tryz.prog 123 [.cptr o 2 0 0,.int .i64 (d:Int),.func (.func (fnLv (lv + 1))) [] [],.int .i64 (opLo lv:Int),.int .i64 (opHi lv:Int)] st (PaR ts o st xv (fe (k + 1) lv d (ts.drop a))) (PaP ts o st (fe (k + 1) lv d (ts.drop a))):=by
 refine ACalls.inSet ho (ACalls.ofBody Tryz.func123 rfl Tryz.ntmps123 rfl ?_);have hlm:(ts.map tokRow).length≤100000:=by rw [List.length_map]; exact H.len
 rw [fe_lt h4l];refine goC ?_;refine rg ?_;refine al rfl rfl fun o2 h2=>?_
 replace h2:=none_set h2
 refine goD ?_;refine clcq rfl rfl rfl (hK k (Nat.le_refl _) (lv + 1) d a o _ (by omega) (by omega) hd9 ha (by omega) (obj1 h2 _ _) hg) (fun v st' ⟨e,k,q1,q2,q3,q4⟩=>⟨_,by rw [q3,push1 h2]; exact drop1 h2 _ _,e,k,q1,q2,rfl,by rw [qb_err q4]⟩) fun v st' hR=>?_;obtain ⟨x,b,hv,hb,hst,hr⟩:=hR;subst hv;subst hst;have hab:=drop_lt ha (fe_lt_len (by omega) (by omega) (by rw [List.length_drop]; omega) hr);rw [push1 h2,qb_ok hr];clear hr;refine al rfl rfl fun o3 h3=>?_
 replace h3:=none_set2 h3
 obtain ⟨op,num,name,field,args,hx⟩:=xrow_ex x;rw [xv,hx];refine soV rfl rfl rfl rfl rfl rfl ?_;refine goD ?_;refine AWP.loop (α:=Xp × Nat × Nat) (fun _=>[(11,.cptr o3 6 0 0),(10,.cptr o2 6 0 0),(4,.int .i64 (opHi lv:Int)),(3,.int .i64 (opLo lv:Int)),(2,.func (.func (fnLv (lv + 1))) [] []),(1,.int .i64 (d:Int)),(0,.cptr o 2 0 0)])
  (fun y=>((st.set o (prC (ts.map tokRow) y.2.1)).set o2 (.cells 95 6 [exRow 0 0 [] [] nilV])).set o3 (.cells 95 6 [xrow y.1]))
  (fun y=>y.2.1 < ts.length∧y.2.2≤k∧7 * (ts.length - y.2.1) < y.2.2∧fl k lv d x (ts.drop b)=fl y.2.2 lv d y.1 (ts.drop y.2.1)) (fun y=>ts.length - y.2.1) (x,b,k) ⟨hb,Nat.le_refl _,by simp only; omega,rfl⟩ (tl7 rfl rfl rfl rfl rfl rfl rfl) (by rw [hx]; exact .refl _) ?_
 generalize fl k lv d x (ts.drop b)=Res;clear hx hb hab op num name field args x b;rintro ⟨x,b,fu⟩ ⟨hb,hfk,hfu,hR⟩;simp only at hb hfk hfu hR;obtain ⟨op,num,name,field,args,hx⟩:=xrow_ex x;rw [hx];refine AWP.weaken (T':=[(11,.cptr o3 6 0 0),(10,.cptr o2 6 0 0),(4,.int .i64 (opHi lv:Int)),(3,.int .i64 (opLo lv:Int)),(2,.func (.func (fnLv (lv + 1))) [] []),(1,.int .i64 (d:Int)),(0,.cptr o 2 0 0)]) (tl7 rfl rfl rfl rfl rfl rfl rfl) (.refl _) ?_;obtain ⟨fu,rfl⟩:∃ f,fu=f + 1:=⟨fu - 1,by omega⟩;obtain ⟨t,t1,t2,t3,t4,t5⟩:=map_at hb;rw [fl_eq (by omega),t3,t5] at hR;refine goD ?_;refine cl rfl rfl (poperator_ok (obj2 h2 h3 _ _ _) t4 t2 hlm lv (by omega) h4l hg) fun v st' ⟨hv,hst⟩=>?_;subst hv;subst hst;by_cases hbn:(bin t).1=lv
 ·rw [if_pos hbn] at hR;rw [if_pos hbn,if_pos hbn,push2 h2 h3];have hk0:t.kind≠0:=by
   intro h0;have:(bin t).1=0:=by
    unfold bin binL sg;simp [h0]
   omega
  have hb1:=H.last _ _ t1 hk0
  have hop:6≤(bin t).2:=by
   have:=bin_or t;omega
  generalize (bin t).2=bop at hR hop;have hop0:¬ (bop:Int)=0:=by omega
  refine goD ?_;refine AWP.any rfl ?_;obtain ⟨S0,hS0⟩:∃ S0,S0=((st.set o (prC (ts.map tokRow) (b + 1))).set o2 (.cells 95 6 [exRow 0 0 [] [] nilV])).set o3 (.cells 95 6 [exRow op num name field (.view 6 args .shared)]):=⟨_,rfl⟩;have hS0o:S0.obj o=some (prC (ts.map tokRow) (b + 1)):=by rw [hS0]; exact obj2 h2 h3 _ _ _
  have hS0s:∀ c,S0.set o (prC (ts.map tokRow) c)=((st.set o (prC (ts.map tokRow) c)).set o2 (.cells 95 6 [exRow 0 0 [] [] nilV])).set o3 (.cells 95 6 [exRow op num name field (.view 6 args .shared)]):=fun c=>by rw [hS0,push2 h2 h3]
  rw [← hS0];obtain ⟨y,hy0⟩:∃ y,∀ x r,fe fu (lv + 1) d (ts.drop (b + 1))=.ok (x,r)→x=y:=by
   cases fe fu (lv + 1) d (ts.drop (b + 1)) with
   | error e=>exact ⟨.lit 0,fun x r h=>by cases h⟩
   | ok p=>exact ⟨p.1,fun x r h=>by cases h; rfl⟩
  obtain ⟨op2,num2,name2,field2,args2,hy⟩:=xrow_ex y;have hS0le:∀ c,StLe (S0.set o (prC (ts.map tokRow) c)) (((st.drop o).set o2 (.cells 95 6 [exRow 0 0 [] [] nilV])).set o3 (.cells 95 6 [exRow op num name field (.view 6 args .shared)])):=fun c=>by
   rw [hS0s]; exact StLe.set _ _ (StLe.set _ _ StLe.drop_set)
  apply AAny.segX (X:=fun pv st'=>∃ st1,StLe st' st1∧PaP ts o st Res pv st1) (hX:=fun _ _ h=>h) (k':=8) (Es:=[5]) (J:=OpJ (ts:=ts) S0 o (fe fu (lv + 1) d (ts.drop (b + 1))))
   (base:=((st.drop o).set o2 (.cells 95 6 [exRow 0 0 [] [] nilV])).set o3 (.cells 95 6 [exRow op num name field (.view 6 args .shared)])) (hok:=by decide +kernel) (hJ:=rfl) (hb:=by have:=hS0le (b + 1); rwa [St.set_same hS0o] at this)
  repeat (first|apply dsP (hi:=rfl) (hs:=rfl)|apply dqP (hi:=rfl) (hd:=rfl) (hw:=rfl) (h:=fun _ _=>ZE (z:=nz)))
  apply deP (Q:=fun v=>v=.agg (exRow op2 num2 name2 field2 (.view 6 args2 .shared))) (L:=[[false]]) (hL:=rfl) (hd:=rfl) (hw:=rfl) (hex:=⟨_,rfl⟩) (h:=by
   refine ⟨?_,trivial⟩;intro vs hvs hlk s hJ hle;obtain ⟨v1,rfl,e1⟩:=vs1 hvs;obtain rfl:v1=none:=by simpa using e1
   have hs0:S0=s:=Eq.symm hJ;subst hs0;refine clcq rfl rfl rfl (hK fu (by omega) (lv + 1) d (b + 1) o S0 (by omega) (by omega) hd9 hb1 (by omega) hS0o (by rw [hS0]; exact hg)) (fun v st' ⟨e,k,q1,q2,q3,q4⟩=>⟨_,by rw [q3,hS0s]; exact drop2 h2 h3 _ _ _,e,k,q1,q2,rfl,by rw [hR,qb_err q4]⟩) fun v st' hR=>?_;obtain ⟨y',c,hv,hc,hst,hr⟩:=hR;subst hv;subst hst;obtain rfl:=hy0 _ _ hr;exact nl ⟨_,rfl,by rw [xv,hy],⟨y',c,rfl,hc,rfl,hr⟩,hS0le c⟩)
  rintro v rfl;apply dqP (hi:=rfl) (hd:=rfl) (hw:=rfl) (h:=fun _ _=>bsh (cs:=exRow op num name field (.view 6 args .shared)++exRow op2 num2 name2 field2 (.view 6 args2 .shared)) rfl rfl rfl rfl rfl nz);apply dqP (hi:=rfl) (hd:=rfl) (hw:=rfl) (h:=fun _ _=>bds (cs:=exRow bop 0 [] [] (.view 6 [exRow op num name field (.view 6 args .shared),exRow op2 num2 name2 field2 (.view 6 args2 .shared)] .shared)) rfl rfl rfl rfl nz);refine dnP fun s hs=>?_;obtain ⟨y',c,hv,hc,hst,hr⟩:=hs;subst hst;have hv':exRow op2 num2 name2 field2 (.view 6 args2 .shared)=xrow y':=AV.agg.inj hv;rw [hS0s];refine AAny.text rfl ?_;refine soV rfl rfl rfl rfl rfl rfl ?_;have hbc:=drop_lt hb1 (fe_lt_len (by omega) (by omega) (by rw [List.length_drop]; omega) hr);refine nl ⟨(.bin bop x y',c,fu),⟨hc,by simp only; omega,by simp only; omega,by rw [hR,qb_ok hr]⟩,by simp only; omega,(tl7 rfl rfl rfl rfl rfl rfl rfl),?_⟩;have hrow:xrow (.bin bop x y')=exRow bop 0 [] [] (.view 6 [exRow op num name field (.view 6 args .shared),exRow op2 num2 name2 field2 (.view 6 args2 .shared)] .shared):=by
   show exRow bop 0 [] [] (.view 6 [xrow x,xrow y'] .shared)=_;rw [hx,← hv']
  show StLe _ (((st.set o _).set o2 _).set o3 (.cells _ 6 [xrow (.bin bop x y')]));rw [hrow];exact .refl _
 ·rw [if_neg hbn] at hR;rw [if_neg hbn,if_neg hbn];refine goD ?_;refine soU rfl (Ne.symm (set_ne_new (h3 ob0 ob0))) rfl rfl rfl rfl rfl ?_;refine goD ?_;refine AWP.ret (rets (resCW rfl (St.obj_under (Ne.symm (set_ne_new (h3 ob0 ob0))) _ _) rfl rfl rfl rfl) (.refl _) (drop2 h2 h3 _ _ _) ⟨x,b,?_,hb,rfl,hR⟩);show AV.agg _=AV.agg (xrow x);rw [hx] <;> rfl
theorem pbits_ok {ts:List Tk} (H:RdH ts) {k:Nat} (hK:FeOk ts k) {d a o:Nat} {st:St} (hd9:d≤9) (ho:st.obj o=some (prC (ts.map tokRow) a)) (ha:a < ts.length) (hk:7 * (ts.length - a) + (6 - 2) < k + 1) (hg:st.row 3=some sgnRow) :
  ACalls Tryz.prog 111 [.cptr o 2 0 0,.int .i64 (d:Int)] st (PaR ts o st xv (fe (k + 1) 2 d (ts.drop a))) (PaP ts o st (fe (k + 1) 2 d (ts.drop a))):=by
 refine ACalls.inSet ho (ACalls.ofBody Tryz.func111 rfl Tryz.ntmps111 rfl ?_);refine goC ?_;refine rg ?_;refine al rfl rfl fun o2 h2=>?_
 replace h2:=none_set h2
 have hc:=pchain_ok H hK (lv:=2) (by decide) (by decide) hd9 (obj1 h2 (.cells 95 6 [exRow 0 0 [] [] nilV]) (prC (ts.map tokRow) a)) ha hk hg;refine goD ?_;refine clq rfl rfl hc (fun v st' ⟨e,k,q1,q2,q3,q4⟩=>⟨_,by rw [q3,push1 h2]; exact drop1 h2 _ _,e,k,q1,q2,rfl,q4⟩) fun v st' hR=>?_;obtain ⟨x,c,hv,hc,hst,hr⟩:=hR;subst hv;subst hst;rw [push1 h2];obtain ⟨op,num,name,field,args,hx⟩:=xrow_ex x;rw [xv,hx];refine soV rfl rfl rfl rfl rfl rfl ?_;refine goD ?_;refine AWP.ret (rets (resCW rfl (St.obj_set _ _ _) rfl rfl rfl rfl) (.refl _) (drop1 h2 _ _) ⟨x,c,?_,hc,rfl,hr⟩);show AV.agg _=AV.agg (xrow x);rw [hx] <;> rfl
theorem psum_ok {ts:List Tk} (H:RdH ts) {k:Nat} (hK:FeOk ts k) {d a o:Nat} {st:St} (hd9:d≤9) (ho:st.obj o=some (prC (ts.map tokRow) a)) (ha:a < ts.length) (hk:7 * (ts.length - a) + (6 - 3) < k + 1) (hg:st.row 3=some sgnRow) :
  ACalls Tryz.prog 124 [.cptr o 2 0 0,.int .i64 (d:Int)] st (PaR ts o st xv (fe (k + 1) 3 d (ts.drop a))) (PaP ts o st (fe (k + 1) 3 d (ts.drop a))):=by
 refine ACalls.inSet ho (ACalls.ofBody Tryz.func124 rfl Tryz.ntmps124 rfl ?_);refine goC ?_;refine rg ?_;refine al rfl rfl fun o2 h2=>?_
 replace h2:=none_set h2
 have hc:=pchain_ok H hK (lv:=3) (by decide) (by decide) hd9 (obj1 h2 (.cells 95 6 [exRow 0 0 [] [] nilV]) (prC (ts.map tokRow) a)) ha hk hg;refine goD ?_;refine clq rfl rfl hc (fun v st' ⟨e,k,q1,q2,q3,q4⟩=>⟨_,by rw [q3,push1 h2]; exact drop1 h2 _ _,e,k,q1,q2,rfl,q4⟩) fun v st' hR=>?_;obtain ⟨x,c,hv,hc,hst,hr⟩:=hR;subst hv;subst hst;rw [push1 h2];obtain ⟨op,num,name,field,args,hx⟩:=xrow_ex x;rw [xv,hx];refine soV rfl rfl rfl rfl rfl rfl ?_;refine goD ?_;refine AWP.ret (rets (resCW rfl (St.obj_set _ _ _) rfl rfl rfl rfl) (.refl _) (drop1 h2 _ _) ⟨x,c,?_,hc,rfl,hr⟩);show AV.agg _=AV.agg (xrow x);rw [hx] <;> rfl
theorem pproduct_ok {ts:List Tk} (H:RdH ts) {k:Nat} (hK:FeOk ts k) {d a o:Nat} {st:St} (hd9:d≤9) (ho:st.obj o=some (prC (ts.map tokRow) a)) (ha:a < ts.length) (hk:7 * (ts.length - a) + (6 - 4) < k + 1) (hg:st.row 3=some sgnRow) :
  ACalls Tryz.prog 129 [.cptr o 2 0 0,.int .i64 (d:Int)] st (PaR ts o st xv (fe (k + 1) 4 d (ts.drop a))) (PaP ts o st (fe (k + 1) 4 d (ts.drop a))):=by
 refine ACalls.inSet ho (ACalls.ofBody Tryz.func129 rfl Tryz.ntmps129 rfl ?_);refine goC ?_;refine rg ?_;refine al rfl rfl fun o2 h2=>?_
 replace h2:=none_set h2
 have hc:=pchain_ok H hK (lv:=4) (by decide) (by decide) hd9 (obj1 h2 (.cells 95 6 [exRow 0 0 [] [] nilV]) (prC (ts.map tokRow) a)) ha hk hg;refine goD ?_;refine clq rfl rfl hc (fun v st' ⟨e,k,q1,q2,q3,q4⟩=>⟨_,by rw [q3,push1 h2]; exact drop1 h2 _ _,e,k,q1,q2,rfl,q4⟩) fun v st' hR=>?_;obtain ⟨x,c,hv,hc,hst,hr⟩:=hR;subst hv;subst hst;rw [push1 h2];obtain ⟨op,num,name,field,args,hx⟩:=xrow_ex x;rw [xv,hx];refine soV rfl rfl rfl rfl rfl rfl ?_;refine goD ?_;refine AWP.ret (rets (resCW rfl (St.obj_set _ _ _) rfl rfl rfl rfl) (.refl _) (drop1 h2 _ _) ⟨x,c,?_,hc,rfl,hr⟩);show AV.agg _=AV.agg (xrow x);rw [hx] <;> rfl
set_option maxHeartbeats 1000000 in
theorem pexpr_step {ts:List Tk} (H:RdH ts) {k:Nat} (hK:FeOk ts (k + 1)) {d a o:Nat} {st:St} (hd9:d≤9) (ho:st.obj o=some (prC (ts.map tokRow) a)) (ha:a < ts.length) (hk:7 * (ts.length - a) + (6 - 1) < k + 2) (hg:st.row 3=some sgnRow) :
  ACalls Tryz.prog 101 [.cptr o 2 0 0,.int .i64 (d:Int)] st (PaR ts o st xv (fe (k + 2) 1 d (ts.drop a))) (PaP ts o st (fe (k + 2) 1 d (ts.drop a))):=by
 refine ACalls.inSet ho (ACalls.ofBody Tryz.func101 rfl Tryz.ntmps101 rfl ?_);have hlm:(ts.map tokRow).length≤100000:=by rw [List.length_map]; exact H.len
 rw [fe_lt (by decide)];refine goC ?_;refine rg ?_;refine al rfl rfl fun o2 h2=>?_
 replace h2:=none_set h2
 refine goD ?_;refine clq rfl rfl (hK (k + 1) (Nat.le_refl _) 2 d a o _ (by decide) (by decide) hd9 ha (by omega) (obj1 h2 _ _) hg) (fun v st' ⟨e,k,q1,q2,q3,q4⟩=>⟨_,by rw [q3,push1 h2]; exact drop1 h2 _ _,e,k,q1,q2,rfl,by rw [qb_err q4]⟩) fun v st' hR=>?_;obtain ⟨x,b,hv,hb,hst,hr⟩:=hR;subst hv;subst hst;have hab:=drop_lt ha (fe_lt_len (by decide) (by decide) (by rw [List.length_drop]; omega) hr);rw [push1 h2,qb_ok hr];clear hr;refine al rfl rfl fun o3 h3=>?_
 replace h3:=none_set2 h3
 obtain ⟨op,num,name,field,args,hx⟩:=xrow_ex x;rw [xv,hx];refine soV rfl rfl rfl rfl rfl rfl ?_;refine goD ?_;obtain ⟨t,t1,t2,t3,t4,t5⟩:=map_at hb;rw [fl_one,t3,t5];refine cl rfl rfl (poperator_ok (obj2 h2 h3 _ _ _) t4 t2 hlm 1 (by decide) (by decide) hg) fun v st' ⟨hv,hst⟩=>?_;subst hv;subst hst;by_cases hbn:(bin t).1=1
 ·rw [if_pos hbn,if_pos hbn,if_pos hbn,push2 h2 h3];have hk0:t.kind≠0:=by
   intro h0;have:(bin t).1=0:=by
    unfold bin binL sg;simp [h0]
   omega
  have hb1:=H.last _ _ t1 hk0
  have hop:6≤(bin t).2:=by
   have:=bin_or t;omega
  generalize (bin t).2=bop at hop;have hop0:¬ (bop:Int)=0:=by omega
  refine goD ?_;refine AWP.weaken (T':=[(6,.int .i64 (bop:Int)),(5,.cptr o3 6 0 0),(4,.cptr o2 6 0 0),(1,.int .i64 (d:Int)),(0,.cptr o 2 0 0)]) (st':=((st.set o (prC (ts.map tokRow) (b + 1))).set o2 (.cells 95 6 [exRow 0 0 [] [] nilV])).set o3 (.cells 95 6 [exRow op num name field (.view 6 args .shared)])) (tl5 rfl rfl rfl rfl rfl) (.refl _) ?_;refine AWP.any rfl ?_;obtain ⟨S0,hS0⟩:∃ S0,S0=((st.set o (prC (ts.map tokRow) (b + 1))).set o2 (.cells 95 6 [exRow 0 0 [] [] nilV])).set o3 (.cells 95 6 [exRow op num name field (.view 6 args .shared)]):=⟨_,rfl⟩;have hS0o:S0.obj o=some (prC (ts.map tokRow) (b + 1)):=by rw [hS0]; exact obj2 h2 h3 _ _ _
  have hS0s:∀ c,S0.set o (prC (ts.map tokRow) c)=((st.set o (prC (ts.map tokRow) c)).set o2 (.cells 95 6 [exRow 0 0 [] [] nilV])).set o3 (.cells 95 6 [exRow op num name field (.view 6 args .shared)]):=fun c=>by rw [hS0,push2 h2 h3]
  rw [← hS0];obtain ⟨y,hy0⟩:∃ y,∀ x r,fe k 2 d (ts.drop (b + 1))=.ok (x,r)→x=y:=by
   cases fe k 2 d (ts.drop (b + 1)) with
   | error e=>exact ⟨.lit 0,fun x r h=>by cases h⟩
   | ok p=>exact ⟨p.1,fun x r h=>by cases h; rfl⟩
  obtain ⟨op2,num2,name2,field2,args2,hy⟩:=xrow_ex y;have hS0le:∀ c,StLe (S0.set o (prC (ts.map tokRow) c)) (((st.drop o).set o2 (.cells 95 6 [exRow 0 0 [] [] nilV])).set o3 (.cells 95 6 [exRow op num name field (.view 6 args .shared)])):=fun c=>by
   rw [hS0s]; exact StLe.set _ _ (StLe.set _ _ StLe.drop_set)
  apply AAny.segX (X:=fun pv st'=>∃ st1,StLe st' st1∧PaP ts o st (qb (fe k 2 d (ts.drop (b + 1))) fun y r=>.ok (Xp.bin bop x y,r)) pv st1) (hX:=fun _ _ h=>h) (k':=7) (Es:=[4]) (J:=OpJ (ts:=ts) S0 o (fe k 2 d (ts.drop (b + 1))))
   (base:=((st.drop o).set o2 (.cells 95 6 [exRow 0 0 [] [] nilV])).set o3 (.cells 95 6 [exRow op num name field (.view 6 args .shared)])) (hok:=by decide +kernel) (hJ:=rfl) (hb:=by have:=hS0le (b + 1); rwa [St.set_same hS0o] at this)
  repeat (first|apply dsP (hi:=rfl) (hs:=rfl)|apply dqP (hi:=rfl) (hd:=rfl) (hw:=rfl) (h:=fun _ _=>ZE (z:=nz)))
  apply deP (Q:=fun v=>v=.agg (exRow op2 num2 name2 field2 (.view 6 args2 .shared))) (L:=[[false]]) (hL:=rfl) (hd:=rfl) (hw:=rfl) (hex:=⟨_,rfl⟩) (h:=by
   refine ⟨?_,trivial⟩;intro vs hvs hlk s hJ hle;obtain ⟨v1,rfl,e1⟩:=vs1 hvs;obtain rfl:v1=none:=by simpa using e1
   have hs0:S0=s:=Eq.symm hJ;subst hs0;refine clq rfl rfl (hK k (Nat.le_succ _) 2 d (b + 1) o S0 (by decide) (by decide) hd9 hb1 (by omega) hS0o (by rw [hS0]; exact hg)) (fun v st' ⟨e,k,q1,q2,q3,q4⟩=>⟨_,by rw [q3,hS0s]; exact drop2 h2 h3 _ _ _,e,k,q1,q2,rfl,by rw [qb_err q4]⟩) fun v st' hR=>?_;obtain ⟨y',c,hv,hc,hst,hr⟩:=hR;subst hv;subst hst;obtain rfl:=hy0 _ _ hr;exact nl ⟨_,rfl,by rw [xv,hy],⟨y',c,rfl,hc,rfl,hr⟩,hS0le c⟩)
  rintro v rfl;apply dqP (hi:=rfl) (hd:=rfl) (hw:=rfl) (h:=fun _ _=>bsh (cs:=exRow op num name field (.view 6 args .shared)++exRow op2 num2 name2 field2 (.view 6 args2 .shared)) rfl rfl rfl rfl rfl nz);apply dqP (hi:=rfl) (hd:=rfl) (hw:=rfl) (h:=fun _ _=>bds (cs:=exRow bop 0 [] [] (.view 6 [exRow op num name field (.view 6 args .shared),exRow op2 num2 name2 field2 (.view 6 args2 .shared)] .shared)) rfl rfl rfl rfl nz);refine dnP fun s hs=>?_;obtain ⟨y',c,hv,hc,hst,hr⟩:=hs;subst hst;have hv':exRow op2 num2 name2 field2 (.view 6 args2 .shared)=xrow y':=AV.agg.inj hv;rw [hS0s];refine AAny.text rfl ?_;refine soV rfl rfl rfl rfl rfl rfl ?_;refine goD ?_;refine soU rfl (Ne.symm (set_ne_new (h3 ob0 ob0))) rfl rfl rfl rfl rfl ?_;refine goD ?_;refine AWP.ret (rets (resCW rfl (St.obj_under (Ne.symm (set_ne_new (h3 ob0 ob0))) _ _) rfl rfl rfl rfl) (.refl _) (drop2 h2 h3 _ _ _) ⟨.bin bop x y',c,?_,hc,rfl,by rw [qb_ok hr]⟩);show AV.agg _=AV.agg (exRow bop 0 [] [] (.view 6 [xrow x,xrow y'] .shared));rw [hx,← hv'] <;> rfl
 ·rw [if_neg hbn,if_neg hbn,if_neg hbn];refine goD ?_;refine soU rfl (Ne.symm (set_ne_new (h3 ob0 ob0))) rfl rfl rfl rfl rfl ?_;refine goD ?_;refine AWP.ret (rets (resCW rfl (St.obj_under (Ne.symm (set_ne_new (h3 ob0 ob0))) _ _) rfl rfl rfl rfl) (.refl _) (drop2 h2 h3 _ _ _) ⟨x,b,?_,hb,rfl,rfl⟩);show AV.agg _=AV.agg (xrow x);rw [hx] <;> rfl

theorem fe_ok {ts:List Tk} (H:RdH ts):∀ K,FeOk ts K
 | 0=>fun k hk lv d a o st h1 h5 hd ha hb=>by omega
 | K + 1=>by
  have ih:=fe_ok H K;intro k hk lv d a o st h1 h5 hd ha hb ho hg;rcases Nat.lt_or_ge k (K + 1) with h|h
  ·exact ih k (by omega) lv d a o st h1 h5 hd ha hb ho hg
  ·obtain rfl:k=K + 1:=by omega
   rcases (by omega:lv=1∨lv=2∨lv=3∨lv=4∨lv=5) with rfl|rfl|rfl|rfl|rfl
   ·obtain ⟨k,rfl⟩:∃ k,K=k + 1:=⟨K - 1,by omega⟩;exact pexpr_step H ih hd ho ha hb hg
   ·exact pbits_ok H ih hd ho ha hb hg
   ·exact psum_ok H ih hd ho ha hb hg
   ·exact pproduct_ok H ih hd ho ha hb hg
   ·obtain ⟨k,rfl⟩:∃ k,K=k + 1:=⟨K - 1,by omega⟩;rw [fe_5];exact punary_step H ih hd ho ha (by omega) hg
def qx (ts:List Tk):FR:=fe (7 * ts.length + 7) 1 0 ts
def qt (ts:List Tk):FR:=ftg (7 * ts.length + 7) 0 ts
theorem pexpr_ok {ts:List Tk} (H:RdH ts) {a o:Nat} {st:St} (ho:st.obj o=some (prC (ts.map tokRow) a)) (ha:a < ts.length) (hg:st.row 3=some sgnRow) :
  ACalls Tryz.prog 101 [.cptr o 2 0 0,.int .i64 0] st (PaR ts o st xv (qx (ts.drop a))) (PaP ts o st (qx (ts.drop a))) :=
 fe_ok H _ _ (Nat.le_refl _) 1 0 a o st (by decide) (by decide) (by decide) ha (by rw [List.length_drop]; omega) ho hg
theorem ptarget_ok0 {ts:List Tk} (H:RdH ts) {a o:Nat} {st:St} (ho:st.obj o=some (prC (ts.map tokRow) a)) (ha:a < ts.length) (hg:st.row 3=some sgnRow) :
  ACalls Tryz.prog 115 [.cptr o 2 0 0,.int .i64 0] st (PaR ts o st xv (qt (ts.drop a))) (PaP ts o st (qt (ts.drop a))) :=
 ptarget_ok H (fe_ok H _) (by decide) ho ha (by rw [List.length_drop]; omega) hg
def stWords:List (List UInt8):=[[118,97,114],[105,102],[119,104,105,108,101],[114,101,116,117,114,110],[116,104,114,111,119],[116,114,121],[112,114,105,110,116]]
def begS (t:Tk):Bool:=decide (t.kind=1) || (decide (t.kind=3) && stWords.contains t.text)
theorem pbegS_ok (t:Tk) (st:St):ACalls Tryz.prog 99 [.agg (tokRow t)] st (fun v st'=>v=.bool (begS t)∧st'=st) (fun _ _=>False):=by
 refine ACalls.ofBody Tryz.func99 rfl Tryz.ntmps99 rfl ?_;by_cases h1:t.kind=1
 ·have hb:begS t=true:=by unfold begS; rw [h1]; rfl
  rw [hb];have h1':(t.kind:Int)=1:=by omega
  refine goD ?_;exact AWP.ret (rets rfl (.refl _) (.refl _) ⟨rfl,rfl⟩)
 have h1':¬ (t.kind:Int)=1:=by omega
 by_cases h3:t.kind=3
 ·have h3':(t.kind:Int)=3:=by omega
  have hb:begS t=stWords.contains t.text:=by
   unfold begS;simp [h3]
  rw [hb];clear hb;have hno:∀ w ∈ stWords,t.text=w→stWords.contains t.text=true:=fun w hw h=>by rw [h]; exact List.contains_iff_mem.2 hw
  by_cases k1:t.text=[118,97,114]
  ·rw [hno _ (by decide) k1];refine goD ?_;exact AWP.ret (rets rfl (.refl _) (.refl _) ⟨rfl,rfl⟩)
  by_cases k2:t.text=[105,102]
  ·rw [hno _ (by decide) k2];refine goD ?_;exact AWP.ret (rets rfl (.refl _) (.refl _) ⟨rfl,rfl⟩)
  by_cases k3:t.text=[119,104,105,108,101]
  ·rw [hno _ (by decide) k3];refine goD ?_;exact AWP.ret (rets rfl (.refl _) (.refl _) ⟨rfl,rfl⟩)
  by_cases k4:t.text=[114,101,116,117,114,110]
  ·rw [hno _ (by decide) k4];refine goD ?_;exact AWP.ret (rets rfl (.refl _) (.refl _) ⟨rfl,rfl⟩)
  by_cases k5:t.text=[116,104,114,111,119]
  ·rw [hno _ (by decide) k5];refine goD ?_;exact AWP.ret (rets rfl (.refl _) (.refl _) ⟨rfl,rfl⟩)
  by_cases k6:t.text=[116,114,121]
  ·rw [hno _ (by decide) k6];refine goD ?_;exact AWP.ret (rets rfl (.refl _) (.refl _) ⟨rfl,rfl⟩)
  by_cases k7:t.text=[112,114,105,110,116]
  ·rw [hno _ (by decide) k7];refine goD ?_;exact AWP.ret (rets rfl (.refl _) (.refl _) ⟨rfl,rfl⟩)
  have hf:stWords.contains t.text=false:=by
   rw [Bool.eq_false_iff];intro h;have:=List.contains_iff_mem.1 h;simp only [stWords,List.mem_cons,List.not_mem_nil,or_false] at this;rcases this with h|h|h|h|h|h|h
   ·exact k1 h
   ·exact k2 h
   ·exact k3 h
   ·exact k4 h
   ·exact k5 h
   ·exact k6 h
   ·exact k7 h
  rw [hf];refine goD ?_;exact AWP.ret (rets rfl (.refl _) (.refl _) ⟨rfl,rfl⟩)
 ·have h3':¬ (t.kind:Int)=3:=by omega
  have hb:begS t=false:=by
   unfold begS;simp [h1,h3]
  rw [hb];refine goD ?_;exact AWP.ret (rets rfl (.refl _) (.refl _) ⟨rfl,rfl⟩)
def seesC (ts:List Tk):Bool:=decide ((hd ts).kind=1) && sg (hd ts.tail) [40]
theorem pseesC_ok {ts:List Tk} (H:RdH ts) {a o:Nat} {st:St} (ho:st.obj o=some (prC (ts.map tokRow) a)) (ha:a < ts.length) :
  ACalls Tryz.prog 113 [.cptr o 2 0 0] st (fun v st'=>v=.bool (seesC (ts.drop a))∧st'=st) (fun _ _=>False):=by
 refine ACalls.ofBody Tryz.func113 rfl Tryz.ntmps113 rfl ?_;obtain ⟨t,t1,t3,t5,t6,ps,_,pt⟩:=pneed_of H ho ha;have hl:=H.len;unfold seesC;rw [t3,t5];unfold prC at ho;refine goC ?_;refine rg ?_;refine goE ?_;refine goC ?_;refine rg ?_;refine goE ?_;refine cle rfl rfl pt ?_
 skip
 refine fd (v:=.int .i64 (t.kind:Int)) rfl rfl rfl ?_;by_cases h1:t.kind=1
 ·have h1':(t.kind:Int)=1:=by omega
  rw [decide_eq_true h1,Bool.true_and];have hb1:=t6 (by rw [h1]; decide);obtain ⟨u,u1,u2,u3,u4,u5⟩:=map_at hb1;rw [u3];refine goD ?_;refine AWP.draw rfl 12 11 (fun v s=>∃ o3,v=.cptr o3 4 0 0∧st.obj o3=none∧s=st.set o3 (.cells 64 4 [tokRow ⟨0,0,[],0⟩])) rfl ?_;refine goF ?_;refine de rfl rfl rfl ?_ ?_
  ·exact al rfl rfl fun o7 h7=>nl ⟨_,rfl,⟨o7,rfl,h7,rfl⟩,⟨fun x c hx=>St.obj_new h7 hx,fun _ h=>(by cases h),rfl⟩⟩
  refine dn ⟨fun h=>absurd h (by decide),fun _=>?_⟩;rintro v s1 d7 hd7 ⟨o7,rfl,h7,rfl⟩;cases hd7;refine soV rfl rfl rfl rfl rfl rfl ?_;refine AOps.fz 3 rfl h7 ?_;refine nl ?_;refine AWP.weaken (T':=[(3,.eptr 4 [tokRow u] 0 0),(0,.cptr o 2 0 0)]) (st':=st) (tl2 rfl rfl) (.refl _) ?_;refine goD ?_;unfold sg;refine AOps.split 21 rfl (fun h1=>?_) (fun h1=>?_)
  ·have h2:u.kind=4:=by have h0:(u.kind:Int)=4:=h1; omega
   have h3:decide (u.kind=4∧u.text=[40])=decide (u.text=[40]):=decide_eq_decide.2 ⟨fun h=>h.2,fun h=>⟨h2,h⟩⟩;rw [h3];refine goD ?_;exact AWP.ret (rets rfl (.refl _) (.refl _) ⟨rfl,rfl⟩)
  ·have h2:¬ u.kind=4:=fun h0=>h1 (by show (u.kind:Int)=4; omega)
   have h3:decide (u.kind=4∧u.text=[40])=false:=decide_eq_false fun h=>h2 h.1;rw [h3];refine goD ?_;exact AWP.ret (rets rfl (.refl _) (.refl _) ⟨rfl,rfl⟩)
 ·have h1':¬ (t.kind:Int)=1:=by omega
  rw [decide_eq_false h1,Bool.false_and];refine goD ?_;exact AWP.ret (rets rfl (.refl _) (.refl _) ⟨rfl,rfl⟩)
instance und_any:Und Tryz.prog 20 (.interface #[]):=⟨by kernel_rfl⟩
theorem pclose_none {oP oL oE:Nat} {st:St}:ADef Tryz.prog 21 [.cptr oP 2 0 0,.cptr oL 1 0 0,.cptr oE 1 0 0] st none (fun st'=>st'=st):=by
 refine ADef.of_body (n:=22) Tryz.func21 rfl rfl rfl rfl ⟨rfl,rfl⟩ ?_;refine goC ?_;refine rg ?_;refine goE ?_;refine neI (b:=false) rfl rfl (.inl ⟨rfl,rfl⟩) ?_;refine goD ?_;exact ⟨st,.refl _,rfl⟩
def pgC (r f:AV):AObj:=.cells 28 2 [[r,f]]
def iC (t:TypeId) (n:Int):AObj:=.cells t 1 [[.int .i64 n]]
set_option maxHeartbeats 1000000 in
theorem pclose_some {oP oL oE:Nat} {st:St} {r f:AV} {l0 e0:Int} (hP:st.obj oP=some (pgC r f)) (hL:st.obj oL=some (iC 3 l0)) (hE:st.obj oE=some (iC 29 e0)) (line err:Int) :
  ADef Tryz.prog 21 [.cptr oP 2 0 0,.cptr oL 1 0 0,.cptr oE 1 0 0] st (some (fai line err)) (fun st'=>st'=((st.set oP (pgC nilV nilV)).set oL (iC 3 line)).set oE (iC 29 err)):=by
 have nPL:oP≠oL:=fun e=>by subst e; rw [hP] at hL; cases hL
 have nPE:oP≠oE:=fun e=>by subst e; rw [hP] at hE; cases hE
 have nLE:oL≠oE:=fun e=>by subst e; rw [hL] at hE; cases hE
 refine ADef.of_body (n:=22) Tryz.func21 rfl rfl rfl rfl ⟨rfl,rfl⟩ ?_;refine goC ?_;refine rg ?_;refine goE ?_;refine neI (b:=true) rfl rfl (.inr ⟨_,_,rfl,rfl⟩) ?_;refine goD ?_;refine tas rfl rfl rfl ?_;refine goD ?_;refine AWP.any rfl ?_;apply AAny.segY (k':=7) (S:=_) (Es:=[5,6]) (sts:=fun bs=>match bs with|[false,false]=>some st|[true,false]=>some (st.set oP (pgC nilV nilV))|[true,true]=>some ((st.set oP (pgC nilV nilV)).set oL (iC 3 line))|_=>none) (F:=fun x y=>y=x) (base:=st.bareOf) (hok:=by decide +kernel) (hS:=rfl) (h0:=rfl) (hF:=rfl) (hb:=StLe.bare rfl);apply dqY (hi:=rfl) (hd:=rfl) (hw:=rfl) (h:=fun _ _=>bds (cs:=[nilV,nilV]) rfl rfl rfl rfl nz);repeat (first|apply dqY (hi:=rfl) (hd:=rfl) (hw:=rfl) (h:=fun _ _=>ZF (z:=nz))|apply dqY (hi:=rfl) (hd:=rfl) (hw:=rfl) (h:=fun _ _=>ZC (z:=nz)))
 apply deY (L:=[[false,false]]) (hL:=rfl) (hd:=rfl) (hw:=rfl) (h:=by
  refine ⟨?_,trivial⟩;intro s0 e;cases e;refine ⟨_,rfl,fun S2 hs hle=>?_⟩;subst hs;exact so (rows':=[[nilV,nilV]]) rfl rfl rfl hP rfl rfl rfl rfl rfl (nl ⟨rfl,rfl,StLe.bare rfl⟩))
 apply deY (L:=[[true,false]]) (hL:=rfl) (hd:=rfl) (hw:=rfl) (h:=by
  refine ⟨?_,trivial⟩;intro s0 e;cases e;refine ⟨_,rfl,fun S2 hs hle=>?_⟩;subst hs;exact so (rows':=[[.int .i64 line]]) rfl rfl rfl (by rw [St.obj_set_ne (Ne.symm nPL)]; exact hL) rfl rfl rfl rfl rfl (nl ⟨rfl,rfl,StLe.bare rfl⟩))
 refine dnY rfl fun S2 hs _=>?_;subst hs;refine AAny.text rfl ?_;refine so (rows':=[[.int .i64 err]]) rfl rfl rfl (by rw [St.obj_set_ne (Ne.symm nLE),St.obj_set_ne (Ne.symm nPE)]; exact hE) rfl rfl rfl rfl rfl ?_;exact nl ⟨_,.refl _,rfl⟩
def sRow (kind line:Int) (name type:List UInt8) (len:Int) (target:AV) (func:List UInt8) (args body els:AV):List AV :=
 [.int .i64 kind,.int .i64 line,.int .i64 0,.str name,.str type,.int .i64 len,.int .i64 0,target,.str func,.int .i64 0,args,body,els]
def sC (row:List AV):AObj:=.cells 41 13 [row]
theorem ACalls.inSet2 {P:Program} {f:FuncId} {args:List AV} {st:St} {Rt RP:AV→St→Prop} {o os:Nat} {c d:AObj} (ho:st.obj o=some c) (hs:st.obj os=some d) (h:ACalls P f args ((st.set o c).set os d) Rt RP):ACalls P f args st Rt RP:=by
 rw [St.set_same ho,St.set_same hs] at h;exact h
def PsR {α:Type} (ts:List Tk) (o os:Nat) (st:St) (row:α→List AV) (r:QR α) (_:AV) (st':St):Prop :=
 ∃ x k,k < ts.length∧st'=(st.set o (prC (ts.map tokRow) k)).set os (sC (row x))∧r=.ok (x,ts.drop k)
def PsP {α:Type} (ts:List Tk) (o os:Nat) (st:St) (r:QR α) (pv:AV) (st':St):Prop :=
 ∃ e k c,k < ts.length∧pv=fai (hd (ts.drop k)).line (e:Nat)∧st'=(st.set o (prC (ts.map tokRow) k)).set os c∧r=.error (e,ts.drop k)

def wInt:List UInt8:=[105,110,116]
def fdecl (ts:List Tk):QR (List UInt8 × List UInt8 × Nat) :=
 qb (fname ts) fun n r1=>qb (fneed [58] r1) fun _ r2 =>
  if kw (hd r2) wInt then
   if sg (hd r2.tail) [91] then
    if (hd r2.tail.tail).kind=2 then
     if (hd r2.tail.tail).num < 1∨8 < (hd r2.tail.tail).num then .error (5,r2.tail.tail)
     else qb (fneed [93] r2.tail.tail.tail) fun _ r3=>qb (fneed [59] r3) fun _ r4=>.ok ((n,[],(hd r2.tail.tail).num),r4)
    else .error (7,r2.tail.tail)
   else qb (fneed [59] r2.tail) fun _ r3=>.ok ((n,[],0),r3)
  else qb (fname r2) fun ty r3=>qb (fneed [59] r3) fun _ r4=>.ok ((n,ty,0),r4)

theorem kw_kind {t:Tk} {s:List UInt8} (h:kw t s=true):t.kind≠0:=by rw [(of_decide_eq_true h).1]; decide
set_option maxHeartbeats 2000000 in
theorem pdecl_ok {ts:List Tk} (H:RdH ts) {a o os:Nat} {st:St} {line:Int} (hne:os≠o) (ho:st.obj o=some (prC (ts.map tokRow) a)) (hs:st.obj os=some (sC (sRow 0 line [] [] 0 nilV [] nilV nilV nilV))) (ha:a < ts.length) :
  ACalls Tryz.prog 100 [.cptr o 2 0 0,.cptr os 13 0 0] st (PsR ts o os st (fun x=>sRow 1 line x.1 x.2.1 x.2.2 nilV [] nilV nilV nilV) (fdecl (ts.drop a))) (PsP ts o os st (fdecl (ts.drop a))):=by
 refine ACalls.inSet2 ho hs (ACalls.ofBody Tryz.func100 rfl Tryz.ntmps100 rfl ?_);have inn:∀ b z r,((st.set o b).set os z).set o r=(st.set o r).set os z:=fun b z r=>St.set_inner hne b r z
 have ob:∀ b z,((st.set o b).set os z).obj o=some b:=fun b z=>St.obj_under hne b z
 have hl:=H.len;clear ho hs;unfold sC;refine goD ?_;refine so1 (row':=sRow 1 line [] [] 0 nilV [] nilV nilV nilV) rfl rfl rfl rfl rfl (by exact Nat.le_of_ble_eq_true rfl) rfl ?_;refine goD ?_;refine clq rfl rfl (pname_ok H (ob _ _) ha) (fun v st' ⟨e,k,q1,q2,q3,q4⟩=>⟨_,.refl _,e,k,_,q1,q2,q3.trans (inn _ _ _),by rw [fdecl,qb_err q4]⟩) fun v st' hR=>?_;obtain ⟨n,b,hv,hb,hst,hr⟩:=hR;subst hv;subst hst;rw [inn,fdecl,qb_ok hr];clear hr;refine goD ?_;refine so1 (row':=sRow 1 line n [] 0 nilV [] nilV nilV nilV) rfl rfl rfl rfl rfl (by exact Nat.le_of_ble_eq_true rfl) rfl ?_;refine goD ?_;refine clq rfl rfl (pneed_ok H (ob _ _) hb [58]) (fun v st' ⟨e,k,q1,q2,q3,q4⟩=>⟨_,.refl _,e,k,_,q1,q2,q3.trans (inn _ _ _),by rw [qb_err q4]⟩) fun v st' hR=>?_;obtain ⟨_,b2,hb2,hst,hr⟩:=hR;subst hst;rw [inn,qb_ok hr];clear hr;refine goD ?_;obtain ⟨t,t1,t3,t5,t6,ps,pw,pt⟩:=pneed_of H (ob (prC (ts.map tokRow) b2) (.cells 41 13 [sRow 1 line n [] 0 nilV [] nilV nilV nilV])) hb2;refine cl rfl rfl (pw wInt) fun v st' ⟨hv,hst⟩=>?_;subst hv;subst hst;rw [t3,t5];by_cases c1:kw t wInt=true
 ·rw [if_pos c1,if_pos c1,c1,inn];have hb3:=t6 (kw_kind c1);refine goD ?_;obtain ⟨t',t1',t3',t5',t6',ps',pw',pt'⟩:=pneed_of H (ob (prC (ts.map tokRow) (b2 + 1)) (.cells 41 13 [sRow 1 line n [] 0 nilV [] nilV nilV nilV])) hb3;refine cl rfl rfl (ps' [91]) fun v st' ⟨hv,hst⟩=>?_;subst hv;subst hst;rw [t3',t5'];by_cases c2:sg t' [91]=true
  ·rw [if_pos c2,if_pos c2,c2,inn];have hb4:=t6' (sg_kind c2);obtain ⟨u,u1,u3,u5,u6,_,_,pu⟩:=pneed_of H (ob (prC (ts.map tokRow) (b2 + 1 + 1)) (.cells 41 13 [sRow 1 line n [] 0 nilV [] nilV nilV nilV])) hb4;rw [u3,u5];refine goD ?_;refine cle rfl rfl pu ?_;by_cases k2:u.kind=2
   ·have k2':(u.kind:Int)=2:=by omega
    have hb5:=u6 (by rw [k2]; decide);rw [if_pos k2];by_cases k3:u.num < 1∨8 < u.num
    ·rw [if_pos k3];by_cases k4:u.num < 1
     ·have k4':(u.num:Int) < 1:=by omega
      refine goD ?_;exact clq rfl rfl (pfail_P H (ob _ _) hb4 5 (α:=List UInt8 × List UInt8 × Nat) rfl) (fun v st' ⟨e,k,q1,q2,q3,q4⟩=>⟨_,.refl _,e,k,_,q1,q2,q3.trans (inn _ _ _),q4⟩) fun v st' h=>h.elim
     ·have k4':¬ (u.num:Int) < 1:=by omega
      have k5:(8:Int) < (u.num:Int):=by omega
      refine goD ?_;exact clq rfl rfl (pfail_P H (ob _ _) hb4 5 (α:=List UInt8 × List UInt8 × Nat) rfl) (fun v st' ⟨e,k,q1,q2,q3,q4⟩=>⟨_,.refl _,e,k,_,q1,q2,q3.trans (inn _ _ _),q4⟩) fun v st' h=>h.elim
    ·rw [if_neg k3];have k4':¬ (u.num:Int) < 1:=by omega
     have k5:¬ (8:Int) < (u.num:Int):=by omega
     refine goD ?_;refine so1 (row':=sRow 1 line n [] u.num nilV [] nilV nilV nilV) rfl rfl rfl rfl rfl (by exact Nat.le_of_ble_eq_true rfl) rfl ?_;have ho5:((st.set o (prC (ts.map tokRow) (b2 + 1 + 1))).set os (.cells 41 13 [sRow 1 line n [] u.num nilV [] nilV nilV nilV])).obj o=some (.cells 58 2 [[.view 4 (ts.map tokRow) .shared,.int .i64 ((b2 + 1 + 1:Nat):Int)]]):=ob _ _;refine goD ?_;refine so (rows':=[[.view 4 (ts.map tokRow) .shared,.int .i64 ((b2 + 1 + 1 + 1:Nat):Int)]]) rfl rfl rfl ho5 rfl rfl rfl rfl rfl ?_;rw [inn];refine goD ?_;refine clq rfl rfl (pneed_ok H (a:=b2 + 1 + 1 + 1) (ob _ _) hb5 [93]) (fun v st' ⟨e,k,q1,q2,q3,q4⟩=>⟨_,.refl _,e,k,_,q1,q2,q3.trans (inn _ _ _),by rw [qb_err q4]⟩) fun v st' hR=>?_;obtain ⟨_,b6,hb6,hst,hr⟩:=hR;subst hst;rw [inn,qb_ok hr];clear hr;refine goD ?_;refine clq rfl rfl (pneed_ok H (ob _ _) hb6 [59]) (fun v st' ⟨e,k,q1,q2,q3,q4⟩=>⟨_,.refl _,e,k,_,q1,q2,q3.trans (inn _ _ _),by rw [qb_err q4]⟩) fun v st' hR=>?_;obtain ⟨_,b7,hb7,hst,hr⟩:=hR;subst hst;rw [inn,qb_ok hr];refine goD ?_;exact rets rfl (.refl _) (.refl _) ⟨(n,[],u.num),b7,hb7,rfl,rfl⟩
   ·have k2':¬ (u.kind:Int)=2:=by omega
    rw [if_neg k2];refine goD ?_;exact clq rfl rfl (pfail_P H (ob _ _) hb4 7 (α:=List UInt8 × List UInt8 × Nat) rfl) (fun v st' ⟨e,k,q1,q2,q3,q4⟩=>⟨_,.refl _,e,k,_,q1,q2,q3.trans (inn _ _ _),q4⟩) fun v st' h=>h.elim
  ·rw [if_neg c2,if_neg c2];rw [Bool.not_eq_true] at c2;rw [c2];refine goD ?_;refine clq rfl rfl (pneed_ok H (ob _ _) hb3 [59]) (fun v st' ⟨e,k,q1,q2,q3,q4⟩=>⟨_,.refl _,e,k,_,q1,q2,q3.trans (inn _ _ _),by rw [qb_err q4]⟩) fun v st' hR=>?_;obtain ⟨_,b7,hb7,hst,hr⟩:=hR;subst hst;rw [inn,qb_ok hr];refine goD ?_;exact rets rfl (.refl _) (.refl _) ⟨(n,[],0),b7,hb7,rfl,rfl⟩
 ·rw [if_neg c1,if_neg c1];rw [Bool.not_eq_true] at c1;rw [c1];refine goD ?_;refine clq rfl rfl (pname_ok H (ob _ _) hb2) (fun v st' ⟨e,k,q1,q2,q3,q4⟩=>⟨_,.refl _,e,k,_,q1,q2,q3.trans (inn _ _ _),by rw [qb_err q4]⟩) fun v st' hR=>?_;obtain ⟨ty,b3,hv,hb3,hst,hr⟩:=hR;subst hv;subst hst;rw [inn,qb_ok hr];clear hr;refine goD ?_;refine so1 (row':=sRow 1 line n ty 0 nilV [] nilV nilV nilV) rfl rfl rfl rfl rfl (by exact Nat.le_of_ble_eq_true rfl) rfl ?_;refine goD ?_;refine clq rfl rfl (pneed_ok H (ob _ _) hb3 [59]) (fun v st' ⟨e,k,q1,q2,q3,q4⟩=>⟨_,.refl _,e,k,_,q1,q2,q3.trans (inn _ _ _),by rw [qb_err q4]⟩) fun v st' hR=>?_;obtain ⟨_,b7,hb7,hst,hr⟩:=hR;subst hst;rw [inn,qb_ok hr];refine goD ?_;exact rets rfl (.refl _) (.refl _) ⟨(n,ty,0),b7,hb7,rfl,rfl⟩
end Go.Proofs
namespace Go.Proofs
open Go.AM
attribute [local irreducible] AWP AOps ACalls AAny
def nlv (rows:List (List AV)):AV:=if rows=[] then nilV else .view 6 rows .shared
theorem nlv_le (rows:List (List AV)):Le (nlv rows) (.view 6 rows .shared):=by
 unfold nlv;split
 ·rename_i h; subst h; exact .nilShared _ _
 ·exact .refl _
def fargs:Nat→List Xp→List Tk→QR (List Xp)
 | 0,_,_=>.error (99,[])
 | k + 1,l,ts=>if sg (hd ts) [44] then qb (qx ts.tail) fun x r=>fargs k (l++[x]) r else .ok (l,ts)
def fcall (ts:List Tk):QR (List UInt8 × List Xp) :=
 qb (fname ts) fun n r=>qb (fneed [40] r) fun _ r2=>if sg (hd r2) [41] then .ok ((n,[]),r2.tail)
  else qb (qx r2) fun x r3=>qb (fargs (r3.length + 1) [x] r3) fun l r4=>qb (fneed [41] r4) fun _ r5=>.ok ((n,l),r5)
def xrows (l:List Xp):List (List AV):=l.map xrow
theorem xrows_len (l:List Xp):(xrows l).length=l.length:=List.length_map ..
def aRow (kind line:Int) (tgt:AV) (fn:List UInt8) (c:AV):List AV:=sRow kind line [] [] 0 tgt fn c nilV nilV
theorem qx_lt {ts:List Tk} {x:Xp} {r:List Tk} (h:qx ts=.ok (x,r)):r.length < ts.length:=fe_lt_len (by decide) (by decide) (by omega) h
theorem fneed_lt {s:List UInt8} {ts:List Tk} {r:List Tk} (h:fneed s ts=.ok ((),r)) (h0:ts≠[]):r.length < ts.length:=by
 unfold fneed at h;split at h
 ·cases h;cases ts with
  | nil=>exact absurd rfl h0
  | cons a b=>exact Nat.lt_succ_self _
 ·cases h

def CS (st:St) (o os:Nat) (X:List (List AV)) (kind line:Int) (tgt:AV) (fn:List UInt8) (l:List Xp) (oo:Option Nat) (k:Nat):St :=
 mst ((st.set o (prC X k)).set os (.cells 41 13 [aRow kind line tgt fn (mslot 6 (xrows l).length oo)])) 95 6 (xrows l) oo
structure CSok (st:St) (o os:Nat) (l:List Xp) (oo:Option Nat):Prop where
 ne:os≠o
 len:oo=none→l.length=0
 new:∀ p,oo=some p→p≠o∧p≠os∧st.obj p=none
section
variable {st:St} {o os:Nat} {X:List (List AV)} {kind line:Int} {tgt:AV} {fn:List UInt8} {l:List Xp} {oo:Option Nat}
theorem CS.obj_o (h:CSok st o os l oo) (k:Nat):(CS st o os X kind line tgt fn l oo k).obj o=some (prC X k):=by
 cases oo with
 | none=>exact St.obj_under h.ne _ _
 | some p=>exact (St.obj_set_ne (Ne.symm (h.new p rfl).1)).trans (St.obj_under h.ne _ _)
theorem CS.obj_os (h:CSok st o os l oo) (k:Nat):(CS st o os X kind line tgt fn l oo k).obj os=some (.cells 41 13 [aRow kind line tgt fn (mslot 6 (xrows l).length oo)]):=by
 cases oo with
 | none=>exact St.obj_set _ _ _
 | some p=>exact (St.obj_set_ne (Ne.symm (h.new p rfl).2.1)).trans (St.obj_set _ _ _)
theorem CS.set_o (h:CSok st o os l oo) (k k':Nat):(CS st o os X kind line tgt fn l oo k).set o (prC X k')=CS st o os X kind line tgt fn l oo k':=by
 cases oo with
 | none=>exact St.set_inner h.ne _ _ _
 | some p =>
  show (((st.set o _).set os _).set p _).set o _=((st.set o _).set os _).set p _;rw [St.set_comm _ (h.new p rfl).1,St.set_inner h.ne]
theorem CS.le (h:CSok st o os l oo) (k:Nat):StLe (CS st o os X kind line tgt fn l oo k) ((st.set o (prC X k)).set os (.cells 41 13 [aRow kind line tgt fn (mslot 6 (xrows l).length oo)])):=by
 cases oo with
 | none=>exact .refl _
 | some p =>
  obtain ⟨n1,n2,n3⟩:=h.new p rfl;exact StLe.new (by rw [St.obj_set_ne n2,St.obj_set_ne n1]; exact n3) (.refl _)
theorem CSok.none_p {p:Nat} (h:CSok st o os l (some p)) (r z:AObj):((st.set o r).set os z).obj p=none:=by
 obtain ⟨n1,n2,n3⟩:=h.new p rfl;rw [St.obj_set_ne n2,St.obj_set_ne n1];exact n3
theorem CS.pan {ts:List Tk} {α β:Type} {r:QR α} {Res:QR β} {k:Nat} {pv:AV} {st':St} (h:CSok st o os l oo) (hp:PaP ts o (CS st o os (ts.map tokRow) kind line tgt fn l oo k) r pv st') (hr:∀ e,r=.error e→Res=.error e) :
  ∃ st1,StLe st' st1∧PsP ts o os st Res pv st1:=by
 obtain ⟨e,k',q1,q2,rfl,q4⟩:=hp;rw [CS.set_o h];exact ⟨_,CS.le h _,e,k',_,q1,q2,rfl,hr _ q4⟩
end

set_option maxHeartbeats 4000000 in
theorem pcall_ok {ts:List Tk} (H:RdH ts) {a o os:Nat} {st:St} {kind line:Int} {tgt:AV} (hne:os≠o) (ho:st.obj o=some (prC (ts.map tokRow) a)) (hs:st.obj os=some (sC (aRow kind line tgt [] nilV))) (ha:a < ts.length) (hg:st.row 3=some sgnRow) :
  ACalls Tryz.prog 114 [.cptr o 2 0 0,.cptr os 13 0 0] st (PsR ts o os st (fun x=>aRow kind line tgt x.1 (nlv (xrows x.2))) (fcall (ts.drop a))) (PsP ts o os st (fcall (ts.drop a))):=by
 refine ACalls.inSet2 ho hs (ACalls.ofBody Tryz.func114 rfl Tryz.ntmps114 rfl ?_);have inn:∀ b z r,((st.set o b).set os z).set o r=(st.set o r).set os z:=fun b z r=>St.set_inner hne b r z
 have ob:∀ b z,((st.set o b).set os z).obj o=some b:=fun b z=>St.obj_under hne b z
 have hl:=H.len;clear ho hs;unfold sC;refine goD ?_;refine clq rfl rfl (pname_ok H (ob _ _) ha) (fun v st' ⟨e,k,q1,q2,q3,q4⟩=>⟨_,.refl _,e,k,_,q1,q2,q3.trans (inn _ _ _),by rw [fcall,qb_err q4]⟩) fun v st' hR=>?_;obtain ⟨n,b,hv,hb,hst,hr⟩:=hR;subst hv;subst hst;rw [inn,fcall,qb_ok hr];clear hr;refine goD ?_;refine so1 (row':=aRow kind line tgt n nilV) rfl rfl rfl rfl rfl (by exact Nat.le_of_ble_eq_true rfl) rfl ?_;refine goD ?_;refine clq rfl rfl (pneed_ok H (ob _ _) hb [40]) (fun v st' ⟨e,k,q1,q2,q3,q4⟩=>⟨_,.refl _,e,k,_,q1,q2,q3.trans (inn _ _ _),by rw [qb_err q4]⟩) fun v st' hR=>?_;obtain ⟨_,b2,hb2,hst,hr⟩:=hR;subst hst;rw [inn,qb_ok hr];clear hr hb b;refine goD ?_;obtain ⟨t,t1,t3,t5,t6,ps,pw,pt⟩:=pneed_of H (ob (prC (ts.map tokRow) b2) (.cells 41 13 [aRow kind line tgt n nilV])) hb2;refine cl rfl rfl (ps [41]) fun v st' ⟨hv,hst⟩=>?_;subst hv;subst hst;rw [t3,t5];by_cases c1:sg t [41]=true
 ·rw [if_pos c1,if_pos c1,c1,inn];have hb3:=t6 (sg_kind c1);refine goD ?_;exact AWP.ret (rets rfl (.refl _) (.refl _) ⟨(n,[]),b2 + 1,hb3,rfl,rfl⟩)
 rw [if_neg c1,if_neg c1];rw [Bool.not_eq_true] at c1;rw [c1];refine goD ?_;have K0:CSok st o os [] none:=⟨hne,fun _=>rfl,fun p h=>by cases h⟩;refine AWP.weaken (T':=[(1,.cptr os 13 0 0),(0,.cptr o 2 0 0)]) (st':=CS st o os (ts.map tokRow) kind line tgt n [] none b2) (tl2 rfl rfl) (.refl _) ?_;refine AWP.any rfl ?_;have hXb:((CS st o os (ts.map tokRow) kind line tgt n [] none b2).drop o).obj os=some (.cells 41 13 [aRow kind line tgt n (mslot 6 (xrows []).length none)]):=by rw [St.obj_drop_ne hne]; exact CS.obj_os K0 _
 obtain ⟨y,hy0⟩:∃ y,∀ x r,qx (ts.drop b2)=.ok (x,r)→x=y:=by
  cases qx (ts.drop b2) with
  | error e=>exact ⟨.lit 0,fun x r h=>by cases h⟩
  | ok p=>exact ⟨p.1,fun x r h=>by cases h; rfl⟩
 obtain ⟨op2,num2,name2,field2,args2,hy⟩:=xrow_ex y;generalize hRes:(qb (qx (ts.drop b2)) fun x r3=>qb (fargs (r3.length + 1) [x] r3) fun l r4=>qb (fneed [41] r4) fun _ r5=>(.ok ((n,l),r5):QR (List UInt8 × List Xp)))=Res;apply AAny.segX (X:=fun pv st'=>∃ st1,StLe st' st1∧PsP ts o os st Res pv st1) (hX:=fun _ _ h=>h) (k':=8) (Es:=[5]) (J:=OpJ (ts:=ts) (CS st o os (ts.map tokRow) kind line tgt n [] none b2) o (qx (ts.drop b2)))
  (base:=(CS st o os (ts.map tokRow) kind line tgt n [] none b2).drop o) (hok:=by decide +kernel) (hJ:=rfl) (hb:=by have:=StLe.drop_set (st:=CS st o os (ts.map tokRow) kind line tgt n [] none b2) (o:=o) (r:=prC (ts.map tokRow) b2); rwa [St.set_same (CS.obj_o K0 _)] at this)
 repeat (first|apply dsP (hi:=rfl) (hs:=rfl)|apply dqP (hi:=rfl) (hd:=rfl) (hw:=rfl) (h:=fun _ _=>ZC (z:=nz))|apply dqP (hi:=rfl) (hd:=rfl) (hw:=rfl) (h:=fun _ _=>ZH (z:=nz)))
 apply deP (Q:=fun v=>v=.agg (exRow op2 num2 name2 field2 (.view 6 args2 .shared))) (L:=[[false]]) (hL:=rfl) (hd:=rfl) (hw:=rfl) (hex:=⟨_,rfl⟩) (h:=by
  refine ⟨?_,trivial⟩;intro vs hvs hlk s hJ hle;obtain ⟨v1,rfl,e1⟩:=vs1 hvs;obtain rfl:v1=none:=by simpa using e1
  have hs0:CS st o os (ts.map tokRow) kind line tgt n [] none b2=s:=Eq.symm hJ;subst hs0;refine clq rfl rfl (pexpr_ok H (CS.obj_o K0 _) hb2 hg) (fun v st' hp=>CS.pan K0 hp fun e he=>by rw [← hRes,qb_err he]) fun v st' hR=>?_;obtain ⟨y',c,hv,hc,hst,hr⟩:=hR;subst hv;subst hst;obtain rfl:=hy0 _ _ hr;exact nl ⟨_,rfl,by rw [xv,hy],⟨y',c,rfl,hc,rfl,hr⟩,StLe.drop_set⟩)
 rintro v rfl;apply dqP (hi:=rfl) (hd:=rfl) (hw:=rfl) (h:=fun _ _=>lnq rfl rfl (fun e=>by rw [xrows_len,K0.len e]) nz);apply dqP (hi:=rfl) (hd:=rfl) (hw:=rfl) (h:=fun _ _=>bz1 (row:=exRow 0 0 [] [] nilV) (z:=nz));refine dnP fun s hs=>?_;obtain ⟨y',b3,hv,hb3,hst,hr⟩:=hs;subst hst;have hv':exRow op2 num2 name2 field2 (.view 6 args2 .shared)=xrow y':=AV.agg.inj hv;rw [CS.set_o K0];rw [qb_ok hr] at hRes;refine AAny.one rfl rfl rfl rfl ?_;refine apq (rows:=xrows []) (oo:=none) rfl rfl rfl rfl (by simp) rfl (by simp only [xrows_len,List.length_cons,List.length_nil]; omega) (by simp only [xrows_len,List.length_cons,List.length_nil,maxLen]; omega) fun o' ho'=>nl ⟨_,rfl,?_⟩;have q1:o'≠os:=fun e=>by rw [e,St.obj_set] at ho'; cases ho'
 have q2:o'≠o:=fun e=>by rw [e,St.obj_under hne] at ho'; cases ho'
 have q3:st.obj o'=none:=by rw [St.obj_set_ne q1,St.obj_set_ne q2] at ho'; exact ho'
 apply AAny.segY (k':=14) (S:=_) (Es:=[10,13]) (sts:=fun bs=>match bs with|[b1,b2]=>some (((st.set o (prC (ts.map tokRow) b3)).set os (.cells 41 13 [aRow kind line tgt n (bif b2 then .msl o' 6 0 ((xrows []).length + 1) else mslot 6 (xrows []).length none)])).set o' (.cells 95 6 (xrows []++[bif b1 then exRow op2 num2 name2 field2 (.view 6 args2 .shared) else exRow 0 0 [] [] nilV])))|_=>none) (F:=fun x y=>y=x) (base:=St.bareOf st) (hok:=rfl) (hS:=rfl) (h0:=rfl) (hF:=rfl) (hb:=StLe.bare rfl)
 skip
 apply dqY (hi:=rfl) (hd:=rfl) (hw:=rfl) (h:=fun _ _=>ixm (m:=(xrows []).length) rfl rfl rfl rfl (by simp only [List.length_cons,List.length_nil]; omega) nz);apply deY (L:=[[false,false],[false,true]]) (hL:=rfl) (hd:=rfl) (hw:=rfl) (h:=by
  refine ⟨?_,?_,trivial⟩ <;>
  ·intro s0 e;cases e;refine ⟨_,rfl,fun s hs hle=>?_⟩;subst hs;simp only [cond_true,cond_false];refine sos (row:=exRow 0 0 [] [] nilV) (rows':=xrows []++[exRow op2 num2 name2 field2 (.view 6 args2 .shared)]) rfl rfl rfl (by rw [Nat.zero_add]; simp) rfl rfl rfl (by rw [Nat.zero_add]; simp [rowSet,exRow]) ?_;exact nl ⟨rfl,rfl,StLe.bare rfl⟩)
 repeat (first|apply dsY (hi:=rfl) (hs:=rfl)|apply dqY (hi:=rfl) (hd:=rfl) (hw:=rfl) (h:=fun _ _=>ZC (z:=nz)))
 apply deY (L:=[[false,false],[true,false]]) (hL:=rfl) (hd:=rfl) (hw:=rfl) (h:=by
  refine ⟨?_,?_,trivial⟩ <;>
  ·intro s0 e;cases e;refine ⟨_,rfl,fun s hs hle=>?_⟩;subst hs;simp only [cond_true,cond_false];refine so (rows':=[aRow kind line tgt n (.msl o' 6 0 ((xrows []).length + 1))]) rfl rfl rfl (St.obj_under q1 _ _) rfl rfl rfl rfl rfl ?_;exact nl ⟨rfl,St.set_inner q1 _ _ _,StLe.bare rfl⟩)
 refine dnY rfl fun s hs _=>?_;subst hs;refine AAny.text rfl ?_;have hx1:xrows [y']=[exRow op2 num2 name2 field2 (.view 6 args2 .shared)]:=by rw [hv'] <;> rfl
 have hb23:=drop_lt hb2 (qx_lt hr);refine nl ?_;refine goC ?_;refine AWP.loop (α:=List Xp × Nat × Nat × Nat) (fun _=>[(1,.cptr os 13 0 0),(0,.cptr o 2 0 0)]) (fun z=>CS st o os (ts.map tokRow) kind line tgt n z.1 (some z.2.2.2) z.2.1)
  (fun z=>z.2.1 < ts.length∧z.1.length≤z.2.1∧0 < z.1.length∧(ts.drop z.2.1).length < z.2.2.1∧CSok st o os z.1 (some z.2.2.2)∧Res=qb (fargs z.2.2.1 z.1 (ts.drop z.2.1)) fun l r4=>qb (fneed [41] r4) fun _ r5=>(.ok ((n,l),r5):QR (List UInt8 × List Xp))) (fun z=>ts.length - z.2.1)
  ([y'],b3,(ts.drop b3).length + 1,o') ⟨hb3,by simp only [List.length_cons,List.length_nil]; omega,Nat.zero_lt_one,by simp only [List.length_drop]; omega,⟨hne,fun h=>(by cases h),fun p h=>by cases h; exact ⟨q2,q1,q3⟩⟩,hRes.symm⟩ (tl2 rfl rfl) ?_ ?_
 ·show StLe _ (((st.set o _).set os (.cells _ 13 [aRow kind line tgt n (.msl o' 6 0 (xrows [y']).length)])).set o' (.cells _ 6 (xrows [y'])));rw [hx1];exact .refl _
 clear hRes hr hv' hx1 hy0 hXb hb3 hb23 hy;rintro ⟨l,b,fu,p⟩ ⟨hb,hlb,hl0,hfu,KL,hI⟩;simp only at hb hlb hl0 hfu KL hI;obtain ⟨fu,rfl⟩:∃ f,fu=f + 1:=⟨fu - 1,by omega⟩;refine AWP.weaken (T':=[(1,.cptr os 13 0 0),(0,.cptr o 2 0 0)]) (st':=CS st o os (ts.map tokRow) kind line tgt n l (some p) b) (tl2 rfl rfl) (.refl _) ?_;obtain ⟨t,t1,t3,t5,t6,ps,pw,pt⟩:=pneed_of H (CS.obj_o KL (X:=ts.map tokRow) (kind:=kind) (line:=line) (tgt:=tgt) (fn:=n) b) hb;rw [fargs,t3,t5] at hI;refine goD ?_;refine cl rfl rfl (ps [44]) fun v st' ⟨hv,hst⟩=>?_;subst hv;subst hst;by_cases c2:sg t [44]=true
 ·have hb1:=t6 (sg_kind c2);rw [if_pos c2] at hI;rw [if_pos c2,c2,CS.set_o KL];refine goD ?_;refine AWP.any rfl ?_;have hXb:((CS st o os (ts.map tokRow) kind line tgt n l (some p) (b + 1)).drop o).obj os=some (.cells 41 13 [aRow kind line tgt n (mslot 6 (xrows l).length (some p))]):=by rw [St.obj_drop_ne hne]; exact CS.obj_os KL _
  obtain ⟨y,hy0⟩:∃ y,∀ x r,qx (ts.drop (b + 1))=.ok (x,r)→x=y:=by
   cases qx (ts.drop (b + 1)) with
   | error e=>exact ⟨.lit 0,fun x r h=>by cases h⟩
   | ok p=>exact ⟨p.1,fun x r h=>by cases h; rfl⟩
  obtain ⟨op2,num2,name2,field2,args2,hy⟩:=xrow_ex y;apply AAny.segX (X:=fun pv st'=>∃ st1,StLe st' st1∧PsP ts o os st Res pv st1) (hX:=fun _ _ h=>h) (k':=8) (Es:=[5]) (J:=OpJ (ts:=ts) (CS st o os (ts.map tokRow) kind line tgt n l (some p) (b + 1)) o (qx (ts.drop (b + 1))))
   (base:=(CS st o os (ts.map tokRow) kind line tgt n l (some p) (b + 1)).drop o) (hok:=by decide +kernel) (hJ:=rfl) (hb:=by have:=StLe.drop_set (st:=CS st o os (ts.map tokRow) kind line tgt n l (some p) (b + 1)) (o:=o) (r:=prC (ts.map tokRow) (b + 1)); rwa [St.set_same (CS.obj_o KL _)] at this)
  repeat (first|apply dsP (hi:=rfl) (hs:=rfl)|apply dqP (hi:=rfl) (hd:=rfl) (hw:=rfl) (h:=fun _ _=>ZC (z:=nz))|apply dqP (hi:=rfl) (hd:=rfl) (hw:=rfl) (h:=fun _ _=>ZH (z:=nz)))
  apply deP (Q:=fun v=>v=.agg (exRow op2 num2 name2 field2 (.view 6 args2 .shared))) (L:=[[false]]) (hL:=rfl) (hd:=rfl) (hw:=rfl) (hex:=⟨_,rfl⟩) (h:=by
   refine ⟨?_,trivial⟩;intro vs hvs hlk s hJ hle;obtain ⟨v1,rfl,e1⟩:=vs1 hvs;obtain rfl:v1=none:=by simpa using e1
   have hs0:CS st o os (ts.map tokRow) kind line tgt n l (some p) (b + 1)=s:=Eq.symm hJ;subst hs0;refine clq rfl rfl (pexpr_ok H (CS.obj_o KL _) hb1 hg) (fun v st' hp=>CS.pan KL hp fun e he=>by rw [hI,qb_err (qb_err he)]) fun v st' hR=>?_;obtain ⟨y',c,hv,hc,hst,hr⟩:=hR;subst hv;subst hst;obtain rfl:=hy0 _ _ hr;exact nl ⟨_,rfl,by rw [xv,hy],⟨y',c,rfl,hc,rfl,hr⟩,StLe.drop_set⟩)
  rintro v rfl;apply dqP (hi:=rfl) (hd:=rfl) (hw:=rfl) (h:=fun _ _=>lnq rfl rfl (fun e=>by rw [xrows_len,KL.len e]) nz);apply dqP (hi:=rfl) (hd:=rfl) (hw:=rfl) (h:=fun _ _=>bz1 (row:=exRow 0 0 [] [] nilV) (z:=nz));refine dnP fun s hs=>?_;obtain ⟨y',b3,hv,hb3,hst,hr⟩:=hs;subst hst;have hv':exRow op2 num2 name2 field2 (.view 6 args2 .shared)=xrow y':=AV.agg.inj hv;rw [CS.set_o KL];rw [qb_ok hr] at hI;refine AAny.one rfl rfl rfl rfl ?_;refine apq (rows:=xrows l) (oo:=some p) rfl rfl rfl (KL.none_p _ _) (by simp) rfl (by simp only [xrows_len,List.length_cons,List.length_nil]; omega) (by simp only [xrows_len,List.length_cons,List.length_nil,maxLen]; omega) fun o' ho'=>nl ⟨_,rfl,?_⟩;have q1:o'≠os:=fun e=>by rw [e,St.obj_set] at ho'; cases ho'
  have q2:o'≠o:=fun e=>by rw [e,St.obj_under hne] at ho'; cases ho'
  have q3:st.obj o'=none:=by rw [St.obj_set_ne q1,St.obj_set_ne q2] at ho'; exact ho'
  apply AAny.segY (k':=14) (S:=_) (Es:=[10,13]) (sts:=fun bs=>match bs with|[b1,b2]=>some (((st.set o (prC (ts.map tokRow) b3)).set os (.cells 41 13 [aRow kind line tgt n (bif b2 then .msl o' 6 0 ((xrows l).length + 1) else mslot 6 (xrows l).length (some p))])).set o' (.cells 95 6 (xrows l++[bif b1 then exRow op2 num2 name2 field2 (.view 6 args2 .shared) else exRow 0 0 [] [] nilV])))|_=>none) (F:=fun x y=>y=x) (base:=St.bareOf st) (hok:=rfl) (hS:=rfl) (h0:=rfl) (hF:=rfl) (hb:=StLe.bare rfl)
  skip
  apply dqY (hi:=rfl) (hd:=rfl) (hw:=rfl) (h:=fun _ _=>ixm (m:=(xrows l).length) rfl rfl rfl rfl (by simp only [List.length_cons,List.length_nil]; omega) nz);apply deY (L:=[[false,false],[false,true]]) (hL:=rfl) (hd:=rfl) (hw:=rfl) (h:=by
   refine ⟨?_,?_,trivial⟩ <;>
   ·intro s0 e;cases e;refine ⟨_,rfl,fun s hs hle=>?_⟩;subst hs;simp only [cond_true,cond_false];refine sos (row:=exRow 0 0 [] [] nilV) (rows':=xrows l++[exRow op2 num2 name2 field2 (.view 6 args2 .shared)]) rfl rfl rfl (by rw [Nat.zero_add]; simp) rfl rfl rfl (by rw [Nat.zero_add]; simp [rowSet,exRow]) ?_;exact nl ⟨rfl,rfl,StLe.bare rfl⟩)
  repeat (first|apply dsY (hi:=rfl) (hs:=rfl)|apply dqY (hi:=rfl) (hd:=rfl) (hw:=rfl) (h:=fun _ _=>ZC (z:=nz)))
  apply deY (L:=[[false,false],[true,false]]) (hL:=rfl) (hd:=rfl) (hw:=rfl) (h:=by
   refine ⟨?_,?_,trivial⟩ <;>
   ·intro s0 e;cases e;refine ⟨_,rfl,fun s hs hle=>?_⟩;subst hs;simp only [cond_true,cond_false];refine so (rows':=[aRow kind line tgt n (.msl o' 6 0 ((xrows l).length + 1))]) rfl rfl rfl (St.obj_under q1 _ _) rfl rfl rfl rfl rfl ?_;exact nl ⟨rfl,St.set_inner q1 _ _ _,StLe.bare rfl⟩)
  refine dnY rfl fun s hs _=>?_;subst hs;refine AAny.text rfl ?_;have hxl:xrows (l++[y'])=xrows l++[exRow op2 num2 name2 field2 (.view 6 args2 .shared)]:=by unfold xrows; rw [List.map_append,hv'] <;> rfl
  have hxn:(xrows (l++[y'])).length=(xrows l).length + 1:=by rw [xrows_len,xrows_len,List.length_append] <;> rfl
  have hb13:=drop_lt hb1 (qx_lt hr);refine nl ?_;refine ⟨(l++[y'],b3,fu,o'),⟨hb3,by simp only [List.length_append,List.length_cons,List.length_nil]; omega,by simp only [List.length_append,List.length_cons,List.length_nil]; omega,by simp only [List.length_drop] at hfu ⊢; omega,⟨hne,fun h=>(by cases h),fun p h=>by cases h; exact ⟨q2,q1,q3⟩⟩,hI⟩,by simp only; omega,(tl2 rfl rfl),?_⟩;show StLe _ (((st.set o _).set os (.cells _ 13 [aRow kind line tgt n (.msl o' 6 0 (xrows (l++[y'])).length)])).set o' (.cells _ 6 (xrows (l++[y']))));rw [hxn,hxl];exact .refl _
 ·rw [if_neg c2] at hI;rw [if_neg c2];rw [Bool.not_eq_true] at c2;rw [c2];refine goD ?_;refine AWP.exit (blk_hit ?_);obtain ⟨p1,p2,p3⟩:=KL.new p rfl;refine AWP.frzIn (o:=os) (o':=p) (i:=0) (j:=10) (row:=aRow kind line tgt n (.msl p 6 0 (xrows l).length)) (Ne.symm p2) (CS.obj_os KL b) rfl rfl (St.obj_set _ _ _) (by rw [Nat.zero_add]; exact Nat.le_refl _) ?_;rw [List.drop_zero,List.take_of_length_le (Nat.le_refl _)];refine AWP.weaken (T':=[(1,.cptr os 13 0 0),(0,.cptr o 2 0 0)]) (st':=(st.set o (prC (ts.map tokRow) b)).set os (.cells 41 13 [aRow kind line tgt n (.view 6 (xrows l) .shared)])) (tl2 rfl rfl) ?_ ?_
  ·have h:=StLe.set os (.cells 41 13 [aRow kind line tgt n (.view 6 (xrows l) .shared)]) (StLe.ofNew (c:=.cells 95 6 (xrows l)) (KL.none_p (prC (ts.map tokRow) b) (.cells 41 13 [aRow kind line tgt n (mslot 6 (xrows l).length (some p))])));rw [St.set_set] at h;exact h
  have hnv:nlv (xrows l)=.view 6 (xrows l) .shared:=by
   unfold nlv;rw [if_neg (fun e=>by have:=congrArg List.length e; rw [xrows_len,List.length_nil] at this; omega)]
  refine goD ?_;refine clq rfl rfl (pneed_ok H (ob _ _) hb [41]) (fun v st' ⟨e,k,q1,q2,q3,q4⟩=>⟨_,.refl _,e,k,_,q1,q2,q3.trans (inn _ _ _),by rw [hI,qb_ok rfl,qb_err q4]⟩) fun v st' hR=>?_;obtain ⟨_,b7,hb7,hst,hr⟩:=hR;subst hst;rw [inn];refine goD ?_;exact rets rfl (.refl _) (.refl _) ⟨(n,l),b7,hb7,by show _=(st.set o _).set os (sC (aRow kind line tgt n (nlv (xrows l)))); rw [hnv] <;> rfl,by rw [hI,qb_ok rfl,qb_ok hr]⟩
end Go.Proofs
namespace Go.Proofs
open Go.Shelf
def Tryz.laysItoa_ren:Go.Shelf.Ren:=⟨fun|171=>110|243=>122|246=>128|283=>130|284=>131|285=>132|286=>133|129=>136|317=>135|318=>137|319=>138|320=>139|337=>141|338=>142|n=>n,fun|3=>3|9=>9|2=>2|4=>4|171=>160|0=>0|53=>161|37=>73|5=>5|173=>164|212=>167|51=>168|20=>20|213=>169|46=>171|232=>174|233=>175|n=>n,fun|17=>4|18=>5|19=>6|n=>n⟩
theorem Tryz.laysItoa:Go.Proofs.LaysM.n171 Tryz.prog Tryz.laysItoa_ren:={
 mixed:=by kernel_rfl
 f129:=Tryz.func136.trans (congrArg some (by kernel_rfl))
 f171:=Tryz.func110.trans (congrArg some (by kernel_rfl))
 f243:=Tryz.func122.trans (congrArg some (by kernel_rfl))
 f246:=Tryz.func128.trans (congrArg some (by kernel_rfl))
 f283:=Tryz.func130.trans (congrArg some (by kernel_rfl))
 f284:=Tryz.func131.trans (congrArg some (by kernel_rfl))
 f285:=Tryz.func132.trans (congrArg some (by kernel_rfl))
 f286:=Tryz.func133.trans (congrArg some (by kernel_rfl))
 f317:=Tryz.func135.trans (congrArg some (by kernel_rfl))
 f318:=Tryz.func137.trans (congrArg some (by kernel_rfl))
 f319:=Tryz.func138.trans (congrArg some (by kernel_rfl))
 f320:=Tryz.func139.trans (congrArg some (by kernel_rfl))
 f337:=Tryz.func141.trans (congrArg some (by kernel_rfl))
 f338:=Tryz.func142.trans (congrArg some (by kernel_rfl))
 t0:=Tryz.underlying0
 a0:=Tryz.isAgg0
 z0:=Tryz.sizeOf0
 v0:=Tryz.zeroValue0
 t2:=Tryz.underlying2
 a2:=Tryz.isAgg2
 z2:=Tryz.sizeOf2
 v2:=Tryz.zeroValue2
 t3:=Tryz.underlying3
 a3:=Tryz.isAgg3
 z3:=Tryz.sizeOf3
 v3:=Tryz.zeroValue3
 t4:=Tryz.underlying4
 a4:=Tryz.isAgg4
 z4:=Tryz.sizeOf4
 v4:=Tryz.zeroValue4
 t5:=Tryz.underlying5
 a5:=Tryz.isAgg5
 z5:=Tryz.sizeOf5
 v5:=Tryz.zeroValue5
 t9:=Tryz.underlying9
 a9:=Tryz.isAgg9
 z9:=Tryz.sizeOf9
 v9:=Tryz.zeroValue9
 t20:=Tryz.underlying20
 a20:=Tryz.isAgg20
 z20:=Tryz.sizeOf20
 v20:=Tryz.zeroValue20
 t37:=Tryz.underlying73
 a37:=Tryz.isAgg73
 z37:=Tryz.sizeOf73
 v37:=Tryz.zeroValue73
 t46:=Tryz.underlying171
 a46:=Tryz.isAgg171
 z46:=Tryz.sizeOf171
 v46:=Tryz.zeroValue171
 t51:=Tryz.underlying168
 a51:=Tryz.isAgg168
 z51:=Tryz.sizeOf168
 v51:=Tryz.zeroValue168
 t53:=Tryz.underlying161
 a53:=Tryz.isAgg161
 z53:=Tryz.sizeOf161
 v53:=Tryz.zeroValue161
 t171:=Tryz.underlying160
 a171:=Tryz.isAgg160
 z171:=Tryz.sizeOf160
 v171:=Tryz.zeroValue160
 t173:=Tryz.underlying164
 a173:=Tryz.isAgg164
 z173:=Tryz.sizeOf164
 v173:=Tryz.zeroValue164
 t212:=Tryz.underlying167
 a212:=Tryz.isAgg167
 z212:=Tryz.sizeOf167
 v212:=Tryz.zeroValue167
 t213:=Tryz.underlying169
 a213:=Tryz.isAgg169
 z213:=Tryz.sizeOf169
 t232:=Tryz.underlying174
 a232:=Tryz.isAgg174
 z232:=Tryz.sizeOf174
 v232:=Tryz.zeroValue174
 t233:=Tryz.underlying175
 a233:=Tryz.isAgg175
 z233:=Tryz.sizeOf175
 v233:=Tryz.zeroValue175
 g17:=by kernel_rfl
 g18:=by kernel_rfl
 g19:=by kernel_rfl
 i0:=by kernel_rfl
 i2:=by kernel_rfl
 i3:=by kernel_rfl
 i4:=by kernel_rfl
 i5:=by kernel_rfl
 i9:=by kernel_rfl
 i20:=by kernel_rfl
 i37:=by kernel_rfl
 i46:=by kernel_rfl
 i51:=by kernel_rfl
 i53:=by kernel_rfl
 i171:=by kernel_rfl
 i173:=by kernel_rfl
 i212:=by kernel_rfl
 i232:=by kernel_rfl
 i233:=by kernel_rfl
 m17:=by kernel_rfl
 m18:=by kernel_rfl
 m19:=by kernel_rfl }
theorem itoaC (n : Int) (h0 : -9223372036854775808 ≤ n) (h1 : n ≤ 9223372036854775807) (w : World) (htab : Lib.TabIs Tryz.prog w "internal/strconv.uint64pow10" .u64 Lib.pow10Tab) :
  Calls Tryz.prog 110 #[.int .i64 n] w fun e w'=>e=.returned (.string ⟨(Lib.itoa n).toArray⟩)∧∃ k os,w'=Sort.grow (w.drewN k) os:=Any.strconv_Itoa Tryz.laysItoa n h0 h1 w htab
end Go.Proofs
namespace Go.Proofs
open Go.AM
attribute [local irreducible] AWP AOps ACalls
set_option linter.unusedSimpArgs false
def w64 (n:Int):Prop:=-9223372036854775808≤n∧n < 9223372036854775808
theorem nDigits_le:∀ (k u:Nat),1≤k→u < 10 ^ k→Lib.nDigits u≤k
 | 0,_,h,_=>by omega
 | k + 1,u,_,h=>by
  rw [Lib.nDigits];split
  ·omega
  ·rename_i hu;cases k with
   | zero=>simp at h; omega
   | succ k =>
    have:=nDigits_le (k + 1) (u / 10) (by omega) (by rw [Nat.pow_succ] at h; omega);omega
theorem dlen19 {u:Nat} (h:u < 10000000000000000000):(Lib.decDigits u).length≤19:=by
 rw [Lib.decDigits_length];exact nDigits_le 19 u (by decide) h
theorem itoa_len {n:Int} (h:w64 n):(Lib.itoa n).length≤20:=by
 unfold w64 at h;unfold Lib.itoa;split
 ·have:=dlen19 (u:=n.natAbs) (by omega);simp only [List.length_cons];omega
 ·have:=dlen19 (u:=n.toNat) (by omega);omega
theorem itoa_nat (u:Nat):Lib.itoa (u:Int)=Lib.decDigits u:=by
 unfold Lib.itoa;rw [if_neg (by omega),Int.toNat_natCast]
theorem decF_dd:∀ (k n:Nat) (acc:List UInt8),n < 10 ^ k→1≤k→(n≠0∨acc=[])→decF k n acc=Lib.decDigits n++acc
 | 0,_,_,_,h,_=>by omega
 | k + 1,n,acc,hn,_,h=>by
  rw [decF,if_neg (by rintro ⟨h1,h2⟩; rcases h with h|h; exact h h1; exact h2 h)];by_cases h10:n < 10
  ·have e:n / 10=0:=by omega
   rw [e,Lib.decDigits_one h10,show n % 10=n by omega];cases k with
   | zero=>rfl
   | succ k=>rw [decF,if_pos ⟨rfl,by simp⟩]; rfl
  ·have hk:1≤k:=by
    rcases Nat.eq_zero_or_pos k with hk|hk
    ·subst hk; simp at hn; omega
    ·exact hk
   rw [decF_dd k (n / 10) _ (by rw [Nat.pow_succ] at hn; omega) hk (.inl (by omega))]
   conv=>rhs; rw [Lib.decDigits,dif_neg h10]
   simp
theorem dec_dd {n:Nat} (h:n < 10 ^ 20):Lib.decDigits n=dec n:=by
 unfold dec;rw [decF_dd 20 n [] h (by decide) (.inr rfl),List.append_nil]
theorem itoa_dec {n:Nat} (h:n < 10 ^ 20):Lib.itoa (n:Int)=dec n:=by
 rw [itoa_nat,dec_dd h]
def powRow:List AV:=Lib.pow10Tab.map fun z=>.int .u64 z
theorem itoa_ok (n:Int) (hn:w64 n) (st:St) (hT:(4,powRow) ∈ st.glob):ACalls Tryz.prog 110 [.int .i64 n] st (fun v st'=>v=.str (Lib.itoa n)∧st'=st) (fun _ _=>False):=by
 refine ACalls.grown fun g w rargs hs hl hr=>?_;have hra:rargs=#[.int .i64 n]:=by
  have h1:rargs.size=1:=by simpa using hl.symm
  obtain ⟨v,rfl⟩:=Array.size_eq_one_iff.1 h1;have:=hr 0 _ v rfl rfl;cases this;rfl
 subst hra;have h64:=hn;unfold w64 at h64;refine (itoaC n h64.1 (by omega) w (tabIs hs (by kernel_rfl) hT)).mono fun e w' ⟨he,k,os,hw⟩=>⟨_,he,fun g w=>.str _,os,by rw [hw]; rfl,by rw [hw]; rfl,by rw [hw]; rfl,by rw [hw]; rfl⟩
end Go.Proofs
namespace Go.Proofs
open Go.AM
attribute [local irreducible] AWP AOps ACalls AAny
theorem level_op {op num:Int} {name field:List UInt8} {args:AV} (st:St) (n:Nat) (h:(op=14∨op=15∨op=16∨op=17)∧n=1∨(op=11∨op=12∨op=13)∧n=2∨(op=6∨op=7)∧n=3∨(op=8∨op=9∨op=10)∧n=4∨(op=4∨op=5)∧n=5∨(op=0∨op=1∨op=2∨op=3)∧n=6) :
  ACalls Tryz.prog 126 [.agg (exRow op num name field args)] st (fun v st'=>v=.int .i64 (n:Int)∧st'=st) (fun _ _=>False):=by
 refine ACalls.ofBody Tryz.func126 rfl Tryz.ntmps126 rfl ?_;rcases h with ⟨rfl|rfl|rfl|rfl,rfl⟩|⟨rfl|rfl|rfl,rfl⟩|⟨rfl|rfl,rfl⟩|⟨rfl|rfl|rfl,rfl⟩|⟨rfl|rfl,rfl⟩|⟨rfl|rfl|rfl|rfl,rfl⟩ <;>
 ·refine goD ?_;exact AWP.ret (rets rfl (.refl _) (.refl _) ⟨rfl,rfl⟩)
theorem level_x (x:Xp) (hw:Wop x) (st:St):ACalls Tryz.prog 126 [xv x] st (fun v st'=>v=.int .i64 (lvX x:Int)∧st'=st) (fun _ _=>False):=by
 cases x with
 | lit n=>exact level_op st 6 (by omega)
 | var s=>exact level_op st 6 (by omega)
 | fld s f=>exact level_op st 6 (by omega)
 | elt s a=>exact level_op st 6 (by omega)
 | una op a =>
  obtain ⟨h,_⟩:=hw;refine level_op st 5 ?_;rcases h with rfl|rfl <;> decide
 | bin op a b =>
  obtain ⟨h6,h17,_,_⟩:=hw;refine level_op st (lvO op) ?_;have:op=6∨op=7∨op=8∨op=9∨op=10∨op=11∨op=12∨op=13∨op=14∨op=15∨op=16∨op=17:=by omega
  rcases this with rfl|rfl|rfl|rfl|rfl|rfl|rfl|rfl|rfl|rfl|rfl|rfl <;> decide
structure GSt (st:St):Prop where
 tab:(4,powRow) ∈ st.glob
 ops:st.row 3=some sgnRow
theorem wS_glob {st:St} {o:Nat} {u:Bool} {l:List UInt8} {oo:Option Nat}:(wS st o u l oo).glob=st.glob:=by cases oo <;> rfl
theorem GSt.w {st:St} (h:GSt st) {o:Nat} {u:Bool} {l:List UInt8} {oo:Option Nat}:GSt (wS st o u l oo):=⟨by rw [wS_glob]; exact h.tab,by rw [wS_row]; exact h.ops⟩
theorem wS_in {st:St} {o p:Nat} {u:Bool} {l:List UInt8} {oo:Option Nat} {c:AObj} (h:WOk st o l oo) (hne:p≠o) (hc:st.obj p=some c):(wS st o u l oo).obj p=some c:=by
 cases oo with
 | none=>exact (St.obj_set_ne hne).trans hc
 | some o' =>
  obtain ⟨_,h2,_⟩:=h.ne o' rfl;exact (St.obj_set_ne (fun e=>by rw [e,h2] at hc; cases hc)).trans ((St.obj_set_ne hne).trans hc)
def XOk (x:Xp):Prop:=∀ (st:St) (o:Nat) (u:Bool) (L:List UInt8) (oo:Option Nat),GSt st→WOk st o L oo→L.length + (xby x).length≤wMax →
 ACalls Tryz.prog 121 [.cptr o 2 0 0,xv x] (wS st o u L oo) (WrP st o (L++xby x)) (fun _ _=>False)
theorem pby_len (b:Bool) (l:List UInt8):(pby b l).length=l.length + bif b then 2 else 0:=by
 cases b
 ·rfl
 ·simp [pby]
set_option maxHeartbeats 1000000 in
theorem operand_ok {x:Xp} (hx:XOk x) (b:Bool) {st:St} {o:Nat} {u:Bool} {L:List UInt8} {oo:Option Nat} (hg:GSt st) (h:WOk st o L oo) (hb:L.length + (pby b (xby x)).length≤wMax) :
  ACalls Tryz.prog 127 [.cptr o 2 0 0,xv x,.bool b] (wS st o u L oo) (WrP st o (L++pby b (xby x))) (fun _ _=>False):=by
 obtain ⟨op,num,name,field,args,hxr⟩:=xrow_ex x;rw [pby_len] at hb;have hx':=hx;unfold XOk xv at hx';rw [hxr] at hx';unfold xv;rw [hxr];refine ACalls.ofBody Tryz.func127 rfl Tryz.ntmps127 rfl ?_;cases b with
 | false =>
  simp only [cond_false] at hb;refine goD ?_;refine cl rfl rfl (hx' st o u L oo hg h (by omega)) fun v st' ⟨u2,oo2,h2,hst⟩=>?_;subst hst;refine goD ?_;exact rets rfl (.refl _) (.refl _) ⟨u2,oo2,h2,rfl⟩
 | true =>
  simp only [cond_true] at hb;refine goD ?_;refine cl rfl rfl (texts_ok h [[40]] _ (by decide) (by simp only [List.flatten_cons,List.flatten_nil,List.length_append,List.length_cons,List.length_nil]; omega)) fun v st' ⟨u1,oo1,h1,hst⟩=>?_;subst hst;refine goD ?_;refine cl rfl rfl (hx' st o u1 _ oo1 hg h1 (by simp only [List.flatten_cons,List.flatten_nil,List.length_append,List.length_cons,List.length_nil]; omega)) fun v st' ⟨u2,oo2,h2,hst⟩=>?_;subst hst;refine goD ?_;refine cl rfl rfl (texts_ok h2 [[41]] _ (by decide) (by simp only [List.flatten_cons,List.flatten_nil,List.length_append,List.length_cons,List.length_nil]; omega)) fun v st' ⟨u3,oo3,h3,hst⟩=>?_;subst hst;have e:L++[[40]].flatten++xby x++[[41]].flatten=L++pby true (xby x):=by simp [pby]
  rw [e] at h3 ⊢;refine goD ?_;exact rets rfl (.refl _) (.refl _) ⟨u3,oo3,h3,rfl⟩
def xsT:List Xp→List UInt8
 | []=>[]
 | [x]=>xby x
 | x::y::r=>xby x++[44,32]++xsT (y::r)
theorem xsT_snoc (l:List Xp) (x:Xp):xsT (l++[x])=(if l=[] then [] else xsT l++[44,32])++xby x:=by
 induction l with
 | nil=>rfl
 | cons a r ih =>
  rw [if_neg (by simp)];cases r with
  | nil=>rfl
  | cons b r =>
   rw [List.cons_append,List.cons_append,xsT,← List.cons_append,ih,if_neg (by simp),xsT];simp
theorem xsT_le (l:List Xp) (i:Nat):(xsT (l.take i)).length≤(xsT l).length:=by
 have key:∀ (m r:List Xp),(xsT m).length≤(xsT (m++r)).length:=by
  intro m r
  induction r generalizing m with
  | nil=>rw [List.append_nil]; exact Nat.le_refl _
  | cons a r ih =>
   have h1:=ih (m++[a]);rw [List.append_assoc] at h1;refine Nat.le_trans ?_ h1;rw [xsT_snoc];split
   ·rename_i h; rw [h]; exact Nat.zero_le _
   ·simp only [List.length_append]; omega
 have:=key (l.take i) (l.drop i)
 rwa [List.take_append_drop] at this
set_option maxHeartbeats 1000000 in
theorem expressions_ok {l:List Xp} (hx:∀ x ∈ l,XOk x) (hl:l.length≤100000) (tk:Go.AM.Tok) {st:St} {o:Nat} {u:Bool} {L:List UInt8} {oo:Option Nat} (hg:GSt st) (h:WOk st o L oo) (hb:L.length + (xsT l).length≤wMax) :
  ACalls Tryz.prog 109 [.cptr o 2 0 0,.view 6 (xrows l) tk] (wS st o u L oo) (WrP st o (L++xsT l)) (fun _ _=>False):=by
 refine ACalls.ofBody Tryz.func109 rfl Tryz.ntmps109 rfl ?_;refine goD ?_;refine AWP.loop (α:=Nat × Bool × Option Nat) (fun y=>[(8,.int .i64 (y.1:Int)),(7,.int .i64 ((xrows l).length:Int)),(6,.view 6 (xrows l) tk),(0,.cptr o 2 0 0)]) (fun y=>wS st o y.2.1 (L++xsT (l.take y.1)) y.2.2) (fun y=>y.1≤l.length∧WOk st o (L++xsT (l.take y.1)) y.2.2) (fun y=>l.length - y.1) (0,u,oo)
  ⟨Nat.zero_le _,by simpa [xsT] using h⟩ (tl4 rfl rfl rfl rfl) (by simp only [List.take_zero,xsT,List.append_nil]; exact .refl _) ?_
 clear h oo u;rintro ⟨i,u,oo⟩ ⟨hi,h⟩;simp only at hi h;refine AWP.weaken (T':=[(8,.int .i64 (i:Int)),(7,.int .i64 ((xrows l).length:Int)),(6,.view 6 (xrows l) tk),(0,.cptr o 2 0 0)]) (st':=wS st o u (L++xsT (l.take i)) oo) (tl4 rfl rfl rfl rfl) (.refl _) ?_;have hnl:=xrows_len l;by_cases hlt:i < l.length
 ·obtain ⟨x,hs⟩:∃ x,l[i]?=some x:=⟨_,List.getElem?_eq_getElem hlt⟩;have hxi:=hx x (List.mem_of_getElem? hs);obtain ⟨op,num,name,field,args,hxr⟩:=xrow_ex x;unfold XOk xv at hxi;rw [hxr] at hxi;have hr:(xrows l)[i]?=some (exRow op num name field (.view 6 args .shared)):=by unfold xrows; rw [List.getElem?_map,hs,← hxr]; rfl
  have hir:i < (xrows l).length:=by omega
  have hft:xsT (l.take (i + 1))=(if l.take i=[] then [] else xsT (l.take i)++[44,32])++xby x:=by
   rw [List.take_add_one,hs];exact xsT_snoc _ _
  have hle:=xsT_le l (i + 1);refine goD ?_;refine al rfl rfl fun o5 h5=>?_;obtain ⟨p1,p2,p3,p4⟩:=wS_push h h5 (.cells 95 6 [exRow op num name field (.view 6 args .shared)]);refine goE ?_;refine soV rfl rfl rfl rfl rfl rfl ?_;have hO5:∀ u2 L2 oo2,WOk (st.set o5 (.cells 95 6 [exRow op num name field (.view 6 args .shared)])) o L2 oo2→(wS (st.set o5 (.cells 95 6 [exRow op num name field (.view 6 args .shared)])) o u2 L2 oo2).obj o5=some (.cells 95 6 [exRow op num name field (.view 6 args .shared)]):=fun u2 L2 oo2 h2=>wS_in h2 p4 (St.obj_set _ _ _);refine nl ?_;rw [show (AObj.cells 95 6 [(AV.agg (exRow op num name field (.view 6 args .shared))).cells])=.cells 95 6 [exRow op num name field (.view 6 args .shared)] from rfl,p1];rw [hft,List.length_append] at hle;by_cases hi0:i=0
  ·subst hi0;have hO:=hO5 u _ oo p2;simp only [List.take_zero] at hle;refine goD ?_;refine cl rfl rfl (hxi _ o u _ oo ⟨hg.tab,hg.ops⟩ p2 (by simp only [List.take_zero,xsT,List.append_nil]; simp at hle; omega)) fun v st' hR=>?_;obtain ⟨st2,q1,u2,oo2,q2,q3⟩:=WrP.pop p3 hR;refine AOps.weaken (TLe.refl _) q1 ?_;subst q3;rw [List.append_assoc,show xsT (l.take 0)++xby x=xsT (l.take 1) by rw [hft]; rfl] at q2 ⊢;refine goD ?_;exact ⟨(1,u2,oo2),⟨by simp only; omega,q2⟩,by simp only; omega,(tl4 rfl rfl rfl rfl),.refl _⟩
  ·have hne:l.take i≠[]:=fun e=>by
    have:=congrArg List.length e;rw [List.length_take,List.length_nil] at this;omega
   rw [if_neg hne,List.length_append,List.length_cons,List.length_cons,List.length_nil] at hle;refine goD ?_;refine cl rfl rfl (texts_ok p2 [[44,32]] _ (by decide) (by simp only [List.flatten_cons,List.flatten_nil,List.length_append,List.length_cons,List.length_nil]; omega)) fun v st' ⟨u3,oo3,h3,hst⟩=>?_;subst hst;have hO:=hO5 u3 _ oo3 h3;refine goD ?_;refine cl rfl rfl (hxi _ o u3 _ oo3 ⟨hg.tab,hg.ops⟩ h3 (by simp only [List.flatten_cons,List.flatten_nil,List.length_append,List.length_cons,List.length_nil]; omega)) fun v st' hR=>?_;obtain ⟨st2,q1,u2,oo2,q2,q3⟩:=WrP.pop p3 hR;refine AOps.weaken (TLe.refl _) q1 ?_;subst q3;have e:L++xsT (l.take i)++[[44,32]].flatten++xby x=L++xsT (l.take (i + 1)):=by rw [hft,if_neg hne]; simp
   rw [e] at q2 ⊢;refine goD ?_;exact ⟨(i + 1,u2,oo2),⟨by simp only; omega,q2⟩,by simp only; omega,(tl4 rfl rfl rfl rfl),.refl _⟩
 ·have hil:i=l.length:=by omega
  subst hil;rw [List.take_length] at h ⊢;refine goD ?_;refine AWP.exit (blk_hit ?_);exact rets rfl (.refl _) (.refl _) ⟨u,oo,h,rfl⟩
def WN:Xp→Prop:=WX (fun _=>True) (fun n=>n < 1000000000000000000)
theorem fl1 (a:List UInt8):[a].flatten=a:=by simp
theorem sgn_at (op:Nat) (h6:6≤op) (h17:op≤17):∃ m:Nat,m < 12∧(op:Int) - 6=(m:Int)∧sgnRow[0 + m * 1]?=some (.str (sgO op)):=by
 have:op=6∨op=7∨op=8∨op=9∨op=10∨op=11∨op=12∨op=13∨op=14∨op=15∨op=16∨op=17:=by omega
 rcases this with rfl|rfl|rfl|rfl|rfl|rfl|rfl|rfl|rfl|rfl|rfl|rfl
 ·exact ⟨0,by decide,by decide,rfl⟩
 ·exact ⟨1,by decide,by decide,rfl⟩
 ·exact ⟨2,by decide,by decide,rfl⟩
 ·exact ⟨3,by decide,by decide,rfl⟩
 ·exact ⟨4,by decide,by decide,rfl⟩
 ·exact ⟨5,by decide,by decide,rfl⟩
 ·exact ⟨6,by decide,by decide,rfl⟩
 ·exact ⟨7,by decide,by decide,rfl⟩
 ·exact ⟨8,by decide,by decide,rfl⟩
 ·exact ⟨9,by decide,by decide,rfl⟩
 ·exact ⟨10,by decide,by decide,rfl⟩
 ·exact ⟨11,by decide,by decide,rfl⟩
set_option maxHeartbeats 4000000 in
theorem expr_ok:∀ x:Xp,Wop x→WN x→XOk x
 | .lit n,hw,hn=>by
  intro st o u L oo hg h hb;have hn':n < 1000000000000000000:=hn
  have hd:Lib.itoa (n:Int)=dec n:=itoa_dec (by omega);unfold xv xrow;refine ACalls.ofBody Tryz.func121 rfl Tryz.ntmps121 rfl ?_;refine goD ?_;refine cle rfl rfl (itoa_ok n (by unfold w64; omega) _ hg.w.tab) ?_;rw [hd];refine goD ?_;refine cl rfl rfl (texts_ok h [dec n] _ (by exact Nat.le_of_ble_eq_true rfl) (by rw [fl1]; exact hb)) fun v st' ⟨u2,oo2,h2,hst⟩=>?_;subst hst;rw [fl1] at h2 ⊢;refine goD ?_;exact rets rfl (.refl _) (.refl _) ⟨u2,oo2,h2,rfl⟩
 | .var s,hw,hn=>by
  intro st o u L oo hg h hb;unfold xv xrow;refine ACalls.ofBody Tryz.func121 rfl Tryz.ntmps121 rfl ?_;refine goD ?_;refine cl rfl rfl (texts_ok h [s] _ (by exact Nat.le_of_ble_eq_true rfl) (by rw [fl1]; exact hb)) fun v st' ⟨u2,oo2,h2,hst⟩=>?_;subst hst;rw [fl1] at h2 ⊢;refine goD ?_;exact rets rfl (.refl _) (.refl _) ⟨u2,oo2,h2,rfl⟩
 | .fld s f,hw,hn=>by
  intro st o u L oo hg h hb;unfold xv xrow;refine ACalls.ofBody Tryz.func121 rfl Tryz.ntmps121 rfl ?_;refine goD ?_;refine bsh (cs:=[.str s,.str [46],.str f]) rfl rfl rfl rfl rfl ?_;have e:[s,[46],f].flatten=xby (.fld s f):=by simp [xby]
  refine cl rfl rfl (texts_ok h [s,[46],f] _ (by exact Nat.le_of_ble_eq_true rfl) (by rw [e]; exact hb)) fun v st' ⟨u2,oo2,h2,hst⟩=>?_;subst hst;rw [e] at h2 ⊢;refine goD ?_;exact rets rfl (.refl _) (.refl _) ⟨u2,oo2,h2,rfl⟩
 | .elt s a,hw,hn=>by
  have ha:XOk a:=expr_ok a hw hn.2;intro st o u L oo hg h hb;unfold xv xrow;simp only [xby,List.length_append,List.length_cons,List.length_nil] at hb;refine ACalls.ofBody Tryz.func121 rfl Tryz.ntmps121 rfl ?_;refine goD ?_;refine bsh (cs:=[.str s,.str [91]]) rfl rfl rfl rfl rfl ?_;have e:[s,[91]].flatten=s++[91]:=by simp
  refine cl rfl rfl (texts_ok h [s,[91]] _ (by exact Nat.le_of_ble_eq_true rfl) (by rw [e,List.length_append,List.length_cons,List.length_nil]; omega)) fun v st' ⟨u2,oo2,h2,hst⟩=>?_;subst hst;rw [e] at h2 ⊢;refine goD ?_;refine cl rfl rfl (expressions_ok (l:=[a]) (fun x hx=>by rw [List.mem_singleton.1 hx]; exact ha) (by exact Nat.le_of_ble_eq_true rfl) .shared hg h2 (by simp only [xsT,List.length_append,List.length_cons,List.length_nil]; omega)) fun v st' ⟨u3,oo3,h3,hst⟩=>?_;subst hst;refine goD ?_;refine cl rfl rfl (texts_ok h3 [[93]] _ (by exact Nat.le_of_ble_eq_true rfl) (by simp only [xsT,fl1,List.length_append,List.length_cons,List.length_nil]; omega)) fun v st' ⟨u4,oo4,h4,hst⟩=>?_;subst hst;have e2:L++(s++[91])++xsT [a]++[[93]].flatten=L++xby (.elt s a):=by simp [xby,xsT]
  rw [e2] at h4 ⊢;refine goD ?_;exact rets rfl (.refl _) (.refl _) ⟨u4,oo4,h4,rfl⟩
 | .una op a,hw,hn=>by
  have ha:XOk a:=expr_ok a hw.2 hn
  have hlv:=level_x (.una op a) hw
  have hla:=level_x a hw.2;obtain ⟨ho,hwa⟩:=hw;intro st o u L oo hg h hb;unfold xv xrow at hlv ⊢;simp only [xby,List.length_cons] at hb;obtain ⟨op1,num1,name1,field1,args1,h1r⟩:=xrow_ex a;unfold xv at hla;rw [h1r] at hlv hla ⊢;refine ACalls.ofBody Tryz.func121 rfl Tryz.ntmps121 rfl ?_
  haveI:PureFn Tryz.prog 126 [.agg (exRow op1 num1 name1 field1 (.view 6 args1 .shared))] (.int .i64 (lvX a:Int)):=⟨hla⟩
  rcases ho with rfl|rfl
  ·refine goD ?_;refine cle rfl rfl (hlv _) ?_;refine goD ?_;refine cl rfl rfl (texts_ok h [[45]] _ (by exact Nat.le_of_ble_eq_true rfl) (by rw [fl1]; simp only [List.length_cons,List.length_nil]; omega)) fun v st' ⟨u2,oo2,h2,hst⟩=>?_;subst hst;rw [fl1] at h2 ⊢;refine nl ?_;have hd:decide (lvX a < 5)=decide ((lvX a:Int) < 5):=decide_eq_decide.2 (by omega)
   have hop:=operand_ok ha (decide (lvX a < 5)) hg (u:=u2) h2 LL;unfold xv at hop;rw [h1r,hd] at hop;refine AWP.any rfl ?_;apply AAny.segQ (k':=11) (hok:=by decide +kernel);repeat (first|apply dsY (hi:=rfl) (hs:=rfl)|apply dqY (hi:=rfl) (hd:=rfl) (hw:=rfl) (h:=fun _ _=>ZD (z:=nz))|apply dqY (hi:=rfl) (hd:=rfl) (hw:=rfl) (h:=fun _ _=>ZF (z:=nz))|apply dqY (hi:=rfl) (hd:=rfl) (hw:=rfl) (h:=fun _ _=>ZC (z:=nz))|apply dqY (hi:=rfl) (hd:=rfl) (hw:=rfl) (h:=fun _ _=>ZM (z:=nz))|apply dqY (hi:=rfl) (hd:=rfl) (hw:=rfl) (h:=fun _ _=>YC (z:=nz)))
   refine dnQ ?_;refine AAny.one rfl rfl rfl rfl ?_;refine cl rfl rfl hop fun v st' ⟨u3,oo3,h3,hst⟩=>nl ⟨_,rfl,?_⟩;subst hst;refine AAny.text rfl ?_;refine nl ?_;rw [← hd,List.append_assoc] at h3 ⊢;exact rets rfl (.refl _) (.refl _) ⟨u3,oo3,h3,rfl⟩
  ·refine goD ?_;refine cle rfl rfl (hlv _) ?_;refine goD ?_;refine cl rfl rfl (texts_ok h [[33]] _ (by exact Nat.le_of_ble_eq_true rfl) (by rw [fl1]; simp only [List.length_cons,List.length_nil]; omega)) fun v st' ⟨u2,oo2,h2,hst⟩=>?_;subst hst;rw [fl1] at h2 ⊢;refine nl ?_;have hd:decide (lvX a < 5)=decide ((lvX a:Int) < 5):=decide_eq_decide.2 (by omega)
   have hop:=operand_ok ha (decide (lvX a < 5)) hg (u:=u2) h2 LL;unfold xv at hop;rw [h1r,hd] at hop;refine AWP.any rfl ?_;apply AAny.segQ (k':=11) (hok:=by decide +kernel);repeat (first|apply dsY (hi:=rfl) (hs:=rfl)|apply dqY (hi:=rfl) (hd:=rfl) (hw:=rfl) (h:=fun _ _=>ZD (z:=nz))|apply dqY (hi:=rfl) (hd:=rfl) (hw:=rfl) (h:=fun _ _=>ZF (z:=nz))|apply dqY (hi:=rfl) (hd:=rfl) (hw:=rfl) (h:=fun _ _=>ZC (z:=nz))|apply dqY (hi:=rfl) (hd:=rfl) (hw:=rfl) (h:=fun _ _=>ZM (z:=nz))|apply dqY (hi:=rfl) (hd:=rfl) (hw:=rfl) (h:=fun _ _=>YC (z:=nz)))
   refine dnQ ?_;refine AAny.one rfl rfl rfl rfl ?_;refine cl rfl rfl hop fun v st' ⟨u3,oo3,h3,hst⟩=>nl ⟨_,rfl,?_⟩;subst hst;refine AAny.text rfl ?_;refine nl ?_;rw [← hd,List.append_assoc] at h3 ⊢;exact rets rfl (.refl _) (.refl _) ⟨u3,oo3,h3,rfl⟩
 | .bin op a b,hw,hn=>by
  have ha:XOk a:=expr_ok a hw.2.2.1 hn.1
  have hbb:XOk b:=expr_ok b hw.2.2.2 hn.2
  have hlv:=level_x (.bin op a b) hw
  have hla:=level_x a hw.2.2.1
  have hlb:=level_x b hw.2.2.2;obtain ⟨h6,h17,hwa,hwb⟩:=hw;obtain ⟨_,q1,q4,_,_⟩:=sgO_bin op h6 h17;intro st o u L oo hg h hb;unfold xv xrow at hlv ⊢;simp only [xby,List.length_append,List.length_cons] at hb;obtain ⟨op1,num1,name1,field1,args1,h1r⟩:=xrow_ex a;obtain ⟨op2,num2,name2,field2,args2,h2r⟩:=xrow_ex b;unfold xv at hla hlb;rw [h1r] at hla;rw [h2r] at hlb;rw [h1r,h2r] at hlv ⊢;refine ACalls.ofBody Tryz.func121 rfl Tryz.ntmps121 rfl ?_;have k0:¬ (op:Int)=0:=by omega
  have k1:¬ (op:Int)=1:=by omega
  have k2:¬ (op:Int)=2:=by omega
  have k3:¬ (op:Int)=3:=by omega
  haveI:PureFn Tryz.prog 126 [.agg (exRow op1 num1 name1 field1 (.view 6 args1 .shared))] (.int .i64 (lvX a:Int)):=⟨hla⟩
  haveI:PureFn Tryz.prog 126 [.agg (exRow op2 num2 name2 field2 (.view 6 args2 .shared))] (.int .i64 (lvX b:Int)):=⟨hlb⟩
  haveI:PureFn Tryz.prog 126 [.agg (exRow op 0 [] [] (.view 6 [exRow op1 num1 name1 field1 (.view 6 args1 .shared),exRow op2 num2 name2 field2 (.view 6 args2 .shared)] .shared))] (.int .i64 (lvO op:Int)):=⟨hlv⟩
  have k5:(lvO op:Int) < 5:=by omega
  have hopa:=fun (b1:Bool) (e:b1=lpar op a)=>operand_ok ha (lpar op a) hg (u:=u) h (by omega)
  have hopb:=fun (u2:Bool) (L2:List UInt8) (oo2:Option Nat) (h2:WOk st o L2 oo2) (hl:L2.length + (pby (rpar op b) (xby b)).length≤wMax)=>operand_ok hbb (rpar op b) hg (u:=u2) h2 hl;unfold xv at hopa hopb;rw [h1r] at hopa;rw [h2r] at hopb;refine goD ?_;refine AWP.any rfl ?_;apply AAny.segQ (k':=15) (hok:=by decide +kernel);repeat (first|apply dsY (hi:=rfl) (hs:=rfl)|apply dqY (hi:=rfl) (hd:=rfl) (hw:=rfl) (h:=fun _ _=>ZD (z:=nz))|apply dqY (hi:=rfl) (hd:=rfl) (hw:=rfl) (h:=fun _ _=>ZF (z:=nz))|apply dqY (hi:=rfl) (hd:=rfl) (hw:=rfl) (h:=fun _ _=>ZC (z:=nz))|apply dqY (hi:=rfl) (hd:=rfl) (hw:=rfl) (h:=fun _ _=>ZM (z:=nz))|apply dqY (hi:=rfl) (hd:=rfl) (hw:=rfl) (h:=fun _ _=>YC (z:=nz)))
  refine dnQ ?_;refine AAny.text rfl ?_;refine nl ?_;refine AWP.weaken (T':=[(5,.int .i64 (lvO op:Int)),(6,.int .i64 (lvX a:Int)),(7,.int .i64 (lvX b:Int)),(3,.eptr 6 [exRow op 0 [] [] (.view 6 [exRow op1 num1 name1 field1 (.view 6 args1 .shared),exRow op2 num2 name2 field2 (.view 6 args2 .shared)] .shared)] 0 0),(0,.cptr o 2 0 0)]) (tl5 rfl rfl rfl rfl rfl) (.refl _) ?_;refine AWP.seq ?_;refine AWP.cutK (α:=Bool × Option Nat) (fun _=>[(5,.int .i64 (lvO op:Int)),(7,.int .i64 (lvX b:Int)),(3,.eptr 6 [exRow op 0 [] [] (.view 6 [exRow op1 num1 name1 field1 (.view 6 args1 .shared),exRow op2 num2 name2 field2 (.view 6 args2 .shared)] .shared)] 0 0),(0,.cptr o 2 0 0)]) (fun y=>wS st o y.1 (L++pby (lpar op a) (xby a)) y.2) (fun y=>WOk st o (L++pby (lpar op a) (xby a)) y.2) ?_ ?_
  ·by_cases c1:lvX a < lvO op
   ·have c1':(lvX a:Int) < (lvO op:Int):=by omega
    have hp:true=lpar op a:=(decide_eq_true (.inl c1)).symm
    have ho:=hopa true hp;rw [← hp] at ho;refine goD ?_;refine cl rfl rfl ho fun v st' ⟨u3,oo3,h3,hst⟩=>?_;subst hst;rw [hp] at h3 ⊢;refine goD ?_;exact ⟨(u3,oo3),h3,(tl4 rfl rfl rfl rfl),.refl _⟩
   ·have c1':¬ (lvX a:Int) < (lvO op:Int):=by omega
    by_cases c2:lvO op=1
    ·have c2':(lvO op:Int)=1:=by omega
     have hp:decide ((lvX a:Int)=1)=lpar op a:=decide_eq_decide.2 ⟨fun h=>.inr (by omega),fun h=>h.elim (fun h=>absurd h c1) (fun h=>by omega)⟩
     have ho:=hopa _ hp;rw [← hp] at ho;refine goD ?_;refine cl rfl rfl ho fun v st' ⟨u3,oo3,h3,hst⟩=>?_;subst hst;rw [hp] at h3 ⊢;refine goD ?_;exact ⟨(u3,oo3),h3,(tl4 rfl rfl rfl rfl),.refl _⟩
    ·have c2':¬ (lvO op:Int)=1:=by omega
     have hp:false=lpar op a:=(decide_eq_false (fun h=>h.elim c1 (by omega))).symm
     have ho:=hopa false hp;rw [← hp] at ho;refine goD ?_;refine cl rfl rfl ho fun v st' ⟨u3,oo3,h3,hst⟩=>?_;subst hst;rw [hp] at h3 ⊢;refine goD ?_;exact ⟨(u3,oo3),h3,(tl4 rfl rfl rfl rfl),.refl _⟩
  rintro ⟨u2,oo2⟩ h2;simp only at h2;obtain ⟨m,m1,m2,m3⟩:=sgn_at op h6 h17;show AWP _ _ _ _ _ _ (wS st o u2 (L++pby (lpar op a) (xby a)) oo2);refine goD ?_;refine sbn (a:=op) (b:=6) rfl rfl rfl (by omega) ?_;have hgl:∀ T:Tmps,ev (wS st o u2 (L++pby (lpar op a) (xby a)) oo2) T (.global 3)=some (.eptr 12 [sgnRow] 0 0):=fun T=>congrArg (Option.map fun row:List AV=>AV.eptr row.length [row] 0 0) hg.w.ops;refine ixa (m:=m) (q:=.eptr 12 [sgnRow] 0 (0 + m * 1)) rfl rfl (by omega) (by omega) ((congrArg (ptrA (m * 1)) (hgl _)).trans rfl) ?_;refine Go.AM.le (v:=.str (sgO op)) rfl rfl rfl (by exact sel_one m3) ?_;refine bsh (cs:=[.str [32],.str (sgO op),.str [32]]) rfl rfl rfl rfl rfl ?_;have e1:[[32],sgO op,[32]].flatten=32::(sgO op++[32]):=by simp
  refine cl rfl rfl (texts_ok h2 [[32],sgO op,[32]] _ (by exact Nat.le_of_ble_eq_true rfl) (by rw [e1]; simp only [List.length_append,List.length_cons,List.length_nil]; omega)) fun v st' ⟨u3,oo3,h3,hst⟩=>?_;subst hst;rw [e1] at h3 ⊢;have hp:decide ((lvX b:Int)≤(lvO op:Int))=rpar op b:=decide_eq_decide.2 (by omega)
  have ho:=hopb u3 _ oo3 h3 LL;rw [← hp] at ho;refine goD ?_;refine cl rfl rfl ho fun v st' ⟨u4,oo4,h4,hst⟩=>?_;subst hst;have e2:L++pby (lpar op a) (xby a)++32::(sgO op++[32])++pby (decide ((lvX b:Int)≤(lvO op:Int))) (xby b)=L++xby (.bin op a b):=by rw [hp]; simp [xby]
  rw [e2] at h4 ⊢;refine goD ?_;exact rets rfl (.refl _) (.refl _) ⟨u4,oo4,h4,rfl⟩
structure Sm where
 kind:Nat
 target:List Xp
 fn:List UInt8
 args:List Xp
def wReturn:List UInt8:=[114,101,116,117,114,110]
def wThrow:List UInt8:=[116,104,114,111,119]
def wPrint:List UInt8:=[112,114,105,110,116]
def smRow (line:Int) (m:Sm):List AV:=aRow m.kind line (nlv (xrows m.target)) m.fn (nlv (xrows m.args))
def fsimple (ts:List Tk):QR Sm :=
 if kw (hd ts) wReturn then
  if seesC ts.tail then qb (fcall ts.tail) fun c r=>.ok (⟨6,[],c.1,c.2⟩,r) else qb (qx ts.tail) fun x r=>.ok (⟨6,[],[],[x]⟩,r)
 else if kw (hd ts) wThrow then qb (qx ts.tail) fun x r=>.ok (⟨7,[],[],[x]⟩,r)
 else if kw (hd ts) wPrint then qb (qx ts.tail) fun x r=>.ok (⟨9,[],[],[x]⟩,r)
 else if seesC ts then qb (fcall ts) fun c r=>.ok (⟨3,[],c.1,c.2⟩,r)
 else qb (qt ts) fun y r=>qb (fneed [61] r) fun _ r2 =>
  if seesC r2 then qb (fcall r2) fun c r3=>.ok (⟨3,[y],c.1,c.2⟩,r3) else qb (qx r2) fun x r3=>.ok (⟨2,[y],[],[x]⟩,r3)

set_option maxHeartbeats 4000000 in
theorem psimple_ok {ts:List Tk} (H:RdH ts) {a o os:Nat} {st:St} {line:Int} (hne:os≠o) (ho:st.obj o=some (prC (ts.map tokRow) a)) (hs:st.obj os=some (sC (aRow 0 line nilV [] nilV))) (ha:a < ts.length) (hg:st.row 3=some sgnRow) :
  ACalls Tryz.prog 102 [.cptr o 2 0 0,.cptr os 13 0 0] st (PsR ts o os st (smRow line) (fsimple (ts.drop a))) (PsP ts o os st (fsimple (ts.drop a))):=by
 refine ACalls.inSet2 ho hs (ACalls.ofBody Tryz.func102 rfl Tryz.ntmps102 rfl ?_);have inn:∀ b z r,((st.set o b).set os z).set o r=(st.set o r).set os z:=fun b z r=>St.set_inner hne b r z
 have in2:∀ b z r c,(((st.set o b).set os z).set o r).set os c=(st.set o r).set os c:=fun b z r c=>by rw [inn,St.set_set]
 have ob:∀ b z,((st.set o b).set os z).obj o=some b:=fun b z=>St.obj_under hne b z
 have hl:=H.len;clear ho hs;unfold sC;refine goD ?_;obtain ⟨t,t1,t3,t5,t6,ps,pw,pt⟩:=pneed_of H (ob (prC (ts.map tokRow) a) (.cells 41 13 [aRow 0 line nilV [] nilV])) ha;have e0:fsimple (ts.drop a)=fsimple (ts.drop a):=rfl
 conv at e0=>rhs; rw [fsimple,t3,t5]
 refine cl rfl rfl (pw wReturn) fun v st' ⟨hv,hst⟩=>?_;subst hv;subst hst;by_cases c1:kw t wReturn=true
 ·rw [if_pos c1] at e0;rw [if_pos c1,c1,inn];have hb:=t6 (kw_kind c1);refine goD ?_;refine so1 (row':=aRow 6 line nilV [] nilV) rfl rfl rfl rfl rfl (by exact Nat.le_of_ble_eq_true rfl) rfl ?_;refine goD ?_;refine cle rfl rfl (pseesC_ok H (ob _ _) hb) ?_;by_cases k1:seesC (ts.drop (a + 1))=true
  ·rw [if_pos k1] at e0;rw [k1];refine goD ?_;refine clq rfl rfl (pcall_ok H (kind:=6) (line:=line) (tgt:=nilV) hne (ob _ _) (St.obj_set _ _ _) hb hg) (fun v st' ⟨e,k,c,q1,q2,q3,q4⟩=>⟨_,.refl _,e,k,c,q1,q2,q3.trans (in2 _ _ _ _),by rw [e0,qb_err q4]⟩) fun v st' hR=>?_;obtain ⟨x,b9,hb9,hst,hr⟩:=hR;subst hst;rw [in2];refine goD ?_;exact rets rfl (.refl _) (.refl _) ⟨⟨6,[],x.1,x.2⟩,b9,hb9,rfl,by rw [e0,qb_ok hr]⟩
  ·rw [if_neg k1] at e0;rw [Bool.not_eq_true] at k1;rw [k1];refine goD ?_;refine clq rfl rfl (pexpr_ok H (ob _ _) hb hg) (fun v st' ⟨e,k,q1,q2,q3,q4⟩=>⟨_,.refl _,e,k,_,q1,q2,q3.trans (inn _ _ _),by rw [e0,qb_err q4]⟩) fun v st' hR=>?_;obtain ⟨x,b9,hv,hb9,hst,hr⟩:=hR;subst hv;subst hst;rw [inn];obtain ⟨op,num,name,field,args,hx⟩:=xrow_ex x;rw [xv,hx];refine bsh (cs:=exRow op num name field (.view 6 args .shared)) rfl rfl rfl rfl rfl ?_;refine goD ?_;refine so1 (row':=aRow 6 line nilV [] (.view 6 [exRow op num name field (.view 6 args .shared)] .shared)) rfl rfl rfl rfl rfl (by exact Nat.le_of_ble_eq_true rfl) rfl ?_;refine goD ?_;refine rets rfl (.refl _) (.refl _) ⟨⟨6,[],[],[x]⟩,b9,hb9,?_,by rw [e0,qb_ok hr]⟩;show _=(st.set o _).set os (sC (aRow 6 line (nlv (xrows [])) [] (.view 6 [xrow x] .shared)));rw [hx] <;> rfl
 rw [if_neg c1] at e0;rw [if_neg c1];rw [Bool.not_eq_true] at c1;rw [c1];refine goD ?_;refine cl rfl rfl (pw wThrow) fun v st' ⟨hv,hst⟩=>?_;subst hv;subst hst;by_cases c2:kw t wThrow=true
 ·rw [if_pos c2] at e0;rw [if_pos c2,c2,inn];have hb:=t6 (kw_kind c2);refine goD ?_;refine so1 (row':=aRow 7 line nilV [] nilV) rfl rfl rfl rfl rfl (by exact Nat.le_of_ble_eq_true rfl) rfl ?_;refine goD ?_;refine clq rfl rfl (pexpr_ok H (ob _ _) hb hg) (fun v st' ⟨e,k,q1,q2,q3,q4⟩=>⟨_,.refl _,e,k,_,q1,q2,q3.trans (inn _ _ _),by rw [e0,qb_err q4]⟩) fun v st' hR=>?_;obtain ⟨x,b9,hv,hb9,hst,hr⟩:=hR;subst hv;subst hst;rw [inn];obtain ⟨op,num,name,field,args,hx⟩:=xrow_ex x;rw [xv,hx];refine bsh (cs:=exRow op num name field (.view 6 args .shared)) rfl rfl rfl rfl rfl ?_;refine goD ?_;refine so1 (row':=aRow 7 line nilV [] (.view 6 [exRow op num name field (.view 6 args .shared)] .shared)) rfl rfl rfl rfl rfl (by exact Nat.le_of_ble_eq_true rfl) rfl ?_;refine goD ?_;refine rets rfl (.refl _) (.refl _) ⟨⟨7,[],[],[x]⟩,b9,hb9,?_,by rw [e0,qb_ok hr]⟩;show _=(st.set o _).set os (sC (aRow 7 line (nlv (xrows [])) [] (.view 6 [xrow x] .shared)));rw [hx] <;> rfl
 rw [if_neg c2] at e0;rw [if_neg c2];rw [Bool.not_eq_true] at c2;rw [c2];refine goD ?_;refine cl rfl rfl (pw wPrint) fun v st' ⟨hv,hst⟩=>?_;subst hv;subst hst;by_cases c3:kw t wPrint=true
 ·rw [if_pos c3] at e0;rw [if_pos c3,c3,inn];have hb:=t6 (kw_kind c3);refine goD ?_;refine so1 (row':=aRow 9 line nilV [] nilV) rfl rfl rfl rfl rfl (by exact Nat.le_of_ble_eq_true rfl) rfl ?_;refine goD ?_;refine clq rfl rfl (pexpr_ok H (ob _ _) hb hg) (fun v st' ⟨e,k,q1,q2,q3,q4⟩=>⟨_,.refl _,e,k,_,q1,q2,q3.trans (inn _ _ _),by rw [e0,qb_err q4]⟩) fun v st' hR=>?_;obtain ⟨x,b9,hv,hb9,hst,hr⟩:=hR;subst hv;subst hst;rw [inn];obtain ⟨op,num,name,field,args,hx⟩:=xrow_ex x;rw [xv,hx];refine bsh (cs:=exRow op num name field (.view 6 args .shared)) rfl rfl rfl rfl rfl ?_;refine goD ?_;refine so1 (row':=aRow 9 line nilV [] (.view 6 [exRow op num name field (.view 6 args .shared)] .shared)) rfl rfl rfl rfl rfl (by exact Nat.le_of_ble_eq_true rfl) rfl ?_;refine goD ?_;refine rets rfl (.refl _) (.refl _) ⟨⟨9,[],[],[x]⟩,b9,hb9,?_,by rw [e0,qb_ok hr]⟩;show _=(st.set o _).set os (sC (aRow 9 line (nlv (xrows [])) [] (.view 6 [xrow x] .shared)));rw [hx] <;> rfl
 rw [if_neg c3] at e0;rw [if_neg c3];rw [Bool.not_eq_true] at c3;rw [c3];refine goD ?_;refine cle rfl rfl (pseesC_ok H (ob _ _) ha) ?_;by_cases k1:seesC (ts.drop a)=true
 ·rw [if_pos k1] at e0;rw [k1];refine goD ?_;refine so1 (row':=aRow 3 line nilV [] nilV) rfl rfl rfl rfl rfl (by exact Nat.le_of_ble_eq_true rfl) rfl ?_;refine goD ?_;refine clq rfl rfl (pcall_ok H (kind:=3) (line:=line) (tgt:=nilV) hne (ob _ _) (St.obj_set _ _ _) ha hg) (fun v st' ⟨e,k,c,q1,q2,q3,q4⟩=>⟨_,.refl _,e,k,c,q1,q2,q3.trans (in2 _ _ _ _),by rw [e0,qb_err q4]⟩) fun v st' hR=>?_;obtain ⟨x,b9,hb9,hst,hr⟩:=hR;subst hst;rw [in2];refine goD ?_;exact rets rfl (.refl _) (.refl _) ⟨⟨3,[],x.1,x.2⟩,b9,hb9,rfl,by rw [e0,qb_ok hr]⟩
 rw [if_neg k1] at e0;rw [Bool.not_eq_true] at k1;rw [k1];refine goD ?_;refine clq rfl rfl (ptarget_ok0 H (ob _ _) ha hg) (fun v st' ⟨e,k,q1,q2,q3,q4⟩=>⟨_,.refl _,e,k,_,q1,q2,q3.trans (inn _ _ _),by rw [e0,qb_err q4]⟩) fun v st' hR=>?_;obtain ⟨y,b3,hv,hb3,hst,hr1⟩:=hR;subst hv;subst hst;rw [inn];rw [qb_ok hr1] at e0;obtain ⟨op1,num1,name1,field1,args1,hy⟩:=xrow_ex y;rw [xv,hy];refine bsh (cs:=exRow op1 num1 name1 field1 (.view 6 args1 .shared)) rfl rfl rfl rfl rfl ?_;refine goD ?_;refine so1 (row':=aRow 0 line (.view 6 [exRow op1 num1 name1 field1 (.view 6 args1 .shared)] .shared) [] nilV) rfl rfl rfl rfl rfl (by exact Nat.le_of_ble_eq_true rfl) rfl ?_;refine goD ?_;refine clq rfl rfl (pneed_ok H (ob _ _) hb3 [61]) (fun v st' ⟨e,k,q1,q2,q3,q4⟩=>⟨_,.refl _,e,k,_,q1,q2,q3.trans (inn _ _ _),by rw [e0,qb_err q4]⟩) fun v st' hR=>?_;obtain ⟨_,b4,hb4,hst,hr2⟩:=hR;subst hst;rw [inn];rw [qb_ok hr2] at e0;refine goD ?_;have hty:nlv (xrows [y])=(.view 6 [exRow op1 num1 name1 field1 (.view 6 args1 .shared)] .shared):=by
  show AV.view 6 [xrow y] .shared=_;rw [hy] <;> rfl
 refine cle rfl rfl (pseesC_ok H (ob _ _) hb4) ?_;by_cases k2:seesC (ts.drop b4)=true
 ·rw [if_pos k2] at e0;rw [k2];refine goD ?_;refine so1 (row':=aRow 3 line (.view 6 [exRow op1 num1 name1 field1 (.view 6 args1 .shared)] .shared) [] nilV) rfl rfl rfl rfl rfl (by exact Nat.le_of_ble_eq_true rfl) rfl ?_;refine goD ?_;refine clq rfl rfl (pcall_ok H (kind:=3) (line:=line) (tgt:=(.view 6 [exRow op1 num1 name1 field1 (.view 6 args1 .shared)] .shared)) hne (ob _ _) (St.obj_set _ _ _) hb4 hg) (fun v st' ⟨e,k,c,q1,q2,q3,q4⟩=>⟨_,.refl _,e,k,c,q1,q2,q3.trans (in2 _ _ _ _),by rw [e0,qb_err q4]⟩) fun v st' hR=>?_;obtain ⟨x,b9,hb9,hst,hr⟩:=hR;subst hst;rw [in2];refine goD ?_;exact rets rfl (.refl _) (.refl _) ⟨⟨3,[y],x.1,x.2⟩,b9,hb9,by show _=(st.set o _).set os (sC (aRow 3 line (nlv (xrows [y])) x.1 (nlv (xrows x.2)))); rw [hty] <;> rfl,by rw [e0,qb_ok hr]⟩
 ·rw [if_neg k2] at e0;rw [Bool.not_eq_true] at k2;rw [k2];refine goD ?_;refine so1 (row':=aRow 2 line (.view 6 [exRow op1 num1 name1 field1 (.view 6 args1 .shared)] .shared) [] nilV) rfl rfl rfl rfl rfl (by exact Nat.le_of_ble_eq_true rfl) rfl ?_;refine goD ?_;refine clq rfl rfl (pexpr_ok H (ob _ _) hb4 hg) (fun v st' ⟨e,k,q1,q2,q3,q4⟩=>⟨_,.refl _,e,k,_,q1,q2,q3.trans (inn _ _ _),by rw [e0,qb_err q4]⟩) fun v st' hR=>?_;obtain ⟨x,b9,hv,hb9,hst,hr⟩:=hR;subst hv;subst hst;rw [inn];obtain ⟨op,num,name,field,args,hx⟩:=xrow_ex x;rw [xv,hx];refine bsh (cs:=exRow op num name field (.view 6 args .shared)) rfl rfl rfl rfl rfl ?_;refine goD ?_;refine so1 (row':=aRow 2 line (.view 6 [exRow op1 num1 name1 field1 (.view 6 args1 .shared)] .shared) [] (.view 6 [exRow op num name field (.view 6 args .shared)] .shared)) rfl rfl rfl rfl rfl (by exact Nat.le_of_ble_eq_true rfl) rfl ?_;refine goD ?_;refine rets rfl (.refl _) (.refl _) ⟨⟨2,[y],[],[x]⟩,b9,hb9,?_,by rw [e0,qb_ok hr]⟩;show _=(st.set o _).set os (sC (aRow 2 line (nlv (xrows [y])) [] (.view 6 [xrow x] .shared)));rw [hty,hx] <;> rfl
end Go.Proofs
namespace Go.Proofs
open Go.AM
inductive Sp where
 | mk (kind line:Nat) (name type:List UInt8) (len:Nat) (target:List Xp) (fn:List UInt8) (args:List Xp) (body els:List Sp)
mutual
def spRow:Sp→List AV
 | .mk k l nm ty len tg fn ar bd el=>sRow k l nm ty len (.view 6 (xrows tg) .shared) fn (.view 6 (xrows ar) .shared) (.view 13 (spRows bd) .shared) (.view 13 (spRows el) .shared)
def spRows:List Sp→List (List AV)
 | []=>[]
 | s::r=>spRow s::spRows r
end
def wVar:List UInt8:=[118,97,114]
def wIf:List UInt8:=[105,102]
def wElse:List UInt8:=[101,108,115,101]
def wWhile:List UInt8:=[119,104,105,108,101]
def wTry:List UInt8:=[116,114,121]
def wCatch:List UInt8:=[99,97,116,99,104]
mutual
def fstm:Nat→Nat→List Tk→QR Sp
 | 0,_,_=>.error (99,[])
 | k + 1,d,ts =>
  if begS (hd ts) then
   if 8 < d then .error (5,ts)
   else if kw (hd ts) wVar then qb (fdecl ts.tail) fun x r=>.ok (.mk 1 (hd ts).line x.1 x.2.1 x.2.2 [] [] [] [] [],r)
   else if kw (hd ts) wIf then qb (qx ts.tail) fun x r=>qb (fblk k (d + 1) r) fun b r2 =>
    if kw (hd r2) wElse then qb (fblk k (d + 1) r2.tail) fun e r3=>.ok (.mk 4 (hd ts).line [] [] 0 [] [] [x] b e,r3) else .ok (.mk 4 (hd ts).line [] [] 0 [] [] [x] b [],r2)
   else if kw (hd ts) wWhile then qb (qx ts.tail) fun x r=>qb (fblk k (d + 1) r) fun b r2=>.ok (.mk 5 (hd ts).line [] [] 0 [] [] [x] b [],r2)
   else if kw (hd ts) wTry then qb (fblk k (d + 1) ts.tail) fun b r =>
    if kw (hd r) wCatch then qb (fname r.tail) fun n r2=>qb (fblk k (d + 1) r2) fun e r3=>.ok (.mk 8 (hd ts).line n [] 0 [] [] [] b e,r3) else .error (7,r)
   else qb (fsimple ts) fun m r=>qb (fneed [59] r) fun _ r2=>.ok (.mk m.kind (hd ts).line [] [] 0 m.target m.fn m.args [] [],r2)
  else .error (7,ts)
def fblk:Nat→Nat→List Tk→QR (List Sp)
 | 0,_,_=>.error (99,[])
 | k + 1,d,ts=>qb (fneed [123] ts) fun _ r=>fsts k d [] r
def fsts:Nat→Nat→List Sp→List Tk→QR (List Sp)
 | 0,_,_,_=>.error (99,[])
 | k + 1,d,l,ts=>if sg (hd ts) [125] then .ok (l,ts.tail) else qb (fstm k d ts) fun s r=>fsts k d (l++[s]) r
end
theorem spRows_append:∀ (l m:List Sp),spRows (l++m)=spRows l++spRows m
 | [],m=>by rw [spRows]; rfl
 | s::l,m=>by rw [List.cons_append,spRows,spRows,spRows_append l m]; rfl
end Go.Proofs
namespace Go.Proofs
open Go.AM
attribute [local irreducible] AWP AOps ACalls AAny
def tyT (ty:List UInt8) (len:Nat):List UInt8:=if ty=[] then if len=0 then wInt else [105,110,116,91]++dec len++[93] else ty
def hdT (d:Nat) (w:List UInt8) (ar:List Xp):List UInt8:=List.replicate d 9++w++xsT ar++[32,123,10]
def smH (k:Nat) (tg:List Xp):List UInt8 :=
 if k=6 then [114,101,116,117,114,110,32] else if k=7 then [116,104,114,111,119,32] else if k=9 then [112,114,105,110,116,32] else xsT tg++if tg=[] then [] else [32,61,32]
def smV (fn:List UInt8) (ar:List Xp):List UInt8:=if fn=[] then xsT ar else fn++[40]++xsT ar++[41]
def smT (k:Nat) (tg:List Xp) (fn:List UInt8) (ar:List Xp):List UInt8:=smH k tg++smV fn ar
def WX1 (x:Xp):Prop:=Wop x∧WN x
theorem WX1.ok {x:Xp} (h:WX1 x):XOk x:=expr_ok x h.1 h.2
set_option maxHeartbeats 1000000 in
theorem head_ok {ar:List Xp} (hx:∀ x ∈ ar,WX1 x) (hl:ar.length≤100000) (tk:Go.AM.Tok) (d:Nat) (w:List UInt8) {st:St} {o:Nat} {u:Bool} {L:List UInt8} {oo:Option Nat} (hg:GSt st) (h:WOk st o L oo) (hb:L.length + (hdT d w ar).length≤wMax) :
  ACalls Tryz.prog 90 [.cptr o 2 0 0,.int .i64 (d:Int),.str w,.view 6 (xrows ar) tk] (wS st o u L oo) (WrP st o (L++hdT d w ar)) (fun _ _=>False):=by
 simp only [hdT,List.length_append,List.length_replicate,List.length_cons,List.length_nil] at hb;refine ACalls.ofBody Tryz.func90 rfl Tryz.ntmps90 rfl ?_;refine goD ?_;refine cl rfl rfl (tabs_ok h d (by omega)) fun v st' ⟨u1,oo1,h1,hst⟩=>?_;subst hst;refine goD ?_;refine cl rfl rfl (texts_ok h1 [w] _ (by exact Nat.le_of_ble_eq_true rfl) (by rw [fl1]; simp only [List.length_append,List.length_replicate]; omega)) fun v st' ⟨u2,oo2,h2,hst⟩=>?_;subst hst;rw [fl1] at h2 ⊢;refine goD ?_;refine cl rfl rfl (expressions_ok (fun x hx'=>(hx x hx').ok) hl tk hg h2 (by simp only [List.length_append,List.length_replicate]; omega)) fun v st' ⟨u3,oo3,h3,hst⟩=>?_;subst hst;refine goD ?_;refine cl rfl rfl (texts_ok h3 [[32,123,10]] _ (by exact Nat.le_of_ble_eq_true rfl) (by rw [fl1]; simp only [List.length_append,List.length_replicate,List.length_cons,List.length_nil]; omega)) fun v st' ⟨u4,oo4,h4,hst⟩=>?_;subst hst;have e:L++List.replicate d 9++w++xsT ar++[[32,123,10]].flatten=L++hdT d w ar:=by simp [hdT]
 rw [e] at h4 ⊢;refine goD ?_;exact rets rfl (.refl _) (.refl _) ⟨u4,oo4,h4,rfl⟩
theorem typeText_ok {k l:Int} {nm ty fn:List UInt8} {len:Nat} {a b c d:AV} (hl:len < 1000000000000000000) (st:St) (hg:GSt st) :
  ACalls Tryz.prog 91 [.agg (sRow k l nm ty len a fn b c d)] st (fun v st'=>v=.str (tyT ty len)∧st'=st) (fun _ _=>False):=by
 refine ACalls.ofBody Tryz.func91 rfl Tryz.ntmps91 rfl ?_;by_cases ht:ty=[]
 ·subst ht;by_cases h0:len=0
  ·subst h0;refine goD ?_;exact AWP.ret (rets rfl (.refl _) (.refl _) ⟨rfl,rfl⟩)
  ·have h0':¬ (len:Int)=0:=by omega
   have hd:Lib.itoa (len:Int)=dec len:=itoa_dec (by omega)
   have hle:=itoa_len (n:=(len:Int)) (by unfold w64; omega);rw [hd] at hle;refine goD ?_;refine cle rfl rfl (itoa_ok len (by unfold w64; omega) _ hg.tab) ?_;rw [hd];refine sad rfl rfl rfl (by simp only [List.length_cons,List.length_nil]; omega) ?_;refine sad rfl rfl rfl LL ?_;refine goD ?_;refine AWP.ret (rets rfl (.refl _) (.refl _) ⟨?_,rfl⟩);rw [tyT,if_pos rfl,if_neg h0];rfl
 ·have ht':¬ ty=[]:=ht
  have hr:tyT ty len=ty:=by rw [tyT,if_neg ht]
  rw [hr];refine goD ?_;exact AWP.ret (rets rfl (.refl _) (.refl _) ⟨rfl,rfl⟩)
set_option maxHeartbeats 2000000 in
theorem simpleP_ok {k:Nat} {l:Int} {nm ty fn:List UInt8} {len:Int} {tg ar:List Xp} {bd el:AV} (htg:∀ x ∈ tg,WX1 x) (har:∀ x ∈ ar,WX1 x) (hlt:tg.length≤100000) (hla:ar.length≤100000)
  {st:St} {o:Nat} {u:Bool} {L:List UInt8} {oo:Option Nat} (hg:GSt st) (h:WOk st o L oo) (hb:L.length + (smT k tg fn ar).length≤wMax) :
  ACalls Tryz.prog 92 [.cptr o 2 0 0,.agg (sRow k l nm ty len (.view 6 (xrows tg) .shared) fn (.view 6 (xrows ar) .shared) bd el)] (wS st o u L oo) (WrP st o (L++smT k tg fn ar)) (fun _ _=>False):=by
 unfold smT at hb ⊢;rw [List.length_append] at hb;refine ACalls.ofBody Tryz.func92 rfl Tryz.ntmps92 rfl ?_;refine goC ?_;refine rg ?_;refine goE ?_;refine nl ?_;refine AWP.weaken (T':=[(3,.eptr 13 [sRow k l nm ty len (.view 6 (xrows tg) .shared) fn (.view 6 (xrows ar) .shared) bd el] 0 0),(0,.cptr o 2 0 0)]) (tl2 rfl rfl) (.refl _) ?_;refine AWP.seq ?_;refine AWP.cutK (α:=Bool × Option Nat) (fun _=>[(3,.eptr 13 [sRow k l nm ty len (.view 6 (xrows tg) .shared) fn (.view 6 (xrows ar) .shared) bd el] 0 0),(0,.cptr o 2 0 0)]) (fun y=>wS st o y.1 (L++smH k tg) y.2) (fun y=>WOk st o (L++smH k tg) y.2) ?_ ?_
 ·have hbS:L.length + (smH k tg).length≤wMax:=by omega
  have lit:∀ (w:List UInt8),smH k tg=w→ACalls Tryz.prog 57 [.cptr o 2 0 0,.view 1 [[.str w]] .shared] (wS st o u L oo) (WrP st o (L++smH k tg)) (fun _ _=>False):=fun w e=>by
   rw [e] at hbS ⊢;have:=texts_ok (u:=u) h [w] .shared (by exact Nat.le_of_ble_eq_true rfl) (by rw [fl1]; exact hbS);rw [fl1] at this;exact this
  by_cases k6:k=6
  ·have k6':(k:Int)=6:=by omega
   have e:smH k tg=[114,101,116,117,114,110,32]:=by rw [smH,if_pos k6]
   refine goD ?_;refine cl rfl rfl (lit _ e) fun v st' ⟨u2,oo2,h2,hst⟩=>?_;subst hst;refine goD ?_;exact ⟨(u2,oo2),h2,(tl2 rfl rfl),.refl _⟩
  have k6':¬ (k:Int)=6:=by omega
  by_cases k7:k=7
  ·have k7':(k:Int)=7:=by omega
   have e:smH k tg=[116,104,114,111,119,32]:=by rw [smH,if_neg k6,if_pos k7]
   refine goD ?_;refine cl rfl rfl (lit _ e) fun v st' ⟨u2,oo2,h2,hst⟩=>?_;subst hst;refine goD ?_;exact ⟨(u2,oo2),h2,(tl2 rfl rfl),.refl _⟩
  have k7':¬ (k:Int)=7:=by omega
  by_cases k9:k=9
  ·have k9':(k:Int)=9:=by omega
   have e:smH k tg=[112,114,105,110,116,32]:=by rw [smH,if_neg k6,if_neg k7,if_pos k9]
   refine goD ?_;refine cl rfl rfl (lit _ e) fun v st' ⟨u2,oo2,h2,hst⟩=>?_;subst hst;refine goD ?_;exact ⟨(u2,oo2),h2,(tl2 rfl rfl),.refl _⟩
  have k9':¬ (k:Int)=9:=by omega
  have e:smH k tg=xsT tg++if tg=[] then [] else [32,61,32]:=by rw [smH,if_neg k6,if_neg k7,if_neg k9]
  rw [e] at hb ⊢;rw [List.length_append] at hb;clear lit e hbS;refine goD ?_;refine cl rfl rfl (expressions_ok (fun x hx'=>(htg x hx').ok) hlt .shared hg h (by omega)) fun v st' ⟨u2,oo2,h2,hst⟩=>?_;subst hst;have hnl:=xrows_len tg;by_cases ht:tg=[]
  ·have k0:¬ (((xrows tg).length:Nat):Int) > 0:=by rw [hnl,ht]; decide
   rw [if_pos ht,List.append_nil];refine goD ?_;exact ⟨(u2,oo2),h2,(tl2 rfl rfl),.refl _⟩
  ·have k0:(((xrows tg).length:Nat):Int) > 0:=by
    have:=List.length_pos_iff.2 ht;omega
   rw [if_neg ht,List.length_cons,List.length_cons,List.length_cons,List.length_nil] at hb;rw [if_neg ht];refine goD ?_;refine cl rfl rfl (texts_ok h2 [[32,61,32]] _ (by exact Nat.le_of_ble_eq_true rfl) (by rw [fl1]; simp only [List.length_append,List.length_cons,List.length_nil]; omega)) fun v st' ⟨u3,oo3,h3,hst⟩=>?_;subst hst;have e3:L++xsT tg++[[32,61,32]].flatten=L++(xsT tg++[32,61,32]):=by simp
   rw [e3] at h3 ⊢;refine goD ?_;exact ⟨(u3,oo3),h3,(tl2 rfl rfl),.refl _⟩
 rintro ⟨u2,oo2⟩ h2;simp only at h2;show AWP _ _ _ _ _ _ (wS st o u2 (L++smH k tg) oo2);unfold smV at hb ⊢;by_cases hf:fn=[]
 ·rw [if_pos hf] at hb ⊢;subst hf;refine goD ?_;refine cl rfl rfl (expressions_ok (fun x hx'=>(har x hx').ok) hla .shared hg h2 (by rw [List.length_append]; omega)) fun v st' ⟨u3,oo3,h3,hst⟩=>?_;subst hst;rw [List.append_assoc] at h3 ⊢;refine goD ?_;exact rets rfl (.refl _) (.refl _) ⟨u3,oo3,h3,rfl⟩
 ·rw [if_neg hf] at hb ⊢;simp only [List.length_append,List.length_cons,List.length_nil] at hb;refine goD ?_;refine bsh (cs:=[.str fn,.str [40]]) rfl rfl rfl rfl rfl ?_;have e:[fn,[40]].flatten=fn++[40]:=by simp
  refine cl rfl rfl (texts_ok h2 [fn,[40]] _ (by exact Nat.le_of_ble_eq_true rfl) (by rw [e]; simp only [List.length_append,List.length_cons,List.length_nil]; omega)) fun v st' ⟨u3,oo3,h3,hst⟩=>?_;subst hst;rw [e] at h3 ⊢;refine goD ?_;refine cl rfl rfl (expressions_ok (fun x hx'=>(har x hx').ok) hla .shared hg h3 LL) fun v st' ⟨u4,oo4,h4,hst⟩=>?_;subst hst;refine goD ?_;refine cl rfl rfl (texts_ok h4 [[41]] _ (by exact Nat.le_of_ble_eq_true rfl) (by rw [fl1]; simp only [List.length_append,List.length_cons,List.length_nil]; omega)) fun v st' ⟨u5,oo5,h5,hst⟩=>?_;subst hst;have e2:L++smH k tg++(fn++[40])++xsT ar++[[41]].flatten=L++(smH k tg++(fn++[40]++xsT ar++[41])):=by simp
  rw [e2] at h5 ⊢;refine goD ?_;exact AWP.ret (rets rfl (.refl _) (.refl _) ⟨u5,oo5,h5,rfl⟩)
end Go.Proofs
namespace Go.Proofs
open Go.AM
def QLe {α:Type} (n:Nat) (r:QR α):Prop:=∀ x t,r=.ok (x,t)→t.length≤n
theorem QLe.qb {α β:Type} {n:Nat} {r:QR α} {f:α→List Tk→QR β} (h:QLe n r) (hf:∀ x t,t.length≤n→QLe n (f x t)):QLe n (qb r f):=by
 cases r with
 | error e=>intro x t h; cases h
 | ok p=>exact hf p.1 p.2 (h p.1 p.2 rfl)
theorem QLe.ok {α:Type} {n:Nat} {x:α} {t:List Tk} (h:t.length≤n):QLe n (.ok (x,t)):=fun _ _ e=>by cases e; exact h
theorem QLe.err {α:Type} {n:Nat} {e:Nat × List Tk}:QLe n (.error e:QR α):=fun _ _ h=>by cases h
theorem QLe.mono {α:Type} {n m:Nat} {r:QR α} (h:QLe n r) (hm:n≤m):QLe m r:=fun x t e=>Nat.le_trans (h x t e) hm
theorem tail_le (ts:List Tk):ts.tail.length≤ts.length:=by rw [List.length_tail]; omega
theorem fneed_le (s:List UInt8) (ts:List Tk):QLe ts.length (fneed s ts):=by
 unfold fneed;split
 ·exact .ok (tail_le ts)
 ·exact .err
theorem fname_le (ts:List Tk):QLe ts.length (fname ts):=by
 unfold fname;split
 ·exact .ok (tail_le ts)
 ·exact .err
theorem qx_le (ts:List Tk):QLe ts.length (qx ts):=fun _ _ h=>Nat.le_of_lt (qx_lt h)
theorem fdecl_le (ts:List Tk):QLe ts.length (fdecl ts):=by
 unfold fdecl;refine (fname_le ts).qb fun n r1 h1=>((fneed_le _ r1).mono h1).qb fun _ r2 h2=>?_;have t2:=tail_le r2
 have t3:=tail_le r2.tail
 have t4:=tail_le r2.tail.tail;split
 ·split
  ·split
   ·split
    ·exact .err
    ·exact ((fneed_le _ _).mono (by omega)).qb fun _ r3 h3=>((fneed_le _ _).mono h3).qb fun _ r4 h4=>.ok h4
   ·exact .err
  ·exact ((fneed_le _ _).mono (by omega)).qb fun _ r3 h3=>.ok h3
 ·exact ((fname_le _).mono h2).qb fun _ r3 h3=>((fneed_le _ _).mono h3).qb fun _ r4 h4=>.ok h4
theorem fargs_le:∀ (k:Nat) (l:List Xp) (ts:List Tk),QLe ts.length (fargs k l ts)
 | 0,l,ts=>.err
 | k + 1,l,ts=>by
  rw [fargs];split
  ·exact ((qx_le _).mono (tail_le ts)).qb fun x r h=>(fargs_le k _ r).mono h
  ·exact .ok (Nat.le_refl _)
theorem fcall_le (ts:List Tk):QLe ts.length (fcall ts):=by
 unfold fcall;refine (fname_le ts).qb fun n r1 h1=>((fneed_le _ r1).mono h1).qb fun _ r2 h2=>?_;have t2:=tail_le r2;split
 ·exact .ok (by omega)
 ·exact ((qx_le _).mono h2).qb fun x r3 h3=>((fargs_le _ _ _).mono h3).qb fun l r4 h4=>((fneed_le _ _).mono h4).qb fun _ r5 h5=>.ok h5
theorem qt_le (ts:List Tk):QLe ts.length (qt ts):=by
 unfold qt ftg;refine (fname_le ts).qb fun n r h=>?_;have t2:=tail_le r;split
 ·exact ((fname_le _).mono (by omega)).qb fun f r2 h2=>.ok h2
 ·split
  ·refine QLe.qb (fun x t e=>?_) fun x r2 h2=>((fneed_le _ _).mono h2).qb fun _ r3 h3=>.ok h3;have:=fe_lt_len (by decide) (by decide) (by omega) e;omega
  ·exact .ok h
theorem fname_l1 (ts:List Tk):QLe (ts.length - 1) (fname ts):=by
 unfold fname;split
 ·exact .ok (by rw [List.length_tail]; exact Nat.le_refl _)
 ·exact .err
theorem fcall_l1 (ts:List Tk):QLe (ts.length - 1) (fcall ts):=by
 unfold fcall;refine (fname_l1 ts).qb fun n r1 h1=>((fneed_le _ r1).mono h1).qb fun _ r2 h2=>?_;have t2:=tail_le r2;split
 ·exact .ok (by omega)
 ·exact ((qx_le _).mono h2).qb fun x r3 h3=>((fargs_le _ _ _).mono h3).qb fun l r4 h4=>((fneed_le _ _).mono h4).qb fun _ r5 h5=>.ok h5
theorem qt_l1 (ts:List Tk):QLe (ts.length - 1) (qt ts):=by
 unfold qt ftg;refine (fname_l1 ts).qb fun n r h=>?_;have t2:=tail_le r;split
 ·exact ((fname_le _).mono (by omega)).qb fun f r2 h2=>.ok h2
 ·split
  ·refine QLe.qb (fun x t e=>?_) fun x r2 h2=>((fneed_le _ _).mono h2).qb fun _ r3 h3=>.ok h3;have hlt:=fe_lt_len (by decide) (by decide) (by omega) e;omega
  ·exact .ok h
theorem fsimple_l1 (ts:List Tk):QLe (ts.length - 1) (fsimple ts):=by
 unfold fsimple;have t1:ts.tail.length=ts.length - 1:=List.length_tail;split
 ·split
  ·exact ((fcall_le _).mono (by omega)).qb fun c r h=>.ok h
  ·exact ((qx_le _).mono (by omega)).qb fun c r h=>.ok h
 ·split
  ·exact ((qx_le _).mono (by omega)).qb fun c r h=>.ok h
  ·split
   ·exact ((qx_le _).mono (by omega)).qb fun c r h=>.ok h
   ·split
    ·exact (fcall_l1 _).qb fun c r h=>.ok h
    ·refine (qt_l1 _).qb fun y r h=>((fneed_le _ _).mono h).qb fun _ r2 h2=>?_;split
     ·exact ((fcall_le _).mono h2).qb fun c r h=>.ok h
     ·exact ((qx_le _).mono h2).qb fun c r h=>.ok h
theorem fstm_all:∀ k:Nat,(∀ d ts,QLe (ts.length - 1) (fstm k d ts))∧(∀ d ts,QLe ts.length (fblk k d ts))∧(∀ d l ts,QLe ts.length (fsts k d l ts))
 | 0=>⟨fun _ _=>by rw [fstm]; exact .err,fun _ _=>by rw [fblk]; exact .err,fun _ _ _=>by rw [fsts]; exact .err⟩
 | k + 1=>by
  obtain ⟨i1,i2,i3⟩:=fstm_all k;refine ⟨fun d ts=>?_,fun d ts=>?_,fun d l ts=>?_⟩
  ·rw [fstm];have t1:ts.tail.length=ts.length - 1:=List.length_tail;split
   ·split
    ·exact .err
    ·split
     ·exact ((fdecl_le _).mono (by omega)).qb fun c r h=>.ok h
     ·split
      ·refine ((qx_le _).mono (by omega)).qb fun x r h=>((i2 _ _).mono h).qb fun b r2 h2=>?_;have t2:=tail_le r2;split
       ·exact ((i2 _ _).mono (by omega)).qb fun c r h=>.ok h
       ·exact .ok h2
      ·split
       ·exact ((qx_le _).mono (by omega)).qb fun x r h=>((i2 _ _).mono h).qb fun b r2 h2=>.ok h2
       ·split
        ·refine ((i2 _ _).mono (by omega)).qb fun b r h=>?_;have t2:=tail_le r;split
         ·exact ((fname_le _).mono (by omega)).qb fun n r2 h2=>((i2 _ _).mono h2).qb fun c r h=>.ok h
         ·exact .err
        ·exact (fsimple_l1 _).qb fun m r h=>((fneed_le _ _).mono h).qb fun _ r2 h2=>.ok h2
   ·exact .err
  ·rw [fblk];exact (fneed_le _ _).qb fun _ r h=>(i3 _ _ _).mono h
  ·rw [fsts];split
   ·exact .ok (tail_le ts)
   ·exact ((i1 _ _).mono (by omega)).qb fun s r h=>(i3 _ _ _).mono h
theorem fstm_lt {ts:List Tk} {k d b b2:Nat} {s:Sp} (hb:b < ts.length) (h:fstm k d (ts.drop b)=.ok (s,ts.drop b2)):b < b2:=by
 have h1:=(fstm_all k).1 d (ts.drop b) s _ h;rw [List.length_drop,List.length_drop] at h1;omega
end Go.Proofs
namespace Go.Proofs
open Go.AM
attribute [local irreducible] AWP AOps ACalls AAny
def spv (s:Sp):AV:=.agg (spRow s)
def PbR (ts:List Tk) (o:Nat) (st:St) (r:QR (List Sp)) (v:AV) (st':St):Prop :=
 ∃ l k tk,v=.view 13 (spRows l) (.own tk 41)∧k < ts.length∧st.tok tk=false∧st'=(st.set o (prC (ts.map tokRow) k)).addTok tk∧l.length≤ts.length∧r=.ok (l,ts.drop k)
def StmOk (ts:List Tk) (K:Nat):Prop:=∀ k,k≤K→∀ (d a o:Nat) (st:St),d≤9→a < ts.length→3 * (ts.length - a) < k→st.obj o=some (prC (ts.map tokRow) a)→st.row 3=some sgnRow →
 ACalls Tryz.prog 80 [.cptr o 2 0 0,.int .i64 (d:Int)] st (PaR ts o st spv (fstm k d (ts.drop a))) (PaP ts o st (fstm k d (ts.drop a)))
def BlkOk (ts:List Tk) (K:Nat):Prop:=∀ k,k≤K→∀ (d a o:Nat) (st:St),d≤9→a < ts.length→3 * (ts.length - a) < k + 1→st.obj o=some (prC (ts.map tokRow) a)→st.row 3=some sgnRow →
 ACalls Tryz.prog 46 [.cptr o 2 0 0,.int .i64 (d:Int)] st (PbR ts o st (fblk k d (ts.drop a))) (PaP ts o st (fblk k d (ts.drop a)))
theorem spRows_len:∀ l:List Sp,(spRows l).length=l.length
 | []=>by rw [spRows]; rfl
 | s::l=>by rw [spRows,List.length_cons,List.length_cons,spRows_len l]

theorem spRow_len (s:Sp):Nat.beq (spRow s).length 13=true:=by
 cases s;rw [spRow];rfl
set_option maxHeartbeats 2000000 in
theorem pblock_step {ts:List Tk} (H:RdH ts) {K:Nat} (hS:StmOk ts K):BlkOk ts (K + 1):=by
 intro k0 hk0 d a o st hd9 ha hk ho hg;obtain ⟨k,rfl⟩:∃ k,k0=k + 1:=⟨k0 - 1,by omega⟩;refine ACalls.ofBody Tryz.func46 rfl Tryz.ntmps46 rfl ?_;have hl:=H.len;rw [fblk];refine goD ?_;refine clq rfl rfl (pneed_ok H ho ha [123]) (fun v st' ⟨e,k,q1,q2,q3,q4⟩=>⟨_,.refl _,e,k,q1,q2,q3,by rw [qb_err q4]⟩) fun v st' hR=>?_;obtain ⟨_,b,hb,hst,hr⟩:=hR;subst hst;have hab:=drop_lt ha (fneed_lt hr (drop_ne ha));rw [qb_ok hr];clear hr;refine goD ?_;refine AWP.nilTok 5 41 13 rfl fun tk htk=>?_;refine AWP.loop (α:=List Sp × Nat × Nat × Nat) (fun y=>[(5,.view 13 (spRows y.1) (.own y.2.2.1 41)),(1,.int .i64 (d:Int)),(0,.cptr o 2 0 0)]) (fun y=>(st.set o (prC (ts.map tokRow) y.2.1)).addTok y.2.2.1)
  (fun y=>y.2.1 < ts.length∧st.tok y.2.2.1=false∧y.1.length≤y.2.1∧a < y.2.1∧y.2.2.2≤k∧3 * (ts.length - y.2.1) + 1 < y.2.2.2∧fsts k d [] (ts.drop b)=fsts y.2.2.2 d y.1 (ts.drop y.2.1)) (fun y=>ts.length - y.2.1) ([],b,tk,k)
  ⟨hb,htk,Nat.zero_le _,hab,Nat.le_refl _,by simp only; omega,rfl⟩ (tl3 rfl rfl rfl) (.refl _) ?_
 generalize fsts k d [] (ts.drop b)=Res;clear htk hab hb b tk;rintro ⟨l,b,tk,fu⟩ ⟨hb,htk,hlb,hab,hfk,hfu,hI⟩;simp only at hb htk hlb hab hfk hfu hI;refine AWP.weaken (T':=[(5,.view 13 (spRows l) (.own tk 41)),(1,.int .i64 (d:Int)),(0,.cptr o 2 0 0)]) (st':=(st.set o (prC (ts.map tokRow) b)).addTok tk) (tl3 rfl rfl rfl) (.refl _) ?_;have hok:∀ k',((st.set o (prC (ts.map tokRow) k')).addTok tk).obj o=some (prC (ts.map tokRow) k'):=fun k'=>St.obj_set _ _ _
 have hset:∀ b k',((st.set o (prC (ts.map tokRow) b)).addTok tk).set o (prC (ts.map tokRow) k')=(st.set o (prC (ts.map tokRow) k')).addTok tk:=fun b k'=>by
  show ((st.addTok tk).set o _).set o _=(st.addTok tk).set o _;rw [St.set_set]
 obtain ⟨fu,rfl⟩:∃ f,fu=f + 1:=⟨fu - 1,by omega⟩;obtain ⟨t,t1,t3,t5,t6,ps,pw,pt⟩:=pneed_of H (hok b) hb;rw [fsts,t3,t5] at hI;refine goD ?_;refine cl rfl rfl (ps [125]) fun v st' ⟨hv,hst⟩=>?_;subst hv;subst hst;by_cases c1:sg t [125]=true
 ·rw [if_pos c1] at hI;rw [if_pos c1,c1,hset];have hb1:=t6 (sg_kind c1);refine goD ?_;refine AWP.exit (blk_hit ?_);refine goD ?_;exact AWP.ret (rets rfl (.refl _) (.refl _) ⟨l,b + 1,tk,rfl,hb1,htk,rfl,by omega,hI⟩)
 ·rw [if_neg c1] at hI;rw [if_neg c1];rw [Bool.not_eq_true] at c1;rw [c1];refine goD ?_;refine clq rfl rfl (hS fu (by omega) d b o _ hd9 hb (by omega) (hok b) hg) (fun v st' ⟨e,k',q1,q2,q3,q4⟩=>⟨st.set o (prC (ts.map tokRow) k'),by rw [q3,hset]; exact StLe.addTok _ (.refl _),e,k',q1,q2,rfl,by rw [hI,qb_err q4]⟩) fun v st' hR=>?_;obtain ⟨s,b2,hv,hb2,hst,hr⟩:=hR;subst hv;subst hst;rw [hset];have hbb:=fstm_lt hb hr;refine bs1 (v:=spv s) rfl rfl rfl rfl (by exact spRow_len s) (by rfl) ?_;refine ap rfl rfl rfl (St.tok_addTok _ _) rfl (by simp only [List.length_cons,List.length_nil,spRows_len]; omega) (by simp only [List.length_cons,List.length_nil,spRows_len,maxLen]; omega) fun tk' htk'=>?_;have hm:spRows l++[(spv s).cells]=spRows (l++[s]):=by rw [spRows_append,spRows,spRows] <;> rfl
  rw [hm];refine goD ?_;exact ⟨(l++[s],b2,tk',fu),⟨hb2,St.tok_of_add htk',by simp only [List.length_append,List.length_cons,List.length_nil]; omega,by simp only; omega,by simp only; omega,by simp only; omega,by rw [hI,qb_ok hr]⟩,by simp only; omega,(tl3 rfl rfl rfl),StLe.reTok (st:=st.set o (prC (ts.map tokRow) b2)) htk tk'⟩
mutual
def prS (d:Nat):Sp→List UInt8
 | .mk k _ nm ty len tg fn ar bd el =>
  if k=4 then hdT d [105,102,32] ar++prL (d + 1) bd++(if el.isEmpty then [] else lnT d [[125,32,101,108,115,101,32,123]]++prL (d + 1) el)++lnT d [[125]]
  else if k=5 then hdT d [119,104,105,108,101,32] ar++prL (d + 1) bd++lnT d [[125]]
  else if k=8 then lnT d [[116,114,121,32,123]]++prL (d + 1) bd++lnT d [[125,32,99,97,116,99,104,32],nm,[32,123]]++prL (d + 1) el++lnT d [[125]]
  else if k=1 then lnT d [[118,97,114,32],nm,[58,32],tyT ty len,[59]]
  else if k=2∨k=3∨k=6∨k=7∨k=9 then List.replicate d 9++smT k tg fn ar++[59,10]
  else []
def prL (d:Nat):List Sp→List UInt8
 | []=>[]
 | s::r=>prS d s++prL d r
end
mutual
def WSp:Sp→Prop
 | .mk _ _ _ _ len tg _ ar bd el=>(∀ x ∈ tg,WX1 x)∧(∀ x ∈ ar,WX1 x)∧tg.length≤100000∧ar.length≤100000∧len < 1000000000000000000∧WSps bd∧WSps el∧bd.length≤100000∧el.length≤100000
def WSps:List Sp→Prop
 | []=>True
 | s::r=>WSp s∧WSps r
end
theorem prL_append (d:Nat):∀ (l m:List Sp),prL d (l++m)=prL d l++prL d m
 | [],m=>by rw [prL]; rfl
 | s::l,m=>by rw [List.cons_append,prL,prL,prL_append d l m,List.append_assoc]
def SOk (s:Sp):Prop:=∀ (d:Nat) (st:St) (o:Nat) (u:Bool) (L:List UInt8) (oo:Option Nat),GSt st→WOk st o L oo→L.length + (prS d s).length≤wMax →
 ACalls Tryz.prog 60 [.cptr o 2 0 0,.agg (spRow s),.int .i64 (d:Int)] (wS st o u L oo) (WrP st o (L++prS d s)) (fun _ _=>False)
def LOk (l:List Sp):Prop:=∀ (d:Nat) (st:St) (o:Nat) (u:Bool) (L:List UInt8) (oo:Option Nat),GSt st→WOk st o L oo→L.length + (prL d l).length≤wMax →
 ACalls Tryz.prog 31 [.cptr o 2 0 0,.view 13 (spRows l) .shared,.int .i64 (d:Int)] (wS st o u L oo) (WrP st o (L++prL d l)) (fun _ _=>False)
theorem lnT_len (d:Nat) (l:Names):(lnT d l).length=d + l.flatten.length + 1:=by simp [lnT]; omega
theorem hdT_len (d:Nat) (w:List UInt8) (ar:List Xp):(hdT d w ar).length=d + w.length + (xsT ar).length + 3:=by simp [hdT]; omega
theorem GSt.le {st st':St} (h:GSt st) (hle:StLe st' st):GSt st':=⟨by rw [← hle.glob]; exact h.tab,by rw [← h.ops]; unfold St.row; rw [← hle.glob]⟩
set_option maxHeartbeats 4000000 in
theorem statement_step {k l:Nat} {nm ty fn:List UInt8} {len:Nat} {tg ar:List Xp} {bd el:List Sp} (hw:WSp (.mk k l nm ty len tg fn ar bd el)) (hbd:LOk bd) (hel:LOk el):SOk (.mk k l nm ty len tg fn ar bd el):=by
 intro d st o u L oo hg h hb;rw [WSp] at hw;obtain ⟨w1,w2,w3,w4,w5,_,_,_,w9⟩:=hw;rw [prS] at hb ⊢;rw [spRow];refine ACalls.ofBody Tryz.func60 rfl Tryz.ntmps60 rfl ?_;have hML:wMax < 9223372036854775807:=by decide
 have hlE:L.length≤wMax:=by omega
 by_cases k4:k=4
 ·have k4':(k:Int)=4:=by omega
  rw [if_pos k4] at hb ⊢;simp only [List.length_append,lnT_len,hdT_len,List.length_cons,List.length_nil] at hb;refine goD ?_;refine cl rfl rfl (head_ok w2 w4 .shared d [105,102,32] hg h (by rw [hdT_len]; simp only [List.length_cons,List.length_nil]; omega)) fun v st' ⟨u2,oo2,h2,hst⟩=>?_;subst hst;refine goD ?_;refine cl rfl rfl (hbd (d + 1) _ _ _ _ _ hg h2 (by simp only [List.length_append,hdT_len,List.length_cons,List.length_nil]; omega)) fun v st' ⟨u3,oo3,h3,hst⟩=>?_;subst hst;have hnl:=spRows_len el;cases el with
  | nil =>
   rw [spRows];refine goD ?_;refine cl rfl rfl (line_ok h3 d [[125]] _ (by exact Nat.le_of_ble_eq_true rfl) (by rw [lnT_len]; simp only [fl1,List.length_append,hdT_len,List.length_cons,List.length_nil]; simp at hb; omega)) fun v st' ⟨u4,oo4,h4,hst⟩=>?_;subst hst;have e:L++hdT d [105,102,32] ar++prL (d + 1) bd++lnT d [[125]]=L++(hdT d [105,102,32] ar++prL (d + 1) bd++[]++lnT d [[125]]):=by simp
   rw [e] at h4 ⊢;refine goD ?_;exact rets rfl (.refl _) (.refl _) ⟨u4,oo4,h4,rfl⟩
  | cons e0 er =>
   have k0:(((spRows (e0::er)).length:Nat):Int) > 0:=by rw [hnl,List.length_cons]; omega
   simp only [List.isEmpty_cons,Bool.false_eq_true,if_false,List.length_append,lnT_len,List.flatten_cons,List.flatten_nil,List.length_cons,List.length_nil] at hb;refine goD ?_;refine cl rfl rfl (line_ok h3 d [[125,32,101,108,115,101,32,123]] _ (by exact Nat.le_of_ble_eq_true rfl) (by rw [lnT_len]; simp only [fl1,List.length_append,hdT_len,List.length_cons,List.length_nil]; omega)) fun v st' ⟨u4,oo4,h4,hst⟩=>?_;subst hst;refine goD ?_;refine cl rfl rfl (hel (d + 1) _ _ _ _ _ hg h4 (by simp only [List.length_append,hdT_len,lnT_len,fl1,List.length_cons,List.length_nil]; omega)) fun v st' ⟨u5,oo5,h5,hst⟩=>?_;subst hst;refine goD ?_;refine cl rfl rfl (line_ok h5 d [[125]] _ (by exact Nat.le_of_ble_eq_true rfl) (by rw [lnT_len]; simp only [fl1,List.length_append,hdT_len,lnT_len,List.length_cons,List.length_nil]; omega)) fun v st' ⟨u6,oo6,h6,hst⟩=>?_;subst hst;have e:L++hdT d [105,102,32] ar++prL (d + 1) bd++lnT d [[125,32,101,108,115,101,32,123]]++prL (d + 1) (e0::er)++lnT d [[125]] =
     L++(hdT d [105,102,32] ar++prL (d + 1) bd++(if (e0::er).isEmpty then [] else lnT d [[125,32,101,108,115,101,32,123]]++prL (d + 1) (e0::er))++lnT d [[125]]):=by simp
   rw [e] at h6 ⊢;refine goD ?_;exact rets rfl (.refl _) (.refl _) ⟨u6,oo6,h6,rfl⟩
 have k4':¬ (k:Int)=4:=by omega
 rw [if_neg k4] at hb ⊢;by_cases k5:k=5
 ·have k5':(k:Int)=5:=by omega
  rw [if_pos k5] at hb ⊢;simp only [List.length_append,lnT_len,hdT_len,fl1,List.length_cons,List.length_nil] at hb;refine goD ?_;refine cl rfl rfl (head_ok w2 w4 .shared d [119,104,105,108,101,32] hg h (by rw [hdT_len]; simp only [List.length_cons,List.length_nil]; omega)) fun v st' ⟨u2,oo2,h2,hst⟩=>?_;subst hst;refine goD ?_;refine cl rfl rfl (hbd (d + 1) _ _ _ _ _ hg h2 (by simp only [List.length_append,hdT_len,List.length_cons,List.length_nil]; omega)) fun v st' ⟨u3,oo3,h3,hst⟩=>?_;subst hst;refine goD ?_;refine cl rfl rfl (line_ok h3 d [[125]] _ (by exact Nat.le_of_ble_eq_true rfl) (by rw [lnT_len]; simp only [fl1,List.length_append,hdT_len,List.length_cons,List.length_nil]; omega)) fun v st' ⟨u4,oo4,h4,hst⟩=>?_;subst hst;have e:L++hdT d [119,104,105,108,101,32] ar++prL (d + 1) bd++lnT d [[125]]=L++(hdT d [119,104,105,108,101,32] ar++prL (d + 1) bd++lnT d [[125]]):=by simp
  rw [e] at h4 ⊢;refine goD ?_;exact rets rfl (.refl _) (.refl _) ⟨u4,oo4,h4,rfl⟩
 have k5':¬ (k:Int)=5:=by omega
 rw [if_neg k5] at hb ⊢;by_cases k8:k=8
 ·have k8':(k:Int)=8:=by omega
  rw [if_pos k8] at hb ⊢;simp only [List.length_append,lnT_len,List.flatten_cons,List.flatten_nil,List.length_cons,List.length_nil] at hb;refine goD ?_;refine cl rfl rfl (line_ok h d [[116,114,121,32,123]] _ (by exact Nat.le_of_ble_eq_true rfl) (by rw [lnT_len]; simp only [fl1,List.length_cons,List.length_nil]; omega)) fun v st' ⟨u2,oo2,h2,hst⟩=>?_;subst hst;refine goD ?_;refine cl rfl rfl (hbd (d + 1) _ _ _ _ _ hg h2 (by simp only [List.length_append,lnT_len,fl1,List.length_cons,List.length_nil]; omega)) fun v st' ⟨u3,oo3,h3,hst⟩=>?_;subst hst;refine goD ?_;refine bsh (cs:=[.str [125,32,99,97,116,99,104,32],.str nm,.str [32,123]]) rfl rfl rfl rfl rfl ?_;refine cl rfl rfl (line_ok h3 d [[125,32,99,97,116,99,104,32],nm,[32,123]] _ (by exact Nat.le_of_ble_eq_true rfl) (by rw [lnT_len]; simp only [List.flatten_cons,List.flatten_nil,lnT_len,List.length_append,List.length_cons,List.length_nil]; omega)) fun v st' ⟨u4,oo4,h4,hst⟩=>?_;subst hst;refine goD ?_;refine cl rfl rfl (hel (d + 1) _ _ _ _ _ hg h4 (by simp only [List.length_append,lnT_len,List.flatten_cons,List.flatten_nil,List.length_cons,List.length_nil]; omega)) fun v st' ⟨u5,oo5,h5,hst⟩=>?_;subst hst;refine goD ?_;refine cl rfl rfl (line_ok h5 d [[125]] _ (by exact Nat.le_of_ble_eq_true rfl) (by rw [lnT_len]; simp only [List.flatten_cons,List.flatten_nil,lnT_len,List.length_append,List.length_cons,List.length_nil]; omega)) fun v st' ⟨u6,oo6,h6,hst⟩=>?_;subst hst;rw [show ∀ a b c d e:List UInt8,L++a++b++c++d++e=L++(a++b++c++d++e) from fun a b c d e=>by simp] at h6 ⊢;refine goD ?_;exact rets rfl (.refl _) (.refl _) ⟨u6,oo6,h6,rfl⟩
 have k8':¬ (k:Int)=8:=by omega
 rw [if_neg k8] at hb ⊢;by_cases k1:k=1
 ·have k1':(k:Int)=1:=by omega
  rw [if_pos k1] at hb ⊢;refine goD ?_;refine AWP.any rfl ?_;apply AAny.segQ (k':=7) (hok:=by decide +kernel);repeat (first|apply dsY (hi:=rfl) (hs:=rfl)|apply dqY (hi:=rfl) (hd:=rfl) (hw:=rfl) (h:=fun _ _=>ZD (z:=nz))|apply dqY (hi:=rfl) (hd:=rfl) (hw:=rfl) (h:=fun _ _=>ZF (z:=nz))|apply dqY (hi:=rfl) (hd:=rfl) (hw:=rfl) (h:=fun _ _=>ZC (z:=nz)))
  apply dqY (hi:=rfl) (hd:=rfl) (hw:=rfl) (h:=fun st' hle=>cle rfl rfl (typeText_ok w5 st' (hg.w.le hle)) nz);apply dqY (hi:=rfl) (hd:=rfl) (hw:=rfl) (h:=fun _ _=>bsh (cs:=[.str [118,97,114,32],.str nm,.str [58,32],.str (tyT ty len),.str [59]]) rfl rfl rfl rfl rfl nz);refine dnQ ?_;refine AAny.one rfl rfl rfl rfl ?_;refine cl rfl rfl (line_ok h d [[118,97,114,32],nm,[58,32],tyT ty len,[59]] _ (by exact Nat.le_of_ble_eq_true rfl) hb) fun v st' ⟨u3,oo3,h3,hst⟩=>nl ⟨_,rfl,?_⟩;subst hst;refine AAny.text rfl ?_;refine nl ?_;exact rets rfl (.refl _) (.refl _) ⟨u3,oo3,h3,rfl⟩
 have k1':¬ (k:Int)=1:=by omega
 rw [if_neg k1] at hb ⊢;by_cases ks:k=2∨k=3∨k=6∨k=7∨k=9
 ·rw [if_pos ks] at hb ⊢;simp only [List.length_append,List.length_replicate,List.length_cons,List.length_nil] at hb;have hs:=fun (u2:Bool) (L2:List UInt8) (oo2:Option Nat) (h2:WOk st o L2 oo2) (hl2:L2.length + (smT k tg fn ar).length≤wMax)=>simpleP_ok (k:=k) (l:=l) (nm:=nm) (ty:=ty) (fn:=fn) (len:=len) (bd:=.view 13 (spRows bd) .shared) (el:=.view 13 (spRows el) .shared) w1 w2 w3 w4 hg (u:=u2) h2 hl2;rcases ks with rfl|rfl|rfl|rfl|rfl <;>
  ·refine goD ?_;refine cl rfl rfl (tabs_ok h d (by omega)) fun v st' ⟨u2,oo2,h2,hst⟩=>?_;subst hst;refine goD ?_;refine cl rfl rfl (hs u2 _ oo2 h2 (by simp only [List.length_append,List.length_replicate]; omega)) fun v st' ⟨u3,oo3,h3,hst⟩=>?_;subst hst;refine goD ?_;refine cl rfl rfl (texts_ok h3 [[59,10]] _ (by exact Nat.le_of_ble_eq_true rfl) (by rw [fl1]; simp only [List.length_append,List.length_replicate,List.length_cons,List.length_nil]; omega)) fun v st' ⟨u4,oo4,h4,hst⟩=>?_;subst hst;rw [fl1,show ∀ a b c:List UInt8,L++a++b++c=L++(a++b++c) from fun a b c=>by simp] at h4 ⊢;refine goD ?_;exact rets rfl (.refl _) (.refl _) ⟨u4,oo4,h4,rfl⟩
 ·rw [if_neg ks] at hb ⊢;rw [List.append_nil];have k2':¬ (k:Int)=2:=by omega
  have k3':¬ (k:Int)=3:=by omega
  have k6':¬ (k:Int)=6:=by omega
  have k7':¬ (k:Int)=7:=by omega
  have k9':¬ (k:Int)=9:=by omega
  refine goD ?_;exact rets rfl (.refl _) (.refl _) ⟨u,oo,h,rfl⟩
theorem prL_le (d:Nat) (l:List Sp) (i:Nat):(prL d (l.take i)).length≤(prL d l).length:=by
 have h:prL d l=prL d (l.take i)++prL d (l.drop i):=by rw [← prL_append,List.take_append_drop]
 rw [h,List.length_append];omega
theorem spRow_ex (s:Sp):∃ (k l:Int) (nm ty fn:List UInt8) (len:Int) (a b c d:List (List AV)),spRow s=sRow k l nm ty len (.view 6 a .shared) fn (.view 6 b .shared) (.view 13 c .shared) (.view 13 d .shared):=by
 cases s;rw [spRow];exact ⟨_,_,_,_,_,_,_,_,_,_,rfl⟩
theorem spRows_get:∀ (l:List Sp) (i:Nat) (s:Sp),l[i]?=some s→(spRows l)[i]?=some (spRow s)
 | [],i,s,h=>by simp at h
 | a::l,0,s,h=>by rw [spRows]; cases h; rfl
 | a::l,i + 1,s,h=>by rw [spRows,List.getElem?_cons_succ]; exact spRows_get l i s (by simpa using h)
set_option maxHeartbeats 1000000 in
theorem list_of {l:List Sp} (hx:∀ s ∈ l,SOk s) (hl:l.length≤100000):LOk l:=by
 intro d st o u L oo hg h hb;refine ACalls.ofBody Tryz.func31 rfl Tryz.ntmps31 rfl ?_;refine goD ?_;refine AWP.loop (α:=Nat × Bool × Option Nat) (fun y=>[(10,.int .i64 (y.1:Int)),(9,.int .i64 ((spRows l).length:Int)),(8,.view 13 (spRows l) .shared),(2,.int .i64 (d:Int)),(0,.cptr o 2 0 0)]) (fun y=>wS st o y.2.1 (L++prL d (l.take y.1)) y.2.2) (fun y=>y.1≤l.length∧WOk st o (L++prL d (l.take y.1)) y.2.2) (fun y=>l.length - y.1) (0,u,oo)
  ⟨Nat.zero_le _,by rw [List.take_zero,prL,List.append_nil]; exact h⟩ (tl5 rfl rfl rfl rfl rfl) (by simp only [List.take_zero,prL,List.append_nil]; exact .refl _) ?_
 clear h oo u;rintro ⟨i,u,oo⟩ ⟨hi,h⟩;simp only at hi h;refine AWP.weaken (T':=[(10,.int .i64 (i:Int)),(9,.int .i64 ((spRows l).length:Int)),(8,.view 13 (spRows l) .shared),(2,.int .i64 (d:Int)),(0,.cptr o 2 0 0)]) (st':=wS st o u (L++prL d (l.take i)) oo) (tl5 rfl rfl rfl rfl rfl) (.refl _) ?_;have hnl:=spRows_len l;by_cases hlt:i < l.length
 ·obtain ⟨s,hs⟩:∃ s,l[i]?=some s:=⟨_,List.getElem?_eq_getElem hlt⟩;have hsi:=hx s (List.mem_of_getElem? hs);obtain ⟨k,ln,nm,ty,fn,len,a1,a2,a3,a4,hsr⟩:=spRow_ex s;unfold SOk at hsi;rw [hsr] at hsi;have hr:(spRows l)[i]?=some (sRow k ln nm ty len (.view 6 a1 .shared) fn (.view 6 a2 .shared) (.view 13 a3 .shared) (.view 13 a4 .shared)):=by rw [spRows_get l i s hs,hsr]
  have hir:i < (spRows l).length:=by omega
  have hft:prL d (l.take (i + 1))=prL d (l.take i)++prS d s:=by
   rw [List.take_add_one,hs,prL_append];show _++prL d [s]=_;rw [prL,prL,List.append_nil]
  have hle:=prL_le d l (i + 1);rw [hft,List.length_append] at hle;refine goD ?_;refine cl rfl rfl (hsi d st o u _ oo hg h (by rw [List.length_append]; omega)) fun v st' ⟨u2,oo2,q2,hst⟩=>?_;subst hst;rw [List.append_assoc,← hft] at q2 ⊢;refine goD ?_;exact ⟨(i + 1,u2,oo2),⟨by simp only; omega,q2⟩,by simp only; omega,(tl5 rfl rfl rfl rfl rfl),.refl _⟩
 ·have hil:i=l.length:=by omega
  subst hil;rw [List.take_length] at h ⊢;refine goD ?_;refine AWP.exit (blk_hit ?_);exact rets rfl (.refl _) (.refl _) ⟨u,oo,h,rfl⟩
mutual
theorem statement_ok:∀ s:Sp,WSp s→SOk s
 | .mk k l nm ty len tg fn ar bd el,hw=>by
  have hw':=hw;rw [WSp] at hw';obtain ⟨_,_,_,_,_,w6,w7,w8,w9⟩:=hw';exact statement_step hw (list_of (statements_ok bd w6) w8) (list_of (statements_ok el w7) w9)
theorem statements_ok:∀ l:List Sp,WSps l→∀ s ∈ l,SOk s
 | [],_,s,h=>by cases h
 | a::r,hw,s,h=>by
  rw [WSps] at hw;rcases List.mem_cons.1 h with h|h
  ·rw [h]; exact statement_ok a hw.1
  ·exact statements_ok r hw.2 s h
end
theorem wlist_ok {l:List Sp} (hw:WSps l) (hl:l.length≤100000):LOk l:=list_of (statements_ok l hw) hl
end Go.Proofs
namespace Go.Proofs
open Go.AM
attribute [local irreducible] AWP AOps AAny
theorem ACalls.leP {P:Program} {f:FuncId} {args:List AV} {st:St} {Rt Rt' RP:AV→St→Prop} (h:ACalls P f args st Rt RP) (h1:∀ v st',Rt v st'→∃ v2 st2,Le v v2∧StLe st' st2∧Rt' v2 st2):ACalls P f args st Rt' RP :=
 fun g w rargs hs hl ha=>(h g w rargs hs hl ha).mono fun e w' ⟨g',st',he,hs',hq⟩=>by
  cases e with
  | returned rv =>
   obtain ⟨v,x1,x2⟩:=hq;obtain ⟨v2,st2,y1,y2,y3⟩:=h1 _ _ x2;exact ⟨g',st2,he,hs'.le y2,v2,x1.le y1,y3⟩
  | panicked ch=>exact ⟨g',st',he,hs',hq⟩
  | outgrown=>exact hq.elim
attribute [local irreducible] ACalls
theorem pblock_sh {ts:List Tk} {K:Nat} (hB:BlkOk ts K) {k d a o:Nat} {st:St} (hk0:k≤K) (hd9:d≤9) (ha:a < ts.length) (hk:3 * (ts.length - a) < k + 1) (ho:st.obj o=some (prC (ts.map tokRow) a)) (hg:st.row 3=some sgnRow) :
  ACalls Tryz.prog 46 [.cptr o 2 0 0,.int .i64 (d:Int)] st (PaR ts o st (fun l=>.view 13 (spRows l) .shared) (fblk k d (ts.drop a))) (PaP ts o st (fblk k d (ts.drop a))) :=
 ACalls.leP (hB k hk0 d a o st hd9 ha hk ho hg) fun v st' ⟨l,k',tk,h1,h2,h3,h4,h5,h6⟩=>⟨_,st.set o (prC (ts.map tokRow) k'),by rw [h1]; exact .shared _ _ _,by rw [h4]; exact StLe.addTok _ (.refl _),l,k',rfl,h2,rfl,h6⟩
theorem sRow_le {k l len:Int} {nm ty fn:List UInt8} {a b c d a' b' c' d':AV} (ha:Le a a') (hb:Le b b') (hc:Le c c') (hd:Le d d') (oa:a'.one=true) (ob:b'.one=true) (oc:c'.one=true) (od:d'.one=true) :
  Le (.agg (sRow k l nm ty len a fn b c d)) (.agg (sRow k l nm ty len a' fn b' c' d')):=by
 refine .agg _ _ rfl (fun x hx=>by simp only [sRow,List.mem_cons,List.not_mem_nil,or_false] at hx; rcases hx with rfl|rfl|rfl|rfl|rfl|rfl|rfl|rfl|rfl|rfl|rfl|rfl|rfl <;> first|rfl|assumption) fun i x y h1 h2=>?_
 match i,h1,h2 with
 | 0,h1,h2=>cases h1; cases h2; exact .refl _
 | 1,h1,h2=>cases h1; cases h2; exact .refl _
 | 2,h1,h2=>cases h1; cases h2; exact .refl _
 | 3,h1,h2=>cases h1; cases h2; exact .refl _
 | 4,h1,h2=>cases h1; cases h2; exact .refl _
 | 5,h1,h2=>cases h1; cases h2; exact .refl _
 | 6,h1,h2=>cases h1; cases h2; exact .refl _
 | 7,h1,h2=>cases h1; cases h2; exact ha
 | 8,h1,h2=>cases h1; cases h2; exact .refl _
 | 9,h1,h2=>cases h1; cases h2; exact .refl _
 | 10,h1,h2=>cases h1; cases h2; exact hb
 | 11,h1,h2=>cases h1; cases h2; exact hc
 | 12,h1,h2=>cases h1; cases h2; exact hd
 | n + 13,h1,_=>cases h1
theorem panS {ts:List Tk} {α β:Type} {o o2 o3:Nat} {st:St} (h2:∀ r,(st.set o r).obj o2=none) (h3:∀ r z,((st.set o r).set o2 z).obj o3=none) {b z w:AObj} {r:QR α} {R:QR β} {pv:AV} {st':St}
  (hp:PsP ts o o3 (((st.set o b).set o2 z).set o3 w) r pv st') (hr:∀ e,r=.error e→R=.error e):∃ st1,StLe st' st1∧PaP ts o st R pv st1:=by
 obtain ⟨e,k,c,q1,q2,rfl,q4⟩:=hp;rw [push2 h2 h3,St.set_set];exact ⟨_,drop2 h2 h3 _ _ _,e,k,q1,q2,rfl,hr _ q4⟩
theorem panA {ts:List Tk} {α β:Type} {o o2 o3:Nat} {st:St} (h2:∀ r,(st.set o r).obj o2=none) (h3:∀ r z,((st.set o r).set o2 z).obj o3=none) {b z w:AObj} {r:QR α} {R:QR β} {pv:AV} {st':St}
  (hp:PaP ts o (((st.set o b).set o2 z).set o3 w) r pv st') (hr:∀ e,r=.error e→R=.error e):∃ st1,StLe st' st1∧PaP ts o st R pv st1:=by
 obtain ⟨e,k,q1,q2,rfl,q4⟩:=hp;rw [push2 h2 h3];exact ⟨_,drop2 h2 h3 _ _ _,e,k,q1,q2,rfl,hr _ q4⟩

theorem blk_le {ts:List Tk} {k d a b:Nat} {l:List Sp} (ha:a < ts.length) (h:fblk k d (ts.drop a)=.ok (l,ts.drop b)):a≤b:=by
 have h1:=(fstm_all k).2.1 d (ts.drop a) l _ h;rw [List.length_drop,List.length_drop] at h1;omega
set_option maxHeartbeats 4000000 in
theorem pstm_step {ts:List Tk} (H:RdH ts) {K:Nat} (hB:BlkOk ts K):StmOk ts (K + 1):=by
 intro k0 hk0 d a o st hd9 ha hk ho hg;obtain ⟨k,rfl⟩:∃ k,k0=k + 1:=⟨k0 - 1,by omega⟩;have hkK:k≤K:=by omega
 refine ACalls.inSet ho (ACalls.ofBody Tryz.func80 rfl Tryz.ntmps80 rfl ?_);have hl:=H.len;refine goC ?_;refine rg ?_;refine al rfl rfl fun o2 h2=>?_
 replace h2:=none_set h2
 refine goD ?_;obtain ⟨t,t1,t3,t5,t6,_,_,pt⟩:=pneed_of H (obj1 h2 (.cells 41 13 [sRow 0 0 [] [] 0 nilV [] nilV nilV nilV]) _) ha;refine cle rfl rfl pt ?_;refine goD ?_;refine cle rfl rfl (pbegS_ok t _) ?_;have e0:fstm (k + 1) d (ts.drop a)=fstm (k + 1) d (ts.drop a):=rfl
 conv at e0=>rhs; rw [fstm,t3,t5]
 by_cases hb:begS t=true
 rotate_left
 ·rw [if_neg hb] at e0;rw [Bool.not_eq_true] at hb;rw [hb];refine goD ?_;exact clq rfl rfl (pfail_P H (obj1 h2 _ _) ha 7 e0) (fun v st' ⟨e,k,q1,q2,q3,q4⟩=>⟨_,by rw [q3,push1 h2]; exact drop1 h2 _ _,e,k,q1,q2,rfl,q4⟩) fun v st' h=>h.elim
 rw [if_pos hb] at e0;rw [hb];by_cases h8:8 < d
 ·rw [if_pos h8] at e0;refine goD ?_;exact clq rfl rfl (pfail_P H (obj1 h2 _ _) ha 5 e0) (fun v st' ⟨e,k,q1,q2,q3,q4⟩=>⟨_,by rw [q3,push1 h2]; exact drop1 h2 _ _,e,k,q1,q2,rfl,q4⟩) fun v st' h=>h.elim
 rw [if_neg h8] at e0;refine goD ?_;refine bds (cs:=sRow 0 t.line [] [] 0 nilV [] nilV nilV nilV) rfl rfl rfl rfl ?_;refine al rfl rfl fun o3 h3=>?_
 replace h3:=none_set2 h3
 refine soV rfl rfl rfl rfl rfl rfl ?_;refine nl ?_;refine AWP.weaken (T':=[(6,.cptr o3 13 0 0),(5,.eptr 4 [tokRow t] 0 0),(4,.cptr o2 13 0 0),(1,.int .i64 (d:Int)),(0,.cptr o 2 0 0)]) (st':=((st.set o (prC (ts.map tokRow) a)).set o2 (sC (sRow 0 0 [] [] 0 nilV [] nilV nilV nilV))).set o3 (sC (sRow 0 t.line [] [] 0 nilV [] nilV nilV nilV))) (tl5 rfl rfl rfl rfl rfl) (.refl _) ?_;refine AWP.seq ?_;refine AWP.cutK (α:=Sp × Nat × List AV) (fun _=>[(6,.cptr o3 13 0 0),(4,.cptr o2 13 0 0)]) (fun y=>((st.set o (prC (ts.map tokRow) y.2.1)).set o2 (sC (sRow 0 0 [] [] 0 nilV [] nilV nilV nilV))).set o3 (sC y.2.2))
  (fun y=>y.2.1 < ts.length∧Le (.agg y.2.2) (spv y.1)∧(∃ p1 p2 p3 p4 p5 p6 p7 p8 p9 p10,y.2.2=sRow p1 p2 p3 p4 p5 p6 p7 p8 p9 p10)∧fstm (k + 1) d (ts.drop a)=.ok (y.1,ts.drop y.2.1)) ?_ ?_
 rotate_left
 ·rintro ⟨s,c,row⟩ ⟨hc,hle,hrl,hR⟩;simp only at hc hle hrl hR;obtain ⟨p1,p2,p3,p4,p5,p6,p7,p8,p9,p10,rfl⟩:=hrl;show AWP _ _ _ _ _ _ (((st.set o (prC (ts.map tokRow) c)).set o2 (.cells 41 13 [sRow 0 0 [] [] 0 nilV [] nilV nilV nilV])).set o3 (.cells 41 13 [sRow p1 p2 p3 p4 p5 p6 p7 p8 p9 p10]));refine goD ?_;refine soU rfl (Ne.symm (set_ne_new (h3 ob0 ob0))) rfl rfl rfl rfl rfl ?_;refine goD ?_;exact AWP.ret (rets (resCW rfl (St.obj_under (Ne.symm (set_ne_new (h3 ob0 ob0))) _ _) rfl rfl rfl rfl) hle (drop2 h2 h3 _ _ _) ⟨s,c,rfl,hc,rfl,hR⟩)
 have n3:o3≠o:=Ne.symm (ne_inner (h3 ob0 ob0));obtain ⟨t',t1',_,_,_,ps,pw,_⟩:=pneed_of H (obj2 h2 h3 (sC (sRow 0 0 [] [] 0 nilV [] nilV nilV nilV)) (sC (sRow 0 t.line [] [] 0 nilV [] nilV nilV nilV)) (prC (ts.map tokRow) a)) ha;rw [t1] at t1';cases t1';refine goD ?_;refine cl rfl rfl (pw wVar) fun v st' ⟨hv,hst⟩=>?_;subst hv;subst hst;by_cases c1:kw t wVar=true
 ·rw [if_pos c1] at e0;rw [if_pos c1,c1,push2 h2 h3];have hb1:=t6 (kw_kind c1);refine goD ?_;refine clq rfl rfl (pdecl_ok H (line:=t.line) n3 (obj2 h2 h3 _ _ _) (St.obj_set _ _ _) hb1) (fun v st' hp=>panS h2 h3 hp fun e he=>by rw [e0,qb_err he]) fun v st' hR=>?_;obtain ⟨x,b9,hb9,hst,hr⟩:=hR;subst hst;rw [push2 h2 h3,St.set_set];refine nl ⟨(.mk 1 t.line x.1 x.2.1 x.2.2 [] [] [] [] [],b9,_),⟨hb9,?_,⟨_,_,_,_,_,_,_,_,_,_,rfl⟩,by rw [e0,qb_ok hr]⟩,(tl2 rfl rfl),.refl _⟩;rw [spv,spRow];exact sRow_le (.nilShared _ _) (.nilShared _ _) (.nilShared _ _) (.nilShared _ _) rfl rfl rfl rfl
 rw [if_neg c1] at e0;rw [if_neg c1];rw [Bool.not_eq_true] at c1;rw [c1];refine goD ?_;refine cl rfl rfl (pw wIf) fun v st' ⟨hv,hst⟩=>?_;subst hv;subst hst;by_cases c2:kw t wIf=true
 ·rw [if_pos c2] at e0;rw [if_pos c2,c2,push2 h2 h3];have hb1:=t6 (kw_kind c2);refine goD ?_;refine so1 (row':=sRow 4 t.line [] [] 0 nilV [] nilV nilV nilV) rfl rfl rfl rfl rfl (by exact Nat.le_of_ble_eq_true rfl) rfl ?_;refine goD ?_;refine clq rfl rfl (pexpr_ok H (obj2 h2 h3 _ _ _) hb1 hg) (fun v st' hp=>panA h2 h3 hp fun e he=>by rw [e0,qb_err he]) fun v st' hR=>?_;obtain ⟨x,b3,hv,hb3,hst,hr⟩:=hR;subst hv;subst hst;rw [push2 h2 h3];rw [qb_ok hr] at e0;have l_b3:=drop_lt hb1 (qx_lt hr);clear hr;obtain ⟨op,num,name,field,args,hx⟩:=xrow_ex x;have hx1:xrows [x]=[exRow op num name field (.view 6 args .shared)]:=by show [xrow x]=_; rw [hx] <;> rfl
  rw [xv,hx];refine bsh (cs:=exRow op num name field (.view 6 args .shared)) rfl rfl rfl rfl rfl ?_;refine goD ?_;refine so1 (row':=sRow 4 t.line [] [] 0 nilV [] (.view 6 [exRow op num name field (.view 6 args .shared)] .shared) nilV nilV) rfl rfl rfl rfl rfl (by exact Nat.le_of_ble_eq_true rfl) rfl ?_;refine goD ?_;refine clq rfl rfl (pblock_sh hB hkK (by omega:d + 1≤9) hb3 (by omega) (obj2 h2 h3 _ _ _) hg) (fun v st' hp=>panA h2 h3 hp fun e he=>by rw [e0,qb_err he]) fun v st' hR=>?_;obtain ⟨bd,b4,hv,hb4,hst,hr⟩:=hR;subst hv;subst hst;rw [push2 h2 h3];rw [qb_ok hr] at e0;have l_b4:=blk_le hb3 hr;clear hr;refine goD ?_;refine so1 (row':=sRow 4 t.line [] [] 0 nilV [] (.view 6 [exRow op num name field (.view 6 args .shared)] .shared) (.view 13 (spRows bd) .shared) nilV) rfl rfl rfl rfl rfl (by exact Nat.le_of_ble_eq_true rfl) rfl ?_;refine goD ?_;obtain ⟨u,u1,u3,u5,u6,us,uw,_⟩:=pneed_of H (obj2 h2 h3 (sC (sRow 0 0 [] [] 0 nilV [] nilV nilV nilV)) (sC (sRow 4 t.line [] [] 0 nilV [] (.view 6 [exRow op num name field (.view 6 args .shared)] .shared) (.view 13 (spRows bd) .shared) nilV)) (prC (ts.map tokRow) b4)) hb4;rw [u3,u5] at e0;refine cl rfl rfl (uw wElse) fun v st' ⟨hv,hst⟩=>?_;subst hv;subst hst;by_cases c9:kw u wElse=true
  ·rw [if_pos c9] at e0;rw [if_pos c9,c9,push2 h2 h3];have hb5:=u6 (kw_kind c9);refine goD ?_;refine clq rfl rfl (pblock_sh hB hkK (by omega:d + 1≤9) hb5 (by omega) (obj2 h2 h3 _ _ _) hg) (fun v st' hp=>panA h2 h3 hp fun e he=>by rw [e0,qb_err he]) fun v st' hR=>?_;obtain ⟨el,b6,hv,hb6,hst,hr⟩:=hR;subst hv;subst hst;rw [push2 h2 h3];rw [qb_ok hr] at e0;have l_b6:=blk_le hb5 hr;clear hr;refine goD ?_;refine so1 (row':=sRow 4 t.line [] [] 0 nilV [] (.view 6 [exRow op num name field (.view 6 args .shared)] .shared) (.view 13 (spRows bd) .shared) (.view 13 (spRows el) .shared)) rfl rfl rfl rfl rfl (by exact Nat.le_of_ble_eq_true rfl) rfl ?_;refine goD ?_;refine ⟨(.mk 4 t.line [] [] 0 [] [] [x] bd el,b6,_),⟨hb6,?_,⟨_,_,_,_,_,_,_,_,_,_,rfl⟩,e0⟩,(tl2 rfl rfl),.refl _⟩;rw [spv,spRow];exact sRow_le (.nilShared _ _) (by rw [hx1]; exact .refl _) (.refl _) (.refl _) rfl rfl rfl rfl
  ·rw [if_neg c9] at e0;rw [if_neg c9];rw [Bool.not_eq_true] at c9;rw [c9];refine goD ?_;refine ⟨(.mk 4 t.line [] [] 0 [] [] [x] bd [],b4,_),⟨hb4,?_,⟨_,_,_,_,_,_,_,_,_,_,rfl⟩,e0⟩,(tl2 rfl rfl),.refl _⟩;rw [spv,spRow];exact sRow_le (.nilShared _ _) (by rw [hx1]; exact .refl _) (.refl _) (.nilShared _ _) rfl rfl rfl rfl
 rw [if_neg c2] at e0;rw [if_neg c2];rw [Bool.not_eq_true] at c2;rw [c2];refine goD ?_;refine cl rfl rfl (pw wWhile) fun v st' ⟨hv,hst⟩=>?_;subst hv;subst hst;by_cases c3:kw t wWhile=true
 ·rw [if_pos c3] at e0;rw [if_pos c3,c3,push2 h2 h3];have hb1:=t6 (kw_kind c3);refine goD ?_;refine so1 (row':=sRow 5 t.line [] [] 0 nilV [] nilV nilV nilV) rfl rfl rfl rfl rfl (by exact Nat.le_of_ble_eq_true rfl) rfl ?_;refine goD ?_;refine clq rfl rfl (pexpr_ok H (obj2 h2 h3 _ _ _) hb1 hg) (fun v st' hp=>panA h2 h3 hp fun e he=>by rw [e0,qb_err he]) fun v st' hR=>?_;obtain ⟨x,b3,hv,hb3,hst,hr⟩:=hR;subst hv;subst hst;rw [push2 h2 h3];rw [qb_ok hr] at e0;have l_b3:=drop_lt hb1 (qx_lt hr);clear hr;obtain ⟨op,num,name,field,args,hx⟩:=xrow_ex x;have hx1:xrows [x]=[exRow op num name field (.view 6 args .shared)]:=by show [xrow x]=_; rw [hx] <;> rfl
  rw [xv,hx];refine bsh (cs:=exRow op num name field (.view 6 args .shared)) rfl rfl rfl rfl rfl ?_;refine goD ?_;refine so1 (row':=sRow 5 t.line [] [] 0 nilV [] (.view 6 [exRow op num name field (.view 6 args .shared)] .shared) nilV nilV) rfl rfl rfl rfl rfl (by exact Nat.le_of_ble_eq_true rfl) rfl ?_;refine goD ?_;refine clq rfl rfl (pblock_sh hB hkK (by omega:d + 1≤9) hb3 (by omega) (obj2 h2 h3 _ _ _) hg) (fun v st' hp=>panA h2 h3 hp fun e he=>by rw [e0,qb_err he]) fun v st' hR=>?_;obtain ⟨bd,b4,hv,hb4,hst,hr⟩:=hR;subst hv;subst hst;rw [push2 h2 h3];rw [qb_ok hr] at e0;have l_b4:=blk_le hb3 hr;clear hr;refine goD ?_;refine so1 (row':=sRow 5 t.line [] [] 0 nilV [] (.view 6 [exRow op num name field (.view 6 args .shared)] .shared) (.view 13 (spRows bd) .shared) nilV) rfl rfl rfl rfl rfl (by exact Nat.le_of_ble_eq_true rfl) rfl ?_;refine goD ?_;refine ⟨(.mk 5 t.line [] [] 0 [] [] [x] bd [],b4,_),⟨hb4,?_,⟨_,_,_,_,_,_,_,_,_,_,rfl⟩,e0⟩,(tl2 rfl rfl),.refl _⟩;rw [spv,spRow];exact sRow_le (.nilShared _ _) (by rw [hx1]; exact .refl _) (.refl _) (.nilShared _ _) rfl rfl rfl rfl
 rw [if_neg c3] at e0;rw [if_neg c3];rw [Bool.not_eq_true] at c3;rw [c3];refine goD ?_;refine cl rfl rfl (pw wTry) fun v st' ⟨hv,hst⟩=>?_;subst hv;subst hst;by_cases c4:kw t wTry=true
 ·rw [if_pos c4] at e0;rw [if_pos c4,c4,push2 h2 h3];have hb1:=t6 (kw_kind c4);refine goD ?_;refine so1 (row':=sRow 8 t.line [] [] 0 nilV [] nilV nilV nilV) rfl rfl rfl rfl rfl (by exact Nat.le_of_ble_eq_true rfl) rfl ?_;refine goD ?_;refine clq rfl rfl (pblock_sh hB hkK (by omega:d + 1≤9) hb1 (by omega) (obj2 h2 h3 _ _ _) hg) (fun v st' hp=>panA h2 h3 hp fun e he=>by rw [e0,qb_err he]) fun v st' hR=>?_;obtain ⟨bd,b3,hv,hb3,hst,hr⟩:=hR;subst hv;subst hst;rw [push2 h2 h3];rw [qb_ok hr] at e0;have l_b3:=blk_le hb1 hr;clear hr;refine goD ?_;refine so1 (row':=sRow 8 t.line [] [] 0 nilV [] nilV (.view 13 (spRows bd) .shared) nilV) rfl rfl rfl rfl rfl (by exact Nat.le_of_ble_eq_true rfl) rfl ?_;refine goD ?_;obtain ⟨u,u1,u3,u5,u6,us,uw,_⟩:=pneed_of H (obj2 h2 h3 (sC (sRow 0 0 [] [] 0 nilV [] nilV nilV nilV)) (sC (sRow 8 t.line [] [] 0 nilV [] nilV (.view 13 (spRows bd) .shared) nilV)) (prC (ts.map tokRow) b3)) hb3;rw [u3,u5] at e0;refine cl rfl rfl (uw wCatch) fun v st' ⟨hv,hst⟩=>?_;subst hv;subst hst;by_cases c9:kw u wCatch=true
  ·rw [if_pos c9] at e0;rw [if_pos c9,c9,push2 h2 h3];have hb5:=u6 (kw_kind c9);refine goD ?_;refine clq rfl rfl (pname_ok H (obj2 h2 h3 _ _ _) hb5) (fun v st' hp=>panA h2 h3 hp fun e he=>by rw [e0,qb_err he]) fun v st' hR=>?_;obtain ⟨n,b6,hv,hb6,hst,hr⟩:=hR;subst hv;subst hst;rw [push2 h2 h3];rw [qb_ok hr] at e0;have l_b6:=drop_lt hb5 (fname_lt hr (drop_ne hb5));clear hr;refine goD ?_;refine so1 (row':=sRow 8 t.line n [] 0 nilV [] nilV (.view 13 (spRows bd) .shared) nilV) rfl rfl rfl rfl rfl (by exact Nat.le_of_ble_eq_true rfl) rfl ?_;refine goD ?_;refine clq rfl rfl (pblock_sh hB hkK (by omega:d + 1≤9) hb6 (by omega) (obj2 h2 h3 _ _ _) hg) (fun v st' hp=>panA h2 h3 hp fun e he=>by rw [e0,qb_err he]) fun v st' hR=>?_;obtain ⟨el,b7,hv,hb7,hst,hr⟩:=hR;subst hv;subst hst;rw [push2 h2 h3];rw [qb_ok hr] at e0;have l_b7:=blk_le hb6 hr;clear hr;refine goD ?_;refine so1 (row':=sRow 8 t.line n [] 0 nilV [] nilV (.view 13 (spRows bd) .shared) (.view 13 (spRows el) .shared)) rfl rfl rfl rfl rfl (by exact Nat.le_of_ble_eq_true rfl) rfl ?_;refine goD ?_;refine ⟨(.mk 8 t.line n [] 0 [] [] [] bd el,b7,_),⟨hb7,?_,⟨_,_,_,_,_,_,_,_,_,_,rfl⟩,e0⟩,(tl2 rfl rfl),.refl _⟩;rw [spv,spRow];exact sRow_le (.nilShared _ _) (.nilShared _ _) (.refl _) (.refl _) rfl rfl rfl rfl
  ·rw [if_neg c9] at e0;rw [if_neg c9];rw [Bool.not_eq_true] at c9;rw [c9];refine goD ?_;exact clq rfl rfl (pfail_P H (obj2 h2 h3 _ _ _) hb3 7 e0) (fun v st' ⟨e,k,q1,q2,q3,q4⟩=>⟨_,by rw [q3,push2 h2 h3]; exact drop2 h2 h3 _ _ _,e,k,q1,q2,rfl,q4⟩) fun v st' h=>h.elim
 rw [if_neg c4] at e0;rw [if_neg c4];rw [Bool.not_eq_true] at c4;rw [c4];refine goD ?_;refine clq rfl rfl (psimple_ok H (line:=t.line) n3 (obj2 h2 h3 _ _ _) (St.obj_set _ _ _) ha hg) (fun v st' hp=>panS h2 h3 hp fun e he=>by rw [e0,qb_err he]) fun v st' hR=>?_;obtain ⟨m,b3,hb3,hst,hr⟩:=hR;subst hst;rw [push2 h2 h3,St.set_set];rw [qb_ok hr] at e0;clear hr;refine goD ?_;refine clq rfl rfl (pneed_ok H (obj2 h2 h3 _ _ _) hb3 [59]) (fun v st' hp=>panA h2 h3 hp fun e he=>by rw [e0,qb_err he]) fun v st' hR=>?_;obtain ⟨_,b4,hb4,hst,hr⟩:=hR;subst hst;rw [push2 h2 h3];rw [qb_ok hr] at e0;clear hr;refine goD ?_;refine ⟨(.mk m.kind t.line [] [] 0 m.target m.fn m.args [] [],b4,_),⟨hb4,?_,⟨_,_,_,_,_,_,_,_,_,_,rfl⟩,e0⟩,(tl2 rfl rfl),.refl _⟩;rw [spv,spRow];exact sRow_le (nlv_le _) (nlv_le _) (.nilShared _ _) (.nilShared _ _) rfl rfl rfl rfl
end Go.Proofs
namespace Go.Proofs
open Go.AM
structure Fn where
 line:Nat
 name:List UInt8
 params:Names
 body:List Sp
 stop:Nat
abbrev Prg:=List Rec × List Fn
def endSp (line:Nat):Sp:=.mk 10 line [] [] 0 [] [] [] [] []
def fnRow (f:Fn):List AV:=[.str f.name,.int .i64 (f.line:Int),.view 1 (nrow f.params) .shared,.view 13 (spRows (f.body++[endSp f.stop])) .shared]
def wRecord:List UInt8:=[114,101,99,111,114,100]
def wFunc:List UInt8:=[102,117,110,99]
def ahead (ts r:List Tk):Tk:=hd (ts.drop (ts.length - r.length - 1))
def fpar (ts:List Tk):QR Names:=if sg (hd ts) [41] then .ok ([],ts) else fnames ts
def ffunc (ts:List Tk):QR Fn :=
 qb (fname ts.tail) fun n r1=>qb (fneed [40] r1) fun _ r2=>qb (fpar r2) fun ps r3=>qb (fneed [41] r3) fun _ r4 =>
  qb (fblk (3 * r4.length + 1) 1 r4) fun b r5=>.ok (⟨(hd ts).line,n,ps,b,(ahead ts r5).line⟩,r5)
def frecs:Nat→List Rec→List Tk→QR (List Rec)
 | 0,_,_=>.error (99,[])
 | k + 1,l,ts=>if kw (hd ts) wRecord then qb (frecord ts.tail) fun x r=>frecs k (l++[x]) r else .ok (l,ts)
def ffuns:Nat→List Fn→List Tk→QR (List Fn)
 | 0,_,_=>.error (99,[])
 | k + 1,l,ts=>if kw (hd ts) wFunc then qb (ffunc ts) fun x r=>ffuns k (l++[x]) r else .ok (l,ts)
def fprog (ts:List Tk):QR Prg :=
 qb (frecs (ts.length + 1) [] ts) fun R r=>qb (ffuns (r.length + 1) [] r) fun F r2=>if (hd r2).kind=0 then .ok ((R,F),r2) else .error (7,r2)
def pparse (s:List UInt8):Except (Nat × Nat) Prg :=
 match scan s with
 | (ts,_,0)=>match fprog ts with
  | .ok (p,_)=>.ok p
  | .error (e,r)=>.error ((hd r).line,e)
 | (_,line,e)=>.error (line,e)
theorem fmore_eq (k:Nat) (l:Names) (ts:List Tk):fmore (k + 1) l ts=if sg (hd ts) [44] then qb (fname ts.tail) fun n r=>fmore k (l++[n]) r else .ok (l,ts):=by
 rw [fmore];split
 ·cases fname ts.tail <;> rfl
 ·rfl
theorem fnames_eq (ts:List Tk):fnames ts=qb (fname ts) fun n r=>fmore (ts.length + 1) [n] r:=by
 rw [fnames];cases fname ts <;> rfl
theorem fmore_le:∀ (k:Nat) (l:Names) (ts:List Tk),QLe ts.length (fmore k l ts)
 | 0,l,ts=>.err
 | k + 1,l,ts=>by
  rw [fmore_eq];split
  ·exact ((fname_le _).mono (tail_le ts)).qb fun n r h=>(fmore_le k _ r).mono h
  ·exact .ok (Nat.le_refl _)
theorem fnames_le (ts:List Tk):QLe ts.length (fnames ts):=by
 rw [fnames_eq];exact (fname_le ts).qb fun n r h=>(fmore_le _ _ r).mono h
theorem fpar_le (ts:List Tk):QLe ts.length (fpar ts):=by
 unfold fpar;split
 ·exact .ok (Nat.le_refl _)
 ·exact fnames_le ts
end Go.Proofs
namespace Go.Proofs
open Go.AM
attribute [local irreducible] AWP AOps ACalls AAny
theorem pstm_all {ts:List Tk} (H:RdH ts):∀ K,StmOk ts K∧BlkOk ts K
 | 0=>⟨fun k hk d a o st _ ha h=>by omega,fun k hk d a o st _ ha h=>by omega⟩
 | K + 1=>⟨pstm_step H (pstm_all H K).2,pblock_step H (pstm_all H K).1⟩
theorem ahead_at {ts:List Tk} {a k:Nat} (h1:a < k) (h2:k≤ts.length):ahead (ts.drop a) (ts.drop k)=hd (ts.drop (k - 1)):=by
 unfold ahead;rw [List.drop_drop,List.length_drop,List.length_drop]
 congr 2
 omega
def fC (name:List UInt8) (line:Nat) (ps b:AV):AObj:=.cells 36 4 [[.str name,.int .i64 (line:Int),ps,b]]
theorem spRow_one (s:Sp):∀ c ∈ spRow s,c.one=true:=by
 cases s;rw [spRow];intro c hx;simp only [sRow,List.mem_cons,List.not_mem_nil,or_false] at hx;rcases hx with rfl|rfl|rfl|rfl|rfl|rfl|rfl|rfl|rfl|rfl|rfl|rfl|rfl <;> rfl
theorem spRows_mem:∀ (l:List Sp) (r:List AV),r ∈ spRows l→∃ s,r=spRow s
 | [],r,h=>by rw [spRows] at h; cases h
 | s::l,r,h=>by
  rw [spRows] at h;rcases List.mem_cons.1 h with h|h
  ·exact ⟨s,h⟩
  ·exact spRows_mem l r h
theorem end_le (line:Nat):∀ (j:Nat) (c c':AV),(sRow 10 line [] [] 0 nilV [] nilV nilV nilV)[j]?=some c→(spRow (endSp line))[j]?=some c'→Le c c':=by
 intro i x y h1 h2;rw [endSp,spRow] at h2
 match i,h1,h2 with
 | 0,h1,h2=>cases h1; cases h2; exact .refl _
 | 1,h1,h2=>cases h1; cases h2; exact .refl _
 | 2,h1,h2=>cases h1; cases h2; exact .refl _
 | 3,h1,h2=>cases h1; cases h2; exact .refl _
 | 4,h1,h2=>cases h1; cases h2; exact .refl _
 | 5,h1,h2=>cases h1; cases h2; exact .refl _
 | 6,h1,h2=>cases h1; cases h2; exact .refl _
 | 7,h1,h2=>cases h1; cases h2; exact .nilShared _ _
 | 8,h1,h2=>cases h1; cases h2; exact .refl _
 | 9,h1,h2=>cases h1; cases h2; exact .refl _
 | 10,h1,h2=>cases h1; cases h2; exact .nilShared _ _
 | 11,h1,h2=>cases h1; cases h2; exact .nilShared _ _
 | 12,h1,h2=>cases h1; cases h2; exact .nilShared _ _
 | n + 13,h1,_=>cases h1
theorem endRows_le (l:List Sp) (line:Nat):Le (.view 13 (spRows l++[sRow 10 line [] [] 0 nilV [] nilV nilV nilV]) .shared) (.view 13 (spRows (l++[endSp line])) .shared):=by
 have e:spRows (l++[endSp line])=spRows l++[spRow (endSp line)]:=by rw [spRows_append,spRows,spRows]
 have hlen:(spRow (endSp line)).length=13:=Nat.eq_of_beq_eq_true (spRow_len _)
 have cases2:∀ (i:Nat) (row row':List AV),(spRows l++[sRow 10 line [] [] 0 nilV [] nilV nilV nilV])[i]?=some row→(spRows l++[spRow (endSp line)])[i]?=some row'→row=row'∨(row=sRow 10 line [] [] 0 nilV [] nilV nilV nilV∧row'=spRow (endSp line)):=by
  intro i row row' h1 h2;rcases Nat.lt_or_ge i (spRows l).length with h|h
  ·rw [List.getElem?_append_left h] at h1 h2;rw [h1] at h2;exact .inl (Option.some.inj h2)
  ·rw [List.getElem?_append_right h] at h1 h2;rcases Nat.lt_or_ge (i - (spRows l).length) 1 with h3|h3
   ·rw [show i - (spRows l).length=0 by omega] at h1 h2;cases h1;cases h2;exact .inr ⟨rfl,rfl⟩
   ·rw [List.getElem?_eq_none (by exact h3)] at h1;cases h1
 rw [e];refine .view _ _ _ _ (by rw [List.length_append,List.length_append]; rfl) (fun r hr c hc=>?_) (fun i row row' h1 h2=>?_) fun i j row row' c c' h1 h2 h3 h4=>?_
 ·rcases List.mem_append.1 hr with h|h
  ·obtain ⟨s,rfl⟩:=spRows_mem _ _ h;exact spRow_one _ c hc
  ·rw [List.mem_singleton.1 h] at hc;exact spRow_one _ c hc
 ·rcases cases2 i row row' h1 h2 with h|⟨h,h'⟩
  ·rw [h]
  ·rw [h,h',hlen];rfl
 ·rcases cases2 i row row' h1 h2 with h|⟨h,h'⟩
  ·subst h;rw [h3] at h4;cases h4;exact .refl _
  ·subst h;subst h';exact end_le line j c c' h3 h4
theorem fnRow_le (f:Fn) {s:Nat} {rows:List (List AV)} {tk:Go.AM.Tok} {tk2:Go.AM.Tok} (h:Le (.view s rows tk) (.view 1 (nrow f.params) .shared)) :
  Le (.agg [.str f.name,.int .i64 (f.line:Int),.view s rows tk,.view 13 (spRows f.body++[sRow 10 f.stop [] [] 0 nilV [] nilV nilV nilV]) tk2]) (.agg (fnRow f)):=by
 refine .agg _ _ rfl (fun x hx=>by simp only [fnRow,List.mem_cons,List.not_mem_nil,or_false] at hx; rcases hx with rfl|rfl|rfl|rfl <;> rfl) fun i x y h1 h2=>?_
 match i,h1,h2 with
 | 0,h1,h2=>cases h1; cases h2; exact .refl _
 | 1,h1,h2=>cases h1; cases h2; exact .refl _
 | 2,h1,h2=>cases h1; cases h2; exact h
 | 3,h1,h2 =>
  cases h1; cases h2;exact .trans _ (.view 13 (spRows f.body++[sRow 10 f.stop [] [] 0 nilV [] nilV nilV nilV]) .shared) _ (.shared _ _ _) (endRows_le _ _)
 | n + 4,h1,_=>cases h1
set_option maxHeartbeats 2000000 in
theorem pfunction_ok {ts:List Tk} (H:RdH ts) {a o:Nat} {st:St} (ho:st.obj o=some (prC (ts.map tokRow) (a + 1))) (ha:a + 1 < ts.length) (hg:st.row 3=some sgnRow) :
  ACalls Tryz.prog 24 [.cptr o 2 0 0] st (PaR ts o st (fun f=>.agg (fnRow f)) (ffunc (ts.drop a))) (PaP ts o st (ffunc (ts.drop a))):=by
 refine ACalls.inSet ho (ACalls.ofBody Tryz.func24 rfl Tryz.ntmps24 rfl ?_);have hl:(ts.map tokRow).length≤100000:=by rw [List.length_map]; exact H.len
 have e0:ffunc (ts.drop a)=ffunc (ts.drop a):=rfl;obtain ⟨t,t1,t2,t3,t4,t5⟩:=map_at (show a < ts.length by omega)
 conv at e0=>rhs; rw [ffunc,t3,t5]
 refine goC ?_;refine rg ?_;refine al rfl rfl fun o2 h2=>?_
 replace h2:=none_set h2
 have hC:∀ c,((st.set o (prC (ts.map tokRow) (a + 1))).set o2 c).obj o=some (.cells 58 2 [[.view 4 (ts.map tokRow) .shared,.int .i64 ((a + 1:Nat):Int)]]):=fun c=>obj1 h2 _ _
 have hC0:=hC (.cells 36 4 [[.str [],.int .i64 0,.view 0 [] .nil,.view 0 [] .nil]]);refine goC ?_;refine AWP.draw rfl 14 13 (fun v s=>∃ o3,v=.cptr o3 4 0 0∧((st.set o (prC (ts.map tokRow) (a + 1))).set o2 (fC [] 0 nilV nilV)).obj o3=none∧s=((st.set o (prC (ts.map tokRow) (a + 1))).set o2 (fC [] 0 nilV nilV)).set o3 (fC [] 0 nilV nilV)) rfl ?_;refine goF ?_;refine dp (h:=fun _ _=>ZM (m:=a) (hm:=by omega) (hlt:=t4) (z:=nz)) (z:=?_);refine goF ?_;refine dp (h:=fun _ _=>bds (cs:=[.str [],.int .i64 (t.line:Int),nilV,nilV]) rfl rfl rfl rfl nz) (z:=?_);refine de rfl rfl rfl ?_ ?_
 ·exact al rfl rfl fun o3 h3=>nl ⟨_,rfl,⟨o3,rfl,h3,rfl⟩,⟨fun x c hx=>St.obj_new h3 hx,fun _ h=>(by cases h),rfl⟩⟩
 refine dn ⟨fun h=>absurd h (by decide),fun _=>?_⟩;rintro v s1 d7 hd7 ⟨o3,rfl,h3,rfl⟩;cases hd7;refine soV rfl rfl rfl rfl rfl rfl ?_
 replace h3:=none_set2 h3
 refine nl ?_;refine AWP.weaken (T':=[(3,.cptr o3 4 0 0),(2,.cptr o2 4 0 0),(0,.cptr o 2 0 0)]) (st':=((st.set o (prC (ts.map tokRow) (a + 1))).set o2 (fC [] 0 nilV nilV)).set o3 (fC [] t.line nilV nilV)) (tl3 rfl rfl rfl) (.refl _) ?_;refine goD ?_;refine clq rfl rfl (pname_ok H (obj2 h2 h3 _ _ _) ha) (fun v st' ⟨e,k,q1,q2,q3,q4⟩=>⟨_,by rw [q3,push2 h2 h3]; exact drop2 h2 h3 _ _ _,e,k,q1,q2,rfl,by rw [e0,qb_err q4]⟩) fun v st' hR=>?_;obtain ⟨n,b,hv,hb,hst,hr⟩:=hR;subst hv;subst hst;rw [push2 h2 h3];rw [qb_ok hr] at e0;have l_b:=drop_lt ha (fname_lt hr (drop_ne ha));clear hr;refine goD ?_;refine so1 (row':=[.str n,.int .i64 (t.line:Int),nilV,nilV]) rfl rfl rfl rfl rfl (by exact Nat.le_of_ble_eq_true rfl) rfl ?_;refine goD ?_;refine clq rfl rfl (pneed_ok H (obj2 h2 h3 _ _ _) hb [40]) (fun v st' ⟨e,k,q1,q2,q3,q4⟩=>⟨_,by rw [q3,push2 h2 h3]; exact drop2 h2 h3 _ _ _,e,k,q1,q2,rfl,by rw [e0,qb_err q4]⟩) fun v st' hR=>?_;obtain ⟨_,b2,hb2,hst,hr⟩:=hR;subst hst;rw [push2 h2 h3];rw [qb_ok hr] at e0;have l_b2:=drop_lt hb (fneed_lt hr (drop_ne hb));clear hr;refine nl ?_;refine AWP.weaken (T':=[(3,.cptr o3 4 0 0),(2,.cptr o2 4 0 0),(0,.cptr o 2 0 0)]) (st':=((st.set o (prC (ts.map tokRow) b2)).set o2 (fC [] 0 nilV nilV)).set o3 (fC n t.line nilV nilV)) (tl3 rfl rfl rfl) (.refl _) ?_;refine AWP.seq ?_;refine AWP.cutK (α:=Nat × List (List AV) × Go.AM.Tok × Names × Nat) (fun _=>[(3,.cptr o3 4 0 0),(2,.cptr o2 4 0 0),(0,.cptr o 2 0 0)]) (fun y=>((st.set o (prC (ts.map tokRow) y.2.2.2.2)).set o2 (fC [] 0 nilV nilV)).set o3 (fC n t.line (.view y.1 y.2.1 y.2.2.1) nilV))
  (fun y=>y.2.2.2.2 < ts.length∧b2≤y.2.2.2.2∧Le (.view y.1 y.2.1 y.2.2.1) (.view 1 (nrow y.2.2.2.1) .shared)∧fpar (ts.drop b2)=.ok (y.2.2.2.1,ts.drop y.2.2.2.2)) ?_ ?_
 ·obtain ⟨u,u1,u2,u3,u4,u5⟩:=map_at hb2;have e1:fpar (ts.drop b2)=fpar (ts.drop b2):=rfl
  conv at e1=>rhs; rw [fpar,u3]
  refine goD ?_;refine cle rfl rfl (psees_ok (obj2 h2 h3 _ _ _) u4 u2 hl 4 [41]) ?_;by_cases c1:sg u [41]=true
  ·rw [if_pos c1] at e1;unfold sg at c1;rw [c1];refine goD ?_;exact ⟨(0,[],.nil,[],b2),⟨hb2,Nat.le_refl _,.nilShared _ _,e1⟩,(tl3 rfl rfl rfl),.refl _⟩
  ·rw [if_neg c1] at e1;unfold sg at c1;rw [Bool.not_eq_true] at c1;rw [c1];refine goD ?_;refine clq rfl rfl (pnames_ok H (obj2 h2 h3 _ _ _) hb2) (fun v st' ⟨e,k,q1,q2,q3,q4⟩=>⟨_,by rw [q3,push2 h2 h3]; exact drop2 h2 h3 _ _ _,e,k,q1,q2,rfl,by rw [e0,e1,qb_err q4]⟩) fun v st' hR=>?_;obtain ⟨l,b3,hv,hb3,hst,hr⟩:=hR;subst hv;subst hst;rw [push2 h2 h3];have:=(fnames_le (ts.drop b2)) _ _ hr;rw [List.length_drop,List.length_drop] at this;refine goD ?_;refine so1 (row':=[.str n,.int .i64 (t.line:Int),.view 1 (nrow l) .shared,nilV]) rfl rfl rfl rfl rfl (by exact Nat.le_of_ble_eq_true rfl) rfl ?_;refine goD ?_;exact ⟨(1,nrow l,.shared,l,b3),⟨hb3,by simp only; omega,.refl _,by rw [e1,hr]⟩,(tl3 rfl rfl rfl),.refl _⟩
 rintro ⟨s2,rows,tk2,ps,b3⟩ ⟨hb3,l_b3,hps,hr⟩;simp only at hb3 l_b3 hps hr;rw [qb_ok hr] at e0;clear hr;show AWP _ _ _ _ _ _ (((st.set o (prC (ts.map tokRow) b3)).set o2 (fC [] 0 nilV nilV)).set o3 (fC n t.line (.view s2 rows tk2) nilV));refine goD ?_;refine clq rfl rfl (pneed_ok H (obj2 h2 h3 _ _ _) hb3 [41]) (fun v st' ⟨e,k,q1,q2,q3,q4⟩=>⟨_,by rw [q3,push2 h2 h3]; exact drop2 h2 h3 _ _ _,e,k,q1,q2,rfl,by rw [e0,qb_err q4]⟩) fun v st' hR=>?_;obtain ⟨_,b4,hb4,hst,hr⟩:=hR;subst hst;rw [push2 h2 h3];rw [qb_ok hr] at e0;have l_b4:=drop_lt hb3 (fneed_lt hr (drop_ne hb3));clear hr;refine goD ?_;refine clq rfl rfl ((pstm_all H (3 * (ts.drop b4).length + 1)).2 _ (Nat.le_refl _) 1 b4 o _ (by decide) hb4 (by rw [List.length_drop]; omega) (obj2 h2 h3 _ _ _) hg) (fun v st' ⟨e,k,q1,q2,q3,q4⟩=>⟨_,by rw [q3,push2 h2 h3]; exact drop2 h2 h3 _ _ _,e,k,q1,q2,rfl,by rw [e0,qb_err q4]⟩) fun v st' hR=>?_;obtain ⟨bd,b5,tk,hv,hb5,htk,hst,hbl,hr⟩:=hR;subst hv;subst hst;rw [push2 h2 h3];rw [qb_ok hr] at e0;have l_b5:=blk_le hb4 hr;clear hr;rw [show ∀ a b c,(((st.set o a).set o2 b).set o3 c).addTok tk=(((st.addTok tk).set o a).set o2 b).set o3 c from fun _ _ _=>rfl];refine goD ?_;refine so1 (row':=[.str n,.int .i64 (t.line:Int),.view s2 rows tk2,.view 13 (spRows bd) (.own tk 41)]) rfl rfl rfl rfl rfl (by exact Nat.le_of_ble_eq_true rfl) rfl ?_;refine nl ?_;refine AWP.weaken (T':=[(3,.cptr o3 4 0 0),(2,.cptr o2 4 0 0),(0,.cptr o 2 0 0)]) (st':=(((st.addTok tk).set o (prC (ts.map tokRow) b5)).set o2 (fC [] 0 nilV nilV)).set o3 (fC n t.line (.view s2 rows tk2) (.view 13 (spRows bd) (.own tk 41)))) (tl3 rfl rfl rfl) (.refl _) ?_;refine goC ?_;obtain ⟨u,u1,u2,u3,u4,u5⟩:=map_at (show b5 - 1 < ts.length by omega);have hst2:∀ r,((st.addTok tk).set o r).obj o2=none:=h2
 have hst3:∀ r z,(((st.addTok tk).set o r).set o2 z).obj o3=none:=h3
 have hD:∀ c d,((((st.addTok tk).set o (prC (ts.map tokRow) b5)).set o2 c).set o3 d).obj o=some (.cells 58 2 [[.view 4 (ts.map tokRow) .shared,.int .i64 ((b5:Nat):Int)]]):=fun c d=>obj2 hst2 hst3 _ _ _
 have hD0:=hD (fC [] 0 nilV nilV) (fC n t.line (.view s2 rows tk2) (.view 13 (spRows bd) (.own tk 41)));generalize hS:(((st.addTok tk).set o (prC (ts.map tokRow) b5)).set o2 (fC [] 0 nilV nilV)).set o3 (fC n t.line (.view s2 rows tk2) (.view 13 (spRows bd) (.own tk 41)))=S at hD0;refine AWP.draw rfl 14 13 (fun v s=>∃ o4,v=.cptr o4 13 0 0∧S.obj o4=none∧s=S.set o4 (sC (sRow 0 0 [] [] 0 nilV [] nilV nilV nilV))) rfl ?_;refine goF ?_;refine dp (h:=fun _ _=>ZM (m:=b5 - 1) (hm:=by omega) (hlt:=u4) (z:=nz)) (z:=?_);refine goF ?_;refine dp (h:=fun _ _=>bds (cs:=sRow 10 u.line [] [] 0 nilV [] nilV nilV nilV) rfl rfl rfl rfl nz) (z:=?_);refine de rfl rfl rfl ?_ ?_
 ·exact al rfl rfl fun o4 h4=>nl ⟨_,rfl,⟨o4,rfl,h4,rfl⟩,⟨fun x c hx=>St.obj_new h4 hx,fun _ h=>(by cases h),rfl⟩⟩
 refine dn ⟨fun h=>absurd h (by decide),fun _=>?_⟩;rintro v s1 d7 hd7 ⟨o4,rfl,h4,rfl⟩;cases hd7;refine soV rfl rfl rfl rfl rfl rfl ?_;subst hS;refine nl ?_;refine AWP.weaken (T':=[(4,.cptr o4 13 0 0),(3,.cptr o3 4 0 0),(2,.cptr o2 4 0 0),(0,.cptr o 2 0 0)]) (st':=((((st.addTok tk).set o (prC (ts.map tokRow) b5)).set o2 (fC [] 0 nilV nilV)).set o3 (fC n t.line (.view s2 rows tk2) (.view 13 (spRows bd) (.own tk 41)))).set o4 (sC (sRow 10 u.line [] [] 0 nilV [] nilV nilV nilV))) (tl4 rfl rfl rfl rfl) (.refl _) ?_;have n43:o4≠o3:=Ne.symm (set_ne_new h4)
 have hF:∀ c d,(((((st.addTok tk).set o (prC (ts.map tokRow) b5)).set o2 (fC [] 0 nilV nilV)).set o3 (fC n t.line (.view s2 rows tk2) c)).set o4 d).obj o3=some (.cells 36 4 [[.str n,.int .i64 (t.line:Int),.view s2 rows tk2,c]]):=fun c d=>St.obj_under n43 _ _
 have hF0:=hF (.view 13 (spRows bd) (.own tk 41)) (sC (sRow 10 u.line [] [] 0 nilV [] nilV nilV nilV));refine goD ?_;have hlen:(spRows bd).length≤100000:=by rw [spRows_len]; exact Nat.le_trans hbl H.len
 refine ap rfl rfl rfl (St.tok_addTok st tk) rfl (by simp only [List.length_cons,List.length_nil]; omega) (by simp only [List.length_cons,List.length_nil,maxLen]; omega) fun tk' htk'=>?_;have hm:spRows bd++[(AV.agg (sRow 10 u.line [] [] 0 nilV [] nilV nilV nilV)).cells]=spRows bd++[sRow 10 u.line [] [] 0 nilV [] nilV nilV nilV]:=rfl;rw [hm];refine goD ?_;refine so (rows':=[[.str n,.int .i64 (t.line:Int),.view s2 rows tk2,.view 13 (spRows bd++[sRow 10 u.line [] [] 0 nilV [] nilV nilV nilV]) (.own tk' 41)]]) rfl rfl rfl (hF _ _) rfl rfl rfl rfl rfl ?_;refine nl ?_;refine AWP.weaken (T':=[(3,.cptr o3 4 0 0),(2,.cptr o2 4 0 0)]) (st':=(((st.addTok tk').set o (prC (ts.map tokRow) b5)).set o2 (fC [] 0 nilV nilV)).set o3 (fC n t.line (.view s2 rows tk2) (.view 13 (spRows bd++[sRow 10 u.line [] [] 0 nilV [] nilV nilV nilV]) (.own tk' 41)))) (tl2 rfl rfl) ?_ ?_
 ·show StLe ((((((((st.addTok tk).untok tk).addTok tk').set o _).set o2 _).set o3 _).set o4 _).set o3 _) _;rw [St.set_comm _ n43,St.set_set];exact StLe.new (by rw [St.obj_set_ne n43]; rw [fC,St.obj_set_ne n43] at h4; exact h4) (StLe.set _ _ (StLe.set _ _ (StLe.set _ _ (StLe.reTok (st:=st) htk tk'))))
 refine goD ?_;refine soU rfl (Ne.symm (set_ne_new (h3 ob0 ob0))) rfl rfl rfl rfl rfl ?_;refine goD ?_;refine AWP.ret (rets (resCW rfl (St.obj_under (Ne.symm (set_ne_new (h3 ob0 ob0))) _ _) rfl rfl rfl rfl) (fnRow_le ⟨t.line,n,ps,bd,u.line⟩ hps) ((drop2 (st:=st.addTok tk') h2 h3 _ _ _).trans (show StLe ((st.addTok tk').set o (prC (ts.map tokRow) b5)) (st.set o (prC (ts.map tokRow) b5)) from StLe.addTok tk' (.refl (st.set o (prC (ts.map tokRow) b5))))) ⟨⟨t.line,n,ps,bd,u.line⟩,b5,rfl,hb5,rfl,?_⟩);rw [e0,ahead_at (by omega) (by omega),u3]
end Go.Proofs
namespace Go.Proofs
def tw (ts:List Tk):Nat:=(ts.map fun t=>(wordOf t).length).sum
def c40 (s:List UInt8):Nat:=s.countP (· == 40)

theorem c40_split (s:List UInt8) (k:Nat):c40 (s.take k) + c40 (s.drop k)=c40 s:=by
 conv=>rhs; rw [← List.take_append_drop k s]
 unfold c40;rw [List.countP_append]
theorem c40_drop (s:List UInt8) (k:Nat):c40 (s.drop k)≤c40 s:=by
 have:=c40_split s k;omega

theorem dec_len {n j:Nat} (hj:1≤j) (h18:j≤18) (h:n < 10 ^ j):(dec n).length≤j:=by
 obtain ⟨j,rfl⟩:∃ i,j=i + 1:=⟨j - 1,by omega⟩;have hn:n / 10 < 10 ^ j:=by
  rw [Nat.pow_succ] at h;omega
 obtain ⟨ds,h1,h2,_⟩:=decF_spec j 19 (n / 10) [UInt8.ofNat (48 + n % 10)] hn (by omega) (by simp);have e:dec n=ds++[UInt8.ofNat (48 + n % 10)]:=by
  rw [← h1,dec,decF,if_neg (by simp)]
 rw [e];simp;omega

theorem one_tok {s:List UInt8} {line m:Nat} {t:Tk} (h:one s line=.ok (t,m)) :
  (t.kind=1→Nm t.text)∧(t.kind=2→Nu t.num)∧(wordOf t).length≤m∧b1 (sg t [40])≤c40 (s.take m)∧t.kind≠0:=by
 have hg:=good_of_one h;unfold one at h;split at h
 ·cases h
 ·rename_i c r;cases hl:isLet c
  ·cases hd:isDig c
   ·simp only [hl,hd,cond_false] at h;split at h
    ·cases h
    ·cases h;refine ⟨fun h=>(by cases h),fun h=>(by cases h),Nat.le_refl _,?_,(by show (4:Nat)≠0; decide)⟩;have hs:=sign_take (c::r);generalize hq:sign (c::r)=q at *;by_cases hp:q=[40]
     ·subst hp;rw [← hs];exact b1_le _
     ·rw [show sg ⟨4,line,q,0⟩ [40]=false from decide_eq_false fun h=>hp h.2];exact Nat.zero_le _
   ·simp only [hl,hd,cond_false,cond_true] at h;split at h
    ·cases h
    rename_i h18;split at h
    ·cases h
    ·cases h;refine ⟨fun h=>(by cases h),fun _=>hg.num,?_,Nat.zero_le _,(by show (2:Nat)≠0; decide)⟩;have hall:∀ x ∈ (c::r).takeWhile isDig,isDig x=true:=fun x hx=>mem_tw hx
     have hlt:=digits_lt _ _ rfl hall
     have h1:1≤((c::r).takeWhile isDig).length:=by
      rw [List.takeWhile_cons,hd];simp
     exact dec_len h1 (by omega) hlt
  ·simp only [hl,cond_true] at h;split at h
   ·cases h
   ·rename_i h12;cases h;have hnk:(if (c::r).takeWhile isNP ∈ words then 3 else 1)≠2:=by split <;> decide
    have hn0:(if (c::r).takeWhile isNP ∈ words then 3 else 1)≠0:=by split <;> decide
    have hn4:(if (c::r).takeWhile isNP ∈ words then 3 else 1)≠4:=by split <;> decide
    refine ⟨fun hk=>?_,fun hk=>absurd hk hnk,?_,?_,hn0⟩
    ·have hw:(c::r).takeWhile isNP ∉ words:=by
      intro hw;simp only [if_pos hw] at hk;cases hk
     refine ⟨c,r.takeWhile isNP,?_,hl,fun x hx=>mem_tw hx,(by show ((c::r).takeWhile isNP).length≤12; omega),hw⟩;show (c::r).takeWhile isNP=_;rw [List.takeWhile_cons,show isNP c=true by simp [isNP,hl]];rfl
    ·unfold wordOf;rw [if_neg hnk];exact Nat.le_refl _
    ·rw [show sg _ [40]=false from decide_eq_false fun h=>hn4 h.1];exact Nat.zero_le _

theorem opn_cons (t:Tk) (ts:List Tk):opn (t::ts)=opn ts + b1 (sg t [40]):=by
 unfold opn b1;rw [List.countP_cons]
theorem tw_cons (t:Tk) (ts:List Tk):tw (t::ts)=(wordOf t).length + tw ts:=by
 unfold tw;rw [List.map_cons,List.sum_cons]

theorem scanL_tok:∀ (k:Nat) (s:List UInt8) (line:Nat) (out:List Tk),s.length < k→(scanL k s line out).2.2=0 →
  ∃ ts l,scanL k s line out=(out++ts++[⟨0,l,[],0⟩],0,0)∧GT Nm Nu ts∧tw ts≤s.length∧opn ts≤c40 s∧∀ t ∈ ts,t.kind≠0
 | k + 1,[],line,out,_,_=>⟨[],line,by simp [scanL],fun t h=>(by cases h),Nat.zero_le _,Nat.zero_le _,fun t h=>(by cases h)⟩
 | k + 1,c::r,line,out,hk,he=>by
  cases ho:one (c::r) line with
  | error e =>
   have h1:=one_err ho;rw [scanL,ho] at he;simp only at he;omega
  | ok p =>
   obtain ⟨t,m⟩:=p;obtain ⟨t1,t2,t3,t4,t5⟩:=one_tok ho;have hr:=rest_lt ho line;obtain ⟨m1,m2,_⟩:=one_ok ho;obtain ⟨s1,_,_,j,hj⟩:=skip_le false ((c::r).drop m) line;rw [scanL,ho] at he ⊢;simp only at he ⊢;split
   ·rename_i h2;rw [if_pos h2] at he;cases he
   ·rename_i h2;rw [if_neg h2] at he;obtain ⟨ts,l,e,g1,g2,g3,g4⟩:=scanL_tok k _ _ (out++[t]) (by omega) he;refine ⟨t::ts,l,by rw [e]; simp,?_,?_,?_,?_⟩
    ·intro u hu;rcases List.mem_cons.1 hu with rfl|hu
     ·exact ⟨t1,t2⟩
     ·exact g1 u hu
    ·rw [tw_cons];rw [List.length_drop] at s1;omega
    ·rw [opn_cons];have d1:=c40_split (c::r) m
     have d2:=c40_drop ((c::r).drop m) j;rw [← hj] at d2;omega
    ·intro u hu;rcases List.mem_cons.1 hu with rfl|hu
     ·exact t5
     ·exact g4 u hu

theorem scan_tok (s:List UInt8) (he:(scan s).2.2=0):∃ ts l,scan s=(ts++[⟨0,l,[],0⟩],0,0)∧GT Nm Nu ts∧tw ts≤s.length∧opn ts≤c40 s∧∀ t ∈ ts,t.kind≠0:=by
 unfold scan at he ⊢;split at he
 ·cases he
 ·rename_i h;rw [if_neg h];obtain ⟨h1,_,_,j,hj⟩:=skip_le false s 1;obtain ⟨ts,l,e,g1,g2,g3,g4⟩:=scanL_tok (s.length + 1) (skip false s 1).1 (skip false s 1).2 [] (by omega) he;refine ⟨ts,l,by rw [e]; rfl,g1,by omega,?_,g4⟩;have:=c40_drop s j;rw [← hj] at this;omega
end Go.Proofs
namespace Go.Proofs
open Go.AM
attribute [local irreducible] AWP AOps ACalls AAny
def pgRow (p:Prg):List AV:=[.view 2 (p.1.map recRow) .shared,.view 4 (p.2.map fnRow) .shared]
def parV:Except (Nat × Nat) Prg→AV
 | .ok p=>.tuple [.agg (pgRow p),.int .i64 0,.int .i64 0]
 | .error (l,e)=>.tuple [.agg [nilV,nilV],.int .i64 (l:Int),.int .i64 (e:Int)]
theorem scan_RdH {s:List UInt8} (he:(scan s).2.2=0):RdH (scan s).1∧0 < (scan s).1.length:=by
 have hl:=scan_small s;obtain ⟨ts,l,e,_,_,_,hk⟩:=scan_tok s he;rw [e] at hl ⊢;simp only at hl ⊢;refine ⟨⟨by omega,fun i t ht hk0=>?_⟩,by simp⟩;rw [List.length_append,List.length_singleton];rcases Nat.lt_or_ge i ts.length with h|h
 ·omega
 ·exfalso;rw [List.getElem?_append_right h] at ht;have:=(List.getElem?_eq_some_iff.1 ht).1;simp only [List.length_singleton] at this;rw [show i - ts.length=0 by omega] at ht;simp at ht;rw [← ht] at hk0;exact hk0 rfl
def OpG {α:Type} (ts:List Tk) (S0:St) (o:Nat) (row:α→AV) (r:QR α):List (Option AV)→St→Prop
 | [none],s=>s=S0
 | [some v],s=>PaR ts o S0 row r v s
 | _,_=>False

theorem frecord_l1 (ts:List Tk):QLe (ts.length - 1) (frecord ts):=by
 unfold frecord;refine (fname_l1 ts).qb fun n r1 h1=>((fneed_le _ r1).mono h1).qb fun _ r2 h2=>((fnames_le r2).mono h2).qb fun l r3 h3=>((fneed_le _ r3).mono h3).qb fun _ r4 h4=>.ok h4
theorem ffunc_l1 (ts:List Tk):QLe (ts.length - 1) (ffunc ts):=by
 unfold ffunc;have t1:ts.tail.length=ts.length - 1:=List.length_tail;refine ((fname_le _).mono (by omega)).qb fun n r1 h1=>((fneed_le _ r1).mono h1).qb fun _ r2 h2=>((fpar_le r2).mono h2).qb fun l r3 h3=>((fneed_le _ r3).mono h3).qb fun _ r4 h4=>(((fstm_all _).2.1 _ r4).mono h4).qb fun _ r5 h5=>.ok h5
theorem stle_none {st st':St} {o:Nat} (c:AObj) (h:st.obj o=none) (l:StLe st' st):StLe (st'.set o c) st :=
 ⟨fun p x hp=>by rw [St.obj_set_ne (fun e=>by rw [e,h] at hp; cases hp)]; exact l.obj p x hp,l.tok,l.glob⟩
theorem ADef.mono {P:Program} {f:FuncId} {caps:List AV} {st:St} {pv:Option AV} {Q Q':St→Prop} (h:ADef P f caps st pv Q) (hq:∀ s,Q s→Q' s):ADef P f caps st pv Q' :=
 fun g w rcaps hs hl hc u hu=>(h g w rcaps hs hl hc u hu).mono fun _ _ _ ⟨h1,h2,g',st',h3,h4,h5⟩=>⟨h1,h2,g',st',h3,h4,hq _ h5⟩
theorem re2 {st:St} {tk tk2 tk':Nat} (h:st.tok tk=false) (h2:(st.addTok tk).tok tk2=false):StLe ((((st.addTok tk).addTok tk2).untok tk).addTok tk') ((st.addTok tk').addTok tk2):=by
 refine ⟨fun _ _ h=>h,fun t ht=>?_,rfl⟩;have hne:tk2≠tk:=fun e=>by rw [e,St.tok_addTok] at h2; cases h2
 simp only [St.addTok,St.untok] at ht ⊢;by_cases e1:t=tk'
 ·rw [if_pos e1]
 ·rw [if_neg e1];by_cases e2:t=tk
  ·subst e2;rw [if_neg (Ne.symm hne),if_neg e1,h] at ht;cases ht
  ·rw [if_neg e2];by_cases e3:t=tk2
   ·rw [if_pos e3]
   ·rw [if_neg e3,if_neg e2];rw [if_neg e3,if_neg e1] at ht;exact ht
theorem pparse_err {s:List UInt8} (h:(scan s).2.2≠0):pparse s=.error ((scan s).2.1,(scan s).2.2):=by
 unfold pparse;generalize scan s=r at h;obtain ⟨ts,l,e⟩:=r;cases e with
 | zero=>exact absurd rfl h
 | succ e=>rfl
theorem pparse_of {s:List UInt8} (h:(scan s).2.2=0):pparse s=match fprog (scan s).1 with
  | .ok (p,_)=>.ok p
  | .error (e,r)=>.error ((hd r).line,e):=by
 unfold pparse;generalize scan s=r at h;obtain ⟨ts,l,e⟩:=r;simp only at h;subst h;rfl
set_option maxHeartbeats 2000000 in
theorem parse_ok (s:List UInt8) (st:St) (hg1:st.row 1=some signRow) (hg0:st.row 0=some wordRow) (hg:st.row 3=some sgnRow) :
  ACalls Tryz.prog 10 [.str s] st (fun v st'=>v=parV (pparse s)∧st'=st) (fun _ _=>False):=by
 refine ACalls.ofBodyD (fd:=21) Tryz.func10 rfl Tryz.ntmps10 rfl ?_;refine AD.seq (rg ?_);refine al rfl rfl fun oP hP=>?_;refine al rfl rfl fun oL hL=>?_;refine al rfl rfl fun oE hE=>?_;refine nl ?_;refine AD.seq (rg ?_);refine goE ?_;refine cle rfl rfl (scan_ok s _ hg1 hg0) ?_;unfold scanV;refine goE ?_;refine soU rfl (Ne.symm (set_ne_new hE)) rfl rfl rfl rfl rfl ?_;refine soV rfl rfl rfl rfl rfl rfl ?_;refine nl ?_;have nLE:oL≠oE:=set_ne_new hE
 have nPE:oP≠oE:=ne_inner hE
 have nPL:oP≠oL:=set_ne_new hL
 have hLn:∀ c,(st.set oP c).obj oL=none:=none_set hL
 have hEn:∀ c d,((st.set oP c).set oL d).obj oE=none:=none_set2 hE
 have oPx:∀ a b c,(((st.set oP a).set oL b).set oE c).obj oP=some a:=fun a b c=>by rw [St.obj_set_ne nPE,St.obj_set_ne nPL,St.obj_set]
 have oLx:∀ a b c,(((st.set oP a).set oL b).set oE c).obj oL=some b:=fun a b c=>by rw [St.obj_set_ne nLE,St.obj_set]
 have oEx:∀ a b c,(((st.set oP a).set oL b).set oE c).obj oE=some c:=fun a b c=>St.obj_set _ _ _;by_cases he:(scan s).2.2=0
 rotate_left
 ·have hp:=pparse_err he
  have he':¬ ((scan s).2.2:Int)=0:=by omega
  refine AD.seq ?_;refine AWP.weaken (T':=[(4,.cptr oE 1 0 0),(3,.cptr oL 1 0 0),(2,.cptr oP 2 0 0)]) (st':=((st.set oP (pgC nilV nilV)).set oL (iC 3 (scan s).2.1)).set oE (iC 29 (scan s).2.2)) (tl3 rfl rfl rfl) (.refl _) ?_;generalize hS:((st.set oP (pgC nilV nilV)).set oL (iC 3 (scan s).2.1)).set oE (iC 29 (scan s).2.2)=S;have hPS:S.obj oP=some (.cells 28 2 [[nilV,nilV]]):=by rw [← hS]; exact oPx _ _ _
  have hLS:S.obj oL=some (.cells 3 1 [[.int .i64 ((scan s).2.1:Int)]]):=by rw [← hS]; exact oLx _ _ _
  have hES:S.obj oE=some (.cells 29 1 [[.int .i64 ((scan s).2.2:Int)]]):=by rw [← hS]; exact oEx _ _ _
  refine goD ?_;refine AWP.any rfl ?_;apply AAny.segY (k':=6) (S:=_) (Es:=[3,4,5]) (sts:=fun bs=>match bs with|[_,_,_]=>some S|_=>none) (F:=fun x y=>y=x) (base:=S) (hok:=by decide +kernel) (hS:=rfl) (h0:=rfl) (hF:=rfl) (hb:=.refl _);apply dqY (hi:=rfl) (hd:=rfl) (hw:=rfl) (h:=fun _ _=>bds (cs:=[nilV,nilV]) rfl rfl rfl rfl nz);repeat (apply dqY (hi:=rfl) (hd:=rfl) (hw:=rfl) (h:=fun _ _=>ZH (z:=nz)))
  apply deY (L:=[[false,false,false]]) (hL:=rfl) (hd:=rfl) (hw:=rfl) (h:=by
   refine ⟨?_,trivial⟩
   ·intro s0 e;cases e;refine ⟨_,rfl,fun S2 hs hle=>?_⟩;rw [hs];refine so (rows':=[[nilV,nilV]]) rfl rfl rfl hPS rfl rfl rfl rfl rfl ?_;exact nl ⟨rfl,St.set_same hPS,by rw [St.set_same hPS]; exact .refl _⟩)
  apply deY (L:=[[true,false,false]]) (hL:=rfl) (hd:=rfl) (hw:=rfl) (h:=by
   refine ⟨?_,trivial⟩
   ·intro s0 e;cases e;refine ⟨_,rfl,fun S2 hs hle=>?_⟩;rw [hs];refine so (rows':=[[.int .i64 ((scan s).2.1:Int)]]) rfl rfl rfl hLS rfl rfl rfl rfl rfl ?_;exact nl ⟨rfl,St.set_same hLS,by rw [St.set_same hLS]; exact .refl _⟩)
  apply deY (L:=[[true,true,false]]) (hL:=rfl) (hd:=rfl) (hw:=rfl) (h:=by
   refine ⟨?_,trivial⟩
   ·intro s0 e;cases e;refine ⟨_,rfl,fun S2 hs hle=>?_⟩;rw [hs];refine so (rows':=[[.int .i64 ((scan s).2.2:Int)]]) rfl rfl rfl hES rfl rfl rfl rfl rfl ?_;exact nl ⟨rfl,St.set_same hES,by rw [St.set_same hES]; exact .refl _⟩)
  refine dnY rfl fun S2 hs _=>?_;rw [hs];refine AAny.text rfl ?_;refine nl ?_;refine AWP.ret (rets (resCW rfl hPS rfl rfl rfl (resC rfl hLS rfl rfl (resC rfl hES rfl rfl rfl))) (by rw [hp]; exact .refl _) ?_ ⟨rfl,rfl⟩);rw [← hS];exact StLe.new (hEn _ _) (StLe.new (hLn _) (StLe.new hP (.refl _)))
 obtain ⟨H,h0⟩:=scan_RdH he;have hp:=pparse_of he;rw [he];generalize (scan s).1=ts at H h0 hp;generalize hl0:(scan s).2.1=l0;clear hl0 he;have hl:=H.len;refine AD.seq ?_;refine AWP.weaken (T':=[(5,.view 4 (ts.map tokRow) .shared),(4,.cptr oE 1 0 0),(3,.cptr oL 1 0 0),(2,.cptr oP 2 0 0)]) (st':=((st.set oP (pgC nilV nilV)).set oL (iC 3 l0)).set oE (iC 29 0)) (tl4 rfl rfl rfl rfl) (.refl _) ?_;refine goD ?_;refine AD.dfr rfl rfl ?_;refine goD ?_;refine bds (cs:=[.view 4 (ts.map tokRow) .shared,.int .i64 0]) rfl rfl rfl rfl ?_;refine bx rfl rfl rfl rfl fun oQ hQ=>?_
 replace hQ:=none_set3 hQ
 have nQP:oQ≠oP:=Ne.symm (ne_inner2 (hQ ob0 ob0 ob0))
 have nQL:oQ≠oL:=Ne.symm (ne_inner (hQ ob0 ob0 ob0))
 have nQE:oQ≠oE:=Ne.symm (set_ne_new (hQ ob0 ob0 ob0))
 have sP:st.obj oP=none:=hP
 have sL:st.obj oL=none:=by have:=hLn ob0; rwa [St.obj_set_ne (Ne.symm nPL)] at this
 have sE:st.obj oE=none:=by have:=hEn ob0 ob0; rwa [St.obj_set_ne (Ne.symm nLE),St.obj_set_ne (Ne.symm nPE)] at this
 have hpan:∀ (T:Tmps) (st':St) (l e:Nat) (r f:AV) (l1 e1:Int),T.get 2=some (.cptr oP 2 0 0)→T.get 3=some (.cptr oL 1 0 0)→T.get 4=some (.cptr oE 1 0 0)→pparse s=.error (l,e)→StLe st' st→st'.obj oP=some (pgC r f)→st'.obj oL=some (iC 3 l1)→st'.obj oE=some (iC 29 e1) →
   ADef Tryz.prog 21 [.cptr oP 2 0 0,.cptr oL 1 0 0,.cptr oE 1 0 0] st' (some (fai l e)) (fun st2=>∃ vs v st1,resA Tryz.prog st2 T [.cell 2 28,.cell 3 3,.cell 4 29]=some vs∧Le (packA vs) v∧StLe st2 st1∧v=parV (pparse s)∧st1=st):=by
  intro T st' l e r f l1 e1 g2 g3 g4 hpp hle h1 h2 h3;refine ADef.mono (pclose_some h1 h2 h3 l e) fun s2 hs2=>?_;subst hs2;refine ⟨_,_,st,resCW g2 (by rw [St.obj_set_ne nPE,St.obj_set_ne nPL]; exact St.obj_set _ _ _) rfl rfl rfl (resC g3 (by rw [St.obj_set_ne nLE]; exact St.obj_set _ _ _) rfl rfl (resC g4 (St.obj_set _ _ _) rfl rfl rfl)),.refl _,stle_none _ sE (stle_none _ sL (stle_none _ sP hle)),by rw [hpp]; rfl,rfl⟩
 refine goE ?_;refine nl ?_;refine AWP.weaken (T':=[(6,.cptr oQ 2 0 0),(4,.cptr oE 1 0 0),(3,.cptr oL 1 0 0),(2,.cptr oP 2 0 0)]) (st':=(((st.set oP (pgC nilV nilV)).set oL (iC 3 l0)).set oE (iC 29 0)).set oQ (prC (ts.map tokRow) 0)) (tl4 rfl rfl rfl rfl) (.refl _) ?_;have hle4:∀ (tk1:St) a b c d,StLe tk1 st→StLe ((((tk1.set oP a).set oL b).set oE c).set oQ d) st:=fun tk1 a b c d h=>stle_none _ (by have:=hQ ob0 ob0 ob0; rwa [St.obj_set_ne nQE,St.obj_set_ne nQL,St.obj_set_ne nQP] at this) (stle_none _ sE (stle_none _ sL (stle_none _ sP h)))
 have oPx2:∀ (s:St) a b c,(((s.set oP a).set oL b).set oE c).obj oP=some a:=fun s a b c=>by rw [St.obj_set_ne nPE,St.obj_set_ne nPL,St.obj_set]
 have gP:∀ (s:St) a b c d,((((s.set oP a).set oL b).set oE c).set oQ d).obj oP=some a:=fun s a b c d=>by rw [St.obj_set_ne (Ne.symm nQP),St.obj_set_ne nPE,St.obj_set_ne nPL,St.obj_set]
 have gL:∀ (s:St) a b c d,((((s.set oP a).set oL b).set oE c).set oQ d).obj oL=some b:=fun s a b c d=>by rw [St.obj_set_ne (Ne.symm nQL),St.obj_set_ne nLE,St.obj_set]
 have gE:∀ (s:St) a b c d,((((s.set oP a).set oL b).set oE c).set oQ d).obj oE=some c:=fun s a b c d=>by rw [St.obj_set_ne (Ne.symm nQE),St.obj_set]
 have wP:∀ (s:St) a b c d a',((((s.set oP a).set oL b).set oE c).set oQ d).set oP a'=(((s.set oP a').set oL b).set oE c).set oQ d:=fun s a b c d a'=>by
  rw [St.set_comm _ nQP,St.set_comm _ (Ne.symm nPE),St.set_comm _ (Ne.symm nPL),St.set_set]
 refine AWP.nilIn (o:=oP) (i:=0) (j:=0) (row:=[nilV,nilV]) 60 2 (gP _ _ _ _ _) rfl rfl fun tk htk=>?_;rw [show ∀ a b c d e,(((((st.set oP a).set oL b).set oE c).set oQ d).addTok tk).set oP e=(((((st.addTok tk).set oP a).set oL b).set oE c).set oQ d).set oP e from fun _ _ _ _ _=>rfl,wP];refine AWP.nilIn (o:=oP) (i:=0) (j:=1) (row:=[.view 2 [] (.own tk 60),nilV]) 36 4 (gP _ _ _ _ _) rfl rfl fun tk2 htk2=>?_;rw [show ∀ a b c d e,((((((st.addTok tk).set oP a).set oL b).set oE c).set oQ d).addTok tk2).set oP e=((((((st.addTok tk).addTok tk2).set oP a).set oL b).set oE c).set oQ d).set oP e from fun _ _ _ _ _=>rfl,wP]
 replace htk2:(st.addTok tk).tok tk2=false:=htk2
 have hpe:∀ e,fprog ts=.error e→pparse s=.error ((hd e.2).line,e.1):=fun e h=>by rw [hp,h]
 have hpo:∀ p r,fprog ts=.ok (p,r)→pparse s=.ok p:=fun p r h=>by rw [hp,h]
 obtain ⟨Res,hRes⟩:∃ Res,Res=frecs (ts.length + 1) [] ts:=⟨_,rfl⟩;refine AWP.seq ?_;refine AWP.block ?_;refine AWP.loop (α:=List Rec × Nat × Nat × Nat) (fun _=>[(6,.cptr oQ 2 0 0),(4,.cptr oE 1 0 0),(3,.cptr oL 1 0 0),(2,.cptr oP 2 0 0)])
  (fun y=>(((((st.addTok y.2.2.1).addTok tk2).set oP (pgC (.view 2 (y.1.map recRow) (.own y.2.2.1 60)) (.view 4 [] (.own tk2 36)))).set oL (iC 3 l0)).set oE (iC 29 0)).set oQ (prC (ts.map tokRow) y.2.1))
  (fun y=>y.2.1 < ts.length∧st.tok y.2.2.1=false∧(st.addTok y.2.2.1).tok tk2=false∧y.1.length≤y.2.1∧(ts.drop y.2.1).length < y.2.2.2∧Res=frecs y.2.2.2 y.1 (ts.drop y.2.1)) (fun y=>ts.length - y.2.1) ([],0,tk,ts.length + 1)
  ⟨h0,htk,htk2,Nat.le_refl _,by simp,hRes⟩ (tl4 rfl rfl rfl rfl) (.refl _) ?_
 clear htk htk2 tk;rintro ⟨R,b,tk,fu⟩ ⟨hb,htk,htk2,hRb,hfu,hI⟩;simp only at hb htk htk2 hRb hfu hI;refine AWP.weaken (T':=[(6,.cptr oQ 2 0 0),(4,.cptr oE 1 0 0),(3,.cptr oL 1 0 0),(2,.cptr oP 2 0 0)]) (st':=(((((st.addTok tk).addTok tk2).set oP (pgC (.view 2 (R.map recRow) (.own tk 60)) (.view 4 [] (.own tk2 36)))).set oL (iC 3 l0)).set oE (iC 29 0)).set oQ (prC (ts.map tokRow) b)) (tl4 rfl rfl rfl rfl) (.refl _) ?_;obtain ⟨fu,rfl⟩:∃ f,fu=f + 1:=⟨fu - 1,by omega⟩;generalize hS:((((st.addTok tk).addTok tk2).set oP (pgC (.view 2 (R.map recRow) (.own tk 60)) (.view 4 [] (.own tk2 36)))).set oL (iC 3 l0)).set oE (iC 29 0)=S;have hSP:∀ c,(S.set oQ (prC (ts.map tokRow) c)).obj oP=some (.cells 28 2 [[.view 2 (R.map recRow) (.own tk 60),.view 4 [] (.own tk2 36)]]):=fun c=>by rw [← hS]; exact gP _ _ _ _ _
 have hSL:∀ c,(S.set oQ (prC (ts.map tokRow) c)).obj oL=some (iC 3 l0):=fun c=>by rw [← hS]; exact gL _ _ _ _ _
 have hSE:∀ c,(S.set oQ (prC (ts.map tokRow) c)).obj oE=some (iC 29 0):=fun c=>by rw [← hS]; exact gE _ _ _ _ _
 have hSg:∀ c,StLe (S.set oQ (prC (ts.map tokRow) c)) st:=fun c=>by rw [← hS]; exact hle4 _ _ _ _ _ (StLe.addTok _ (StLe.addTok _ (.refl _)))
 have htkS:S.tok tk=true:=by
  rw [← hS];show ((st.addTok tk).addTok tk2).tok tk=true;simp only [St.addTok];split
  ·rfl
  ·simp
 obtain ⟨t,t1,t3,t5,t6,ps,pw,pt⟩:=pneed_of H (St.obj_set S oQ (prC (ts.map tokRow) b)) hb;rw [frecs,t3,t5] at hI;refine goD ?_;refine cl rfl rfl (pw wRecord) fun v st' ⟨hv,hst⟩=>?_;subst hv;subst hst;by_cases c1:kw t wRecord=true
 ·rw [if_pos c1] at hI;rw [if_pos c1,c1,St.set_set];have hb1:=t6 (kw_kind c1);refine goD ?_;refine AWP.any rfl ?_;obtain ⟨x,hy0⟩:∃ y,∀ x r,frecord (ts.drop (b + 1))=.ok (x,r)→x=y:=by
   cases frecord (ts.drop (b + 1)) with
   | error e=>exact ⟨⟨[],[]⟩,fun x r h=>by cases h⟩
   | ok p=>exact ⟨p.1,fun x r h=>by cases h; rfl⟩
  have hXb:((S.set oQ (prC (ts.map tokRow) (b + 1))).drop oQ).obj oP=some (.cells 28 2 [[.view 2 (R.map recRow) (.own tk 60),.view 4 [] (.own tk2 36)]]):=by
   rw [St.obj_drop_ne (Ne.symm nQP),St.obj_set_ne (Ne.symm nQP),← hS]; exact oPx2 _ _ _ _
  apply AAny.segXT (T0:=[(4,.cptr oE 1 0 0),(3,.cptr oL 1 0 0),(2,.cptr oP 2 0 0)]) (X:=fun pv st'=>ADef Tryz.prog 21 [.cptr oP 2 0 0,.cptr oL 1 0 0,.cptr oE 1 0 0] st' (some pv) (fun st2=>∃ vs v st1,resA Tryz.prog st2 [(4,.cptr oE 1 0 0),(3,.cptr oL 1 0 0),(2,.cptr oP 2 0 0)] [.cell 2 28,.cell 3 3,.cell 4 29]=some vs∧Le (packA vs) v∧StLe st2 st1∧v=parV (pparse s)∧st1=st))
   (hX:=fun _ _ h=>h) (hT0:=(tl3 rfl rfl rfl)) (k':=5) (Es:=[3]) (J:=OpG ts (S.set oQ (prC (ts.map tokRow) (b + 1))) oQ (fun r=>.agg (recRow r)) (frecord (ts.drop (b + 1)))) (base:=(S.set oQ (prC (ts.map tokRow) (b + 1))).drop oQ) (hok:=by decide +kernel) (hkp:=rfl) (hJ:=rfl)
   (hb:=by have:=StLe.drop_set (st:=S.set oQ (prC (ts.map tokRow) (b + 1))) (o:=oQ) (r:=prC (ts.map tokRow) (b + 1)); rwa [St.set_same (St.obj_set _ _ _)] at this)
  repeat (first|apply dsP (hi:=rfl) (hs:=rfl)|apply dqP (hi:=rfl) (hd:=rfl) (hw:=rfl) (h:=fun _ _=>ZC (z:=nz))|apply dqP (hi:=rfl) (hd:=rfl) (hw:=rfl) (h:=fun _ _=>ZH (z:=nz)))
  apply deP (Q:=fun v=>v=.agg (recRow x)) (L:=[[false]]) (hL:=rfl) (hd:=rfl) (hw:=rfl) (hex:=⟨_,rfl⟩) (h:=by
   refine ⟨?_,trivial⟩;intro vs hvs hlk s2 hJ hle;obtain ⟨v1,rfl,e1⟩:=vs1 hvs;obtain rfl:v1=none:=by simpa using e1
   have hs0:s2=S.set oQ (prC (ts.map tokRow) (b + 1)):=hJ;rw [hs0];refine clq rfl rfl (precord_ok H (St.obj_set _ _ _) hb1) (fun v st' ⟨e,k,q1,q2,q3,q4⟩=>?_) fun v st' hR=>?_
   ·rw [q2,q3,St.set_set];exact hpan _ _ _ _ _ _ _ _ rfl rfl rfl (hpe (e,ts.drop k) (by rw [fprog,← hRes,hI,qb_err (qb_err q4)])) (hSg _) (hSP _) (hSL _) (hSE _)
   ·obtain ⟨x',c,hv,hc,hst,hr⟩:=hR;subst hv;subst hst;obtain rfl:=hy0 _ _ hr;exact nl ⟨_,rfl,rfl,⟨x',c,rfl,hc,rfl,hr⟩,StLe.drop_set⟩)
  rintro v rfl;apply dqP (hi:=rfl) (hd:=rfl) (hw:=rfl) (h:=fun _ _=>bs1 (v:=.agg (recRow x)) rfl rfl rfl rfl rfl rfl nz);refine dnP fun s2 hs=>?_;obtain ⟨x',c,hv,hc,hst,hr⟩:=hs;obtain rfl:=hy0 _ _ hr;rw [hst,St.set_set];rw [qb_ok hr] at hI;have hcl:=frecord_l1 _ _ _ hr;rw [List.length_drop,List.length_drop] at hcl;refine AAny.text rfl ?_;refine ap rfl rfl rfl htkS rfl (by simp only [List.length_cons,List.length_nil,List.length_map]; omega) (by simp only [List.length_cons,List.length_nil,List.length_map,maxLen]; omega) fun tk' htk'=>?_;have hm:R.map recRow++[(AV.agg (recRow x')).cells]=(R++[x']).map recRow:=by rw [List.map_append]; rfl
  rw [hm];refine goE ?_;refine so (rows':=[[.view 2 ((R++[x']).map recRow) (.own tk' 60),.view 4 [] (.own tk2 36)]]) rfl rfl rfl (hSP c) rfl rfl rfl rfl rfl ?_;refine nl ?_;have htk3:tk'≠tk∧tk'≠tk2∧st.tok tk'=false:=by
   have h:S.tok tk'=false:=htk';rw [← hS] at h;have h:((st.addTok tk).addTok tk2).tok tk'=false:=h;simp only [St.addTok] at h;split at h
   ·cases h
   ·split at h
    ·cases h
    ·exact ⟨by assumption,by assumption,h⟩
  obtain ⟨u1,u2,u3⟩:=htk3;refine ⟨(R++[x'],c,tk',fu),⟨hc,u3,?_,by simp only [List.length_append,List.length_cons,List.length_nil]; omega,by simp only [List.length_drop] at hfu ⊢; omega,hI⟩,by simp only; omega,(tl4 rfl rfl rfl rfl),?_⟩
  ·simp only [St.addTok] at htk2 ⊢;rw [if_neg (Ne.symm u2)];split at htk2
   ·cases htk2
   ·exact htk2
  ·subst hS;show StLe ((((((((((st.addTok tk).addTok tk2).untok tk).addTok tk').set oP _).set oL _).set oE _).set oQ _)).set oP _) _;rw [wP];exact StLe.set _ _ (StLe.set _ _ (StLe.set _ _ (StLe.set _ _ (re2 htk htk2))))
 ·rw [if_neg c1] at hI;rw [if_neg c1];rw [Bool.not_eq_true] at c1;rw [c1];refine goD ?_;refine AWP.exit (blk_hit ?_);have hpF:fprog ts=qb (ffuns ((ts.drop b).length + 1) [] (ts.drop b)) fun F r2=>if (hd r2).kind=0 then .ok ((R,F),r2) else .error (7,r2):=by rw [fprog,← hRes,hI,qb_ok rfl]
  obtain ⟨Re2,hRe2⟩:∃ Re2,Re2=ffuns ((ts.drop b).length + 1) [] (ts.drop b):=⟨_,rfl⟩;rw [← hRe2] at hpF;have hb0:=hb;subst hS;clear hSP hSL hSE hSg htkS hI hRes t1 t3 t5 t6 ps pw pt c1;refine AWP.seq ?_;refine AWP.block ?_;refine AWP.loop (α:=List Fn × Nat × Nat × Nat) (fun _=>[(6,.cptr oQ 2 0 0),(4,.cptr oE 1 0 0),(3,.cptr oL 1 0 0),(2,.cptr oP 2 0 0)])
   (fun y=>(((((st.addTok tk).addTok y.2.2.1).set oP (pgC (.view 2 (R.map recRow) (.own tk 60)) (.view 4 (y.1.map fnRow) (.own y.2.2.1 36)))).set oL (iC 3 l0)).set oE (iC 29 0)).set oQ (prC (ts.map tokRow) y.2.1))
   (fun y=>y.2.1 < ts.length∧(st.addTok tk).tok y.2.2.1=false∧y.1.length≤y.2.1∧(ts.drop y.2.1).length < y.2.2.2∧Re2=ffuns y.2.2.2 y.1 (ts.drop y.2.1)) (fun y=>ts.length - y.2.1) ([],b,tk2,(ts.drop b).length + 1)
   ⟨hb,htk2,Nat.zero_le _,by simp,hRe2⟩ (tl4 rfl rfl rfl rfl) (.refl _) ?_
  clear hfu hRe2 htk2 hb0 hRb hb;rintro ⟨F,b,tk2,fu⟩ ⟨hb,htk2,hFb,hfu,hI⟩;simp only at hb htk2 hFb hfu hI;refine AWP.weaken (T':=[(6,.cptr oQ 2 0 0),(4,.cptr oE 1 0 0),(3,.cptr oL 1 0 0),(2,.cptr oP 2 0 0)]) (st':=(((((st.addTok tk).addTok tk2).set oP (pgC (.view 2 (R.map recRow) (.own tk 60)) (.view 4 (F.map fnRow) (.own tk2 36)))).set oL (iC 3 l0)).set oE (iC 29 0)).set oQ (prC (ts.map tokRow) b)) (tl4 rfl rfl rfl rfl) (.refl _) ?_;obtain ⟨fu,rfl⟩:∃ f,fu=f + 1:=⟨fu - 1,by omega⟩;generalize hS:((((st.addTok tk).addTok tk2).set oP (pgC (.view 2 (R.map recRow) (.own tk 60)) (.view 4 (F.map fnRow) (.own tk2 36)))).set oL (iC 3 l0)).set oE (iC 29 0)=S;have hSP:∀ c,(S.set oQ (prC (ts.map tokRow) c)).obj oP=some (.cells 28 2 [[.view 2 (R.map recRow) (.own tk 60),.view 4 (F.map fnRow) (.own tk2 36)]]):=fun c=>by rw [← hS]; exact gP _ _ _ _ _
  have hSL:∀ c,(S.set oQ (prC (ts.map tokRow) c)).obj oL=some (iC 3 l0):=fun c=>by rw [← hS]; exact gL _ _ _ _ _
  have hSE:∀ c,(S.set oQ (prC (ts.map tokRow) c)).obj oE=some (iC 29 0):=fun c=>by rw [← hS]; exact gE _ _ _ _ _
  have hSg:∀ c,StLe (S.set oQ (prC (ts.map tokRow) c)) st:=fun c=>by rw [← hS]; exact hle4 _ _ _ _ _ (StLe.addTok _ (StLe.addTok _ (.refl _)))
  have hgS:∀ c,(S.set oQ c).row 3=some sgnRow:=fun c=>by rw [← hS]; exact hg
  have htkS:S.tok tk2=true:=by
   rw [← hS];exact St.tok_addTok _ _
  obtain ⟨t,t1,t3,t5,t6,ps,pw,pt⟩:=pneed_of H (St.obj_set S oQ (prC (ts.map tokRow) b)) hb;rw [ffuns,t3] at hI;refine goD ?_;refine cl rfl rfl (pw wFunc) fun v st' ⟨hv,hst⟩=>?_;subst hv;subst hst;by_cases c1:kw t wFunc=true
  ·rw [if_pos c1] at hI;rw [if_pos c1,c1,St.set_set];have hb1:=t6 (kw_kind c1);refine goD ?_;refine AWP.any rfl ?_;obtain ⟨x,hy0⟩:∃ y,∀ x r,ffunc (ts.drop b)=.ok (x,r)→x=y:=by
    cases ffunc (ts.drop b) with
    | error e=>exact ⟨⟨0,[],[],[],0⟩,fun x r h=>by cases h⟩
    | ok p=>exact ⟨p.1,fun x r h=>by cases h; rfl⟩
   have hXb:((S.set oQ (prC (ts.map tokRow) (b + 1))).drop oQ).obj oP=some (.cells 28 2 [[.view 2 (R.map recRow) (.own tk 60),.view 4 (F.map fnRow) (.own tk2 36)]]):=by
    rw [St.obj_drop_ne (Ne.symm nQP),St.obj_set_ne (Ne.symm nQP),← hS]; exact oPx2 _ _ _ _
   apply AAny.segXT (T0:=[(4,.cptr oE 1 0 0),(3,.cptr oL 1 0 0),(2,.cptr oP 2 0 0)]) (X:=fun pv st'=>ADef Tryz.prog 21 [.cptr oP 2 0 0,.cptr oL 1 0 0,.cptr oE 1 0 0] st' (some pv) (fun st2=>∃ vs v st1,resA Tryz.prog st2 [(4,.cptr oE 1 0 0),(3,.cptr oL 1 0 0),(2,.cptr oP 2 0 0)] [.cell 2 28,.cell 3 3,.cell 4 29]=some vs∧Le (packA vs) v∧StLe st2 st1∧v=parV (pparse s)∧st1=st))
    (hX:=fun _ _ h=>h) (hT0:=(tl3 rfl rfl rfl)) (k':=5) (Es:=[3]) (J:=OpG ts (S.set oQ (prC (ts.map tokRow) (b + 1))) oQ (fun r=>.agg (fnRow r)) (ffunc (ts.drop b))) (base:=(S.set oQ (prC (ts.map tokRow) (b + 1))).drop oQ) (hok:=by decide +kernel) (hkp:=rfl) (hJ:=rfl)
    (hb:=by have:=StLe.drop_set (st:=S.set oQ (prC (ts.map tokRow) (b + 1))) (o:=oQ) (r:=prC (ts.map tokRow) (b + 1)); rwa [St.set_same (St.obj_set _ _ _)] at this)
   repeat (first|apply dsP (hi:=rfl) (hs:=rfl)|apply dqP (hi:=rfl) (hd:=rfl) (hw:=rfl) (h:=fun _ _=>ZC (z:=nz))|apply dqP (hi:=rfl) (hd:=rfl) (hw:=rfl) (h:=fun _ _=>ZH (z:=nz)))
   apply deP (Q:=fun v=>v=.agg (fnRow x)) (L:=[[false]]) (hL:=rfl) (hd:=rfl) (hw:=rfl) (hex:=⟨_,rfl⟩) (h:=by
    refine ⟨?_,trivial⟩;intro vs hvs hlk s2 hJ hle;obtain ⟨v1,rfl,e1⟩:=vs1 hvs;obtain rfl:v1=none:=by simpa using e1
    have hs0:s2=S.set oQ (prC (ts.map tokRow) (b + 1)):=hJ;rw [hs0];refine clq rfl rfl (pfunction_ok H (St.obj_set _ _ _) hb1 (hgS _)) (fun v st' ⟨e,k,q1,q2,q3,q4⟩=>?_) fun v st' hR=>?_
    ·rw [q2,q3,St.set_set];exact hpan _ _ _ _ _ _ _ _ rfl rfl rfl (hpe (e,ts.drop k) (by rw [hpF,hI,qb_err (qb_err q4)])) (hSg _) (hSP _) (hSL _) (hSE _)
    ·obtain ⟨x',c,hv,hc,hst,hr⟩:=hR;subst hv;subst hst;obtain rfl:=hy0 _ _ hr;exact nl ⟨_,rfl,rfl,⟨x',c,rfl,hc,rfl,hr⟩,StLe.drop_set⟩)
   rintro v rfl;apply dqP (hi:=rfl) (hd:=rfl) (hw:=rfl) (h:=fun _ _=>bs1 (v:=.agg (fnRow x)) rfl rfl rfl rfl rfl rfl nz);refine dnP fun s2 hs=>?_;obtain ⟨x',c,hv,hc,hst,hr⟩:=hs;obtain rfl:=hy0 _ _ hr;rw [hst,St.set_set];rw [qb_ok hr] at hI;have hcl:=ffunc_l1 _ _ _ hr;rw [List.length_drop,List.length_drop] at hcl;refine AAny.text rfl ?_;refine ap rfl rfl rfl htkS rfl (by simp only [List.length_cons,List.length_nil,List.length_map]; omega) (by simp only [List.length_cons,List.length_nil,List.length_map,maxLen]; omega) fun tk' htk'=>?_;have hm:F.map fnRow++[(AV.agg (fnRow x')).cells]=(F++[x']).map fnRow:=by rw [List.map_append]; rfl
   rw [hm];refine goE ?_;refine so (rows':=[[.view 2 (R.map recRow) (.own tk 60),.view 4 ((F++[x']).map fnRow) (.own tk' 36)]]) rfl rfl rfl (hSP c) rfl rfl rfl rfl rfl ?_;refine nl ?_;have htk3:(st.addTok tk).tok tk'=false:=by
    have h:S.tok tk'=false:=htk';rw [← hS] at h;exact St.tok_of_add h
   refine ⟨(F++[x'],c,tk',fu),⟨hc,htk3,by simp only [List.length_append,List.length_cons,List.length_nil]; omega,by simp only [List.length_drop] at hfu ⊢; omega,hI⟩,by simp only; omega,(tl4 rfl rfl rfl rfl),?_⟩;subst hS;show StLe ((((((((((st.addTok tk).addTok tk2).untok tk2).addTok tk').set oP _).set oL _).set oE _).set oQ _)).set oP _) _;rw [wP];exact StLe.set _ _ (StLe.set _ _ (StLe.set _ _ (StLe.set _ _ (StLe.reTok htk2 tk'))))
  ·rw [if_neg c1] at hI;rw [if_neg c1];rw [Bool.not_eq_true] at c1;rw [c1];rw [hI,qb_ok rfl,t3] at hpF;refine goD ?_;refine AWP.exit (blk_hit ?_);refine goD ?_;refine cle rfl rfl pt ?_;refine fd (v:=.int .i64 (t.kind:Int)) rfl rfl rfl ?_;by_cases hk:t.kind=0
   ·have hk':(t.kind:Int)=0:=by omega
    rw [if_pos hk] at hpF;refine goD ?_;refine lcW rfl rfl rfl (hSP b) rfl rfl ?_;refine so (rows':=[[.view 2 (R.map recRow) (.own tk 60),.view 4 (F.map fnRow) (.own tk2 36)]]) rfl rfl rfl (hSP b) rfl rfl rfl rfl rfl ?_;rw [St.set_same (hSP b)];refine so (rows':=[[.int .i64 0]]) rfl rfl rfl (hSL b) rfl rfl rfl rfl rfl ?_;refine so (rows':=[[.int .i64 0]]) rfl rfl rfl (show ((S.set oQ (prC (ts.map tokRow) b)).set oL _).obj oE=some (.cells 29 1 [[.int .i64 0]]) by rw [St.obj_set_ne (Ne.symm nLE)]; exact hSE b) rfl rfl rfl rfl rfl ?_;refine nl ?_;refine AWP.ret ?_;refine ADef.mono pclose_none fun s2 hs2=>?_;rw [hs2];refine ⟨_,_,st,resCW rfl (by rw [St.obj_set_ne nPE,St.obj_set_ne nPL]; exact hSP b) rfl rfl rfl (resC rfl (by rw [St.obj_set_ne nLE]; exact St.obj_set _ _ _) rfl rfl (resC rfl (St.obj_set _ _ _) rfl rfl rfl)),?_,stle_none _ sE (stle_none _ sL (hSg _)),rfl,rfl⟩;rw [hpo _ _ hpF];refine .tuple _ _ rfl fun i x y h1 h2=>?_
    match i,h1,h2 with
    | 0,h1,h2 =>
     cases h1; cases h2;refine .agg _ _ rfl (fun x hx=>by simp only [pgRow,List.mem_cons,List.not_mem_nil,or_false] at hx; rcases hx with rfl|rfl <;> rfl) fun i x y h1 h2=>?_
     match i,h1,h2 with
     | 0,h1,h2=>cases h1; cases h2; exact .shared _ _ _
     | 1,h1,h2=>cases h1; cases h2; exact .shared _ _ _
     | n + 2,h1,_=>cases h1
    | 1,h1,h2=>cases h1; cases h2; exact .refl _
    | 2,h1,h2=>cases h1; cases h2; exact .refl _
    | n + 3,h1,_=>cases h1
   ·have hk':¬ (t.kind:Int)=0:=by omega
    rw [if_neg hk] at hpF;refine goD ?_;refine clq rfl rfl (pfail_P H (r:=fprog ts) (St.obj_set _ _ _) hb 7 hpF) (fun v st' ⟨e,k,q1,q2,q3,q4⟩=>?_) fun v st' h=>h.elim;rw [q2,q3,St.set_set];exact hpan _ _ _ _ _ _ _ _ rfl rfl rfl (hpe (e,ts.drop k) q4) (hSg _) (hSP _) (hSL _) (hSE _)
def jnT:Names→List UInt8
 | []=>[]
 | [a]=>a
 | a::b::r=>a++[44,32]++jnT (b::r)
def JoinOk (l:Names):Prop:=∀ st,ACalls Tryz.prog 30 [.view 1 (nrow l) .shared,.str [44,32]] st (fun v st'=>v=.str (jnT l)∧st'=st) (fun _ _=>False)
def recL (r:Rec):Names:=[[114,101,99,111,114,100,32],r.name,[32,123,32],jnT r.fields,[32,125]]
def recT (r:Rec):List UInt8:=lnT 0 (recL r)
def fnL (f:Fn):Names:=[[102,117,110,99,32],f.name,[40],jnT f.params,[41,32,123]]
def fnT (f:Fn):List UInt8:=lnT 0 (fnL f)++prL 1 (f.body++[endSp f.stop])++lnT 0 [[125]]
def prT (p:Prg):List UInt8:=(p.1.map recT).flatten++(p.2.map fnT).flatten
structure WP (p:Prg):Prop where
 r:p.1.length≤100000
 f:p.2.length≤100000
 b:∀ f ∈ p.2,WSps f.body∧f.body.length < 100000
theorem WSps.app:∀ {l:List Sp} {s:Sp},WSps l→WSp s→WSps (l++[s])
 | [],s,_,h=>by rw [List.nil_append,WSps,WSps]; exact ⟨h,trivial⟩
 | a::l,s,h1,h2=>by
  rw [WSps] at h1;rw [List.cons_append,WSps];exact ⟨h1.1,WSps.app h1.2 h2⟩
theorem WSp_end (n:Nat):WSp (endSp n):=by
 rw [endSp,WSp,WSps];exact ⟨fun x h=>(by cases h),fun x h=>(by cases h),Nat.zero_le _,Nat.zero_le _,by decide,trivial,trivial,Nat.zero_le _,Nat.zero_le _⟩
theorem recRow_at (l:List Rec) (i:Nat) (r:Rec) (h:l[i]?=some r):(l.map recRow)[i]?=some [.str r.name,.view 1 (nrow r.fields) .shared]:=by rw [List.getElem?_map,h]; rfl
theorem fnRow_at (l:List Fn) (i:Nat) (f:Fn) (h:l[i]?=some f):(l.map fnRow)[i]?=some [.str f.name,.int .i64 (f.line:Int),.view 1 (nrow f.params) .shared,.view 13 (spRows (f.body++[endSp f.stop])) .shared]:=by rw [List.getElem?_map,h]; rfl
theorem map_take_succ {α:Type} (f:α→List UInt8) (l:List α) (i:Nat) (x:α) (h:l[i]?=some x):((l.take (i + 1)).map f).flatten=((l.take i).map f).flatten++f x:=by
 rw [List.take_add_one,h];simp
theorem map_take_le {α:Type} (f:α→List UInt8) (l:List α) (i:Nat):((l.take i).map f).flatten.length≤(l.map f).flatten.length:=by
 have h:(l.map f).flatten=((l.take i).map f).flatten++((l.drop i).map f).flatten:=by rw [← List.flatten_append,← List.map_append,List.take_append_drop]
 rw [h,List.length_append];omega
set_option maxHeartbeats 2000000 in
theorem pprint_ok {p:Prg} (hw:WP p) (hJ:∀ r ∈ p.1,JoinOk r.fields) (hJ2:∀ f ∈ p.2,JoinOk f.params) (hb:(prT p).length≤wMax) (st:St) (hg:GSt st) :
  ACalls Tryz.prog 16 [.agg (pgRow p)] st (fun v st'=>v=.str (prT p)∧st'=st) (fun _ _=>False):=by
 obtain ⟨R,F⟩:=p;obtain ⟨w1,w2,w3⟩:=hw;simp only at w1 w2 w3 hJ hJ2;unfold prT at hb ⊢;simp only [List.length_append] at hb ⊢;unfold pgRow;simp only;have hrl:(R.map recRow).length=R.length:=List.length_map ..
 have hfl:(F.map fnRow).length=F.length:=List.length_map ..;refine ACalls.ofBody Tryz.func16 rfl Tryz.ntmps16 rfl ?_;refine goC ?_;refine rg ?_;refine bxe rfl rfl rfl rfl ?_;refine sm rfl ?_;refine nl ?_;refine goC ?_;refine rg ?_;refine bds (cs:=[.lit (.pointer none),nilV]) rfl rfl rfl rfl ?_;refine bx rfl rfl rfl rfl fun o ho=>?_;refine goE ?_;refine nl ?_;have h0:WOk st o [] none:=⟨fun _ e=>(by cases e),fun _=>rfl⟩;refine AWP.weaken (T':=[(3,.cptr o 2 0 0),(1,.eptr 2 [[.view 2 (R.map recRow) .shared,.view 4 (F.map fnRow) .shared]] 0 0)]) (st':=wS st o false [] none) (tl2 rfl rfl) (.refl _) ?_;refine goD ?_;refine AWP.loop (α:=Nat × Bool × Option Nat) (fun y=>[(13,.int .i64 (y.1:Int)),(12,.int .i64 ((R.map recRow).length:Int)),(11,.view 2 (R.map recRow) .shared),(3,.cptr o 2 0 0),(1,.eptr 2 [[.view 2 (R.map recRow) .shared,.view 4 (F.map fnRow) .shared]] 0 0)]) (fun y=>wS st o y.2.1 ((R.take y.1).map recT).flatten y.2.2) (fun y=>y.1≤R.length∧WOk st o ((R.take y.1).map recT).flatten y.2.2) (fun y=>R.length - y.1) (0,false,none)
  ⟨Nat.zero_le _,h0⟩ (tl5 rfl rfl rfl rfl rfl) (.refl _) ?_
 rintro ⟨i,u,oo⟩ ⟨hi,h⟩;simp only at hi h;refine AWP.weaken (T':=[(13,.int .i64 (i:Int)),(12,.int .i64 ((R.map recRow).length:Int)),(11,.view 2 (R.map recRow) .shared),(3,.cptr o 2 0 0),(1,.eptr 2 [[.view 2 (R.map recRow) .shared,.view 4 (F.map fnRow) .shared]] 0 0)]) (st':=wS st o u ((R.take i).map recT).flatten oo) (tl5 rfl rfl rfl rfl rfl) (.refl _) ?_;by_cases hlt:i < R.length
 ·obtain ⟨r,hr⟩:∃ r,R[i]?=some r:=⟨_,List.getElem?_eq_getElem hlt⟩;have hrr:=recRow_at R i r hr
  have hir:i < (R.map recRow).length:=by omega
  have hft:=map_take_succ recT R i r hr
  have hle:=map_take_le recT R (i + 1);rw [hft,List.length_append] at hle;have hj:=hJ r (List.mem_of_getElem? hr);refine goD ?_;refine AWP.any rfl ?_;apply AAny.segQ (k':=7) (hok:=by decide +kernel);repeat (first|apply dsY (hi:=rfl) (hs:=rfl)|apply dqY (hi:=rfl) (hd:=rfl) (hw:=rfl) (h:=fun _ _=>ZF (z:=nz))|apply dqY (hi:=rfl) (hd:=rfl) (hw:=rfl) (h:=fun _ _=>ZC (z:=nz)))
  apply dqY (hi:=rfl) (hd:=rfl) (hw:=rfl) (h:=fun st' hle=>cle rfl rfl (hj st') nz);apply dqY (hi:=rfl) (hd:=rfl) (hw:=rfl) (h:=fun _ _=>bsh (cs:=[.str [114,101,99,111,114,100,32],.str r.name,.str [32,123,32],.str (jnT r.fields),.str [32,125]]) rfl rfl rfl rfl rfl nz);refine dnQ ?_;refine AAny.one rfl rfl rfl rfl ?_;refine cl rfl rfl (line_ok h 0 (recL r) _ (by exact Nat.le_of_ble_eq_true rfl) (show _ + (recT r).length≤wMax by omega)) fun v st' ⟨u3,oo3,h3,hst⟩=>nl ⟨_,rfl,?_⟩;subst hst;refine AAny.text rfl ?_;refine nl ?_;rw [show lnT 0 (recL r)=recT r from rfl,← hft] at h3 ⊢;refine goD ?_;exact ⟨(i + 1,u3,oo3),⟨by simp only; omega,h3⟩,by simp only; omega,(tl5 rfl rfl rfl rfl rfl),.refl _⟩
 have hil:i=R.length:=by omega
 subst hil;rw [List.take_length] at h ⊢;refine goD ?_;refine AWP.exit (blk_hit ?_);refine goD ?_;refine AWP.loop (α:=Nat × Bool × Option Nat) (fun y=>[(29,.int .i64 (y.1:Int)),(28,.int .i64 ((F.map fnRow).length:Int)),(27,.view 4 (F.map fnRow) .shared),(3,.cptr o 2 0 0)]) (fun y=>wS st o y.2.1 ((R.map recT).flatten++((F.take y.1).map fnT).flatten) y.2.2) (fun y=>y.1≤F.length∧WOk st o ((R.map recT).flatten++((F.take y.1).map fnT).flatten) y.2.2) (fun y=>F.length - y.1) (0,u,oo)
  ⟨Nat.zero_le _,by simpa using h⟩ (tl4 rfl rfl rfl rfl) (by simp only [List.take_zero,List.map_nil,List.flatten_nil,List.append_nil]; exact .refl _) ?_
 clear h oo u;rintro ⟨i,u,oo⟩ ⟨hi,h⟩;simp only at hi h;refine AWP.weaken (T':=[(29,.int .i64 (i:Int)),(28,.int .i64 ((F.map fnRow).length:Int)),(27,.view 4 (F.map fnRow) .shared),(3,.cptr o 2 0 0)]) (st':=wS st o u ((R.map recT).flatten++((F.take i).map fnT).flatten) oo) (tl4 rfl rfl rfl rfl) (.refl _) ?_;by_cases hlt:i < F.length
 ·obtain ⟨f,hf⟩:∃ f,F[i]?=some f:=⟨_,List.getElem?_eq_getElem hlt⟩;have hrr:=fnRow_at F i f hf
  have hir:i < (F.map fnRow).length:=by omega
  have hft:=map_take_succ fnT F i f hf
  have hle:=map_take_le fnT F (i + 1);rw [hft,List.length_append] at hle;have hj:=hJ2 f (List.mem_of_getElem? hf);obtain ⟨wb,wl⟩:=w3 f (List.mem_of_getElem? hf);have hli:=wlist_ok (wb.app (WSp_end f.stop)) (by rw [List.length_append,List.length_cons,List.length_nil]; omega)
  have hfn:(fnT f).length=(lnT 0 (fnL f)).length + (prL 1 (f.body++[endSp f.stop])).length + (lnT 0 [[125]]).length:=by rw [fnT,List.length_append,List.length_append]
  refine goD ?_;refine AWP.any rfl ?_;apply AAny.segQ (k':=7) (hok:=by decide +kernel);repeat (first|apply dsY (hi:=rfl) (hs:=rfl)|apply dqY (hi:=rfl) (hd:=rfl) (hw:=rfl) (h:=fun _ _=>ZF (z:=nz))|apply dqY (hi:=rfl) (hd:=rfl) (hw:=rfl) (h:=fun _ _=>ZC (z:=nz)))
  apply dqY (hi:=rfl) (hd:=rfl) (hw:=rfl) (h:=fun st' hle=>cle rfl rfl (hj st') nz);apply dqY (hi:=rfl) (hd:=rfl) (hw:=rfl) (h:=fun _ _=>bsh (cs:=[.str [102,117,110,99,32],.str f.name,.str [40],.str (jnT f.params),.str [41,32,123]]) rfl rfl rfl rfl rfl nz);refine dnQ ?_;refine AAny.one rfl rfl rfl rfl ?_;refine cl rfl rfl (line_ok h 0 (fnL f) _ (by exact Nat.le_of_ble_eq_true rfl) (by rw [List.length_append]; omega)) fun v st' ⟨u3,oo3,h3,hst⟩=>nl ⟨_,rfl,?_⟩;subst hst;refine AAny.text rfl ?_;refine nl ?_;refine goD ?_;refine cl rfl rfl (hli 1 _ o u3 _ oo3 hg h3 (by simp only [List.length_append]; omega)) fun v st' ⟨u4,oo4,h4,hst⟩=>?_;subst hst;refine goD ?_;refine cl rfl rfl (line_ok h4 0 [[125]] _ (by exact Nat.le_of_ble_eq_true rfl) (by simp only [List.length_append]; omega)) fun v st' ⟨u5,oo5,h5,hst⟩=>?_;subst hst;have e:(R.map recT).flatten++((F.take i).map fnT).flatten++lnT 0 (fnL f)++prL 1 (f.body++[endSp f.stop])++lnT 0 [[125]]=(R.map recT).flatten++((F.take (i + 1)).map fnT).flatten:=by rw [hft,fnT]; simp
  rw [e] at h5 ⊢;refine goD ?_;exact ⟨(i + 1,u5,oo5),⟨by simp only; omega,h5⟩,by simp only; omega,(tl4 rfl rfl rfl rfl),.refl _⟩
 have hil:i=F.length:=by omega
 subst hil;rw [List.take_length] at h ⊢;refine goD ?_;refine AWP.exit (blk_hit ?_);refine goD ?_;refine cl rfl rfl (builderString_ok h (by rw [List.length_append]; exact hb)) fun v st' ⟨hv,c,hst⟩=>?_;subst hv;subst hst;refine goD ?_;exact AWP.ret (rets rfl (.refl _) (StLe.new ho (.refl _)) ⟨rfl,rfl⟩)
theorem join_one {l:Names} (h:l.length≤1):JoinOk l:=by
 intro st;refine ACalls.ofBody Tryz.func30 rfl Tryz.ntmps30 rfl ?_
 match l,h with
 | [],_ =>
  refine goD ?_;exact AWP.ret (rets rfl (.refl _) (.refl _) ⟨rfl,rfl⟩)
 | [a],_ =>
  refine goD ?_;exact AWP.ret (rets rfl (.refl _) (.refl _) ⟨rfl,rfl⟩)
 | _::_::_,h=>exact absurd h (by simp)
structure LTp (st:St):Prop where
 signs:st.row 1=some signRow
 words:st.row 0=some wordRow
 gs:GSt st
theorem LTp.parse {st:St} (h:LTp st) (s:List UInt8):ACalls Tryz.prog 10 [.str s] st (fun v st'=>v=parV (pparse s)∧st'=st) (fun _ _=>False):=parse_ok s st h.signs h.words h.gs.ops
def kText:List UInt8:=[102,117,110,99,32,102,40,97,41,123,114,101,116,117,114,110,32,40,97,43,49,41,42,50,59,125]
def kProg:Prg:=([],[⟨1,[102],[[97]],[.mk 6 1 [] [] 0 [] [] [.bin 8 (.bin 6 (.var [97]) (.lit 1)) (.lit 2)] [] []],1⟩])
theorem kParse:pparse kText=.ok kProg:=by kernel_rfl
def kOut:List UInt8:=[102,117,110,99,32,102,40,97,41,32,123,10,9,114,101,116,117,114,110,32,40,97,32,43,32,49,41,32,42,32,50,59,10,125,10]
theorem kPrint:prT kProg=kOut:=by kernel_rfl
theorem kWP:WP kProg:=by
 refine ⟨by decide,by decide,fun f hf=>?_⟩;rw [List.mem_singleton.1 hf];refine ⟨?_,by decide⟩;rw [WSps,WSps,WSp,WSps];refine ⟨⟨fun x h=>(by cases h),fun x h=>?_,by decide,by decide,by decide,trivial,trivial,by decide,by decide⟩,trivial⟩;rw [List.mem_singleton.1 h];refine ⟨⟨by decide,by decide,⟨by decide,by decide,trivial,trivial⟩,trivial⟩,⟨trivial,?_⟩,?_⟩
 ·show 1 < 1000000000000000000; decide
 ·show 2 < 1000000000000000000; decide
set_option maxHeartbeats 1000000 in
theorem known_ok (st:St) (hT:LTp st):ACalls Tryz.prog 11 [] st (fun v st'=>v=.bool true∧st'=st) (fun _ _=>False):=by
 refine ACalls.ofBody Tryz.func11 rfl Tryz.ntmps11 rfl ?_;have hrow:pgRow kProg=[.view 2 [] .shared,.view 4 [[.str [102],.int .i64 1,.view 1 [[.str [97]]] .shared,.view 13 [spRow (.mk 6 1 [] [] 0 [] [] [.bin 8 (.bin 6 (.var [97]) (.lit 1)) (.lit 2)] [] []),spRow (endSp 1)] .shared]] .shared]:=by kernel_rfl
 have hp:=hT.parse kText;rw [kParse,show parV (.ok kProg)=.tuple [.agg (pgRow kProg),.int .i64 0,.int .i64 0] from rfl,hrow] at hp;have hq:=pprint_ok kWP (fun r h=>by cases h) (fun f hf=>by rw [List.mem_singleton.1 hf]; exact join_one (by decide)) (by rw [kPrint]; decide) st hT.gs;rw [kPrint,hrow] at hq;generalize spRow (.mk 6 1 [] [] 0 [] [] [.bin 8 (.bin 6 (.var [97]) (.lit 1)) (.lit 2)] [] [])=r1 at hp hq;generalize spRow (endSp 1)=r2 at hp hq;clear hrow;refine goC ?_;refine rg ?_;refine goE ?_;refine nl ?_;refine goC ?_;refine rg ?_;refine cle rfl rfl hp ?_;refine goD ?_;refine cle rfl rfl hq ?_;refine goD ?_;exact AWP.ret (rets rfl (.refl _) (.refl _) ⟨rfl,rfl⟩)
end Go.Proofs
namespace Go.Proofs.YthjcphjabiajbaaGreatDoor
open Go.ChangeShapes Go.WideShapes Go.ChangeAt Go.RowKit Go.AM
theorem own:ownKnob Tryz.prog.godebug=none:=by kernel_rfl
theorem laidOut:laidOutB Tryz.prog=true:=by kernel_rfl
def laidAll : List (String × DataW Unit) := [("math/bits.deBruijn32tab", Rows.laid_math_bits_deBruijn32tab), ("math/bits.deBruijn64tab", Rows.laid_math_bits_deBruijn64tab), ("internal/strconv.uint64pow10", Rows.laid_internal_strconv_uint64pow10), ("debugger/lexer.words", Rows.laid_debugger_lexer_words), ("debugger/lexer.signs", Rows.laid_debugger_lexer_signs), ("debugger/parser.operators", Rows.laid_debugger_parser_operators)]

theorem kinds:∀ t ∈ [3,9,22,100,135,161,167],Go.AM.kindOk Tryz.prog [3,9,22,100,135,161,167] t=true:=by
 intro t ht;simp only [List.mem_cons,List.not_mem_nil,or_false] at ht;rcases ht with rfl|rfl|rfl|rfl|rfl|rfl|rfl <;> kernel_rfl
theorem pow_row:litRow (Rows.laid_internal_strconv_uint64pow10:DataW Unit)=some powRow:=by kernel_rfl
theorem op_row:litRow (Rows.laid_debugger_parser_operators:DataW Unit)=some sgnRow:=by kernel_rfl
def tabL:List (Nat × List AV):=[(0,wordRow),(1,signRow),(3,sgnRow),(4,powRow)]
theorem tables {W:World} (h:laidMetH Tryz.prog laidAll W):∀ gi row,(gi,row) ∈ tabL→GlobAt (G0 W) W gi row:=by
 have h':laidMet Tryz.prog laidAll W:=h;intro gi row hm;simp only [tabL,List.mem_cons,List.not_mem_nil,or_false] at hm;rcases hm with hm|hm|hm|hm
 ·cases hm;exact laid_row kinds h' (n := "debugger/lexer.words") (t := 100) (.tail _ (.tail _ (.tail _ (.head _)))) rfl (by kernel_rfl) (by kernel_rfl) (by decide) (by decide)
 ·cases hm;exact laid_row kinds h' (n := "debugger/lexer.signs") (t := 135) (.tail _ (.tail _ (.tail _ (.tail _ (.head _))))) rfl (by kernel_rfl) (by kernel_rfl) (by decide) (by decide)
 ·cases hm;exact laid_row kinds h' (n := "debugger/parser.operators") (t := 100) (.tail _ (.tail _ (.tail _ (.tail _ (.tail _ (.head _)))))) op_row (by kernel_rfl) (by kernel_rfl) (by decide) (by decide)
 ·cases hm;exact laid_row kinds h' (n := "internal/strconv.uint64pow10") (t := 167) (.tail _ (.tail _ (.head _))) pow_row (by kernel_rfl) (by kernel_rfl) (by decide) (by decide)
theorem hT {o:Nat→Option AObj} {tk:Nat→Bool}:LTp { obj:=o,tok:=tk,glob:=tabL }:=⟨rfl,rfl,⟨.tail _ (.tail _ (.tail _ (.head _))),rfl⟩⟩
end Go.Proofs.YthjcphjabiajbaaGreatDoor
namespace Go.Proofs
open Go.AM
attribute [local irreducible] AWP AOps ACalls AAny
end Go.Proofs
namespace Go.Proofs
open Go.AM
theorem qb_qb {α β γ:Type} (r:QR α) (f:α→List Tk→QR β) (g:β→List Tk→QR γ):qb (qb r f) g=qb r fun x t=>qb (f x t) g:=by
 cases r with
 | error e=>rfl
 | ok p=>rfl
theorem qb_ret {α β:Type} (x:α) (t:List Tk) (f:α→List Tk→QR β):qb (.ok (x,t)) f=f x t:=rfl
def fval (c:Bool) (ts:List Tk):QR (List UInt8 × List Xp):=if c && seesC ts then fcall ts else qb (qx ts) fun x r=>.ok (([],[x]),r)
def feff (ts:List Tk):QR Sm :=
 if seesC ts then qb (fcall ts) fun c r=>.ok (⟨3,[],c.1,c.2⟩,r)
 else qb (qt ts) fun y r=>qb (fneed [61] r) fun _ r2 =>
  if seesC r2 then qb (fcall r2) fun c r3=>.ok (⟨3,[y],c.1,c.2⟩,r3) else qb (qx r2) fun x r3=>.ok (⟨2,[y],[],[x]⟩,r3)
theorem fsimple_eq (ts:List Tk):fsimple ts=if kw (hd ts) wReturn then qb (fval true ts.tail) fun c r=>.ok (⟨6,[],c.1,c.2⟩,r)
  else if kw (hd ts) wThrow then qb (fval false ts.tail) fun c r=>.ok (⟨7,[],c.1,c.2⟩,r)
  else if kw (hd ts) wPrint then qb (fval false ts.tail) fun c r=>.ok (⟨9,[],c.1,c.2⟩,r) else feff ts:=by
 unfold fsimple feff fval;rw [Bool.true_and,Bool.false_and];by_cases h1:kw (hd ts) wReturn=true
 ·rw [if_pos h1,if_pos h1];by_cases h2:seesC ts.tail=true
  ·rw [if_pos h2,if_pos h2]
  ·rw [if_neg h2,if_neg h2];simp only [qb_qb,qb_ret]
 ·rw [if_neg h1,if_neg h1,if_neg (by decide:¬ false=true)];simp only [qb_qb,qb_ret]
def fty (ts:List Tk):QR (List UInt8 × Nat) :=
 if kw (hd ts) wInt then
  if sg (hd ts.tail) [91] then
   if (hd ts.tail.tail).kind=2 then
    if (hd ts.tail.tail).num < 1∨8 < (hd ts.tail.tail).num then .error (5,ts.tail.tail)
    else qb (fneed [93] ts.tail.tail.tail) fun _ r3=>.ok (([],(hd ts.tail.tail).num),r3)
   else .error (7,ts.tail.tail)
  else .ok (([],0),ts.tail)
 else qb (fname ts) fun ty r3=>.ok ((ty,0),r3)
theorem fdecl_eq (ts:List Tk):fdecl ts=qb (fname ts) fun n r1=>qb (fneed [58] r1) fun _ r2=>qb (fty r2) fun p r3=>qb (fneed [59] r3) fun _ r4=>.ok ((n,p.1,p.2),r4):=by
 unfold fdecl
 congr 1
 funext n r1
 congr 1
 funext _ r2
 unfold fty;by_cases h1:kw (hd r2) wInt=true
 ·rw [if_pos h1,if_pos h1];by_cases h2:sg (hd r2.tail) [91]=true
  ·rw [if_pos h2,if_pos h2];by_cases h3:(hd r2.tail.tail).kind=2
   ·rw [if_pos h3,if_pos h3];by_cases h4:(hd r2.tail.tail).num < 1∨8 < (hd r2.tail.tail).num
    ·rw [if_pos h4,if_pos h4]; rfl
    ·rw [if_neg h4,if_neg h4];simp only [qb_qb,qb_ret]
   ·rw [if_neg h3,if_neg h3]; rfl
  ·rw [if_neg h2,if_neg h2]; rfl
 ·rw [if_neg h1,if_neg h1];simp only [qb_qb,qb_ret]
def fcatch (ts:List Tk):QR Unit:=if kw (hd ts) wCatch then .ok ((),ts.tail) else .error (7,ts)
theorem fstm_pos {k d:Nat} {ts:List Tk} (hb:begS (hd ts)=true) (h8:¬ 8 < d):fstm (k + 1) d ts =
  if kw (hd ts) wVar then qb (fdecl ts.tail) fun x r=>.ok (.mk 1 (hd ts).line x.1 x.2.1 x.2.2 [] [] [] [] [],r)
  else if kw (hd ts) wIf then qb (qx ts.tail) fun x r=>qb (fblk k (d + 1) r) fun b r2 =>
   if kw (hd r2) wElse then qb (fblk k (d + 1) r2.tail) fun e r3=>.ok (.mk 4 (hd ts).line [] [] 0 [] [] [x] b e,r3) else .ok (.mk 4 (hd ts).line [] [] 0 [] [] [x] b [],r2)
  else if kw (hd ts) wWhile then qb (qx ts.tail) fun x r=>qb (fblk k (d + 1) r) fun b r2=>.ok (.mk 5 (hd ts).line [] [] 0 [] [] [x] b [],r2)
  else if kw (hd ts) wTry then qb (fblk k (d + 1) ts.tail) fun b r=>qb (fcatch r) fun _ r1=>qb (fname r1) fun n r2=>qb (fblk k (d + 1) r2) fun e r3=>.ok (.mk 8 (hd ts).line n [] 0 [] [] [] b e,r3)
  else if kw (hd ts) wReturn then qb (fval true ts.tail) fun c r=>qb (fneed [59] r) fun _ r2=>.ok (.mk 6 (hd ts).line [] [] 0 [] c.1 c.2 [] [],r2)
  else if kw (hd ts) wThrow then qb (fval false ts.tail) fun c r=>qb (fneed [59] r) fun _ r2=>.ok (.mk 7 (hd ts).line [] [] 0 [] c.1 c.2 [] [],r2)
  else if kw (hd ts) wPrint then qb (fval false ts.tail) fun c r=>qb (fneed [59] r) fun _ r2=>.ok (.mk 9 (hd ts).line [] [] 0 [] c.1 c.2 [] [],r2)
  else qb (feff ts) fun m r=>qb (fneed [59] r) fun _ r2=>.ok (.mk m.kind (hd ts).line [] [] 0 m.target m.fn m.args [] [],r2):=by
 rw [fstm,if_pos hb,if_neg h8];by_cases c1:kw (hd ts) wVar=true
 ·rw [if_pos c1,if_pos c1]
 rw [if_neg c1,if_neg c1];by_cases c2:kw (hd ts) wIf=true
 ·rw [if_pos c2,if_pos c2]
 rw [if_neg c2,if_neg c2];by_cases c3:kw (hd ts) wWhile=true
 ·rw [if_pos c3,if_pos c3]
 rw [if_neg c3,if_neg c3];by_cases c4:kw (hd ts) wTry=true
 ·rw [if_pos c4,if_pos c4]
  congr 1
  funext b r
  unfold fcatch;by_cases c:kw (hd r) wCatch=true
  ·rw [if_pos c,if_pos c,qb_ok rfl]
  ·rw [if_neg c,if_neg c]; rfl
 rw [if_neg c4,if_neg c4,fsimple_eq];by_cases c5:kw (hd ts) wReturn=true
 ·rw [if_pos c5,if_pos c5];simp only [qb_qb,qb_ret]
 rw [if_neg c5,if_neg c5];by_cases c6:kw (hd ts) wThrow=true
 ·rw [if_pos c6,if_pos c6];simp only [qb_qb,qb_ret]
 rw [if_neg c6,if_neg c6];by_cases c7:kw (hd ts) wPrint=true
 ·rw [if_pos c7,if_pos c7];simp only [qb_qb,qb_ret]
 rw [if_neg c7,if_neg c7]
mutual
def LS:Sp→Prop
 | .mk _ _ _ _ _ tg _ ar bd el=>tg.length≤100000∧ar.length≤100000∧bd.length≤100000∧el.length≤100000∧LSs bd∧LSs el
def LSs:List Sp→Prop
 | []=>True
 | s::r=>LS s∧LSs r
end
theorem LSs_get:∀ (l:List Sp) (i:Nat) (s:Sp),LSs l→l[i]?=some s→LS s
 | [],i,s,_,h=>by simp at h
 | a::l,0,s,hw,h=>by rw [LSs] at hw; cases h; exact hw.1
 | a::l,i + 1,s,hw,h=>by rw [LSs] at hw; exact LSs_get l i s hw.2 (by simpa using h)
theorem LSs.app:∀ {l:List Sp} {s:Sp},LSs l→LS s→LSs (l++[s])
 | [],s,_,h=>by rw [List.nil_append,LSs,LSs]; exact ⟨h,trivial⟩
 | a::l,s,h1,h2=>by
  rw [LSs] at h1;rw [List.cons_append,LSs];exact ⟨h1.1,LSs.app h1.2 h2⟩
theorem LSs_nil:LSs []:=by rw [LSs]; trivial
theorem LS_end (n:Nat):LS (endSp n):=by
 rw [endSp,LS];exact ⟨Nat.zero_le _,Nat.zero_le _,Nat.zero_le _,Nat.zero_le _,LSs_nil,LSs_nil⟩
structure LnP (p:Prg):Prop where
 rl:p.1.length≤100000
 fl:p.2.length≤100000
 r:∀ r ∈ p.1,r.fields.length≤100000
 f:∀ f ∈ p.2,f.params.length≤100000∧LSs f.body∧f.body.length < 100000
theorem sprow_at:∀ (l:List Sp) (i:Nat) (s:Sp),l[i]?=some s→(spRows l)[i]?=some (spRow s)
 | [],i,s,h=>by simp at h
 | a::l,0,s,h=>by rw [spRows]; cases h; rfl
 | a::l,i + 1,s,h=>by rw [spRows,List.getElem?_cons_succ]; exact sprow_at l i s (by simpa using h)
theorem fnr_at (l:List Fn) (i:Nat) (f:Fn) (h:l[i]?=some f):(l.map fnRow)[i]?=some [.str f.name,.int .i64 (f.line:Int),.view 1 (nrow f.params) .shared,.view 13 (spRows (f.body++[endSp f.stop])) .shared]:=by rw [List.getElem?_map,h]; rfl
theorem qbi {α β:Type} {r:QR α} {f:α→List Tk→QR β} {y:β} {t:List Tk} (h:qb r f=.ok (y,t)):∃ x r',r=.ok (x,r')∧f x r'=.ok (y,t):=by
 cases r with
 | error e=>cases h
 | ok p=>exact ⟨p.1,p.2,rfl,h⟩
theorem fargs_ln:∀ (k:Nat) (l:List Xp) (ts:List Tk) (m:List Xp) (r:List Tk),fargs k l ts=.ok (m,r)→m.length + r.length≤l.length + ts.length
 | 0,l,ts,m,r,h=>by rw [fargs] at h; cases h
 | k + 1,l,ts,m,r,h=>by
  rw [fargs] at h;split at h
  ·obtain ⟨x,r1,h1,h⟩:=qbi h;have h2:=qx_lt h1
   have h3:=tail_le ts
   have h4:=fargs_ln k _ r1 m r h;rw [List.length_append,List.length_cons,List.length_nil] at h4;omega
  ·cases h;omega
theorem fcall_ln {ts r:List Tk} {c:List UInt8 × List Xp} (h:fcall ts=.ok (c,r)):c.2.length≤ts.length:=by
 unfold fcall at h;obtain ⟨n,r1,h1,h⟩:=qbi h;have l1:=fname_le ts _ _ h1;obtain ⟨_,r2,h2,h⟩:=qbi h;have l2:=fneed_le _ _ _ _ h2;split at h
 ·cases h;exact Nat.zero_le _
 ·obtain ⟨x,r3,h3,h⟩:=qbi h;have l3:=qx_lt h3;obtain ⟨l,r4,h4,h⟩:=qbi h;have l4:=fargs_ln _ _ _ _ _ h4;rw [List.length_cons,List.length_nil] at l4;obtain ⟨_,r5,h5,h⟩:=qbi h;cases h;show l.length≤_;omega
theorem fval_ln {b:Bool} {ts r:List Tk} {c:List UInt8 × List Xp} (h:fval b ts=.ok (c,r)) (hn:ts.length≤100000):c.2.length≤100000:=by
 unfold fval at h;split at h
 ·exact Nat.le_trans (fcall_ln h) hn
 ·obtain ⟨x,r1,h1,h⟩:=qbi h;cases h;show 1≤_;omega
theorem feff_ln {ts r:List Tk} {m:Sm} (h:feff ts=.ok (m,r)) (hn:ts.length≤100000):m.target.length≤100000∧m.args.length≤100000:=by
 unfold feff at h;split at h
 ·obtain ⟨c,r1,h1,h⟩:=qbi h;cases h;exact ⟨Nat.zero_le _,Nat.le_trans (fcall_ln h1) hn⟩
 ·obtain ⟨y,r1,h1,h⟩:=qbi h;have l1:=qt_le ts _ _ h1;obtain ⟨_,r2,h2,h⟩:=qbi h;have l2:=fneed_le _ _ _ _ h2;split at h
  ·obtain ⟨c,r3,h3,h⟩:=qbi h;cases h;exact ⟨(by show 1≤_; omega),Nat.le_trans (fcall_ln h3) (by omega)⟩
  ·obtain ⟨x,r3,h3,h⟩:=qbi h;cases h;exact ⟨(by show 1≤_; omega),(by show 1≤_; omega)⟩
theorem ln_stm:∀ k:Nat,(∀ d ts s r,ts.length≤100000→fstm k d ts=.ok (s,r)→LS s∧(ts≠[]→r.length < ts.length))∧(∀ d ts l r,ts.length≤100000→fblk k d ts=.ok (l,r)→LSs l∧l.length + r.length≤ts.length) ∧
  (∀ d l0 ts l r,LSs l0→ts.length≤100000→fsts k d l0 ts=.ok (l,r)→LSs l∧l.length + r.length≤l0.length + ts.length)
 | 0=>⟨fun _ _ _ _ _ h=>(by rw [fstm] at h; cases h),fun _ _ _ _ _ h=>(by rw [fblk] at h; cases h),fun _ _ _ _ _ _ _ h=>(by rw [fsts] at h; cases h)⟩
 | k + 1=>by
  obtain ⟨i1,i2,i3⟩:=ln_stm k;have one:(1:Nat)≤100000:=by decide
  have zero:(0:Nat)≤100000:=by decide
  refine ⟨fun d ts s r hn h=>⟨?_,fun h0=>?_⟩,fun d ts l r hn h=>?_,fun d l0 ts l r hl hn h=>?_⟩
  ·by_cases hb:begS (hd ts)=true
   rotate_left
   ·rw [fstm,if_neg hb] at h;cases h
   by_cases h8:8 < d
   ·rw [fstm,if_pos hb,if_pos h8] at h;cases h
   rw [fstm_pos hb h8] at h;have t1:=tail_le ts;split at h
   ·obtain ⟨x,r1,h1,h⟩:=qbi h;cases h;rw [LS];exact ⟨zero,zero,zero,zero,LSs_nil,LSs_nil⟩
   split at h
   ·obtain ⟨x,r1,h1,h⟩:=qbi h;have l1:=qx_lt h1;obtain ⟨b,r2,h2,h⟩:=qbi h;have l2:=i2 _ _ _ _ (by omega) h2;split at h
    ·obtain ⟨e,r3,h3,h⟩:=qbi h;have t2:=tail_le r2
     have l3:=i2 _ _ _ _ (by omega) h3;cases h;rw [LS];exact ⟨zero,one,by omega,by omega,l2.1,l3.1⟩
    ·cases h;rw [LS];exact ⟨zero,one,by omega,zero,l2.1,LSs_nil⟩
   split at h
   ·obtain ⟨x,r1,h1,h⟩:=qbi h;have l1:=qx_lt h1;obtain ⟨b,r2,h2,h⟩:=qbi h;have l2:=i2 _ _ _ _ (by omega) h2;cases h;rw [LS];exact ⟨zero,one,by omega,zero,l2.1,LSs_nil⟩
   split at h
   ·obtain ⟨b,r1,h1,h⟩:=qbi h;have l1:=i2 _ _ _ _ (by omega) h1;obtain ⟨_,r2,h2,h⟩:=qbi h;have l2:r2.length≤r1.length:=by
     unfold fcatch at h2;split at h2
     ·cases h2;exact tail_le r1
     ·cases h2
    obtain ⟨n,r3,h3,h⟩:=qbi h;have l3:=fname_le _ _ _ h3;obtain ⟨e,r4,h4,h⟩:=qbi h;have l4:=i2 _ _ _ _ (by omega) h4;cases h;rw [LS];exact ⟨zero,zero,by omega,by omega,l1.1,l4.1⟩
   split at h
   ·obtain ⟨c,r1,h1,h⟩:=qbi h;obtain ⟨_,r2,h2,h⟩:=qbi h;cases h;rw [LS];exact ⟨zero,fval_ln h1 (by omega),zero,zero,LSs_nil,LSs_nil⟩
   split at h
   ·obtain ⟨c,r1,h1,h⟩:=qbi h;obtain ⟨_,r2,h2,h⟩:=qbi h;cases h;rw [LS];exact ⟨zero,fval_ln h1 (by omega),zero,zero,LSs_nil,LSs_nil⟩
   split at h
   ·obtain ⟨c,r1,h1,h⟩:=qbi h;obtain ⟨_,r2,h2,h⟩:=qbi h;cases h;rw [LS];exact ⟨zero,fval_ln h1 (by omega),zero,zero,LSs_nil,LSs_nil⟩
   obtain ⟨m,r1,h1,h⟩:=qbi h;obtain ⟨_,r2,h2,h⟩:=qbi h;cases h;rw [LS];obtain ⟨q1,q2⟩:=feff_ln h1 hn;exact ⟨q1,q2,zero,zero,LSs_nil,LSs_nil⟩
  ·have:=(fstm_all (k + 1)).1 d ts s r h
   have:=List.length_pos_iff.2 h0;omega
  ·rw [fblk] at h;obtain ⟨_,r1,h1,h⟩:=qbi h;have l1:=fneed_le _ _ _ _ h1;obtain ⟨q1,q2⟩:=i3 d [] r1 l r LSs_nil (by omega) h;rw [List.length_nil] at q2;exact ⟨q1,by omega⟩
  ·rw [fsts] at h;split at h
   ·cases h;have:=tail_le ts;exact ⟨hl,by omega⟩
   ·obtain ⟨s,r1,h1,h⟩:=qbi h;obtain ⟨s1,s2⟩:=i1 d ts s r1 hn h1;have h0:ts≠[]:=fun e=>by
     subst e;cases k with
     | zero=>rw [fstm] at h1; cases h1
     | succ k=>rw [fstm,if_neg (by decide)] at h1; cases h1
    have s3:=s2 h0;obtain ⟨q1,q2⟩:=i3 d (l0++[s]) r1 l r (hl.app s1) (by omega) h;rw [List.length_append,List.length_cons,List.length_nil] at q2;exact ⟨q1,by omega⟩
theorem fmore_ln:∀ (k:Nat) (l:Names) (ts:List Tk) (m:Names) (r:List Tk),fmore k l ts=.ok (m,r)→m.length + r.length≤l.length + ts.length
 | 0,l,ts,m,r,h=>by rw [fmore] at h; cases h
 | k + 1,l,ts,m,r,h=>by
  rw [fmore_eq] at h;split at h
  ·rename_i hs;obtain ⟨x,r1,h1,h⟩:=qbi h;have h2:=fname_le _ _ _ h1
   have h3:ts.tail.length + 1≤ts.length:=by
    cases ts with
    | nil=>exact absurd hs (by decide)
    | cons a b=>exact Nat.le_refl _
   have h4:=fmore_ln k _ r1 m r h;rw [List.length_append,List.length_cons,List.length_nil] at h4;omega
  ·cases h;omega
theorem fnames_ln {ts r:List Tk} {m:Names} (h:fnames ts=.ok (m,r)):m.length≤1 + ts.length:=by
 rw [fnames_eq] at h;obtain ⟨n,r1,h1,h⟩:=qbi h;have l1:=fname_le _ _ _ h1
 have l2:=fmore_ln _ _ _ _ _ h;rw [List.length_cons,List.length_nil] at l2;omega
theorem frecord_ln {ts r:List Tk} {x:Rec} (h:frecord ts=.ok (x,r)) (hn:ts.length≤90000):x.fields.length≤100000:=by
 unfold frecord at h;obtain ⟨n,r1,h1,h⟩:=qbi h;have l1:=fname_le _ _ _ h1;obtain ⟨_,r2,h2,h⟩:=qbi h;have l2:=fneed_le _ _ _ _ h2;obtain ⟨l,r3,h3,h⟩:=qbi h;have l3:=fnames_ln h3;obtain ⟨_,r4,h4,h⟩:=qbi h;cases h;show l.length≤_;omega
theorem ffunc_ln {ts r:List Tk} {x:Fn} (h:ffunc ts=.ok (x,r)) (hn:ts.length≤90000):x.params.length≤100000∧LSs x.body∧x.body.length < 100000:=by
 unfold ffunc at h;have l0:=tail_le ts;obtain ⟨n,r1,h1,h⟩:=qbi h;have l1:=fname_le _ _ _ h1;obtain ⟨_,r2,h2,h⟩:=qbi h;have l2:=fneed_le _ _ _ _ h2;obtain ⟨ps,r3,h3,h⟩:=qbi h;have l3:=fpar_le _ _ _ h3
 have l4:ps.length≤1 + r2.length:=by
  unfold fpar at h3;split at h3
  ·cases h3;exact Nat.zero_le _
  ·exact fnames_ln h3
 obtain ⟨_,r4,h4,h⟩:=qbi h;have l5:=fneed_le _ _ _ _ h4;obtain ⟨b,r5,h5,h⟩:=qbi h;have l6:=(ln_stm _).2.1 _ _ _ _ (by omega) h5;cases h;exact ⟨(by show ps.length≤_; omega),l6.1,(by show b.length < _; omega)⟩
theorem frecs_ln:∀ (k:Nat) (l:List Rec) (ts:List Tk) (m:List Rec) (r:List Tk),ts.length≤90000→(∀ x ∈ l,x.fields.length≤100000)→frecs k l ts=.ok (m,r)→(∀ x ∈ m,x.fields.length≤100000)∧m.length + r.length≤l.length + ts.length
 | 0,l,ts,m,r,_,_,h=>by rw [frecs] at h; cases h
 | k + 1,l,ts,m,r,hn,hl,h=>by
  rw [frecs] at h;split at h
  ·rename_i hs;obtain ⟨x,r1,h1,h⟩:=qbi h;have h3:ts.tail.length + 1≤ts.length:=by
    cases ts with
    | nil=>exact absurd hs (by decide)
    | cons a b=>exact Nat.le_refl _
   have h2:=frecord_l1 _ _ _ h1;obtain ⟨q1,q2⟩:=frecs_ln k (l++[x]) r1 m r (by omega) (fun z hz=>by
    rcases List.mem_append.1 hz with hz|hz
    ·exact hl z hz
    ·rw [List.mem_singleton.1 hz]; exact frecord_ln h1 (by omega)) h
   rw [List.length_append,List.length_cons,List.length_nil] at q2;exact ⟨q1,by omega⟩
  ·cases h;exact ⟨hl,Nat.le_refl _⟩
theorem ffuns_ln:∀ (k:Nat) (l:List Fn) (ts:List Tk) (m:List Fn) (r:List Tk),ts.length≤90000→(∀ x ∈ l,x.params.length≤100000∧LSs x.body∧x.body.length < 100000)→ffuns k l ts=.ok (m,r)→(∀ x ∈ m,x.params.length≤100000∧LSs x.body∧x.body.length < 100000)∧m.length + r.length≤l.length + ts.length
 | 0,l,ts,m,r,_,_,h=>by rw [ffuns] at h; cases h
 | k + 1,l,ts,m,r,hn,hl,h=>by
  rw [ffuns] at h;split at h
  ·rename_i hs;obtain ⟨x,r1,h1,h⟩:=qbi h;have h3:1≤ts.length:=by
    cases ts with
    | nil=>exact absurd hs (by decide)
    | cons a b=>exact Nat.succ_pos _
   have h2:=ffunc_l1 _ _ _ h1;obtain ⟨q1,q2⟩:=ffuns_ln k (l++[x]) r1 m r (by omega) (fun z hz=>by
    rcases List.mem_append.1 hz with hz|hz
    ·exact hl z hz
    ·rw [List.mem_singleton.1 hz]; exact ffunc_ln h1 hn) h
   rw [List.length_append,List.length_cons,List.length_nil] at q2;exact ⟨q1,by omega⟩
  ·cases h;exact ⟨hl,Nat.le_refl _⟩
theorem pparse_ln {s:List UInt8} {p:Prg} (h:pparse s=.ok p):LnP p:=by
 by_cases he:(scan s).2.2=0
 ·rw [pparse_of he] at h;have hs:=scan_small s;cases hf:fprog (scan s).1 with
  | error e=>rw [hf] at h; cases h
  | ok q =>
   rw [hf] at h;cases h;obtain ⟨q,r⟩:=q;unfold fprog at hf;obtain ⟨R,r1,h1,hf⟩:=qbi hf;obtain ⟨a1,a2⟩:=frecs_ln _ _ _ _ _ (by omega) (fun x h=>by cases h) h1;obtain ⟨F,r2,h2,hf⟩:=qbi hf;rw [List.length_nil] at a2;obtain ⟨b1,b2⟩:=ffuns_ln _ _ _ _ _ (by omega) (fun x h=>by cases h) h2;rw [List.length_nil] at b2;split at hf
   ·cases hf;exact ⟨(by show R.length≤_; omega),(by show F.length≤_; omega),a1,b1⟩
   ·cases hf
 ·rw [pparse_err he] at h;cases h
end Go.Proofs
